/- anchor.Register: its small methods. -/
import Derived.Test.YtmajnoefddbflaaDoorProg
import Derived.Test.YtmajnoefddbflaaDoorHis
import Derived.Test.YtmajnoefddbflaaDoorEqu
import Derived.WalkKit
import Derived.WalkSpells
import Derived.StillTactics
import Derived.Laws.Pointers
import Derived.Lib.Hide
import Derived.KernelRfl
namespace Go.Proofs.YtmajnoefddbflaaDoor
open Go.RowKit

def RegV (w : World) (g : Nat) (m n : Mrk) (b : Bool) : Prop := Blk w g 70 (m.cells ++ (n.cells ++ [.bool b]))
theorem RegV.next {w : World} {g : Nat} {m n : Mrk} {b : Bool} (h : RegV w g m n b) (n' : Mrk) : RegV (w.setCells g 33 n'.cells) g m n' b := by
  have := Blk.setCells (o := 33) (vs := n'.cells) h (by simp [m.len, n.len, n'.len])
  rw [List.take_append_of_le_length (by rw [m.len]; exact Nat.le_refl _), List.take_of_length_le (by rw [m.len]; exact Nat.le_refl _), List.drop_append, List.drop_of_length_le (by rw [m.len]; omega), m.len, n'.len, List.nil_append,
    List.drop_append, List.drop_of_length_le (by rw [n.len]; omega), n.len] at this
  simpa [RegV, List.append_assoc] using this
theorem RegV.mark {w : World} {g : Nat} {m n : Mrk} {b : Bool} (h : RegV w g m n b) (m' : Mrk) : RegV (w.setCells g 0 m'.cells) g m' n b := by
  exact Blk.setCells0 h (by rw [m.len, m'.len])
theorem RegV.busy {w : World} {g : Nat} {m n : Mrk} {b : Bool} (h : RegV w g m n b) (b' : Bool) : RegV (w.setCell ⟨g, 66, none⟩ (.bool b')) g m n b' := by
  have := Blk.set_ h 66 (.bool b')
  rw [List.set_append_right _ _ (by rw [m.len]; omega), m.len, List.set_append_right _ _ (by rw [n.len]; omega), n.len] at this
  exact this
theorem RegV.c66 {w : World} {g : Nat} {m n : Mrk} {b : Bool} (h : RegV w g m n b) : w.cell? ⟨g, 66, none⟩ = some (.bool b) := by
  have := Blk.cell h 66
  rw [List.getElem?_append_right (by rw [m.len]; omega), m.len, List.getElem?_append_right (by rw [n.len]; omega), n.len] at this
  exact this
theorem build_zero (w : World) : (Instr.build 47 #[]).run Tryd.prog w = .ok (.agg Mrk.zero.cells.toArray) w := by kernel_rfl
set_option maxRecDepth 100000 in
set_option maxHeartbeats 400000 in
theorem over_any (g : Nat) (m n : Mrk) (b : Bool) (w : World) (h : RegV w g m n b) : Calls Tryd.prog 34 #[.pointer (some ⟨g, 0, none⟩)] w fun e w' => e = .returned (.tuple #[]) ∧ RegV w' g m Mrk.zero false ∧ Frm (fun k => k = g) w w' := by
  obtain ⟨z, hz0⟩ : ∃ z, z = Mrk.zero := ⟨_, rfl⟩
  have hbz := fun w => build_zero w
  rw [← hz0] at hbz ⊢
  have h2 := h.next z
  have hth := Blk.there' h 33 33 (by simp [m.len, n.len])
  have hz : z.cells.length = 33 := z.len
  have hf1 := (Frm.refl (fun k => k = g) w).setCells (g := g) (fun _ => rfl) 33 z.cells
  have hc := h2.c66
  have hzz := Blk.frozen h2 66
  replace h := Lib.hid h
  replace h2 := Lib.hid h2
  replace hf1 := Lib.hid hf1
  replace hz0 := Lib.hid hz0
  go_enter Tryd.func34, Tryd.ntmps34
  go_wp2_with first
    | refine list_build0 (hbz _) rfl rfl ?_
    | (refine list_store (cs := z.cells) 47 (by rw [hz]; exact hth) (by rw [hz]; kernel_rfl) (Mrk.one _) rfl rfl rfl rfl ?_)
  go_end0
  exact ⟨rfl, h2.out.busy false, hf1.out.setCell (p := ⟨g, 66, none⟩) (fun _ => rfl) _⟩
end Go.Proofs.YtmajnoefddbflaaDoor
