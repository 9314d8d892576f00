/- history.Record as data; Right. -/
import Derived.Test.YtmajnoefddbflaaDoorProg
import Derived.Test.YtmajnoefddbflaaDoorItm
import Derived.Test.YtmajnoefddbflaaDoorHd
import Derived.Test.YtmajnoefddbflaaDoorDt2
import Derived.WalkKit
import Derived.WalkSpells
import Derived.StillTactics
import Derived.Laws.Pointers
import Derived.Lib.Hide
import Derived.KernelRfl
namespace Go.Proofs.YtmajnoefddbflaaDoor
open Go.RowKit

def Rec.ok (r : Rec) : Bool := decide (1 ≤ r.kind ∧ r.kind ≤ 4) && itemsOk r.before && itemsOk r.after && r.head.ok
def recCells (k : Int) (v1 v2 : Value) (h : Hd) : List Value := .int .i64 k :: v1 :: v2 :: h.cells
theorem recCells_length (k : Int) (v1 v2 : Value) (h : Hd) : (recCells k v1 v2 h).length = 36 := by simp [recCells, Hd.cells_length]
theorem recCells_one (k : Int) (v1 v2 : Value) (h : Hd) (h1 : v1.oneCell' = true) (h2 : v2.oneCell' = true) : ∀ v ∈ recCells k v1 v2 h, v.oneCell' = true := fun v hv => by
  simp only [recCells, List.mem_cons] at hv
  rcases hv with rfl | rfl | rfl | hv
  · rfl
  · exact h1
  · exact h2
  · exact h.one v hv
/-- a slice of items that can be read -/
def ItS (w : World) (A : Option Addr) (n : Nat) (l : List Itm) : Prop := Rd w 37 A n (row l) ∧ l.length = n ∧ n ≤ 1048576
theorem ItS.frm {F : Nat → Prop} {w w' : World} {A : Option Addr} {n : Nat} {l : List Itm} (h : ItS w A n l) (hf : Frm F w w') (hb : ∀ b, bl A = some b → ¬ F b) : ItS w' A n l := ⟨h.1.frm hf hb, h.2⟩
theorem blk_mid3 {w : World} {g t : Nat} {k : Int} {v1 v2 : Value} {h : Hd} (hb : Blk w g t (recCells k v1 v2 h)) : w.rangeAt g 3 h.cells :=
  (show Blk w g t ([.int .i64 k, v1, v2] ++ (h.cells ++ [])) from by rw [List.append_nil]; exact hb).mid rfl
set_option maxRecDepth 100000 in
set_option maxHeartbeats 1000000 in
theorem recRight_any (r : Rec) (A B : Option Addr) (n c m d : Nat) (w : World) (hA : ItS w A n r.before) (hB : ItS w B m r.after) :
    Calls Tryd.prog 29 #[.agg (recCells r.kind (.slice A n c) (.slice B m d) r.head).toArray] w fun e w' => e = .returned (.bool r.ok) ∧ Below w.heap.size w w' := by
  have hb := Blk.new w 29 (recCells r.kind (.slice A n c) (.slice B m d) r.head)
  have hf0 := (Frm.refl (fun _ => False) w).alloc (.cells (recCells r.kind (.slice A n c) (.slice B m d) r.head).toArray 29)
  have hA0 := hA.frm hf0 fun _ _ h => h
  have hB0 := hB.frm hf0 fun _ _ h => h
  have c1 : ((w.alloc (.cells (recCells r.kind (.slice A n c) (.slice B m d) r.head).toArray 29))).cell? ⟨w.heap.size, 1, none⟩ = some (.slice A n c) := hb.cell 1
  have c2 : ((w.alloc (.cells (recCells r.kind (.slice A n c) (.slice B m d) r.head).toArray 29))).cell? ⟨w.heap.size, 2, none⟩ = some (.slice B m d) := hb.cell 2
  have c0 : ((w.alloc (.cells (recCells r.kind (.slice A n c) (.slice B m d) r.head).toArray 29))).cell? ⟨w.heap.size, 0, none⟩ = some (.int .i64 r.kind) := hb.cell 0
  replace hb := Lib.hid hb
  replace hf0 := Lib.hid hf0
  replace hA0 := Lib.hid hA0
  replace hB0 := Lib.hid hB0
  clear hA hB
  by_cases h1 : 1 ≤ r.kind
  · by_cases h4 : r.kind ≤ 4
    · have hok : r.ok = (itemsOk r.before && itemsOk r.after && r.head.ok) := by simp [Rec.ok, h1, h4]
      replace hok := Lib.hid hok
      go_enter Tryd.func29, Tryd.ntmps29
      go_wp2_with fail
      refine (items_any r.before A n c _ hA0.out.1 hA0.out.2.1 hA0.out.2.2).mono ?_
      rintro e w1 ⟨rfl, hbl⟩
      have hf1 := Frm.of_below hbl (fun _ => False)
      have hb1 := hb.out.frm hf1 fun h => h
      have hB1 := hB0.out.frm hf1 fun _ _ h => h
      replace hf1 := Lib.hid (hf0.out.trans hf1 fun _ _ h => h)
      replace hB1 := Lib.hid hB1
      clear c0 c1 c2 hbl
      have c1 : (w1).cell? ⟨w.heap.size, 1, none⟩ = some (.slice A n c) := hb1.cell 1
      have c2 : (w1).cell? ⟨w.heap.size, 2, none⟩ = some (.slice B m d) := hb1.cell 2
      have c0 : (w1).cell? ⟨w.heap.size, 0, none⟩ = some (.int .i64 r.kind) := hb1.cell 0
      replace hb1 := Lib.hid hb1
      cases hbo : itemsOk r.before with
      | false =>
        rw [hbo] at hok
        go_wp2
        go_ret
        refine ⟨?_, hf1.out.below⟩
        rw [hok.out]; rfl
      | true =>
      go_wp2_with fail
      refine (items_any r.after B m d _ hB1.out.1 hB1.out.2.1 hB1.out.2.2).mono ?_
      rintro e w2 ⟨rfl, hbl⟩
      have hf2 := Frm.of_below hbl (fun _ => False)
      have hb2 := hb1.out.frm hf2 fun h => h
      replace hf2 := Lib.hid (hf1.out.trans hf2 fun _ _ h => h)
      clear c0 c1 c2 hbl
      have c1 : (w2).cell? ⟨w.heap.size, 1, none⟩ = some (.slice A n c) := hb2.cell 1
      have c2 : (w2).cell? ⟨w.heap.size, 2, none⟩ = some (.slice B m d) := hb2.cell 2
      have c0 : (w2).cell? ⟨w.heap.size, 0, none⟩ = some (.int .i64 r.kind) := hb2.cell 0
      have c3 := blk_mid3 hb2
      have h33 := r.head.cells_length
      replace hb2 := Lib.hid hb2
      cases hao : itemsOk r.after with
      | false =>
        rw [hbo, hao] at hok
        go_wp2
        go_ret
        refine ⟨?_, hf2.out.below⟩
        rw [hok.out]; rfl
      | true =>
      rw [hbo, hao] at hok
      go_wp2_with refine list_loadg 27 c3 Tryd.underlying27 rfl (by rw [h33]; kernel_rfl) rfl rfl rfl ?_
      refine (headRight_any r.head _).mono ?_
      rintro e w3 ⟨rfl, hbl⟩
      replace hf2 := Lib.hid (hf2.out.trans (Frm.of_below hbl (fun _ => False)) fun _ _ h => h)
      clear hbl
      go_wp2
      go_ret
      refine ⟨?_, hf2.out.below⟩
      rw [hok.out]; rfl
    · have hok : r.ok = false := by simp [Rec.ok, h4]
      replace hok := Lib.hid hok
      go_enter Tryd.func29, Tryd.ntmps29
      go_wp2
      go_ret
      refine ⟨?_, hf0.out.below⟩
      rw [hok.out]; rfl
  · have hok : r.ok = false := by simp [Rec.ok, h1]
    replace hok := Lib.hid hok
    go_enter Tryd.func29, Tryd.ntmps29
    go_wp2
    go_ret
    refine ⟨?_, hf0.out.below⟩
    rw [hok.out]; rfl
end Go.Proofs.YtmajnoefddbflaaDoor
