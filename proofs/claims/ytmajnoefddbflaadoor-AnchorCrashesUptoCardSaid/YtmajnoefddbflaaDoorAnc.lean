/- anchor: New, Of, Mark. -/
import Derived.Test.YtmajnoefddbflaaDoorProg
import Derived.Test.YtmajnoefddbflaaDoorReg
import Derived.Test.YtmajnoefddbflaaDoorAp6
import Derived.WalkKit
import Derived.WalkSpells
import Derived.StillTactics
import Derived.Laws.Pointers
import Derived.Lib.Hide
import Derived.KernelRfl
namespace Go.Proofs.YtmajnoefddbflaaDoor
open Go.RowKit

set_option maxRecDepth 100000 in
set_option maxHeartbeats 400000 in
theorem anchorNew_any (w : World) : Calls Tryd.prog 7 #[] w fun e w' => e = .returned (.pointer (some ⟨w.heap.size, 0, none⟩)) ∧ RegV w' w.heap.size Mrk.zero Mrk.zero false ∧ Below w.heap.size w w' := by
  go_enter Tryd.func7, Tryd.ntmps7
  go_wp2
  go_ret
  have hz : Tryd.zeroCells70 = (Mrk.zero.cells ++ (Mrk.zero.cells ++ [Value.bool false])).toArray := by kernel_rfl
  rw [hz]
  exact ⟨rfl, Blk.new w _ _, ((Frm.refl _ w).alloc _).below⟩
theorem foldl_setO (o : Nat) : ∀ (vs : List Value) (k : Nat) (zs : Array Value), o + k + vs.length ≤ zs.size → (vs.zipIdx k).foldl (fun cs x => cs.setIfInBounds (o + x.2) x.1) zs = (zs.toList.take (o + k) ++ vs ++ zs.toList.drop (o + k + vs.length)).toArray
  | [], k, zs, h => by simp
  | v :: vs, k, zs, h => by
    simp only [List.length_cons] at h
    rw [List.zipIdx_cons, List.foldl_cons, foldl_setO o vs (k + 1) _ (by simp; omega)]
    congr 1
    have hk : o + k < zs.toList.length := by simp; omega
    rw [Array.toList_setIfInBounds, show o + (k + 1) = o + k + 1 by omega, List.take_succ_eq_append_getElem (by simpa using hk), List.getElem_set_self, List.take_set_of_le (Nat.le_refl _), List.drop_set_of_lt (by omega)]
    simp [Nat.add_assoc, Nat.add_comm, Nat.add_left_comm]
theorem mark_fold (n : Int) (t : List Int) (ht : t.length = 32) : (nums .u8 t).zipIdx.foldl (fun cs x => cs.setIfInBounds (1 + x.2) x.1) (.int .i64 n :: nums .u8 (List.replicate 32 0)).toArray = (Mrk.cells ⟨n, t, ht⟩).toArray := by
  rw [foldl_setO 1 (nums .u8 t) 0 _ (by simp [nums, ht])]
  congr 1
  rw [List.drop_of_length_le (by simp [nums, ht])]
  simp [Mrk.cells]
/-- the mark of a history -/
def ofM (n : Nat) (hs : List (List Int)) (h : (topOf hs).length = 32) : Mrk := ⟨n, topOf hs, h⟩
set_option maxRecDepth 100000 in
set_option maxHeartbeats 1000000 in
theorem of_any (B0 g : Nat) (A : Option Addr) (c : Nat) (B : Option Addr) (d : Nat) (rs : List Rec) (hs : List (List Int)) (w : World) (hH : HistV B0 w g A c B d rs hs) (m : Mrk) (hm : m.count = rs.length ∧ m.top = topOf hs) :
    Calls Tryd.prog 18 #[.pointer (some ⟨g, 0, none⟩)] w fun e w' => e = .returned (.agg m.cells.toArray) ∧ Below w.heap.size w w' := by
  obtain ⟨count, top, ht⟩ := m
  obtain ⟨rfl, rfl⟩ := hm
  have hn := hH.n
  have hf0 := (Frm.refl (fun _ => False) w).alloc (.cells Mrk.zero.cells.toArray 47)
  have hz0 := Blk.new w 47 Mrk.zero.cells
  have h1 := hH.quiet hf0
  have hs1 : (w.alloc (.cells Mrk.zero.cells.toArray 47)).heap.size = w.heap.size + 1 := by simp
  replace hH := Lib.hid hH
  replace h1 := Lib.hid h1
  replace hf0 := Lib.hid hf0
  replace hz0 := Lib.hid hz0
  replace hs1 := Lib.hid hs1
  go_enter Tryd.func18, Tryd.ntmps18
  go_wp2_with fail
  refine (histLen_any g A rs.length c _ _ h1.out.blk).mono ?_
  rintro e w1 ⟨rfl, hbl⟩
  have hfb := Frm.of_below hbl (fun _ => False)
  have h2 := h1.out.quiet hfb
  have hz1 := hz0.out.frm hfb fun h => h
  have hf1 := hf0.out.trans hfb fun _ _ h => h
  have hs2 := hfb.size
  replace h2 := Lib.hid h2
  replace hz1 := Lib.hid hz1
  replace hf1 := Lib.hid hf1
  clear hbl hfb
  go_wp2_with fail
  refine (histTop_any g _ B rs.length d hs _ h2.out.blk h2.out.chain.rd h2.out.hl h2.out.h32 (by omega)).mono ?_
  rintro e w2 ⟨rfl, hbl⟩
  have hfb := Frm.of_below hbl (fun _ => False)
  have hz2 := hz1.out.frm hfb fun h => h
  have hf2 := hf1.out.trans hfb fun _ _ h => h
  have ht' : (topOf hs).length = 32 := ht
  rw [show hs.getLast?.getD (List.replicate 32 0) = topOf hs from rfl]
  obtain ⟨t, htt⟩ : ∃ t, t = topOf hs := ⟨_, rfl⟩
  simp only [← htt] at ht ht' ⊢
  have hml : (Mrk.cells ⟨(rs.length : Int), t, ht⟩).length = 33 := Mrk.len _
  have hth := hz2.there' 0 33 (by rw [Mrk.len]; exact Nat.le_refl _)
  unfold hashV
  have hnl : (nums .u8 t).length = 32 := by rw [nums_length]; exact ht'
  replace hz2 := Lib.hid hz2
  replace hf2 := Lib.hid hf2
  replace htt := Lib.hid htt
  clear hbl hfb
  go_wp2_with (refine list_store (cs := Mrk.cells ⟨(rs.length : Int), t, ht⟩) 47 (by rw [hml]; exact hth) (by rw [hml]; kernel_rfl) (Mrk.one _) rfl rfl rfl (congrArg Value.agg (mark_fold _ t ht')) ?_)
  have hbF : Blk (w2.setCells w.heap.size 0 (Mrk.cells ⟨(rs.length : Int), t, ht⟩)) w.heap.size 47 (Mrk.cells ⟨(rs.length : Int), t, ht⟩) := by
    have := hz2.out.setCells (o := 0) (vs := Mrk.cells ⟨(rs.length : Int), t, ht⟩) (by rw [hml, Mrk.len]; exact Nat.le_refl _)
    rw [hml, List.drop_of_length_le (by rw [Mrk.len]; exact Nat.le_refl _)] at this
    simpa using this
  refine bodyPost_ret (results_cell_range rfl _ _ (b := w.heap.size) (o := 0) (cs := Mrk.cells ⟨(rs.length : Int), t, ht⟩) rfl hbF.range Tryd.underlying47 rfl (by rw [hml]; kernel_rfl)) rfl ?_
  refine ⟨?_, (hf2.out.setCells (fun h => by omega) 0 _).below⟩
  have := htt.out
  subst this
  rfl
theorem RegV.mk0 {w : World} {g : Nat} {m n : Mrk} {b : Bool} (h : RegV w g m n b) : w.rangeAt g 0 m.cells := Blk.pre h
theorem RegV.mk33 {w : World} {g : Nat} {m n : Mrk} {b : Bool} (h : RegV w g m n b) : w.rangeAt g 33 n.cells := Blk.mid h m.len
theorem RegV.frm {w w' : World} {F : Nat → Prop} {g : Nat} {m n : Mrk} {b : Bool} (h : RegV w g m n b) (hf : Frm F w w') (hF : ¬ F g) : RegV w' g m n b := Blk.frm h hf hF
set_option maxRecDepth 100000 in
set_option maxHeartbeats 1000000 in
theorem regMark_any (g : Nat) (m n : Mrk) (b : Bool) (w : World) (h : RegV w g m n b) : Calls Tryd.prog 17 #[.pointer (some ⟨g, 0, none⟩)] w fun e w' => e = .returned (.agg m.cells.toArray) ∧ Below w.heap.size w w' := by
  have hf0 := (Frm.refl (fun _ => False) w).alloc (.cells Mrk.zero.cells.toArray 47)
  have hz0 := Blk.new w 47 Mrk.zero.cells
  have h1 := (h.frm hf0 fun h => h).mk0
  have hml := m.len
  have hth := hz0.there' 0 33 (by rw [Mrk.len]; exact Nat.le_refl _)
  have hbF : Blk ((w.alloc (.cells Mrk.zero.cells.toArray 47)).setCells w.heap.size 0 m.cells) w.heap.size 47 m.cells := by
    have := hz0.setCells (o := 0) (vs := m.cells) (by rw [hml, Mrk.len]; exact Nat.le_refl _)
    rw [hml, List.drop_of_length_le (by rw [Mrk.len]; exact Nat.le_refl _)] at this
    simpa using this
  have hfF := hf0.setCells (g := w.heap.size) (fun h => by omega) 0 m.cells
  replace hf0 := Lib.hid hf0
  replace hz0 := Lib.hid hz0
  replace hbF := Lib.hid hbF
  replace hfF := Lib.hid hfF
  replace h := Lib.hid h
  go_enter Tryd.func17, Tryd.ntmps17
  go_wp2_with first
    | refine list_load (cs := m.cells) 47 h1 Tryd.underlying47 rfl (by rw [hml]; kernel_rfl) rfl rfl rfl ?_
    | refine list_store (cs := m.cells) 47 (by rw [hml]; exact hth) (by rw [hml]; kernel_rfl) m.one rfl rfl rfl rfl ?_
  refine bodyPost_ret (results_cell_range rfl _ _ (b := w.heap.size) (o := 0) (cs := m.cells) rfl (show Blk _ _ _ _ from hbF.out).range Tryd.underlying47 rfl (by rw [hml]; kernel_rfl)) rfl ?_
  exact ⟨rfl, hfF.out.below⟩
end Go.Proofs.YtmajnoefddbflaaDoor
