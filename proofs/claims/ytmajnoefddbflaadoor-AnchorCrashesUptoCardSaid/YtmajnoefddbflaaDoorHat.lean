/- history.History: At, Now. -/
import Derived.Test.YtmajnoefddbflaaDoorProg
import Derived.Test.YtmajnoefddbflaaDoorHv
import Derived.WalkKit
import Derived.WalkSpells
import Derived.StillTactics
import Derived.Laws.Pointers
import Derived.Lib.Hide
import Derived.KernelRfl
namespace Go.Proofs.YtmajnoefddbflaaDoor
open Go.RowKit

theorem build_rec0 (w : World) : (Instr.build 29 #[]).run Tryd.prog w = .ok (.agg zeroRec.toArray) w := by kernel_rfl
set_option maxRecDepth 100000 in
set_option maxHeartbeats 1000000 in
theorem at_none (g : Nat) (i : Int) (hi : i < 0) (w : World) :
    Calls Tryd.prog 35 #[.pointer (some ⟨g, 0, none⟩), .int .i64 i] w fun e w' => e = .returned (.tuple #[.agg zeroRec.toArray, .bool false]) ∧ Below w.heap.size w w' := by
  obtain ⟨z, hz0⟩ : ∃ z, z = zeroRec := ⟨_, rfl⟩
  have hbz := fun w => build_rec0 w
  have hz1 := Blk.new w 29 zeroRec
  have hzl : zeroRec.length = 36 := recCells_length ..
  have ho : ∀ v ∈ zeroRec, v.oneCell' = true := recCells_one _ _ _ _ rfl rfl
  have hth := hz1.there' 0 36 (by rw [hzl]; exact Nat.le_refl _)
  have hf0 := (Frm.refl (fun _ => False) w).alloc (.cells zeroRec.toArray 29)
  rw [← hz0] at hbz hzl ho ⊢
  have hbF : Blk ((w.alloc (.cells zeroRec.toArray 29)).setCells w.heap.size 0 z) w.heap.size 29 z := by
    have := hz1.setCells (o := 0) (vs := z) (by rw [← hz0]; omega)
    rw [List.drop_of_length_le (by rw [← hz0]; omega)] at this
    simpa using this
  have hfF := hf0.setCells (g := w.heap.size) (fun h => by omega) 0 z
  replace hz1 := Lib.hid hz1
  replace hf0 := Lib.hid hf0
  replace hz0 := Lib.hid hz0
  replace hbF := Lib.hid hbF
  replace hfF := Lib.hid hfF
  go_enter Tryd.func35, Tryd.ntmps35
  go_wp2_with first
    | refine list_build0 (hbz _) rfl rfl ?_
    | refine list_store (cs := z) 29 (by rw [hzl]; exact hth) (by rw [hzl]; kernel_rfl) ho rfl rfl rfl rfl ?_
  refine bodyPost_ret (results_cell_tmp rfl _ _ (b := w.heap.size) (o := 0) (cs := z) rfl (show Blk _ _ _ _ from hbF.out).range Tryd.underlying29 rfl (by rw [hzl]; kernel_rfl)) rfl ?_
  exact ⟨rfl, hfF.out.below⟩
set_option maxRecDepth 100000 in
set_option maxHeartbeats 1000000 in
theorem at_any (B0 g : Nat) (A : Option Addr) (c : Nat) (B : Option Addr) (d : Nat) (rs : List Rec) (hs : List (List Int)) (k : Nat) (hk : k < rs.length) (w : World) (h : HistV B0 w g A c B d rs hs) :
    Calls Tryd.prog 35 #[.pointer (some ⟨g, 0, none⟩), .int .i64 k] w fun e w' => ∃ v1 v2, e = .returned (.tuple #[.agg (recCells rs[k].kind v1 v2 rs[k].head).toArray, .bool true]) ∧ ItV B0 w' v1 rs[k].before ∧ ItV B0 w' v2 rs[k].after ∧ Below w.heap.size w w' := by
  obtain ⟨css, ho, hr⟩ := h.recs
  have hkc : k < css.length := by rw [hr.len]; exact hk
  have hn := h.n
  have hrk := hr.get k hkc hk
  obtain ⟨v1, v2, hcs, hv1, hv2⟩ := hrk.rv
  obtain ⟨A1, c1, rfl, hi1, _⟩ := hv1.it
  obtain ⟨A2, c2, rfl, hi2, _⟩ := hv2.it
  obtain ⟨r, hr0⟩ : ∃ r, r = rs[k] := ⟨_, rfl⟩
  rw [← hr0] at hcs hi1 hi2 ⊢
  obtain ⟨b, rfl⟩ := Own.someB ho (by omega)
  obtain ⟨b', o', e', hrow⟩ := ho.rd.2 (by omega)
  injection e' with e'; injection e' with e1 e2
  subst e1 e2
  have hcell := range_flat css 36 hr.all36 0 k hkc hrow
  rw [hcs, Nat.zero_add] at hcell
  have hf0 := (Frm.refl (fun _ => False) w).alloc (.cells zeroRec.toArray 29)
  have hcell1 := range_frm hcell hf0 fun h => h
  have hg1 : ∀ o, (w.alloc o).cell? ⟨g, 0, none⟩ = some (.slice (some ⟨b, 0, none⟩) rs.length c) := fun o => (h.blk.alloc o).cell 0
  have hi1' := hi1.frm hf0 fun _ _ h => h
  have hi2' := hi2.frm hf0 fun _ _ h => h
  have hz1 := Blk.new w 29 zeroRec
  have hzl : zeroRec.length = 36 := recCells_length ..
  have hl36 := recCells_length r.kind (.slice A1 r.before.length c1) (.slice A2 r.after.length c2) r.head
  have hkz : (k : Int) < rs.length := by omega
  have hk0 : ¬ (rs.length : Int) ≤ k := by omega
  have hkn : ¬ (k : Int) < 0 := by omega
  have hn1 : r.before.length ≤ 1048576 := hi1.2.2
  have hn2 : r.after.length ≤ 1048576 := hi2.2.2
  replace hf0 := Lib.hid hf0
  replace hi1' := Lib.hid hi1'
  replace hi2' := Lib.hid hi2'
  replace hz1 := Lib.hid hz1
  replace hr0 := Lib.hid hr0
  replace hzl := Lib.hid hzl
  clear hrow hcell ho hr h hcs hv1 hv2 hi1 hi2 hrk
  go_enter Tryd.func35, Tryd.ntmps35
  go_wp2_with refine list_load 29 hcell1 Tryd.underlying29 rfl (by rw [hl36]; kernel_rfl) rfl rfl rfl ?_
  have hcp := copied_any r A1 A2 r.before.length c1 r.after.length c2 _ hi1'.out hi2'.out
  refine hcp.mono ?_
  rintro e w1 ⟨v1, v2, rfl, hm1, hm2, hbl⟩
  have hfb := Frm.of_below hbl (fun _ => False)
  have hz2 := hz1.out.frm hfb fun h => h
  have hf1 := hf0.out.trans hfb fun _ _ h => h
  have hl1 := recCells_length r.kind v1 v2 r.head
  have h1 := recCells_one r.kind v1 v2 r.head hm1.one hm2.one
  have hth := hz2.there' 0 36 (by rw [hzl.out]; exact Nat.le_refl _)
  replace hm1 := Lib.hid hm1
  replace hm2 := Lib.hid hm2
  replace hz2 := Lib.hid hz2
  replace hf1 := Lib.hid hf1
  clear hbl hfb hcp hg1 hcell1
  go_wp2_with refine list_store 29 (by rw [hl1]; exact hth) (by rw [hl1]; kernel_rfl) h1 rfl rfl rfl rfl ?_
  have hbF : Blk (w1.setCells w.heap.size 0 (recCells r.kind v1 v2 r.head)) w.heap.size 29 (recCells r.kind v1 v2 r.head) := by
    have := hz2.out.setCells (o := 0) (vs := recCells r.kind v1 v2 r.head) (by rw [hl1, hzl.out]; exact Nat.le_refl _)
    rw [hl1, List.drop_of_length_le (by rw [hzl.out]; exact Nat.le_refl _)] at this
    simpa using this
  have hfF : Frm (fun k => k = w.heap.size) w1 (w1.setCells w.heap.size 0 (recCells r.kind v1 v2 r.head)) := (Frm.refl (fun k => k = w.heap.size) w1).setCells (fun _ => rfl) 0 _
  refine bodyPost_ret (results_cell_tmp rfl _ _ (b := w.heap.size) (o := 0) (cs := recCells r.kind v1 v2 r.head) rfl hbF.range Tryd.underlying29 rfl (by rw [hl1]; kernel_rfl)) rfl ?_
  have hsz : (w.alloc (.cells zeroRec.toArray 29)).heap.size = w.heap.size + 1 := by simp
  refine ⟨v1, v2, rfl, (hm1.out.frm hfF fun k hk => ?_).itv hn1, (hm2.out.frm hfF fun k hk => ?_).itv hn2, (hf1.out.trans hfF fun b hb h => by omega).below⟩
  · rw [hsz]; omega
  · rw [hsz]; omega
/-- what is installed behind records -/
def nowOf (rs : List Rec) : List Itm := match rs.getLast? with
  | none => []
  | some r => r.after
theorem at_last (B0 g : Nat) (A : Option Addr) (c : Nat) (B : Option Addr) (d : Nat) (rs : List Rec) (hs : List (List Int)) (w : World) (h : HistV B0 w g A c B d rs hs) (i : Int) (hi : i = (rs.length : Int) - 1) :
    Calls Tryd.prog 35 #[.pointer (some ⟨g, 0, none⟩), .int .i64 i] w fun e w' => ∃ k v1 v2 hd bb, e = .returned (.tuple #[.agg (recCells k v1 v2 hd).toArray, .bool bb]) ∧ v1.oneCell' = true ∧ ItV B0 w' v2 (nowOf rs) ∧ Below w.heap.size w w' := by
  rcases Nat.eq_zero_or_pos rs.length with h0 | h0
  · have hnil : rs = [] := List.eq_nil_of_length_eq_zero h0
    subst hnil
    refine (at_none g i (by simp at hi; omega) w).mono ?_
    rintro e w2 ⟨rfl, hbl⟩
    exact ⟨_, _, _, _, _, rfl, rfl, ItV.nil _ _, hbl⟩
  · obtain ⟨k, hk⟩ : ∃ k, k + 1 = rs.length := ⟨rs.length - 1, by omega⟩
    have hlt : k < rs.length := by omega
    have hnow : nowOf rs = rs[k].after := by
      rw [nowOf, List.getLast?_eq_getElem?, show rs.length - 1 = k by omega, List.getElem?_eq_getElem hlt]
    rw [show i = (k : Int) by omega]
    refine (at_any B0 g A c B d rs hs k hlt w h).mono ?_
    rintro e w2 ⟨v1, v2, rfl, h1, h2, hbl⟩
    exact ⟨_, v1, v2, _, _, rfl, h1.one, by rw [hnow]; exact h2, hbl⟩
set_option maxRecDepth 100000 in
set_option maxHeartbeats 1000000 in
theorem now_any (B0 g : Nat) (A : Option Addr) (c : Nat) (B : Option Addr) (d : Nat) (rs : List Rec) (hs : List (List Int)) (w : World) (h : HistV B0 w g A c B d rs hs) :
    Calls Tryd.prog 15 #[.pointer (some ⟨g, 0, none⟩)] w fun e w' => ∃ v, e = .returned v ∧ ItV B0 w' v (nowOf rs) ∧ Below w.heap.size w w' := by
  have hn := h.n
  have hbk := h.blk
  have e1 : IntKind.i64.wrap ((rs.length : Int) - 1) = (rs.length : Int) - 1 := IntWalk.i64_in _ (by omega)
  obtain ⟨n, hnn⟩ : ∃ n, n = rs.length := ⟨_, rfl⟩
  rw [← hnn] at hbk e1 hn
  replace h := Lib.hid h
  replace hbk := Lib.hid hbk
  replace hnn := Lib.hid hnn
  go_enter Tryd.func15, Tryd.ntmps15
  go_wp2_with fail
  refine (histLen_any g A n c (.slice B n d) w hbk.out).mono ?_
  rintro e w1 ⟨rfl, hbl⟩
  have hf1 := Frm.of_below hbl (fun _ => False)
  have h1 := h.out.quiet hf1
  replace h1 := Lib.hid h1
  replace hf1 := Lib.hid hf1
  clear hbl
  go_wp2_with fail
  refine (at_last B0 g A c B d rs hs w1 h1.out _ (by rw [← hnn.out])).mono ?_
  rintro e w2 ⟨k, v1, v2, hd, bb, rfl, ho1, hv, hbl⟩
  have hf2 := hf1.out.trans (Frm.of_below hbl (fun _ => False)) fun _ _ h => h
  have hl1 := recCells_length k v1 v2 hd
  have hone := recCells_one k v1 v2 hd ho1 hv.one
  have hz1 := Blk.new w2 29 zeroRec
  have hzl : zeroRec.length = 36 := recCells_length ..
  have hth := hz1.there' 0 36 (by rw [hzl]; exact Nat.le_refl _)
  have hbF : Blk ((w2.alloc (.cells zeroRec.toArray 29)).setCells w2.heap.size 0 (recCells k v1 v2 hd)) w2.heap.size 29 (recCells k v1 v2 hd) := by
    have := hz1.setCells (o := 0) (vs := recCells k v1 v2 hd) (by rw [hl1, hzl]; exact Nat.le_refl _)
    rw [hl1, List.drop_of_length_le (by rw [hzl]; exact Nat.le_refl _)] at this
    simpa using this
  have hfF : Frm (fun _ => False) w2 ((w2.alloc (.cells zeroRec.toArray 29)).setCells w2.heap.size 0 (recCells k v1 v2 hd)) := ((Frm.refl (fun _ => False) w2).alloc _).setCells (fun h => by omega) 0 _
  replace hf2 := Lib.hid hf2
  replace hv := Lib.hid hv
  replace hz1 := Lib.hid hz1
  replace hzl := Lib.hid hzl
  replace hbF := Lib.hid hbF
  replace hfF := Lib.hid hfF
  clear hbl
  obtain ⟨wq, hwq⟩ : ∃ wq, wq = (w2.alloc (.cells zeroRec.toArray 29)).setCells w2.heap.size 0 (recCells k v1 v2 hd) := ⟨_, rfl⟩
  rw [← hwq] at hbF hfF
  have c2 : wq.cell? ⟨w2.heap.size, 2, none⟩ = some v2 := hbF.out.cell 2
  replace hwq := Lib.hid hwq
  go_wp2_with (refine list_store 29 (by rw [hl1]; exact hth) (by rw [hl1]; kernel_rfl) hone rfl rfl rfl rfl ?_; generalize hwp : World.setCells _ _ _ _ = wp; obtain rfl : wp = wq := (by rw [← hwp, hwq.out]; rfl); clear hwp hth)
  go_ret
  exact ⟨v2, rfl, hv.out.frm hfF.out (safe_false _ _), (hf2.out.trans hfF.out fun _ _ h => h).below⟩
end Go.Proofs.YtmajnoefddbflaaDoor
