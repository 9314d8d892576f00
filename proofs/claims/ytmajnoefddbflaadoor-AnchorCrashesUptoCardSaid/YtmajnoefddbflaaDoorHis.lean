/- history.History: New, Len, Top. -/
import Derived.Test.YtmajnoefddbflaaDoorLb
import Derived.Test.YtmajnoefddbflaaDoorProg
import Derived.Test.YtmajnoefddbflaaDoorHd
import Derived.Test.YtmajnoefddbflaaDoorTrc
import Derived.WalkKit
import Derived.WalkSpells
import Derived.StillTactics
import Derived.Laws.Pointers
import Derived.Lib.Hide
import Derived.KernelRfl
namespace Go.Proofs.YtmajnoefddbflaaDoor
open Go.RowKit

set_option maxRecDepth 100000 in
set_option maxHeartbeats 400000 in
theorem histNew_any (w : World) : Calls Tryd.prog 8 #[] w fun e w' => e = .returned (.pointer (some ⟨w.heap.size, 0, none⟩)) ∧ Blk w' w.heap.size 73 [.slice none 0 0, .slice none 0 0] ∧ Below w.heap.size w w' := by
  go_enter Tryd.func8, Tryd.ntmps8
  go_wp2
  go_ret
  exact ⟨rfl, Blk.new w _ [_, _], ((Frm.refl _ w).alloc _).below⟩
set_option maxRecDepth 100000 in
set_option maxHeartbeats 400000 in
theorem histLen_any (g : Nat) (A : Option Addr) (n c : Nat) (v : Value) (w : World) (hb : Blk w g 73 [.slice A n c, v]) : Calls Tryd.prog 24 #[.pointer (some ⟨g, 0, none⟩)] w fun e w' => e = .returned (.int .i64 n) ∧ Below w.heap.size w w' := by
  have hc := hb.cell 0
  simp only [List.getElem?_cons_zero] at hc
  replace hb := Lib.hid hb
  go_enter Tryd.func24, Tryd.ntmps24
  go_wp2
  go_ret
  exact ⟨rfl, Below.refl _ _⟩
theorem there_frm {F : Nat → Prop} {w w' : World} {b o n : Nat} (h : w.there b o n) (hf : Frm F w w') (hb : ¬ F b) : w'.there b o n := fun j hj => by
  obtain ⟨h1, h2⟩ := h j hj
  obtain ⟨v, hv⟩ := Option.isSome_iff_exists.1 h1
  have hlt : b < w.heap.size := World.block_lt_of_cell? w _ hv
  exact ⟨by rw [hf.cell hv hb]; rfl, hf.frozen h2 hlt hb⟩
/-- a row of hashes -/
def hrow (hs : List (List Int)) : List Value := hs.flatMap (nums .u8)
theorem range_rowL {α : Type} (f : α → List Value) (sz : Nat) {w : World} {b : Nat} : ∀ (l : List α) (_ : ∀ a ∈ l, (f a).length = sz) (o k : Nat) (hk : k < l.length), w.rangeAt b o (l.flatMap f) → w.rangeAt b (o + k * sz) (f l[k])
  | x :: l, _, o, 0, _, h => fun j v hv => by
    have hj : j < (f x).length := (List.getElem?_eq_some_iff.1 hv).1
    have := h j v (by rw [List.flatMap_cons, List.getElem?_append_left hj]; exact hv)
    simpa using this
  | x :: l, hsz, o, k + 1, hk, h => by
    have hx := hsz x (List.mem_cons_self ..)
    have h2 : w.rangeAt b (o + sz) (l.flatMap f) := fun j v hv => by
      have := h (sz + j) v (by rw [List.flatMap_cons, List.getElem?_append_right (by rw [hx]; omega), hx, Nat.add_sub_cancel_left]; exact hv)
      rw [Nat.add_assoc]; exact this
    have := range_rowL f sz l (fun a ha => hsz a (List.mem_cons_of_mem _ ha)) (o + sz) k (by simpa using hk) h2
    rw [show o + (k + 1) * sz = o + sz + k * sz by rw [Nat.add_mul]; omega]
    exact this
set_option maxRecDepth 100000 in
set_option maxHeartbeats 800000 in
theorem histTop_any (g : Nat) (v : Value) (A : Option Addr) (n c : Nat) (hs : List (List Int)) (w : World) (hb : Blk w g 73 [v, .slice A n c]) (hr : Rd w 32 A n (hrow hs)) (hl : hs.length = n) (h32 : ∀ h ∈ hs, h.length = 32) (hn : n ≤ 1048576) :
    Calls Tryd.prog 12 #[.pointer (some ⟨g, 0, none⟩)] w fun e w' => e = .returned (hashV (hs.getLast?.getD (List.replicate 32 0))) ∧ Below w.heap.size w w' := by
  have hc : ∀ o, (w.alloc o).cell? ⟨g, 1, none⟩ = some (.slice A n c) := fun o => (hb.alloc o).cell 1
  have hg : g ≠ w.heap.size := by have := hb.lt; omega
  have hf0 := (Frm.refl (fun _ => False) w).alloc (.cells (.replicate 32 (.int .u8 0)) 25)
  have hr0 := hr.frm hf0 fun _ _ h => h
  replace hb := Lib.hid hb
  replace hr := Lib.hid hr
  replace hr0 := Lib.hid hr0
  replace hf0 := Lib.hid hf0
  replace h32 := Lib.hid h32
  have hbR := Blk.new w 25 (List.replicate 32 (.int .u8 0))
  have hth := hbR.there' 0 32 (by simp)
  by_cases h0 : n = 0
  · subst h0
    have hz32 : (nums .u8 (List.replicate 32 0)).length = 32 := by simp [nums]
    have hnil : hs = [] := List.eq_nil_of_length_eq_zero hl
    subst hnil
    replace hbR := Lib.hid hbR
    go_enter Tryd.func12, Tryd.ntmps12
    go_wp2_with refine list_store (cs := nums .u8 (List.replicate 32 0)) 25 (by rw [hz32]; exact hth) (by rw [hz32]; kernel_rfl) nums_one rfl rfl rfl rfl ?_
    have hbF := World.rangeAt_setCells_same _ _ 0 (nums .u8 (List.replicate 32 0)) (by rw [hz32]; exact hth)
    refine bodyPost_ret (results_cell_range rfl _ _ (b := w.heap.size) (o := 0) (cs := nums .u8 (List.replicate 32 0)) rfl hbF Tryd.underlying25 rfl (by rw [hz32]; kernel_rfl)) rfl ?_
    exact ⟨rfl, (hf0.out.setCells (fun h => by omega) 0 _).below⟩
  · obtain ⟨b, o, rfl, hrow⟩ := hr0.out.2 (by omega)
    have hk : n - 1 < hs.length := by omega
    have hlast : ∀ j v, (nums .u8 hs[n - 1])[j]? = some v → (w.alloc (.cells (.replicate 32 (.int .u8 0)) 25)).cell? ⟨b, o + (n - 1) * 32 + j, none⟩ = some v := by
      have := range_rowL (nums .u8) 32 hs (fun h hh => by rw [nums_length]; exact h32.out h hh) o (n - 1) hk hrow
      exact this
    obtain ⟨q, hq⟩ : ∃ q, q = hs[n - 1] := ⟨_, rfl⟩
    rw [← hq] at hlast
    have hq32 : (nums .u8 q).length = 32 := by rw [nums_length, hq]; exact h32.out _ (List.getElem_mem hk)
    have hres : ∀ d, hs.getLast?.getD d = q := fun d => by
      rw [List.getLast?_eq_getElem?, show hs.length - 1 = n - 1 by omega, List.getElem?_eq_getElem hk, hq]; rfl
    have e1 : IntKind.i64.wrap ((n : Int) - 1) = (n : Int) - 1 := IntWalk.i64_in _ (by omega)
    have e2 : 0 ≤ (n : Int) - 1 := by omega
    have h0' : 0 < n := by omega
    have hbn : b ≠ w.heap.size := fun e => by
      obtain ⟨b', o', e', hr'⟩ := hr.out.2 h0'
      injection e' with e'; injection e' with e1 e2
      have := hr.out.lt h0' (by decide) b rfl
      omega
    replace hq := Lib.hid hq
    replace hres := Lib.hid hres
    replace hbR := Lib.hid hbR
    replace hlast := Lib.hid hlast
    clear hrow
    go_enter Tryd.func12, Tryd.ntmps12
    go_wp2
    apply wp_region_typed (fun k => k = w.heap.size) (nf [3, 7, 11, 12]) [12] (vt [(Is _), (Is _), (Is _), (Is _), (Is _), (Is _), (Is _), (Is _), (Is _), (Is _), (Is _), (Is _), (fun _ _ => True)]) (wt [(fun _ w' => w'.there w.heap.size 0 32), (fun _ w' => w'.rangeAt w.heap.size 0 (nums .u8 q))]) (by kernel_rfl) (by kernel_rfl) (by kernel_rfl) (by kernel_rfl) (hop := owesL_all ?hop)
    case hop =>
      refine owesL_cons (i' := 1) rfl ?_ ?_
      · refine o_pure rfl (by kernel_rfl) fun us a wz hA hv K hK => ?_
        have s0 := slot_out hA (t := 0) (by kernel_rfl)
        clear hA hv
        go_wp2
        exact rfl
      refine owesL_cons (i' := 2) rfl ?_ ?_
      · refine o_pure rfl (by kernel_rfl) fun us a wz hA hv K hK => ?_
        have s10 := (slot_in hA (t := 10) (by simp) (j := 0) (by kernel_rfl)).trans (hv 0 (by kernel_rfl))
        clear hA hv
        go_wp2
        exact rfl
      refine owesL_cons (i' := 3) rfl ?_ ?_
      · refine o_pure rfl (by kernel_rfl) fun us a wz hA hv K hK => ?_
        have s11 := (slot_in hA (t := 11) (by simp) (j := 1) (by kernel_rfl)).trans (hv 1 (by kernel_rfl))
        clear hA hv
        go_wp2
        exact rfl
      refine owesL_cons (i' := 4) rfl ?_ ?_
      · refine o_q rfl (by kernel_rfl) (by kernel_rfl) (pl := []) (by kernel_rfl) fun us a wz hA hv hf hw K hK => ?_
        have s12 := (slot_in hA (t := 12) (by simp) (j := 2) (by kernel_rfl)).trans (hv 2 (by kernel_rfl))
        replace hw : ((fun _ w' => w'.there w.heap.size 0 32) : List Value → World → Prop) [] wz := hw
        clear hA hv
        have k0 := hf.cell (hc _) (fun h => hg (by exact h))
        clear hf hw
        go_wp2
        exact hK _ _ rfl (Frm.refl _ _)
      refine owesL_cons (i' := 5) rfl ?_ ?_
      · refine o_pure rfl (by kernel_rfl) fun us a wz hA hv K hK => ?_
        have s0 := slot_out hA (t := 0) (by kernel_rfl)
        clear hA hv
        go_wp2
        exact rfl
      refine owesL_cons (i' := 6) rfl ?_ ?_
      · refine o_pure rfl (by kernel_rfl) fun us a wz hA hv K hK => ?_
        have s14 := (slot_in hA (t := 14) (by simp) (j := 4) (by kernel_rfl)).trans (hv 4 (by kernel_rfl))
        clear hA hv
        go_wp2
        exact rfl
      refine owesL_cons (i' := 7) rfl ?_ ?_
      · refine o_pure rfl (by kernel_rfl) fun us a wz hA hv K hK => ?_
        have s15 := (slot_in hA (t := 15) (by simp) (j := 5) (by kernel_rfl)).trans (hv 5 (by kernel_rfl))
        clear hA hv
        go_wp2
        exact rfl
      refine owesL_cons (i' := 8) rfl ?_ ?_
      · refine o_q rfl (by kernel_rfl) (by kernel_rfl) (pl := []) (by kernel_rfl) fun us a wz hA hv hf hw K hK => ?_
        have s16 := (slot_in hA (t := 16) (by simp) (j := 6) (by kernel_rfl)).trans (hv 6 (by kernel_rfl))
        replace hw : ((fun _ w' => w'.there w.heap.size 0 32) : List Value → World → Prop) [] wz := hw
        clear hA hv
        have k0 := hf.cell (hc _) (fun h => hg (by exact h))
        clear hf hw
        go_wp2
        exact hK _ _ rfl (Frm.refl _ _)
      refine owesL_cons (i' := 9) rfl ?_ ?_
      · refine o_pure rfl (by kernel_rfl) fun us a wz hA hv K hK => ?_
        have s17 := (slot_in hA (t := 17) (by simp) (j := 7) (by kernel_rfl)).trans (hv 7 (by kernel_rfl))
        clear hA hv
        go_wp2
        exact rfl
      refine owesL_cons (i' := 10) rfl ?_ ?_
      · refine o_pure rfl (by kernel_rfl) fun us a wz hA hv K hK => ?_
        have s18 := (slot_in hA (t := 18) (by simp) (j := 8) (by kernel_rfl)).trans (hv 8 (by kernel_rfl))
        clear hA hv
        go_wp2
        exact rfl
      refine owesL_cons (i' := 11) rfl ?_ ?_
      · refine o_pure rfl (by kernel_rfl) fun us a wz hA hv K hK => ?_
        have s13 := (slot_in hA (t := 13) (by simp) (j := 3) (by kernel_rfl)).trans (hv 3 (by kernel_rfl))
        have s19 := (slot_in hA (t := 19) (by simp) (j := 9) (by kernel_rfl)).trans (hv 9 (by kernel_rfl))
        clear hA hv
        go_wp2
        exact rfl
      refine owesL_cons (i' := 12) rfl ?_ ?_
      · refine o_q rfl (by kernel_rfl) (by kernel_rfl) (pl := []) (by kernel_rfl) fun us a wz hA hv hf hw K hK => ?_
        have s20 := (slot_in hA (t := 20) (by simp) (j := 10) (by kernel_rfl)).trans (hv 10 (by kernel_rfl))
        replace hw : ((fun _ w' => w'.there w.heap.size 0 32) : List Value → World → Prop) [] wz := hw
        clear hA hv
        have k0 := range_frm (F := fun k => k = w.heap.size) hlast.out ((Frm.refl _ _).drew.trans hf fun _ _ h => h) hbn
        clear hf hw
        refine wp_load_mid 25 _ rfl b (o + (n - 1) * 32) (ev s20) (nums .u8 q) _ k0 Tryd.underlying25 rfl (by rw [hq32]; kernel_rfl) ?_
        exact hK _ _ rfl (Frm.refl _ _)
      refine owesL_cons (i' := 13) rfl ?_ ?_
      · refine o_p rfl (by kernel_rfl) (by kernel_rfl) (pl := []) (by kernel_rfl) fun us a wz hA hv hf hw K hK => ?_
        have s2 := slot_out hA (t := 2) (by kernel_rfl)
        have s21 := (slot_in hA (t := 21) (by simp) (j := 11) (by kernel_rfl)).trans (hv 11 (by kernel_rfl))
        replace hw : ((fun _ w' => w'.there w.heap.size 0 32) : List Value → World → Prop) [] wz := hw
        clear hA hv
        refine wp_store_mid 25 _ _ rfl w.heap.size 0 (nums .u8 q).toArray (ev s2) (ev s21) (by simpa [hq32] using hw) (by simp only [List.size_toArray, hq32]; kernel_rfl) (all_oneCell_toArray nums_one) ?_
        exact hK undef _ trivial (World.rangeAt_setCells_same _ _ 0 (nums .u8 q) (by rw [hq32]; exact hw)) ((Frm.refl (fun k => k = w.heap.size) wz).setCells (fun _ => rfl) 0 _)
      exact owesL_nil
    case hV => exact Stabs.vt (.cons (stab_is _ _) (.cons (stab_is _ _) (.cons (stab_is _ _) (.cons (stab_is _ _) (.cons (stab_is _ _) (.cons (stab_is _ _) (.cons (stab_is _ _) (.cons (stab_is _ _) (.cons (stab_is _ _) (.cons (stab_is _ _) (.cons (stab_is _ _) (.cons (stab_is _ _) (.cons (stab_true _) (.nil))))))))))))))
    case hW =>
      exact StabWs.wt (.cons (fun _ w1 w2 h hf => there_frm h hf fun h => h) (.cons (fun _ _ _ h hf => range_frm h hf fun h => h) .nil))
    case h0 =>
      exact hth
    intro usx wx hvx hwx hfx
    have qx0 : usx 0 = _ := hvx 0 (by decide)
    have qx1 : usx 1 = _ := hvx 1 (by decide)
    have qx2 : usx 2 = _ := hvx 2 (by decide)
    have qx3 : usx 3 = _ := hvx 3 (by decide)
    have qx4 : usx 4 = _ := hvx 4 (by decide)
    have qx5 : usx 5 = _ := hvx 5 (by decide)
    have qx6 : usx 6 = _ := hvx 6 (by decide)
    have qx7 : usx 7 = _ := hvx 7 (by decide)
    have qx8 : usx 8 = _ := hvx 8 (by decide)
    have qx9 : usx 9 = _ := hvx 9 (by decide)
    have qx10 : usx 10 = _ := hvx 10 (by decide)
    have qx11 : usx 11 = _ := hvx 11 (by decide)
    replace hwx : ((fun _ w' => w'.rangeAt w.heap.size 0 (nums .u8 q)) : List Value → World → Prop) [usx 12] wx := hwx
    rw [fill_all (ds := [some 10, some 11, some 12, some 13, some 14, some 15, some 16, some 17, some 18, some 19, some 20, some 21, none]) (by kernel_rfl)]
    simp only [putAll, Act.put, List.setIfInBounds_toArray, List.set_cons_succ, List.set_cons_zero, Nat.reduceAdd, qx0, qx1, qx2, qx3, qx4, qx5, qx6, qx7, qx8, qx9, qx10, qx11]
    clear hvx qx0 qx1 qx2 qx3 qx4 qx5 qx6 qx7 qx8 qx9 qx10 qx11
    have hlt : w.heap.size < wx.heap.size := by have := hfx.size; simp at this; omega
    go_wp2
    refine bodyPost_ret (results_cell_range rfl _ _ (b := w.heap.size) (o := 0) (cs := nums .u8 q) rfl hwx Tryd.underlying25 rfl (by rw [hq32]; kernel_rfl)) rfl ?_
    exact ⟨by rw [hres.out]; rfl, (hf0.out.drew.trans hfx fun b hb h => by omega).below⟩
end Go.Proofs.YtmajnoefddbflaaDoor
