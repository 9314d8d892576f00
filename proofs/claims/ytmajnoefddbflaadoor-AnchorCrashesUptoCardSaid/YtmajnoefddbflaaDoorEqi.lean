/- slices.Equal over items. -/
import Derived.Test.YtmajnoefddbflaaDoorLb
import Derived.Test.YtmajnoefddbflaaDoorProg
import Derived.Test.YtmajnoefddbflaaDoorEqu
import Derived.Test.YtmajnoefddbflaaDoorRgn
import Derived.WalkKit
import Derived.WalkSpells
import Derived.Lib.Hide
import Derived.KernelRfl
namespace Go.Proofs.YtmajnoefddbflaaDoor
open Go.RowKit

def itemsEq : List Itm → List Itm → Bool
  | [], [] => true
  | x :: xs, y :: ys => x.beq y && itemsEq xs ys
  | _, _ => false
theorem itemsEq_no : ∀ {l m : List Itm} {k : Nat} (hl : k < l.length) (hm : k < m.length), (l[k].beq m[k]) = false → itemsEq l m = false
  | x :: l, y :: m, 0, _, _, h => by simp only [List.getElem_cons_zero] at h; rw [itemsEq, h, Bool.false_and]
  | x :: l, y :: m, k + 1, hl, hm, h => by
    have := itemsEq_no (l := l) (m := m) (k := k) (by simpa using hl) (by simpa using hm) (by simpa using h)
    rw [itemsEq, this, Bool.and_false]
theorem itemsEq_len : ∀ {l m : List Itm}, l.length ≠ m.length → itemsEq l m = false
  | [], [], h => absurd rfl h
  | [], _ :: _, _ => rfl
  | _ :: _, [], _ => rfl
  | x :: l, y :: m, h => by
    rw [itemsEq, itemsEq_len (l := l) (m := m) (by simpa using h), Bool.and_false]
theorem itemsEq_yes : ∀ {l m : List Itm}, l.length = m.length → (∀ k (hl : k < l.length) (hm : k < m.length), (l[k].beq m[k]) = true) → itemsEq l m = true
  | [], [], _, _ => rfl
  | x :: l, y :: m, h, hall => by
    have h0 := hall 0 (by simp) (by simp)
    have := itemsEq_yes (l := l) (m := m) (by simpa using h) (fun k hl hm => hall (k + 1) (by simpa using hl) (by simpa using hm))
    simp only [List.getElem_cons_zero] at h0
    rw [itemsEq, h0, this]; rfl
  | [], _ :: _, h, _ => by cases h
  | _ :: _, [], h, _ => by cases h
set_option maxRecDepth 100000 in
set_option maxHeartbeats 1000000 in
theorem equal_r6 {b o n c b2 o2 n2 c2 k : Nat} {x y : Itm} {u2 u3 u4 u6 u7 u8 u9 u10 u11 u12 u13 u14 u15 u16 u17 u18 u19 u20 u21 u22 u23 u24 u25 : Value} {w : World} (hx : w.rangeAt b (o + k * 37) x.cells) (hy : w.rangeAt b2 (o2 + k * 37) y.cells) (hk : k < n) (hk2 : k < n2) (hn : n ≤ 1048576) (hn2 : n2 ≤ 1048576) {r : Bool} (hr : x.beq y = r) {Q : Exit → Act → World → Prop}
    (hQ : ∀ (x16 x17 x18 x19 x20 x21 x22 x23 : Value) (w' : World), Frm (fun _ => False) w w' → Q .normal ⟨(.slice (some ⟨b, o, none⟩) n c :: .slice (some ⟨b2, o2, none⟩) n2 c2 :: u2 :: u3 :: u4 :: .int .i64 k :: u6 :: u7 :: u8 :: u9 :: u10 :: u11 :: u12 :: u13 :: u14 :: u15 :: x16 :: x17 :: x18 :: x19 :: x20 :: x21 :: x22 :: x23 :: .bool (!r) :: u25 :: []).toArray, []⟩ w') :
    (regionOf Tryd.f30 6).wp Tryd.prog Q ⟨(.slice (some ⟨b, o, none⟩) n c :: .slice (some ⟨b2, o2, none⟩) n2 c2 :: u2 :: u3 :: u4 :: .int .i64 k :: u6 :: u7 :: u8 :: u9 :: u10 :: u11 :: u12 :: u13 :: u14 :: u15 :: u16 :: u17 :: u18 :: u19 :: u20 :: u21 :: u22 :: u23 :: u24 :: u25 :: []).toArray, []⟩ w := by
  conv => arg 2; whnf
  have h37 := x.cells_length
  have h37' := y.cells_length
  have hkz : (k : Int) < n := by omega
  have hkz2 : (k : Int) < n2 := by omega
  apply wp_region_typed (fun _ => False) (nf [3, 7, 8]) [] (vt [(Is _), (Is _), (Is _), (Is _), (Is _), (Is _), (Is _), (Is _), (Is _)]) (wt [(fun _ _ => True)]) (by kernel_rfl) (by kernel_rfl) (by kernel_rfl) (by kernel_rfl) (hop := owesL_all ?hop)
  case hop =>
    refine owesL_cons (i' := 1) rfl ?_ ?_
    · refine o_pure rfl (by kernel_rfl) fun us a wz hA hv K hK => ?_
      have s0 := slot_out hA (t := 0) (by kernel_rfl)
      clear hA hv
      go_wp2
      exact rfl
    refine owesL_cons (i' := 2) rfl ?_ ?_
    · refine o_pure rfl (by kernel_rfl) fun us a wz hA hv K hK => ?_
      have s5 := slot_out hA (t := 5) (by kernel_rfl)
      clear hA hv
      go_wp2
      exact rfl
    refine owesL_cons (i' := 3) rfl ?_ ?_
    · refine o_pure rfl (by kernel_rfl) fun us a wz hA hv K hK => ?_
      have s16 := (slot_in hA (t := 16) (by simp) (j := 0) (by kernel_rfl)).trans (hv 0 (by kernel_rfl))
      have s17 := (slot_in hA (t := 17) (by simp) (j := 1) (by kernel_rfl)).trans (hv 1 (by kernel_rfl))
      clear hA hv
      go_wp2
      exact rfl
    refine owesL_cons (i' := 4) rfl ?_ ?_
    · refine o_q rfl (by kernel_rfl) (by kernel_rfl) (pl := []) (by kernel_rfl) fun us a wz hA hv hf hw K hK => ?_
      have s18 := (slot_in hA (t := 18) (by simp) (j := 2) (by kernel_rfl)).trans (hv 2 (by kernel_rfl))
      clear hA hv
      have k0 := range_frm (F := fun _ => False) (show w.drew.rangeAt b (o + k * 37) x.cells from hx) hf fun h => h
      clear hf
      refine wp_load_mid 68 _ rfl b (o + k * 37) (ev s18) x.cells _ k0 Tryd.underlying68 rfl (by rw [h37]; kernel_rfl) ?_
      exact hK _ _ rfl (Frm.refl _ _)
    refine owesL_cons (i' := 5) rfl ?_ ?_
    · refine o_pure rfl (by kernel_rfl) fun us a wz hA hv K hK => ?_
      have s1 := slot_out hA (t := 1) (by kernel_rfl)
      clear hA hv
      go_wp2
      exact rfl
    refine owesL_cons (i' := 6) rfl ?_ ?_
    · refine o_pure rfl (by kernel_rfl) fun us a wz hA hv K hK => ?_
      have s5 := slot_out hA (t := 5) (by kernel_rfl)
      clear hA hv
      go_wp2
      exact rfl
    refine owesL_cons (i' := 7) rfl ?_ ?_
    · refine o_pure rfl (by kernel_rfl) fun us a wz hA hv K hK => ?_
      have s20 := (slot_in hA (t := 20) (by simp) (j := 4) (by kernel_rfl)).trans (hv 4 (by kernel_rfl))
      have s21 := (slot_in hA (t := 21) (by simp) (j := 5) (by kernel_rfl)).trans (hv 5 (by kernel_rfl))
      clear hA hv
      go_wp2
      exact rfl
    refine owesL_cons (i' := 8) rfl ?_ ?_
    · refine o_q rfl (by kernel_rfl) (by kernel_rfl) (pl := []) (by kernel_rfl) fun us a wz hA hv hf hw K hK => ?_
      have s22 := (slot_in hA (t := 22) (by simp) (j := 6) (by kernel_rfl)).trans (hv 6 (by kernel_rfl))
      clear hA hv
      have k0 := range_frm (F := fun _ => False) (show w.drew.rangeAt b2 (o2 + k * 37) y.cells from hy) hf fun h => h
      clear hf
      refine wp_load_mid 68 _ rfl b2 (o2 + k * 37) (ev s22) y.cells _ k0 Tryd.underlying68 rfl (by rw [h37']; kernel_rfl) ?_
      exact hK _ _ rfl (Frm.refl _ _)
    refine owesL_cons (i' := 9) rfl ?_ ?_
    · refine o_q rfl (by kernel_rfl) (by kernel_rfl) (pl := []) (by kernel_rfl) fun us a wz hA hv hf hw K hK => ?_
      have s19 := (slot_in hA (t := 19) (by simp) (j := 3) (by kernel_rfl)).trans (hv 3 (by kernel_rfl))
      have s23 := (slot_in hA (t := 23) (by simp) (j := 7) (by kernel_rfl)).trans (hv 7 (by kernel_rfl))
      clear hA hv
      have e1 := run_neqItm wz x y
      have e2 := fun a b => run_guardItm .neq a b wz x.cells.toArray y.cells.toArray
      rw [hr] at e1
      unfold Oper.wp execOp
      simp only [ev s19, ev s23, Sem.run_bind, e1, e2, Result.andThen_ok, Sem.run_pure]
      exact hK _ _ rfl (Frm.refl _ _)
    exact owesL_nil
  case hV => exact Stabs.vt (.cons (stab_is _ _) (.cons (stab_is _ _) (.cons (stab_is _ _) (.cons (stab_is _ _) (.cons (stab_is _ _) (.cons (stab_is _ _) (.cons (stab_is _ _) (.cons (stab_is _ _) (.cons (stab_is _ _) (.nil))))))))))
  case hW => exact StabWs.wt (.cons (fun _ _ _ h _ => h) (.nil))
  case h0 =>
    trivial
  intro usx wx hvx hwx hfx
  have qx0 : usx 0 = _ := hvx 0 (by decide)
  have qx1 : usx 1 = _ := hvx 1 (by decide)
  have qx2 : usx 2 = _ := hvx 2 (by decide)
  have qx3 : usx 3 = _ := hvx 3 (by decide)
  have qx4 : usx 4 = _ := hvx 4 (by decide)
  have qx5 : usx 5 = _ := hvx 5 (by decide)
  have qx6 : usx 6 = _ := hvx 6 (by decide)
  have qx7 : usx 7 = _ := hvx 7 (by decide)
  have qx8 : usx 8 = _ := hvx 8 (by decide)
  rw [fill_all (ds := [some 16, some 17, some 18, some 19, some 20, some 21, some 22, some 23, some 24]) (by kernel_rfl)]
  simp only [putAll, Act.put, List.setIfInBounds_toArray, List.set_cons_succ, List.set_cons_zero, Nat.reduceAdd, qx0, qx1, qx2, qx3, qx4, qx5, qx6, qx7, qx8]
  clear hvx qx0 qx1 qx2 qx3 qx4 qx5 qx6 qx7 qx8
  exact hQ _ _ _ _ _ _ _ _ _ ((Frm.refl _ _).drew.trans hfx fun _ _ h => h)
set_option maxRecDepth 100000 in
set_option maxHeartbeats 1000000 in
theorem equalItem_any (l m : List Itm) (A B : Option Addr) (n c n2 c2 : Nat) (w : World) (hr : Rd w 37 A n (row l)) (hl : l.length = n) (hs : Rd w 37 B n2 (row m)) (hm : m.length = n2) (hn : n ≤ 1048576) (hn2 : n2 ≤ 1048576) :
    Calls Tryd.prog 30 #[.slice A n c, .slice B n2 c2] w fun e w' => e = .returned (.bool (itemsEq l m)) ∧ Below w.heap.size w w' := by
  replace hr := Lib.hid hr
  replace hl := Lib.hid hl
  replace hs := Lib.hid hs
  replace hm := Lib.hid hm
  by_cases hne : n = n2
  · subst hne
    go_enter Tryd.func30, Tryd.ntmps30
    go_wp2
    go_loopw [13] (fun i wr => ∃ k : Nat, k ≤ n ∧ i = .int .i64 k ∧ (∀ j (hj : j < k) (h1 : j < l.length) (h2 : j < m.length), l[j].beq m[j] = true) ∧ Frm (fun _ => False) w wr) (fun i _ => n - (intOf i).toNat)
    case atStart => exact ⟨0, Nat.zero_le _, rfl, fun j hj => by omega, Frm.refl _ _⟩
    case round =>
      obtain ⟨k, hk, rfl, hall, hf⟩ := hrel
      replace hall := Lib.hid hall
      by_cases hlt : k < n
      · have hlt' : (k : Int) < n := by omega
        have h1 : k < l.length := by rw [hl.out]; exact hlt
        have h2 : k < m.length := by rw [hm.out]; exact hlt
        obtain ⟨b, o, rfl, hrow⟩ := hr.out.2 (by omega)
        obtain ⟨b2, o2, rfl, hrow2⟩ := hs.out.2 (by omega)
        have hcx := range_row Itm.cells 37 Itm.cells_length l o k h1 (fun j v hv => hf.cell (hrow j v hv) fun h => h)
        have hcy := range_row Itm.cells 37 Itm.cells_length m o2 k h2 (fun j v hv => hf.cell (hrow2 j v hv) fun h => h)
        obtain ⟨r, hrr⟩ : ∃ r, l[k].beq m[k] = r := ⟨_, rfl⟩
        replace hrow := Lib.hid hrow
        replace hrow2 := Lib.hid hrow2
        replace hf := Lib.hid hf
        replace hcx := Lib.hid hcx
        replace hcy := Lib.hid hcy
        replace hrr := Lib.hid hrr
        go_wp2
        refine equal_r6 hcx.out hcy.out hlt hlt hn hn hrr.out ?_
        intro x16 x17 x18 x19 x20 x21 x22 x23 w2 hf2
        replace hf2 := Lib.hid (hf.out.trans hf2 fun _ _ h => h)
        cases r with
        | false =>
          have hres := itemsEq_no h1 h2 hrr.out
          replace hres := Lib.hid hres
          go_wp2
          go_ret
          refine ⟨?_, hf2.out.below⟩
          rw [hres.out]; rfl
        | true =>
          go_wp2
          go_roundw
          case rel => exact ⟨k + 1, by omega, by go_num, fun j hj h1 h2 => by
            rcases Nat.lt_or_ge j k with h | h
            · exact hall.out j h h1 h2
            · obtain rfl : j = k := by omega
              exact hrr.out, hf2.out⟩
          case measure => simp [intOf]; omega
      · have hkn : k = n := by omega
        subst hkn
        have hres := itemsEq_yes (l := l) (m := m) (by rw [hl.out, hm.out]) (fun j h1 h2 => hall.out j (by rw [← hl.out]; exact h1) h1 h2)
        replace hres := Lib.hid hres
        replace hf := Lib.hid hf
        go_wp2
        go_ret
        refine ⟨?_, hf.out.below⟩
        rw [hres.out]; rfl
  · have hne' : ((n : Int) != n2) = true := by rw [bne_iff_ne]; omega
    have hres : itemsEq l m = false := itemsEq_len (by rw [hl.out, hm.out]; exact hne)
    replace hres := Lib.hid hres
    go_enter Tryd.func30, Tryd.ntmps30
    go_wp2
    go_ret
    refine ⟨?_, Below.refl _ _⟩
    rw [hres.out]; rfl
end Go.Proofs.YtmajnoefddbflaaDoor
