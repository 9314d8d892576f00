/- history.History: Copy. -/
import Derived.Test.YtmajnoefddbflaaDoorLb
import Derived.Test.YtmajnoefddbflaaDoorProg
import Derived.Test.YtmajnoefddbflaaDoorHis
import Derived.WalkKit
import Derived.WalkSpells
import Derived.StillTactics
import Derived.Laws.Pointers
import Derived.Lib.Hide
import Derived.KernelRfl
namespace Go.Proofs.YtmajnoefddbflaaDoor
open Go.RowKit

/-- a slice of the call's own, at the moment w' -/
def MyS (w w' : World) (e size n : Nat) (xs : List Value) (v : Value) : Prop := ∃ A c, v = .slice A n c ∧ Own w' e size A n c xs ∧ ∀ b, bl A = some b → w.heap.size ≤ b
theorem MyS.frm {w w1 w2 : World} {e size n : Nat} {xs : List Value} {v : Value} (h : MyS w w1 e size n xs v) (hf : Frm (fun _ => False) w1 w2) : MyS w w2 e size n xs v := by
  obtain ⟨A, c, e, ho, hb⟩ := h
  exact ⟨A, c, e, ho.frm hf fun _ _ h => h, hb⟩
set_option maxRecDepth 100000 in
set_option maxHeartbeats 800000 in
theorem histCopy_any (g : Nat) (A : Option Addr) (n c : Nat) (xs : List Value) (B : Option Addr) (m d : Nat) (ys : List Value) (w : World) (hb : Blk w g 73 [.slice A n c, .slice B m d]) (hx : Rd w 36 A n xs) (hx1 : ∀ u ∈ xs, u.oneCell' = true) (hn : n ≤ 1048576) (hy : Rd w 32 B m ys) (hy1 : ∀ u ∈ ys, u.oneCell' = true) (hm : m ≤ 1048576) :
    Calls Tryd.prog 9 #[.pointer (some ⟨g, 0, none⟩)] w fun e w' => ∃ g' v1 v2, e = .returned (.pointer (some ⟨g', 0, none⟩)) ∧ w.heap.size ≤ g' ∧ Blk w' g' 73 [v1, v2] ∧ MyS w w' 29 36 n xs v1 ∧ MyS w w' 25 32 m ys v2 ∧ Below w.heap.size w w' := by
  have c0 := hb.cell 0
  have c1 := hb.cell 1
  simp only [List.getElem?_cons_succ, List.getElem?_cons_zero] at c0 c1
  replace hb := Lib.hid hb
  replace hx := Lib.hid hx
  replace hy := Lib.hid hy
  replace hx1 := Lib.hid hx1
  replace hy1 := Lib.hid hy1
  go_enter Tryd.func9, Tryd.ntmps9
  go_wp2
  apply wp_region_typed (fun _ => False) (nf [3, 4, 8, 9, 10, 11, 12]) [] (vt [(Is _), (Is _), (Is _), (Is _), (fun u w' => MyS w w' 29 36 n xs u), (Is _), (Is _), (Is _), (Is _), (fun u w' => MyS w w' 25 32 m ys u), (fun u w' => ∃ v1 v2, u = .agg #[v1, v2] ∧ MyS w w' 29 36 n xs v1 ∧ MyS w w' 25 32 m ys v2), (fun u w' => ∃ g' v1 v2, u = .pointer (some ⟨g', 0, none⟩) ∧ w.heap.size ≤ g' ∧ Blk w' g' 73 [v1, v2] ∧ MyS w w' 29 36 n xs v1 ∧ MyS w w' 25 32 m ys v2), (fun u w' => ∃ g' v1 v2, u = .pointer (some ⟨g', 0, none⟩) ∧ w.heap.size ≤ g' ∧ Blk w' g' 73 [v1, v2] ∧ MyS w w' 29 36 n xs v1 ∧ MyS w w' 25 32 m ys v2)]) (wt [(fun _ _ => True)]) (by kernel_rfl) (by kernel_rfl) (by kernel_rfl) (by kernel_rfl) (hop := owesL_all ?hop)
  case hop =>
    refine owesL_cons (i' := 1) rfl ?_ ?_
    · refine o_pure rfl (by kernel_rfl) fun us a wz hA hv K hK => ?_
      have s0 := slot_out hA (t := 0) (by kernel_rfl)
      clear hA hv
      go_wp2
      exact rfl
    refine owesL_cons (i' := 2) rfl ?_ ?_
    · refine o_pure rfl (by kernel_rfl) fun us a wz hA hv K hK => ?_
      have s3 := (slot_in hA (t := 3) (by simp) (j := 0) (by kernel_rfl)).trans (hv 0 (by kernel_rfl))
      clear hA hv
      go_wp2
      exact rfl
    refine owesL_cons (i' := 3) rfl ?_ ?_
    · refine o_pure rfl (by kernel_rfl) fun us a wz hA hv K hK => ?_
      have s4 := (slot_in hA (t := 4) (by simp) (j := 1) (by kernel_rfl)).trans (hv 1 (by kernel_rfl))
      clear hA hv
      go_wp2
      exact rfl
    refine owesL_cons (i' := 4) rfl ?_ ?_
    · refine o_q rfl (by kernel_rfl) (by kernel_rfl) (pl := []) (by kernel_rfl) fun us a wz hA hv hf hw K hK => ?_
      have s5 := (slot_in hA (t := 5) (by simp) (j := 2) (by kernel_rfl)).trans (hv 2 (by kernel_rfl))
      clear hA hv
      have k0 := hf.cell c0 (fun h => h)
      clear hf
      go_wp2
      exact hK _ _ rfl (Frm.refl _ _)
    refine owesL_cons (i' := 5) rfl ?_ ?_
    · refine o_q rfl (by kernel_rfl) (by kernel_rfl) (pl := []) (by kernel_rfl) fun us a wz hA hv hf hw K hK => ?_
      have s6 := (slot_in hA (t := 6) (by simp) (j := 3) (by kernel_rfl)).trans (hv 3 (by kernel_rfl))
      clear hA hv
      have hx2 := hx.out.frm ((Frm.refl _ w).drew.trans hf fun _ _ h => h) fun _ _ h => h
      have hsz := hf.size
      clear hf
      go_wp2_with fail
      refine (cloneRecord_any A n c xs _ hx2 hx1.out hn).mono ?_
      rintro e w1 ⟨v, rfl, A', c', rfl, hown, hbel, hnew⟩
      exact hK _ _ ⟨A', c', rfl, hown, fun b hb => Nat.le_trans hsz (hnew b hb)⟩ (Frm.of_below hbel _)
    refine owesL_cons (i' := 6) rfl ?_ ?_
    · refine o_pure rfl (by kernel_rfl) fun us a wz hA hv K hK => ?_
      have s0 := slot_out hA (t := 0) (by kernel_rfl)
      clear hA hv
      go_wp2
      exact rfl
    refine owesL_cons (i' := 7) rfl ?_ ?_
    · refine o_pure rfl (by kernel_rfl) fun us a wz hA hv K hK => ?_
      have s8 := (slot_in hA (t := 8) (by simp) (j := 5) (by kernel_rfl)).trans (hv 5 (by kernel_rfl))
      clear hA hv
      go_wp2
      exact rfl
    refine owesL_cons (i' := 8) rfl ?_ ?_
    · refine o_pure rfl (by kernel_rfl) fun us a wz hA hv K hK => ?_
      have s9 := (slot_in hA (t := 9) (by simp) (j := 6) (by kernel_rfl)).trans (hv 6 (by kernel_rfl))
      clear hA hv
      go_wp2
      exact rfl
    refine owesL_cons (i' := 9) rfl ?_ ?_
    · refine o_q rfl (by kernel_rfl) (by kernel_rfl) (pl := []) (by kernel_rfl) fun us a wz hA hv hf hw K hK => ?_
      have s10 := (slot_in hA (t := 10) (by simp) (j := 7) (by kernel_rfl)).trans (hv 7 (by kernel_rfl))
      clear hA hv
      have k0 := hf.cell c1 (fun h => h)
      clear hf
      go_wp2
      exact hK _ _ rfl (Frm.refl _ _)
    refine owesL_cons (i' := 10) rfl ?_ ?_
    · refine o_q rfl (by kernel_rfl) (by kernel_rfl) (pl := []) (by kernel_rfl) fun us a wz hA hv hf hw K hK => ?_
      have s11 := (slot_in hA (t := 11) (by simp) (j := 8) (by kernel_rfl)).trans (hv 8 (by kernel_rfl))
      clear hA hv
      have hy2 := hy.out.frm ((Frm.refl _ w).drew.trans hf fun _ _ h => h) fun _ _ h => h
      have hsz := hf.size
      clear hf
      go_wp2_with fail
      refine (cloneHash_any B m d ys _ hy2 hy1.out hm).mono ?_
      rintro e w1 ⟨v, rfl, A', c', rfl, hown, hbel, hnew⟩
      exact hK _ _ ⟨A', c', rfl, hown, fun b hb => Nat.le_trans hsz (hnew b hb)⟩ (Frm.of_below hbel _)
    refine owesL_cons (i' := 11) rfl ?_ ?_
    · refine o_q rfl (by kernel_rfl) (by kernel_rfl) (pl := []) (by kernel_rfl) fun us a wz hA hv hf hw K hK => ?_
      have s7 := slot_in hA (t := 7) (by simp) (j := 4) (by kernel_rfl)
      have u4 : ((fun u w' => MyS w w' 29 36 n xs u) : Value → World → Prop) (us 4) wz := hv 4 (by kernel_rfl)
      have s12 := slot_in hA (t := 12) (by simp) (j := 9) (by kernel_rfl)
      have u9 : ((fun u w' => MyS w w' 25 32 m ys u) : Value → World → Prop) (us 9) wz := hv 9 (by kernel_rfl)
      clear hA hv
      obtain ⟨A1, d1, e1, ho1, hn1⟩ := u4
      obtain ⟨A2, d2, e2, ho2, hn2⟩ := u9
      clear hf
      replace ho1 := Lib.hid ho1
      replace ho2 := Lib.hid ho2
      replace hn1 := Lib.hid hn1
      replace hn2 := Lib.hid hn2
      go_wp2
      exact hK _ _ ⟨_, _, rfl, ⟨A1, d1, rfl, ho1.out, hn1.out⟩, ⟨A2, d2, rfl, ho2.out, hn2.out⟩⟩ (Frm.refl _ _)
    refine owesL_cons (i' := 12) rfl ?_ ?_
    · refine o_q rfl (by kernel_rfl) (by kernel_rfl) (pl := []) (by kernel_rfl) fun us a wz hA hv hf hw K hK => ?_
      have s13 := slot_in hA (t := 13) (by simp) (j := 10) (by kernel_rfl)
      have u10 : ((fun u w' => ∃ v1 v2, u = .agg #[v1, v2] ∧ MyS w w' 29 36 n xs v1 ∧ MyS w w' 25 32 m ys v2) : Value → World → Prop) (us 10) wz := hv 10 (by kernel_rfl)
      clear hA hv
      obtain ⟨v1, v2, e1, h1, h2⟩ := u10
      have hsz := hf.size
      replace h1 := Lib.hid h1
      replace h2 := Lib.hid h2
      clear hf
      go_wp2
      exact hK _ _ ⟨_, v1, v2, rfl, hsz, Blk.new wz _ [_, _], h1.out.frm ((Frm.refl _ wz).alloc _), h2.out.frm ((Frm.refl _ wz).alloc _)⟩ ((Frm.refl _ wz).alloc _)
    refine owesL_cons (i' := 13) rfl ?_ ?_
    · refine o_q rfl (by kernel_rfl) (by kernel_rfl) (pl := []) (by kernel_rfl) fun us a wz hA hv hf hw K hK => ?_
      have s14 := slot_in hA (t := 14) (by simp) (j := 11) (by kernel_rfl)
      have u11 : ((fun u w' => ∃ g' v1 v2, u = .pointer (some ⟨g', 0, none⟩) ∧ w.heap.size ≤ g' ∧ Blk w' g' 73 [v1, v2] ∧ MyS w w' 29 36 n xs v1 ∧ MyS w w' 25 32 m ys v2) : Value → World → Prop) (us 11) wz := hv 11 (by kernel_rfl)
      clear hA hv
      obtain ⟨g', v1, v2, e1, h0, h3, h1, h2⟩ := u11
      replace h1 := Lib.hid h1
      replace h2 := Lib.hid h2
      replace h3 := Lib.hid h3
      clear hf
      go_wp2
      exact hK _ _ ⟨g', v1, v2, rfl, h0, h3.out, h1.out, h2.out⟩ (Frm.refl _ _)
    exact owesL_nil
  case hV => exact Stabs.vt (.cons (stab_is _ _) (.cons (stab_is _ _) (.cons (stab_is _ _) (.cons (stab_is _ _) (.cons (fun _ _ _ h hf => h.frm hf) (.cons (stab_is _ _) (.cons (stab_is _ _) (.cons (stab_is _ _) (.cons (stab_is _ _) (.cons (fun _ _ _ h hf => h.frm hf) (.cons (fun _ _ _ ⟨v1, v2, e, h1, h2⟩ hf => ⟨v1, v2, e, h1.frm hf, h2.frm hf⟩) (.cons (fun _ _ _ ⟨g', v1, v2, e, hg, hb, h1, h2⟩ hf => ⟨g', v1, v2, e, hg, hb.frm hf fun h => h, h1.frm hf, h2.frm hf⟩) (.cons (fun _ _ _ ⟨g', v1, v2, e, hg, hb, h1, h2⟩ hf => ⟨g', v1, v2, e, hg, hb.frm hf fun h => h, h1.frm hf, h2.frm hf⟩) (.nil))))))))))))))
  case hW => exact StabWs.wt (.cons (fun _ _ _ h _ => h) (.nil))
  case h0 =>
    trivial
  intro usx wx hvx hwx hfx
  have qx0 : usx 0 = _ := hvx 0 (by decide)
  have qx1 : usx 1 = _ := hvx 1 (by decide)
  have qx2 : usx 2 = _ := hvx 2 (by decide)
  have qx3 : usx 3 = _ := hvx 3 (by decide)
  have qx4 : ((fun u w' => MyS w w' 29 36 n xs u) : Value → World → Prop) (usx 4) wx := hvx 4 (by decide)
  have qx5 : usx 5 = _ := hvx 5 (by decide)
  have qx6 : usx 6 = _ := hvx 6 (by decide)
  have qx7 : usx 7 = _ := hvx 7 (by decide)
  have qx8 : usx 8 = _ := hvx 8 (by decide)
  have qx9 : ((fun u w' => MyS w w' 25 32 m ys u) : Value → World → Prop) (usx 9) wx := hvx 9 (by decide)
  have qx10 : ((fun u w' => ∃ v1 v2, u = .agg #[v1, v2] ∧ MyS w w' 29 36 n xs v1 ∧ MyS w w' 25 32 m ys v2) : Value → World → Prop) (usx 10) wx := hvx 10 (by decide)
  have qx11 : ((fun u w' => ∃ g' v1 v2, u = .pointer (some ⟨g', 0, none⟩) ∧ w.heap.size ≤ g' ∧ Blk w' g' 73 [v1, v2] ∧ MyS w w' 29 36 n xs v1 ∧ MyS w w' 25 32 m ys v2) : Value → World → Prop) (usx 11) wx := hvx 11 (by decide)
  have qx12 : ((fun u w' => ∃ g' v1 v2, u = .pointer (some ⟨g', 0, none⟩) ∧ w.heap.size ≤ g' ∧ Blk w' g' 73 [v1, v2] ∧ MyS w w' 29 36 n xs v1 ∧ MyS w w' 25 32 m ys v2) : Value → World → Prop) (usx 12) wx := hvx 12 (by decide)
  rw [fill_all (ds := [some 3, some 4, some 5, some 6, some 7, some 8, some 9, some 10, some 11, some 12, some 13, some 14, some 2]) (by kernel_rfl)]
  simp only [putAll, Act.put, List.setIfInBounds_toArray, List.set_cons_succ, List.set_cons_zero, Nat.reduceAdd, qx0, qx1, qx2, qx3, qx5, qx6, qx7, qx8]
  clear hvx qx0 qx1 qx2 qx3 qx5 qx6 qx7 qx8
  obtain ⟨g', v1, v2, e1, h0, h3, h1, h2⟩ := qx12
  replace h1 := Lib.hid h1
  replace h2 := Lib.hid h2
  replace h3 := Lib.hid h3
  go_wp2
  go_ret
  have hbe := (Frm.trans (Frm.refl _ w).drew hfx fun _ _ h => h).below
  refine ⟨g', rfl, h0, ?_⟩
  first
    | exact ⟨v1, v2, h3.out, h1.out, h2.out, hbe⟩
    | exact ⟨v1, v2, h3.out, h1.out, h2.out⟩
    | trace_state
end Go.Proofs.YtmajnoefddbflaaDoor
