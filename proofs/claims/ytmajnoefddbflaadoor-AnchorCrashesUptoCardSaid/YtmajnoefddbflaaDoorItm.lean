/- history.items: items that are right. -/
import Derived.Test.YtmajnoefddbflaaDoorLb
import Derived.Test.YtmajnoefddbflaaDoorProg
import Derived.Test.YtmajnoefddbflaaDoorNam
import Derived.Test.YtmajnoefddbflaaDoorRgn
import Derived.WalkKit
import Derived.WalkSpells
import Derived.WalkLawsBesides
import Derived.StillTactics
import Derived.Laws.Pointers
import Derived.Lib.Hide
import Derived.KernelRfl
namespace Go.Proofs.YtmajnoefddbflaaDoor
open Go.RowKit

set_option maxRecDepth 100000 in
set_option maxHeartbeats 1000000 in
theorem items_r4a {b o n c k g : Nat} {nm pn : ByteArray} {v : Ver} {u1 u2 u5 u6 u7 u8 u9 u10 u11 u12 u13 u14 u15 u16 u17 u18 u19 u20 u21 u22 u23 u24 u25 u26 u27 u28 u29 u30 u31 u32 u33 u34 u35 u36 u37 u38 u39 u40 : Value} {w : World} (cn : w.cell? ⟨g, 0, none⟩ = some (.string nm)) (hvr : w.rangeAt g 1 v.cells) (hk : k < n) (hn : n ≤ 1048576)
    (hno : nameOk nm = false) {Q : Exit → Act → World → Prop}
    (hQ : ∀ (x12 x13 x14 x15 x16 x17 x18 x19 x20 x21 x22 x23 x24 x25 x26 x27 x28 x29 x30 x31 x32 x33 x34 x35 : Value) (w' : World), Frm (fun _ => False) w w' → Q .normal ⟨(.slice (some ⟨b, o, none⟩) n c :: u1 :: u2 :: .int .i64 k :: .pointer (some ⟨g, 0, none⟩) :: u5 :: u6 :: u7 :: u8 :: u9 :: u10 :: u11 :: x12 :: x13 :: x14 :: x15 :: x16 :: x17 :: x18 :: x19 :: x20 :: x21 :: x22 :: x23 :: x24 :: x25 :: x26 :: x27 :: x28 :: x29 :: x30 :: x31 :: x32 :: x33 :: x34 :: x35 :: .bool true :: u37 :: u38 :: u39 :: u40 :: []).toArray, []⟩ w') :
    (regionOf Tryd.f46 4).wp Tryd.prog Q ⟨(.slice (some ⟨b, o, none⟩) n c :: u1 :: u2 :: .int .i64 k :: .pointer (some ⟨g, 0, none⟩) :: u5 :: u6 :: u7 :: u8 :: u9 :: u10 :: u11 :: u12 :: u13 :: u14 :: u15 :: u16 :: u17 :: u18 :: u19 :: u20 :: u21 :: u22 :: u23 :: u24 :: u25 :: u26 :: u27 :: u28 :: u29 :: u30 :: u31 :: u32 :: u33 :: u34 :: u35 :: u36 :: u37 :: u38 :: u39 :: u40 :: []).toArray, []⟩ w := by
  conv => arg 2; whnf
  apply wp_region_typed (fun _ => False) (nf [1, 2, 6, 7, 19, 21]) [] (vt [(Is _), (Is _), (Is _), (Is _), (Is _), (Is _), (Is _), (Is _), (Is _), (Is _), (Is _), (Is _), (Is _), (Is _), (Is _), (Is _), (Is _), (Is _), (Is _), (Is _), (Is _), (Is _), (Is _), (Is _), (Is _)]) (wt [(fun _ _ => True)]) (by kernel_rfl) (by kernel_rfl) (by kernel_rfl) (by kernel_rfl) (hop := owesL_all ?hop)
  case hop =>
    refine owesL_cons (i' := 1) rfl ?_ ?_
    · refine o_pure rfl (by kernel_rfl) fun us a wz hA hv K hK => ?_
      have s4 := slot_out hA (t := 4) (by kernel_rfl)
      clear hA hv
      go_wp2
      exact rfl
    refine owesL_cons (i' := 2) rfl ?_ ?_
    · refine o_q rfl (by kernel_rfl) (by kernel_rfl) (pl := []) (by kernel_rfl) fun us a wz hA hv hf hw K hK => ?_
      have s12 := (slot_in hA (t := 12) (by simp) (j := 0) (by kernel_rfl)).trans (hv 0 (by kernel_rfl))
      clear hA hv
      have k0 := hf.cell cn (fun h => h)
      clear hf
      go_wp2
      exact hK _ _ rfl (Frm.refl _ _)
    refine owesL_cons (i' := 3) rfl ?_ ?_
    · refine o_q rfl (by kernel_rfl) (by kernel_rfl) (pl := []) (by kernel_rfl) fun us a wz hA hv hf hw K hK => ?_
      have s13 := (slot_in hA (t := 13) (by simp) (j := 1) (by kernel_rfl)).trans (hv 1 (by kernel_rfl))
      clear hA hv
      clear hf
      go_wp2_with fail
      refine (name_any _ _).mono ?_
      rintro e w1 ⟨rfl, hp1⟩
      rw [hno]
      exact hK _ _ rfl (Frm.of_below hp1 _)
    refine owesL_cons (i' := 4) rfl ?_ ?_
    · refine o_pure rfl (by kernel_rfl) fun us a wz hA hv K hK => ?_
      have s14 := (slot_in hA (t := 14) (by simp) (j := 2) (by kernel_rfl)).trans (hv 2 (by kernel_rfl))
      clear hA hv
      go_wp2
      exact rfl
    refine owesL_cons (i' := 5) rfl ?_ ?_
    · refine o_pure rfl (by kernel_rfl) fun us a wz hA hv K hK => ?_
      have s15 := (slot_in hA (t := 15) (by simp) (j := 3) (by kernel_rfl)).trans (hv 3 (by kernel_rfl))
      clear hA hv
      go_wp2
      exact rfl
    refine owesL_cons (i' := 6) rfl ?_ ?_
    · refine o_pureg (by kernel_rfl) fun us a wz hA hv K hK => ?_
      have s4 := slot_out hA (t := 4) (by kernel_rfl)
      have s16 := (slot_in hA (t := 16) (by simp) (j := 4) (by kernel_rfl)).trans (hv 4 (by kernel_rfl))
      clear hA hv
      first
        | (rw [if_neg (guard_no (j := 4) (t := 16) rfl (by kernel_rfl) s16)]; exact hK _ rfl)
        | (rw [if_neg (guard_undef (j := 4) (t := 16) rfl (by kernel_rfl) s16)]; exact hK _ rfl)
        | (rw [if_pos (guard_yes (j := 4) (t := 16) rfl (by kernel_rfl) s16)]
           go_wp2
           exact rfl)
    refine owesL_cons (i' := 7) rfl ?_ ?_
    · refine o_qg (by kernel_rfl) (by kernel_rfl) (pl := []) (by kernel_rfl) fun us a wz hA hv hf hw K hK => ?_
      have s17 := (slot_in hA (t := 17) (by simp) (j := 5) (by kernel_rfl)).trans (hv 5 (by kernel_rfl))
      have s16 := (slot_in hA (t := 16) (by simp) (j := 4) (by kernel_rfl)).trans (hv 4 (by kernel_rfl))
      clear hA hv
      first
        | (rw [if_neg (guard_no (j := 4) (t := 16) rfl (by kernel_rfl) s16)]; exact hK _ _ rfl (Frm.refl _ _))
        | (rw [if_neg (guard_undef (j := 4) (t := 16) rfl (by kernel_rfl) s16)]; exact hK _ _ rfl (Frm.refl _ _))
        | (rw [if_pos (guard_yes (j := 4) (t := 16) rfl (by kernel_rfl) s16)]
           have k0 : wz.rangeAt g 1 v.cells := range_frm (F := fun _ => False) (show w.drew.rangeAt g 1 v.cells from hvr) hf fun h => h
           clear hf
           refine wp_load_mid 66 _ rfl g 1 (ev s17) v.cells _ k0 Tryd.underlying66 rfl (by kernel_rfl) ?_
           exact hK _ _ rfl (Frm.refl _ _))
    refine owesL_cons (i' := 8) rfl ?_ ?_
    · refine o_qg (by kernel_rfl) (by kernel_rfl) (pl := []) (by kernel_rfl) fun us a wz hA hv hf hw K hK => ?_
      have s18 := (slot_in hA (t := 18) (by simp) (j := 6) (by kernel_rfl)).trans (hv 6 (by kernel_rfl))
      have s16 := (slot_in hA (t := 16) (by simp) (j := 4) (by kernel_rfl)).trans (hv 4 (by kernel_rfl))
      clear hA hv
      first
        | (rw [if_neg (guard_no (j := 4) (t := 16) rfl (by kernel_rfl) s16)]; exact hK _ _ rfl (Frm.refl _ _))
        | (rw [if_neg (guard_undef (j := 4) (t := 16) rfl (by kernel_rfl) s16)]; exact hK _ _ rfl (Frm.refl _ _))
        | (rw [if_pos (guard_yes (j := 4) (t := 16) rfl (by kernel_rfl) s16)]
           clear hf
           go_wp2_with fail
           refine (verRight_any _ _).mono ?_
           rintro e w1 ⟨rfl, hp1⟩
           rw [hvo]
           exact hK _ _ rfl (Frm.of_below hp1 _))
    refine owesL_cons (i' := 9) rfl ?_ ?_
    · refine o_pureg (by kernel_rfl) fun us a wz hA hv K hK => ?_
      have s19 := (slot_in hA (t := 19) (by simp) (j := 7) (by kernel_rfl)).trans (hv 7 (by kernel_rfl))
      have s16 := (slot_in hA (t := 16) (by simp) (j := 4) (by kernel_rfl)).trans (hv 4 (by kernel_rfl))
      clear hA hv
      first
        | (rw [if_neg (guard_no (j := 4) (t := 16) rfl (by kernel_rfl) s16)]; exact hK _ rfl)
        | (rw [if_neg (guard_undef (j := 4) (t := 16) rfl (by kernel_rfl) s16)]; exact hK _ rfl)
        | (rw [if_pos (guard_yes (j := 4) (t := 16) rfl (by kernel_rfl) s16)]
           go_wp2
           exact rfl)
    refine owesL_cons (i' := 10) rfl ?_ ?_
    · refine o_pure rfl (by kernel_rfl) fun us a wz hA hv K hK => ?_
      have s16 := (slot_in hA (t := 16) (by simp) (j := 4) (by kernel_rfl)).trans (hv 4 (by kernel_rfl))
      have s20 := (slot_in hA (t := 20) (by simp) (j := 8) (by kernel_rfl)).trans (hv 8 (by kernel_rfl))
      clear hA hv
      go_wp2
      exact rfl
    refine owesL_cons (i' := 11) rfl ?_ ?_
    · refine o_pure rfl (by kernel_rfl) fun us a wz hA hv K hK => ?_
      have s21 := (slot_in hA (t := 21) (by simp) (j := 9) (by kernel_rfl)).trans (hv 9 (by kernel_rfl))
      clear hA hv
      go_wp2
      exact rfl
    refine owesL_cons (i' := 12) rfl ?_ ?_
    · refine o_pureg (by kernel_rfl) fun us a wz hA hv K hK => ?_
      have s3 := slot_out hA (t := 3) (by kernel_rfl)
      have s22 := (slot_in hA (t := 22) (by simp) (j := 10) (by kernel_rfl)).trans (hv 10 (by kernel_rfl))
      clear hA hv
      first
        | (rw [if_neg (guard_no (j := 10) (t := 22) rfl (by kernel_rfl) s22)]; exact hK _ rfl)
        | (rw [if_neg (guard_undef (j := 10) (t := 22) rfl (by kernel_rfl) s22)]; exact hK _ rfl)
        | (rw [if_pos (guard_yes (j := 10) (t := 22) rfl (by kernel_rfl) s22)]
           go_wp2
           exact rfl)
    refine owesL_cons (i' := 13) rfl ?_ ?_
    · refine o_pureg (by kernel_rfl) fun us a wz hA hv K hK => ?_
      have s23 := (slot_in hA (t := 23) (by simp) (j := 11) (by kernel_rfl)).trans (hv 11 (by kernel_rfl))
      have s22 := (slot_in hA (t := 22) (by simp) (j := 10) (by kernel_rfl)).trans (hv 10 (by kernel_rfl))
      clear hA hv
      first
        | (rw [if_neg (guard_no (j := 10) (t := 22) rfl (by kernel_rfl) s22)]; exact hK _ rfl)
        | (rw [if_neg (guard_undef (j := 10) (t := 22) rfl (by kernel_rfl) s22)]; exact hK _ rfl)
        | (rw [if_pos (guard_yes (j := 10) (t := 22) rfl (by kernel_rfl) s22)]
           go_wp2
           exact rfl)
    refine owesL_cons (i' := 14) rfl ?_ ?_
    · refine o_pureg (by kernel_rfl) fun us a wz hA hv K hK => ?_
      have s24 := (slot_in hA (t := 24) (by simp) (j := 12) (by kernel_rfl)).trans (hv 12 (by kernel_rfl))
      have s22 := (slot_in hA (t := 22) (by simp) (j := 10) (by kernel_rfl)).trans (hv 10 (by kernel_rfl))
      clear hA hv
      first
        | (rw [if_neg (guard_no (j := 10) (t := 22) rfl (by kernel_rfl) s22)]; exact hK _ rfl)
        | (rw [if_neg (guard_undef (j := 10) (t := 22) rfl (by kernel_rfl) s22)]; exact hK _ rfl)
        | (rw [if_pos (guard_yes (j := 10) (t := 22) rfl (by kernel_rfl) s22)]
           go_wp2
           exact rfl)
    refine owesL_cons (i' := 15) rfl ?_ ?_
    · refine o_pureg (by kernel_rfl) fun us a wz hA hv K hK => ?_
      have s0 := slot_out hA (t := 0) (by kernel_rfl)
      have s25 := (slot_in hA (t := 25) (by simp) (j := 13) (by kernel_rfl)).trans (hv 13 (by kernel_rfl))
      clear hA hv
      first
        | (rw [if_neg (guard_no (j := 13) (t := 25) rfl (by kernel_rfl) s25)]; exact hK _ rfl)
        | (rw [if_neg (guard_undef (j := 13) (t := 25) rfl (by kernel_rfl) s25)]; exact hK _ rfl)
        | (rw [if_pos (guard_yes (j := 13) (t := 25) rfl (by kernel_rfl) s25)]
           go_wp2
           exact rfl)
    refine owesL_cons (i' := 16) rfl ?_ ?_
    · refine o_pureg (by kernel_rfl) fun us a wz hA hv K hK => ?_
      have s3 := slot_out hA (t := 3) (by kernel_rfl)
      have s25 := (slot_in hA (t := 25) (by simp) (j := 13) (by kernel_rfl)).trans (hv 13 (by kernel_rfl))
      clear hA hv
      first
        | (rw [if_neg (guard_no (j := 13) (t := 25) rfl (by kernel_rfl) s25)]; exact hK _ rfl)
        | (rw [if_neg (guard_undef (j := 13) (t := 25) rfl (by kernel_rfl) s25)]; exact hK _ rfl)
        | (rw [if_pos (guard_yes (j := 13) (t := 25) rfl (by kernel_rfl) s25)]
           go_wp2
           exact rfl)
    refine owesL_cons (i' := 17) rfl ?_ ?_
    · refine o_pureg (by kernel_rfl) fun us a wz hA hv K hK => ?_
      have s27 := (slot_in hA (t := 27) (by simp) (j := 15) (by kernel_rfl)).trans (hv 15 (by kernel_rfl))
      have s25 := (slot_in hA (t := 25) (by simp) (j := 13) (by kernel_rfl)).trans (hv 13 (by kernel_rfl))
      clear hA hv
      first
        | (rw [if_neg (guard_no (j := 13) (t := 25) rfl (by kernel_rfl) s25)]; exact hK _ rfl)
        | (rw [if_neg (guard_undef (j := 13) (t := 25) rfl (by kernel_rfl) s25)]; exact hK _ rfl)
        | (rw [if_pos (guard_yes (j := 13) (t := 25) rfl (by kernel_rfl) s25)]
           go_wp2
           exact rfl)
    refine owesL_cons (i' := 18) rfl ?_ ?_
    · refine o_pureg (by kernel_rfl) fun us a wz hA hv K hK => ?_
      have s26 := (slot_in hA (t := 26) (by simp) (j := 14) (by kernel_rfl)).trans (hv 14 (by kernel_rfl))
      have s28 := (slot_in hA (t := 28) (by simp) (j := 16) (by kernel_rfl)).trans (hv 16 (by kernel_rfl))
      have s25 := (slot_in hA (t := 25) (by simp) (j := 13) (by kernel_rfl)).trans (hv 13 (by kernel_rfl))
      clear hA hv
      first
        | (rw [if_neg (guard_no (j := 13) (t := 25) rfl (by kernel_rfl) s25)]; exact hK _ rfl)
        | (rw [if_neg (guard_undef (j := 13) (t := 25) rfl (by kernel_rfl) s25)]; exact hK _ rfl)
        | (rw [if_pos (guard_yes (j := 13) (t := 25) rfl (by kernel_rfl) s25)]
           go_wp2
           exact rfl)
    refine owesL_cons (i' := 19) rfl ?_ ?_
    · refine o_pureg (by kernel_rfl) fun us a wz hA hv K hK => ?_
      have s29 := (slot_in hA (t := 29) (by simp) (j := 17) (by kernel_rfl)).trans (hv 17 (by kernel_rfl))
      have s25 := (slot_in hA (t := 25) (by simp) (j := 13) (by kernel_rfl)).trans (hv 13 (by kernel_rfl))
      clear hA hv
      first
        | (rw [if_neg (guard_no (j := 13) (t := 25) rfl (by kernel_rfl) s25)]; exact hK _ rfl)
        | (rw [if_neg (guard_undef (j := 13) (t := 25) rfl (by kernel_rfl) s25)]; exact hK _ rfl)
        | (rw [if_pos (guard_yes (j := 13) (t := 25) rfl (by kernel_rfl) s25)]
           go_wp2
           exact rfl)
    refine owesL_cons (i' := 20) rfl ?_ ?_
    · refine o_qg (by kernel_rfl) (by kernel_rfl) (pl := []) (by kernel_rfl) fun us a wz hA hv hf hw K hK => ?_
      have s30 := (slot_in hA (t := 30) (by simp) (j := 18) (by kernel_rfl)).trans (hv 18 (by kernel_rfl))
      have s25 := (slot_in hA (t := 25) (by simp) (j := 13) (by kernel_rfl)).trans (hv 13 (by kernel_rfl))
      clear hA hv
      first
        | (rw [if_neg (guard_no (j := 13) (t := 25) rfl (by kernel_rfl) s25)]; exact hK _ _ rfl (Frm.refl _ _))
        | (rw [if_neg (guard_undef (j := 13) (t := 25) rfl (by kernel_rfl) s25)]; exact hK _ _ rfl (Frm.refl _ _))
        | (rw [if_pos (guard_yes (j := 13) (t := 25) rfl (by kernel_rfl) s25)]
           have k0 := hf.cell cp (fun h => h)
           clear hf
           go_wp2
           exact hK _ _ rfl (Frm.refl _ _))
    refine owesL_cons (i' := 21) rfl ?_ ?_
    · refine o_pureg (by kernel_rfl) fun us a wz hA hv K hK => ?_
      have s4 := slot_out hA (t := 4) (by kernel_rfl)
      have s25 := (slot_in hA (t := 25) (by simp) (j := 13) (by kernel_rfl)).trans (hv 13 (by kernel_rfl))
      clear hA hv
      first
        | (rw [if_neg (guard_no (j := 13) (t := 25) rfl (by kernel_rfl) s25)]; exact hK _ rfl)
        | (rw [if_neg (guard_undef (j := 13) (t := 25) rfl (by kernel_rfl) s25)]; exact hK _ rfl)
        | (rw [if_pos (guard_yes (j := 13) (t := 25) rfl (by kernel_rfl) s25)]
           go_wp2
           exact rfl)
    refine owesL_cons (i' := 22) rfl ?_ ?_
    · refine o_qg (by kernel_rfl) (by kernel_rfl) (pl := []) (by kernel_rfl) fun us a wz hA hv hf hw K hK => ?_
      have s32 := (slot_in hA (t := 32) (by simp) (j := 20) (by kernel_rfl)).trans (hv 20 (by kernel_rfl))
      have s25 := (slot_in hA (t := 25) (by simp) (j := 13) (by kernel_rfl)).trans (hv 13 (by kernel_rfl))
      clear hA hv
      first
        | (rw [if_neg (guard_no (j := 13) (t := 25) rfl (by kernel_rfl) s25)]; exact hK _ _ rfl (Frm.refl _ _))
        | (rw [if_neg (guard_undef (j := 13) (t := 25) rfl (by kernel_rfl) s25)]; exact hK _ _ rfl (Frm.refl _ _))
        | (rw [if_pos (guard_yes (j := 13) (t := 25) rfl (by kernel_rfl) s25)]
           have k0 := hf.cell cn (fun h => h)
           clear hf
           go_wp2
           exact hK _ _ rfl (Frm.refl _ _))
    refine owesL_cons (i' := 23) rfl ?_ ?_
    · refine o_pureg (by kernel_rfl) fun us a wz hA hv K hK => ?_
      have s31 := (slot_in hA (t := 31) (by simp) (j := 19) (by kernel_rfl)).trans (hv 19 (by kernel_rfl))
      have s33 := (slot_in hA (t := 33) (by simp) (j := 21) (by kernel_rfl)).trans (hv 21 (by kernel_rfl))
      have s25 := (slot_in hA (t := 25) (by simp) (j := 13) (by kernel_rfl)).trans (hv 13 (by kernel_rfl))
      clear hA hv
      first
        | (rw [if_neg (guard_no (j := 13) (t := 25) rfl (by kernel_rfl) s25)]; exact hK _ rfl)
        | (rw [if_neg (guard_undef (j := 13) (t := 25) rfl (by kernel_rfl) s25)]; exact hK _ rfl)
        | (rw [if_pos (guard_yes (j := 13) (t := 25) rfl (by kernel_rfl) s25)]
           go_wp2
           exact rfl)
    refine owesL_cons (i' := 24) rfl ?_ ?_
    · refine o_pureg (by kernel_rfl) fun us a wz hA hv K hK => ?_
      have s25 := (slot_in hA (t := 25) (by simp) (j := 13) (by kernel_rfl)).trans (hv 13 (by kernel_rfl))
      have s34 := (slot_in hA (t := 34) (by simp) (j := 22) (by kernel_rfl)).trans (hv 22 (by kernel_rfl))
      have s22 := (slot_in hA (t := 22) (by simp) (j := 10) (by kernel_rfl)).trans (hv 10 (by kernel_rfl))
      clear hA hv
      first
        | (rw [if_neg (guard_no (j := 10) (t := 22) rfl (by kernel_rfl) s22)]; exact hK _ rfl)
        | (rw [if_neg (guard_undef (j := 10) (t := 22) rfl (by kernel_rfl) s22)]; exact hK _ rfl)
        | (rw [if_pos (guard_yes (j := 10) (t := 22) rfl (by kernel_rfl) s22)]
           go_wp2
           exact rfl)
    refine owesL_cons (i' := 25) rfl ?_ ?_
    · refine o_pure rfl (by kernel_rfl) fun us a wz hA hv K hK => ?_
      have s22 := (slot_in hA (t := 22) (by simp) (j := 10) (by kernel_rfl)).trans (hv 10 (by kernel_rfl))
      have s35 := (slot_in hA (t := 35) (by simp) (j := 23) (by kernel_rfl)).trans (hv 23 (by kernel_rfl))
      clear hA hv
      go_wp2
      exact rfl
    exact owesL_nil
  case hV => exact Stabs.vt (.cons (stab_is _ _) (.cons (stab_is _ _) (.cons (stab_is _ _) (.cons (stab_is _ _) (.cons (stab_is _ _) (.cons (stab_is _ _) (.cons (stab_is _ _) (.cons (stab_is _ _) (.cons (stab_is _ _) (.cons (stab_is _ _) (.cons (stab_is _ _) (.cons (stab_is _ _) (.cons (stab_is _ _) (.cons (stab_is _ _) (.cons (stab_is _ _) (.cons (stab_is _ _) (.cons (stab_is _ _) (.cons (stab_is _ _) (.cons (stab_is _ _) (.cons (stab_is _ _) (.cons (stab_is _ _) (.cons (stab_is _ _) (.cons (stab_is _ _) (.cons (stab_is _ _) (.cons (stab_is _ _) (.nil))))))))))))))))))))))))))
  case hW => exact StabWs.wt (.cons (fun _ _ _ h _ => h) (.nil))
  case h0 =>
    trivial
  intro usx wx hvx hwx hfx
  have qx0 : usx 0 = _ := hvx 0 (by decide)
  have qx1 : usx 1 = _ := hvx 1 (by decide)
  have qx2 : usx 2 = _ := hvx 2 (by decide)
  have qx3 : usx 3 = _ := hvx 3 (by decide)
  have qx4 : usx 4 = _ := hvx 4 (by decide)
  have qx5 : usx 5 = _ := hvx 5 (by decide)
  have qx6 : usx 6 = _ := hvx 6 (by decide)
  have qx7 : usx 7 = _ := hvx 7 (by decide)
  have qx8 : usx 8 = _ := hvx 8 (by decide)
  have qx9 : usx 9 = _ := hvx 9 (by decide)
  have qx10 : usx 10 = _ := hvx 10 (by decide)
  have qx11 : usx 11 = _ := hvx 11 (by decide)
  have qx12 : usx 12 = _ := hvx 12 (by decide)
  have qx13 : usx 13 = _ := hvx 13 (by decide)
  have qx14 : usx 14 = _ := hvx 14 (by decide)
  have qx15 : usx 15 = _ := hvx 15 (by decide)
  have qx16 : usx 16 = _ := hvx 16 (by decide)
  have qx17 : usx 17 = _ := hvx 17 (by decide)
  have qx18 : usx 18 = _ := hvx 18 (by decide)
  have qx19 : usx 19 = _ := hvx 19 (by decide)
  have qx20 : usx 20 = _ := hvx 20 (by decide)
  have qx21 : usx 21 = _ := hvx 21 (by decide)
  have qx22 : usx 22 = _ := hvx 22 (by decide)
  have qx23 : usx 23 = _ := hvx 23 (by decide)
  have qx24 : usx 24 = _ := hvx 24 (by decide)
  rw [fill_all (ds := [some 12, some 13, some 14, some 15, some 16, some 17, some 18, some 19, some 20, some 21, some 22, some 23, some 24, some 25, some 26, some 27, some 28, some 29, some 30, some 31, some 32, some 33, some 34, some 35, some 36]) (by kernel_rfl)]
  simp only [putAll, Act.put, List.setIfInBounds_toArray, List.set_cons_succ, List.set_cons_zero, Nat.reduceAdd, qx0, qx1, qx2, qx3, qx4, qx5, qx6, qx7, qx8, qx9, qx10, qx11, qx12, qx13, qx14, qx15, qx16, qx17, qx18, qx19, qx20, qx21, qx22, qx23, qx24]
  clear hvx qx0 qx1 qx2 qx3 qx4 qx5 qx6 qx7 qx8 qx9 qx10 qx11 qx12 qx13 qx14 qx15 qx16 qx17 qx18 qx19 qx20 qx21 qx22 qx23 qx24
  exact hQ _ _ _ _ _ _ _ _ _ _ _ _ _ _ _ _ _ _ _ _ _ _ _ _ _ ((Frm.refl _ _).drew.trans hfx fun _ _ h => h)
set_option maxRecDepth 100000 in
set_option maxHeartbeats 1000000 in
theorem items_r4b {b o n c k g : Nat} {nm pn : ByteArray} {v : Ver} {u1 u2 u5 u6 u7 u8 u9 u10 u11 u12 u13 u14 u15 u16 u17 u18 u19 u20 u21 u22 u23 u24 u25 u26 u27 u28 u29 u30 u31 u32 u33 u34 u35 u36 u37 u38 u39 u40 : Value} {w : World} (cn : w.cell? ⟨g, 0, none⟩ = some (.string nm)) (hvr : w.rangeAt g 1 v.cells) (hk : k < n) (hn : n ≤ 1048576)
    (hno : nameOk nm = true) (hvo : v.ok = false) {Q : Exit → Act → World → Prop}
    (hQ : ∀ (x12 x13 x14 x15 x16 x17 x18 x19 x20 x21 x22 x23 x24 x25 x26 x27 x28 x29 x30 x31 x32 x33 x34 x35 : Value) (w' : World), Frm (fun _ => False) w w' → Q .normal ⟨(.slice (some ⟨b, o, none⟩) n c :: u1 :: u2 :: .int .i64 k :: .pointer (some ⟨g, 0, none⟩) :: u5 :: u6 :: u7 :: u8 :: u9 :: u10 :: u11 :: x12 :: x13 :: x14 :: x15 :: x16 :: x17 :: x18 :: x19 :: x20 :: x21 :: x22 :: x23 :: x24 :: x25 :: x26 :: x27 :: x28 :: x29 :: x30 :: x31 :: x32 :: x33 :: x34 :: x35 :: .bool true :: u37 :: u38 :: u39 :: u40 :: []).toArray, []⟩ w') :
    (regionOf Tryd.f46 4).wp Tryd.prog Q ⟨(.slice (some ⟨b, o, none⟩) n c :: u1 :: u2 :: .int .i64 k :: .pointer (some ⟨g, 0, none⟩) :: u5 :: u6 :: u7 :: u8 :: u9 :: u10 :: u11 :: u12 :: u13 :: u14 :: u15 :: u16 :: u17 :: u18 :: u19 :: u20 :: u21 :: u22 :: u23 :: u24 :: u25 :: u26 :: u27 :: u28 :: u29 :: u30 :: u31 :: u32 :: u33 :: u34 :: u35 :: u36 :: u37 :: u38 :: u39 :: u40 :: []).toArray, []⟩ w := by
  conv => arg 2; whnf
  apply wp_region_typed (fun _ => False) (nf [1, 2, 6, 7, 19, 21]) [] (vt [(Is _), (Is _), (Is _), (Is _), (Is _), (Is _), (Is _), (Is _), (Is _), (Is _), (Is _), (Is _), (Is _), (Is _), (Is _), (Is _), (Is _), (Is _), (Is _), (Is _), (Is _), (Is _), (Is _), (Is _), (Is _)]) (wt [(fun _ _ => True)]) (by kernel_rfl) (by kernel_rfl) (by kernel_rfl) (by kernel_rfl) (hop := owesL_all ?hop)
  case hop =>
    refine owesL_cons (i' := 1) rfl ?_ ?_
    · refine o_pure rfl (by kernel_rfl) fun us a wz hA hv K hK => ?_
      have s4 := slot_out hA (t := 4) (by kernel_rfl)
      clear hA hv
      go_wp2
      exact rfl
    refine owesL_cons (i' := 2) rfl ?_ ?_
    · refine o_q rfl (by kernel_rfl) (by kernel_rfl) (pl := []) (by kernel_rfl) fun us a wz hA hv hf hw K hK => ?_
      have s12 := (slot_in hA (t := 12) (by simp) (j := 0) (by kernel_rfl)).trans (hv 0 (by kernel_rfl))
      clear hA hv
      have k0 := hf.cell cn (fun h => h)
      clear hf
      go_wp2
      exact hK _ _ rfl (Frm.refl _ _)
    refine owesL_cons (i' := 3) rfl ?_ ?_
    · refine o_q rfl (by kernel_rfl) (by kernel_rfl) (pl := []) (by kernel_rfl) fun us a wz hA hv hf hw K hK => ?_
      have s13 := (slot_in hA (t := 13) (by simp) (j := 1) (by kernel_rfl)).trans (hv 1 (by kernel_rfl))
      clear hA hv
      clear hf
      go_wp2_with fail
      refine (name_any _ _).mono ?_
      rintro e w1 ⟨rfl, hp1⟩
      rw [hno]
      exact hK _ _ rfl (Frm.of_below hp1 _)
    refine owesL_cons (i' := 4) rfl ?_ ?_
    · refine o_pure rfl (by kernel_rfl) fun us a wz hA hv K hK => ?_
      have s14 := (slot_in hA (t := 14) (by simp) (j := 2) (by kernel_rfl)).trans (hv 2 (by kernel_rfl))
      clear hA hv
      go_wp2
      exact rfl
    refine owesL_cons (i' := 5) rfl ?_ ?_
    · refine o_pure rfl (by kernel_rfl) fun us a wz hA hv K hK => ?_
      have s15 := (slot_in hA (t := 15) (by simp) (j := 3) (by kernel_rfl)).trans (hv 3 (by kernel_rfl))
      clear hA hv
      go_wp2
      exact rfl
    refine owesL_cons (i' := 6) rfl ?_ ?_
    · refine o_pureg (by kernel_rfl) fun us a wz hA hv K hK => ?_
      have s4 := slot_out hA (t := 4) (by kernel_rfl)
      have s16 := (slot_in hA (t := 16) (by simp) (j := 4) (by kernel_rfl)).trans (hv 4 (by kernel_rfl))
      clear hA hv
      first
        | (rw [if_neg (guard_no (j := 4) (t := 16) rfl (by kernel_rfl) s16)]; exact hK _ rfl)
        | (rw [if_neg (guard_undef (j := 4) (t := 16) rfl (by kernel_rfl) s16)]; exact hK _ rfl)
        | (rw [if_pos (guard_yes (j := 4) (t := 16) rfl (by kernel_rfl) s16)]
           go_wp2
           exact rfl)
    refine owesL_cons (i' := 7) rfl ?_ ?_
    · refine o_qg (by kernel_rfl) (by kernel_rfl) (pl := []) (by kernel_rfl) fun us a wz hA hv hf hw K hK => ?_
      have s17 := (slot_in hA (t := 17) (by simp) (j := 5) (by kernel_rfl)).trans (hv 5 (by kernel_rfl))
      have s16 := (slot_in hA (t := 16) (by simp) (j := 4) (by kernel_rfl)).trans (hv 4 (by kernel_rfl))
      clear hA hv
      first
        | (rw [if_neg (guard_no (j := 4) (t := 16) rfl (by kernel_rfl) s16)]; exact hK _ _ rfl (Frm.refl _ _))
        | (rw [if_neg (guard_undef (j := 4) (t := 16) rfl (by kernel_rfl) s16)]; exact hK _ _ rfl (Frm.refl _ _))
        | (rw [if_pos (guard_yes (j := 4) (t := 16) rfl (by kernel_rfl) s16)]
           have k0 : wz.rangeAt g 1 v.cells := range_frm (F := fun _ => False) (show w.drew.rangeAt g 1 v.cells from hvr) hf fun h => h
           clear hf
           refine wp_load_mid 66 _ rfl g 1 (ev s17) v.cells _ k0 Tryd.underlying66 rfl (by kernel_rfl) ?_
           exact hK _ _ rfl (Frm.refl _ _))
    refine owesL_cons (i' := 8) rfl ?_ ?_
    · refine o_qg (by kernel_rfl) (by kernel_rfl) (pl := []) (by kernel_rfl) fun us a wz hA hv hf hw K hK => ?_
      have s18 := (slot_in hA (t := 18) (by simp) (j := 6) (by kernel_rfl)).trans (hv 6 (by kernel_rfl))
      have s16 := (slot_in hA (t := 16) (by simp) (j := 4) (by kernel_rfl)).trans (hv 4 (by kernel_rfl))
      clear hA hv
      first
        | (rw [if_neg (guard_no (j := 4) (t := 16) rfl (by kernel_rfl) s16)]; exact hK _ _ rfl (Frm.refl _ _))
        | (rw [if_neg (guard_undef (j := 4) (t := 16) rfl (by kernel_rfl) s16)]; exact hK _ _ rfl (Frm.refl _ _))
        | (rw [if_pos (guard_yes (j := 4) (t := 16) rfl (by kernel_rfl) s16)]
           clear hf
           go_wp2_with fail
           refine (verRight_any _ _).mono ?_
           rintro e w1 ⟨rfl, hp1⟩
           rw [hvo]
           exact hK _ _ rfl (Frm.of_below hp1 _))
    refine owesL_cons (i' := 9) rfl ?_ ?_
    · refine o_pureg (by kernel_rfl) fun us a wz hA hv K hK => ?_
      have s19 := (slot_in hA (t := 19) (by simp) (j := 7) (by kernel_rfl)).trans (hv 7 (by kernel_rfl))
      have s16 := (slot_in hA (t := 16) (by simp) (j := 4) (by kernel_rfl)).trans (hv 4 (by kernel_rfl))
      clear hA hv
      first
        | (rw [if_neg (guard_no (j := 4) (t := 16) rfl (by kernel_rfl) s16)]; exact hK _ rfl)
        | (rw [if_neg (guard_undef (j := 4) (t := 16) rfl (by kernel_rfl) s16)]; exact hK _ rfl)
        | (rw [if_pos (guard_yes (j := 4) (t := 16) rfl (by kernel_rfl) s16)]
           go_wp2
           exact rfl)
    refine owesL_cons (i' := 10) rfl ?_ ?_
    · refine o_pure rfl (by kernel_rfl) fun us a wz hA hv K hK => ?_
      have s16 := (slot_in hA (t := 16) (by simp) (j := 4) (by kernel_rfl)).trans (hv 4 (by kernel_rfl))
      have s20 := (slot_in hA (t := 20) (by simp) (j := 8) (by kernel_rfl)).trans (hv 8 (by kernel_rfl))
      clear hA hv
      go_wp2
      exact rfl
    refine owesL_cons (i' := 11) rfl ?_ ?_
    · refine o_pure rfl (by kernel_rfl) fun us a wz hA hv K hK => ?_
      have s21 := (slot_in hA (t := 21) (by simp) (j := 9) (by kernel_rfl)).trans (hv 9 (by kernel_rfl))
      clear hA hv
      go_wp2
      exact rfl
    refine owesL_cons (i' := 12) rfl ?_ ?_
    · refine o_pureg (by kernel_rfl) fun us a wz hA hv K hK => ?_
      have s3 := slot_out hA (t := 3) (by kernel_rfl)
      have s22 := (slot_in hA (t := 22) (by simp) (j := 10) (by kernel_rfl)).trans (hv 10 (by kernel_rfl))
      clear hA hv
      first
        | (rw [if_neg (guard_no (j := 10) (t := 22) rfl (by kernel_rfl) s22)]; exact hK _ rfl)
        | (rw [if_neg (guard_undef (j := 10) (t := 22) rfl (by kernel_rfl) s22)]; exact hK _ rfl)
        | (rw [if_pos (guard_yes (j := 10) (t := 22) rfl (by kernel_rfl) s22)]
           go_wp2
           exact rfl)
    refine owesL_cons (i' := 13) rfl ?_ ?_
    · refine o_pureg (by kernel_rfl) fun us a wz hA hv K hK => ?_
      have s23 := (slot_in hA (t := 23) (by simp) (j := 11) (by kernel_rfl)).trans (hv 11 (by kernel_rfl))
      have s22 := (slot_in hA (t := 22) (by simp) (j := 10) (by kernel_rfl)).trans (hv 10 (by kernel_rfl))
      clear hA hv
      first
        | (rw [if_neg (guard_no (j := 10) (t := 22) rfl (by kernel_rfl) s22)]; exact hK _ rfl)
        | (rw [if_neg (guard_undef (j := 10) (t := 22) rfl (by kernel_rfl) s22)]; exact hK _ rfl)
        | (rw [if_pos (guard_yes (j := 10) (t := 22) rfl (by kernel_rfl) s22)]
           go_wp2
           exact rfl)
    refine owesL_cons (i' := 14) rfl ?_ ?_
    · refine o_pureg (by kernel_rfl) fun us a wz hA hv K hK => ?_
      have s24 := (slot_in hA (t := 24) (by simp) (j := 12) (by kernel_rfl)).trans (hv 12 (by kernel_rfl))
      have s22 := (slot_in hA (t := 22) (by simp) (j := 10) (by kernel_rfl)).trans (hv 10 (by kernel_rfl))
      clear hA hv
      first
        | (rw [if_neg (guard_no (j := 10) (t := 22) rfl (by kernel_rfl) s22)]; exact hK _ rfl)
        | (rw [if_neg (guard_undef (j := 10) (t := 22) rfl (by kernel_rfl) s22)]; exact hK _ rfl)
        | (rw [if_pos (guard_yes (j := 10) (t := 22) rfl (by kernel_rfl) s22)]
           go_wp2
           exact rfl)
    refine owesL_cons (i' := 15) rfl ?_ ?_
    · refine o_pureg (by kernel_rfl) fun us a wz hA hv K hK => ?_
      have s0 := slot_out hA (t := 0) (by kernel_rfl)
      have s25 := (slot_in hA (t := 25) (by simp) (j := 13) (by kernel_rfl)).trans (hv 13 (by kernel_rfl))
      clear hA hv
      first
        | (rw [if_neg (guard_no (j := 13) (t := 25) rfl (by kernel_rfl) s25)]; exact hK _ rfl)
        | (rw [if_neg (guard_undef (j := 13) (t := 25) rfl (by kernel_rfl) s25)]; exact hK _ rfl)
        | (rw [if_pos (guard_yes (j := 13) (t := 25) rfl (by kernel_rfl) s25)]
           go_wp2
           exact rfl)
    refine owesL_cons (i' := 16) rfl ?_ ?_
    · refine o_pureg (by kernel_rfl) fun us a wz hA hv K hK => ?_
      have s3 := slot_out hA (t := 3) (by kernel_rfl)
      have s25 := (slot_in hA (t := 25) (by simp) (j := 13) (by kernel_rfl)).trans (hv 13 (by kernel_rfl))
      clear hA hv
      first
        | (rw [if_neg (guard_no (j := 13) (t := 25) rfl (by kernel_rfl) s25)]; exact hK _ rfl)
        | (rw [if_neg (guard_undef (j := 13) (t := 25) rfl (by kernel_rfl) s25)]; exact hK _ rfl)
        | (rw [if_pos (guard_yes (j := 13) (t := 25) rfl (by kernel_rfl) s25)]
           go_wp2
           exact rfl)
    refine owesL_cons (i' := 17) rfl ?_ ?_
    · refine o_pureg (by kernel_rfl) fun us a wz hA hv K hK => ?_
      have s27 := (slot_in hA (t := 27) (by simp) (j := 15) (by kernel_rfl)).trans (hv 15 (by kernel_rfl))
      have s25 := (slot_in hA (t := 25) (by simp) (j := 13) (by kernel_rfl)).trans (hv 13 (by kernel_rfl))
      clear hA hv
      first
        | (rw [if_neg (guard_no (j := 13) (t := 25) rfl (by kernel_rfl) s25)]; exact hK _ rfl)
        | (rw [if_neg (guard_undef (j := 13) (t := 25) rfl (by kernel_rfl) s25)]; exact hK _ rfl)
        | (rw [if_pos (guard_yes (j := 13) (t := 25) rfl (by kernel_rfl) s25)]
           go_wp2
           exact rfl)
    refine owesL_cons (i' := 18) rfl ?_ ?_
    · refine o_pureg (by kernel_rfl) fun us a wz hA hv K hK => ?_
      have s26 := (slot_in hA (t := 26) (by simp) (j := 14) (by kernel_rfl)).trans (hv 14 (by kernel_rfl))
      have s28 := (slot_in hA (t := 28) (by simp) (j := 16) (by kernel_rfl)).trans (hv 16 (by kernel_rfl))
      have s25 := (slot_in hA (t := 25) (by simp) (j := 13) (by kernel_rfl)).trans (hv 13 (by kernel_rfl))
      clear hA hv
      first
        | (rw [if_neg (guard_no (j := 13) (t := 25) rfl (by kernel_rfl) s25)]; exact hK _ rfl)
        | (rw [if_neg (guard_undef (j := 13) (t := 25) rfl (by kernel_rfl) s25)]; exact hK _ rfl)
        | (rw [if_pos (guard_yes (j := 13) (t := 25) rfl (by kernel_rfl) s25)]
           go_wp2
           exact rfl)
    refine owesL_cons (i' := 19) rfl ?_ ?_
    · refine o_pureg (by kernel_rfl) fun us a wz hA hv K hK => ?_
      have s29 := (slot_in hA (t := 29) (by simp) (j := 17) (by kernel_rfl)).trans (hv 17 (by kernel_rfl))
      have s25 := (slot_in hA (t := 25) (by simp) (j := 13) (by kernel_rfl)).trans (hv 13 (by kernel_rfl))
      clear hA hv
      first
        | (rw [if_neg (guard_no (j := 13) (t := 25) rfl (by kernel_rfl) s25)]; exact hK _ rfl)
        | (rw [if_neg (guard_undef (j := 13) (t := 25) rfl (by kernel_rfl) s25)]; exact hK _ rfl)
        | (rw [if_pos (guard_yes (j := 13) (t := 25) rfl (by kernel_rfl) s25)]
           go_wp2
           exact rfl)
    refine owesL_cons (i' := 20) rfl ?_ ?_
    · refine o_qg (by kernel_rfl) (by kernel_rfl) (pl := []) (by kernel_rfl) fun us a wz hA hv hf hw K hK => ?_
      have s30 := (slot_in hA (t := 30) (by simp) (j := 18) (by kernel_rfl)).trans (hv 18 (by kernel_rfl))
      have s25 := (slot_in hA (t := 25) (by simp) (j := 13) (by kernel_rfl)).trans (hv 13 (by kernel_rfl))
      clear hA hv
      first
        | (rw [if_neg (guard_no (j := 13) (t := 25) rfl (by kernel_rfl) s25)]; exact hK _ _ rfl (Frm.refl _ _))
        | (rw [if_neg (guard_undef (j := 13) (t := 25) rfl (by kernel_rfl) s25)]; exact hK _ _ rfl (Frm.refl _ _))
        | (rw [if_pos (guard_yes (j := 13) (t := 25) rfl (by kernel_rfl) s25)]
           have k0 := hf.cell cp (fun h => h)
           clear hf
           go_wp2
           exact hK _ _ rfl (Frm.refl _ _))
    refine owesL_cons (i' := 21) rfl ?_ ?_
    · refine o_pureg (by kernel_rfl) fun us a wz hA hv K hK => ?_
      have s4 := slot_out hA (t := 4) (by kernel_rfl)
      have s25 := (slot_in hA (t := 25) (by simp) (j := 13) (by kernel_rfl)).trans (hv 13 (by kernel_rfl))
      clear hA hv
      first
        | (rw [if_neg (guard_no (j := 13) (t := 25) rfl (by kernel_rfl) s25)]; exact hK _ rfl)
        | (rw [if_neg (guard_undef (j := 13) (t := 25) rfl (by kernel_rfl) s25)]; exact hK _ rfl)
        | (rw [if_pos (guard_yes (j := 13) (t := 25) rfl (by kernel_rfl) s25)]
           go_wp2
           exact rfl)
    refine owesL_cons (i' := 22) rfl ?_ ?_
    · refine o_qg (by kernel_rfl) (by kernel_rfl) (pl := []) (by kernel_rfl) fun us a wz hA hv hf hw K hK => ?_
      have s32 := (slot_in hA (t := 32) (by simp) (j := 20) (by kernel_rfl)).trans (hv 20 (by kernel_rfl))
      have s25 := (slot_in hA (t := 25) (by simp) (j := 13) (by kernel_rfl)).trans (hv 13 (by kernel_rfl))
      clear hA hv
      first
        | (rw [if_neg (guard_no (j := 13) (t := 25) rfl (by kernel_rfl) s25)]; exact hK _ _ rfl (Frm.refl _ _))
        | (rw [if_neg (guard_undef (j := 13) (t := 25) rfl (by kernel_rfl) s25)]; exact hK _ _ rfl (Frm.refl _ _))
        | (rw [if_pos (guard_yes (j := 13) (t := 25) rfl (by kernel_rfl) s25)]
           have k0 := hf.cell cn (fun h => h)
           clear hf
           go_wp2
           exact hK _ _ rfl (Frm.refl _ _))
    refine owesL_cons (i' := 23) rfl ?_ ?_
    · refine o_pureg (by kernel_rfl) fun us a wz hA hv K hK => ?_
      have s31 := (slot_in hA (t := 31) (by simp) (j := 19) (by kernel_rfl)).trans (hv 19 (by kernel_rfl))
      have s33 := (slot_in hA (t := 33) (by simp) (j := 21) (by kernel_rfl)).trans (hv 21 (by kernel_rfl))
      have s25 := (slot_in hA (t := 25) (by simp) (j := 13) (by kernel_rfl)).trans (hv 13 (by kernel_rfl))
      clear hA hv
      first
        | (rw [if_neg (guard_no (j := 13) (t := 25) rfl (by kernel_rfl) s25)]; exact hK _ rfl)
        | (rw [if_neg (guard_undef (j := 13) (t := 25) rfl (by kernel_rfl) s25)]; exact hK _ rfl)
        | (rw [if_pos (guard_yes (j := 13) (t := 25) rfl (by kernel_rfl) s25)]
           go_wp2
           exact rfl)
    refine owesL_cons (i' := 24) rfl ?_ ?_
    · refine o_pureg (by kernel_rfl) fun us a wz hA hv K hK => ?_
      have s25 := (slot_in hA (t := 25) (by simp) (j := 13) (by kernel_rfl)).trans (hv 13 (by kernel_rfl))
      have s34 := (slot_in hA (t := 34) (by simp) (j := 22) (by kernel_rfl)).trans (hv 22 (by kernel_rfl))
      have s22 := (slot_in hA (t := 22) (by simp) (j := 10) (by kernel_rfl)).trans (hv 10 (by kernel_rfl))
      clear hA hv
      first
        | (rw [if_neg (guard_no (j := 10) (t := 22) rfl (by kernel_rfl) s22)]; exact hK _ rfl)
        | (rw [if_neg (guard_undef (j := 10) (t := 22) rfl (by kernel_rfl) s22)]; exact hK _ rfl)
        | (rw [if_pos (guard_yes (j := 10) (t := 22) rfl (by kernel_rfl) s22)]
           go_wp2
           exact rfl)
    refine owesL_cons (i' := 25) rfl ?_ ?_
    · refine o_pure rfl (by kernel_rfl) fun us a wz hA hv K hK => ?_
      have s22 := (slot_in hA (t := 22) (by simp) (j := 10) (by kernel_rfl)).trans (hv 10 (by kernel_rfl))
      have s35 := (slot_in hA (t := 35) (by simp) (j := 23) (by kernel_rfl)).trans (hv 23 (by kernel_rfl))
      clear hA hv
      go_wp2
      exact rfl
    exact owesL_nil
  case hV => exact Stabs.vt (.cons (stab_is _ _) (.cons (stab_is _ _) (.cons (stab_is _ _) (.cons (stab_is _ _) (.cons (stab_is _ _) (.cons (stab_is _ _) (.cons (stab_is _ _) (.cons (stab_is _ _) (.cons (stab_is _ _) (.cons (stab_is _ _) (.cons (stab_is _ _) (.cons (stab_is _ _) (.cons (stab_is _ _) (.cons (stab_is _ _) (.cons (stab_is _ _) (.cons (stab_is _ _) (.cons (stab_is _ _) (.cons (stab_is _ _) (.cons (stab_is _ _) (.cons (stab_is _ _) (.cons (stab_is _ _) (.cons (stab_is _ _) (.cons (stab_is _ _) (.cons (stab_is _ _) (.cons (stab_is _ _) (.nil))))))))))))))))))))))))))
  case hW => exact StabWs.wt (.cons (fun _ _ _ h _ => h) (.nil))
  case h0 =>
    trivial
  intro usx wx hvx hwx hfx
  have qx0 : usx 0 = _ := hvx 0 (by decide)
  have qx1 : usx 1 = _ := hvx 1 (by decide)
  have qx2 : usx 2 = _ := hvx 2 (by decide)
  have qx3 : usx 3 = _ := hvx 3 (by decide)
  have qx4 : usx 4 = _ := hvx 4 (by decide)
  have qx5 : usx 5 = _ := hvx 5 (by decide)
  have qx6 : usx 6 = _ := hvx 6 (by decide)
  have qx7 : usx 7 = _ := hvx 7 (by decide)
  have qx8 : usx 8 = _ := hvx 8 (by decide)
  have qx9 : usx 9 = _ := hvx 9 (by decide)
  have qx10 : usx 10 = _ := hvx 10 (by decide)
  have qx11 : usx 11 = _ := hvx 11 (by decide)
  have qx12 : usx 12 = _ := hvx 12 (by decide)
  have qx13 : usx 13 = _ := hvx 13 (by decide)
  have qx14 : usx 14 = _ := hvx 14 (by decide)
  have qx15 : usx 15 = _ := hvx 15 (by decide)
  have qx16 : usx 16 = _ := hvx 16 (by decide)
  have qx17 : usx 17 = _ := hvx 17 (by decide)
  have qx18 : usx 18 = _ := hvx 18 (by decide)
  have qx19 : usx 19 = _ := hvx 19 (by decide)
  have qx20 : usx 20 = _ := hvx 20 (by decide)
  have qx21 : usx 21 = _ := hvx 21 (by decide)
  have qx22 : usx 22 = _ := hvx 22 (by decide)
  have qx23 : usx 23 = _ := hvx 23 (by decide)
  have qx24 : usx 24 = _ := hvx 24 (by decide)
  rw [fill_all (ds := [some 12, some 13, some 14, some 15, some 16, some 17, some 18, some 19, some 20, some 21, some 22, some 23, some 24, some 25, some 26, some 27, some 28, some 29, some 30, some 31, some 32, some 33, some 34, some 35, some 36]) (by kernel_rfl)]
  simp only [putAll, Act.put, List.setIfInBounds_toArray, List.set_cons_succ, List.set_cons_zero, Nat.reduceAdd, qx0, qx1, qx2, qx3, qx4, qx5, qx6, qx7, qx8, qx9, qx10, qx11, qx12, qx13, qx14, qx15, qx16, qx17, qx18, qx19, qx20, qx21, qx22, qx23, qx24]
  clear hvx qx0 qx1 qx2 qx3 qx4 qx5 qx6 qx7 qx8 qx9 qx10 qx11 qx12 qx13 qx14 qx15 qx16 qx17 qx18 qx19 qx20 qx21 qx22 qx23 qx24
  exact hQ _ _ _ _ _ _ _ _ _ _ _ _ _ _ _ _ _ _ _ _ _ _ _ _ _ ((Frm.refl _ _).drew.trans hfx fun _ _ h => h)
set_option maxRecDepth 100000 in
set_option maxHeartbeats 1000000 in
theorem items_r4c {b o n c k g : Nat} {nm pn : ByteArray} {v : Ver} {u1 u2 u5 u6 u7 u8 u9 u10 u11 u12 u13 u14 u15 u16 u17 u18 u19 u20 u21 u22 u23 u24 u25 u26 u27 u28 u29 u30 u31 u32 u33 u34 u35 u36 u37 u38 u39 u40 : Value} {w : World} (cn : w.cell? ⟨g, 0, none⟩ = some (.string nm)) (hvr : w.rangeAt g 1 v.cells) (hk : 0 < n) (hn : n ≤ 1048576)
    (hno : nameOk nm = true) (hvo : v.ok = true) {Q : Exit → Act → World → Prop}
    (hQ : ∀ (x12 x13 x14 x15 x16 x17 x18 x19 x20 x21 x22 x23 x24 x25 x26 x27 x28 x29 x30 x31 x32 x33 x34 x35 : Value) (w' : World), Frm (fun _ => False) w w' → Q .normal ⟨(.slice (some ⟨b, o, none⟩) n c :: u1 :: u2 :: .int .i64 0 :: .pointer (some ⟨g, 0, none⟩) :: u5 :: u6 :: u7 :: u8 :: u9 :: u10 :: u11 :: x12 :: x13 :: x14 :: x15 :: x16 :: x17 :: x18 :: x19 :: x20 :: x21 :: x22 :: x23 :: x24 :: x25 :: x26 :: x27 :: x28 :: x29 :: x30 :: x31 :: x32 :: x33 :: x34 :: x35 :: .bool false :: u37 :: u38 :: u39 :: u40 :: []).toArray, []⟩ w') :
    (regionOf Tryd.f46 4).wp Tryd.prog Q ⟨(.slice (some ⟨b, o, none⟩) n c :: u1 :: u2 :: .int .i64 0 :: .pointer (some ⟨g, 0, none⟩) :: u5 :: u6 :: u7 :: u8 :: u9 :: u10 :: u11 :: u12 :: u13 :: u14 :: u15 :: u16 :: u17 :: u18 :: u19 :: u20 :: u21 :: u22 :: u23 :: u24 :: u25 :: u26 :: u27 :: u28 :: u29 :: u30 :: u31 :: u32 :: u33 :: u34 :: u35 :: u36 :: u37 :: u38 :: u39 :: u40 :: []).toArray, []⟩ w := by
  conv => arg 2; whnf
  apply wp_region_typed (fun _ => False) (nf [1, 2, 6, 7, 19, 21]) [] (vt [(Is _), (Is _), (Is _), (Is _), (Is _), (Is _), (Is _), (Is _), (Is _), (Is _), (Is _), (Is _), (Is _), (Is _), (Is _), (Is _), (Is _), (Is _), (Is _), (Is _), (Is _), (Is _), (Is _), (Is _), (Is _)]) (wt [(fun _ _ => True)]) (by kernel_rfl) (by kernel_rfl) (by kernel_rfl) (by kernel_rfl) (hop := owesL_all ?hop)
  case hop =>
    refine owesL_cons (i' := 1) rfl ?_ ?_
    · refine o_pure rfl (by kernel_rfl) fun us a wz hA hv K hK => ?_
      have s4 := slot_out hA (t := 4) (by kernel_rfl)
      clear hA hv
      go_wp2
      exact rfl
    refine owesL_cons (i' := 2) rfl ?_ ?_
    · refine o_q rfl (by kernel_rfl) (by kernel_rfl) (pl := []) (by kernel_rfl) fun us a wz hA hv hf hw K hK => ?_
      have s12 := (slot_in hA (t := 12) (by simp) (j := 0) (by kernel_rfl)).trans (hv 0 (by kernel_rfl))
      clear hA hv
      have k0 := hf.cell cn (fun h => h)
      clear hf
      go_wp2
      exact hK _ _ rfl (Frm.refl _ _)
    refine owesL_cons (i' := 3) rfl ?_ ?_
    · refine o_q rfl (by kernel_rfl) (by kernel_rfl) (pl := []) (by kernel_rfl) fun us a wz hA hv hf hw K hK => ?_
      have s13 := (slot_in hA (t := 13) (by simp) (j := 1) (by kernel_rfl)).trans (hv 1 (by kernel_rfl))
      clear hA hv
      clear hf
      go_wp2_with fail
      refine (name_any _ _).mono ?_
      rintro e w1 ⟨rfl, hp1⟩
      rw [hno]
      exact hK _ _ rfl (Frm.of_below hp1 _)
    refine owesL_cons (i' := 4) rfl ?_ ?_
    · refine o_pure rfl (by kernel_rfl) fun us a wz hA hv K hK => ?_
      have s14 := (slot_in hA (t := 14) (by simp) (j := 2) (by kernel_rfl)).trans (hv 2 (by kernel_rfl))
      clear hA hv
      go_wp2
      exact rfl
    refine owesL_cons (i' := 5) rfl ?_ ?_
    · refine o_pure rfl (by kernel_rfl) fun us a wz hA hv K hK => ?_
      have s15 := (slot_in hA (t := 15) (by simp) (j := 3) (by kernel_rfl)).trans (hv 3 (by kernel_rfl))
      clear hA hv
      go_wp2
      exact rfl
    refine owesL_cons (i' := 6) rfl ?_ ?_
    · refine o_pureg (by kernel_rfl) fun us a wz hA hv K hK => ?_
      have s4 := slot_out hA (t := 4) (by kernel_rfl)
      have s16 := (slot_in hA (t := 16) (by simp) (j := 4) (by kernel_rfl)).trans (hv 4 (by kernel_rfl))
      clear hA hv
      first
        | (rw [if_neg (guard_no (j := 4) (t := 16) rfl (by kernel_rfl) s16)]; exact hK _ rfl)
        | (rw [if_neg (guard_undef (j := 4) (t := 16) rfl (by kernel_rfl) s16)]; exact hK _ rfl)
        | (rw [if_pos (guard_yes (j := 4) (t := 16) rfl (by kernel_rfl) s16)]
           go_wp2
           exact rfl)
    refine owesL_cons (i' := 7) rfl ?_ ?_
    · refine o_qg (by kernel_rfl) (by kernel_rfl) (pl := []) (by kernel_rfl) fun us a wz hA hv hf hw K hK => ?_
      have s17 := (slot_in hA (t := 17) (by simp) (j := 5) (by kernel_rfl)).trans (hv 5 (by kernel_rfl))
      have s16 := (slot_in hA (t := 16) (by simp) (j := 4) (by kernel_rfl)).trans (hv 4 (by kernel_rfl))
      clear hA hv
      first
        | (rw [if_neg (guard_no (j := 4) (t := 16) rfl (by kernel_rfl) s16)]; exact hK _ _ rfl (Frm.refl _ _))
        | (rw [if_neg (guard_undef (j := 4) (t := 16) rfl (by kernel_rfl) s16)]; exact hK _ _ rfl (Frm.refl _ _))
        | (rw [if_pos (guard_yes (j := 4) (t := 16) rfl (by kernel_rfl) s16)]
           have k0 : wz.rangeAt g 1 v.cells := range_frm (F := fun _ => False) (show w.drew.rangeAt g 1 v.cells from hvr) hf fun h => h
           clear hf
           refine wp_load_mid 66 _ rfl g 1 (ev s17) v.cells _ k0 Tryd.underlying66 rfl (by kernel_rfl) ?_
           exact hK _ _ rfl (Frm.refl _ _))
    refine owesL_cons (i' := 8) rfl ?_ ?_
    · refine o_qg (by kernel_rfl) (by kernel_rfl) (pl := []) (by kernel_rfl) fun us a wz hA hv hf hw K hK => ?_
      have s18 := (slot_in hA (t := 18) (by simp) (j := 6) (by kernel_rfl)).trans (hv 6 (by kernel_rfl))
      have s16 := (slot_in hA (t := 16) (by simp) (j := 4) (by kernel_rfl)).trans (hv 4 (by kernel_rfl))
      clear hA hv
      first
        | (rw [if_neg (guard_no (j := 4) (t := 16) rfl (by kernel_rfl) s16)]; exact hK _ _ rfl (Frm.refl _ _))
        | (rw [if_neg (guard_undef (j := 4) (t := 16) rfl (by kernel_rfl) s16)]; exact hK _ _ rfl (Frm.refl _ _))
        | (rw [if_pos (guard_yes (j := 4) (t := 16) rfl (by kernel_rfl) s16)]
           clear hf
           go_wp2_with fail
           refine (verRight_any _ _).mono ?_
           rintro e w1 ⟨rfl, hp1⟩
           rw [hvo]
           exact hK _ _ rfl (Frm.of_below hp1 _))
    refine owesL_cons (i' := 9) rfl ?_ ?_
    · refine o_pureg (by kernel_rfl) fun us a wz hA hv K hK => ?_
      have s19 := (slot_in hA (t := 19) (by simp) (j := 7) (by kernel_rfl)).trans (hv 7 (by kernel_rfl))
      have s16 := (slot_in hA (t := 16) (by simp) (j := 4) (by kernel_rfl)).trans (hv 4 (by kernel_rfl))
      clear hA hv
      first
        | (rw [if_neg (guard_no (j := 4) (t := 16) rfl (by kernel_rfl) s16)]; exact hK _ rfl)
        | (rw [if_neg (guard_undef (j := 4) (t := 16) rfl (by kernel_rfl) s16)]; exact hK _ rfl)
        | (rw [if_pos (guard_yes (j := 4) (t := 16) rfl (by kernel_rfl) s16)]
           go_wp2
           exact rfl)
    refine owesL_cons (i' := 10) rfl ?_ ?_
    · refine o_pure rfl (by kernel_rfl) fun us a wz hA hv K hK => ?_
      have s16 := (slot_in hA (t := 16) (by simp) (j := 4) (by kernel_rfl)).trans (hv 4 (by kernel_rfl))
      have s20 := (slot_in hA (t := 20) (by simp) (j := 8) (by kernel_rfl)).trans (hv 8 (by kernel_rfl))
      clear hA hv
      go_wp2
      exact rfl
    refine owesL_cons (i' := 11) rfl ?_ ?_
    · refine o_pure rfl (by kernel_rfl) fun us a wz hA hv K hK => ?_
      have s21 := (slot_in hA (t := 21) (by simp) (j := 9) (by kernel_rfl)).trans (hv 9 (by kernel_rfl))
      clear hA hv
      go_wp2
      exact rfl
    refine owesL_cons (i' := 12) rfl ?_ ?_
    · refine o_pureg (by kernel_rfl) fun us a wz hA hv K hK => ?_
      have s3 := slot_out hA (t := 3) (by kernel_rfl)
      have s22 := (slot_in hA (t := 22) (by simp) (j := 10) (by kernel_rfl)).trans (hv 10 (by kernel_rfl))
      clear hA hv
      first
        | (rw [if_neg (guard_no (j := 10) (t := 22) rfl (by kernel_rfl) s22)]; exact hK _ rfl)
        | (rw [if_neg (guard_undef (j := 10) (t := 22) rfl (by kernel_rfl) s22)]; exact hK _ rfl)
        | (rw [if_pos (guard_yes (j := 10) (t := 22) rfl (by kernel_rfl) s22)]
           go_wp2
           exact rfl)
    refine owesL_cons (i' := 13) rfl ?_ ?_
    · refine o_pureg (by kernel_rfl) fun us a wz hA hv K hK => ?_
      have s23 := (slot_in hA (t := 23) (by simp) (j := 11) (by kernel_rfl)).trans (hv 11 (by kernel_rfl))
      have s22 := (slot_in hA (t := 22) (by simp) (j := 10) (by kernel_rfl)).trans (hv 10 (by kernel_rfl))
      clear hA hv
      first
        | (rw [if_neg (guard_no (j := 10) (t := 22) rfl (by kernel_rfl) s22)]; exact hK _ rfl)
        | (rw [if_neg (guard_undef (j := 10) (t := 22) rfl (by kernel_rfl) s22)]; exact hK _ rfl)
        | (rw [if_pos (guard_yes (j := 10) (t := 22) rfl (by kernel_rfl) s22)]
           go_wp2
           exact rfl)
    refine owesL_cons (i' := 14) rfl ?_ ?_
    · refine o_pureg (by kernel_rfl) fun us a wz hA hv K hK => ?_
      have s24 := (slot_in hA (t := 24) (by simp) (j := 12) (by kernel_rfl)).trans (hv 12 (by kernel_rfl))
      have s22 := (slot_in hA (t := 22) (by simp) (j := 10) (by kernel_rfl)).trans (hv 10 (by kernel_rfl))
      clear hA hv
      first
        | (rw [if_neg (guard_no (j := 10) (t := 22) rfl (by kernel_rfl) s22)]; exact hK _ rfl)
        | (rw [if_neg (guard_undef (j := 10) (t := 22) rfl (by kernel_rfl) s22)]; exact hK _ rfl)
        | (rw [if_pos (guard_yes (j := 10) (t := 22) rfl (by kernel_rfl) s22)]
           go_wp2
           exact rfl)
    refine owesL_cons (i' := 15) rfl ?_ ?_
    · refine o_pureg (by kernel_rfl) fun us a wz hA hv K hK => ?_
      have s0 := slot_out hA (t := 0) (by kernel_rfl)
      have s25 := (slot_in hA (t := 25) (by simp) (j := 13) (by kernel_rfl)).trans (hv 13 (by kernel_rfl))
      clear hA hv
      first
        | (rw [if_neg (guard_no (j := 13) (t := 25) rfl (by kernel_rfl) s25)]; exact hK _ rfl)
        | (rw [if_neg (guard_undef (j := 13) (t := 25) rfl (by kernel_rfl) s25)]; exact hK _ rfl)
        | (rw [if_pos (guard_yes (j := 13) (t := 25) rfl (by kernel_rfl) s25)]
           go_wp2
           exact rfl)
    refine owesL_cons (i' := 16) rfl ?_ ?_
    · refine o_pureg (by kernel_rfl) fun us a wz hA hv K hK => ?_
      have s3 := slot_out hA (t := 3) (by kernel_rfl)
      have s25 := (slot_in hA (t := 25) (by simp) (j := 13) (by kernel_rfl)).trans (hv 13 (by kernel_rfl))
      clear hA hv
      first
        | (rw [if_neg (guard_no (j := 13) (t := 25) rfl (by kernel_rfl) s25)]; exact hK _ rfl)
        | (rw [if_neg (guard_undef (j := 13) (t := 25) rfl (by kernel_rfl) s25)]; exact hK _ rfl)
        | (rw [if_pos (guard_yes (j := 13) (t := 25) rfl (by kernel_rfl) s25)]
           go_wp2
           exact rfl)
    refine owesL_cons (i' := 17) rfl ?_ ?_
    · refine o_pureg (by kernel_rfl) fun us a wz hA hv K hK => ?_
      have s27 := (slot_in hA (t := 27) (by simp) (j := 15) (by kernel_rfl)).trans (hv 15 (by kernel_rfl))
      have s25 := (slot_in hA (t := 25) (by simp) (j := 13) (by kernel_rfl)).trans (hv 13 (by kernel_rfl))
      clear hA hv
      first
        | (rw [if_neg (guard_no (j := 13) (t := 25) rfl (by kernel_rfl) s25)]; exact hK _ rfl)
        | (rw [if_neg (guard_undef (j := 13) (t := 25) rfl (by kernel_rfl) s25)]; exact hK _ rfl)
        | (rw [if_pos (guard_yes (j := 13) (t := 25) rfl (by kernel_rfl) s25)]
           go_wp2
           exact rfl)
    refine owesL_cons (i' := 18) rfl ?_ ?_
    · refine o_pureg (by kernel_rfl) fun us a wz hA hv K hK => ?_
      have s26 := (slot_in hA (t := 26) (by simp) (j := 14) (by kernel_rfl)).trans (hv 14 (by kernel_rfl))
      have s28 := (slot_in hA (t := 28) (by simp) (j := 16) (by kernel_rfl)).trans (hv 16 (by kernel_rfl))
      have s25 := (slot_in hA (t := 25) (by simp) (j := 13) (by kernel_rfl)).trans (hv 13 (by kernel_rfl))
      clear hA hv
      first
        | (rw [if_neg (guard_no (j := 13) (t := 25) rfl (by kernel_rfl) s25)]; exact hK _ rfl)
        | (rw [if_neg (guard_undef (j := 13) (t := 25) rfl (by kernel_rfl) s25)]; exact hK _ rfl)
        | (rw [if_pos (guard_yes (j := 13) (t := 25) rfl (by kernel_rfl) s25)]
           go_wp2
           exact rfl)
    refine owesL_cons (i' := 19) rfl ?_ ?_
    · refine o_pureg (by kernel_rfl) fun us a wz hA hv K hK => ?_
      have s29 := (slot_in hA (t := 29) (by simp) (j := 17) (by kernel_rfl)).trans (hv 17 (by kernel_rfl))
      have s25 := (slot_in hA (t := 25) (by simp) (j := 13) (by kernel_rfl)).trans (hv 13 (by kernel_rfl))
      clear hA hv
      first
        | (rw [if_neg (guard_no (j := 13) (t := 25) rfl (by kernel_rfl) s25)]; exact hK _ rfl)
        | (rw [if_neg (guard_undef (j := 13) (t := 25) rfl (by kernel_rfl) s25)]; exact hK _ rfl)
        | (rw [if_pos (guard_yes (j := 13) (t := 25) rfl (by kernel_rfl) s25)]
           go_wp2
           exact rfl)
    refine owesL_cons (i' := 20) rfl ?_ ?_
    · refine o_qg (by kernel_rfl) (by kernel_rfl) (pl := []) (by kernel_rfl) fun us a wz hA hv hf hw K hK => ?_
      have s30 := (slot_in hA (t := 30) (by simp) (j := 18) (by kernel_rfl)).trans (hv 18 (by kernel_rfl))
      have s25 := (slot_in hA (t := 25) (by simp) (j := 13) (by kernel_rfl)).trans (hv 13 (by kernel_rfl))
      clear hA hv
      first
        | (rw [if_neg (guard_no (j := 13) (t := 25) rfl (by kernel_rfl) s25)]; exact hK _ _ rfl (Frm.refl _ _))
        | (rw [if_neg (guard_undef (j := 13) (t := 25) rfl (by kernel_rfl) s25)]; exact hK _ _ rfl (Frm.refl _ _))
        | (rw [if_pos (guard_yes (j := 13) (t := 25) rfl (by kernel_rfl) s25)]
           have k0 := hf.cell cp (fun h => h)
           clear hf
           go_wp2
           exact hK _ _ rfl (Frm.refl _ _))
    refine owesL_cons (i' := 21) rfl ?_ ?_
    · refine o_pureg (by kernel_rfl) fun us a wz hA hv K hK => ?_
      have s4 := slot_out hA (t := 4) (by kernel_rfl)
      have s25 := (slot_in hA (t := 25) (by simp) (j := 13) (by kernel_rfl)).trans (hv 13 (by kernel_rfl))
      clear hA hv
      first
        | (rw [if_neg (guard_no (j := 13) (t := 25) rfl (by kernel_rfl) s25)]; exact hK _ rfl)
        | (rw [if_neg (guard_undef (j := 13) (t := 25) rfl (by kernel_rfl) s25)]; exact hK _ rfl)
        | (rw [if_pos (guard_yes (j := 13) (t := 25) rfl (by kernel_rfl) s25)]
           go_wp2
           exact rfl)
    refine owesL_cons (i' := 22) rfl ?_ ?_
    · refine o_qg (by kernel_rfl) (by kernel_rfl) (pl := []) (by kernel_rfl) fun us a wz hA hv hf hw K hK => ?_
      have s32 := (slot_in hA (t := 32) (by simp) (j := 20) (by kernel_rfl)).trans (hv 20 (by kernel_rfl))
      have s25 := (slot_in hA (t := 25) (by simp) (j := 13) (by kernel_rfl)).trans (hv 13 (by kernel_rfl))
      clear hA hv
      first
        | (rw [if_neg (guard_no (j := 13) (t := 25) rfl (by kernel_rfl) s25)]; exact hK _ _ rfl (Frm.refl _ _))
        | (rw [if_neg (guard_undef (j := 13) (t := 25) rfl (by kernel_rfl) s25)]; exact hK _ _ rfl (Frm.refl _ _))
        | (rw [if_pos (guard_yes (j := 13) (t := 25) rfl (by kernel_rfl) s25)]
           have k0 := hf.cell cn (fun h => h)
           clear hf
           go_wp2
           exact hK _ _ rfl (Frm.refl _ _))
    refine owesL_cons (i' := 23) rfl ?_ ?_
    · refine o_pureg (by kernel_rfl) fun us a wz hA hv K hK => ?_
      have s31 := (slot_in hA (t := 31) (by simp) (j := 19) (by kernel_rfl)).trans (hv 19 (by kernel_rfl))
      have s33 := (slot_in hA (t := 33) (by simp) (j := 21) (by kernel_rfl)).trans (hv 21 (by kernel_rfl))
      have s25 := (slot_in hA (t := 25) (by simp) (j := 13) (by kernel_rfl)).trans (hv 13 (by kernel_rfl))
      clear hA hv
      first
        | (rw [if_neg (guard_no (j := 13) (t := 25) rfl (by kernel_rfl) s25)]; exact hK _ rfl)
        | (rw [if_neg (guard_undef (j := 13) (t := 25) rfl (by kernel_rfl) s25)]; exact hK _ rfl)
        | (rw [if_pos (guard_yes (j := 13) (t := 25) rfl (by kernel_rfl) s25)]
           go_wp2
           exact rfl)
    refine owesL_cons (i' := 24) rfl ?_ ?_
    · refine o_pureg (by kernel_rfl) fun us a wz hA hv K hK => ?_
      have s25 := (slot_in hA (t := 25) (by simp) (j := 13) (by kernel_rfl)).trans (hv 13 (by kernel_rfl))
      have s34 := (slot_in hA (t := 34) (by simp) (j := 22) (by kernel_rfl)).trans (hv 22 (by kernel_rfl))
      have s22 := (slot_in hA (t := 22) (by simp) (j := 10) (by kernel_rfl)).trans (hv 10 (by kernel_rfl))
      clear hA hv
      first
        | (rw [if_neg (guard_no (j := 10) (t := 22) rfl (by kernel_rfl) s22)]; exact hK _ rfl)
        | (rw [if_neg (guard_undef (j := 10) (t := 22) rfl (by kernel_rfl) s22)]; exact hK _ rfl)
        | (rw [if_pos (guard_yes (j := 10) (t := 22) rfl (by kernel_rfl) s22)]
           go_wp2
           exact rfl)
    refine owesL_cons (i' := 25) rfl ?_ ?_
    · refine o_pure rfl (by kernel_rfl) fun us a wz hA hv K hK => ?_
      have s22 := (slot_in hA (t := 22) (by simp) (j := 10) (by kernel_rfl)).trans (hv 10 (by kernel_rfl))
      have s35 := (slot_in hA (t := 35) (by simp) (j := 23) (by kernel_rfl)).trans (hv 23 (by kernel_rfl))
      clear hA hv
      go_wp2
      exact rfl
    exact owesL_nil
  case hV => exact Stabs.vt (.cons (stab_is _ _) (.cons (stab_is _ _) (.cons (stab_is _ _) (.cons (stab_is _ _) (.cons (stab_is _ _) (.cons (stab_is _ _) (.cons (stab_is _ _) (.cons (stab_is _ _) (.cons (stab_is _ _) (.cons (stab_is _ _) (.cons (stab_is _ _) (.cons (stab_is _ _) (.cons (stab_is _ _) (.cons (stab_is _ _) (.cons (stab_is _ _) (.cons (stab_is _ _) (.cons (stab_is _ _) (.cons (stab_is _ _) (.cons (stab_is _ _) (.cons (stab_is _ _) (.cons (stab_is _ _) (.cons (stab_is _ _) (.cons (stab_is _ _) (.cons (stab_is _ _) (.cons (stab_is _ _) (.nil))))))))))))))))))))))))))
  case hW => exact StabWs.wt (.cons (fun _ _ _ h _ => h) (.nil))
  case h0 =>
    trivial
  intro usx wx hvx hwx hfx
  have qx0 : usx 0 = _ := hvx 0 (by decide)
  have qx1 : usx 1 = _ := hvx 1 (by decide)
  have qx2 : usx 2 = _ := hvx 2 (by decide)
  have qx3 : usx 3 = _ := hvx 3 (by decide)
  have qx4 : usx 4 = _ := hvx 4 (by decide)
  have qx5 : usx 5 = _ := hvx 5 (by decide)
  have qx6 : usx 6 = _ := hvx 6 (by decide)
  have qx7 : usx 7 = _ := hvx 7 (by decide)
  have qx8 : usx 8 = _ := hvx 8 (by decide)
  have qx9 : usx 9 = _ := hvx 9 (by decide)
  have qx10 : usx 10 = _ := hvx 10 (by decide)
  have qx11 : usx 11 = _ := hvx 11 (by decide)
  have qx12 : usx 12 = _ := hvx 12 (by decide)
  have qx13 : usx 13 = _ := hvx 13 (by decide)
  have qx14 : usx 14 = _ := hvx 14 (by decide)
  have qx15 : usx 15 = _ := hvx 15 (by decide)
  have qx16 : usx 16 = _ := hvx 16 (by decide)
  have qx17 : usx 17 = _ := hvx 17 (by decide)
  have qx18 : usx 18 = _ := hvx 18 (by decide)
  have qx19 : usx 19 = _ := hvx 19 (by decide)
  have qx20 : usx 20 = _ := hvx 20 (by decide)
  have qx21 : usx 21 = _ := hvx 21 (by decide)
  have qx22 : usx 22 = _ := hvx 22 (by decide)
  have qx23 : usx 23 = _ := hvx 23 (by decide)
  have qx24 : usx 24 = _ := hvx 24 (by decide)
  rw [fill_all (ds := [some 12, some 13, some 14, some 15, some 16, some 17, some 18, some 19, some 20, some 21, some 22, some 23, some 24, some 25, some 26, some 27, some 28, some 29, some 30, some 31, some 32, some 33, some 34, some 35, some 36]) (by kernel_rfl)]
  simp only [putAll, Act.put, List.setIfInBounds_toArray, List.set_cons_succ, List.set_cons_zero, Nat.reduceAdd, qx0, qx1, qx2, qx3, qx4, qx5, qx6, qx7, qx8, qx9, qx10, qx11, qx12, qx13, qx14, qx15, qx16, qx17, qx18, qx19, qx20, qx21, qx22, qx23, qx24]
  clear hvx qx0 qx1 qx2 qx3 qx4 qx5 qx6 qx7 qx8 qx9 qx10 qx11 qx12 qx13 qx14 qx15 qx16 qx17 qx18 qx19 qx20 qx21 qx22 qx23 qx24
  exact hQ _ _ _ _ _ _ _ _ _ _ _ _ _ _ _ _ _ _ _ _ _ _ _ _ _ ((Frm.refl _ _).drew.trans hfx fun _ _ h => h)
set_option maxRecDepth 100000 in
set_option maxHeartbeats 1000000 in
theorem items_r4d {b o n c k g : Nat} {nm pn : ByteArray} {v : Ver} {u1 u2 u5 u6 u7 u8 u9 u10 u11 u12 u13 u14 u15 u16 u17 u18 u19 u20 u21 u22 u23 u24 u25 u26 u27 u28 u29 u30 u31 u32 u33 u34 u35 u36 u37 u38 u39 u40 : Value} {w : World} (cn : w.cell? ⟨g, 0, none⟩ = some (.string nm)) (hvr : w.rangeAt g 1 v.cells) (hk : k + 1 < n) (hn : n ≤ 1048576)
    (hno : nameOk nm = true) (hvo : v.ok = true) (cp : w.cell? ⟨b, o + k * 37, none⟩ = some (.string pn)) (hlt : Op.bytesLess pn.toList nm.toList = true) {Q : Exit → Act → World → Prop}
    (hQ : ∀ (x12 x13 x14 x15 x16 x17 x18 x19 x20 x21 x22 x23 x24 x25 x26 x27 x28 x29 x30 x31 x32 x33 x34 x35 : Value) (w' : World), Frm (fun _ => False) w w' → Q .normal ⟨(.slice (some ⟨b, o, none⟩) n c :: u1 :: u2 :: .int .i64 ((k : Int) + 1) :: .pointer (some ⟨g, 0, none⟩) :: u5 :: u6 :: u7 :: u8 :: u9 :: u10 :: u11 :: x12 :: x13 :: x14 :: x15 :: x16 :: x17 :: x18 :: x19 :: x20 :: x21 :: x22 :: x23 :: x24 :: x25 :: x26 :: x27 :: x28 :: x29 :: x30 :: x31 :: x32 :: x33 :: x34 :: x35 :: .bool false :: u37 :: u38 :: u39 :: u40 :: []).toArray, []⟩ w') :
    (regionOf Tryd.f46 4).wp Tryd.prog Q ⟨(.slice (some ⟨b, o, none⟩) n c :: u1 :: u2 :: .int .i64 ((k : Int) + 1) :: .pointer (some ⟨g, 0, none⟩) :: u5 :: u6 :: u7 :: u8 :: u9 :: u10 :: u11 :: u12 :: u13 :: u14 :: u15 :: u16 :: u17 :: u18 :: u19 :: u20 :: u21 :: u22 :: u23 :: u24 :: u25 :: u26 :: u27 :: u28 :: u29 :: u30 :: u31 :: u32 :: u33 :: u34 :: u35 :: u36 :: u37 :: u38 :: u39 :: u40 :: []).toArray, []⟩ w := by
  conv => arg 2; whnf
  apply wp_region_typed (fun _ => False) (nf [1, 2, 6, 7, 19, 21]) [] (vt [(Is _), (Is _), (Is _), (Is _), (Is _), (Is _), (Is _), (Is _), (Is _), (Is _), (Is _), (Is _), (Is _), (Is _), (Is _), (Is _), (Is _), (Is _), (Is _), (Is _), (Is _), (Is _), (Is _), (Is _), (Is _)]) (wt [(fun _ _ => True)]) (by kernel_rfl) (by kernel_rfl) (by kernel_rfl) (by kernel_rfl) (hop := owesL_all ?hop)
  case hop =>
    refine owesL_cons (i' := 1) rfl ?_ ?_
    · refine o_pure rfl (by kernel_rfl) fun us a wz hA hv K hK => ?_
      have s4 := slot_out hA (t := 4) (by kernel_rfl)
      clear hA hv
      go_wp2
      exact rfl
    refine owesL_cons (i' := 2) rfl ?_ ?_
    · refine o_q rfl (by kernel_rfl) (by kernel_rfl) (pl := []) (by kernel_rfl) fun us a wz hA hv hf hw K hK => ?_
      have s12 := (slot_in hA (t := 12) (by simp) (j := 0) (by kernel_rfl)).trans (hv 0 (by kernel_rfl))
      clear hA hv
      have k0 := hf.cell cn (fun h => h)
      clear hf
      go_wp2
      exact hK _ _ rfl (Frm.refl _ _)
    refine owesL_cons (i' := 3) rfl ?_ ?_
    · refine o_q rfl (by kernel_rfl) (by kernel_rfl) (pl := []) (by kernel_rfl) fun us a wz hA hv hf hw K hK => ?_
      have s13 := (slot_in hA (t := 13) (by simp) (j := 1) (by kernel_rfl)).trans (hv 1 (by kernel_rfl))
      clear hA hv
      clear hf
      go_wp2_with fail
      refine (name_any _ _).mono ?_
      rintro e w1 ⟨rfl, hp1⟩
      rw [hno]
      exact hK _ _ rfl (Frm.of_below hp1 _)
    refine owesL_cons (i' := 4) rfl ?_ ?_
    · refine o_pure rfl (by kernel_rfl) fun us a wz hA hv K hK => ?_
      have s14 := (slot_in hA (t := 14) (by simp) (j := 2) (by kernel_rfl)).trans (hv 2 (by kernel_rfl))
      clear hA hv
      go_wp2
      exact rfl
    refine owesL_cons (i' := 5) rfl ?_ ?_
    · refine o_pure rfl (by kernel_rfl) fun us a wz hA hv K hK => ?_
      have s15 := (slot_in hA (t := 15) (by simp) (j := 3) (by kernel_rfl)).trans (hv 3 (by kernel_rfl))
      clear hA hv
      go_wp2
      exact rfl
    refine owesL_cons (i' := 6) rfl ?_ ?_
    · refine o_pureg (by kernel_rfl) fun us a wz hA hv K hK => ?_
      have s4 := slot_out hA (t := 4) (by kernel_rfl)
      have s16 := (slot_in hA (t := 16) (by simp) (j := 4) (by kernel_rfl)).trans (hv 4 (by kernel_rfl))
      clear hA hv
      first
        | (rw [if_neg (guard_no (j := 4) (t := 16) rfl (by kernel_rfl) s16)]; exact hK _ rfl)
        | (rw [if_neg (guard_undef (j := 4) (t := 16) rfl (by kernel_rfl) s16)]; exact hK _ rfl)
        | (rw [if_pos (guard_yes (j := 4) (t := 16) rfl (by kernel_rfl) s16)]
           go_wp2
           exact rfl)
    refine owesL_cons (i' := 7) rfl ?_ ?_
    · refine o_qg (by kernel_rfl) (by kernel_rfl) (pl := []) (by kernel_rfl) fun us a wz hA hv hf hw K hK => ?_
      have s17 := (slot_in hA (t := 17) (by simp) (j := 5) (by kernel_rfl)).trans (hv 5 (by kernel_rfl))
      have s16 := (slot_in hA (t := 16) (by simp) (j := 4) (by kernel_rfl)).trans (hv 4 (by kernel_rfl))
      clear hA hv
      first
        | (rw [if_neg (guard_no (j := 4) (t := 16) rfl (by kernel_rfl) s16)]; exact hK _ _ rfl (Frm.refl _ _))
        | (rw [if_neg (guard_undef (j := 4) (t := 16) rfl (by kernel_rfl) s16)]; exact hK _ _ rfl (Frm.refl _ _))
        | (rw [if_pos (guard_yes (j := 4) (t := 16) rfl (by kernel_rfl) s16)]
           have k0 : wz.rangeAt g 1 v.cells := range_frm (F := fun _ => False) (show w.drew.rangeAt g 1 v.cells from hvr) hf fun h => h
           clear hf
           refine wp_load_mid 66 _ rfl g 1 (ev s17) v.cells _ k0 Tryd.underlying66 rfl (by kernel_rfl) ?_
           exact hK _ _ rfl (Frm.refl _ _))
    refine owesL_cons (i' := 8) rfl ?_ ?_
    · refine o_qg (by kernel_rfl) (by kernel_rfl) (pl := []) (by kernel_rfl) fun us a wz hA hv hf hw K hK => ?_
      have s18 := (slot_in hA (t := 18) (by simp) (j := 6) (by kernel_rfl)).trans (hv 6 (by kernel_rfl))
      have s16 := (slot_in hA (t := 16) (by simp) (j := 4) (by kernel_rfl)).trans (hv 4 (by kernel_rfl))
      clear hA hv
      first
        | (rw [if_neg (guard_no (j := 4) (t := 16) rfl (by kernel_rfl) s16)]; exact hK _ _ rfl (Frm.refl _ _))
        | (rw [if_neg (guard_undef (j := 4) (t := 16) rfl (by kernel_rfl) s16)]; exact hK _ _ rfl (Frm.refl _ _))
        | (rw [if_pos (guard_yes (j := 4) (t := 16) rfl (by kernel_rfl) s16)]
           clear hf
           go_wp2_with fail
           refine (verRight_any _ _).mono ?_
           rintro e w1 ⟨rfl, hp1⟩
           rw [hvo]
           exact hK _ _ rfl (Frm.of_below hp1 _))
    refine owesL_cons (i' := 9) rfl ?_ ?_
    · refine o_pureg (by kernel_rfl) fun us a wz hA hv K hK => ?_
      have s19 := (slot_in hA (t := 19) (by simp) (j := 7) (by kernel_rfl)).trans (hv 7 (by kernel_rfl))
      have s16 := (slot_in hA (t := 16) (by simp) (j := 4) (by kernel_rfl)).trans (hv 4 (by kernel_rfl))
      clear hA hv
      first
        | (rw [if_neg (guard_no (j := 4) (t := 16) rfl (by kernel_rfl) s16)]; exact hK _ rfl)
        | (rw [if_neg (guard_undef (j := 4) (t := 16) rfl (by kernel_rfl) s16)]; exact hK _ rfl)
        | (rw [if_pos (guard_yes (j := 4) (t := 16) rfl (by kernel_rfl) s16)]
           go_wp2
           exact rfl)
    refine owesL_cons (i' := 10) rfl ?_ ?_
    · refine o_pure rfl (by kernel_rfl) fun us a wz hA hv K hK => ?_
      have s16 := (slot_in hA (t := 16) (by simp) (j := 4) (by kernel_rfl)).trans (hv 4 (by kernel_rfl))
      have s20 := (slot_in hA (t := 20) (by simp) (j := 8) (by kernel_rfl)).trans (hv 8 (by kernel_rfl))
      clear hA hv
      go_wp2
      exact rfl
    refine owesL_cons (i' := 11) rfl ?_ ?_
    · refine o_pure rfl (by kernel_rfl) fun us a wz hA hv K hK => ?_
      have s21 := (slot_in hA (t := 21) (by simp) (j := 9) (by kernel_rfl)).trans (hv 9 (by kernel_rfl))
      clear hA hv
      go_wp2
      exact rfl
    refine owesL_cons (i' := 12) rfl ?_ ?_
    · refine o_pureg (by kernel_rfl) fun us a wz hA hv K hK => ?_
      have s3 := slot_out hA (t := 3) (by kernel_rfl)
      have s22 := (slot_in hA (t := 22) (by simp) (j := 10) (by kernel_rfl)).trans (hv 10 (by kernel_rfl))
      clear hA hv
      first
        | (rw [if_neg (guard_no (j := 10) (t := 22) rfl (by kernel_rfl) s22)]; exact hK _ rfl)
        | (rw [if_neg (guard_undef (j := 10) (t := 22) rfl (by kernel_rfl) s22)]; exact hK _ rfl)
        | (rw [if_pos (guard_yes (j := 10) (t := 22) rfl (by kernel_rfl) s22)]
           go_wp2
           exact rfl)
    refine owesL_cons (i' := 13) rfl ?_ ?_
    · refine o_pureg (by kernel_rfl) fun us a wz hA hv K hK => ?_
      have s23 := (slot_in hA (t := 23) (by simp) (j := 11) (by kernel_rfl)).trans (hv 11 (by kernel_rfl))
      have s22 := (slot_in hA (t := 22) (by simp) (j := 10) (by kernel_rfl)).trans (hv 10 (by kernel_rfl))
      clear hA hv
      first
        | (rw [if_neg (guard_no (j := 10) (t := 22) rfl (by kernel_rfl) s22)]; exact hK _ rfl)
        | (rw [if_neg (guard_undef (j := 10) (t := 22) rfl (by kernel_rfl) s22)]; exact hK _ rfl)
        | (rw [if_pos (guard_yes (j := 10) (t := 22) rfl (by kernel_rfl) s22)]
           go_wp2
           exact rfl)
    refine owesL_cons (i' := 14) rfl ?_ ?_
    · refine o_pureg (by kernel_rfl) fun us a wz hA hv K hK => ?_
      have s24 := (slot_in hA (t := 24) (by simp) (j := 12) (by kernel_rfl)).trans (hv 12 (by kernel_rfl))
      have s22 := (slot_in hA (t := 22) (by simp) (j := 10) (by kernel_rfl)).trans (hv 10 (by kernel_rfl))
      clear hA hv
      first
        | (rw [if_neg (guard_no (j := 10) (t := 22) rfl (by kernel_rfl) s22)]; exact hK _ rfl)
        | (rw [if_neg (guard_undef (j := 10) (t := 22) rfl (by kernel_rfl) s22)]; exact hK _ rfl)
        | (rw [if_pos (guard_yes (j := 10) (t := 22) rfl (by kernel_rfl) s22)]
           go_wp2
           exact rfl)
    refine owesL_cons (i' := 15) rfl ?_ ?_
    · refine o_pureg (by kernel_rfl) fun us a wz hA hv K hK => ?_
      have s0 := slot_out hA (t := 0) (by kernel_rfl)
      have s25 := (slot_in hA (t := 25) (by simp) (j := 13) (by kernel_rfl)).trans (hv 13 (by kernel_rfl))
      clear hA hv
      first
        | (rw [if_neg (guard_no (j := 13) (t := 25) rfl (by kernel_rfl) s25)]; exact hK _ rfl)
        | (rw [if_neg (guard_undef (j := 13) (t := 25) rfl (by kernel_rfl) s25)]; exact hK _ rfl)
        | (rw [if_pos (guard_yes (j := 13) (t := 25) rfl (by kernel_rfl) s25)]
           go_wp2
           exact rfl)
    refine owesL_cons (i' := 16) rfl ?_ ?_
    · refine o_pureg (by kernel_rfl) fun us a wz hA hv K hK => ?_
      have s3 := slot_out hA (t := 3) (by kernel_rfl)
      have s25 := (slot_in hA (t := 25) (by simp) (j := 13) (by kernel_rfl)).trans (hv 13 (by kernel_rfl))
      clear hA hv
      first
        | (rw [if_neg (guard_no (j := 13) (t := 25) rfl (by kernel_rfl) s25)]; exact hK _ rfl)
        | (rw [if_neg (guard_undef (j := 13) (t := 25) rfl (by kernel_rfl) s25)]; exact hK _ rfl)
        | (rw [if_pos (guard_yes (j := 13) (t := 25) rfl (by kernel_rfl) s25)]
           go_wp2
           exact rfl)
    refine owesL_cons (i' := 17) rfl ?_ ?_
    · refine o_pureg (by kernel_rfl) fun us a wz hA hv K hK => ?_
      have s27 := (slot_in hA (t := 27) (by simp) (j := 15) (by kernel_rfl)).trans (hv 15 (by kernel_rfl))
      have s25 := (slot_in hA (t := 25) (by simp) (j := 13) (by kernel_rfl)).trans (hv 13 (by kernel_rfl))
      clear hA hv
      first
        | (rw [if_neg (guard_no (j := 13) (t := 25) rfl (by kernel_rfl) s25)]; exact hK _ rfl)
        | (rw [if_neg (guard_undef (j := 13) (t := 25) rfl (by kernel_rfl) s25)]; exact hK _ rfl)
        | (rw [if_pos (guard_yes (j := 13) (t := 25) rfl (by kernel_rfl) s25)]
           go_wp2
           exact rfl)
    refine owesL_cons (i' := 18) rfl ?_ ?_
    · refine o_pureg (by kernel_rfl) fun us a wz hA hv K hK => ?_
      have s26 := (slot_in hA (t := 26) (by simp) (j := 14) (by kernel_rfl)).trans (hv 14 (by kernel_rfl))
      have s28 := (slot_in hA (t := 28) (by simp) (j := 16) (by kernel_rfl)).trans (hv 16 (by kernel_rfl))
      have s25 := (slot_in hA (t := 25) (by simp) (j := 13) (by kernel_rfl)).trans (hv 13 (by kernel_rfl))
      clear hA hv
      first
        | (rw [if_neg (guard_no (j := 13) (t := 25) rfl (by kernel_rfl) s25)]; exact hK _ rfl)
        | (rw [if_neg (guard_undef (j := 13) (t := 25) rfl (by kernel_rfl) s25)]; exact hK _ rfl)
        | (rw [if_pos (guard_yes (j := 13) (t := 25) rfl (by kernel_rfl) s25)]
           go_wp2
           exact rfl)
    refine owesL_cons (i' := 19) rfl ?_ ?_
    · refine o_pureg (by kernel_rfl) fun us a wz hA hv K hK => ?_
      have s29 := (slot_in hA (t := 29) (by simp) (j := 17) (by kernel_rfl)).trans (hv 17 (by kernel_rfl))
      have s25 := (slot_in hA (t := 25) (by simp) (j := 13) (by kernel_rfl)).trans (hv 13 (by kernel_rfl))
      clear hA hv
      first
        | (rw [if_neg (guard_no (j := 13) (t := 25) rfl (by kernel_rfl) s25)]; exact hK _ rfl)
        | (rw [if_neg (guard_undef (j := 13) (t := 25) rfl (by kernel_rfl) s25)]; exact hK _ rfl)
        | (rw [if_pos (guard_yes (j := 13) (t := 25) rfl (by kernel_rfl) s25)]
           go_wp2
           exact rfl)
    refine owesL_cons (i' := 20) rfl ?_ ?_
    · refine o_qg (by kernel_rfl) (by kernel_rfl) (pl := []) (by kernel_rfl) fun us a wz hA hv hf hw K hK => ?_
      have s30 := (slot_in hA (t := 30) (by simp) (j := 18) (by kernel_rfl)).trans (hv 18 (by kernel_rfl))
      have s25 := (slot_in hA (t := 25) (by simp) (j := 13) (by kernel_rfl)).trans (hv 13 (by kernel_rfl))
      clear hA hv
      first
        | (rw [if_neg (guard_no (j := 13) (t := 25) rfl (by kernel_rfl) s25)]; exact hK _ _ rfl (Frm.refl _ _))
        | (rw [if_neg (guard_undef (j := 13) (t := 25) rfl (by kernel_rfl) s25)]; exact hK _ _ rfl (Frm.refl _ _))
        | (rw [if_pos (guard_yes (j := 13) (t := 25) rfl (by kernel_rfl) s25)]
           have k0 := hf.cell cp (fun h => h)
           clear hf
           go_wp2
           exact hK _ _ rfl (Frm.refl _ _))
    refine owesL_cons (i' := 21) rfl ?_ ?_
    · refine o_pureg (by kernel_rfl) fun us a wz hA hv K hK => ?_
      have s4 := slot_out hA (t := 4) (by kernel_rfl)
      have s25 := (slot_in hA (t := 25) (by simp) (j := 13) (by kernel_rfl)).trans (hv 13 (by kernel_rfl))
      clear hA hv
      first
        | (rw [if_neg (guard_no (j := 13) (t := 25) rfl (by kernel_rfl) s25)]; exact hK _ rfl)
        | (rw [if_neg (guard_undef (j := 13) (t := 25) rfl (by kernel_rfl) s25)]; exact hK _ rfl)
        | (rw [if_pos (guard_yes (j := 13) (t := 25) rfl (by kernel_rfl) s25)]
           go_wp2
           exact rfl)
    refine owesL_cons (i' := 22) rfl ?_ ?_
    · refine o_qg (by kernel_rfl) (by kernel_rfl) (pl := []) (by kernel_rfl) fun us a wz hA hv hf hw K hK => ?_
      have s32 := (slot_in hA (t := 32) (by simp) (j := 20) (by kernel_rfl)).trans (hv 20 (by kernel_rfl))
      have s25 := (slot_in hA (t := 25) (by simp) (j := 13) (by kernel_rfl)).trans (hv 13 (by kernel_rfl))
      clear hA hv
      first
        | (rw [if_neg (guard_no (j := 13) (t := 25) rfl (by kernel_rfl) s25)]; exact hK _ _ rfl (Frm.refl _ _))
        | (rw [if_neg (guard_undef (j := 13) (t := 25) rfl (by kernel_rfl) s25)]; exact hK _ _ rfl (Frm.refl _ _))
        | (rw [if_pos (guard_yes (j := 13) (t := 25) rfl (by kernel_rfl) s25)]
           have k0 := hf.cell cn (fun h => h)
           clear hf
           go_wp2
           exact hK _ _ rfl (Frm.refl _ _))
    refine owesL_cons (i' := 23) rfl ?_ ?_
    · refine o_pureg (by kernel_rfl) fun us a wz hA hv K hK => ?_
      have s31 := (slot_in hA (t := 31) (by simp) (j := 19) (by kernel_rfl)).trans (hv 19 (by kernel_rfl))
      have s33 := (slot_in hA (t := 33) (by simp) (j := 21) (by kernel_rfl)).trans (hv 21 (by kernel_rfl))
      have s25 := (slot_in hA (t := 25) (by simp) (j := 13) (by kernel_rfl)).trans (hv 13 (by kernel_rfl))
      clear hA hv
      first
        | (rw [if_neg (guard_no (j := 13) (t := 25) rfl (by kernel_rfl) s25)]; exact hK _ rfl)
        | (rw [if_neg (guard_undef (j := 13) (t := 25) rfl (by kernel_rfl) s25)]; exact hK _ rfl)
        | (rw [if_pos (guard_yes (j := 13) (t := 25) rfl (by kernel_rfl) s25)]
           go_wp2
           exact rfl)
    refine owesL_cons (i' := 24) rfl ?_ ?_
    · refine o_pureg (by kernel_rfl) fun us a wz hA hv K hK => ?_
      have s25 := (slot_in hA (t := 25) (by simp) (j := 13) (by kernel_rfl)).trans (hv 13 (by kernel_rfl))
      have s34 := (slot_in hA (t := 34) (by simp) (j := 22) (by kernel_rfl)).trans (hv 22 (by kernel_rfl))
      have s22 := (slot_in hA (t := 22) (by simp) (j := 10) (by kernel_rfl)).trans (hv 10 (by kernel_rfl))
      clear hA hv
      first
        | (rw [if_neg (guard_no (j := 10) (t := 22) rfl (by kernel_rfl) s22)]; exact hK _ rfl)
        | (rw [if_neg (guard_undef (j := 10) (t := 22) rfl (by kernel_rfl) s22)]; exact hK _ rfl)
        | (rw [if_pos (guard_yes (j := 10) (t := 22) rfl (by kernel_rfl) s22)]
           go_wp2
           exact rfl)
    refine owesL_cons (i' := 25) rfl ?_ ?_
    · refine o_pure rfl (by kernel_rfl) fun us a wz hA hv K hK => ?_
      have s22 := (slot_in hA (t := 22) (by simp) (j := 10) (by kernel_rfl)).trans (hv 10 (by kernel_rfl))
      have s35 := (slot_in hA (t := 35) (by simp) (j := 23) (by kernel_rfl)).trans (hv 23 (by kernel_rfl))
      clear hA hv
      go_wp2
      exact rfl
    exact owesL_nil
  case hV => exact Stabs.vt (.cons (stab_is _ _) (.cons (stab_is _ _) (.cons (stab_is _ _) (.cons (stab_is _ _) (.cons (stab_is _ _) (.cons (stab_is _ _) (.cons (stab_is _ _) (.cons (stab_is _ _) (.cons (stab_is _ _) (.cons (stab_is _ _) (.cons (stab_is _ _) (.cons (stab_is _ _) (.cons (stab_is _ _) (.cons (stab_is _ _) (.cons (stab_is _ _) (.cons (stab_is _ _) (.cons (stab_is _ _) (.cons (stab_is _ _) (.cons (stab_is _ _) (.cons (stab_is _ _) (.cons (stab_is _ _) (.cons (stab_is _ _) (.cons (stab_is _ _) (.cons (stab_is _ _) (.cons (stab_is _ _) (.nil))))))))))))))))))))))))))
  case hW => exact StabWs.wt (.cons (fun _ _ _ h _ => h) (.nil))
  case h0 =>
    trivial
  intro usx wx hvx hwx hfx
  have qx0 : usx 0 = _ := hvx 0 (by decide)
  have qx1 : usx 1 = _ := hvx 1 (by decide)
  have qx2 : usx 2 = _ := hvx 2 (by decide)
  have qx3 : usx 3 = _ := hvx 3 (by decide)
  have qx4 : usx 4 = _ := hvx 4 (by decide)
  have qx5 : usx 5 = _ := hvx 5 (by decide)
  have qx6 : usx 6 = _ := hvx 6 (by decide)
  have qx7 : usx 7 = _ := hvx 7 (by decide)
  have qx8 : usx 8 = _ := hvx 8 (by decide)
  have qx9 : usx 9 = _ := hvx 9 (by decide)
  have qx10 : usx 10 = _ := hvx 10 (by decide)
  have qx11 : usx 11 = _ := hvx 11 (by decide)
  have qx12 : usx 12 = _ := hvx 12 (by decide)
  have qx13 : usx 13 = _ := hvx 13 (by decide)
  have qx14 : usx 14 = _ := hvx 14 (by decide)
  have qx15 : usx 15 = _ := hvx 15 (by decide)
  have qx16 : usx 16 = _ := hvx 16 (by decide)
  have qx17 : usx 17 = _ := hvx 17 (by decide)
  have qx18 : usx 18 = _ := hvx 18 (by decide)
  have qx19 : usx 19 = _ := hvx 19 (by decide)
  have qx20 : usx 20 = _ := hvx 20 (by decide)
  have qx21 : usx 21 = _ := hvx 21 (by decide)
  have qx22 : usx 22 = _ := hvx 22 (by decide)
  have qx23 : usx 23 = _ := hvx 23 (by decide)
  have qx24 : usx 24 = _ := hvx 24 (by decide)
  rw [fill_all (ds := [some 12, some 13, some 14, some 15, some 16, some 17, some 18, some 19, some 20, some 21, some 22, some 23, some 24, some 25, some 26, some 27, some 28, some 29, some 30, some 31, some 32, some 33, some 34, some 35, some 36]) (by kernel_rfl)]
  simp only [putAll, Act.put, List.setIfInBounds_toArray, List.set_cons_succ, List.set_cons_zero, Nat.reduceAdd, qx0, qx1, qx2, qx3, qx4, qx5, qx6, qx7, qx8, qx9, qx10, qx11, qx12, qx13, qx14, qx15, qx16, qx17, qx18, qx19, qx20, qx21, qx22, qx23, qx24]
  clear hvx qx0 qx1 qx2 qx3 qx4 qx5 qx6 qx7 qx8 qx9 qx10 qx11 qx12 qx13 qx14 qx15 qx16 qx17 qx18 qx19 qx20 qx21 qx22 qx23 qx24
  exact hQ _ _ _ _ _ _ _ _ _ _ _ _ _ _ _ _ _ _ _ _ _ _ _ _ _ ((Frm.refl _ _).drew.trans hfx fun _ _ h => h)
set_option maxRecDepth 100000 in
set_option maxHeartbeats 1000000 in
theorem items_r4e {b o n c k g : Nat} {nm pn : ByteArray} {v : Ver} {u1 u2 u5 u6 u7 u8 u9 u10 u11 u12 u13 u14 u15 u16 u17 u18 u19 u20 u21 u22 u23 u24 u25 u26 u27 u28 u29 u30 u31 u32 u33 u34 u35 u36 u37 u38 u39 u40 : Value} {w : World} (cn : w.cell? ⟨g, 0, none⟩ = some (.string nm)) (hvr : w.rangeAt g 1 v.cells) (hk : k + 1 < n) (hn : n ≤ 1048576)
    (hno : nameOk nm = true) (hvo : v.ok = true) (cp : w.cell? ⟨b, o + k * 37, none⟩ = some (.string pn)) (hlt : Op.bytesLess pn.toList nm.toList = false) {Q : Exit → Act → World → Prop}
    (hQ : ∀ (x12 x13 x14 x15 x16 x17 x18 x19 x20 x21 x22 x23 x24 x25 x26 x27 x28 x29 x30 x31 x32 x33 x34 x35 : Value) (w' : World), Frm (fun _ => False) w w' → Q .normal ⟨(.slice (some ⟨b, o, none⟩) n c :: u1 :: u2 :: .int .i64 ((k : Int) + 1) :: .pointer (some ⟨g, 0, none⟩) :: u5 :: u6 :: u7 :: u8 :: u9 :: u10 :: u11 :: x12 :: x13 :: x14 :: x15 :: x16 :: x17 :: x18 :: x19 :: x20 :: x21 :: x22 :: x23 :: x24 :: x25 :: x26 :: x27 :: x28 :: x29 :: x30 :: x31 :: x32 :: x33 :: x34 :: x35 :: .bool true :: u37 :: u38 :: u39 :: u40 :: []).toArray, []⟩ w') :
    (regionOf Tryd.f46 4).wp Tryd.prog Q ⟨(.slice (some ⟨b, o, none⟩) n c :: u1 :: u2 :: .int .i64 ((k : Int) + 1) :: .pointer (some ⟨g, 0, none⟩) :: u5 :: u6 :: u7 :: u8 :: u9 :: u10 :: u11 :: u12 :: u13 :: u14 :: u15 :: u16 :: u17 :: u18 :: u19 :: u20 :: u21 :: u22 :: u23 :: u24 :: u25 :: u26 :: u27 :: u28 :: u29 :: u30 :: u31 :: u32 :: u33 :: u34 :: u35 :: u36 :: u37 :: u38 :: u39 :: u40 :: []).toArray, []⟩ w := by
  conv => arg 2; whnf
  apply wp_region_typed (fun _ => False) (nf [1, 2, 6, 7, 19, 21]) [] (vt [(Is _), (Is _), (Is _), (Is _), (Is _), (Is _), (Is _), (Is _), (Is _), (Is _), (Is _), (Is _), (Is _), (Is _), (Is _), (Is _), (Is _), (Is _), (Is _), (Is _), (Is _), (Is _), (Is _), (Is _), (Is _)]) (wt [(fun _ _ => True)]) (by kernel_rfl) (by kernel_rfl) (by kernel_rfl) (by kernel_rfl) (hop := owesL_all ?hop)
  case hop =>
    refine owesL_cons (i' := 1) rfl ?_ ?_
    · refine o_pure rfl (by kernel_rfl) fun us a wz hA hv K hK => ?_
      have s4 := slot_out hA (t := 4) (by kernel_rfl)
      clear hA hv
      go_wp2
      exact rfl
    refine owesL_cons (i' := 2) rfl ?_ ?_
    · refine o_q rfl (by kernel_rfl) (by kernel_rfl) (pl := []) (by kernel_rfl) fun us a wz hA hv hf hw K hK => ?_
      have s12 := (slot_in hA (t := 12) (by simp) (j := 0) (by kernel_rfl)).trans (hv 0 (by kernel_rfl))
      clear hA hv
      have k0 := hf.cell cn (fun h => h)
      clear hf
      go_wp2
      exact hK _ _ rfl (Frm.refl _ _)
    refine owesL_cons (i' := 3) rfl ?_ ?_
    · refine o_q rfl (by kernel_rfl) (by kernel_rfl) (pl := []) (by kernel_rfl) fun us a wz hA hv hf hw K hK => ?_
      have s13 := (slot_in hA (t := 13) (by simp) (j := 1) (by kernel_rfl)).trans (hv 1 (by kernel_rfl))
      clear hA hv
      clear hf
      go_wp2_with fail
      refine (name_any _ _).mono ?_
      rintro e w1 ⟨rfl, hp1⟩
      rw [hno]
      exact hK _ _ rfl (Frm.of_below hp1 _)
    refine owesL_cons (i' := 4) rfl ?_ ?_
    · refine o_pure rfl (by kernel_rfl) fun us a wz hA hv K hK => ?_
      have s14 := (slot_in hA (t := 14) (by simp) (j := 2) (by kernel_rfl)).trans (hv 2 (by kernel_rfl))
      clear hA hv
      go_wp2
      exact rfl
    refine owesL_cons (i' := 5) rfl ?_ ?_
    · refine o_pure rfl (by kernel_rfl) fun us a wz hA hv K hK => ?_
      have s15 := (slot_in hA (t := 15) (by simp) (j := 3) (by kernel_rfl)).trans (hv 3 (by kernel_rfl))
      clear hA hv
      go_wp2
      exact rfl
    refine owesL_cons (i' := 6) rfl ?_ ?_
    · refine o_pureg (by kernel_rfl) fun us a wz hA hv K hK => ?_
      have s4 := slot_out hA (t := 4) (by kernel_rfl)
      have s16 := (slot_in hA (t := 16) (by simp) (j := 4) (by kernel_rfl)).trans (hv 4 (by kernel_rfl))
      clear hA hv
      first
        | (rw [if_neg (guard_no (j := 4) (t := 16) rfl (by kernel_rfl) s16)]; exact hK _ rfl)
        | (rw [if_neg (guard_undef (j := 4) (t := 16) rfl (by kernel_rfl) s16)]; exact hK _ rfl)
        | (rw [if_pos (guard_yes (j := 4) (t := 16) rfl (by kernel_rfl) s16)]
           go_wp2
           exact rfl)
    refine owesL_cons (i' := 7) rfl ?_ ?_
    · refine o_qg (by kernel_rfl) (by kernel_rfl) (pl := []) (by kernel_rfl) fun us a wz hA hv hf hw K hK => ?_
      have s17 := (slot_in hA (t := 17) (by simp) (j := 5) (by kernel_rfl)).trans (hv 5 (by kernel_rfl))
      have s16 := (slot_in hA (t := 16) (by simp) (j := 4) (by kernel_rfl)).trans (hv 4 (by kernel_rfl))
      clear hA hv
      first
        | (rw [if_neg (guard_no (j := 4) (t := 16) rfl (by kernel_rfl) s16)]; exact hK _ _ rfl (Frm.refl _ _))
        | (rw [if_neg (guard_undef (j := 4) (t := 16) rfl (by kernel_rfl) s16)]; exact hK _ _ rfl (Frm.refl _ _))
        | (rw [if_pos (guard_yes (j := 4) (t := 16) rfl (by kernel_rfl) s16)]
           have k0 : wz.rangeAt g 1 v.cells := range_frm (F := fun _ => False) (show w.drew.rangeAt g 1 v.cells from hvr) hf fun h => h
           clear hf
           refine wp_load_mid 66 _ rfl g 1 (ev s17) v.cells _ k0 Tryd.underlying66 rfl (by kernel_rfl) ?_
           exact hK _ _ rfl (Frm.refl _ _))
    refine owesL_cons (i' := 8) rfl ?_ ?_
    · refine o_qg (by kernel_rfl) (by kernel_rfl) (pl := []) (by kernel_rfl) fun us a wz hA hv hf hw K hK => ?_
      have s18 := (slot_in hA (t := 18) (by simp) (j := 6) (by kernel_rfl)).trans (hv 6 (by kernel_rfl))
      have s16 := (slot_in hA (t := 16) (by simp) (j := 4) (by kernel_rfl)).trans (hv 4 (by kernel_rfl))
      clear hA hv
      first
        | (rw [if_neg (guard_no (j := 4) (t := 16) rfl (by kernel_rfl) s16)]; exact hK _ _ rfl (Frm.refl _ _))
        | (rw [if_neg (guard_undef (j := 4) (t := 16) rfl (by kernel_rfl) s16)]; exact hK _ _ rfl (Frm.refl _ _))
        | (rw [if_pos (guard_yes (j := 4) (t := 16) rfl (by kernel_rfl) s16)]
           clear hf
           go_wp2_with fail
           refine (verRight_any _ _).mono ?_
           rintro e w1 ⟨rfl, hp1⟩
           rw [hvo]
           exact hK _ _ rfl (Frm.of_below hp1 _))
    refine owesL_cons (i' := 9) rfl ?_ ?_
    · refine o_pureg (by kernel_rfl) fun us a wz hA hv K hK => ?_
      have s19 := (slot_in hA (t := 19) (by simp) (j := 7) (by kernel_rfl)).trans (hv 7 (by kernel_rfl))
      have s16 := (slot_in hA (t := 16) (by simp) (j := 4) (by kernel_rfl)).trans (hv 4 (by kernel_rfl))
      clear hA hv
      first
        | (rw [if_neg (guard_no (j := 4) (t := 16) rfl (by kernel_rfl) s16)]; exact hK _ rfl)
        | (rw [if_neg (guard_undef (j := 4) (t := 16) rfl (by kernel_rfl) s16)]; exact hK _ rfl)
        | (rw [if_pos (guard_yes (j := 4) (t := 16) rfl (by kernel_rfl) s16)]
           go_wp2
           exact rfl)
    refine owesL_cons (i' := 10) rfl ?_ ?_
    · refine o_pure rfl (by kernel_rfl) fun us a wz hA hv K hK => ?_
      have s16 := (slot_in hA (t := 16) (by simp) (j := 4) (by kernel_rfl)).trans (hv 4 (by kernel_rfl))
      have s20 := (slot_in hA (t := 20) (by simp) (j := 8) (by kernel_rfl)).trans (hv 8 (by kernel_rfl))
      clear hA hv
      go_wp2
      exact rfl
    refine owesL_cons (i' := 11) rfl ?_ ?_
    · refine o_pure rfl (by kernel_rfl) fun us a wz hA hv K hK => ?_
      have s21 := (slot_in hA (t := 21) (by simp) (j := 9) (by kernel_rfl)).trans (hv 9 (by kernel_rfl))
      clear hA hv
      go_wp2
      exact rfl
    refine owesL_cons (i' := 12) rfl ?_ ?_
    · refine o_pureg (by kernel_rfl) fun us a wz hA hv K hK => ?_
      have s3 := slot_out hA (t := 3) (by kernel_rfl)
      have s22 := (slot_in hA (t := 22) (by simp) (j := 10) (by kernel_rfl)).trans (hv 10 (by kernel_rfl))
      clear hA hv
      first
        | (rw [if_neg (guard_no (j := 10) (t := 22) rfl (by kernel_rfl) s22)]; exact hK _ rfl)
        | (rw [if_neg (guard_undef (j := 10) (t := 22) rfl (by kernel_rfl) s22)]; exact hK _ rfl)
        | (rw [if_pos (guard_yes (j := 10) (t := 22) rfl (by kernel_rfl) s22)]
           go_wp2
           exact rfl)
    refine owesL_cons (i' := 13) rfl ?_ ?_
    · refine o_pureg (by kernel_rfl) fun us a wz hA hv K hK => ?_
      have s23 := (slot_in hA (t := 23) (by simp) (j := 11) (by kernel_rfl)).trans (hv 11 (by kernel_rfl))
      have s22 := (slot_in hA (t := 22) (by simp) (j := 10) (by kernel_rfl)).trans (hv 10 (by kernel_rfl))
      clear hA hv
      first
        | (rw [if_neg (guard_no (j := 10) (t := 22) rfl (by kernel_rfl) s22)]; exact hK _ rfl)
        | (rw [if_neg (guard_undef (j := 10) (t := 22) rfl (by kernel_rfl) s22)]; exact hK _ rfl)
        | (rw [if_pos (guard_yes (j := 10) (t := 22) rfl (by kernel_rfl) s22)]
           go_wp2
           exact rfl)
    refine owesL_cons (i' := 14) rfl ?_ ?_
    · refine o_pureg (by kernel_rfl) fun us a wz hA hv K hK => ?_
      have s24 := (slot_in hA (t := 24) (by simp) (j := 12) (by kernel_rfl)).trans (hv 12 (by kernel_rfl))
      have s22 := (slot_in hA (t := 22) (by simp) (j := 10) (by kernel_rfl)).trans (hv 10 (by kernel_rfl))
      clear hA hv
      first
        | (rw [if_neg (guard_no (j := 10) (t := 22) rfl (by kernel_rfl) s22)]; exact hK _ rfl)
        | (rw [if_neg (guard_undef (j := 10) (t := 22) rfl (by kernel_rfl) s22)]; exact hK _ rfl)
        | (rw [if_pos (guard_yes (j := 10) (t := 22) rfl (by kernel_rfl) s22)]
           go_wp2
           exact rfl)
    refine owesL_cons (i' := 15) rfl ?_ ?_
    · refine o_pureg (by kernel_rfl) fun us a wz hA hv K hK => ?_
      have s0 := slot_out hA (t := 0) (by kernel_rfl)
      have s25 := (slot_in hA (t := 25) (by simp) (j := 13) (by kernel_rfl)).trans (hv 13 (by kernel_rfl))
      clear hA hv
      first
        | (rw [if_neg (guard_no (j := 13) (t := 25) rfl (by kernel_rfl) s25)]; exact hK _ rfl)
        | (rw [if_neg (guard_undef (j := 13) (t := 25) rfl (by kernel_rfl) s25)]; exact hK _ rfl)
        | (rw [if_pos (guard_yes (j := 13) (t := 25) rfl (by kernel_rfl) s25)]
           go_wp2
           exact rfl)
    refine owesL_cons (i' := 16) rfl ?_ ?_
    · refine o_pureg (by kernel_rfl) fun us a wz hA hv K hK => ?_
      have s3 := slot_out hA (t := 3) (by kernel_rfl)
      have s25 := (slot_in hA (t := 25) (by simp) (j := 13) (by kernel_rfl)).trans (hv 13 (by kernel_rfl))
      clear hA hv
      first
        | (rw [if_neg (guard_no (j := 13) (t := 25) rfl (by kernel_rfl) s25)]; exact hK _ rfl)
        | (rw [if_neg (guard_undef (j := 13) (t := 25) rfl (by kernel_rfl) s25)]; exact hK _ rfl)
        | (rw [if_pos (guard_yes (j := 13) (t := 25) rfl (by kernel_rfl) s25)]
           go_wp2
           exact rfl)
    refine owesL_cons (i' := 17) rfl ?_ ?_
    · refine o_pureg (by kernel_rfl) fun us a wz hA hv K hK => ?_
      have s27 := (slot_in hA (t := 27) (by simp) (j := 15) (by kernel_rfl)).trans (hv 15 (by kernel_rfl))
      have s25 := (slot_in hA (t := 25) (by simp) (j := 13) (by kernel_rfl)).trans (hv 13 (by kernel_rfl))
      clear hA hv
      first
        | (rw [if_neg (guard_no (j := 13) (t := 25) rfl (by kernel_rfl) s25)]; exact hK _ rfl)
        | (rw [if_neg (guard_undef (j := 13) (t := 25) rfl (by kernel_rfl) s25)]; exact hK _ rfl)
        | (rw [if_pos (guard_yes (j := 13) (t := 25) rfl (by kernel_rfl) s25)]
           go_wp2
           exact rfl)
    refine owesL_cons (i' := 18) rfl ?_ ?_
    · refine o_pureg (by kernel_rfl) fun us a wz hA hv K hK => ?_
      have s26 := (slot_in hA (t := 26) (by simp) (j := 14) (by kernel_rfl)).trans (hv 14 (by kernel_rfl))
      have s28 := (slot_in hA (t := 28) (by simp) (j := 16) (by kernel_rfl)).trans (hv 16 (by kernel_rfl))
      have s25 := (slot_in hA (t := 25) (by simp) (j := 13) (by kernel_rfl)).trans (hv 13 (by kernel_rfl))
      clear hA hv
      first
        | (rw [if_neg (guard_no (j := 13) (t := 25) rfl (by kernel_rfl) s25)]; exact hK _ rfl)
        | (rw [if_neg (guard_undef (j := 13) (t := 25) rfl (by kernel_rfl) s25)]; exact hK _ rfl)
        | (rw [if_pos (guard_yes (j := 13) (t := 25) rfl (by kernel_rfl) s25)]
           go_wp2
           exact rfl)
    refine owesL_cons (i' := 19) rfl ?_ ?_
    · refine o_pureg (by kernel_rfl) fun us a wz hA hv K hK => ?_
      have s29 := (slot_in hA (t := 29) (by simp) (j := 17) (by kernel_rfl)).trans (hv 17 (by kernel_rfl))
      have s25 := (slot_in hA (t := 25) (by simp) (j := 13) (by kernel_rfl)).trans (hv 13 (by kernel_rfl))
      clear hA hv
      first
        | (rw [if_neg (guard_no (j := 13) (t := 25) rfl (by kernel_rfl) s25)]; exact hK _ rfl)
        | (rw [if_neg (guard_undef (j := 13) (t := 25) rfl (by kernel_rfl) s25)]; exact hK _ rfl)
        | (rw [if_pos (guard_yes (j := 13) (t := 25) rfl (by kernel_rfl) s25)]
           go_wp2
           exact rfl)
    refine owesL_cons (i' := 20) rfl ?_ ?_
    · refine o_qg (by kernel_rfl) (by kernel_rfl) (pl := []) (by kernel_rfl) fun us a wz hA hv hf hw K hK => ?_
      have s30 := (slot_in hA (t := 30) (by simp) (j := 18) (by kernel_rfl)).trans (hv 18 (by kernel_rfl))
      have s25 := (slot_in hA (t := 25) (by simp) (j := 13) (by kernel_rfl)).trans (hv 13 (by kernel_rfl))
      clear hA hv
      first
        | (rw [if_neg (guard_no (j := 13) (t := 25) rfl (by kernel_rfl) s25)]; exact hK _ _ rfl (Frm.refl _ _))
        | (rw [if_neg (guard_undef (j := 13) (t := 25) rfl (by kernel_rfl) s25)]; exact hK _ _ rfl (Frm.refl _ _))
        | (rw [if_pos (guard_yes (j := 13) (t := 25) rfl (by kernel_rfl) s25)]
           have k0 := hf.cell cp (fun h => h)
           clear hf
           go_wp2
           exact hK _ _ rfl (Frm.refl _ _))
    refine owesL_cons (i' := 21) rfl ?_ ?_
    · refine o_pureg (by kernel_rfl) fun us a wz hA hv K hK => ?_
      have s4 := slot_out hA (t := 4) (by kernel_rfl)
      have s25 := (slot_in hA (t := 25) (by simp) (j := 13) (by kernel_rfl)).trans (hv 13 (by kernel_rfl))
      clear hA hv
      first
        | (rw [if_neg (guard_no (j := 13) (t := 25) rfl (by kernel_rfl) s25)]; exact hK _ rfl)
        | (rw [if_neg (guard_undef (j := 13) (t := 25) rfl (by kernel_rfl) s25)]; exact hK _ rfl)
        | (rw [if_pos (guard_yes (j := 13) (t := 25) rfl (by kernel_rfl) s25)]
           go_wp2
           exact rfl)
    refine owesL_cons (i' := 22) rfl ?_ ?_
    · refine o_qg (by kernel_rfl) (by kernel_rfl) (pl := []) (by kernel_rfl) fun us a wz hA hv hf hw K hK => ?_
      have s32 := (slot_in hA (t := 32) (by simp) (j := 20) (by kernel_rfl)).trans (hv 20 (by kernel_rfl))
      have s25 := (slot_in hA (t := 25) (by simp) (j := 13) (by kernel_rfl)).trans (hv 13 (by kernel_rfl))
      clear hA hv
      first
        | (rw [if_neg (guard_no (j := 13) (t := 25) rfl (by kernel_rfl) s25)]; exact hK _ _ rfl (Frm.refl _ _))
        | (rw [if_neg (guard_undef (j := 13) (t := 25) rfl (by kernel_rfl) s25)]; exact hK _ _ rfl (Frm.refl _ _))
        | (rw [if_pos (guard_yes (j := 13) (t := 25) rfl (by kernel_rfl) s25)]
           have k0 := hf.cell cn (fun h => h)
           clear hf
           go_wp2
           exact hK _ _ rfl (Frm.refl _ _))
    refine owesL_cons (i' := 23) rfl ?_ ?_
    · refine o_pureg (by kernel_rfl) fun us a wz hA hv K hK => ?_
      have s31 := (slot_in hA (t := 31) (by simp) (j := 19) (by kernel_rfl)).trans (hv 19 (by kernel_rfl))
      have s33 := (slot_in hA (t := 33) (by simp) (j := 21) (by kernel_rfl)).trans (hv 21 (by kernel_rfl))
      have s25 := (slot_in hA (t := 25) (by simp) (j := 13) (by kernel_rfl)).trans (hv 13 (by kernel_rfl))
      clear hA hv
      first
        | (rw [if_neg (guard_no (j := 13) (t := 25) rfl (by kernel_rfl) s25)]; exact hK _ rfl)
        | (rw [if_neg (guard_undef (j := 13) (t := 25) rfl (by kernel_rfl) s25)]; exact hK _ rfl)
        | (rw [if_pos (guard_yes (j := 13) (t := 25) rfl (by kernel_rfl) s25)]
           go_wp2
           exact rfl)
    refine owesL_cons (i' := 24) rfl ?_ ?_
    · refine o_pureg (by kernel_rfl) fun us a wz hA hv K hK => ?_
      have s25 := (slot_in hA (t := 25) (by simp) (j := 13) (by kernel_rfl)).trans (hv 13 (by kernel_rfl))
      have s34 := (slot_in hA (t := 34) (by simp) (j := 22) (by kernel_rfl)).trans (hv 22 (by kernel_rfl))
      have s22 := (slot_in hA (t := 22) (by simp) (j := 10) (by kernel_rfl)).trans (hv 10 (by kernel_rfl))
      clear hA hv
      first
        | (rw [if_neg (guard_no (j := 10) (t := 22) rfl (by kernel_rfl) s22)]; exact hK _ rfl)
        | (rw [if_neg (guard_undef (j := 10) (t := 22) rfl (by kernel_rfl) s22)]; exact hK _ rfl)
        | (rw [if_pos (guard_yes (j := 10) (t := 22) rfl (by kernel_rfl) s22)]
           go_wp2
           exact rfl)
    refine owesL_cons (i' := 25) rfl ?_ ?_
    · refine o_pure rfl (by kernel_rfl) fun us a wz hA hv K hK => ?_
      have s22 := (slot_in hA (t := 22) (by simp) (j := 10) (by kernel_rfl)).trans (hv 10 (by kernel_rfl))
      have s35 := (slot_in hA (t := 35) (by simp) (j := 23) (by kernel_rfl)).trans (hv 23 (by kernel_rfl))
      clear hA hv
      go_wp2
      exact rfl
    exact owesL_nil
  case hV => exact Stabs.vt (.cons (stab_is _ _) (.cons (stab_is _ _) (.cons (stab_is _ _) (.cons (stab_is _ _) (.cons (stab_is _ _) (.cons (stab_is _ _) (.cons (stab_is _ _) (.cons (stab_is _ _) (.cons (stab_is _ _) (.cons (stab_is _ _) (.cons (stab_is _ _) (.cons (stab_is _ _) (.cons (stab_is _ _) (.cons (stab_is _ _) (.cons (stab_is _ _) (.cons (stab_is _ _) (.cons (stab_is _ _) (.cons (stab_is _ _) (.cons (stab_is _ _) (.cons (stab_is _ _) (.cons (stab_is _ _) (.cons (stab_is _ _) (.cons (stab_is _ _) (.cons (stab_is _ _) (.cons (stab_is _ _) (.nil))))))))))))))))))))))))))
  case hW => exact StabWs.wt (.cons (fun _ _ _ h _ => h) (.nil))
  case h0 =>
    trivial
  intro usx wx hvx hwx hfx
  have qx0 : usx 0 = _ := hvx 0 (by decide)
  have qx1 : usx 1 = _ := hvx 1 (by decide)
  have qx2 : usx 2 = _ := hvx 2 (by decide)
  have qx3 : usx 3 = _ := hvx 3 (by decide)
  have qx4 : usx 4 = _ := hvx 4 (by decide)
  have qx5 : usx 5 = _ := hvx 5 (by decide)
  have qx6 : usx 6 = _ := hvx 6 (by decide)
  have qx7 : usx 7 = _ := hvx 7 (by decide)
  have qx8 : usx 8 = _ := hvx 8 (by decide)
  have qx9 : usx 9 = _ := hvx 9 (by decide)
  have qx10 : usx 10 = _ := hvx 10 (by decide)
  have qx11 : usx 11 = _ := hvx 11 (by decide)
  have qx12 : usx 12 = _ := hvx 12 (by decide)
  have qx13 : usx 13 = _ := hvx 13 (by decide)
  have qx14 : usx 14 = _ := hvx 14 (by decide)
  have qx15 : usx 15 = _ := hvx 15 (by decide)
  have qx16 : usx 16 = _ := hvx 16 (by decide)
  have qx17 : usx 17 = _ := hvx 17 (by decide)
  have qx18 : usx 18 = _ := hvx 18 (by decide)
  have qx19 : usx 19 = _ := hvx 19 (by decide)
  have qx20 : usx 20 = _ := hvx 20 (by decide)
  have qx21 : usx 21 = _ := hvx 21 (by decide)
  have qx22 : usx 22 = _ := hvx 22 (by decide)
  have qx23 : usx 23 = _ := hvx 23 (by decide)
  have qx24 : usx 24 = _ := hvx 24 (by decide)
  rw [fill_all (ds := [some 12, some 13, some 14, some 15, some 16, some 17, some 18, some 19, some 20, some 21, some 22, some 23, some 24, some 25, some 26, some 27, some 28, some 29, some 30, some 31, some 32, some 33, some 34, some 35, some 36]) (by kernel_rfl)]
  simp only [putAll, Act.put, List.setIfInBounds_toArray, List.set_cons_succ, List.set_cons_zero, Nat.reduceAdd, qx0, qx1, qx2, qx3, qx4, qx5, qx6, qx7, qx8, qx9, qx10, qx11, qx12, qx13, qx14, qx15, qx16, qx17, qx18, qx19, qx20, qx21, qx22, qx23, qx24]
  clear hvx qx0 qx1 qx2 qx3 qx4 qx5 qx6 qx7 qx8 qx9 qx10 qx11 qx12 qx13 qx14 qx15 qx16 qx17 qx18 qx19 qx20 qx21 qx22 qx23 qx24
  exact hQ _ _ _ _ _ _ _ _ _ _ _ _ _ _ _ _ _ _ _ _ _ _ _ _ _ ((Frm.refl _ _).drew.trans hfx fun _ _ h => h)

def itemAt (l : List Itm) (j : Nat) : Bool :=
  match l[j]? with
  | none => true
  | some x => nameOk x.name && x.ver.ok && (match j with | 0 => true | i + 1 => match l[i]? with | none => true | some y => Op.bytesLess y.name.toList x.name.toList)
def itemsOk (l : List Itm) : Bool := (List.range l.length).all (itemAt l) && decide (l.length ≤ 256)
theorem items_no {l : List Itm} {j : Nat} (hj : j < l.length) (h : itemAt l j = false) : itemsOk l = false := by
  have : (List.range l.length).all (itemAt l) = false := by
    rw [List.all_eq_false]; exact ⟨j, List.mem_range.2 hj, by rw [h]; decide⟩
  rw [itemsOk, this, Bool.false_and]
theorem items_yes {l : List Itm} (h : ∀ j, j < l.length → itemAt l j = true) : itemsOk l = decide (l.length ≤ 256) := by
  have : (List.range l.length).all (itemAt l) = true := by
    rw [List.all_eq_true]; exact fun j hj => h j (List.mem_range.1 hj)
  rw [itemsOk, this, Bool.true_and]
set_option maxRecDepth 100000 in
set_option maxHeartbeats 2000000 in
theorem items_any (l : List Itm) (A : Option Addr) (n c : Nat) (w : World) (hr : Rd w 37 A n (row l)) (hn : l.length = n) (hb : n ≤ 1048576) :
    Calls Tryd.prog 46 #[.slice A n c] w fun e w' => e = .returned (.bool (itemsOk l)) ∧ Below w.heap.size w w' := by
  replace hr := Lib.hid hr
  replace hn := Lib.hid hn
  go_enter Tryd.func46, Tryd.ntmps46
  go_wp2
  go_loopw [7] (fun i wr => ∃ k : Nat, k ≤ n ∧ i = .int .i64 k ∧ (∀ j, j < k → itemAt l j = true) ∧ Frm (fun _ => False) w wr) (fun i _ => n - (intOf i).toNat)
  case atStart => exact ⟨0, Nat.zero_le _, rfl, fun j hj => by omega, Frm.refl _ _⟩
  case round =>
    obtain ⟨k, hk, rfl, hall, hf⟩ := hrel
    replace hall := Lib.hid hall
    by_cases hlt : k < n
    · have hlt' : (k : Int) < n := by omega
      have hkl : k < l.length := by rw [hn.out]; exact hlt
      obtain ⟨b, o, rfl, hrow⟩ := hr.out.2 (by omega)
      have hcur := range_row Itm.cells 37 Itm.cells_length l o k hkl (fun j v hv => hf.cell (hrow j v hv) fun h => h)
      obtain ⟨x, hx⟩ : ∃ x, x = l[k] := ⟨_, rfl⟩
      rw [← hx] at hcur
      have h37 := x.cells_length
      have hnw := Blk.new wr 68 (.string ⟨#[]⟩ :: .int .i64 0 :: .int .i64 0 :: .int .i64 0 :: .string ⟨#[]⟩ :: List.replicate 32 (.int .u8 0))
      have hth := hnw.there' 0 37 (by simp)
      have hxe : l[k]? = some x := by rw [hx]; exact List.getElem?_eq_getElem hkl
      replace hxe := Lib.hid hxe
      replace hx := Lib.hid hx
      replace hf := Lib.hid hf
      replace hnw := Lib.hid hnw
      have hrow := Lib.hid hrow
      go_wp2_with first
        | refine list_load 68 hcur Tryd.underlying68 rfl (by rw [h37]; kernel_rfl) rfl rfl rfl ?_
        | refine list_store 68 (by rw [h37]; exact hth) (by rw [h37]; kernel_rfl) x.one rfl rfl rfl rfl ?_
      generalize hwq : World.setCells _ _ _ _ = wq
      simp only [Act.put, List.setIfInBounds_toArray, List.set_cons_succ, List.set_cons_zero]
      have hB : Blk wq wr.heap.size 68 x.cells := by
        rw [← hwq]
        have := hnw.out.setCells (o := 0) (vs := x.cells) (by rw [h37]; simp)
        rw [h37] at this
        simpa using this
      have hfq : Frm (fun _ => False) w wq := by
        rw [← hwq]
        exact (hf.out.alloc _).setCells (fun h => by have := hf.out.size; omega) 0 _
      clear hwq hth hnw hcur
      have cn : wq.cell? ⟨wr.heap.size, 0, none⟩ = some (.string x.name) := hB.cell 0
      have hvr : wq.rangeAt wr.heap.size 1 x.ver.cells := (show Blk wq wr.heap.size 68 ([.string x.name] ++ (x.ver.cells ++ nums .u8 x.sum)) from hB).mid rfl
      replace hB := Lib.hid hB
      replace hfq := Lib.hid hfq
      replace hvr := Lib.hid hvr
      cases hno : nameOk x.name with
      | false =>
        have hat : itemAt l k = false := by rw [itemAt, hxe.out]; simp only [hno, Bool.false_and]
        replace hat := Lib.hid hat
        refine items_r4a (cn := cn) (hvr := hvr.out) (hk := hlt) (hn := hb) (pn := x.name) (hno := hno) (hQ := ?_)
        intro x12 x13 x14 x15 x16 x17 x18 x19 x20 x21 x22 x23 x24 x25 x26 x27 x28 x29 x30 x31 x32 x33 x34 x35 w2 hf2
        replace hf2 := Lib.hid (hfq.out.trans hf2 fun _ _ h => h)
        go_wp2
        go_ret
        refine ⟨?_, hf2.out.below⟩
        rw [items_no hkl hat.out]; rfl
      | true =>
      cases hvo : x.ver.ok with
      | false =>
        have hat : itemAt l k = false := by rw [itemAt, hxe.out]; simp only [hno, hvo, Bool.false_and, Bool.and_false]
        replace hat := Lib.hid hat
        refine items_r4b (cn := cn) (hvr := hvr.out) (hk := hlt) (hn := hb) (pn := x.name) (hno := hno) (hvo := hvo) (hQ := ?_)
        intro x12 x13 x14 x15 x16 x17 x18 x19 x20 x21 x22 x23 x24 x25 x26 x27 x28 x29 x30 x31 x32 x33 x34 x35 w2 hf2
        replace hf2 := Lib.hid (hfq.out.trans hf2 fun _ _ h => h)
        go_wp2
        go_ret
        refine ⟨?_, hf2.out.below⟩
        rw [items_no hkl hat.out]; rfl
      | true =>
      cases k with
      | zero =>
        have hat : itemAt l 0 = true := by rw [itemAt, hxe.out]; simp only [hno, hvo, Bool.and_true]
        replace hat := Lib.hid hat
        refine items_r4c (cn := cn) (hvr := hvr.out) (hk := hlt) (hn := hb) (k := 0) (pn := x.name) (hno := hno) (hvo := hvo) (hQ := ?_)
        intro x12 x13 x14 x15 x16 x17 x18 x19 x20 x21 x22 x23 x24 x25 x26 x27 x28 x29 x30 x31 x32 x33 x34 x35 w2 hf2
        replace hf2 := Lib.hid (hfq.out.trans hf2 fun _ _ h => h)
        go_wp2
        go_roundw
        case rel => exact ⟨1, by omega, by go_num, fun j hj => by rw [show j = 0 by omega]; exact hat.out, hf2.out⟩
        case measure => simp [intOf]; omega
      | succ j =>
      obtain ⟨y, hy⟩ : ∃ y, y = l[j]'(by omega) := ⟨_, rfl⟩
      have hye : l[j]? = some y := by rw [hy]; exact List.getElem?_eq_getElem (by omega)
      have hpr := range_row Itm.cells 37 Itm.cells_length l o j (by omega) (fun j v hv => hfq.out.cell (hrow.out j v hv) fun h => h)
      rw [← hy] at hpr
      have cp : wq.cell? ⟨b, o + j * 37, none⟩ = some (.string y.name) := hpr 0 _ rfl
      replace hy := Lib.hid hy
      replace hye := Lib.hid hye
      clear hpr
      cases hlo : Op.bytesLess y.name.toList x.name.toList with
      | false =>
        have hat : itemAt l (j + 1) = false := by rw [itemAt, hxe.out]; simp only [hye.out, hlo, Bool.and_false]
        replace hat := Lib.hid hat
        rw [show ((j + 1 : Nat) : Int) = (j : Int) + 1 by omega]
        refine items_r4e (cn := cn) (hvr := hvr.out) (hk := hlt) (hn := hb) (k := j) (hno := hno) (hvo := hvo) (cp := cp) (hlt := hlo) (hQ := ?_)
        intro x12 x13 x14 x15 x16 x17 x18 x19 x20 x21 x22 x23 x24 x25 x26 x27 x28 x29 x30 x31 x32 x33 x34 x35 w2 hf2
        replace hf2 := Lib.hid (hfq.out.trans hf2 fun _ _ h => h)
        go_wp2
        go_ret
        refine ⟨?_, hf2.out.below⟩
        rw [items_no hkl hat.out]; rfl
      | true =>
        have hat : itemAt l (j + 1) = true := by rw [itemAt, hxe.out]; simp only [hye.out, hlo, hno, hvo, Bool.and_true]
        replace hat := Lib.hid hat
        rw [show ((j + 1 : Nat) : Int) = (j : Int) + 1 by omega]
        refine items_r4d (cn := cn) (hvr := hvr.out) (hk := hlt) (hn := hb) (k := j) (hno := hno) (hvo := hvo) (cp := cp) (hlt := hlo) (hQ := ?_)
        intro x12 x13 x14 x15 x16 x17 x18 x19 x20 x21 x22 x23 x24 x25 x26 x27 x28 x29 x30 x31 x32 x33 x34 x35 w2 hf2
        replace hf2 := Lib.hid (hfq.out.trans hf2 fun _ _ h => h)
        go_wp2
        go_roundw
        case rel => exact ⟨j + 1 + 1, by omega, by go_num, fun i hi => by
          rcases Nat.lt_or_ge i (j + 1) with h | h
          · exact hall.out i h
          · rw [show i = j + 1 by omega]; exact hat.out, hf2.out⟩
        case measure => simp [intOf]; omega
    · have hkn : k = n := by omega
      subst hkn
      replace hf := Lib.hid hf
      have hres := items_yes (l := l) (fun j hj => hall.out j (by rw [← hn.out]; exact hj))
      rw [hn.out] at hres
      replace hres := Lib.hid hres
      go_wp2
      go_ret
      refine ⟨?_, hf.out.below⟩
      show Ending.returned (Value.bool (decide ((k : Int) ≤ 256))) = _
      rw [hres.out, show decide ((k : Int) ≤ 256) = decide (k ≤ 256) from decide_eq_decide.2 (by omega)]
end Go.Proofs.YtmajnoefddbflaaDoor
