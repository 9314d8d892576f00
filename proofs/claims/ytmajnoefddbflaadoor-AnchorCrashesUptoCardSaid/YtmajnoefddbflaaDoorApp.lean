/- history.Append. -/
import Derived.Test.YtmajnoefddbflaaDoorLb
import Derived.Test.YtmajnoefddbflaaDoorProg
import Derived.Test.YtmajnoefddbflaaDoorHat
import Derived.Test.YtmajnoefddbflaaDoorRby
import Derived.Test.YtmajnoefddbflaaDoorEqi
import Derived.Test.YtmajnoefddbflaaDoorTrc
import Derived.WalkKit
import Derived.WalkSpells
import Derived.StillTactics
import Derived.Laws.Pointers
import Derived.Lib.Hide
import Derived.KernelRfl
namespace Go.Proofs.YtmajnoefddbflaaDoor
open Go.RowKit

def appendOk (rs : List Rec) (r : Rec) : Bool := r.ok && itemsEq r.before (nowOf rs)
def topOf (hs : List (List Int)) : List Int := hs.getLast?.getD (List.replicate 32 0)
def link (S : Sha) (hs : List (List Int)) (r : Rec) : List Int := sumF S (7 :: (topOf hs ++ recBytes r))
set_option maxRecDepth 100000 in
set_option maxHeartbeats 1000000 in
theorem append_r1a {B0 g b : Nat} {A : Option Addr} {c : Nat} {B : Option Addr} {d : Nat} {rs : List Rec} {hs : List (List Int)} {r : Rec} {v1 v2 : Value} {u1 u2 u4 u5 u6 u7 u8 u9 u10 u11 u12 u13 u14 u15 u16 u17 u18 u19 u20 u21 u22 u23 u24 u25 u26 u27 u28 u29 u30 u31 u32 u33 u34 u35 u36 u37 u38 u39 u40 u41 u42 u43 u44 u45 u46 u47 u48 : Value} {w : World} (hH : HistV B0 w g A c B d rs hs) (hB : Blk w b 29 (recCells r.kind v1 v2 r.head)) (h1 : ItV B0 w v1 r.before) (h2 : ItV B0 w v2 r.after)
    (hro : r.ok = false) {Q : Exit → Act → World → Prop}
    (hQ : ∀ (x6 x7 x8 x9 x10 x11 x12 x13 x14 x15 x16 : Value) (w' : World), Frm (fun _ => False) w w' → Q .normal ⟨(.pointer (some ⟨g, 0, none⟩) :: u1 :: u2 :: .pointer (some ⟨b, 0, none⟩) :: u4 :: .bool true :: x6 :: x7 :: x8 :: x9 :: x10 :: x11 :: x12 :: x13 :: x14 :: x15 :: x16 :: u17 :: u18 :: u19 :: u20 :: u21 :: u22 :: u23 :: u24 :: u25 :: u26 :: u27 :: u28 :: u29 :: u30 :: u31 :: u32 :: u33 :: u34 :: u35 :: u36 :: u37 :: u38 :: u39 :: u40 :: u41 :: u42 :: u43 :: u44 :: u45 :: u46 :: u47 :: u48 :: []).toArray, []⟩ w') :
    (regionOf Tryd.f10 1).wp Tryd.prog Q ⟨(.pointer (some ⟨g, 0, none⟩) :: u1 :: u2 :: .pointer (some ⟨b, 0, none⟩) :: u4 :: u5 :: u6 :: u7 :: u8 :: u9 :: u10 :: u11 :: u12 :: u13 :: u14 :: u15 :: u16 :: u17 :: u18 :: u19 :: u20 :: u21 :: u22 :: u23 :: u24 :: u25 :: u26 :: u27 :: u28 :: u29 :: u30 :: u31 :: u32 :: u33 :: u34 :: u35 :: u36 :: u37 :: u38 :: u39 :: u40 :: u41 :: u42 :: u43 :: u44 :: u45 :: u46 :: u47 :: u48 :: []).toArray, []⟩ w := by
  conv => arg 2; whnf
  have hl := recCells_length r.kind v1 v2 r.head
  replace hH := Lib.hid hH
  replace hB := Lib.hid hB
  replace h1 := Lib.hid h1
  replace h2 := Lib.hid h2
  apply wp_region_typed (fun _ => False) (nf [0, 1, 5, 7, 8]) [] (vt [(Is _), (Is _), (Is _), (Is _), (Is _), (Is _), (Is _), (fun u _ => u = undef), (Is _), (Is _), (Is _), (Is _)]) (wt [(fun _ _ => True)]) (by kernel_rfl) (by kernel_rfl) (by kernel_rfl) (by kernel_rfl) (hop := owesL_all ?hop)
  case hop =>
    refine owesL_cons (i' := 1) rfl ?_ ?_
    · refine o_q rfl (by kernel_rfl) (by kernel_rfl) (pl := []) (by kernel_rfl) fun us a wz hA hv hf hw K hK => ?_
      have s3 := slot_out hA (t := 3) (by kernel_rfl)
      clear hA hv
      have k0 := range_frm (F := fun _ => False) (show w.drew.rangeAt b 0 (recCells r.kind v1 v2 r.head) from hB.out.range) hf fun h => h
      clear hf
      refine wp_load_mid 29 _ rfl b 0 (ev s3) (recCells r.kind v1 v2 r.head) _ k0 Tryd.underlying29 rfl (by rw [hl]; kernel_rfl) ?_
      exact hK _ _ rfl (Frm.refl _ _)
    refine owesL_cons (i' := 2) rfl ?_ ?_
    · refine o_q rfl (by kernel_rfl) (by kernel_rfl) (pl := []) (by kernel_rfl) fun us a wz hA hv hf hw K hK => ?_
      have s6 := (slot_in hA (t := 6) (by simp) (j := 0) (by kernel_rfl)).trans (hv 0 (by kernel_rfl))
      clear hA hv
      have hf' := (Frm.refl (fun _ => False) w).drew.trans hf fun _ _ h => h
      have i1 := h1.out.frm hf' (safe_false _ _)
      have i2 := h2.out.frm hf' (safe_false _ _)
      obtain ⟨A1, c1, e1, i1, _⟩ := i1
      obtain ⟨A2, c2, e2, i2, _⟩ := i2
      subst e1 e2
      clear hf hf'
      go_wp2_with fail
      refine (recRight_any r A1 A2 _ c1 _ c2 _ i1 i2).mono ?_
      rintro e w1 ⟨rfl, hp1⟩
      rw [hro]
      exact hK _ _ rfl (Frm.of_below hp1 _)
    refine owesL_cons (i' := 3) rfl ?_ ?_
    · refine o_pure rfl (by kernel_rfl) fun us a wz hA hv K hK => ?_
      have s7 := (slot_in hA (t := 7) (by simp) (j := 1) (by kernel_rfl)).trans (hv 1 (by kernel_rfl))
      clear hA hv
      go_wp2
      exact rfl
    refine owesL_cons (i' := 4) rfl ?_ ?_
    · refine o_pure rfl (by kernel_rfl) fun us a wz hA hv K hK => ?_
      have s8 := (slot_in hA (t := 8) (by simp) (j := 2) (by kernel_rfl)).trans (hv 2 (by kernel_rfl))
      clear hA hv
      go_wp2
      exact rfl
    refine owesL_cons (i' := 5) rfl ?_ ?_
    · refine o_pureg (by kernel_rfl) fun us a wz hA hv K hK => ?_
      have s3 := slot_out hA (t := 3) (by kernel_rfl)
      have s9 := (slot_in hA (t := 9) (by simp) (j := 3) (by kernel_rfl)).trans (hv 3 (by kernel_rfl))
      clear hA hv
      first
        | (rw [if_neg (guard_no (j := 3) (t := 9) rfl (by kernel_rfl) s9)]; exact hK _ rfl)
        | (rw [if_neg (guard_undef (j := 3) (t := 9) rfl (by kernel_rfl) s9)]; exact hK _ rfl)
        | (rw [if_pos (guard_yes (j := 3) (t := 9) rfl (by kernel_rfl) s9)]
           go_wp2
           exact rfl)
    refine owesL_cons (i' := 6) rfl ?_ ?_
    · refine o_qg (by kernel_rfl) (by kernel_rfl) (pl := []) (by kernel_rfl) fun us a wz hA hv hf hw K hK => ?_
      have s10 := (slot_in hA (t := 10) (by simp) (j := 4) (by kernel_rfl)).trans (hv 4 (by kernel_rfl))
      have s9 := (slot_in hA (t := 9) (by simp) (j := 3) (by kernel_rfl)).trans (hv 3 (by kernel_rfl))
      clear hA hv
      first
        | (rw [if_neg (guard_no (j := 3) (t := 9) rfl (by kernel_rfl) s9)]; exact hK _ _ rfl (Frm.refl _ _))
        | (rw [if_neg (guard_undef (j := 3) (t := 9) rfl (by kernel_rfl) s9)]; exact hK _ _ rfl (Frm.refl _ _))
        | (rw [if_pos (guard_yes (j := 3) (t := 9) rfl (by kernel_rfl) s9)]
           have k0 : wz.cell? ⟨b, 1, none⟩ = some v1 := (hB.out.frm ((Frm.refl (fun _ => False) w).drew.trans hf fun _ _ h => h) fun h => h).cell 1
           clear hf
           go_wp2
           exact hK _ _ rfl (Frm.refl _ _))
    refine owesL_cons (i' := 7) rfl ?_ ?_
    · refine o_pureg (by kernel_rfl) fun us a wz hA hv K hK => ?_
      have s0 := slot_out hA (t := 0) (by kernel_rfl)
      have s9 := (slot_in hA (t := 9) (by simp) (j := 3) (by kernel_rfl)).trans (hv 3 (by kernel_rfl))
      clear hA hv
      first
        | (rw [if_neg (guard_no (j := 3) (t := 9) rfl (by kernel_rfl) s9)]; exact hK _ rfl)
        | (rw [if_neg (guard_undef (j := 3) (t := 9) rfl (by kernel_rfl) s9)]; exact hK _ rfl)
        | (rw [if_pos (guard_yes (j := 3) (t := 9) rfl (by kernel_rfl) s9)]
           go_wp2
           exact rfl)
    refine owesL_cons (i' := 8) rfl ?_ ?_
    · refine o_qg (by kernel_rfl) (by kernel_rfl) (pl := []) (by kernel_rfl) fun us a wz hA hv hf hw K hK => ?_
      have s12 := (slot_in hA (t := 12) (by simp) (j := 6) (by kernel_rfl)).trans (hv 6 (by kernel_rfl))
      have s9 := (slot_in hA (t := 9) (by simp) (j := 3) (by kernel_rfl)).trans (hv 3 (by kernel_rfl))
      clear hA hv
      first
        | (rw [if_neg (guard_no (j := 3) (t := 9) rfl (by kernel_rfl) s9)]; exact hK _ _ rfl (Frm.refl _ _))
        | (rw [if_neg (guard_undef (j := 3) (t := 9) rfl (by kernel_rfl) s9)]; exact hK _ _ rfl (Frm.refl _ _))
        | (rw [if_pos (guard_yes (j := 3) (t := 9) rfl (by kernel_rfl) s9)]
           have hh := hH.out.quiet ((Frm.refl (fun _ => False) w).drew.trans hf fun _ _ h => h)
           clear hf
           go_wp2_with fail
           refine (now_any B0 g A c B d rs hs _ hh).mono ?_
           rintro e w1 ⟨v, rfl, hv, hp1⟩
           exact hK _ _ hv (Frm.of_below hp1 _))
    refine owesL_cons (i' := 9) rfl ?_ ?_
    · refine o_qg (by kernel_rfl) (by kernel_rfl) (pl := []) (by kernel_rfl) fun us a wz hA hv hf hw K hK => ?_
      have s11 := (slot_in hA (t := 11) (by simp) (j := 5) (by kernel_rfl)).trans (hv 5 (by kernel_rfl))
      have s13 := slot_in hA (t := 13) (by simp) (j := 7) (by kernel_rfl)
      have u7 : ((fun u _ => u = undef) : Value → World → Prop) (us 7) wz := hv 7 (by kernel_rfl)
      have s9 := (slot_in hA (t := 9) (by simp) (j := 3) (by kernel_rfl)).trans (hv 3 (by kernel_rfl))
      clear hA hv
      first
        | (rw [if_neg (guard_no (j := 3) (t := 9) rfl (by kernel_rfl) s9)]; exact hK _ _ rfl (Frm.refl _ _))
        | (rw [if_neg (guard_undef (j := 3) (t := 9) rfl (by kernel_rfl) s9)]; exact hK _ _ rfl (Frm.refl _ _))
        | (rw [if_pos (guard_yes (j := 3) (t := 9) rfl (by kernel_rfl) s9)]
           have i1 := h1.out.frm ((Frm.refl (fun _ => False) w).drew.trans hf fun _ _ h => h) (safe_false _ _)
           obtain ⟨A1, c1, e1, i1, _⟩ := i1
           obtain ⟨A2, c2, e2, i2, _⟩ := u7
           replace s11 := s11.trans e1
           replace s13 := s13.trans e2
           clear hf
           go_wp2_with fail
           refine (equalItem_any r.before (nowOf rs) A1 A2 _ c1 _ c2 _ i1.1 rfl i2.1 rfl i1.2.2 i2.2.2).mono ?_
           rintro e w1 ⟨rfl, hp1⟩
           rw [heq]
           exact hK _ _ rfl (Frm.of_below hp1 _))
    refine owesL_cons (i' := 10) rfl ?_ ?_
    · refine o_pureg (by kernel_rfl) fun us a wz hA hv K hK => ?_
      have s14 := (slot_in hA (t := 14) (by simp) (j := 8) (by kernel_rfl)).trans (hv 8 (by kernel_rfl))
      have s9 := (slot_in hA (t := 9) (by simp) (j := 3) (by kernel_rfl)).trans (hv 3 (by kernel_rfl))
      clear hA hv
      first
        | (rw [if_neg (guard_no (j := 3) (t := 9) rfl (by kernel_rfl) s9)]; exact hK _ rfl)
        | (rw [if_neg (guard_undef (j := 3) (t := 9) rfl (by kernel_rfl) s9)]; exact hK _ rfl)
        | (rw [if_pos (guard_yes (j := 3) (t := 9) rfl (by kernel_rfl) s9)]
           go_wp2
           exact rfl)
    refine owesL_cons (i' := 11) rfl ?_ ?_
    · refine o_pure rfl (by kernel_rfl) fun us a wz hA hv K hK => ?_
      have s9 := (slot_in hA (t := 9) (by simp) (j := 3) (by kernel_rfl)).trans (hv 3 (by kernel_rfl))
      have s15 := (slot_in hA (t := 15) (by simp) (j := 9) (by kernel_rfl)).trans (hv 9 (by kernel_rfl))
      clear hA hv
      go_wp2
      exact rfl
    refine owesL_cons (i' := 12) rfl ?_ ?_
    · refine o_pure rfl (by kernel_rfl) fun us a wz hA hv K hK => ?_
      have s16 := (slot_in hA (t := 16) (by simp) (j := 10) (by kernel_rfl)).trans (hv 10 (by kernel_rfl))
      clear hA hv
      go_wp2
      exact rfl
    exact owesL_nil
  case hV => exact Stabs.vt (.cons (stab_is _ _) (.cons (stab_is _ _) (.cons (stab_is _ _) (.cons (stab_is _ _) (.cons (stab_is _ _) (.cons (stab_is _ _) (.cons (stab_is _ _) (.cons (stab_pure _ _) (.cons (stab_is _ _) (.cons (stab_is _ _) (.cons (stab_is _ _) (.cons (stab_is _ _) (.nil)))))))))))))
  case hW => exact StabWs.wt (.cons (fun _ _ _ h _ => h) (.nil))
  case h0 =>
    trivial
  intro usx wx hvx hwx hfx
  have qx0 : usx 0 = _ := hvx 0 (by decide)
  have qx1 : usx 1 = _ := hvx 1 (by decide)
  have qx2 : usx 2 = _ := hvx 2 (by decide)
  have qx3 : usx 3 = _ := hvx 3 (by decide)
  have qx4 : usx 4 = _ := hvx 4 (by decide)
  have qx5 : usx 5 = _ := hvx 5 (by decide)
  have qx6 : usx 6 = _ := hvx 6 (by decide)
  have qx7 : ((fun u _ => u = undef) : Value → World → Prop) (usx 7) wx := hvx 7 (by decide)
  have qx8 : usx 8 = _ := hvx 8 (by decide)
  have qx9 : usx 9 = _ := hvx 9 (by decide)
  have qx10 : usx 10 = _ := hvx 10 (by decide)
  have qx11 : usx 11 = _ := hvx 11 (by decide)
  rw [fill_all (ds := [some 6, some 7, some 8, some 9, some 10, some 11, some 12, some 13, some 14, some 15, some 16, some 5]) (by kernel_rfl)]
  simp only [putAll, Act.put, List.setIfInBounds_toArray, List.set_cons_succ, List.set_cons_zero, Nat.reduceAdd, qx0, qx1, qx2, qx3, qx4, qx5, qx6, qx8, qx9, qx10, qx11]
  clear hvx qx0 qx1 qx2 qx3 qx4 qx5 qx6 qx8 qx9 qx10 qx11
  exact hQ _ _ _ _ _ _ _ _ _ _ _ _ ((Frm.refl _ _).drew.trans hfx fun _ _ h => h)
set_option maxRecDepth 100000 in
set_option maxHeartbeats 1000000 in
theorem append_r1b {B0 g b : Nat} {A : Option Addr} {c : Nat} {B : Option Addr} {d : Nat} {rs : List Rec} {hs : List (List Int)} {r : Rec} {v1 v2 : Value} {u1 u2 u4 u5 u6 u7 u8 u9 u10 u11 u12 u13 u14 u15 u16 u17 u18 u19 u20 u21 u22 u23 u24 u25 u26 u27 u28 u29 u30 u31 u32 u33 u34 u35 u36 u37 u38 u39 u40 u41 u42 u43 u44 u45 u46 u47 u48 : Value} {w : World} (hH : HistV B0 w g A c B d rs hs) (hB : Blk w b 29 (recCells r.kind v1 v2 r.head)) (h1 : ItV B0 w v1 r.before) (h2 : ItV B0 w v2 r.after)
    (hro : r.ok = true) (heq : itemsEq r.before (nowOf rs) = false) {Q : Exit → Act → World → Prop}
    (hQ : ∀ (x6 x7 x8 x9 x10 x11 x12 x13 x14 x15 x16 : Value) (w' : World), Frm (fun _ => False) w w' → Q .normal ⟨(.pointer (some ⟨g, 0, none⟩) :: u1 :: u2 :: .pointer (some ⟨b, 0, none⟩) :: u4 :: .bool true :: x6 :: x7 :: x8 :: x9 :: x10 :: x11 :: x12 :: x13 :: x14 :: x15 :: x16 :: u17 :: u18 :: u19 :: u20 :: u21 :: u22 :: u23 :: u24 :: u25 :: u26 :: u27 :: u28 :: u29 :: u30 :: u31 :: u32 :: u33 :: u34 :: u35 :: u36 :: u37 :: u38 :: u39 :: u40 :: u41 :: u42 :: u43 :: u44 :: u45 :: u46 :: u47 :: u48 :: []).toArray, []⟩ w') :
    (regionOf Tryd.f10 1).wp Tryd.prog Q ⟨(.pointer (some ⟨g, 0, none⟩) :: u1 :: u2 :: .pointer (some ⟨b, 0, none⟩) :: u4 :: u5 :: u6 :: u7 :: u8 :: u9 :: u10 :: u11 :: u12 :: u13 :: u14 :: u15 :: u16 :: u17 :: u18 :: u19 :: u20 :: u21 :: u22 :: u23 :: u24 :: u25 :: u26 :: u27 :: u28 :: u29 :: u30 :: u31 :: u32 :: u33 :: u34 :: u35 :: u36 :: u37 :: u38 :: u39 :: u40 :: u41 :: u42 :: u43 :: u44 :: u45 :: u46 :: u47 :: u48 :: []).toArray, []⟩ w := by
  conv => arg 2; whnf
  have hl := recCells_length r.kind v1 v2 r.head
  replace hH := Lib.hid hH
  replace hB := Lib.hid hB
  replace h1 := Lib.hid h1
  replace h2 := Lib.hid h2
  apply wp_region_typed (fun _ => False) (nf [0, 1, 5, 7, 8]) [] (vt [(Is _), (Is _), (Is _), (Is _), (Is _), (Is _), (Is _), (fun u w' => ItV B0 w' u (nowOf rs)), (Is _), (Is _), (Is _), (Is _)]) (wt [(fun _ _ => True)]) (by kernel_rfl) (by kernel_rfl) (by kernel_rfl) (by kernel_rfl) (hop := owesL_all ?hop)
  case hop =>
    refine owesL_cons (i' := 1) rfl ?_ ?_
    · refine o_q rfl (by kernel_rfl) (by kernel_rfl) (pl := []) (by kernel_rfl) fun us a wz hA hv hf hw K hK => ?_
      have s3 := slot_out hA (t := 3) (by kernel_rfl)
      clear hA hv
      have k0 := range_frm (F := fun _ => False) (show w.drew.rangeAt b 0 (recCells r.kind v1 v2 r.head) from hB.out.range) hf fun h => h
      clear hf
      refine wp_load_mid 29 _ rfl b 0 (ev s3) (recCells r.kind v1 v2 r.head) _ k0 Tryd.underlying29 rfl (by rw [hl]; kernel_rfl) ?_
      exact hK _ _ rfl (Frm.refl _ _)
    refine owesL_cons (i' := 2) rfl ?_ ?_
    · refine o_q rfl (by kernel_rfl) (by kernel_rfl) (pl := []) (by kernel_rfl) fun us a wz hA hv hf hw K hK => ?_
      have s6 := (slot_in hA (t := 6) (by simp) (j := 0) (by kernel_rfl)).trans (hv 0 (by kernel_rfl))
      clear hA hv
      have hf' := (Frm.refl (fun _ => False) w).drew.trans hf fun _ _ h => h
      have i1 := h1.out.frm hf' (safe_false _ _)
      have i2 := h2.out.frm hf' (safe_false _ _)
      obtain ⟨A1, c1, e1, i1, _⟩ := i1
      obtain ⟨A2, c2, e2, i2, _⟩ := i2
      subst e1 e2
      clear hf hf'
      go_wp2_with fail
      refine (recRight_any r A1 A2 _ c1 _ c2 _ i1 i2).mono ?_
      rintro e w1 ⟨rfl, hp1⟩
      rw [hro]
      exact hK _ _ rfl (Frm.of_below hp1 _)
    refine owesL_cons (i' := 3) rfl ?_ ?_
    · refine o_pure rfl (by kernel_rfl) fun us a wz hA hv K hK => ?_
      have s7 := (slot_in hA (t := 7) (by simp) (j := 1) (by kernel_rfl)).trans (hv 1 (by kernel_rfl))
      clear hA hv
      go_wp2
      exact rfl
    refine owesL_cons (i' := 4) rfl ?_ ?_
    · refine o_pure rfl (by kernel_rfl) fun us a wz hA hv K hK => ?_
      have s8 := (slot_in hA (t := 8) (by simp) (j := 2) (by kernel_rfl)).trans (hv 2 (by kernel_rfl))
      clear hA hv
      go_wp2
      exact rfl
    refine owesL_cons (i' := 5) rfl ?_ ?_
    · refine o_pureg (by kernel_rfl) fun us a wz hA hv K hK => ?_
      have s3 := slot_out hA (t := 3) (by kernel_rfl)
      have s9 := (slot_in hA (t := 9) (by simp) (j := 3) (by kernel_rfl)).trans (hv 3 (by kernel_rfl))
      clear hA hv
      first
        | (rw [if_neg (guard_no (j := 3) (t := 9) rfl (by kernel_rfl) s9)]; exact hK _ rfl)
        | (rw [if_neg (guard_undef (j := 3) (t := 9) rfl (by kernel_rfl) s9)]; exact hK _ rfl)
        | (rw [if_pos (guard_yes (j := 3) (t := 9) rfl (by kernel_rfl) s9)]
           go_wp2
           exact rfl)
    refine owesL_cons (i' := 6) rfl ?_ ?_
    · refine o_qg (by kernel_rfl) (by kernel_rfl) (pl := []) (by kernel_rfl) fun us a wz hA hv hf hw K hK => ?_
      have s10 := (slot_in hA (t := 10) (by simp) (j := 4) (by kernel_rfl)).trans (hv 4 (by kernel_rfl))
      have s9 := (slot_in hA (t := 9) (by simp) (j := 3) (by kernel_rfl)).trans (hv 3 (by kernel_rfl))
      clear hA hv
      first
        | (rw [if_neg (guard_no (j := 3) (t := 9) rfl (by kernel_rfl) s9)]; exact hK _ _ rfl (Frm.refl _ _))
        | (rw [if_neg (guard_undef (j := 3) (t := 9) rfl (by kernel_rfl) s9)]; exact hK _ _ rfl (Frm.refl _ _))
        | (rw [if_pos (guard_yes (j := 3) (t := 9) rfl (by kernel_rfl) s9)]
           have k0 : wz.cell? ⟨b, 1, none⟩ = some v1 := (hB.out.frm ((Frm.refl (fun _ => False) w).drew.trans hf fun _ _ h => h) fun h => h).cell 1
           clear hf
           go_wp2
           exact hK _ _ rfl (Frm.refl _ _))
    refine owesL_cons (i' := 7) rfl ?_ ?_
    · refine o_pureg (by kernel_rfl) fun us a wz hA hv K hK => ?_
      have s0 := slot_out hA (t := 0) (by kernel_rfl)
      have s9 := (slot_in hA (t := 9) (by simp) (j := 3) (by kernel_rfl)).trans (hv 3 (by kernel_rfl))
      clear hA hv
      first
        | (rw [if_neg (guard_no (j := 3) (t := 9) rfl (by kernel_rfl) s9)]; exact hK _ rfl)
        | (rw [if_neg (guard_undef (j := 3) (t := 9) rfl (by kernel_rfl) s9)]; exact hK _ rfl)
        | (rw [if_pos (guard_yes (j := 3) (t := 9) rfl (by kernel_rfl) s9)]
           go_wp2
           exact rfl)
    refine owesL_cons (i' := 8) rfl ?_ ?_
    · refine o_qg (by kernel_rfl) (by kernel_rfl) (pl := []) (by kernel_rfl) fun us a wz hA hv hf hw K hK => ?_
      have s12 := (slot_in hA (t := 12) (by simp) (j := 6) (by kernel_rfl)).trans (hv 6 (by kernel_rfl))
      have s9 := (slot_in hA (t := 9) (by simp) (j := 3) (by kernel_rfl)).trans (hv 3 (by kernel_rfl))
      clear hA hv
      first
        | (rw [if_neg (guard_no (j := 3) (t := 9) rfl (by kernel_rfl) s9)]; exact hK _ _ rfl (Frm.refl _ _))
        | (rw [if_neg (guard_undef (j := 3) (t := 9) rfl (by kernel_rfl) s9)]; exact hK _ _ rfl (Frm.refl _ _))
        | (rw [if_pos (guard_yes (j := 3) (t := 9) rfl (by kernel_rfl) s9)]
           have hh := hH.out.quiet ((Frm.refl (fun _ => False) w).drew.trans hf fun _ _ h => h)
           clear hf
           go_wp2_with fail
           refine (now_any B0 g A c B d rs hs _ hh).mono ?_
           rintro e w1 ⟨v, rfl, hv, hp1⟩
           exact hK _ _ hv (Frm.of_below hp1 _))
    refine owesL_cons (i' := 9) rfl ?_ ?_
    · refine o_qg (by kernel_rfl) (by kernel_rfl) (pl := []) (by kernel_rfl) fun us a wz hA hv hf hw K hK => ?_
      have s11 := (slot_in hA (t := 11) (by simp) (j := 5) (by kernel_rfl)).trans (hv 5 (by kernel_rfl))
      have s13 := slot_in hA (t := 13) (by simp) (j := 7) (by kernel_rfl)
      have u7 : ((fun u w' => ItV B0 w' u (nowOf rs)) : Value → World → Prop) (us 7) wz := hv 7 (by kernel_rfl)
      have s9 := (slot_in hA (t := 9) (by simp) (j := 3) (by kernel_rfl)).trans (hv 3 (by kernel_rfl))
      clear hA hv
      first
        | (rw [if_neg (guard_no (j := 3) (t := 9) rfl (by kernel_rfl) s9)]; exact hK _ _ rfl (Frm.refl _ _))
        | (rw [if_neg (guard_undef (j := 3) (t := 9) rfl (by kernel_rfl) s9)]; exact hK _ _ rfl (Frm.refl _ _))
        | (rw [if_pos (guard_yes (j := 3) (t := 9) rfl (by kernel_rfl) s9)]
           have i1 := h1.out.frm ((Frm.refl (fun _ => False) w).drew.trans hf fun _ _ h => h) (safe_false _ _)
           obtain ⟨A1, c1, e1, i1, _⟩ := i1
           obtain ⟨A2, c2, e2, i2, _⟩ := u7
           replace s11 := s11.trans e1
           replace s13 := s13.trans e2
           clear hf
           go_wp2_with fail
           refine (equalItem_any r.before (nowOf rs) A1 A2 _ c1 _ c2 _ i1.1 rfl i2.1 rfl i1.2.2 i2.2.2).mono ?_
           rintro e w1 ⟨rfl, hp1⟩
           rw [heq]
           exact hK _ _ rfl (Frm.of_below hp1 _))
    refine owesL_cons (i' := 10) rfl ?_ ?_
    · refine o_pureg (by kernel_rfl) fun us a wz hA hv K hK => ?_
      have s14 := (slot_in hA (t := 14) (by simp) (j := 8) (by kernel_rfl)).trans (hv 8 (by kernel_rfl))
      have s9 := (slot_in hA (t := 9) (by simp) (j := 3) (by kernel_rfl)).trans (hv 3 (by kernel_rfl))
      clear hA hv
      first
        | (rw [if_neg (guard_no (j := 3) (t := 9) rfl (by kernel_rfl) s9)]; exact hK _ rfl)
        | (rw [if_neg (guard_undef (j := 3) (t := 9) rfl (by kernel_rfl) s9)]; exact hK _ rfl)
        | (rw [if_pos (guard_yes (j := 3) (t := 9) rfl (by kernel_rfl) s9)]
           go_wp2
           exact rfl)
    refine owesL_cons (i' := 11) rfl ?_ ?_
    · refine o_pure rfl (by kernel_rfl) fun us a wz hA hv K hK => ?_
      have s9 := (slot_in hA (t := 9) (by simp) (j := 3) (by kernel_rfl)).trans (hv 3 (by kernel_rfl))
      have s15 := (slot_in hA (t := 15) (by simp) (j := 9) (by kernel_rfl)).trans (hv 9 (by kernel_rfl))
      clear hA hv
      go_wp2
      exact rfl
    refine owesL_cons (i' := 12) rfl ?_ ?_
    · refine o_pure rfl (by kernel_rfl) fun us a wz hA hv K hK => ?_
      have s16 := (slot_in hA (t := 16) (by simp) (j := 10) (by kernel_rfl)).trans (hv 10 (by kernel_rfl))
      clear hA hv
      go_wp2
      exact rfl
    exact owesL_nil
  case hV => exact Stabs.vt (.cons (stab_is _ _) (.cons (stab_is _ _) (.cons (stab_is _ _) (.cons (stab_is _ _) (.cons (stab_is _ _) (.cons (stab_is _ _) (.cons (stab_is _ _) (.cons (fun _ _ _ h hf => h.frm hf (safe_false _ _)) (.cons (stab_is _ _) (.cons (stab_is _ _) (.cons (stab_is _ _) (.cons (stab_is _ _) (.nil)))))))))))))
  case hW => exact StabWs.wt (.cons (fun _ _ _ h _ => h) (.nil))
  case h0 =>
    trivial
  intro usx wx hvx hwx hfx
  have qx0 : usx 0 = _ := hvx 0 (by decide)
  have qx1 : usx 1 = _ := hvx 1 (by decide)
  have qx2 : usx 2 = _ := hvx 2 (by decide)
  have qx3 : usx 3 = _ := hvx 3 (by decide)
  have qx4 : usx 4 = _ := hvx 4 (by decide)
  have qx5 : usx 5 = _ := hvx 5 (by decide)
  have qx6 : usx 6 = _ := hvx 6 (by decide)
  have qx7 : ((fun u w' => ItV B0 w' u (nowOf rs)) : Value → World → Prop) (usx 7) wx := hvx 7 (by decide)
  have qx8 : usx 8 = _ := hvx 8 (by decide)
  have qx9 : usx 9 = _ := hvx 9 (by decide)
  have qx10 : usx 10 = _ := hvx 10 (by decide)
  have qx11 : usx 11 = _ := hvx 11 (by decide)
  rw [fill_all (ds := [some 6, some 7, some 8, some 9, some 10, some 11, some 12, some 13, some 14, some 15, some 16, some 5]) (by kernel_rfl)]
  simp only [putAll, Act.put, List.setIfInBounds_toArray, List.set_cons_succ, List.set_cons_zero, Nat.reduceAdd, qx0, qx1, qx2, qx3, qx4, qx5, qx6, qx8, qx9, qx10, qx11]
  clear hvx qx0 qx1 qx2 qx3 qx4 qx5 qx6 qx8 qx9 qx10 qx11
  exact hQ _ _ _ _ _ _ _ _ _ _ _ _ ((Frm.refl _ _).drew.trans hfx fun _ _ h => h)
set_option maxRecDepth 100000 in
set_option maxHeartbeats 1000000 in
theorem append_r1c {B0 g b : Nat} {A : Option Addr} {c : Nat} {B : Option Addr} {d : Nat} {rs : List Rec} {hs : List (List Int)} {r : Rec} {v1 v2 : Value} {u1 u2 u4 u5 u6 u7 u8 u9 u10 u11 u12 u13 u14 u15 u16 u17 u18 u19 u20 u21 u22 u23 u24 u25 u26 u27 u28 u29 u30 u31 u32 u33 u34 u35 u36 u37 u38 u39 u40 u41 u42 u43 u44 u45 u46 u47 u48 : Value} {w : World} (hH : HistV B0 w g A c B d rs hs) (hB : Blk w b 29 (recCells r.kind v1 v2 r.head)) (h1 : ItV B0 w v1 r.before) (h2 : ItV B0 w v2 r.after)
    (hro : r.ok = true) (heq : itemsEq r.before (nowOf rs) = true) {Q : Exit → Act → World → Prop}
    (hQ : ∀ (x6 x7 x8 x9 x10 x11 x12 x13 x14 x15 x16 : Value) (w' : World), Frm (fun _ => False) w w' → Q .normal ⟨(.pointer (some ⟨g, 0, none⟩) :: u1 :: u2 :: .pointer (some ⟨b, 0, none⟩) :: u4 :: .bool false :: x6 :: x7 :: x8 :: x9 :: x10 :: x11 :: x12 :: x13 :: x14 :: x15 :: x16 :: u17 :: u18 :: u19 :: u20 :: u21 :: u22 :: u23 :: u24 :: u25 :: u26 :: u27 :: u28 :: u29 :: u30 :: u31 :: u32 :: u33 :: u34 :: u35 :: u36 :: u37 :: u38 :: u39 :: u40 :: u41 :: u42 :: u43 :: u44 :: u45 :: u46 :: u47 :: u48 :: []).toArray, []⟩ w') :
    (regionOf Tryd.f10 1).wp Tryd.prog Q ⟨(.pointer (some ⟨g, 0, none⟩) :: u1 :: u2 :: .pointer (some ⟨b, 0, none⟩) :: u4 :: u5 :: u6 :: u7 :: u8 :: u9 :: u10 :: u11 :: u12 :: u13 :: u14 :: u15 :: u16 :: u17 :: u18 :: u19 :: u20 :: u21 :: u22 :: u23 :: u24 :: u25 :: u26 :: u27 :: u28 :: u29 :: u30 :: u31 :: u32 :: u33 :: u34 :: u35 :: u36 :: u37 :: u38 :: u39 :: u40 :: u41 :: u42 :: u43 :: u44 :: u45 :: u46 :: u47 :: u48 :: []).toArray, []⟩ w := by
  conv => arg 2; whnf
  have hl := recCells_length r.kind v1 v2 r.head
  replace hH := Lib.hid hH
  replace hB := Lib.hid hB
  replace h1 := Lib.hid h1
  replace h2 := Lib.hid h2
  apply wp_region_typed (fun _ => False) (nf [0, 1, 5, 7, 8]) [] (vt [(Is _), (Is _), (Is _), (Is _), (Is _), (Is _), (Is _), (fun u w' => ItV B0 w' u (nowOf rs)), (Is _), (Is _), (Is _), (Is _)]) (wt [(fun _ _ => True)]) (by kernel_rfl) (by kernel_rfl) (by kernel_rfl) (by kernel_rfl) (hop := owesL_all ?hop)
  case hop =>
    refine owesL_cons (i' := 1) rfl ?_ ?_
    · refine o_q rfl (by kernel_rfl) (by kernel_rfl) (pl := []) (by kernel_rfl) fun us a wz hA hv hf hw K hK => ?_
      have s3 := slot_out hA (t := 3) (by kernel_rfl)
      clear hA hv
      have k0 := range_frm (F := fun _ => False) (show w.drew.rangeAt b 0 (recCells r.kind v1 v2 r.head) from hB.out.range) hf fun h => h
      clear hf
      refine wp_load_mid 29 _ rfl b 0 (ev s3) (recCells r.kind v1 v2 r.head) _ k0 Tryd.underlying29 rfl (by rw [hl]; kernel_rfl) ?_
      exact hK _ _ rfl (Frm.refl _ _)
    refine owesL_cons (i' := 2) rfl ?_ ?_
    · refine o_q rfl (by kernel_rfl) (by kernel_rfl) (pl := []) (by kernel_rfl) fun us a wz hA hv hf hw K hK => ?_
      have s6 := (slot_in hA (t := 6) (by simp) (j := 0) (by kernel_rfl)).trans (hv 0 (by kernel_rfl))
      clear hA hv
      have hf' := (Frm.refl (fun _ => False) w).drew.trans hf fun _ _ h => h
      have i1 := h1.out.frm hf' (safe_false _ _)
      have i2 := h2.out.frm hf' (safe_false _ _)
      obtain ⟨A1, c1, e1, i1, _⟩ := i1
      obtain ⟨A2, c2, e2, i2, _⟩ := i2
      subst e1 e2
      clear hf hf'
      go_wp2_with fail
      refine (recRight_any r A1 A2 _ c1 _ c2 _ i1 i2).mono ?_
      rintro e w1 ⟨rfl, hp1⟩
      rw [hro]
      exact hK _ _ rfl (Frm.of_below hp1 _)
    refine owesL_cons (i' := 3) rfl ?_ ?_
    · refine o_pure rfl (by kernel_rfl) fun us a wz hA hv K hK => ?_
      have s7 := (slot_in hA (t := 7) (by simp) (j := 1) (by kernel_rfl)).trans (hv 1 (by kernel_rfl))
      clear hA hv
      go_wp2
      exact rfl
    refine owesL_cons (i' := 4) rfl ?_ ?_
    · refine o_pure rfl (by kernel_rfl) fun us a wz hA hv K hK => ?_
      have s8 := (slot_in hA (t := 8) (by simp) (j := 2) (by kernel_rfl)).trans (hv 2 (by kernel_rfl))
      clear hA hv
      go_wp2
      exact rfl
    refine owesL_cons (i' := 5) rfl ?_ ?_
    · refine o_pureg (by kernel_rfl) fun us a wz hA hv K hK => ?_
      have s3 := slot_out hA (t := 3) (by kernel_rfl)
      have s9 := (slot_in hA (t := 9) (by simp) (j := 3) (by kernel_rfl)).trans (hv 3 (by kernel_rfl))
      clear hA hv
      first
        | (rw [if_neg (guard_no (j := 3) (t := 9) rfl (by kernel_rfl) s9)]; exact hK _ rfl)
        | (rw [if_neg (guard_undef (j := 3) (t := 9) rfl (by kernel_rfl) s9)]; exact hK _ rfl)
        | (rw [if_pos (guard_yes (j := 3) (t := 9) rfl (by kernel_rfl) s9)]
           go_wp2
           exact rfl)
    refine owesL_cons (i' := 6) rfl ?_ ?_
    · refine o_qg (by kernel_rfl) (by kernel_rfl) (pl := []) (by kernel_rfl) fun us a wz hA hv hf hw K hK => ?_
      have s10 := (slot_in hA (t := 10) (by simp) (j := 4) (by kernel_rfl)).trans (hv 4 (by kernel_rfl))
      have s9 := (slot_in hA (t := 9) (by simp) (j := 3) (by kernel_rfl)).trans (hv 3 (by kernel_rfl))
      clear hA hv
      first
        | (rw [if_neg (guard_no (j := 3) (t := 9) rfl (by kernel_rfl) s9)]; exact hK _ _ rfl (Frm.refl _ _))
        | (rw [if_neg (guard_undef (j := 3) (t := 9) rfl (by kernel_rfl) s9)]; exact hK _ _ rfl (Frm.refl _ _))
        | (rw [if_pos (guard_yes (j := 3) (t := 9) rfl (by kernel_rfl) s9)]
           have k0 : wz.cell? ⟨b, 1, none⟩ = some v1 := (hB.out.frm ((Frm.refl (fun _ => False) w).drew.trans hf fun _ _ h => h) fun h => h).cell 1
           clear hf
           go_wp2
           exact hK _ _ rfl (Frm.refl _ _))
    refine owesL_cons (i' := 7) rfl ?_ ?_
    · refine o_pureg (by kernel_rfl) fun us a wz hA hv K hK => ?_
      have s0 := slot_out hA (t := 0) (by kernel_rfl)
      have s9 := (slot_in hA (t := 9) (by simp) (j := 3) (by kernel_rfl)).trans (hv 3 (by kernel_rfl))
      clear hA hv
      first
        | (rw [if_neg (guard_no (j := 3) (t := 9) rfl (by kernel_rfl) s9)]; exact hK _ rfl)
        | (rw [if_neg (guard_undef (j := 3) (t := 9) rfl (by kernel_rfl) s9)]; exact hK _ rfl)
        | (rw [if_pos (guard_yes (j := 3) (t := 9) rfl (by kernel_rfl) s9)]
           go_wp2
           exact rfl)
    refine owesL_cons (i' := 8) rfl ?_ ?_
    · refine o_qg (by kernel_rfl) (by kernel_rfl) (pl := []) (by kernel_rfl) fun us a wz hA hv hf hw K hK => ?_
      have s12 := (slot_in hA (t := 12) (by simp) (j := 6) (by kernel_rfl)).trans (hv 6 (by kernel_rfl))
      have s9 := (slot_in hA (t := 9) (by simp) (j := 3) (by kernel_rfl)).trans (hv 3 (by kernel_rfl))
      clear hA hv
      first
        | (rw [if_neg (guard_no (j := 3) (t := 9) rfl (by kernel_rfl) s9)]; exact hK _ _ rfl (Frm.refl _ _))
        | (rw [if_neg (guard_undef (j := 3) (t := 9) rfl (by kernel_rfl) s9)]; exact hK _ _ rfl (Frm.refl _ _))
        | (rw [if_pos (guard_yes (j := 3) (t := 9) rfl (by kernel_rfl) s9)]
           have hh := hH.out.quiet ((Frm.refl (fun _ => False) w).drew.trans hf fun _ _ h => h)
           clear hf
           go_wp2_with fail
           refine (now_any B0 g A c B d rs hs _ hh).mono ?_
           rintro e w1 ⟨v, rfl, hv, hp1⟩
           exact hK _ _ hv (Frm.of_below hp1 _))
    refine owesL_cons (i' := 9) rfl ?_ ?_
    · refine o_qg (by kernel_rfl) (by kernel_rfl) (pl := []) (by kernel_rfl) fun us a wz hA hv hf hw K hK => ?_
      have s11 := (slot_in hA (t := 11) (by simp) (j := 5) (by kernel_rfl)).trans (hv 5 (by kernel_rfl))
      have s13 := slot_in hA (t := 13) (by simp) (j := 7) (by kernel_rfl)
      have u7 : ((fun u w' => ItV B0 w' u (nowOf rs)) : Value → World → Prop) (us 7) wz := hv 7 (by kernel_rfl)
      have s9 := (slot_in hA (t := 9) (by simp) (j := 3) (by kernel_rfl)).trans (hv 3 (by kernel_rfl))
      clear hA hv
      first
        | (rw [if_neg (guard_no (j := 3) (t := 9) rfl (by kernel_rfl) s9)]; exact hK _ _ rfl (Frm.refl _ _))
        | (rw [if_neg (guard_undef (j := 3) (t := 9) rfl (by kernel_rfl) s9)]; exact hK _ _ rfl (Frm.refl _ _))
        | (rw [if_pos (guard_yes (j := 3) (t := 9) rfl (by kernel_rfl) s9)]
           have i1 := h1.out.frm ((Frm.refl (fun _ => False) w).drew.trans hf fun _ _ h => h) (safe_false _ _)
           obtain ⟨A1, c1, e1, i1, _⟩ := i1
           obtain ⟨A2, c2, e2, i2, _⟩ := u7
           replace s11 := s11.trans e1
           replace s13 := s13.trans e2
           clear hf
           go_wp2_with fail
           refine (equalItem_any r.before (nowOf rs) A1 A2 _ c1 _ c2 _ i1.1 rfl i2.1 rfl i1.2.2 i2.2.2).mono ?_
           rintro e w1 ⟨rfl, hp1⟩
           rw [heq]
           exact hK _ _ rfl (Frm.of_below hp1 _))
    refine owesL_cons (i' := 10) rfl ?_ ?_
    · refine o_pureg (by kernel_rfl) fun us a wz hA hv K hK => ?_
      have s14 := (slot_in hA (t := 14) (by simp) (j := 8) (by kernel_rfl)).trans (hv 8 (by kernel_rfl))
      have s9 := (slot_in hA (t := 9) (by simp) (j := 3) (by kernel_rfl)).trans (hv 3 (by kernel_rfl))
      clear hA hv
      first
        | (rw [if_neg (guard_no (j := 3) (t := 9) rfl (by kernel_rfl) s9)]; exact hK _ rfl)
        | (rw [if_neg (guard_undef (j := 3) (t := 9) rfl (by kernel_rfl) s9)]; exact hK _ rfl)
        | (rw [if_pos (guard_yes (j := 3) (t := 9) rfl (by kernel_rfl) s9)]
           go_wp2
           exact rfl)
    refine owesL_cons (i' := 11) rfl ?_ ?_
    · refine o_pure rfl (by kernel_rfl) fun us a wz hA hv K hK => ?_
      have s9 := (slot_in hA (t := 9) (by simp) (j := 3) (by kernel_rfl)).trans (hv 3 (by kernel_rfl))
      have s15 := (slot_in hA (t := 15) (by simp) (j := 9) (by kernel_rfl)).trans (hv 9 (by kernel_rfl))
      clear hA hv
      go_wp2
      exact rfl
    refine owesL_cons (i' := 12) rfl ?_ ?_
    · refine o_pure rfl (by kernel_rfl) fun us a wz hA hv K hK => ?_
      have s16 := (slot_in hA (t := 16) (by simp) (j := 10) (by kernel_rfl)).trans (hv 10 (by kernel_rfl))
      clear hA hv
      go_wp2
      exact rfl
    exact owesL_nil
  case hV => exact Stabs.vt (.cons (stab_is _ _) (.cons (stab_is _ _) (.cons (stab_is _ _) (.cons (stab_is _ _) (.cons (stab_is _ _) (.cons (stab_is _ _) (.cons (stab_is _ _) (.cons (fun _ _ _ h hf => h.frm hf (safe_false _ _)) (.cons (stab_is _ _) (.cons (stab_is _ _) (.cons (stab_is _ _) (.cons (stab_is _ _) (.nil)))))))))))))
  case hW => exact StabWs.wt (.cons (fun _ _ _ h _ => h) (.nil))
  case h0 =>
    trivial
  intro usx wx hvx hwx hfx
  have qx0 : usx 0 = _ := hvx 0 (by decide)
  have qx1 : usx 1 = _ := hvx 1 (by decide)
  have qx2 : usx 2 = _ := hvx 2 (by decide)
  have qx3 : usx 3 = _ := hvx 3 (by decide)
  have qx4 : usx 4 = _ := hvx 4 (by decide)
  have qx5 : usx 5 = _ := hvx 5 (by decide)
  have qx6 : usx 6 = _ := hvx 6 (by decide)
  have qx7 : ((fun u w' => ItV B0 w' u (nowOf rs)) : Value → World → Prop) (usx 7) wx := hvx 7 (by decide)
  have qx8 : usx 8 = _ := hvx 8 (by decide)
  have qx9 : usx 9 = _ := hvx 9 (by decide)
  have qx10 : usx 10 = _ := hvx 10 (by decide)
  have qx11 : usx 11 = _ := hvx 11 (by decide)
  rw [fill_all (ds := [some 6, some 7, some 8, some 9, some 10, some 11, some 12, some 13, some 14, some 15, some 16, some 5]) (by kernel_rfl)]
  simp only [putAll, Act.put, List.setIfInBounds_toArray, List.set_cons_succ, List.set_cons_zero, Nat.reduceAdd, qx0, qx1, qx2, qx3, qx4, qx5, qx6, qx8, qx9, qx10, qx11]
  clear hvx qx0 qx1 qx2 qx3 qx4 qx5 qx6 qx8 qx9 qx10 qx11
  exact hQ _ _ _ _ _ _ _ _ _ _ _ _ ((Frm.refl _ _).drew.trans hfx fun _ _ h => h)
end Go.Proofs.YtmajnoefddbflaaDoor
