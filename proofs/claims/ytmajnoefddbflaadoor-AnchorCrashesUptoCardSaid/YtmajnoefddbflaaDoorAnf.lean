/- anchor: Audit, Settle, Next. -/
import Derived.Test.YtmajnoefddbflaaDoorLb
import Derived.Test.YtmajnoefddbflaaDoorProg
import Derived.Test.YtmajnoefddbflaaDoorAne
import Derived.WalkKit
import Derived.WalkSpells
import Derived.StillTactics
import Derived.Laws.Pointers
import Derived.Lib.Hide
import Derived.KernelRfl
namespace Go.Proofs.YtmajnoefddbflaaDoor
open Go.RowKit

set_option maxRecDepth 100000 in
set_option maxHeartbeats 1000000 in
theorem audit_r1 {B0 g gr : Nat} {A : Option Addr} {c : Nat} {B : Option Addr} {d : Nat} {rs : List Rec} {hs : List (List Int)} {m n mk : Mrk} {bb : Bool} {u2 u3 u4 u5 u6 u7 u8 u9 u10 u11 : Value} {w : World} (hH : HistV B0 w g A c B d rs hs) (hR : RegV w gr m n bb) (hm : mk.count = rs.length ∧ mk.top = topOf hs) {res : Bool} (hr : mk.beq m = res) {Q : Exit → Act → World → Prop}
    (hQ : ∀ (x5 x6 x7 x8 x9 x10 : Value) (w' : World), Frm (fun _ => False) w w' → Q .normal ⟨(.pointer (some ⟨gr, 0, none⟩) :: .pointer (some ⟨g, 0, none⟩) :: u2 :: u3 :: u4 :: x5 :: x6 :: x7 :: x8 :: x9 :: x10 :: .bool (!res) :: []).toArray, []⟩ w') :
    (regionOf Tryd.f14 1).wp Tryd.prog Q ⟨(.pointer (some ⟨gr, 0, none⟩) :: .pointer (some ⟨g, 0, none⟩) :: u2 :: u3 :: u4 :: u5 :: u6 :: u7 :: u8 :: u9 :: u10 :: u11 :: []).toArray, []⟩ w := by
  conv => arg 2; whnf
  have hml := (m).len
  replace hH := Lib.hid hH
  replace hR := Lib.hid hR
  replace hm := Lib.hid hm
  apply wp_region_typed (fun _ => False) (nf [1, 5, 6]) [] (vt [(Is _), (Is _), (Is _), (Is _), (Is _), (Is _), (Is _)]) (wt [(fun _ _ => True)]) (by kernel_rfl) (by kernel_rfl) (by kernel_rfl) (by kernel_rfl) (hop := owesL_all ?hop)
  case hop =>
    refine owesL_cons (i' := 1) rfl ?_ ?_
    · refine o_pure rfl (by kernel_rfl) fun us a wz hA hv K hK => ?_
      have s1 := slot_out hA (t := 1) (by kernel_rfl)
      clear hA hv
      go_wp2
      exact rfl
    refine owesL_cons (i' := 2) rfl ?_ ?_
    · refine o_q rfl (by kernel_rfl) (by kernel_rfl) (pl := []) (by kernel_rfl) fun us a wz hA hv hf hw K hK => ?_
      have s5 := (slot_in hA (t := 5) (by simp) (j := 0) (by kernel_rfl)).trans (hv 0 (by kernel_rfl))
      clear hA hv
      have hh := hH.out.quiet ((Frm.refl (fun _ => False) w).drew.trans hf fun _ _ h => h)
      clear hf
      go_wp2_with fail
      refine (of_any B0 g A c B d rs hs _ hh mk hm.out).mono ?_
      rintro e w1 ⟨rfl, hp1⟩
      exact hK _ _ rfl (Frm.of_below hp1 _)
    refine owesL_cons (i' := 3) rfl ?_ ?_
    · refine o_pure rfl (by kernel_rfl) fun us a wz hA hv K hK => ?_
      have s0 := slot_out hA (t := 0) (by kernel_rfl)
      clear hA hv
      go_wp2
      exact rfl
    refine owesL_cons (i' := 4) rfl ?_ ?_
    · refine o_pure rfl (by kernel_rfl) fun us a wz hA hv K hK => ?_
      have s7 := (slot_in hA (t := 7) (by simp) (j := 2) (by kernel_rfl)).trans (hv 2 (by kernel_rfl))
      clear hA hv
      go_wp2
      exact rfl
    refine owesL_cons (i' := 5) rfl ?_ ?_
    · refine o_pure rfl (by kernel_rfl) fun us a wz hA hv K hK => ?_
      have s8 := (slot_in hA (t := 8) (by simp) (j := 3) (by kernel_rfl)).trans (hv 3 (by kernel_rfl))
      clear hA hv
      go_wp2
      exact rfl
    refine owesL_cons (i' := 6) rfl ?_ ?_
    · refine o_q rfl (by kernel_rfl) (by kernel_rfl) (pl := []) (by kernel_rfl) fun us a wz hA hv hf hw K hK => ?_
      have s9 := (slot_in hA (t := 9) (by simp) (j := 4) (by kernel_rfl)).trans (hv 4 (by kernel_rfl))
      clear hA hv
      have k0 := (hR.out.frm ((Frm.refl (fun _ => False) w).drew.trans hf fun _ _ h => h) fun h => h).mk0
      clear hf
      refine wp_load_mid (cs := (m).cells) 47 _ rfl gr 0 (ev s9) _ k0 Tryd.underlying47 rfl (by rw [hml]; kernel_rfl) ?_
      exact hK _ _ rfl (Frm.refl _ _)
    refine owesL_cons (i' := 7) rfl ?_ ?_
    · refine o_q rfl (by kernel_rfl) (by kernel_rfl) (pl := []) (by kernel_rfl) fun us a wz hA hv hf hw K hK => ?_
      have s6 := (slot_in hA (t := 6) (by simp) (j := 1) (by kernel_rfl)).trans (hv 1 (by kernel_rfl))
      have s10 := (slot_in hA (t := 10) (by simp) (j := 5) (by kernel_rfl)).trans (hv 5 (by kernel_rfl))
      clear hA hv
      have e1 := run_neqMrk wz mk m
      have e2 := fun a b => run_guardMrk .neq a b wz mk.cells.toArray (m).cells.toArray
      rw [hr] at e1
      unfold Oper.wp execOp
      simp only [ev s6, ev s10, Sem.run_bind, e1, e2, Result.andThen_ok, Sem.run_pure]
      exact hK _ _ rfl (Frm.refl _ _)
    exact owesL_nil
  case hV => exact Stabs.vt (.cons (stab_is _ _) (.cons (stab_is _ _) (.cons (stab_is _ _) (.cons (stab_is _ _) (.cons (stab_is _ _) (.cons (stab_is _ _) (.cons (stab_is _ _) (.nil))))))))
  case hW => exact StabWs.wt (.cons (fun _ _ _ h _ => h) (.nil))
  case h0 =>
    trivial
  intro usx wx hvx hwx hfx
  have qx0 : usx 0 = _ := hvx 0 (by decide)
  have qx1 : usx 1 = _ := hvx 1 (by decide)
  have qx2 : usx 2 = _ := hvx 2 (by decide)
  have qx3 : usx 3 = _ := hvx 3 (by decide)
  have qx4 : usx 4 = _ := hvx 4 (by decide)
  have qx5 : usx 5 = _ := hvx 5 (by decide)
  have qx6 : usx 6 = _ := hvx 6 (by decide)
  rw [fill_all (ds := [some 5, some 6, some 7, some 8, some 9, some 10, some 11]) (by kernel_rfl)]
  simp only [putAll, Act.put, List.setIfInBounds_toArray, List.set_cons_succ, List.set_cons_zero, Nat.reduceAdd, qx0, qx1, qx2, qx3, qx4, qx5, qx6]
  clear hvx qx0 qx1 qx2 qx3 qx4 qx5 qx6
  exact hQ _ _ _ _ _ _ _ ((Frm.refl _ _).drew.trans hfx fun _ _ h => h)
set_option maxRecDepth 100000 in
set_option maxHeartbeats 1000000 in
theorem settle_r3 {B0 g gr : Nat} {A : Option Addr} {c : Nat} {B : Option Addr} {d : Nat} {rs : List Rec} {hs : List (List Int)} {m n mk : Mrk} {bb : Bool} {u2 u3 u4 u5 u6 u7 u8 u9 u10 u11 u12 u13 u14 u15 u16 u17 u18 u19 u20 u21 u22 u23 u24 u25 u26 u27 u28 u29 u30 u31 u32 u33 : Value} {w : World} (hH : HistV B0 w g A c B d rs hs) (hR : RegV w gr m n bb) (hm : mk.count = rs.length ∧ mk.top = topOf hs) {res : Bool} (hr : mk.beq m = res) {Q : Exit → Act → World → Prop}
    (hQ : ∀ (x15 x16 x17 x18 x19 x20 x21 : Value) (w' : World), Frm (fun _ => False) w w' → Q .normal ⟨(.pointer (some ⟨gr, 0, none⟩) :: .pointer (some ⟨g, 0, none⟩) :: u2 :: u3 :: u4 :: u5 :: u6 :: u7 :: u8 :: u9 :: u10 :: u11 :: u12 :: u13 :: .bool res :: x15 :: x16 :: x17 :: x18 :: x19 :: x20 :: x21 :: u22 :: u23 :: u24 :: u25 :: u26 :: u27 :: u28 :: u29 :: u30 :: u31 :: u32 :: u33 :: []).toArray, []⟩ w') :
    (regionOf Tryd.f16 3).wp Tryd.prog Q ⟨(.pointer (some ⟨gr, 0, none⟩) :: .pointer (some ⟨g, 0, none⟩) :: u2 :: u3 :: u4 :: u5 :: u6 :: u7 :: u8 :: u9 :: u10 :: u11 :: u12 :: u13 :: u14 :: u15 :: u16 :: u17 :: u18 :: u19 :: u20 :: u21 :: u22 :: u23 :: u24 :: u25 :: u26 :: u27 :: u28 :: u29 :: u30 :: u31 :: u32 :: u33 :: []).toArray, []⟩ w := by
  conv => arg 2; whnf
  have hml := (m).len
  replace hH := Lib.hid hH
  replace hR := Lib.hid hR
  replace hm := Lib.hid hm
  apply wp_region_typed (fun _ => False) (nf [1, 5, 6]) [] (vt [(Is _), (Is _), (Is _), (Is _), (Is _), (Is _), (Is _), (Is _)]) (wt [(fun _ _ => True)]) (by kernel_rfl) (by kernel_rfl) (by kernel_rfl) (by kernel_rfl) (hop := owesL_all ?hop)
  case hop =>
    refine owesL_cons (i' := 1) rfl ?_ ?_
    · refine o_pure rfl (by kernel_rfl) fun us a wz hA hv K hK => ?_
      have s1 := slot_out hA (t := 1) (by kernel_rfl)
      clear hA hv
      go_wp2
      exact rfl
    refine owesL_cons (i' := 2) rfl ?_ ?_
    · refine o_q rfl (by kernel_rfl) (by kernel_rfl) (pl := []) (by kernel_rfl) fun us a wz hA hv hf hw K hK => ?_
      have s15 := (slot_in hA (t := 15) (by simp) (j := 0) (by kernel_rfl)).trans (hv 0 (by kernel_rfl))
      clear hA hv
      have hh := hH.out.quiet ((Frm.refl (fun _ => False) w).drew.trans hf fun _ _ h => h)
      clear hf
      go_wp2_with fail
      refine (of_any B0 g A c B d rs hs _ hh mk hm.out).mono ?_
      rintro e w1 ⟨rfl, hp1⟩
      exact hK _ _ rfl (Frm.of_below hp1 _)
    refine owesL_cons (i' := 3) rfl ?_ ?_
    · refine o_pure rfl (by kernel_rfl) fun us a wz hA hv K hK => ?_
      have s0 := slot_out hA (t := 0) (by kernel_rfl)
      clear hA hv
      go_wp2
      exact rfl
    refine owesL_cons (i' := 4) rfl ?_ ?_
    · refine o_pure rfl (by kernel_rfl) fun us a wz hA hv K hK => ?_
      have s17 := (slot_in hA (t := 17) (by simp) (j := 2) (by kernel_rfl)).trans (hv 2 (by kernel_rfl))
      clear hA hv
      go_wp2
      exact rfl
    refine owesL_cons (i' := 5) rfl ?_ ?_
    · refine o_pure rfl (by kernel_rfl) fun us a wz hA hv K hK => ?_
      have s18 := (slot_in hA (t := 18) (by simp) (j := 3) (by kernel_rfl)).trans (hv 3 (by kernel_rfl))
      clear hA hv
      go_wp2
      exact rfl
    refine owesL_cons (i' := 6) rfl ?_ ?_
    · refine o_q rfl (by kernel_rfl) (by kernel_rfl) (pl := []) (by kernel_rfl) fun us a wz hA hv hf hw K hK => ?_
      have s19 := (slot_in hA (t := 19) (by simp) (j := 4) (by kernel_rfl)).trans (hv 4 (by kernel_rfl))
      clear hA hv
      have k0 := (hR.out.frm ((Frm.refl (fun _ => False) w).drew.trans hf fun _ _ h => h) fun h => h).mk0
      clear hf
      refine wp_load_mid (cs := (m).cells) 47 _ rfl gr 0 (ev s19) _ k0 Tryd.underlying47 rfl (by rw [hml]; kernel_rfl) ?_
      exact hK _ _ rfl (Frm.refl _ _)
    refine owesL_cons (i' := 7) rfl ?_ ?_
    · refine o_q rfl (by kernel_rfl) (by kernel_rfl) (pl := []) (by kernel_rfl) fun us a wz hA hv hf hw K hK => ?_
      have s16 := (slot_in hA (t := 16) (by simp) (j := 1) (by kernel_rfl)).trans (hv 1 (by kernel_rfl))
      have s20 := (slot_in hA (t := 20) (by simp) (j := 5) (by kernel_rfl)).trans (hv 5 (by kernel_rfl))
      clear hA hv
      have e1 := run_eqlMrk wz mk m
      have e2 := fun a b => run_guardMrk .eql a b wz mk.cells.toArray (m).cells.toArray
      rw [hr] at e1
      unfold Oper.wp execOp
      simp only [ev s16, ev s20, Sem.run_bind, e1, e2, Result.andThen_ok, Sem.run_pure]
      exact hK _ _ rfl (Frm.refl _ _)
    refine owesL_cons (i' := 8) rfl ?_ ?_
    · refine o_pure rfl (by kernel_rfl) fun us a wz hA hv K hK => ?_
      have s21 := (slot_in hA (t := 21) (by simp) (j := 6) (by kernel_rfl)).trans (hv 6 (by kernel_rfl))
      clear hA hv
      go_wp2
      exact rfl
    exact owesL_nil
  case hV => exact Stabs.vt (.cons (stab_is _ _) (.cons (stab_is _ _) (.cons (stab_is _ _) (.cons (stab_is _ _) (.cons (stab_is _ _) (.cons (stab_is _ _) (.cons (stab_is _ _) (.cons (stab_is _ _) (.nil)))))))))
  case hW => exact StabWs.wt (.cons (fun _ _ _ h _ => h) (.nil))
  case h0 =>
    trivial
  intro usx wx hvx hwx hfx
  have qx0 : usx 0 = _ := hvx 0 (by decide)
  have qx1 : usx 1 = _ := hvx 1 (by decide)
  have qx2 : usx 2 = _ := hvx 2 (by decide)
  have qx3 : usx 3 = _ := hvx 3 (by decide)
  have qx4 : usx 4 = _ := hvx 4 (by decide)
  have qx5 : usx 5 = _ := hvx 5 (by decide)
  have qx6 : usx 6 = _ := hvx 6 (by decide)
  have qx7 : usx 7 = _ := hvx 7 (by decide)
  rw [fill_all (ds := [some 15, some 16, some 17, some 18, some 19, some 20, some 21, some 14]) (by kernel_rfl)]
  simp only [putAll, Act.put, List.setIfInBounds_toArray, List.set_cons_succ, List.set_cons_zero, Nat.reduceAdd, qx0, qx1, qx2, qx3, qx4, qx5, qx6, qx7]
  clear hvx qx0 qx1 qx2 qx3 qx4 qx5 qx6 qx7
  exact hQ _ _ _ _ _ _ _ _ ((Frm.refl _ _).drew.trans hfx fun _ _ h => h)
set_option maxRecDepth 100000 in
set_option maxHeartbeats 1000000 in
theorem settle_r5 {B0 g gr : Nat} {A : Option Addr} {c : Nat} {B : Option Addr} {d : Nat} {rs : List Rec} {hs : List (List Int)} {m n mk : Mrk} {bb : Bool} {u2 u3 u4 u5 u6 u7 u8 u9 u10 u11 u12 u13 u14 u15 u16 u17 u18 u19 u20 u21 u22 u23 u24 u25 u26 u27 u28 u29 u30 u31 u32 u33 : Value} {w : World} (hH : HistV B0 w g A c B d rs hs) (hR : RegV w gr m n bb) (hm : mk.count = rs.length ∧ mk.top = topOf hs) {res : Bool} (hr : mk.beq n = res) {Q : Exit → Act → World → Prop}
    (hQ : ∀ (x25 x26 x27 x28 x29 x30 x31 : Value) (w' : World), Frm (fun _ => False) w w' → Q .normal ⟨(.pointer (some ⟨gr, 0, none⟩) :: .pointer (some ⟨g, 0, none⟩) :: u2 :: u3 :: u4 :: u5 :: u6 :: u7 :: u8 :: u9 :: u10 :: u11 :: u12 :: u13 :: u14 :: u15 :: u16 :: u17 :: u18 :: u19 :: u20 :: u21 :: u22 :: u23 :: .bool res :: x25 :: x26 :: x27 :: x28 :: x29 :: x30 :: x31 :: u32 :: u33 :: []).toArray, []⟩ w') :
    (regionOf Tryd.f16 5).wp Tryd.prog Q ⟨(.pointer (some ⟨gr, 0, none⟩) :: .pointer (some ⟨g, 0, none⟩) :: u2 :: u3 :: u4 :: u5 :: u6 :: u7 :: u8 :: u9 :: u10 :: u11 :: u12 :: u13 :: u14 :: u15 :: u16 :: u17 :: u18 :: u19 :: u20 :: u21 :: u22 :: u23 :: u24 :: u25 :: u26 :: u27 :: u28 :: u29 :: u30 :: u31 :: u32 :: u33 :: []).toArray, []⟩ w := by
  conv => arg 2; whnf
  have hml := (n).len
  replace hH := Lib.hid hH
  replace hR := Lib.hid hR
  replace hm := Lib.hid hm
  apply wp_region_typed (fun _ => False) (nf [1, 5, 6]) [] (vt [(Is _), (Is _), (Is _), (Is _), (Is _), (Is _), (Is _), (Is _)]) (wt [(fun _ _ => True)]) (by kernel_rfl) (by kernel_rfl) (by kernel_rfl) (by kernel_rfl) (hop := owesL_all ?hop)
  case hop =>
    refine owesL_cons (i' := 1) rfl ?_ ?_
    · refine o_pure rfl (by kernel_rfl) fun us a wz hA hv K hK => ?_
      have s1 := slot_out hA (t := 1) (by kernel_rfl)
      clear hA hv
      go_wp2
      exact rfl
    refine owesL_cons (i' := 2) rfl ?_ ?_
    · refine o_q rfl (by kernel_rfl) (by kernel_rfl) (pl := []) (by kernel_rfl) fun us a wz hA hv hf hw K hK => ?_
      have s25 := (slot_in hA (t := 25) (by simp) (j := 0) (by kernel_rfl)).trans (hv 0 (by kernel_rfl))
      clear hA hv
      have hh := hH.out.quiet ((Frm.refl (fun _ => False) w).drew.trans hf fun _ _ h => h)
      clear hf
      go_wp2_with fail
      refine (of_any B0 g A c B d rs hs _ hh mk hm.out).mono ?_
      rintro e w1 ⟨rfl, hp1⟩
      exact hK _ _ rfl (Frm.of_below hp1 _)
    refine owesL_cons (i' := 3) rfl ?_ ?_
    · refine o_pure rfl (by kernel_rfl) fun us a wz hA hv K hK => ?_
      have s0 := slot_out hA (t := 0) (by kernel_rfl)
      clear hA hv
      go_wp2
      exact rfl
    refine owesL_cons (i' := 4) rfl ?_ ?_
    · refine o_pure rfl (by kernel_rfl) fun us a wz hA hv K hK => ?_
      have s27 := (slot_in hA (t := 27) (by simp) (j := 2) (by kernel_rfl)).trans (hv 2 (by kernel_rfl))
      clear hA hv
      go_wp2
      exact rfl
    refine owesL_cons (i' := 5) rfl ?_ ?_
    · refine o_pure rfl (by kernel_rfl) fun us a wz hA hv K hK => ?_
      have s28 := (slot_in hA (t := 28) (by simp) (j := 3) (by kernel_rfl)).trans (hv 3 (by kernel_rfl))
      clear hA hv
      go_wp2
      exact rfl
    refine owesL_cons (i' := 6) rfl ?_ ?_
    · refine o_q rfl (by kernel_rfl) (by kernel_rfl) (pl := []) (by kernel_rfl) fun us a wz hA hv hf hw K hK => ?_
      have s29 := (slot_in hA (t := 29) (by simp) (j := 4) (by kernel_rfl)).trans (hv 4 (by kernel_rfl))
      clear hA hv
      have k0 := (hR.out.frm ((Frm.refl (fun _ => False) w).drew.trans hf fun _ _ h => h) fun h => h).mk33
      clear hf
      refine wp_load_mid (cs := (n).cells) 47 _ rfl gr 33 (ev s29) _ k0 Tryd.underlying47 rfl (by rw [hml]; kernel_rfl) ?_
      exact hK _ _ rfl (Frm.refl _ _)
    refine owesL_cons (i' := 7) rfl ?_ ?_
    · refine o_q rfl (by kernel_rfl) (by kernel_rfl) (pl := []) (by kernel_rfl) fun us a wz hA hv hf hw K hK => ?_
      have s26 := (slot_in hA (t := 26) (by simp) (j := 1) (by kernel_rfl)).trans (hv 1 (by kernel_rfl))
      have s30 := (slot_in hA (t := 30) (by simp) (j := 5) (by kernel_rfl)).trans (hv 5 (by kernel_rfl))
      clear hA hv
      have e1 := run_eqlMrk wz mk n
      have e2 := fun a b => run_guardMrk .eql a b wz mk.cells.toArray (n).cells.toArray
      rw [hr] at e1
      unfold Oper.wp execOp
      simp only [ev s26, ev s30, Sem.run_bind, e1, e2, Result.andThen_ok, Sem.run_pure]
      exact hK _ _ rfl (Frm.refl _ _)
    refine owesL_cons (i' := 8) rfl ?_ ?_
    · refine o_pure rfl (by kernel_rfl) fun us a wz hA hv K hK => ?_
      have s31 := (slot_in hA (t := 31) (by simp) (j := 6) (by kernel_rfl)).trans (hv 6 (by kernel_rfl))
      clear hA hv
      go_wp2
      exact rfl
    exact owesL_nil
  case hV => exact Stabs.vt (.cons (stab_is _ _) (.cons (stab_is _ _) (.cons (stab_is _ _) (.cons (stab_is _ _) (.cons (stab_is _ _) (.cons (stab_is _ _) (.cons (stab_is _ _) (.cons (stab_is _ _) (.nil)))))))))
  case hW => exact StabWs.wt (.cons (fun _ _ _ h _ => h) (.nil))
  case h0 =>
    trivial
  intro usx wx hvx hwx hfx
  have qx0 : usx 0 = _ := hvx 0 (by decide)
  have qx1 : usx 1 = _ := hvx 1 (by decide)
  have qx2 : usx 2 = _ := hvx 2 (by decide)
  have qx3 : usx 3 = _ := hvx 3 (by decide)
  have qx4 : usx 4 = _ := hvx 4 (by decide)
  have qx5 : usx 5 = _ := hvx 5 (by decide)
  have qx6 : usx 6 = _ := hvx 6 (by decide)
  have qx7 : usx 7 = _ := hvx 7 (by decide)
  rw [fill_all (ds := [some 25, some 26, some 27, some 28, some 29, some 30, some 31, some 24]) (by kernel_rfl)]
  simp only [putAll, Act.put, List.setIfInBounds_toArray, List.set_cons_succ, List.set_cons_zero, Nat.reduceAdd, qx0, qx1, qx2, qx3, qx4, qx5, qx6, qx7]
  clear hvx qx0 qx1 qx2 qx3 qx4 qx5 qx6 qx7
  exact hQ _ _ _ _ _ _ _ _ ((Frm.refl _ _).drew.trans hfx fun _ _ h => h)
set_option maxRecDepth 100000 in
set_option maxHeartbeats 1000000 in
theorem audit_any (B0 g gr : Nat) (A : Option Addr) (c : Nat) (B : Option Addr) (d : Nat) (rs : List Rec) (hs : List (List Int)) (m n mk : Mrk) (bb : Bool) (w : World) (hH : HistV B0 w g A c B d rs hs) (hR : RegV w gr m n bb) (hm : mk.count = rs.length ∧ mk.top = topOf hs) :
    Calls Tryd.prog 14 #[.pointer (some ⟨gr, 0, none⟩), .pointer (some ⟨g, 0, none⟩)] w fun e w' => e = .returned (.int .i64 (if mk.beq m then 0 else 33)) ∧ Below w.heap.size w w' := by
  replace hH := Lib.hid hH
  replace hR := Lib.hid hR
  replace hm := Lib.hid hm
  obtain ⟨res, hr⟩ : ∃ res, mk.beq m = res := ⟨_, rfl⟩
  rw [hr]
  replace hr := Lib.hid hr
  go_enter Tryd.func14, Tryd.ntmps14
  go_wp2
  refine audit_r1 hH.out hR.out hm.out hr.out ?_
  intro x5 x6 x7 x8 x9 x10 w2 hf2
  replace hf2 := Lib.hid hf2
  cases res with
  | true =>
    go_wp2
    go_ret
    exact ⟨rfl, hf2.out.below⟩
  | false =>
    go_wp2
    go_ret
    exact ⟨rfl, hf2.out.below⟩
/-- what Settle leaves -/
def SetPost (w w' : World) (g : Nat) (m n mk : Mrk) (bb : Bool) (e : Ending) : Prop :=
  if bb = false then e = .returned (.int .i64 (if mk.beq m then 0 else 33)) ∧ Below w.heap.size w w'
  else if mk.beq m = true then e = .returned (.int .i64 0) ∧ RegV w' g m Mrk.zero false ∧ Frm (fun k => k = g) w w'
  else if mk.beq n = true then e = .returned (.int .i64 0) ∧ RegV w' g n Mrk.zero false ∧ Frm (fun k => k = g) w w'
  else e = .returned (.int .i64 33) ∧ Below w.heap.size w w'
set_option maxRecDepth 100000 in
set_option maxHeartbeats 1000000 in
theorem settle_free (B0 g gr : Nat) (A : Option Addr) (c : Nat) (B : Option Addr) (d : Nat) (rs : List Rec) (hs : List (List Int)) (m n mk : Mrk) (w : World) (hH : HistV B0 w g A c B d rs hs) (hR : RegV w gr m n false) (hm : mk.count = rs.length ∧ mk.top = topOf hs) :
    Calls Tryd.prog 16 #[.pointer (some ⟨gr, 0, none⟩), .pointer (some ⟨g, 0, none⟩)] w fun e w' => e = .returned (.int .i64 (if mk.beq m then 0 else 33)) ∧ Below w.heap.size w w' := by
  have hc := hR.c66
  replace hH := Lib.hid hH
  replace hR := Lib.hid hR
  replace hm := Lib.hid hm
  obtain ⟨v, hv⟩ : ∃ v : Int, v = (if mk.beq m then 0 else 33) := ⟨_, rfl⟩
  have hcall := audit_any B0 g gr A c B d rs hs m n mk false w hH.out hR.out hm.out
  rw [← hv] at hcall ⊢
  replace hcall := Lib.hid hcall
  replace hv := Lib.hid hv
  go_enter Tryd.func16, Tryd.ntmps16
  go_wp2_with fail
  refine hcall.out.mono ?_
  rintro e w2 ⟨rfl, hbl⟩
  replace hbl := Lib.hid hbl
  go_wp2
  go_ret
  exact ⟨rfl, hbl.out⟩
set_option maxRecDepth 100000 in
set_option maxHeartbeats 1000000 in
theorem settle_busy (B0 g gr : Nat) (A : Option Addr) (c : Nat) (B : Option Addr) (d : Nat) (rs : List Rec) (hs : List (List Int)) (m n mk : Mrk) (w : World) (hH : HistV B0 w g A c B d rs hs) (hR : RegV w gr m n true) (hm : mk.count = rs.length ∧ mk.top = topOf hs) (hor : mk.beq m = true ∨ mk.beq n = true) :
    Calls Tryd.prog 16 #[.pointer (some ⟨gr, 0, none⟩), .pointer (some ⟨g, 0, none⟩)] w fun e w' => e = .returned (.int .i64 0) ∧ RegV w' gr (if mk.beq m then m else n) Mrk.zero false ∧ Frm (fun k => k = gr) w w' := by
  have hc := hR.c66
  replace hH := Lib.hid hH
  replace hR := Lib.hid hR
  replace hm := Lib.hid hm
  replace hor := Lib.hid hor
  go_enter Tryd.func16, Tryd.ntmps16
  go_wp2
  cases hr : mk.beq m with
  | true =>
    refine settle_r3 hH.out hR.out hm.out hr ?_
    intro x15 x16 x17 x18 x19 x20 x21 w2 hf2
    have hR2 := hR.out.frm hf2 fun h => h
    replace hf2 := Lib.hid hf2
    replace hR2 := Lib.hid hR2
    go_wp2_with fail
    refine (cancel_yes gr m n _ hR2.out).mono ?_
    rintro e w3 ⟨rfl, hR3, hf3⟩
    have hf4 := (hf2.out.mono (G := fun k => k = gr) fun _ _ h => h.elim).trans hf3 fun _ _ h => h
    replace hR3 := Lib.hid hR3
    replace hf4 := Lib.hid hf4
    clear hf3
    go_wp2
    go_ret
    exact ⟨rfl, hR3.out, hf4.out⟩
  | false =>
    have hrn : mk.beq n = true := hor.out.resolve_left (by rw [hr]; decide)
    clear hor
    refine settle_r3 hH.out hR.out hm.out hr ?_
    intro x15 x16 x17 x18 x19 x20 x21 w2 hf2
    have hR2 := hR.out.frm hf2 fun h => h
    have hH2 := hH.out.quiet hf2
    replace hf2 := Lib.hid hf2
    replace hR2 := Lib.hid hR2
    replace hH2 := Lib.hid hH2
    go_wp2
    refine settle_r5 hH2.out hR2.out hm.out hrn ?_
    intro y25 y26 y27 y28 y29 y30 y31 w3 hf3
    have hR3 := hR2.out.frm hf3 fun h => h
    replace hf3 := Lib.hid (hf2.out.trans hf3 fun _ _ h => h)
    replace hR3 := Lib.hid hR3
    go_wp2_with fail
    refine (end_yes gr m n _ hR3.out).mono ?_
    rintro e w4 ⟨rfl, hR4, hf4⟩
    have hf5 := (hf3.out.mono (G := fun k => k = gr) fun _ _ h => h.elim).trans hf4 fun _ _ h => h
    replace hR4 := Lib.hid hR4
    replace hf5 := Lib.hid hf5
    clear hf4
    go_wp2
    all_goals (go_ret; exact ⟨rfl, hR4.out, hf5.out⟩)
set_option maxRecDepth 100000 in
set_option maxHeartbeats 1000000 in
theorem next_any (g : Nat) (m n : Mrk) (b : Bool) (w : World) (h : RegV w g m n b) : Calls Tryd.prog 19 #[.pointer (some ⟨g, 0, none⟩)] w fun e w' => e = .returned (.tuple #[.agg n.cells.toArray, .bool b]) ∧ Below w.heap.size w w' := by
  have hf0 := (Frm.refl (fun _ => False) w).alloc (.cells Mrk.zero.cells.toArray 47)
  have hz0 := Blk.new w 47 Mrk.zero.cells
  have h1 := h.frm hf0 fun h => h
  have hnl := n.len
  have hs1 : w.heap.size < (w.alloc (.cells Mrk.zero.cells.toArray 47)).heap.size := by simp
  have hg : g < w.heap.size := Blk.lt h
  replace h := Lib.hid h
  replace h1 := Lib.hid h1
  replace hf0 := Lib.hid hf0
  replace hz0 := Lib.hid hz0
  replace hs1 := Lib.hid hs1
  go_enter Tryd.func19, Tryd.ntmps19
  go_wp2
  apply wp_region_typed (fun k => k = w.heap.size) (nf [8, 9]) [8, 9] (vt [(Is _), (Is _), (Is _), (Is _), (Is _), (Is _), (Is _), (Is _), (fun _ _ => True), (Is _)]) (wt [(fun _ w' => Blk w' w.heap.size 47 Mrk.zero.cells), (fun _ w' => Blk w' w.heap.size 47 n.cells), (fun _ w' => Blk w' w.heap.size 47 n.cells)]) (by kernel_rfl) (by kernel_rfl) (by kernel_rfl) (by kernel_rfl) (hop := owesL_all ?hop)
  case hop =>
    refine owesL_cons (i' := 1) rfl ?_ ?_
    · refine o_pure rfl (by kernel_rfl) fun us a wz hA hv K hK => ?_
      have s0 := slot_out hA (t := 0) (by kernel_rfl)
      clear hA hv
      go_wp2
      exact rfl
    refine owesL_cons (i' := 2) rfl ?_ ?_
    · refine o_pure rfl (by kernel_rfl) fun us a wz hA hv K hK => ?_
      have s4 := (slot_in hA (t := 4) (by simp) (j := 0) (by kernel_rfl)).trans (hv 0 (by kernel_rfl))
      clear hA hv
      go_wp2
      exact rfl
    refine owesL_cons (i' := 3) rfl ?_ ?_
    · refine o_pure rfl (by kernel_rfl) fun us a wz hA hv K hK => ?_
      have s5 := (slot_in hA (t := 5) (by simp) (j := 1) (by kernel_rfl)).trans (hv 1 (by kernel_rfl))
      clear hA hv
      go_wp2
      exact rfl
    refine owesL_cons (i' := 4) rfl ?_ ?_
    · refine o_f rfl (by kernel_rfl) fun us a wz hA hv hf K hK => ?_
      have s6 := (slot_in hA (t := 6) (by simp) (j := 2) (by kernel_rfl)).trans (hv 2 (by kernel_rfl))
      clear hA hv
      have k0 := ((h1.out.frm ((Frm.refl (fun k => k = w.heap.size) _).drew.trans hf fun _ _ h => h) fun e => by omega)).mk33
      clear hf
      refine wp_load_mid (cs := n.cells) 47 _ rfl g 33 (ev s6) _ k0 Tryd.underlying47 rfl (by rw [hnl]; kernel_rfl) ?_
      exact hK _ _ rfl (Frm.refl _ _)
    refine owesL_cons (i' := 5) rfl ?_ ?_
    · refine o_pure rfl (by kernel_rfl) fun us a wz hA hv K hK => ?_
      have s0 := slot_out hA (t := 0) (by kernel_rfl)
      clear hA hv
      go_wp2
      exact rfl
    refine owesL_cons (i' := 6) rfl ?_ ?_
    · refine o_pure rfl (by kernel_rfl) fun us a wz hA hv K hK => ?_
      have s8 := (slot_in hA (t := 8) (by simp) (j := 4) (by kernel_rfl)).trans (hv 4 (by kernel_rfl))
      clear hA hv
      go_wp2
      exact rfl
    refine owesL_cons (i' := 7) rfl ?_ ?_
    · refine o_pure rfl (by kernel_rfl) fun us a wz hA hv K hK => ?_
      have s9 := (slot_in hA (t := 9) (by simp) (j := 5) (by kernel_rfl)).trans (hv 5 (by kernel_rfl))
      clear hA hv
      go_wp2
      exact rfl
    refine owesL_cons (i' := 8) rfl ?_ ?_
    · refine o_f rfl (by kernel_rfl) fun us a wz hA hv hf K hK => ?_
      have s10 := (slot_in hA (t := 10) (by simp) (j := 6) (by kernel_rfl)).trans (hv 6 (by kernel_rfl))
      clear hA hv
      have k0 := ((h1.out.frm ((Frm.refl (fun k => k = w.heap.size) _).drew.trans hf fun _ _ h => h) fun e => by omega)).c66
      clear hf
      go_wp2
      exact hK _ _ rfl (Frm.refl _ _)
    refine owesL_cons (i' := 9) rfl ?_ ?_
    · refine o_p rfl (by kernel_rfl) (by kernel_rfl) (pl := []) (by kernel_rfl) fun us a wz hA hv hf hw K hK => ?_
      have s2 := slot_out hA (t := 2) (by kernel_rfl)
      have s7 := (slot_in hA (t := 7) (by simp) (j := 3) (by kernel_rfl)).trans (hv 3 (by kernel_rfl))
      replace hw : ((fun _ w' => Blk w' w.heap.size 47 Mrk.zero.cells) : List Value → World → Prop) [] wz := hw
      clear hA hv
      have hth := hw.there' 0 33 (by rw [Mrk.len]; exact Nat.le_refl _)
      have hn : Blk (wz.setCells w.heap.size 0 n.cells) w.heap.size 47 n.cells := by
        have := hw.setCells (o := 0) (vs := n.cells) (by rw [hnl, Mrk.len]; exact Nat.le_refl _)
        rw [hnl, List.drop_of_length_le (by rw [Mrk.len]; exact Nat.le_refl _)] at this
        simpa using this
      clear hf
      refine wp_store_mid 47 _ _ rfl w.heap.size 0 n.cells.toArray (ev s2) (ev s7) (by simpa [hnl] using hth) (by simp only [List.size_toArray, hnl]; kernel_rfl) (all_oneCell_toArray n.one) ?_
      exact hK undef _ trivial hn ((Frm.refl (fun k => k = w.heap.size) wz).setCells (fun _ => rfl) 0 _)
    refine owesL_cons (i' := 10) rfl ?_ ?_
    · refine o_p rfl (by kernel_rfl) (by kernel_rfl) (pl := [8]) (by kernel_rfl) fun us a wz hA hv hf hw K hK => ?_
      have s11 := (slot_in hA (t := 11) (by simp) (j := 7) (by kernel_rfl)).trans (hv 7 (by kernel_rfl))
      replace hw : ((fun _ w' => Blk w' w.heap.size 47 n.cells) : List Value → World → Prop) [us 8] wz := hw
      clear hA hv
      replace hw := Lib.hid hw
      clear hf
      go_wp2
      exact hK _ _ rfl hw.out (Frm.refl _ _)
    exact owesL_nil
  case hV => exact Stabs.vt (.cons (stab_is _ _) (.cons (stab_is _ _) (.cons (stab_is _ _) (.cons (stab_is _ _) (.cons (stab_is _ _) (.cons (stab_is _ _) (.cons (stab_is _ _) (.cons (stab_is _ _) (.cons (stab_true _) (.cons (stab_is _ _) (.nil)))))))))))
  case hW =>
    exact StabWs.wt (.cons (fun _ _ _ h hf => h.frm hf fun h => h) (.cons (fun _ _ _ h hf => h.frm hf fun h => h) (.cons (fun _ _ _ h hf => h.frm hf fun h => h) .nil)))
  case h0 =>
    exact hz0.out.frm (Frm.refl (fun _ => False) _).drew fun h => h
  intro usx wx hvx hwx hfx
  have qx0 : usx 0 = _ := hvx 0 (by decide)
  have qx1 : usx 1 = _ := hvx 1 (by decide)
  have qx2 : usx 2 = _ := hvx 2 (by decide)
  have qx3 : usx 3 = _ := hvx 3 (by decide)
  have qx4 : usx 4 = _ := hvx 4 (by decide)
  have qx5 : usx 5 = _ := hvx 5 (by decide)
  have qx6 : usx 6 = _ := hvx 6 (by decide)
  have qx7 : usx 7 = _ := hvx 7 (by decide)
  have qx9 : usx 9 = _ := hvx 9 (by decide)
  replace hwx : ((fun _ w' => Blk w' w.heap.size 47 n.cells) : List Value → World → Prop) [usx 8, usx 9] wx := hwx
  rw [fill_all (ds := [some 4, some 5, some 6, some 7, some 8, some 9, some 10, some 11, none, some 3]) (by kernel_rfl)]
  simp only [putAll, Act.put, List.setIfInBounds_toArray, List.set_cons_succ, List.set_cons_zero, Nat.reduceAdd, qx0, qx1, qx2, qx3, qx4, qx5, qx6, qx7, qx9]
  clear hvx qx0 qx1 qx2 qx3 qx4 qx5 qx6 qx7 qx9
  replace hwx : Blk wx w.heap.size 47 n.cells := hwx
  have hfx2 := hf0.out.trans ((Frm.refl _ _).drew.trans hfx fun _ _ h => h) fun b hb h => by omega
  replace hfx2 := Lib.hid hfx2
  replace hwx := Lib.hid hwx
  go_wp2
  refine bodyPost_ret (results_cell_tmp rfl _ _ (b := w.heap.size) (o := 0) (cs := n.cells) rfl hwx.out.range Tryd.underlying47 rfl (by rw [hnl]; kernel_rfl)) rfl ?_
  exact ⟨rfl, hfx2.out.below⟩
end Go.Proofs.YtmajnoefddbflaaDoor
