/- sha: the block function and what digests hold. -/
import Derived.Test.YtmajnoefddbflaaDoorLb
import Derived.Test.YtmajnoefddbflaaDoorProg
import Derived.Test.YtmajnoefddbflaaDoorL4
import Derived.Test.YtmajnoefddbflaaDoorClo
import Derived.WalkKit
import Derived.WalkSpells
import Derived.StillTactics
import Derived.Laws.Pointers
import Derived.Lib.Hide
import Derived.Lib.ConvBytes
import Derived.KernelRfl
namespace Go.Proofs.YtmajnoefddbflaaDoor
open Go.RowKit

/-- turned to the left -/
def rotl (x m : Int) : Int := bits .or .u32 (x * 2 ^ m.toNat % 4294967296) (x / 2 ^ (32 - m).toNat)

set_option maxRecDepth 100000 in
set_option maxHeartbeats 400000 in
theorem rot_any (x k m : Int) (w : World) (hm : bits .and .u64 (IntKind.u64.wrap k) 31 = m) (h0 : 0 ≤ m) (h1 : m ≤ 31) : Calls Tryd.prog 75 #[.int .u32 x, .int .i64 k] w fun e w' => e = .returned (.int .u32 (rotl x m)) ∧ Below w.heap.size w w' := by
  have e2 : IntKind.u64.wrap (32 - bits .and .u64 (IntKind.u64.wrap k) 31) = 32 - m := by rw [hm]; exact IntWalk.u64_in _ (by omega)
  go_enter Tryd.func75, Tryd.ntmps75
  go_wp2
  go_ret
  subst hm
  exact ⟨rfl, Below.refl _ _⟩
set_option maxRecDepth 100000 in
set_option maxHeartbeats 400000 in
theorem right_any (x k m : Int) (w : World) (hm : bits .and .u64 (IntKind.u64.wrap (wrap64 (-k))) 31 = m) (h0 : 0 ≤ m) (h1 : m ≤ 31) : Calls Tryd.prog 68 #[.int .u32 x, .int .i64 k] w fun e w' => e = .returned (.int .u32 (rotl x m)) ∧ Below w.heap.size w w' := by
  go_enter Tryd.func68, Tryd.ntmps68
  go_wp2_with fail
  refine (rot_any _ _ _ _ hm h0 h1).mono ?_
  rintro e w1 ⟨rfl, hp⟩
  have hp := Lib.hid hp
  go_wp2
  go_ret
  exact ⟨rfl, hp.out⟩

/-- four bytes, the highest first -/
def word4 (a b c d : Int) : Int := bits .or .u32 (bits .or .u32 (bits .or .u32 (a % 4294967296 * 16777216 % 4294967296) (b % 4294967296 * 65536 % 4294967296)) (c % 4294967296 * 256 % 4294967296)) (d % 4294967296)
set_option maxRecDepth 100000 in
set_option maxHeartbeats 400000 in
theorem word_any (b o n c : Nat) (xs : List Int) (w : World) (hr : Rd w 1 (some ⟨b, o, none⟩) n (nums .u8 xs)) (hn : 4 ≤ n) :
    Calls Tryd.prog 67 #[.slice (some ⟨b, o, none⟩) n c] w fun e w' => e = .returned (.int .u32 (word4 (xs.getD 0 0) (xs.getD 1 0) (xs.getD 2 0) (xs.getD 3 0))) ∧ Below w.heap.size w w' := by
  obtain ⟨a0, a1, a2, a3, ys, rfl⟩ : ∃ a0 a1 a2 a3 ys, xs = a0 :: a1 :: a2 :: a3 :: ys := by
    have := hr.1
    rw [nums_length] at this
    match xs, this with
    | a0 :: a1 :: a2 :: a3 :: ys, _ => exact ⟨a0, a1, a2, a3, ys, rfl⟩
    | [], h | [_], h | [_, _], h | [_, _, _], h => simp at h; omega
  obtain ⟨b', o', e, hrange⟩ := hr.2 (by omega)
  cases e
  have c0 : w.cell? ⟨b, o, none⟩ = some (.int .u8 a0) := by simpa using hrange 0 _ rfl
  have c1 : w.cell? ⟨b, o + 1, none⟩ = some (.int .u8 a1) := by simpa using hrange 1 _ rfl
  have c2 : w.cell? ⟨b, o + 2, none⟩ = some (.int .u8 a2) := by simpa using hrange 2 _ rfl
  have c3 : w.cell? ⟨b, o + 3, none⟩ = some (.int .u8 a3) := by simpa using hrange 3 _ rfl
  clear hr hrange
  go_enter Tryd.func67, Tryd.ntmps67
  go_wp2
  apply wp_region_typed (fun _ => False) (nf [2, 7, 13, 19]) [] (vt [(Is _), (Is _), (Is _), (Is _), (Is _), (Is _), (Is _), (Is _), (Is _), (Is _), (Is _), (Is _), (Is _), (Is _), (Is _), (Is _), (Is _), (Is _), (Is _), (Is _), (Is _), (Is _), (Is _)]) (wt [(fun _ _ => True)]) (by kernel_rfl) (by kernel_rfl) (by kernel_rfl) (by kernel_rfl) (hop := owesL_all ?hop)
  case hop =>
    refine owesL_cons (i' := 1) rfl ?_ ?_
    · refine o_pure rfl (by kernel_rfl) fun us a wz hA hv K hK => ?_
      have s0 := slot_out hA (t := 0) (by kernel_rfl)
      clear hA hv
      go_wp2
      exact rfl
    refine owesL_cons (i' := 2) rfl ?_ ?_
    · refine o_pure rfl (by kernel_rfl) fun us a wz hA hv K hK => ?_
      have s3 := (slot_in hA (t := 3) (by simp) (j := 0) (by kernel_rfl)).trans (hv 0 (by kernel_rfl))
      clear hA hv
      go_wp2
      exact rfl
    refine owesL_cons (i' := 3) rfl ?_ ?_
    · refine o_q rfl (by kernel_rfl) (by kernel_rfl) (pl := []) (by kernel_rfl) fun us a wz hA hv hf hw K hK => ?_
      have s4 := (slot_in hA (t := 4) (by simp) (j := 1) (by kernel_rfl)).trans (hv 1 (by kernel_rfl))
      clear hA hv
      have k0 := hf.cell c0 (fun h => h)
      clear hf
      go_wp2
      exact hK _ _ rfl (Frm.refl _ _)
    refine owesL_cons (i' := 4) rfl ?_ ?_
    · refine o_pure rfl (by kernel_rfl) fun us a wz hA hv K hK => ?_
      have s5 := (slot_in hA (t := 5) (by simp) (j := 2) (by kernel_rfl)).trans (hv 2 (by kernel_rfl))
      clear hA hv
      go_wp2
      exact rfl
    refine owesL_cons (i' := 5) rfl ?_ ?_
    · refine o_pure rfl (by kernel_rfl) fun us a wz hA hv K hK => ?_
      have s6 := (slot_in hA (t := 6) (by simp) (j := 3) (by kernel_rfl)).trans (hv 3 (by kernel_rfl))
      clear hA hv
      go_wp2
      exact rfl
    refine owesL_cons (i' := 6) rfl ?_ ?_
    · refine o_pure rfl (by kernel_rfl) fun us a wz hA hv K hK => ?_
      have s0 := slot_out hA (t := 0) (by kernel_rfl)
      clear hA hv
      go_wp2
      exact rfl
    refine owesL_cons (i' := 7) rfl ?_ ?_
    · refine o_pure rfl (by kernel_rfl) fun us a wz hA hv K hK => ?_
      have s8 := (slot_in hA (t := 8) (by simp) (j := 5) (by kernel_rfl)).trans (hv 5 (by kernel_rfl))
      clear hA hv
      go_wp2
      exact rfl
    refine owesL_cons (i' := 8) rfl ?_ ?_
    · refine o_q rfl (by kernel_rfl) (by kernel_rfl) (pl := []) (by kernel_rfl) fun us a wz hA hv hf hw K hK => ?_
      have s9 := (slot_in hA (t := 9) (by simp) (j := 6) (by kernel_rfl)).trans (hv 6 (by kernel_rfl))
      clear hA hv
      have k0 := hf.cell c1 (fun h => h)
      clear hf
      go_wp2
      exact hK _ _ rfl (Frm.refl _ _)
    refine owesL_cons (i' := 9) rfl ?_ ?_
    · refine o_pure rfl (by kernel_rfl) fun us a wz hA hv K hK => ?_
      have s10 := (slot_in hA (t := 10) (by simp) (j := 7) (by kernel_rfl)).trans (hv 7 (by kernel_rfl))
      clear hA hv
      go_wp2
      exact rfl
    refine owesL_cons (i' := 10) rfl ?_ ?_
    · refine o_pure rfl (by kernel_rfl) fun us a wz hA hv K hK => ?_
      have s11 := (slot_in hA (t := 11) (by simp) (j := 8) (by kernel_rfl)).trans (hv 8 (by kernel_rfl))
      clear hA hv
      go_wp2
      exact rfl
    refine owesL_cons (i' := 11) rfl ?_ ?_
    · refine o_pure rfl (by kernel_rfl) fun us a wz hA hv K hK => ?_
      have s7 := (slot_in hA (t := 7) (by simp) (j := 4) (by kernel_rfl)).trans (hv 4 (by kernel_rfl))
      have s12 := (slot_in hA (t := 12) (by simp) (j := 9) (by kernel_rfl)).trans (hv 9 (by kernel_rfl))
      clear hA hv
      go_wp2
      exact rfl
    refine owesL_cons (i' := 12) rfl ?_ ?_
    · refine o_pure rfl (by kernel_rfl) fun us a wz hA hv K hK => ?_
      have s0 := slot_out hA (t := 0) (by kernel_rfl)
      clear hA hv
      go_wp2
      exact rfl
    refine owesL_cons (i' := 13) rfl ?_ ?_
    · refine o_pure rfl (by kernel_rfl) fun us a wz hA hv K hK => ?_
      have s14 := (slot_in hA (t := 14) (by simp) (j := 11) (by kernel_rfl)).trans (hv 11 (by kernel_rfl))
      clear hA hv
      go_wp2
      exact rfl
    refine owesL_cons (i' := 14) rfl ?_ ?_
    · refine o_q rfl (by kernel_rfl) (by kernel_rfl) (pl := []) (by kernel_rfl) fun us a wz hA hv hf hw K hK => ?_
      have s15 := (slot_in hA (t := 15) (by simp) (j := 12) (by kernel_rfl)).trans (hv 12 (by kernel_rfl))
      clear hA hv
      have k0 := hf.cell c2 (fun h => h)
      clear hf
      go_wp2
      exact hK _ _ rfl (Frm.refl _ _)
    refine owesL_cons (i' := 15) rfl ?_ ?_
    · refine o_pure rfl (by kernel_rfl) fun us a wz hA hv K hK => ?_
      have s16 := (slot_in hA (t := 16) (by simp) (j := 13) (by kernel_rfl)).trans (hv 13 (by kernel_rfl))
      clear hA hv
      go_wp2
      exact rfl
    refine owesL_cons (i' := 16) rfl ?_ ?_
    · refine o_pure rfl (by kernel_rfl) fun us a wz hA hv K hK => ?_
      have s17 := (slot_in hA (t := 17) (by simp) (j := 14) (by kernel_rfl)).trans (hv 14 (by kernel_rfl))
      clear hA hv
      go_wp2
      exact rfl
    refine owesL_cons (i' := 17) rfl ?_ ?_
    · refine o_pure rfl (by kernel_rfl) fun us a wz hA hv K hK => ?_
      have s13 := (slot_in hA (t := 13) (by simp) (j := 10) (by kernel_rfl)).trans (hv 10 (by kernel_rfl))
      have s18 := (slot_in hA (t := 18) (by simp) (j := 15) (by kernel_rfl)).trans (hv 15 (by kernel_rfl))
      clear hA hv
      go_wp2
      exact rfl
    refine owesL_cons (i' := 18) rfl ?_ ?_
    · refine o_pure rfl (by kernel_rfl) fun us a wz hA hv K hK => ?_
      have s0 := slot_out hA (t := 0) (by kernel_rfl)
      clear hA hv
      go_wp2
      exact rfl
    refine owesL_cons (i' := 19) rfl ?_ ?_
    · refine o_pure rfl (by kernel_rfl) fun us a wz hA hv K hK => ?_
      have s20 := (slot_in hA (t := 20) (by simp) (j := 17) (by kernel_rfl)).trans (hv 17 (by kernel_rfl))
      clear hA hv
      go_wp2
      exact rfl
    refine owesL_cons (i' := 20) rfl ?_ ?_
    · refine o_q rfl (by kernel_rfl) (by kernel_rfl) (pl := []) (by kernel_rfl) fun us a wz hA hv hf hw K hK => ?_
      have s21 := (slot_in hA (t := 21) (by simp) (j := 18) (by kernel_rfl)).trans (hv 18 (by kernel_rfl))
      clear hA hv
      have k0 := hf.cell c3 (fun h => h)
      clear hf
      go_wp2
      exact hK _ _ rfl (Frm.refl _ _)
    refine owesL_cons (i' := 21) rfl ?_ ?_
    · refine o_pure rfl (by kernel_rfl) fun us a wz hA hv K hK => ?_
      have s22 := (slot_in hA (t := 22) (by simp) (j := 19) (by kernel_rfl)).trans (hv 19 (by kernel_rfl))
      clear hA hv
      go_wp2
      exact rfl
    refine owesL_cons (i' := 22) rfl ?_ ?_
    · refine o_pure rfl (by kernel_rfl) fun us a wz hA hv K hK => ?_
      have s19 := (slot_in hA (t := 19) (by simp) (j := 16) (by kernel_rfl)).trans (hv 16 (by kernel_rfl))
      have s23 := (slot_in hA (t := 23) (by simp) (j := 20) (by kernel_rfl)).trans (hv 20 (by kernel_rfl))
      clear hA hv
      go_wp2
      exact rfl
    refine owesL_cons (i' := 23) rfl ?_ ?_
    · refine o_pure rfl (by kernel_rfl) fun us a wz hA hv K hK => ?_
      have s24 := (slot_in hA (t := 24) (by simp) (j := 21) (by kernel_rfl)).trans (hv 21 (by kernel_rfl))
      clear hA hv
      go_wp2
      exact rfl
    exact owesL_nil
  case hV => exact Stabs.vt (.cons (stab_is _ _) (.cons (stab_is _ _) (.cons (stab_is _ _) (.cons (stab_is _ _) (.cons (stab_is _ _) (.cons (stab_is _ _) (.cons (stab_is _ _) (.cons (stab_is _ _) (.cons (stab_is _ _) (.cons (stab_is _ _) (.cons (stab_is _ _) (.cons (stab_is _ _) (.cons (stab_is _ _) (.cons (stab_is _ _) (.cons (stab_is _ _) (.cons (stab_is _ _) (.cons (stab_is _ _) (.cons (stab_is _ _) (.cons (stab_is _ _) (.cons (stab_is _ _) (.cons (stab_is _ _) (.cons (stab_is _ _) (.cons (stab_is _ _) (.nil))))))))))))))))))))))))
  case hW => exact StabWs.wt (.cons (fun _ _ _ h _ => h) (.nil))
  case h0 =>
    trivial
  intro usx wx hvx hwx hfx
  have qx0 : usx 0 = _ := hvx 0 (by decide)
  have qx1 : usx 1 = _ := hvx 1 (by decide)
  have qx2 : usx 2 = _ := hvx 2 (by decide)
  have qx3 : usx 3 = _ := hvx 3 (by decide)
  have qx4 : usx 4 = _ := hvx 4 (by decide)
  have qx5 : usx 5 = _ := hvx 5 (by decide)
  have qx6 : usx 6 = _ := hvx 6 (by decide)
  have qx7 : usx 7 = _ := hvx 7 (by decide)
  have qx8 : usx 8 = _ := hvx 8 (by decide)
  have qx9 : usx 9 = _ := hvx 9 (by decide)
  have qx10 : usx 10 = _ := hvx 10 (by decide)
  have qx11 : usx 11 = _ := hvx 11 (by decide)
  have qx12 : usx 12 = _ := hvx 12 (by decide)
  have qx13 : usx 13 = _ := hvx 13 (by decide)
  have qx14 : usx 14 = _ := hvx 14 (by decide)
  have qx15 : usx 15 = _ := hvx 15 (by decide)
  have qx16 : usx 16 = _ := hvx 16 (by decide)
  have qx17 : usx 17 = _ := hvx 17 (by decide)
  have qx18 : usx 18 = _ := hvx 18 (by decide)
  have qx19 : usx 19 = _ := hvx 19 (by decide)
  have qx20 : usx 20 = _ := hvx 20 (by decide)
  have qx21 : usx 21 = _ := hvx 21 (by decide)
  have qx22 : usx 22 = _ := hvx 22 (by decide)
  rw [fill_all (ds := [some 3, some 4, some 5, some 6, some 7, some 8, some 9, some 10, some 11, some 12, some 13, some 14, some 15, some 16, some 17, some 18, some 19, some 20, some 21, some 22, some 23, some 24, some 2]) (by kernel_rfl)]
  simp only [putAll, Act.put, List.setIfInBounds_toArray, List.set_cons_succ, List.set_cons_zero, Nat.reduceAdd, qx0, qx1, qx2, qx3, qx4, qx5, qx6, qx7, qx8, qx9, qx10, qx11, qx12, qx13, qx14, qx15, qx16, qx17, qx18, qx19, qx20, qx21, qx22]
  clear hvx qx0 qx1 qx2 qx3 qx4 qx5 qx6 qx7 qx8 qx9 qx10 qx11 qx12 qx13 qx14 qx15 qx16 qx17 qx18 qx19 qx20 qx21 qx22
  go_wp2
  go_ret
  exact ⟨rfl, Frm.below (Frm.trans (Frm.refl _ w).drew hfx fun _ _ h => h)⟩
