/- sha: the block function. -/
import Derived.Test.YtmajnoefddbflaaDoorLb
import Derived.Test.YtmajnoefddbflaaDoorProg
import Derived.Test.YtmajnoefddbflaaDoorSha
import Derived.Test.YtmajnoefddbflaaDoorL4
import Derived.Test.YtmajnoefddbflaaDoorDat
import Derived.Test.YtmajnoefddbflaaDoorClo
import Derived.WalkKit
import Derived.WalkSpells
import Derived.StillTactics
import Derived.Laws.Pointers
import Derived.Lib.Hide
import Derived.KernelRfl
namespace Go.Proofs.YtmajnoefddbflaaDoor
open Go.RowKit

theorem Blk.num {w : World} {g t : Nat} {k : IntKind} {xs : List Int} (h : Blk w g t (nums k xs)) {i : Nat} (hi : i < xs.length) : w.cell? ⟨g, i, none⟩ = some (.int k (xs.getD i 0)) := by
  rw [h.cell i, nums, List.getElem?_map, List.getElem?_eq_getElem hi]; simp [List.getD, List.getElem?_eq_getElem hi]
theorem Rd.drop {w : World} {b o n : Nat} {xs : List Value} (h : Rd w 1 (some ⟨b, o, none⟩) n xs) (k : Nat) (hk : k ≤ n) : Rd w 1 (some ⟨b, o + k, none⟩) (n - k) (xs.drop k) := by
  refine ⟨by have := h.1; simp; omega, fun hn => ?_⟩
  obtain ⟨b', o', e, hr⟩ := h.2 (by omega)
  cases e
  refine ⟨_, _, rfl, fun j v hv => ?_⟩
  have := hr (k + j) v (by rw [List.getElem?_drop] at hv; exact hv)
  rw [Nat.add_assoc]; exact this
theorem nums_drop (k : IntKind) (xs : List Int) (n : Nat) : nums k (xs.drop n) = (nums k xs).drop n := by simp [nums]
theorem nums_set (k : IntKind) (xs : List Int) (n : Nat) (v : Int) : (nums k xs).set n (.int k v) = nums k (xs.set n v) := by simp [nums, List.map_set]
def schedNext (x y p q : Int) : Int :=
  (bits .xor .u32 (bits .xor .u32 (rotl y 15) (rotl y 13)) (y / 1024) + p + bits .xor .u32 (bits .xor .u32 (rotl x 25) (rotl x 14)) (x / 8) + q) % 4294967296
/-- one round -/
def mix (s : List Int) (kt wt : Int) : List Int :=
  let s0 := s[0]?.getD 0; let s1 := s[1]?.getD 0; let s2 := s[2]?.getD 0; let s3 := s[3]?.getD 0; let s4 := s[4]?.getD 0; let s5 := s[5]?.getD 0; let s6 := s[6]?.getD 0; let s7 := s[7]?.getD 0
  let t1 := s7 + bits .xor .u32 (bits .xor .u32 (rotl s4 26) (rotl s4 21)) (rotl s4 7) + bits .xor .u32 (bits .and .u32 s4 s5) (bits .and .u32 (bits .xor .u32 IntKind.u32.max s4) s6) + kt + wt
  let t2 := bits .xor .u32 (bits .xor .u32 (rotl s0 30) (rotl s0 19)) (rotl s0 10) + bits .xor .u32 (bits .xor .u32 (bits .and .u32 s0 s1) (bits .and .u32 s0 s2)) (bits .and .u32 s1 s2)
  [(t1 + t2) % 4294967296, s0, s1, s2, (s3 + t1) % 4294967296, s4, s5, s6]
def mixes (tab ws st : List Int) : Nat → List Int
  | 0 => st
  | t + 1 => mix (mixes tab ws st t) (tab[t]?.getD 0) (ws[t]?.getD 0)
theorem mixes_length (tab ws st : List Int) (h : st.length = 8) (t : Nat) : (mixes tab ws st t).length = 8 := by cases t <;> simp [mixes, mix, h]
theorem eight {xs : List Int} (h : xs.length = 8) : ∃ a b c d e f g i, xs = [a, b, c, d, e, f, g, i] := by
  match xs, h with
  | [a, b, c, d, e, f, g, i], _ => exact ⟨a, b, c, d, e, f, g, i, rfl⟩
/-- what the next word of the schedule is -/
def schedAt (data ws : List Int) (t : Nat) : Int :=
  if t < 16 then word4 (data[4 * t]?.getD 0) (data[4 * t + 1]?.getD 0) (data[4 * t + 2]?.getD 0) (data[4 * t + 3]?.getD 0) else schedNext (ws[t - 15]?.getD 0) (ws[t - 2]?.getD 0) (ws[t - 7]?.getD 0) (ws[t - 16]?.getD 0)
def sched (data : List Int) : Nat → List Int
  | 0 => List.replicate 64 0
  | t + 1 => (sched data t).set t (schedAt data (sched data t) t)
theorem sched_length (data : List Int) (t : Nat) : (sched data t).length = 64 := by
  induction t with
  | zero => simp [sched]
  | succ t ih => simp [sched, ih]

/-- the sums, so far -/
def addUp (st ss : List Int) : Nat → List Int
  | 0 => st
  | k + 1 => (addUp st ss k).set k (((addUp st ss k)[k]?.getD 0 + ss[k]?.getD 0) % 4294967296)
theorem addUp_length (st ss : List Int) (k : Nat) : (addUp st ss k).length = st.length := by
  induction k with
  | zero => rfl
  | succ k ih => simp [addUp, ih]
theorem Blk.num2 {w : World} {g t : Nat} {k : IntKind} {xs : List Int} {l : List Value} (h : Blk w g t (nums k xs ++ l)) {i : Nat} (hi : i < xs.length) : w.cell? ⟨g, i, none⟩ = some (.int k (xs.getD i 0)) := by
  rw [h.cell i, List.getElem?_append_left (by rw [nums_length]; exact hi), nums, List.getElem?_map, List.getElem?_eq_getElem hi]; simp [List.getD, List.getElem?_eq_getElem hi]
/-- a block goes into the eight numbers -/
def blockF (tab st data : List Int) : List Int := addUp st (mixes tab (sched data 64) st 64) 8
theorem blockF_length (tab st data : List Int) : (blockF tab st data).length = st.length := addUp_length ..
set_option maxRecDepth 100000 in
set_option maxHeartbeats 800000 in
theorem block_any (g : Nat) (st : List Int) (rest : Value) (len : Value) (hst : st.length = 8) (b o c : Nat) (data : List Int) (w : World)
    (tab : List Int) (htl : tab.length = 64) (htab : GTab w 1 .u32 tab) (hd : Blk w g 108 (nums .u32 st ++ [rest, len])) (hr : Rd w 1 (some ⟨b, o, none⟩) 64 (nums .u8 data)) (hc : 64 ≤ c) :
    Calls Tryd.prog 58 #[.pointer (some ⟨g, 0, none⟩), .slice (some ⟨b, o, none⟩) 64 c] w fun e w' => e = .returned (.tuple #[]) ∧ Frm (fun k => k = g) w w' ∧ Blk w' g 108 (nums .u32 (blockF tab st data) ++ [rest, len]) := by
  have hr := Lib.hid hr
  have hd := Lib.hid hd
  go_enter Tryd.func58, Tryd.ntmps58
  go_wp2

  go_loopw [5, 17] (fun _ i wr => ∃ k : Nat, k ≤ 64 ∧ i = .int .i64 k ∧ Blk wr w.heap.size 118 (nums .u32 (sched data k)) ∧ Frm (fun _ => False) w wr) (fun _ i _ => 64 - (intOf i).toNat)
  case atStart => exact ⟨0, by omega, rfl, Blk.new w _ _, (Frm.refl _ w).alloc _⟩
  case round =>
    obtain ⟨k, hk, rfl, hb, hf⟩ := hrel
    by_cases hlt : k < 64
    · have hlt' : (k : Int) < 64 := by omega
      have hb := Lib.hid hb
      have hf := Lib.hid hf
      by_cases h16 : k < 16
      · have h16' : (k : Int) < 16 := by omega
        have e1 : IntKind.i64.wrap (4 * (k : Int)) = 4 * (k : Int) := IntWalk.i64_in _ (by omega)
        have e2 : 0 ≤ 4 * (k : Int) := by omega
        have e3 : 4 * (k : Int) ≤ 64 := by omega
        go_wp2_with fail
        refine (word_any b (o + 4 * k) (64 - 4 * k) (c - 4 * k) (data.drop (4 * k)) wr (by rw [nums_drop]; exact (hr.out.frm hf.out fun _ _ h => h).drop (4 * k) (by omega)) (by omega)).mono ?_
        rintro e w1 ⟨rfl, hp⟩
        have hb1 := hb.out.below hp hb.out.lt
        have hc1 := hb1.num (i := k) (by rw [sched_length]; omega)
        have hz1 := hb1.frozen k
        have hb1 := Lib.hid hb1
        have hp := Lib.hid hp
        go_wp2
        go_roundw
        case rel =>
          refine ⟨k + 1, by omega, by go_num, ?_, (hf.out.trans (Frm.of_below hp.out _) fun _ _ h => h).setCell (p := ⟨w.heap.size, k, none⟩) (fun h => by simp at h) _⟩
          have := hb1.out.set_ k (.int .u32 (schedAt data (sched data k) k))
          rw [nums_set] at this
          rw [schedAt, if_pos h16] at this
          rw [sched, schedAt, if_pos h16]
          exact this
        case measure => simp [intOf]; omega
      · have h16' : ¬ (k : Int) < 16 := by omega
        have e1 : IntKind.i64.wrap ((k : Int) - 15) = (k : Int) - 15 := IntWalk.i64_in _ (by omega)
        have e2 : IntKind.i64.wrap ((k : Int) - 2) = (k : Int) - 2 := IntWalk.i64_in _ (by omega)
        have e3 : IntKind.i64.wrap ((k : Int) - 7) = (k : Int) - 7 := IntWalk.i64_in _ (by omega)
        have e4 : IntKind.i64.wrap ((k : Int) - 16) = (k : Int) - 16 := IntWalk.i64_in _ (by omega)
        have e5 : 0 ≤ (k : Int) - 15 := by omega
        have e6 : 0 ≤ (k : Int) - 2 := by omega
        have e7 : 0 ≤ (k : Int) - 7 := by omega
        have e8 : 0 ≤ (k : Int) - 16 := by omega
        have hn := sched_length data k
        have c1 := hb.out.num (i := k - 15) (by omega)
        have c2 := hb.out.num (i := k - 2) (by omega)
        go_wp2
        apply wp_region_typed (fun _ => False) (nf [3, 7]) [] (vt [(Is _), (Is _), (Is _), (Is _), (Is _), (Is _), (Is _), (Is _), (Is _), (Is _)]) (wt [(fun _ _ => True)]) (by kernel_rfl) (by kernel_rfl) (by kernel_rfl) (by kernel_rfl) (hop := owesL_all ?hop)
        case hop =>
          refine owesL_cons (i' := 1) rfl ?_ ?_
          · refine o_pure rfl (by kernel_rfl) fun us a wz hA hv K hK => ?_
            have s5 := slot_out hA (t := 5) (by kernel_rfl)
            clear hA hv
            go_wp2
            exact rfl
          refine owesL_cons (i' := 2) rfl ?_ ?_
          · refine o_pure rfl (by kernel_rfl) fun us a wz hA hv K hK => ?_
            have s29 := (slot_in hA (t := 29) (by simp) (j := 0) (by kernel_rfl)).trans (hv 0 (by kernel_rfl))
            clear hA hv
            go_wp2
            exact rfl
          refine owesL_cons (i' := 3) rfl ?_ ?_
          · refine o_pure rfl (by kernel_rfl) fun us a wz hA hv K hK => ?_
            have s4 := slot_out hA (t := 4) (by kernel_rfl)
            have s30 := (slot_in hA (t := 30) (by simp) (j := 1) (by kernel_rfl)).trans (hv 1 (by kernel_rfl))
            clear hA hv
            go_wp2
            exact rfl
          refine owesL_cons (i' := 4) rfl ?_ ?_
          · refine o_q rfl (by kernel_rfl) (by kernel_rfl) (pl := []) (by kernel_rfl) fun us a wz hA hv hf hw K hK => ?_
            have s31 := (slot_in hA (t := 31) (by simp) (j := 2) (by kernel_rfl)).trans (hv 2 (by kernel_rfl))
            clear hA hv
            have k0 := hf.cell c1 (fun h => h)
            clear hf
            go_wp2
            exact hK _ _ rfl (Frm.refl _ _)
          refine owesL_cons (i' := 5) rfl ?_ ?_
          · refine o_pure rfl (by kernel_rfl) fun us a wz hA hv K hK => ?_
            have s5 := slot_out hA (t := 5) (by kernel_rfl)
            clear hA hv
            go_wp2
            exact rfl
          refine owesL_cons (i' := 6) rfl ?_ ?_
          · refine o_pure rfl (by kernel_rfl) fun us a wz hA hv K hK => ?_
            have s33 := (slot_in hA (t := 33) (by simp) (j := 4) (by kernel_rfl)).trans (hv 4 (by kernel_rfl))
            clear hA hv
            go_wp2
            exact rfl
          refine owesL_cons (i' := 7) rfl ?_ ?_
          · refine o_pure rfl (by kernel_rfl) fun us a wz hA hv K hK => ?_
            have s4 := slot_out hA (t := 4) (by kernel_rfl)
            have s34 := (slot_in hA (t := 34) (by simp) (j := 5) (by kernel_rfl)).trans (hv 5 (by kernel_rfl))
            clear hA hv
            go_wp2
            exact rfl
          refine owesL_cons (i' := 8) rfl ?_ ?_
          · refine o_q rfl (by kernel_rfl) (by kernel_rfl) (pl := []) (by kernel_rfl) fun us a wz hA hv hf hw K hK => ?_
            have s35 := (slot_in hA (t := 35) (by simp) (j := 6) (by kernel_rfl)).trans (hv 6 (by kernel_rfl))
            clear hA hv
            have k0 := hf.cell c2 (fun h => h)
            clear hf
            go_wp2
            exact hK _ _ rfl (Frm.refl _ _)
          refine owesL_cons (i' := 9) rfl ?_ ?_
          · refine o_pure rfl (by kernel_rfl) fun us a wz hA hv K hK => ?_
            have s32 := (slot_in hA (t := 32) (by simp) (j := 3) (by kernel_rfl)).trans (hv 3 (by kernel_rfl))
            clear hA hv
            go_wp2
            exact rfl
          refine owesL_cons (i' := 10) rfl ?_ ?_
          · refine o_pure rfl (by kernel_rfl) fun us a wz hA hv K hK => ?_
            have s36 := (slot_in hA (t := 36) (by simp) (j := 7) (by kernel_rfl)).trans (hv 7 (by kernel_rfl))
            clear hA hv
            go_wp2
            exact rfl
          exact owesL_nil
        case hV => exact Stabs.vt (.cons (stab_is _ _) (.cons (stab_is _ _) (.cons (stab_is _ _) (.cons (stab_is _ _) (.cons (stab_is _ _) (.cons (stab_is _ _) (.cons (stab_is _ _) (.cons (stab_is _ _) (.cons (stab_is _ _) (.cons (stab_is _ _) (.nil)))))))))))
        case hW => exact StabWs.wt (.cons (fun _ _ _ h _ => h) (.nil))
        case h0 =>
          trivial
        intro usx wx hvx hwx hfx
        have qx0 : usx 0 = _ := hvx 0 (by decide)
        have qx1 : usx 1 = _ := hvx 1 (by decide)
        have qx2 : usx 2 = _ := hvx 2 (by decide)
        have qx3 : usx 3 = _ := hvx 3 (by decide)
        have qx4 : usx 4 = _ := hvx 4 (by decide)
        have qx5 : usx 5 = _ := hvx 5 (by decide)
        have qx6 : usx 6 = _ := hvx 6 (by decide)
        have qx7 : usx 7 = _ := hvx 7 (by decide)
        have qx8 : usx 8 = _ := hvx 8 (by decide)
        have qx9 : usx 9 = _ := hvx 9 (by decide)
        rw [fill_all (ds := [some 29, some 30, some 31, some 32, some 33, some 34, some 35, some 36, some 6, some 7]) (by kernel_rfl)]
        simp only [putAll, Act.put, List.setIfInBounds_toArray, List.set_cons_succ, List.set_cons_zero, Nat.reduceAdd, qx0, qx1, qx2, qx3, qx4, qx5, qx6, qx7, qx8, qx9]
        clear hvx qx0 qx1 qx2 qx3 qx4 qx5 qx6 qx7 qx8 qx9
        go_wp2_with fail
        refine (right_any _ 7 25 _ (by kernel_rfl) (by decide) (by decide)).mono ?_
        rintro e w1 ⟨rfl, hp1⟩
        have hp1 := Lib.hid hp1
        go_wp2_with fail
        refine (right_any _ 18 14 _ (by kernel_rfl) (by decide) (by decide)).mono ?_
        rintro e w2 ⟨rfl, hp2⟩
        have hp2 := Lib.hid hp2
        go_wp2_with fail
        refine (right_any _ 17 15 _ (by kernel_rfl) (by decide) (by decide)).mono ?_
        rintro e w3 ⟨rfl, hp3⟩
        have hp3 := Lib.hid hp3
        go_wp2_with fail
        refine (right_any _ 19 13 _ (by kernel_rfl) (by decide) (by decide)).mono ?_
        rintro e w4 ⟨rfl, hp4⟩
        have hp4 := Lib.hid hp4
        have hf4 : Frm (fun _ => False) wr w4 := ((((((Frm.refl _ wr).drew.trans hfx fun _ _ h => h).trans (Frm.of_below hp1.out _) fun _ _ h => h).trans (Frm.of_below hp2.out _) fun _ _ h => h).trans (Frm.of_below hp3.out _) fun _ _ h => h).trans (Frm.of_below hp4.out _) fun _ _ h => h)
        have hb4 := hb.out.frm hf4 (fun h => h)
        have c3 := hb4.num (i := k - 7) (by omega)
        have c4 := hb4.num (i := k - 16) (by omega)
        have c5 := hb4.num (i := k) (by omega)
        have z5 := hb4.frozen k
        have hf4 := Lib.hid hf4
        have hb4 := Lib.hid hb4
        clear hfx
        go_wp2
        apply wp_region_typed (fun k => k = w.heap.size) (nf [5, 12, 15]) [15] (vt [(Is _), (Is _), (Is _), (Is _), (Is _), (Is _), (Is _), (Is _), (Is _), (Is _), (Is _), (Is _), (Is _), (Is _), (Is _), (fun _ _ => True)]) (wt [(fun _ w' => Blk w' w.heap.size 118 (nums .u32 (sched data k))), (fun _ w' => Blk w' w.heap.size 118 (nums .u32 ((sched data k).set k (schedAt data (sched data k) k))))]) (by kernel_rfl) (by kernel_rfl) (by kernel_rfl) (by kernel_rfl) (hop := owesL_all ?hop)
        case hop =>
          refine owesL_cons (i' := 1) rfl ?_ ?_
          · refine o_pure rfl (by kernel_rfl) fun us a wz hA hv K hK => ?_
            have s5 := slot_out hA (t := 5) (by kernel_rfl)
            clear hA hv
            go_wp2
            exact rfl
          refine owesL_cons (i' := 2) rfl ?_ ?_
          · refine o_pure rfl (by kernel_rfl) fun us a wz hA hv K hK => ?_
            have s9 := slot_out hA (t := 9) (by kernel_rfl)
            clear hA hv
            go_wp2
            exact rfl
          refine owesL_cons (i' := 3) rfl ?_ ?_
          · refine o_pure rfl (by kernel_rfl) fun us a wz hA hv K hK => ?_
            have s5 := slot_out hA (t := 5) (by kernel_rfl)
            clear hA hv
            go_wp2
            exact rfl
          refine owesL_cons (i' := 4) rfl ?_ ?_
          · refine o_pure rfl (by kernel_rfl) fun us a wz hA hv K hK => ?_
            have s55 := (slot_in hA (t := 55) (by simp) (j := 2) (by kernel_rfl)).trans (hv 2 (by kernel_rfl))
            clear hA hv
            go_wp2
            exact rfl
          refine owesL_cons (i' := 5) rfl ?_ ?_
          · refine o_pure rfl (by kernel_rfl) fun us a wz hA hv K hK => ?_
            have s4 := slot_out hA (t := 4) (by kernel_rfl)
            have s56 := (slot_in hA (t := 56) (by simp) (j := 3) (by kernel_rfl)).trans (hv 3 (by kernel_rfl))
            clear hA hv
            go_wp2
            exact rfl
          refine owesL_cons (i' := 6) rfl ?_ ?_
          · refine o_q rfl (by kernel_rfl) (by kernel_rfl) (pl := []) (by kernel_rfl) fun us a wz hA hv hf hw K hK => ?_
            have s57 := (slot_in hA (t := 57) (by simp) (j := 4) (by kernel_rfl)).trans (hv 4 (by kernel_rfl))
            replace hw : ((fun _ w' => Blk w' w.heap.size 118 (nums .u32 (sched data k))) : List Value → World → Prop) [] wz := hw
            clear hA hv
            have k0 := hw.num (i := k - 7) (by omega)
            clear hw hf
            go_wp2
            exact hK _ _ rfl (Frm.refl _ _)
          refine owesL_cons (i' := 7) rfl ?_ ?_
          · refine o_pure rfl (by kernel_rfl) fun us a wz hA hv K hK => ?_
            have s54 := (slot_in hA (t := 54) (by simp) (j := 1) (by kernel_rfl)).trans (hv 1 (by kernel_rfl))
            have s58 := (slot_in hA (t := 58) (by simp) (j := 5) (by kernel_rfl)).trans (hv 5 (by kernel_rfl))
            clear hA hv
            go_wp2
            exact rfl
          refine owesL_cons (i' := 8) rfl ?_ ?_
          · refine o_pure rfl (by kernel_rfl) fun us a wz hA hv K hK => ?_
            have s8 := slot_out hA (t := 8) (by kernel_rfl)
            clear hA hv
            go_wp2
            exact rfl
          refine owesL_cons (i' := 9) rfl ?_ ?_
          · refine o_pure rfl (by kernel_rfl) fun us a wz hA hv K hK => ?_
            have s59 := (slot_in hA (t := 59) (by simp) (j := 6) (by kernel_rfl)).trans (hv 6 (by kernel_rfl))
            have s60 := (slot_in hA (t := 60) (by simp) (j := 7) (by kernel_rfl)).trans (hv 7 (by kernel_rfl))
            clear hA hv
            go_wp2
            exact rfl
          refine owesL_cons (i' := 10) rfl ?_ ?_
          · refine o_pure rfl (by kernel_rfl) fun us a wz hA hv K hK => ?_
            have s5 := slot_out hA (t := 5) (by kernel_rfl)
            clear hA hv
            go_wp2
            exact rfl
          refine owesL_cons (i' := 11) rfl ?_ ?_
          · refine o_pure rfl (by kernel_rfl) fun us a wz hA hv K hK => ?_
            have s62 := (slot_in hA (t := 62) (by simp) (j := 9) (by kernel_rfl)).trans (hv 9 (by kernel_rfl))
            clear hA hv
            go_wp2
            exact rfl
          refine owesL_cons (i' := 12) rfl ?_ ?_
          · refine o_pure rfl (by kernel_rfl) fun us a wz hA hv K hK => ?_
            have s4 := slot_out hA (t := 4) (by kernel_rfl)
            have s63 := (slot_in hA (t := 63) (by simp) (j := 10) (by kernel_rfl)).trans (hv 10 (by kernel_rfl))
            clear hA hv
            go_wp2
            exact rfl
          refine owesL_cons (i' := 13) rfl ?_ ?_
          · refine o_q rfl (by kernel_rfl) (by kernel_rfl) (pl := []) (by kernel_rfl) fun us a wz hA hv hf hw K hK => ?_
            have s64 := (slot_in hA (t := 64) (by simp) (j := 11) (by kernel_rfl)).trans (hv 11 (by kernel_rfl))
            replace hw : ((fun _ w' => Blk w' w.heap.size 118 (nums .u32 (sched data k))) : List Value → World → Prop) [] wz := hw
            clear hA hv
            have k0 := hw.num (i := k - 16) (by omega)
            clear hw hf
            go_wp2
            exact hK _ _ rfl (Frm.refl _ _)
          refine owesL_cons (i' := 14) rfl ?_ ?_
          · refine o_pure rfl (by kernel_rfl) fun us a wz hA hv K hK => ?_
            have s61 := (slot_in hA (t := 61) (by simp) (j := 8) (by kernel_rfl)).trans (hv 8 (by kernel_rfl))
            have s65 := (slot_in hA (t := 65) (by simp) (j := 12) (by kernel_rfl)).trans (hv 12 (by kernel_rfl))
            clear hA hv
            go_wp2
            exact rfl
          refine owesL_cons (i' := 15) rfl ?_ ?_
          · refine o_pure rfl (by kernel_rfl) fun us a wz hA hv K hK => ?_
            have s4 := slot_out hA (t := 4) (by kernel_rfl)
            have s53 := (slot_in hA (t := 53) (by simp) (j := 0) (by kernel_rfl)).trans (hv 0 (by kernel_rfl))
            clear hA hv
            go_wp2
            exact rfl
          refine owesL_cons (i' := 16) rfl ?_ ?_
          · refine o_p rfl (by kernel_rfl) (by kernel_rfl) (pl := []) (by kernel_rfl) fun us a wz hA hv hf hw K hK => ?_
            have s67 := (slot_in hA (t := 67) (by simp) (j := 14) (by kernel_rfl)).trans (hv 14 (by kernel_rfl))
            have s66 := (slot_in hA (t := 66) (by simp) (j := 13) (by kernel_rfl)).trans (hv 13 (by kernel_rfl))
            replace hw : ((fun _ w' => Blk w' w.heap.size 118 (nums .u32 (sched data k))) : List Value → World → Prop) [] wz := hw
            clear hA hv
            have k0 := hw.num (i := k) (by omega)
            have z0 := hw.frozen k
            have hb5 := hw.set_ k (.int .u32 (schedAt data (sched data k) k))
            have hb5 := Lib.hid hb5
            clear hw hf
            go_wp2
            refine hK undef _ trivial ?_ ((Frm.refl (fun k => k = w.heap.size) wz).setCell (p := ⟨w.heap.size, k, none⟩) (fun _ => rfl) _)
            have hb5 := hb5.out
            rw [nums_set] at hb5
            rw [schedAt, if_neg h16] at hb5 ⊢
            exact hb5
          exact owesL_nil
        case hV => exact Stabs.vt (.cons (stab_is _ _) (.cons (stab_is _ _) (.cons (stab_is _ _) (.cons (stab_is _ _) (.cons (stab_is _ _) (.cons (stab_is _ _) (.cons (stab_is _ _) (.cons (stab_is _ _) (.cons (stab_is _ _) (.cons (stab_is _ _) (.cons (stab_is _ _) (.cons (stab_is _ _) (.cons (stab_is _ _) (.cons (stab_is _ _) (.cons (stab_is _ _) (.cons (stab_true _) (.nil)))))))))))))))))
        case hW =>
          exact StabWs.wt (.cons (fun _ _ _ h hf => h.frm hf fun h => h) (.cons (fun _ _ _ h hf => h.frm hf fun h => h) .nil))
        case h0 =>
          exact hb4.out
        intro usx wx hvx hwx hfx
        have qx0 : usx 0 = _ := hvx 0 (by decide)
        have qx1 : usx 1 = _ := hvx 1 (by decide)
        have qx2 : usx 2 = _ := hvx 2 (by decide)
        have qx3 : usx 3 = _ := hvx 3 (by decide)
        have qx4 : usx 4 = _ := hvx 4 (by decide)
        have qx5 : usx 5 = _ := hvx 5 (by decide)
        have qx6 : usx 6 = _ := hvx 6 (by decide)
        have qx7 : usx 7 = _ := hvx 7 (by decide)
        have qx8 : usx 8 = _ := hvx 8 (by decide)
        have qx9 : usx 9 = _ := hvx 9 (by decide)
        have qx10 : usx 10 = _ := hvx 10 (by decide)
        have qx11 : usx 11 = _ := hvx 11 (by decide)
        have qx12 : usx 12 = _ := hvx 12 (by decide)
        have qx13 : usx 13 = _ := hvx 13 (by decide)
        have qx14 : usx 14 = _ := hvx 14 (by decide)
        replace hwx : ((fun _ w' => Blk w' w.heap.size 118 (nums .u32 ((sched data k).set k (schedAt data (sched data k) k)))) : List Value → World → Prop) [usx 15] wx := hwx
        rw [fill_all (ds := [some 53, some 54, some 55, some 56, some 57, some 58, some 59, some 60, some 61, some 62, some 63, some 64, some 65, some 66, some 67, none]) (by kernel_rfl)]
        simp only [putAll, Act.put, List.setIfInBounds_toArray, List.set_cons_succ, List.set_cons_zero, Nat.reduceAdd, qx0, qx1, qx2, qx3, qx4, qx5, qx6, qx7, qx8, qx9, qx10, qx11, qx12, qx13, qx14]
        clear hvx qx0 qx1 qx2 qx3 qx4 qx5 qx6 qx7 qx8 qx9 qx10 qx11 qx12 qx13 qx14
        go_wp2
        go_roundw
        case rel =>
          refine ⟨k + 1, by omega, by go_num, hwx, ?_⟩
          exact (hf.out.trans hf4.out fun _ _ h => h).drew.trans hfx fun b hb h => by omega
        case measure => simp [intOf]; omega
    · have hk' : k = 64 := by omega
      subst hk'
      obtain ⟨w0, hw0⟩ : ∃ w0, w0 = wr := ⟨_, rfl⟩
      subst hw0
      have hdr := hd.out.frm hf fun h => h
      have hld := hdr.pre
      have hns : (nums .u32 st).length = 8 := by rw [nums_length]; exact hst
      have hnw := Blk.new w0 106 [.int .u32 0, .int .u32 0, .int .u32 0, .int .u32 0, .int .u32 0, .int .u32 0, .int .u32 0, .int .u32 0]
      have hth := hnw.there' 0 8 (by decide)
      have hb := Lib.hid hb
      have hf := Lib.hid hf
      have hdr := Lib.hid hdr
      have hnw := Lib.hid hnw
      go_wp2_with first
        | refine list_load 106 hld Tryd.underlying106 rfl (by rw [hns]; kernel_rfl) rfl rfl rfl ?_
        | refine list_store 106 (by rw [hns]; exact hth) (by rw [hns]; kernel_rfl) nums_one rfl rfl rfl rfl ?_
      generalize hwq : World.setCells _ _ _ _ = wq
      have hS : Blk wq w0.heap.size 106 (nums .u32 st) := by
        rw [← hwq]
        have := hnw.out.setCells (o := 0) (vs := nums .u32 st) (by rw [hns]; decide)
        simpa [hns] using this
      have hfq : Frm (fun _ => False) w0 wq := by
        rw [← hwq]
        exact ((Frm.refl _ w0).alloc _).setCells (fun h => by omega) 0 _
      clear hwq hnw hth hld
      have hfw := Lib.hid (hf.out.trans hfq fun _ _ h => h)
      have hW := Lib.hid (hb.out.frm hfq fun h => h)
      have hSz : w.heap.size < w0.heap.size := hb.out.lt
      clear hfq hb hf
      obtain ⟨ws, hws⟩ : ∃ ws, ws = sched data 64 := ⟨_, rfl⟩
      have hwl : ws.length = 64 := by rw [hws]; exact sched_length _ _
      rw [← hws] at hW
      have hT := Lib.hid ((htab.frm hfw.out fun h => h))
      have hg1 : 1 < w.heap.size := htab.lt (by omega)
      go_loopw [73] (fun i wv => ∃ k : Nat, k ≤ 64 ∧ i = .int .i64 k ∧ Blk wv w0.heap.size 106 (nums .u32 (mixes tab ws st k)) ∧ Frm (fun k => k = w0.heap.size) wq wv) (fun i _ => 64 - (intOf i).toNat)
      case atStart => exact ⟨0, by omega, rfl, hS, Frm.refl _ _⟩
      case round =>
        obtain ⟨k, hk, rfl, hb2, hf2⟩ := hrel
        obtain ⟨ss, hss⟩ : ∃ ss, ss = mixes tab ws st k := ⟨_, rfl⟩
        have hl8 : ss.length = 8 := by rw [hss]; exact mixes_length _ _ _ hst _
        obtain ⟨s0, s1, s2, s3, s4, s5, s6, s7, h8⟩ := eight hl8
        rw [← hss, h8] at hb2
        by_cases hlt : k < 64
        · have hlt' : (k : Int) < 64 := by omega
          have c0 := hb2.num (i := 0) (by simp)
          have c1 := hb2.num (i := 1) (by simp)
          have c2 := hb2.num (i := 2) (by simp)
          have c4 := hb2.num (i := 4) (by simp)
          have c5 := hb2.num (i := 5) (by simp)
          have c6 := hb2.num (i := 6) (by simp)
          have c7 := hb2.num (i := 7) (by simp)
          simp only [List.getD_cons_zero, List.getD_cons_succ] at c0 c1 c2 c4 c5 c6 c7
          obtain ⟨kt, hkt⟩ : ∃ kt, kt = tab[k]?.getD 0 := ⟨_, rfl⟩
          obtain ⟨wt', hwt⟩ : ∃ wt', wt' = ws[k]?.getD 0 := ⟨_, rfl⟩
          have cT : wr.cell? ⟨1, k, none⟩ = some (.int .u32 kt) := by rw [hkt]; exact (hT.out.frm hf2 (fun h => by omega)) k (by omega)
          have cW : wr.cell? ⟨w.heap.size, k, none⟩ = some (.int .u32 wt') := by rw [hwt]; exact (hW.out.frm hf2 (fun h => by omega)).num (i := k) (by omega)
          have hb2 := Lib.hid hb2
          have hf2 := Lib.hid hf2
          replace hkt := Lib.hid hkt
          replace hwt := Lib.hid hwt
          replace hss := Lib.hid hss
          replace hws := Lib.hid hws
          replace h8 := Lib.hid h8
          go_wp2
          apply wp_region_typed (fun _ => False) (nf [1, 3]) [] (vt [(Is _), (Is _), (Is _), (Is _), (Is _), (Is _)]) (wt [(fun _ _ => True)]) (by kernel_rfl) (by kernel_rfl) (by kernel_rfl) (by kernel_rfl) (hop := owesL_all ?hop)
          case hop =>
            refine owesL_cons (i' := 1) rfl ?_ ?_
            · refine o_pure rfl (by kernel_rfl) fun us a wz hA hv K hK => ?_
              have s10 := slot_out hA (t := 10) (by kernel_rfl)
              clear hA hv
              go_wp2
              exact rfl
            refine owesL_cons (i' := 2) rfl ?_ ?_
            · refine o_q rfl (by kernel_rfl) (by kernel_rfl) (pl := []) (by kernel_rfl) fun us a wz hA hv hf hw K hK => ?_
              have s76 := (slot_in hA (t := 76) (by simp) (j := 0) (by kernel_rfl)).trans (hv 0 (by kernel_rfl))
              clear hA hv
              have k0 := hf.cell c0 (fun h => h)
              clear hf
              go_wp2
              exact hK _ _ rfl (Frm.refl _ _)
            refine owesL_cons (i' := 3) rfl ?_ ?_
            · refine o_pure rfl (by kernel_rfl) fun us a wz hA hv K hK => ?_
              have s10 := slot_out hA (t := 10) (by kernel_rfl)
              clear hA hv
              go_wp2
              exact rfl
            refine owesL_cons (i' := 4) rfl ?_ ?_
            · refine o_q rfl (by kernel_rfl) (by kernel_rfl) (pl := []) (by kernel_rfl) fun us a wz hA hv hf hw K hK => ?_
              have s78 := (slot_in hA (t := 78) (by simp) (j := 2) (by kernel_rfl)).trans (hv 2 (by kernel_rfl))
              clear hA hv
              have k0 := hf.cell c4 (fun h => h)
              clear hf
              go_wp2
              exact hK _ _ rfl (Frm.refl _ _)
            refine owesL_cons (i' := 5) rfl ?_ ?_
            · refine o_pure rfl (by kernel_rfl) fun us a wz hA hv K hK => ?_
              have s77 := (slot_in hA (t := 77) (by simp) (j := 1) (by kernel_rfl)).trans (hv 1 (by kernel_rfl))
              clear hA hv
              go_wp2
              exact rfl
            refine owesL_cons (i' := 6) rfl ?_ ?_
            · refine o_pure rfl (by kernel_rfl) fun us a wz hA hv K hK => ?_
              have s79 := (slot_in hA (t := 79) (by simp) (j := 3) (by kernel_rfl)).trans (hv 3 (by kernel_rfl))
              clear hA hv
              go_wp2
              exact rfl
            exact owesL_nil
          case hV => exact Stabs.vt (.cons (stab_is _ _) (.cons (stab_is _ _) (.cons (stab_is _ _) (.cons (stab_is _ _) (.cons (stab_is _ _) (.cons (stab_is _ _) (.nil)))))))
          case hW => exact StabWs.wt (.cons (fun _ _ _ h _ => h) (.nil))
          case h0 =>
            trivial
          intro usa wa hva hwa hfa
          have qa0 : usa 0 = _ := hva 0 (by decide)
          have qa1 : usa 1 = _ := hva 1 (by decide)
          have qa2 : usa 2 = _ := hva 2 (by decide)
          have qa3 : usa 3 = _ := hva 3 (by decide)
          have qa4 : usa 4 = _ := hva 4 (by decide)
          have qa5 : usa 5 = _ := hva 5 (by decide)
          rw [fill_all (ds := [some 76, some 77, some 78, some 79, some 12, some 13]) (by kernel_rfl)]
          simp only [putAll, Act.put, List.setIfInBounds_toArray, List.set_cons_succ, List.set_cons_zero, Nat.reduceAdd, qa0, qa1, qa2, qa3, qa4, qa5]
          clear hva qa0 qa1 qa2 qa3 qa4 qa5
          have hfa := Lib.hid (((Frm.refl (fun _ => False) wr).drew.trans hfa fun _ _ h => h).drew)
          go_wp2
          apply wp_region_typed (fun _ => False) (nf [1, 3, 5, 8, 13, 18, 24, 28]) [] (vt [(Is _), (Is _), (Is _), (Is _), (Is _), (Is _), (Is _), (Is _), (Is _), (Is _), (Is _), (Is _), (Is _), (Is _), (Is _), (Is _), (Is _), (Is _), (Is _), (Is _), (Is _), (Is _), (Is _), (Is _), (Is _), (Is _), (Is _), (Is _), (Is _), (Is _), (Is _)]) (wt [(fun _ _ => True)]) (by kernel_rfl) (by kernel_rfl) (by kernel_rfl) (by kernel_rfl) (hop := owesL_all ?hop)
          case hop =>
            refine owesL_cons (i' := 1) rfl ?_ ?_
            · refine o_pure rfl (by kernel_rfl) fun us a wz hA hv K hK => ?_
              have s10 := slot_out hA (t := 10) (by kernel_rfl)
              clear hA hv
              go_wp2
              exact rfl
            refine owesL_cons (i' := 2) rfl ?_ ?_
            · refine o_q rfl (by kernel_rfl) (by kernel_rfl) (pl := []) (by kernel_rfl) fun us a wz hA hv hf hw K hK => ?_
              have s80 := (slot_in hA (t := 80) (by simp) (j := 0) (by kernel_rfl)).trans (hv 0 (by kernel_rfl))
              clear hA hv
              have k0 := (hfa.out.trans hf fun _ _ h => h).cell c7 (fun h => h)
              clear hf
              go_wp2
              exact hK _ _ rfl (Frm.refl _ _)
            refine owesL_cons (i' := 3) rfl ?_ ?_
            · refine o_pure rfl (by kernel_rfl) fun us a wz hA hv K hK => ?_
              have s13 := slot_out hA (t := 13) (by kernel_rfl)
              clear hA hv
              go_wp2
              exact rfl
            refine owesL_cons (i' := 4) rfl ?_ ?_
            · refine o_q rfl (by kernel_rfl) (by kernel_rfl) (pl := []) (by kernel_rfl) fun us a wz hA hv hf hw K hK => ?_
              have s82 := (slot_in hA (t := 82) (by simp) (j := 2) (by kernel_rfl)).trans (hv 2 (by kernel_rfl))
              clear hA hv
              clear hf
              go_wp2_with fail
              refine (right_any _ 6 26 _ (by kernel_rfl) (by decide) (by decide)).mono ?_
              rintro e w1 ⟨rfl, hp1⟩
              exact hK _ _ rfl (Frm.of_below hp1 _)
            refine owesL_cons (i' := 5) rfl ?_ ?_
            · refine o_pure rfl (by kernel_rfl) fun us a wz hA hv K hK => ?_
              have s13 := slot_out hA (t := 13) (by kernel_rfl)
              clear hA hv
              go_wp2
              exact rfl
            refine owesL_cons (i' := 6) rfl ?_ ?_
            · refine o_q rfl (by kernel_rfl) (by kernel_rfl) (pl := []) (by kernel_rfl) fun us a wz hA hv hf hw K hK => ?_
              have s84 := (slot_in hA (t := 84) (by simp) (j := 4) (by kernel_rfl)).trans (hv 4 (by kernel_rfl))
              clear hA hv
              clear hf
              go_wp2_with fail
              refine (right_any _ 11 21 _ (by kernel_rfl) (by decide) (by decide)).mono ?_
              rintro e w1 ⟨rfl, hp1⟩
              exact hK _ _ rfl (Frm.of_below hp1 _)
            refine owesL_cons (i' := 7) rfl ?_ ?_
            · refine o_pure rfl (by kernel_rfl) fun us a wz hA hv K hK => ?_
              have s83 := (slot_in hA (t := 83) (by simp) (j := 3) (by kernel_rfl)).trans (hv 3 (by kernel_rfl))
              have s85 := (slot_in hA (t := 85) (by simp) (j := 5) (by kernel_rfl)).trans (hv 5 (by kernel_rfl))
              clear hA hv
              go_wp2
              exact rfl
            refine owesL_cons (i' := 8) rfl ?_ ?_
            · refine o_pure rfl (by kernel_rfl) fun us a wz hA hv K hK => ?_
              have s13 := slot_out hA (t := 13) (by kernel_rfl)
              clear hA hv
              go_wp2
              exact rfl
            refine owesL_cons (i' := 9) rfl ?_ ?_
            · refine o_q rfl (by kernel_rfl) (by kernel_rfl) (pl := []) (by kernel_rfl) fun us a wz hA hv hf hw K hK => ?_
              have s87 := (slot_in hA (t := 87) (by simp) (j := 7) (by kernel_rfl)).trans (hv 7 (by kernel_rfl))
              clear hA hv
              clear hf
              go_wp2_with fail
              refine (right_any _ 25 7 _ (by kernel_rfl) (by decide) (by decide)).mono ?_
              rintro e w1 ⟨rfl, hp1⟩
              exact hK _ _ rfl (Frm.of_below hp1 _)
            refine owesL_cons (i' := 10) rfl ?_ ?_
            · refine o_pure rfl (by kernel_rfl) fun us a wz hA hv K hK => ?_
              have s86 := (slot_in hA (t := 86) (by simp) (j := 6) (by kernel_rfl)).trans (hv 6 (by kernel_rfl))
              have s88 := (slot_in hA (t := 88) (by simp) (j := 8) (by kernel_rfl)).trans (hv 8 (by kernel_rfl))
              clear hA hv
              go_wp2
              exact rfl
            refine owesL_cons (i' := 11) rfl ?_ ?_
            · refine o_pure rfl (by kernel_rfl) fun us a wz hA hv K hK => ?_
              have s81 := (slot_in hA (t := 81) (by simp) (j := 1) (by kernel_rfl)).trans (hv 1 (by kernel_rfl))
              have s89 := (slot_in hA (t := 89) (by simp) (j := 9) (by kernel_rfl)).trans (hv 9 (by kernel_rfl))
              clear hA hv
              go_wp2
              exact rfl
            refine owesL_cons (i' := 12) rfl ?_ ?_
            · refine o_pure rfl (by kernel_rfl) fun us a wz hA hv K hK => ?_
              have s13 := slot_out hA (t := 13) (by kernel_rfl)
              clear hA hv
              go_wp2
              exact rfl
            refine owesL_cons (i' := 13) rfl ?_ ?_
            · refine o_pure rfl (by kernel_rfl) fun us a wz hA hv K hK => ?_
              have s10 := slot_out hA (t := 10) (by kernel_rfl)
              clear hA hv
              go_wp2
              exact rfl
            refine owesL_cons (i' := 14) rfl ?_ ?_
            · refine o_q rfl (by kernel_rfl) (by kernel_rfl) (pl := []) (by kernel_rfl) fun us a wz hA hv hf hw K hK => ?_
              have s92 := (slot_in hA (t := 92) (by simp) (j := 12) (by kernel_rfl)).trans (hv 12 (by kernel_rfl))
              clear hA hv
              have k0 := (hfa.out.trans hf fun _ _ h => h).cell c5 (fun h => h)
              clear hf
              go_wp2
              exact hK _ _ rfl (Frm.refl _ _)
            refine owesL_cons (i' := 15) rfl ?_ ?_
            · refine o_pure rfl (by kernel_rfl) fun us a wz hA hv K hK => ?_
              have s91 := (slot_in hA (t := 91) (by simp) (j := 11) (by kernel_rfl)).trans (hv 11 (by kernel_rfl))
              have s93 := (slot_in hA (t := 93) (by simp) (j := 13) (by kernel_rfl)).trans (hv 13 (by kernel_rfl))
              clear hA hv
              go_wp2
              exact rfl
            refine owesL_cons (i' := 16) rfl ?_ ?_
            · refine o_pure rfl (by kernel_rfl) fun us a wz hA hv K hK => ?_
              have s13 := slot_out hA (t := 13) (by kernel_rfl)
              clear hA hv
              go_wp2
              exact rfl
            refine owesL_cons (i' := 17) rfl ?_ ?_
            · refine o_pure rfl (by kernel_rfl) fun us a wz hA hv K hK => ?_
              have s95 := (slot_in hA (t := 95) (by simp) (j := 15) (by kernel_rfl)).trans (hv 15 (by kernel_rfl))
              clear hA hv
              go_wp2
              exact rfl
            refine owesL_cons (i' := 18) rfl ?_ ?_
            · refine o_pure rfl (by kernel_rfl) fun us a wz hA hv K hK => ?_
              have s10 := slot_out hA (t := 10) (by kernel_rfl)
              clear hA hv
              go_wp2
              exact rfl
            refine owesL_cons (i' := 19) rfl ?_ ?_
            · refine o_q rfl (by kernel_rfl) (by kernel_rfl) (pl := []) (by kernel_rfl) fun us a wz hA hv hf hw K hK => ?_
              have s97 := (slot_in hA (t := 97) (by simp) (j := 17) (by kernel_rfl)).trans (hv 17 (by kernel_rfl))
              clear hA hv
              have k0 := (hfa.out.trans hf fun _ _ h => h).cell c6 (fun h => h)
              clear hf
              go_wp2
              exact hK _ _ rfl (Frm.refl _ _)
            refine owesL_cons (i' := 20) rfl ?_ ?_
            · refine o_pure rfl (by kernel_rfl) fun us a wz hA hv K hK => ?_
              have s96 := (slot_in hA (t := 96) (by simp) (j := 16) (by kernel_rfl)).trans (hv 16 (by kernel_rfl))
              have s98 := (slot_in hA (t := 98) (by simp) (j := 18) (by kernel_rfl)).trans (hv 18 (by kernel_rfl))
              clear hA hv
              go_wp2
              exact rfl
            refine owesL_cons (i' := 21) rfl ?_ ?_
            · refine o_pure rfl (by kernel_rfl) fun us a wz hA hv K hK => ?_
              have s94 := (slot_in hA (t := 94) (by simp) (j := 14) (by kernel_rfl)).trans (hv 14 (by kernel_rfl))
              have s99 := (slot_in hA (t := 99) (by simp) (j := 19) (by kernel_rfl)).trans (hv 19 (by kernel_rfl))
              clear hA hv
              go_wp2
              exact rfl
            refine owesL_cons (i' := 22) rfl ?_ ?_
            · refine o_pure rfl (by kernel_rfl) fun us a wz hA hv K hK => ?_
              have s90 := (slot_in hA (t := 90) (by simp) (j := 10) (by kernel_rfl)).trans (hv 10 (by kernel_rfl))
              have s100 := (slot_in hA (t := 100) (by simp) (j := 20) (by kernel_rfl)).trans (hv 20 (by kernel_rfl))
              clear hA hv
              go_wp2
              exact rfl
            refine owesL_cons (i' := 23) rfl ?_ ?_
            · refine o_pure rfl (by kernel_rfl) fun us a wz hA hv K hK => ?_
              have s11 := slot_out hA (t := 11) (by kernel_rfl)
              clear hA hv
              go_wp2
              exact rfl
            refine owesL_cons (i' := 24) rfl ?_ ?_
            · refine o_pure rfl (by kernel_rfl) fun us a wz hA hv K hK => ?_
              have s102 := (slot_in hA (t := 102) (by simp) (j := 22) (by kernel_rfl)).trans (hv 22 (by kernel_rfl))
              clear hA hv
              go_wp2
              exact rfl
            refine owesL_cons (i' := 25) rfl ?_ ?_
            · refine o_q rfl (by kernel_rfl) (by kernel_rfl) (pl := []) (by kernel_rfl) fun us a wz hA hv hf hw K hK => ?_
              have s103 := (slot_in hA (t := 103) (by simp) (j := 23) (by kernel_rfl)).trans (hv 23 (by kernel_rfl))
              clear hA hv
              have k0 := (hfa.out.trans hf fun _ _ h => h).cell cT (fun h => h)
              clear hf
              go_wp2
              exact hK _ _ rfl (Frm.refl _ _)
            refine owesL_cons (i' := 26) rfl ?_ ?_
            · refine o_pure rfl (by kernel_rfl) fun us a wz hA hv K hK => ?_
              have s101 := (slot_in hA (t := 101) (by simp) (j := 21) (by kernel_rfl)).trans (hv 21 (by kernel_rfl))
              have s104 := (slot_in hA (t := 104) (by simp) (j := 24) (by kernel_rfl)).trans (hv 24 (by kernel_rfl))
              clear hA hv
              go_wp2
              exact rfl
            refine owesL_cons (i' := 27) rfl ?_ ?_
            · refine o_pure rfl (by kernel_rfl) fun us a wz hA hv K hK => ?_
              have s11 := slot_out hA (t := 11) (by kernel_rfl)
              clear hA hv
              go_wp2
              exact rfl
            refine owesL_cons (i' := 28) rfl ?_ ?_
            · refine o_pure rfl (by kernel_rfl) fun us a wz hA hv K hK => ?_
              have s4 := slot_out hA (t := 4) (by kernel_rfl)
              have s106 := (slot_in hA (t := 106) (by simp) (j := 26) (by kernel_rfl)).trans (hv 26 (by kernel_rfl))
              clear hA hv
              go_wp2
              exact rfl
            refine owesL_cons (i' := 29) rfl ?_ ?_
            · refine o_q rfl (by kernel_rfl) (by kernel_rfl) (pl := []) (by kernel_rfl) fun us a wz hA hv hf hw K hK => ?_
              have s107 := (slot_in hA (t := 107) (by simp) (j := 27) (by kernel_rfl)).trans (hv 27 (by kernel_rfl))
              clear hA hv
              have k0 := (hfa.out.trans hf fun _ _ h => h).cell cW (fun h => h)
              clear hf
              go_wp2
              exact hK _ _ rfl (Frm.refl _ _)
            refine owesL_cons (i' := 30) rfl ?_ ?_
            · refine o_pure rfl (by kernel_rfl) fun us a wz hA hv K hK => ?_
              have s105 := (slot_in hA (t := 105) (by simp) (j := 25) (by kernel_rfl)).trans (hv 25 (by kernel_rfl))
              have s108 := (slot_in hA (t := 108) (by simp) (j := 28) (by kernel_rfl)).trans (hv 28 (by kernel_rfl))
              clear hA hv
              go_wp2
              exact rfl
            refine owesL_cons (i' := 31) rfl ?_ ?_
            · refine o_pure rfl (by kernel_rfl) fun us a wz hA hv K hK => ?_
              have s109 := (slot_in hA (t := 109) (by simp) (j := 29) (by kernel_rfl)).trans (hv 29 (by kernel_rfl))
              clear hA hv
              go_wp2
              exact rfl
            exact owesL_nil
          case hV => exact Stabs.vt (.cons (stab_is _ _) (.cons (stab_is _ _) (.cons (stab_is _ _) (.cons (stab_is _ _) (.cons (stab_is _ _) (.cons (stab_is _ _) (.cons (stab_is _ _) (.cons (stab_is _ _) (.cons (stab_is _ _) (.cons (stab_is _ _) (.cons (stab_is _ _) (.cons (stab_is _ _) (.cons (stab_is _ _) (.cons (stab_is _ _) (.cons (stab_is _ _) (.cons (stab_is _ _) (.cons (stab_is _ _) (.cons (stab_is _ _) (.cons (stab_is _ _) (.cons (stab_is _ _) (.cons (stab_is _ _) (.cons (stab_is _ _) (.cons (stab_is _ _) (.cons (stab_is _ _) (.cons (stab_is _ _) (.cons (stab_is _ _) (.cons (stab_is _ _) (.cons (stab_is _ _) (.cons (stab_is _ _) (.cons (stab_is _ _) (.cons (stab_is _ _) (.nil))))))))))))))))))))))))))))))))
          case hW => exact StabWs.wt (.cons (fun _ _ _ h _ => h) (.nil))
          case h0 =>
            trivial
          intro usb wb hvb hwb hfb
          have qb0 : usb 0 = _ := hvb 0 (by decide)
          have qb1 : usb 1 = _ := hvb 1 (by decide)
          have qb2 : usb 2 = _ := hvb 2 (by decide)
          have qb3 : usb 3 = _ := hvb 3 (by decide)
          have qb4 : usb 4 = _ := hvb 4 (by decide)
          have qb5 : usb 5 = _ := hvb 5 (by decide)
          have qb6 : usb 6 = _ := hvb 6 (by decide)
          have qb7 : usb 7 = _ := hvb 7 (by decide)
          have qb8 : usb 8 = _ := hvb 8 (by decide)
          have qb9 : usb 9 = _ := hvb 9 (by decide)
          have qb10 : usb 10 = _ := hvb 10 (by decide)
          have qb11 : usb 11 = _ := hvb 11 (by decide)
          have qb12 : usb 12 = _ := hvb 12 (by decide)
          have qb13 : usb 13 = _ := hvb 13 (by decide)
          have qb14 : usb 14 = _ := hvb 14 (by decide)
          have qb15 : usb 15 = _ := hvb 15 (by decide)
          have qb16 : usb 16 = _ := hvb 16 (by decide)
          have qb17 : usb 17 = _ := hvb 17 (by decide)
          have qb18 : usb 18 = _ := hvb 18 (by decide)
          have qb19 : usb 19 = _ := hvb 19 (by decide)
          have qb20 : usb 20 = _ := hvb 20 (by decide)
          have qb21 : usb 21 = _ := hvb 21 (by decide)
          have qb22 : usb 22 = _ := hvb 22 (by decide)
          have qb23 : usb 23 = _ := hvb 23 (by decide)
          have qb24 : usb 24 = _ := hvb 24 (by decide)
          have qb25 : usb 25 = _ := hvb 25 (by decide)
          have qb26 : usb 26 = _ := hvb 26 (by decide)
          have qb27 : usb 27 = _ := hvb 27 (by decide)
          have qb28 : usb 28 = _ := hvb 28 (by decide)
          have qb29 : usb 29 = _ := hvb 29 (by decide)
          have qb30 : usb 30 = _ := hvb 30 (by decide)
          rw [fill_all (ds := [some 80, some 81, some 82, some 83, some 84, some 85, some 86, some 87, some 88, some 89, some 90, some 91, some 92, some 93, some 94, some 95, some 96, some 97, some 98, some 99, some 100, some 101, some 102, some 103, some 104, some 105, some 106, some 107, some 108, some 109, some 14]) (by kernel_rfl)]
          simp only [putAll, Act.put, List.setIfInBounds_toArray, List.set_cons_succ, List.set_cons_zero, Nat.reduceAdd, qb0, qb1, qb2, qb3, qb4, qb5, qb6, qb7, qb8, qb9, qb10, qb11, qb12, qb13, qb14, qb15, qb16, qb17, qb18, qb19, qb20, qb21, qb22, qb23, qb24, qb25, qb26, qb27, qb28, qb29, qb30]
          clear hvb qb0 qb1 qb2 qb3 qb4 qb5 qb6 qb7 qb8 qb9 qb10 qb11 qb12 qb13 qb14 qb15 qb16 qb17 qb18 qb19 qb20 qb21 qb22 qb23 qb24 qb25 qb26 qb27 qb28 qb29 qb30
          have hfb := Lib.hid ((hfa.out.trans hfb fun _ _ h => h).drew)
          clear hfa
          go_wp2
          apply wp_region_typed (fun _ => False) (nf [1, 3, 6, 10, 14, 18, 20]) [] (vt [(Is _), (Is _), (Is _), (Is _), (Is _), (Is _), (Is _), (Is _), (Is _), (Is _), (Is _), (Is _), (Is _), (Is _), (Is _), (Is _), (Is _), (Is _), (Is _), (Is _), (Is _), (Is _), (Is _), (Is _), (Is _)]) (wt [(fun _ _ => True)]) (by kernel_rfl) (by kernel_rfl) (by kernel_rfl) (by kernel_rfl) (hop := owesL_all ?hop)
          case hop =>
            refine owesL_cons (i' := 1) rfl ?_ ?_
            · refine o_pure rfl (by kernel_rfl) fun us a wz hA hv K hK => ?_
              have s12 := slot_out hA (t := 12) (by kernel_rfl)
              clear hA hv
              go_wp2
              exact rfl
            refine owesL_cons (i' := 2) rfl ?_ ?_
            · refine o_q rfl (by kernel_rfl) (by kernel_rfl) (pl := []) (by kernel_rfl) fun us a wz hA hv hf hw K hK => ?_
              have s110 := (slot_in hA (t := 110) (by simp) (j := 0) (by kernel_rfl)).trans (hv 0 (by kernel_rfl))
              clear hA hv
              clear hf
              go_wp2_with fail
              refine (right_any _ 2 30 _ (by kernel_rfl) (by decide) (by decide)).mono ?_
              rintro e w1 ⟨rfl, hp1⟩
              exact hK _ _ rfl (Frm.of_below hp1 _)
            refine owesL_cons (i' := 3) rfl ?_ ?_
            · refine o_pure rfl (by kernel_rfl) fun us a wz hA hv K hK => ?_
              have s12 := slot_out hA (t := 12) (by kernel_rfl)
              clear hA hv
              go_wp2
              exact rfl
            refine owesL_cons (i' := 4) rfl ?_ ?_
            · refine o_q rfl (by kernel_rfl) (by kernel_rfl) (pl := []) (by kernel_rfl) fun us a wz hA hv hf hw K hK => ?_
              have s112 := (slot_in hA (t := 112) (by simp) (j := 2) (by kernel_rfl)).trans (hv 2 (by kernel_rfl))
              clear hA hv
              clear hf
              go_wp2_with fail
              refine (right_any _ 13 19 _ (by kernel_rfl) (by decide) (by decide)).mono ?_
              rintro e w1 ⟨rfl, hp1⟩
              exact hK _ _ rfl (Frm.of_below hp1 _)
            refine owesL_cons (i' := 5) rfl ?_ ?_
            · refine o_pure rfl (by kernel_rfl) fun us a wz hA hv K hK => ?_
              have s111 := (slot_in hA (t := 111) (by simp) (j := 1) (by kernel_rfl)).trans (hv 1 (by kernel_rfl))
              have s113 := (slot_in hA (t := 113) (by simp) (j := 3) (by kernel_rfl)).trans (hv 3 (by kernel_rfl))
              clear hA hv
              go_wp2
              exact rfl
            refine owesL_cons (i' := 6) rfl ?_ ?_
            · refine o_pure rfl (by kernel_rfl) fun us a wz hA hv K hK => ?_
              have s12 := slot_out hA (t := 12) (by kernel_rfl)
              clear hA hv
              go_wp2
              exact rfl
            refine owesL_cons (i' := 7) rfl ?_ ?_
            · refine o_q rfl (by kernel_rfl) (by kernel_rfl) (pl := []) (by kernel_rfl) fun us a wz hA hv hf hw K hK => ?_
              have s115 := (slot_in hA (t := 115) (by simp) (j := 5) (by kernel_rfl)).trans (hv 5 (by kernel_rfl))
              clear hA hv
              clear hf
              go_wp2_with fail
              refine (right_any _ 22 10 _ (by kernel_rfl) (by decide) (by decide)).mono ?_
              rintro e w1 ⟨rfl, hp1⟩
              exact hK _ _ rfl (Frm.of_below hp1 _)
            refine owesL_cons (i' := 8) rfl ?_ ?_
            · refine o_pure rfl (by kernel_rfl) fun us a wz hA hv K hK => ?_
              have s114 := (slot_in hA (t := 114) (by simp) (j := 4) (by kernel_rfl)).trans (hv 4 (by kernel_rfl))
              have s116 := (slot_in hA (t := 116) (by simp) (j := 6) (by kernel_rfl)).trans (hv 6 (by kernel_rfl))
              clear hA hv
              go_wp2
              exact rfl
            refine owesL_cons (i' := 9) rfl ?_ ?_
            · refine o_pure rfl (by kernel_rfl) fun us a wz hA hv K hK => ?_
              have s12 := slot_out hA (t := 12) (by kernel_rfl)
              clear hA hv
              go_wp2
              exact rfl
            refine owesL_cons (i' := 10) rfl ?_ ?_
            · refine o_pure rfl (by kernel_rfl) fun us a wz hA hv K hK => ?_
              have s10 := slot_out hA (t := 10) (by kernel_rfl)
              clear hA hv
              go_wp2
              exact rfl
            refine owesL_cons (i' := 11) rfl ?_ ?_
            · refine o_q rfl (by kernel_rfl) (by kernel_rfl) (pl := []) (by kernel_rfl) fun us a wz hA hv hf hw K hK => ?_
              have s119 := (slot_in hA (t := 119) (by simp) (j := 9) (by kernel_rfl)).trans (hv 9 (by kernel_rfl))
              clear hA hv
              have k0 := (hfb.out.trans hf fun _ _ h => h).cell c1 (fun h => h)
              clear hf
              go_wp2
              exact hK _ _ rfl (Frm.refl _ _)
            refine owesL_cons (i' := 12) rfl ?_ ?_
            · refine o_pure rfl (by kernel_rfl) fun us a wz hA hv K hK => ?_
              have s118 := (slot_in hA (t := 118) (by simp) (j := 8) (by kernel_rfl)).trans (hv 8 (by kernel_rfl))
              have s120 := (slot_in hA (t := 120) (by simp) (j := 10) (by kernel_rfl)).trans (hv 10 (by kernel_rfl))
              clear hA hv
              go_wp2
              exact rfl
            refine owesL_cons (i' := 13) rfl ?_ ?_
            · refine o_pure rfl (by kernel_rfl) fun us a wz hA hv K hK => ?_
              have s12 := slot_out hA (t := 12) (by kernel_rfl)
              clear hA hv
              go_wp2
              exact rfl
            refine owesL_cons (i' := 14) rfl ?_ ?_
            · refine o_pure rfl (by kernel_rfl) fun us a wz hA hv K hK => ?_
              have s10 := slot_out hA (t := 10) (by kernel_rfl)
              clear hA hv
              go_wp2
              exact rfl
            refine owesL_cons (i' := 15) rfl ?_ ?_
            · refine o_q rfl (by kernel_rfl) (by kernel_rfl) (pl := []) (by kernel_rfl) fun us a wz hA hv hf hw K hK => ?_
              have s123 := (slot_in hA (t := 123) (by simp) (j := 13) (by kernel_rfl)).trans (hv 13 (by kernel_rfl))
              clear hA hv
              have k0 := (hfb.out.trans hf fun _ _ h => h).cell c2 (fun h => h)
              clear hf
              go_wp2
              exact hK _ _ rfl (Frm.refl _ _)
            refine owesL_cons (i' := 16) rfl ?_ ?_
            · refine o_pure rfl (by kernel_rfl) fun us a wz hA hv K hK => ?_
              have s122 := (slot_in hA (t := 122) (by simp) (j := 12) (by kernel_rfl)).trans (hv 12 (by kernel_rfl))
              have s124 := (slot_in hA (t := 124) (by simp) (j := 14) (by kernel_rfl)).trans (hv 14 (by kernel_rfl))
              clear hA hv
              go_wp2
              exact rfl
            refine owesL_cons (i' := 17) rfl ?_ ?_
            · refine o_pure rfl (by kernel_rfl) fun us a wz hA hv K hK => ?_
              have s121 := (slot_in hA (t := 121) (by simp) (j := 11) (by kernel_rfl)).trans (hv 11 (by kernel_rfl))
              have s125 := (slot_in hA (t := 125) (by simp) (j := 15) (by kernel_rfl)).trans (hv 15 (by kernel_rfl))
              clear hA hv
              go_wp2
              exact rfl
            refine owesL_cons (i' := 18) rfl ?_ ?_
            · refine o_pure rfl (by kernel_rfl) fun us a wz hA hv K hK => ?_
              have s10 := slot_out hA (t := 10) (by kernel_rfl)
              clear hA hv
              go_wp2
              exact rfl
            refine owesL_cons (i' := 19) rfl ?_ ?_
            · refine o_q rfl (by kernel_rfl) (by kernel_rfl) (pl := []) (by kernel_rfl) fun us a wz hA hv hf hw K hK => ?_
              have s127 := (slot_in hA (t := 127) (by simp) (j := 17) (by kernel_rfl)).trans (hv 17 (by kernel_rfl))
              clear hA hv
              have k0 := (hfb.out.trans hf fun _ _ h => h).cell c1 (fun h => h)
              clear hf
              go_wp2
              exact hK _ _ rfl (Frm.refl _ _)
            refine owesL_cons (i' := 20) rfl ?_ ?_
            · refine o_pure rfl (by kernel_rfl) fun us a wz hA hv K hK => ?_
              have s10 := slot_out hA (t := 10) (by kernel_rfl)
              clear hA hv
              go_wp2
              exact rfl
            refine owesL_cons (i' := 21) rfl ?_ ?_
            · refine o_q rfl (by kernel_rfl) (by kernel_rfl) (pl := []) (by kernel_rfl) fun us a wz hA hv hf hw K hK => ?_
              have s129 := (slot_in hA (t := 129) (by simp) (j := 19) (by kernel_rfl)).trans (hv 19 (by kernel_rfl))
              clear hA hv
              have k0 := (hfb.out.trans hf fun _ _ h => h).cell c2 (fun h => h)
              clear hf
              go_wp2
              exact hK _ _ rfl (Frm.refl _ _)
            refine owesL_cons (i' := 22) rfl ?_ ?_
            · refine o_pure rfl (by kernel_rfl) fun us a wz hA hv K hK => ?_
              have s128 := (slot_in hA (t := 128) (by simp) (j := 18) (by kernel_rfl)).trans (hv 18 (by kernel_rfl))
              have s130 := (slot_in hA (t := 130) (by simp) (j := 20) (by kernel_rfl)).trans (hv 20 (by kernel_rfl))
              clear hA hv
              go_wp2
              exact rfl
            refine owesL_cons (i' := 23) rfl ?_ ?_
            · refine o_pure rfl (by kernel_rfl) fun us a wz hA hv K hK => ?_
              have s126 := (slot_in hA (t := 126) (by simp) (j := 16) (by kernel_rfl)).trans (hv 16 (by kernel_rfl))
              have s131 := (slot_in hA (t := 131) (by simp) (j := 21) (by kernel_rfl)).trans (hv 21 (by kernel_rfl))
              clear hA hv
              go_wp2
              exact rfl
            refine owesL_cons (i' := 24) rfl ?_ ?_
            · refine o_pure rfl (by kernel_rfl) fun us a wz hA hv K hK => ?_
              have s117 := (slot_in hA (t := 117) (by simp) (j := 7) (by kernel_rfl)).trans (hv 7 (by kernel_rfl))
              have s132 := (slot_in hA (t := 132) (by simp) (j := 22) (by kernel_rfl)).trans (hv 22 (by kernel_rfl))
              clear hA hv
              go_wp2
              exact rfl
            refine owesL_cons (i' := 25) rfl ?_ ?_
            · refine o_pure rfl (by kernel_rfl) fun us a wz hA hv K hK => ?_
              have s133 := (slot_in hA (t := 133) (by simp) (j := 23) (by kernel_rfl)).trans (hv 23 (by kernel_rfl))
              clear hA hv
              go_wp2
              exact rfl
            exact owesL_nil
          case hV => exact Stabs.vt (.cons (stab_is _ _) (.cons (stab_is _ _) (.cons (stab_is _ _) (.cons (stab_is _ _) (.cons (stab_is _ _) (.cons (stab_is _ _) (.cons (stab_is _ _) (.cons (stab_is _ _) (.cons (stab_is _ _) (.cons (stab_is _ _) (.cons (stab_is _ _) (.cons (stab_is _ _) (.cons (stab_is _ _) (.cons (stab_is _ _) (.cons (stab_is _ _) (.cons (stab_is _ _) (.cons (stab_is _ _) (.cons (stab_is _ _) (.cons (stab_is _ _) (.cons (stab_is _ _) (.cons (stab_is _ _) (.cons (stab_is _ _) (.cons (stab_is _ _) (.cons (stab_is _ _) (.cons (stab_is _ _) (.nil))))))))))))))))))))))))))
          case hW => exact StabWs.wt (.cons (fun _ _ _ h _ => h) (.nil))
          case h0 =>
            trivial
          intro usc wc hvc hwc hfc
          have qc0 : usc 0 = _ := hvc 0 (by decide)
          have qc1 : usc 1 = _ := hvc 1 (by decide)
          have qc2 : usc 2 = _ := hvc 2 (by decide)
          have qc3 : usc 3 = _ := hvc 3 (by decide)
          have qc4 : usc 4 = _ := hvc 4 (by decide)
          have qc5 : usc 5 = _ := hvc 5 (by decide)
          have qc6 : usc 6 = _ := hvc 6 (by decide)
          have qc7 : usc 7 = _ := hvc 7 (by decide)
          have qc8 : usc 8 = _ := hvc 8 (by decide)
          have qc9 : usc 9 = _ := hvc 9 (by decide)
          have qc10 : usc 10 = _ := hvc 10 (by decide)
          have qc11 : usc 11 = _ := hvc 11 (by decide)
          have qc12 : usc 12 = _ := hvc 12 (by decide)
          have qc13 : usc 13 = _ := hvc 13 (by decide)
          have qc14 : usc 14 = _ := hvc 14 (by decide)
          have qc15 : usc 15 = _ := hvc 15 (by decide)
          have qc16 : usc 16 = _ := hvc 16 (by decide)
          have qc17 : usc 17 = _ := hvc 17 (by decide)
          have qc18 : usc 18 = _ := hvc 18 (by decide)
          have qc19 : usc 19 = _ := hvc 19 (by decide)
          have qc20 : usc 20 = _ := hvc 20 (by decide)
          have qc21 : usc 21 = _ := hvc 21 (by decide)
          have qc22 : usc 22 = _ := hvc 22 (by decide)
          have qc23 : usc 23 = _ := hvc 23 (by decide)
          have qc24 : usc 24 = _ := hvc 24 (by decide)
          rw [fill_all (ds := [some 110, some 111, some 112, some 113, some 114, some 115, some 116, some 117, some 118, some 119, some 120, some 121, some 122, some 123, some 124, some 125, some 126, some 127, some 128, some 129, some 130, some 131, some 132, some 133, some 15]) (by kernel_rfl)]
          simp only [putAll, Act.put, List.setIfInBounds_toArray, List.set_cons_succ, List.set_cons_zero, Nat.reduceAdd, qc0, qc1, qc2, qc3, qc4, qc5, qc6, qc7, qc8, qc9, qc10, qc11, qc12, qc13, qc14, qc15, qc16, qc17, qc18, qc19, qc20, qc21, qc22, qc23, qc24]
          clear hvc qc0 qc1 qc2 qc3 qc4 qc5 qc6 qc7 qc8 qc9 qc10 qc11 qc12 qc13 qc14 qc15 qc16 qc17 qc18 qc19 qc20 qc21 qc22 qc23 qc24
          have hfc := Lib.hid ((hfb.out.trans hfc fun _ _ h => h).drew)
          clear hfb
          have hb3 := Lib.hid (hb2.out.frm hfc.out fun h => h)
          go_wp2
          apply wp_region_typed (fun k => k = w0.heap.size) (nf [2]) [2] (vt [(Is _), (Is _), (fun _ _ => True)]) (wt [(fun _ w' => Blk w' w0.heap.size 106 (nums .u32 [s0, s1, s2, s3, s4, s5, s6, s7])), (fun _ w' => Blk w' w0.heap.size 106 (nums .u32 [s0, s0, s1, s2, s3, s4, s5, s6]))]) (by kernel_rfl) (by kernel_rfl) (by kernel_rfl) (by kernel_rfl) (hop := owesL_all ?hop)
          case hop =>
            refine owesL_cons (i' := 1) rfl ?_ ?_
            · refine o_pure rfl (by kernel_rfl) fun us a wz hA hv K hK => ?_
              have s10 := slot_out hA (t := 10) (by kernel_rfl)
              clear hA hv
              go_wp2
              exact rfl
            refine owesL_cons (i' := 2) rfl ?_ ?_
            · refine o_pure rfl (by kernel_rfl) fun us a wz hA hv K hK => ?_
              have s10 := slot_out hA (t := 10) (by kernel_rfl)
              clear hA hv
              go_wp2
              exact rfl
            refine owesL_cons (i' := 3) rfl ?_ ?_
            · refine o_p rfl (by kernel_rfl) (by kernel_rfl) (pl := []) (by kernel_rfl) fun us a wz hA hv hf hw K hK => ?_
              have s134 := (slot_in hA (t := 134) (by simp) (j := 0) (by kernel_rfl)).trans (hv 0 (by kernel_rfl))
              have s135 := (slot_in hA (t := 135) (by simp) (j := 1) (by kernel_rfl)).trans (hv 1 (by kernel_rfl))
              replace hw : ((fun _ w' => Blk w' w0.heap.size 106 (nums .u32 [s0, s1, s2, s3, s4, s5, s6, s7])) : List Value → World → Prop) [] wz := hw
              clear hA hv
              refine wp_copy (cs := nums .u32 [s0, s1, s2, s3, s4, s5, s6]) 121 105 Tryd.underlying121 (by kernel_rfl) rfl (ev s134) (ev s135) rfl (hw.sub 0 fun j hj => ?_) (hw.there' 1 7 (by simp [nums])) nums_one ?_
              · have : j = 0 ∨ j = 1 ∨ j = 2 ∨ j = 3 ∨ j = 4 ∨ j = 5 ∨ j = 6 := by simp [nums] at hj; omega
                rcases this with rfl | rfl | rfl | rfl | rfl | rfl | rfl <;> rfl
              · exact hK _ _ trivial (hw.setCells (o := 1) (by simp [nums])) ((Frm.refl (fun k => k = w0.heap.size) wz).setCells (fun _ => rfl) 1 _)
            exact owesL_nil
          case hV => exact Stabs.vt (.cons (stab_is _ _) (.cons (stab_is _ _) (.cons (stab_true _) (.nil))))
          case hW =>
            exact StabWs.wt (.cons (fun _ _ _ h hf => h.frm hf fun h => h) (.cons (fun _ _ _ h hf => h.frm hf fun h => h) .nil))
          case h0 =>
            exact hb3.out
          intro usd wd hvd hwd hfd
          have qd0 : usd 0 = _ := hvd 0 (by decide)
          have qd1 : usd 1 = _ := hvd 1 (by decide)
          have qd2 : ((fun _ _ => True) : Value → World → Prop) (usd 2) wd := hvd 2 (by decide)
          replace hwd : ((fun _ w' => Blk w' w0.heap.size 106 (nums .u32 [s0, s0, s1, s2, s3, s4, s5, s6])) : List Value → World → Prop) [usd 2] wd := hwd
          rw [fill_all (ds := [some 134, some 135, some 136]) (by kernel_rfl)]
          simp only [putAll, Act.put, List.setIfInBounds_toArray, List.set_cons_succ, List.set_cons_zero, Nat.reduceAdd, qd0, qd1]
          clear hvd qd0 qd1
          have z4 := hwd.frozen 4
          have z0 := hwd.frozen 0
          have c4' := hwd.num (i := 4) (by simp)
          have c0' := hwd.num (i := 0) (by simp)
          simp only [List.getD_cons_zero, List.getD_cons_succ] at c0' c4'
          have hwd := Lib.hid hwd
          have hfd := Lib.hid hfd
          go_wp2
          go_roundw
          case rel =>
            refine ⟨k + 1, by omega, by go_num, ?_, ?_⟩
            · rw [mixes, ← hss.out, h8.out, ← hkt.out, ← hwt.out]
              exact (hwd.out.set_ 4 _).set_ 0 _
            · exact ((((hf2.out.trans hfc.out fun _ _ h => h.elim).trans hfd.out fun _ _ h => h).setCell (p := ⟨w0.heap.size, 4, none⟩) (fun _ => rfl) _).setCell (p := ⟨w0.heap.size, 0, none⟩) (fun _ => rfl) _)
          case measure => simp [intOf]; omega
        · have hk' : k = 64 := by omega
          subst hk'
          obtain ⟨w1, hw1⟩ : ∃ w1, w1 = wr := ⟨_, rfl⟩
          subst hw1
          rw [← h8] at hb2
          clear h8
          replace hss := Lib.hid hss
          replace hws := Lib.hid hws
          have hgB : g ≠ w0.heap.size := by have := hd.out.lt; omega
          have hf3 : Frm (fun _ => False) w w1 := hfw.out.trans hf2 fun b hb h => by omega
          have hd3 := hd.out.frm hf3 fun h => h
          have hf3 := Lib.hid hf3
          have hf2 := Lib.hid hf2
          have hb2 := Lib.hid hb2
          go_wp2
          go_loopw [147] (fun i wv => ∃ k : Nat, k ≤ 8 ∧ i = .int .i64 k ∧ Blk wv g 108 (nums .u32 (addUp st ss k) ++ [rest, len]) ∧ Frm (fun k => k = g) w1 wv) (fun i _ => 8 - (intOf i).toNat)
          case atStart => exact ⟨0, by omega, rfl, hd3, Frm.refl _ _⟩
          case round =>
            obtain ⟨k, hk, rfl, hd4, hf4⟩ := hrel
            have hal := addUp_length st ss k
            by_cases hlt : k < 8
            · have hlt' : (k : Int) < 8 := by omega
              have hd4 := Lib.hid hd4
              have hf4 := Lib.hid hf4
              obtain ⟨sa, hsa⟩ : ∃ sa, sa = (addUp st ss k)[k]?.getD 0 := ⟨_, rfl⟩
              obtain ⟨sb, hsb⟩ : ∃ sb, sb = ss[k]?.getD 0 := ⟨_, rfl⟩
              have cs : wr.cell? ⟨w0.heap.size, k, none⟩ = some (.int .u32 sb) := by rw [hsb]; exact (hb2.out.frm hf4.out (fun h => hgB h.symm)).num (i := k) (by omega)
              replace hsa := Lib.hid hsa
              replace hsb := Lib.hid hsb
              go_wp2
              apply wp_region_typed (fun k => k = g) (nf [5, 8, 13]) [13] (vt [(Is _), (Is _), (Is _), (Is _), (Is _), (Is _), (Is _), (Is _), (Is _), (Is _), (Is _), (Is _), (Is _), (fun _ _ => True)]) (wt [(fun _ w' => Blk w' g 108 (nums .u32 (addUp st ss k) ++ [rest, len])), (fun _ w' => Blk w' g 108 (nums .u32 (addUp st ss (k + 1)) ++ [rest, len]))]) (by kernel_rfl) (by kernel_rfl) (by kernel_rfl) (by kernel_rfl) (hop := owesL_all ?hop)
              case hop =>
                refine owesL_cons (i' := 1) rfl ?_ ?_
                · refine o_pure rfl (by kernel_rfl) fun us a wz hA hv K hK => ?_
                  have s0 := slot_out hA (t := 0) (by kernel_rfl)
                  clear hA hv
                  go_wp2
                  exact rfl
                refine owesL_cons (i' := 2) rfl ?_ ?_
                · refine o_pure rfl (by kernel_rfl) fun us a wz hA hv K hK => ?_
                  have s16 := slot_out hA (t := 16) (by kernel_rfl)
                  clear hA hv
                  go_wp2
                  exact rfl
                refine owesL_cons (i' := 3) rfl ?_ ?_
                · refine o_pure rfl (by kernel_rfl) fun us a wz hA hv K hK => ?_
                  have s150 := (slot_in hA (t := 150) (by simp) (j := 0) (by kernel_rfl)).trans (hv 0 (by kernel_rfl))
                  clear hA hv
                  go_wp2
                  exact rfl
                refine owesL_cons (i' := 4) rfl ?_ ?_
                · refine o_pure rfl (by kernel_rfl) fun us a wz hA hv K hK => ?_
                  have s152 := (slot_in hA (t := 152) (by simp) (j := 2) (by kernel_rfl)).trans (hv 2 (by kernel_rfl))
                  clear hA hv
                  go_wp2
                  exact rfl
                refine owesL_cons (i' := 5) rfl ?_ ?_
                · refine o_pure rfl (by kernel_rfl) fun us a wz hA hv K hK => ?_
                  have s153 := (slot_in hA (t := 153) (by simp) (j := 3) (by kernel_rfl)).trans (hv 3 (by kernel_rfl))
                  have s151 := (slot_in hA (t := 151) (by simp) (j := 1) (by kernel_rfl)).trans (hv 1 (by kernel_rfl))
                  clear hA hv
                  go_wp2
                  exact rfl
                refine owesL_cons (i' := 6) rfl ?_ ?_
                · refine o_q rfl (by kernel_rfl) (by kernel_rfl) (pl := []) (by kernel_rfl) fun us a wz hA hv hf hw K hK => ?_
                  have s154 := (slot_in hA (t := 154) (by simp) (j := 4) (by kernel_rfl)).trans (hv 4 (by kernel_rfl))
                  replace hw : ((fun _ w' => Blk w' g 108 (nums .u32 (addUp st ss k) ++ [rest, len])) : List Value → World → Prop) [] wz := hw
                  clear hA hv
                  have k0 : wz.cell? ⟨g, k, none⟩ = some (.int .u32 sa) := by rw [hsa.out]; exact hw.num2 (i := k) (by omega)
                  clear hw hf
                  go_wp2
                  exact hK _ _ rfl (Frm.refl _ _)
                refine owesL_cons (i' := 7) rfl ?_ ?_
                · refine o_pure rfl (by kernel_rfl) fun us a wz hA hv K hK => ?_
                  have s16 := slot_out hA (t := 16) (by kernel_rfl)
                  clear hA hv
                  go_wp2
                  exact rfl
                refine owesL_cons (i' := 8) rfl ?_ ?_
                · refine o_pure rfl (by kernel_rfl) fun us a wz hA hv K hK => ?_
                  have s10 := slot_out hA (t := 10) (by kernel_rfl)
                  have s156 := (slot_in hA (t := 156) (by simp) (j := 6) (by kernel_rfl)).trans (hv 6 (by kernel_rfl))
                  clear hA hv
                  go_wp2
                  exact rfl
                refine owesL_cons (i' := 9) rfl ?_ ?_
                · refine o_q rfl (by kernel_rfl) (by kernel_rfl) (pl := []) (by kernel_rfl) fun us a wz hA hv hf hw K hK => ?_
                  have s157 := (slot_in hA (t := 157) (by simp) (j := 7) (by kernel_rfl)).trans (hv 7 (by kernel_rfl))
                  replace hw : ((fun _ w' => Blk w' g 108 (nums .u32 (addUp st ss k) ++ [rest, len])) : List Value → World → Prop) [] wz := hw
                  clear hA hv
                  have k0 := hf.cell cs (fun h => hgB h.symm)
                  clear hw hf
                  go_wp2
                  exact hK _ _ rfl (Frm.refl _ _)
                refine owesL_cons (i' := 10) rfl ?_ ?_
                · refine o_pure rfl (by kernel_rfl) fun us a wz hA hv K hK => ?_
                  have s155 := (slot_in hA (t := 155) (by simp) (j := 5) (by kernel_rfl)).trans (hv 5 (by kernel_rfl))
                  have s158 := (slot_in hA (t := 158) (by simp) (j := 8) (by kernel_rfl)).trans (hv 8 (by kernel_rfl))
                  clear hA hv
                  go_wp2
                  exact rfl
                refine owesL_cons (i' := 11) rfl ?_ ?_
                · refine o_pure rfl (by kernel_rfl) fun us a wz hA hv K hK => ?_
                  have s150 := (slot_in hA (t := 150) (by simp) (j := 0) (by kernel_rfl)).trans (hv 0 (by kernel_rfl))
                  clear hA hv
                  go_wp2
                  exact rfl
                refine owesL_cons (i' := 12) rfl ?_ ?_
                · refine o_pure rfl (by kernel_rfl) fun us a wz hA hv K hK => ?_
                  have s160 := (slot_in hA (t := 160) (by simp) (j := 10) (by kernel_rfl)).trans (hv 10 (by kernel_rfl))
                  clear hA hv
                  go_wp2
                  exact rfl
                refine owesL_cons (i' := 13) rfl ?_ ?_
                · refine o_pure rfl (by kernel_rfl) fun us a wz hA hv K hK => ?_
                  have s161 := (slot_in hA (t := 161) (by simp) (j := 11) (by kernel_rfl)).trans (hv 11 (by kernel_rfl))
                  have s151 := (slot_in hA (t := 151) (by simp) (j := 1) (by kernel_rfl)).trans (hv 1 (by kernel_rfl))
                  clear hA hv
                  go_wp2
                  exact rfl
                refine owesL_cons (i' := 14) rfl ?_ ?_
                · refine o_p rfl (by kernel_rfl) (by kernel_rfl) (pl := []) (by kernel_rfl) fun us a wz hA hv hf hw K hK => ?_
                  have s162 := (slot_in hA (t := 162) (by simp) (j := 12) (by kernel_rfl)).trans (hv 12 (by kernel_rfl))
                  have s159 := (slot_in hA (t := 159) (by simp) (j := 9) (by kernel_rfl)).trans (hv 9 (by kernel_rfl))
                  replace hw : ((fun _ w' => Blk w' g 108 (nums .u32 (addUp st ss k) ++ [rest, len])) : List Value → World → Prop) [] wz := hw
                  clear hA hv
                  have k0 := hw.num2 (i := k) (by omega)
                  have z0 := hw.frozen k
                  have hw := Lib.hid hw
                  clear hf
                  go_wp2
                  refine hK undef _ trivial ?_ ((Frm.refl (fun k => k = g) wz).setCell (p := ⟨g, k, none⟩) (fun _ => rfl) _)
                  have hb5 := hw.out.set_ k (.int .u32 ((sa + sb) % 4294967296))
                  rw [List.set_append_left _ _ (by rw [nums_length]; omega), nums_set] at hb5
                  rw [addUp, ← hsa.out, ← hsb.out]
                  exact hb5
                exact owesL_nil
              case hV => exact Stabs.vt (.cons (stab_is _ _) (.cons (stab_is _ _) (.cons (stab_is _ _) (.cons (stab_is _ _) (.cons (stab_is _ _) (.cons (stab_is _ _) (.cons (stab_is _ _) (.cons (stab_is _ _) (.cons (stab_is _ _) (.cons (stab_is _ _) (.cons (stab_is _ _) (.cons (stab_is _ _) (.cons (stab_is _ _) (.cons (stab_true _) (.nil)))))))))))))))
              case hW =>
                exact StabWs.wt (.cons (fun _ _ _ h hf => h.frm hf fun h => h) (.cons (fun _ _ _ h hf => h.frm hf fun h => h) .nil))
              case h0 =>
                exact hd4.out
              intro use we hve hwe hfe
              have qe0 : use 0 = _ := hve 0 (by decide)
              have qe1 : use 1 = _ := hve 1 (by decide)
              have qe2 : use 2 = _ := hve 2 (by decide)
              have qe3 : use 3 = _ := hve 3 (by decide)
              have qe4 : use 4 = _ := hve 4 (by decide)
              have qe5 : use 5 = _ := hve 5 (by decide)
              have qe6 : use 6 = _ := hve 6 (by decide)
              have qe7 : use 7 = _ := hve 7 (by decide)
              have qe8 : use 8 = _ := hve 8 (by decide)
              have qe9 : use 9 = _ := hve 9 (by decide)
              have qe10 : use 10 = _ := hve 10 (by decide)
              have qe11 : use 11 = _ := hve 11 (by decide)
              have qe12 : use 12 = _ := hve 12 (by decide)
              replace hwe : ((fun _ w' => Blk w' g 108 (nums .u32 (addUp st ss (k + 1)) ++ [rest, len])) : List Value → World → Prop) [use 13] we := hwe
              rw [fill_all (ds := [some 150, some 151, some 152, some 153, some 154, some 155, some 156, some 157, some 158, some 159, some 160, some 161, some 162, none]) (by kernel_rfl)]
              simp only [putAll, Act.put, List.setIfInBounds_toArray, List.set_cons_succ, List.set_cons_zero, Nat.reduceAdd, qe0, qe1, qe2, qe3, qe4, qe5, qe6, qe7, qe8, qe9, qe10, qe11, qe12]
              clear hve qe0 qe1 qe2 qe3 qe4 qe5 qe6 qe7 qe8 qe9 qe10 qe11 qe12
              go_wp2
              go_roundw
              case rel => exact ⟨k + 1, by omega, by go_num, hwe, hf4.out.drew.trans hfe fun _ _ h => h⟩
              case measure => simp [intOf]; omega
            · have hk' : k = 8 := by omega
              subst hk'
              have hd4 := Lib.hid hd4
              have hf4 := Lib.hid hf4
              go_wp2
              go_end0
              refine ⟨rfl, (hf3.out.mono fun _ _ h => h.elim).trans hf4.out fun _ _ h => h, ?_⟩
              rw [blockF, ← hws.out, ← hss.out]
              exact hd4.out
