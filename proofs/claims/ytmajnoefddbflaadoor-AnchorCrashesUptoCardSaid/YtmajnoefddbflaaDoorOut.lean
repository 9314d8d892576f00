/- wire.Out: what its methods put behind its bytes. -/
import Derived.Test.YtmajnoefddbflaaDoorLb
import Derived.Test.YtmajnoefddbflaaDoorProg
import Derived.Test.YtmajnoefddbflaaDoorL4
import Derived.Test.YtmajnoefddbflaaDoorClo
import Derived.WalkKit
import Derived.WalkSpells
import Derived.StillTactics
import Derived.Laws.Pointers
import Derived.Lib.Hide
import Derived.Lib.ConvBytes
import Derived.KernelRfl
namespace Go.Proofs.YtmajnoefddbflaaDoor
open Go.RowKit

/-- a number in so many bytes, the highest first -/
def be (n : Int) (size : Nat) : List Int := (List.range size).map fun i => (n / 2 ^ (8 * (size - 1 - i))) % 256
theorem be_snoc (n : Int) (size k : Nat) (h : k < size) : (be n size).take (k + 1) = (be n size).take k ++ [(n / 2 ^ (8 * (size - 1 - k))) % 256] := by
  rw [List.take_succ_eq_append_getElem (by simpa [be] using h)]
  simp [be]
theorem be_length (n : Int) (size : Nat) : (be n size).length = size := by simp [be]

/-- wire.Out at block g: its slice owns the bytes xs -/
structure OutV (w : World) (g : Nat) (A : Option Addr) (N c : Nat) (xs : List Int) : Prop where
  blk : Blk w g 96 [.slice A N c]
  own : Own w 5 1 A N c (nums .u8 xs)
theorem OutV.len {w : World} {g : Nat} {A : Option Addr} {N c : Nat} {xs : List Int} (h : OutV w g A N c xs) : N = xs.length := by
  have := h.own.len; rw [nums_length] at this; omega
/-- what a method of Out may touch -/
def OutF (g : Nat) (A : Option Addr) : Nat → Prop := fun k => k = g ∨ bl A = some k
theorem OutV.ne {w : World} {g : Nat} {A : Option Addr} {N c : Nat} {xs : List Int} (h : OutV w g A N c xs) : bl A ≠ some g := h.own.ne_blk h.blk (by decide)
theorem OutV.frm {w w' : World} {F : Nat → Prop} {g : Nat} {A : Option Addr} {N c : Nat} {xs : List Int} (h : OutV w g A N c xs) (hf : Frm F w w') (hF : ∀ k, OutF g A k → ¬ F k) : OutV w' g A N c xs :=
  ⟨h.blk.frm hf (hF g (.inl rfl)), h.own.frm hf (fun b hb => hF b (.inr hb))⟩
/-- what a method of Out leaves: the same block, with more bytes; its row is the old one, or new -/
def OutPost (w w' : World) (g : Nat) (A : Option Addr) (xs : List Int) : Prop :=
  ∃ A' N' c', OutV w' g A' N' c' xs ∧ Frm (OutF g A) w w' ∧ (bl A' = bl A ∨ ∃ b, bl A' = some b ∧ w.heap.size ≤ b)

set_option maxRecDepth 100000 in
set_option maxHeartbeats 800000 in
theorem number_any (g : Nat) (A : Option Addr) (N c : Nat) (xs : List Int) (n : Int) (size : Nat) (hs : size ≤ 8) (w : World) (ho : OutV w g A N c xs) (hl : xs.length ≤ 1099511627776) :
    Calls Tryd.prog 62 #[.pointer (some ⟨g, 0, none⟩), .int .i64 n, .int .i64 size] w fun e w' => e = .returned (.tuple #[]) ∧ OutPost w w' g A (xs ++ be n size) := by
  have hs' : (size : Int) ≤ 8 := by omega
  have hs0 : (0 : Int) ≤ size := by omega
  go_enter Tryd.func62, Tryd.ntmps62
  go_wp2
  go_loopw [6, 8, 10] (fun _ i _ wr => ∃ k : Nat, k ≤ size ∧ i = .int .i64 k ∧ OutPost w wr g A (xs ++ (be n size).take k)) (fun _ i _ _ => size - (intOf i).toNat)
  case atStart => exact ⟨0, Nat.zero_le _, rfl, A, N, c, by simpa using ho, Frm.refl _ _, .inl rfl⟩
  case round =>
    obtain ⟨k, hk, rfl, A1, N1, c1, ho1, hf1, hv1⟩ := hrel
    obtain ⟨ys, hys⟩ : ∃ ys, ys = xs ++ (be n size).take k := ⟨_, rfl⟩
    rw [← hys] at ho1
    by_cases hlt : k < size
    · have hlt' : (k : Int) < size := by omega
      have hN1 : N1 + 1 ≤ 140737488355328 := by rw [ho1.len, hys, List.length_append, List.length_take]; omega
      have H0 := Lib.hid (be_snoc n size k hlt)
      have H1 := Lib.hid hf1
      have H2 := Lib.hid hv1
      have H5 := Lib.hid ho1
      clear hf1 hv1 ho1
      go_wp2
      have e1 : IntKind.i64.wrap ((size : Int) - 1) = (size : Int) - 1 := IntWalk.i64_in _ (by omega)
      have e2 : IntKind.i64.wrap ((size : Int) - 1 - k) = (size : Int) - 1 - k := IntWalk.i64_in _ (by omega)
      have e3 : IntKind.i64.wrap (8 * ((size : Int) - 1 - k)) = 8 * ((size : Int) - 1 - k) := IntWalk.i64_in _ (by omega)
      have e4 : 0 ≤ 8 * ((size : Int) - 1 - k) := by omega
      have e5 : 8 * ((size : Int) - 1 - k) ≤ 64 := by omega
      apply wp_region_typed (OutF g A1) (nf [4, 13, 14, 17]) [14, 17] (vt [(Is _), (Is _), (Is _), (Is _), (fun u _ => u = .slice A1 N1 c1), (Is _), (Is _), (Is _), (Is _), (Is _), (Is _), (Is _), (Is _), (fun u w' => ∃ b, u = .slice (some ⟨b, 0, none⟩) 1 1 ∧ Blk w' b 5 [.int .u8 (n / 2 ^ (8 * (size - 1 - k)) % 256)] ∧ ¬ OutF g A1 b), (fun u _ => ∃ A2 c2, u = .slice A2 (N1 + 1) c2), (Is _), (Is _), (fun _ _ => True)]) (wt [(fun _ w' => OutV w' g A1 N1 c1 ys), (fun vs w' => ∃ A2 c2, vs = [.slice A2 (N1 + 1) c2] ∧ Blk w' g 96 [.slice A1 N1 c1] ∧ Own w' 5 1 A2 (N1 + 1) c2 (nums .u8 (ys ++ [n / 2 ^ (8 * (size - 1 - k)) % 256])) ∧ (bl A2 = bl A1 ∨ ∃ b, bl A2 = some b ∧ wr.heap.size ≤ b)), (fun _ w' => ∃ A2 c2, OutV w' g A2 (N1 + 1) c2 (ys ++ [n / 2 ^ (8 * (size - 1 - k)) % 256]) ∧ (bl A2 = bl A1 ∨ ∃ b, bl A2 = some b ∧ wr.heap.size ≤ b))]) (by kernel_rfl) (by kernel_rfl) (by kernel_rfl) (by kernel_rfl) (hop := owesL_all ?hop)
      case hop =>
        refine owesL_cons (i' := 1) rfl ?_ ?_
        · refine o_pure rfl (by kernel_rfl) fun us a wz hA hv K hK => ?_
          have s0 := slot_out hA (t := 0) (by kernel_rfl)
          clear hA hv
          go_wp2
          exact rfl
        refine owesL_cons (i' := 2) rfl ?_ ?_
        · refine o_pure rfl (by kernel_rfl) fun us a wz hA hv K hK => ?_
          have s0 := slot_out hA (t := 0) (by kernel_rfl)
          clear hA hv
          go_wp2
          exact rfl
        refine owesL_cons (i' := 3) rfl ?_ ?_
        · refine o_pure rfl (by kernel_rfl) fun us a wz hA hv K hK => ?_
          have s12 := (slot_in hA (t := 12) (by simp) (j := 1) (by kernel_rfl)).trans (hv 1 (by kernel_rfl))
          clear hA hv
          go_wp2
          exact rfl
        refine owesL_cons (i' := 4) rfl ?_ ?_
        · refine o_pure rfl (by kernel_rfl) fun us a wz hA hv K hK => ?_
          have s13 := (slot_in hA (t := 13) (by simp) (j := 2) (by kernel_rfl)).trans (hv 2 (by kernel_rfl))
          clear hA hv
          go_wp2
          exact rfl
        refine owesL_cons (i' := 5) rfl ?_ ?_
        · refine o_q rfl (by kernel_rfl) (by kernel_rfl) (pl := []) (by kernel_rfl) fun us a wz hA hv hf hw K hK => ?_
          have s14 := (slot_in hA (t := 14) (by simp) (j := 3) (by kernel_rfl)).trans (hv 3 (by kernel_rfl))
          replace hw : ((fun _ w' => OutV w' g A1 N1 c1 ys) : List Value → World → Prop) [] wz := hw
          clear hA hv
          have hb0 := hw.blk.cell 0
          simp only [List.getElem?_cons_zero] at hb0
          clear hw hf
          go_wp2
          exact hK _ _ rfl (Frm.refl _ _)
        refine owesL_cons (i' := 6) rfl ?_ ?_
        · refine o_pure rfl (by kernel_rfl) fun us a wz hA hv K hK => ?_
          have s1 := slot_out hA (t := 1) (by kernel_rfl)
          clear hA hv
          go_wp2
          exact rfl
        refine owesL_cons (i' := 7) rfl ?_ ?_
        · refine o_pure rfl (by kernel_rfl) fun us a wz hA hv K hK => ?_
          have s2 := slot_out hA (t := 2) (by kernel_rfl)
          clear hA hv
          go_wp2
          exact rfl
        refine owesL_cons (i' := 8) rfl ?_ ?_
        · refine o_pure rfl (by kernel_rfl) fun us a wz hA hv K hK => ?_
          have s17 := (slot_in hA (t := 17) (by simp) (j := 6) (by kernel_rfl)).trans (hv 6 (by kernel_rfl))
          clear hA hv
          go_wp2
          exact rfl
        refine owesL_cons (i' := 9) rfl ?_ ?_
        · refine o_pure rfl (by kernel_rfl) fun us a wz hA hv K hK => ?_
          have s6 := slot_out hA (t := 6) (by kernel_rfl)
          clear hA hv
          go_wp2
          exact rfl
        refine owesL_cons (i' := 10) rfl ?_ ?_
        · refine o_pure rfl (by kernel_rfl) fun us a wz hA hv K hK => ?_
          have s18 := (slot_in hA (t := 18) (by simp) (j := 7) (by kernel_rfl)).trans (hv 7 (by kernel_rfl))
          have s19 := (slot_in hA (t := 19) (by simp) (j := 8) (by kernel_rfl)).trans (hv 8 (by kernel_rfl))
          clear hA hv
          go_wp2
          exact rfl
        refine owesL_cons (i' := 11) rfl ?_ ?_
        · refine o_pure rfl (by kernel_rfl) fun us a wz hA hv K hK => ?_
          have s20 := (slot_in hA (t := 20) (by simp) (j := 9) (by kernel_rfl)).trans (hv 9 (by kernel_rfl))
          clear hA hv
          go_wp2
          exact rfl
        refine owesL_cons (i' := 12) rfl ?_ ?_
        · refine o_pure rfl (by kernel_rfl) fun us a wz hA hv K hK => ?_
          have s16 := (slot_in hA (t := 16) (by simp) (j := 5) (by kernel_rfl)).trans (hv 5 (by kernel_rfl))
          have s21 := (slot_in hA (t := 21) (by simp) (j := 10) (by kernel_rfl)).trans (hv 10 (by kernel_rfl))
          clear hA hv
          go_wp2
          exact rfl
        refine owesL_cons (i' := 13) rfl ?_ ?_
        · refine o_pure rfl (by kernel_rfl) fun us a wz hA hv K hK => ?_
          have s22 := (slot_in hA (t := 22) (by simp) (j := 11) (by kernel_rfl)).trans (hv 11 (by kernel_rfl))
          clear hA hv
          go_wp2
          exact rfl
        refine owesL_cons (i' := 14) rfl ?_ ?_
        · refine o_q rfl (by kernel_rfl) (by kernel_rfl) (pl := []) (by kernel_rfl) fun us a wz hA hv hf hw K hK => ?_
          have s23 := (slot_in hA (t := 23) (by simp) (j := 12) (by kernel_rfl)).trans (hv 12 (by kernel_rfl))
          replace hw : ((fun _ w' => OutV w' g A1 N1 c1 ys) : List Value → World → Prop) [] wz := hw
          clear hA hv
          have h1 := hw.blk.lt
          have h2 := hw.own.lt
          go_wp2
          exact hK _ _ ⟨wz.heap.size, rfl, Blk.new wz _ [_], fun h => by rcases h with h | h; omega; have := h2 _ h; omega⟩ ((Frm.refl _ _).alloc _)
        refine owesL_cons (i' := 15) rfl ?_ ?_
        · refine o_p rfl (by kernel_rfl) (by kernel_rfl) (pl := []) (by kernel_rfl) fun us a wz hA hv hf hw K hK => ?_
          have s15 := slot_in hA (t := 15) (by simp) (j := 4) (by kernel_rfl)
          have u4 : ((fun u _ => u = .slice A1 N1 c1) : Value → World → Prop) (us 4) wz := hv 4 (by kernel_rfl)
          have s24 := slot_in hA (t := 24) (by simp) (j := 13) (by kernel_rfl)
          have u13 : ((fun u w' => ∃ b, u = .slice (some ⟨b, 0, none⟩) 1 1 ∧ Blk w' b 5 [.int .u8 (n / 2 ^ (8 * (size - 1 - k)) % 256)] ∧ ¬ OutF g A1 b) : Value → World → Prop) (us 13) wz := hv 13 (by kernel_rfl)
          replace hw : ((fun _ w' => OutV w' g A1 N1 c1 ys) : List Value → World → Prop) [] wz := hw
          clear hA hv
          obtain ⟨b, e13, hb, hnb⟩ := u13
          refine wp_app appBytes rfl (ev (s15.trans u4)) (ev (s24.trans e13)) hw.own (Own.of_blk hb 1 rfl (by decide)).rd (by simp [Value.oneCell']) (by omega) fun A2 c2 w2 hown hf2 hat => ?_
          refine hK _ _ ⟨A2, c2, rfl⟩ ⟨A2, c2, rfl, hw.blk.frm hf2 hw.ne, by rw [nums_append]; exact hown, ?_⟩ (hf2.mono fun k _ h => .inr h)
          rcases hat with h | h
          · exact .inl h
          · exact .inr ⟨_, h, hf.size⟩
        refine owesL_cons (i' := 16) rfl ?_ ?_
        · refine o_pure rfl (by kernel_rfl) fun us a wz hA hv K hK => ?_
          have s11 := (slot_in hA (t := 11) (by simp) (j := 0) (by kernel_rfl)).trans (hv 0 (by kernel_rfl))
          clear hA hv
          go_wp2
          exact rfl
        refine owesL_cons (i' := 17) rfl ?_ ?_
        · refine o_pure rfl (by kernel_rfl) fun us a wz hA hv K hK => ?_
          have s26 := (slot_in hA (t := 26) (by simp) (j := 15) (by kernel_rfl)).trans (hv 15 (by kernel_rfl))
          clear hA hv
          go_wp2
          exact rfl
        refine owesL_cons (i' := 18) rfl ?_ ?_
        · refine o_p rfl (by kernel_rfl) (by kernel_rfl) (pl := [14]) (by kernel_rfl) fun us a wz hA hv hf hw K hK => ?_
          have s27 := (slot_in hA (t := 27) (by simp) (j := 16) (by kernel_rfl)).trans (hv 16 (by kernel_rfl))
          have s25 := slot_in hA (t := 25) (by simp) (j := 14) (by kernel_rfl)
          have u14 : ((fun u _ => ∃ A2 c2, u = .slice A2 (N1 + 1) c2) : Value → World → Prop) (us 14) wz := hv 14 (by kernel_rfl)
          replace hw : ((fun vs w' => ∃ A2 c2, vs = [.slice A2 (N1 + 1) c2] ∧ Blk w' g 96 [.slice A1 N1 c1] ∧ Own w' 5 1 A2 (N1 + 1) c2 (nums .u8 (ys ++ [n / 2 ^ (8 * (size - 1 - k)) % 256])) ∧ (bl A2 = bl A1 ∨ ∃ b, bl A2 = some b ∧ wr.heap.size ≤ b)) : List Value → World → Prop) [us 14] wz := hw
          clear hA hv
          obtain ⟨A2, c2, e14, hb, hown, hat⟩ := hw
          have e14 : us 14 = _ := List.head_eq_of_cons_eq e14
          have hc := hb.cell 0
          have hz := hb.frozen 0
          simp only [List.getElem?_cons_zero] at hc
          clear u14
          go_wp2
          have hf3 : Frm (fun k => k = g) wz (wz.setCell ⟨g, 0, none⟩ (.slice A2 (N1 + 1) c2)) := (Frm.refl (fun k => k = g) wz).setCell (p := ⟨g, 0, none⟩) (fun _ => rfl) _
          exact hK undef _ trivial ⟨A2, c2, ⟨hb.set_ 0 _, hown.frm hf3 (fun b hb' e => hown.ne_blk hb (by decide) (e ▸ hb'))⟩, hat⟩ (hf3.mono fun k _ h => .inl h)
        exact owesL_nil
      case hV => exact Stabs.vt (.cons (stab_is _ _) (.cons (stab_is _ _) (.cons (stab_is _ _) (.cons (stab_is _ _) (.cons (stab_pure _ _) (.cons (stab_is _ _) (.cons (stab_is _ _) (.cons (stab_is _ _) (.cons (stab_is _ _) (.cons (stab_is _ _) (.cons (stab_is _ _) (.cons (stab_is _ _) (.cons (stab_is _ _) (.cons (fun u w1 w2 ⟨b, h1, h2, h3⟩ hf => ⟨b, h1, h2.frm hf h3, h3⟩) (.cons (stab_pure _ _) (.cons (stab_is _ _) (.cons (stab_is _ _) (.cons (stab_true _) (.nil)))))))))))))))))))
      case hW =>
        refine StabWs.wt (.cons (fun _ _ _ h hf => h.frm hf fun _ _ h => h) (.cons (fun vs w1 w2 h hf => ?_) (.cons (fun vs w1 w2 h hf => ?_) .nil)))
        · obtain ⟨A2, c2, e, hb, hown, hat⟩ := h
          exact ⟨A2, c2, e, hb.frm hf fun h => h, hown.frm hf fun _ _ h => h, hat⟩
        · obtain ⟨A2, c2, h, hat⟩ := h
          exact ⟨A2, c2, h.frm hf fun _ _ h => h, hat⟩
      case h0 =>
        exact H5.out.frm (Frm.refl (fun _ => False) wr).drew fun _ _ h => h
      intro usx wx hvx hwx hfx
      have qx0 : usx 0 = _ := hvx 0 (by decide)
      have qx1 : usx 1 = _ := hvx 1 (by decide)
      have qx2 : usx 2 = _ := hvx 2 (by decide)
      have qx3 : usx 3 = _ := hvx 3 (by decide)
      have qx4 : ((fun u _ => u = .slice A1 N1 c1) : Value → World → Prop) (usx 4) wx := hvx 4 (by decide)
      have qx5 : usx 5 = _ := hvx 5 (by decide)
      have qx6 : usx 6 = _ := hvx 6 (by decide)
      have qx7 : usx 7 = _ := hvx 7 (by decide)
      have qx8 : usx 8 = _ := hvx 8 (by decide)
      have qx9 : usx 9 = _ := hvx 9 (by decide)
      have qx10 : usx 10 = _ := hvx 10 (by decide)
      have qx11 : usx 11 = _ := hvx 11 (by decide)
      have qx12 : usx 12 = _ := hvx 12 (by decide)
      have qx13 : ((fun u w' => ∃ b, u = .slice (some ⟨b, 0, none⟩) 1 1 ∧ Blk w' b 5 [.int .u8 (n / 2 ^ (8 * (size - 1 - k)) % 256)] ∧ ¬ OutF g A1 b) : Value → World → Prop) (usx 13) wx := hvx 13 (by decide)
      have qx14 : ((fun u _ => ∃ A2 c2, u = .slice A2 (N1 + 1) c2) : Value → World → Prop) (usx 14) wx := hvx 14 (by decide)
      have qx15 : usx 15 = _ := hvx 15 (by decide)
      have qx16 : usx 16 = _ := hvx 16 (by decide)
      replace hwx : ((fun _ w' => ∃ A2 c2, OutV w' g A2 (N1 + 1) c2 (ys ++ [n / 2 ^ (8 * (size - 1 - k)) % 256]) ∧ (bl A2 = bl A1 ∨ ∃ b, bl A2 = some b ∧ wr.heap.size ≤ b)) : List Value → World → Prop) [usx 14, usx 17] wx := hwx
      rw [fill_all (ds := [some 11, some 12, some 13, some 14, some 15, some 16, some 17, some 18, some 19, some 20, some 21, some 22, some 23, some 24, some 25, some 26, some 27, none]) (by kernel_rfl)]
      simp only [putAll, Act.put, List.setIfInBounds_toArray, List.set_cons_succ, List.set_cons_zero, Nat.reduceAdd, qx0, qx1, qx2, qx3, qx5, qx6, qx7, qx8, qx9, qx10, qx11, qx12, qx15, qx16]
      clear hvx qx0 qx1 qx2 qx3 qx5 qx6 qx7 qx8 qx9 qx10 qx11 qx12 qx15 qx16
      go_wp2
      obtain ⟨A2, c2, ho2, hat2⟩ := hwx
      have hf2 : Frm (OutF g A) w wx := H1.out.trans (Frm.trans (Frm.refl _ wr).drew hfx (fun _ _ h => h)) fun b hb h => by
        rcases h with h | h
        · exact .inl h
        · rcases H2.out with e | ⟨b', e, hb'⟩
          · exact .inr (e ▸ h)
          · rw [e] at h; injection h with h; omega
      have hat3 : bl A2 = bl A ∨ ∃ b, bl A2 = some b ∧ w.heap.size ≤ b := by
        rcases hat2 with e | ⟨b, e, hb⟩
        · rw [e]; exact H2.out
        · exact .inr ⟨b, e, Nat.le_trans H1.out.size hb⟩
      go_roundw
      case rel => exact ⟨k + 1, by omega, by go_num, A2, _, c2, by rw [H0.out, ← List.append_assoc, ← hys]; exact ho2, hf2, hat3⟩
      case measure => simp [intOf]; omega
    · have hk' : k = size := by omega
      subst hk'
      have H1 := Lib.hid hf1
      have H5 := Lib.hid ho1
      clear hf1 ho1
      go_wp2
      go_end0
      exact ⟨rfl, A1, N1, c1, by rw [hys, List.take_of_length_le (by rw [be_length]; omega)] at H5; exact H5.out, H1.out, hv1⟩

theorem OutPost.trans {w w1 w2 : World} {g : Nat} {A A1 : Option Addr} {N1 c1 : Nat} {xs ys : List Int} (ho : OutV w1 g A1 N1 c1 xs) (hf : Frm (OutF g A) w w1) (hat : bl A1 = bl A ∨ ∃ b, bl A1 = some b ∧ w.heap.size ≤ b)
    (h : OutPost w1 w2 g A1 ys) : OutPost w w2 g A ys := by
  obtain ⟨A2, N2, c2, ho2, hf2, hat2⟩ := h
  refine ⟨A2, N2, c2, ho2, hf.trans hf2 fun b hb h => ?_, ?_⟩
  · rcases h with h | h
    · exact .inl h
    · rcases hat with e | ⟨b', e, hb'⟩
      · exact .inr (e ▸ h)
      · rw [e] at h; injection h with h; omega
  · rcases hat2 with e | ⟨b, e, hb⟩
    · rw [e]; exact hat
    · exact .inr ⟨b, e, Nat.le_trans hf.size hb⟩
/-- what is no part of it stays none -/
theorem OutPost.apart {w : World} {g : Nat} {A A1 : Option Addr} {b : Nat} (hat : bl A1 = bl A ∨ ∃ b, bl A1 = some b ∧ w.heap.size ≤ b) (hb : b < w.heap.size) (h : ¬ OutF g A b) : ¬ OutF g A1 b := by
  rintro (h1 | h1)
  · exact h (.inl h1)
  · rcases hat with e | ⟨b', e, hb'⟩
    · exact h (.inr (e ▸ h1))
    · rw [e] at h1; injection h1 with h1; omega

set_option maxRecDepth 100000 in
set_option maxHeartbeats 400000 in
theorem count_any (g : Nat) (A : Option Addr) (N c : Nat) (xs : List Int) (n : Int) (w : World) (ho : OutV w g A N c xs) (hl : xs.length ≤ 1099511627776) :
    Calls Tryd.prog 84 #[.pointer (some ⟨g, 0, none⟩), .int .i64 n] w fun e w' => e = .returned (.tuple #[]) ∧ OutPost w w' g A (xs ++ be n 4) := by
  have H := Lib.hid ho
  clear ho
  go_enter Tryd.func84, Tryd.ntmps84
  go_wp2_with fail
  refine (number_any g A N c xs n 4 (by omega) _ H.out hl).mono ?_
  rintro e w1 ⟨rfl, hp⟩
  have hp := Lib.hid hp
  go_wp2_with fail
  go_end0
  exact ⟨rfl, hp.out⟩

set_option maxRecDepth 100000 in
set_option maxHeartbeats 400000 in
theorem int_any (g : Nat) (A : Option Addr) (N c : Nat) (xs : List Int) (n : Int) (w : World) (ho : OutV w g A N c xs) (hl : xs.length ≤ 1099511627776) :
    Calls Tryd.prog 49 #[.pointer (some ⟨g, 0, none⟩), .int .i64 n] w fun e w' => e = .returned (.pointer (some ⟨g, 0, none⟩)) ∧ OutPost w w' g A (xs ++ be n 8) := by
  have H := Lib.hid ho
  clear ho
  go_enter Tryd.func49, Tryd.ntmps49
  go_wp2_with fail
  refine (number_any g A N c xs n 8 (by omega) _ H.out hl).mono ?_
  rintro e w1 ⟨rfl, hp⟩
  have hp := Lib.hid hp
  go_wp2_with fail
  go_ret
  exact ⟨rfl, hp.out⟩

set_option maxRecDepth 100000 in
set_option maxHeartbeats 400000 in
theorem bytes_any (g : Nat) (A : Option Addr) (N c : Nat) (xs : List Int) (A2 : Option Addr) (m c2 : Nat) (ys : List Int) (w : World) (ho : OutV w g A N c xs) (hl : xs.length ≤ 549755813888) (hm : m ≤ 549755813888)
    (hr : Rd w 1 A2 m (nums .u8 ys)) (hd : ∀ b, bl A2 = some b → b < w.heap.size ∧ ¬ OutF g A b) :
    Calls Tryd.prog 71 #[.pointer (some ⟨g, 0, none⟩), .slice A2 m c2] w fun e w' => e = .returned (.pointer (some ⟨g, 0, none⟩)) ∧ OutPost w w' g A (xs ++ be m 4 ++ ys) := by
  have H := Lib.hid ho
  clear ho
  go_enter Tryd.func71, Tryd.ntmps71
  go_wp2_with fail
  refine (count_any g A N c xs m _ H.out (by omega)).mono ?_
  rintro e w1 ⟨rfl, A1, N1, c1, ho1, hf1, hat1⟩
  have hr1 := hr.frm hf1 fun b hb => (hd b hb).2
  have hc1 := ho1.blk.cell 0
  simp only [List.getElem?_cons_zero] at hc1
  have hN1 : N1 + m ≤ 140737488355328 := by rw [ho1.len, List.length_append, be_length]; omega
  have ho1 := Lib.hid ho1
  have hf1 := Lib.hid hf1
  have hat1 := Lib.hid hat1
  have hr1 := Lib.hid hr1
  clear hr
  go_wp2_with (at_builtin; refine list_app rfl appBytes rfl rfl rfl ho1.out.own hr1.out nums_one (by omega) ?_; intro A3 c3 w2 hown hf2 hat2; have hb2 := ho1.out.blk.frm hf2 ho1.out.ne; have hc2 := hb2.cell 0; simp only [List.getElem?_cons_zero] at hc2; have hz2 := hb2.frozen 0; have hown := Lib.hid hown; have hf2 := Lib.hid hf2; have hat2 := Lib.hid hat2; have hb2 := Lib.hid hb2)
  go_ret
  refine ⟨rfl, OutPost.trans ho1.out hf1.out hat1.out ?_⟩
  have hf3 : Frm (fun k => k = g) w2 (w2.setCell ⟨g, 0, none⟩ (.slice A3 (N1 + m) c3)) := (Frm.refl (fun k => k = g) w2).setCell (p := ⟨g, 0, none⟩) (fun _ => rfl) _
  refine ⟨A3, N1 + m, c3, ⟨hb2.out.set_ 0 _, ?_⟩, (hf2.out.mono fun _ _ h => Or.inr h).trans hf3 fun _ _ h => Or.inl h, ?_⟩
  · rw [nums_append]
    exact hown.out.frm hf3 fun b hb e => hown.out.ne_blk hb2.out (by decide) (e ▸ hb)
  · rcases hat2.out with e | e
    · exact .inl e
    · exact .inr ⟨_, e, Nat.le_refl _⟩

/-- a text's bytes -/
def strBytes (s : ByteArray) : List Int := s.data.toList.map fun b => (b.toNat : Int)
theorem strBytes_length (s : ByteArray) : (strBytes s).length = s.size := by simp [strBytes]
theorem rd_bytesWorld (W : World) (e : TypeId) (s : ByteArray) : Rd (Lib.bytesWorld W e s) 1 (some ⟨W.heap.size, 0, none⟩) s.size (nums .u8 (strBytes s)) := by
  refine ⟨by rw [nums_length, strBytes_length, Nat.mul_one], fun _ => ⟨_, 0, rfl, fun j v hv => ?_⟩⟩
  have hj : j < s.size := by have := (List.getElem?_eq_some_iff.1 hv).1; rwa [nums_length, strBytes_length] at this
  have hj' : j < s.data.toList.length := by simpa using hj
  rw [Nat.zero_add, Lib.bytesWorld_cell W e s j hj, ← hv]
  simp [nums, strBytes, List.getElem?_eq_getElem hj']
theorem frm_bytesWorld (W : World) (e : TypeId) (s : ByteArray) (F : Nat → Prop) : Frm F W (Lib.bytesWorld W e s) :=
  ⟨rfl, rfl, rfl, by rw [Lib.bytesWorld_size]; omega, fun i hi _ => Lib.bytesWorld_at_old W e s i hi⟩

set_option maxRecDepth 100000 in
set_option maxHeartbeats 400000 in
theorem text_any (g : Nat) (A : Option Addr) (N c : Nat) (xs : List Int) (s : ByteArray) (w : World) (ho : OutV w g A N c xs) (hl : xs.length ≤ 549755813888) (hm : s.size ≤ 549755813888) :
    Calls Tryd.prog 63 #[.pointer (some ⟨g, 0, none⟩), .string s] w fun e w' => e = .returned (.pointer (some ⟨g, 0, none⟩)) ∧ OutPost w w' g A (xs ++ be s.size 4 ++ strBytes s) := by
  have kb := fun W => Lib.run_convert_string_bytes (P := Tryd.prog) W 9 55 5 s Tryd.underlying9 Tryd.underlying55 Tryd.underlying5
  have H := Lib.hid ho
  clear ho
  go_enter Tryd.func63, Tryd.ntmps63
  go_wp2_with fail
  have hf1 := frm_bytesWorld w 5 s (fun _ => False)
  have ho1 := H.out.frm hf1 fun _ _ h => h
  have hg := H.out.blk.lt
  have hA := H.out.own.lt
  refine (bytes_any g A N c xs (some ⟨w.heap.size, 0, none⟩) s.size _ (strBytes s) _ ho1 hl hm (rd_bytesWorld w 5 s) fun b hb => ?_).mono ?_
  · have : b = w.heap.size := by simpa [bl] using hb.symm
    subst this
    exact ⟨by rw [Lib.bytesWorld_size]; omega, fun h => by rcases h with h | h; omega; have := hA _ h; omega⟩
  rintro e w1 ⟨rfl, hp⟩
  have hp := Lib.hid hp
  go_wp2_with fail
  go_ret
  exact ⟨rfl, OutPost.trans ho1 (hf1.mono fun _ _ h => h.elim) (.inl rfl) hp.out⟩

/-- a hash, as a value -/
def hashV (h : List Int) : Value := .agg (nums .u8 h).toArray

set_option maxRecDepth 100000 in
set_option maxHeartbeats 400000 in
theorem hash_any (g : Nat) (A : Option Addr) (N c : Nat) (xs : List Int) (h : List Int) (hh : h.length = 32) (w : World) (ho : OutV w g A N c xs) (hl : xs.length ≤ 549755813888) :
    Calls Tryd.prog 51 #[.pointer (some ⟨g, 0, none⟩), hashV h] w fun e w' => e = .returned (.pointer (some ⟨g, 0, none⟩)) ∧ OutPost w w' g A (xs ++ h) := by
  have hN1 : N + 32 ≤ 140737488355328 := by rw [ho.len]; omega
  have hg := ho.blk.lt
  have hA := ho.own.lt
  have H := Lib.hid (ho.frm ((Frm.refl (fun _ => False) w).alloc (.cells (nums .u8 h).toArray 25)) fun _ _ h => h)
  have Hb := Lib.hid (Blk.new w 25 (nums .u8 h))
  have H32 := Lib.hid hh
  clear ho hh
  unfold hashV
  go_enter Tryd.func51, Tryd.ntmps51
  go_wp2
  apply wp_region_typed (OutF g A) (nf [4, 6, 9]) [6, 9] (vt [(Is _), (Is _), (Is _), (Is _), (fun u _ => u = .slice A N c), (Is _), (fun u _ => ∃ A2 c2, u = .slice A2 (N + 32) c2), (Is _), (Is _), (fun _ _ => True)]) (wt [(fun _ w' => OutV w' g A N c xs ∧ Blk w' w.heap.size 25 (nums .u8 h)), (fun vs w' => ∃ A2 c2, vs = [.slice A2 (N + 32) c2] ∧ Blk w' g 96 [.slice A N c] ∧ Own w' 5 1 A2 (N + 32) c2 (nums .u8 (xs ++ h)) ∧ (bl A2 = bl A ∨ ∃ b, bl A2 = some b ∧ w.heap.size ≤ b)), (fun _ w' => ∃ A2 c2, OutV w' g A2 (N + 32) c2 (xs ++ h) ∧ (bl A2 = bl A ∨ ∃ b, bl A2 = some b ∧ w.heap.size ≤ b))]) (by kernel_rfl) (by kernel_rfl) (by kernel_rfl) (by kernel_rfl) (hop := owesL_all ?hop)
  case hop =>
    refine owesL_cons (i' := 1) rfl ?_ ?_
    · refine o_pure rfl (by kernel_rfl) fun us a wz hA hv K hK => ?_
      have s0 := slot_out hA (t := 0) (by kernel_rfl)
      clear hA hv
      go_wp2
      exact rfl
    refine owesL_cons (i' := 2) rfl ?_ ?_
    · refine o_pure rfl (by kernel_rfl) fun us a wz hA hv K hK => ?_
      have s0 := slot_out hA (t := 0) (by kernel_rfl)
      clear hA hv
      go_wp2
      exact rfl
    refine owesL_cons (i' := 3) rfl ?_ ?_
    · refine o_pure rfl (by kernel_rfl) fun us a wz hA hv K hK => ?_
      have s6 := (slot_in hA (t := 6) (by simp) (j := 1) (by kernel_rfl)).trans (hv 1 (by kernel_rfl))
      clear hA hv
      go_wp2
      exact rfl
    refine owesL_cons (i' := 4) rfl ?_ ?_
    · refine o_pure rfl (by kernel_rfl) fun us a wz hA hv K hK => ?_
      have s7 := (slot_in hA (t := 7) (by simp) (j := 2) (by kernel_rfl)).trans (hv 2 (by kernel_rfl))
      clear hA hv
      go_wp2
      exact rfl
    refine owesL_cons (i' := 5) rfl ?_ ?_
    · refine o_q rfl (by kernel_rfl) (by kernel_rfl) (pl := []) (by kernel_rfl) fun us a wz hA hv hf hw K hK => ?_
      have s8 := (slot_in hA (t := 8) (by simp) (j := 3) (by kernel_rfl)).trans (hv 3 (by kernel_rfl))
      replace hw : ((fun _ w' => OutV w' g A N c xs ∧ Blk w' w.heap.size 25 (nums .u8 h)) : List Value → World → Prop) [] wz := hw
      clear hA hv
      have hb0 := hw.1.blk.cell 0
      simp only [List.getElem?_cons_zero] at hb0
      clear hw hf
      go_wp2
      exact hK _ _ rfl (Frm.refl _ _)
    refine owesL_cons (i' := 6) rfl ?_ ?_
    · refine o_pure rfl (by kernel_rfl) fun us a wz hA hv K hK => ?_
      have s3 := slot_out hA (t := 3) (by kernel_rfl)
      clear hA hv
      go_wp2
      exact rfl
    refine owesL_cons (i' := 7) rfl ?_ ?_
    · refine o_p rfl (by kernel_rfl) (by kernel_rfl) (pl := []) (by kernel_rfl) fun us a wz hA hv hf hw K hK => ?_
      have s9 := slot_in hA (t := 9) (by simp) (j := 4) (by kernel_rfl)
      have u4 : ((fun u _ => u = .slice A N c) : Value → World → Prop) (us 4) wz := hv 4 (by kernel_rfl)
      have s10 := (slot_in hA (t := 10) (by simp) (j := 5) (by kernel_rfl)).trans (hv 5 (by kernel_rfl))
      replace hw : ((fun _ w' => OutV w' g A N c xs ∧ Blk w' w.heap.size 25 (nums .u8 h)) : List Value → World → Prop) [] wz := hw
      clear hA hv
      refine wp_app appBytes rfl (ev (s9.trans u4)) (ev s10) hw.1.own (Own.of_blk (size := 1) hw.2 32 (by rw [nums_length, H32.out]) (by decide)).rd nums_one (by omega) fun A2 c2 w2 hown hf2 hat => ?_
      refine hK _ _ ⟨A2, c2, rfl⟩ ⟨A2, c2, rfl, hw.1.blk.frm hf2 hw.1.ne, by rw [nums_append]; exact hown, ?_⟩ (hf2.mono fun k _ h => .inr h)
      rcases hat with h | h
      · exact .inl h
      · exact .inr ⟨_, h, Nat.le_trans (by simp) hf.size⟩
    refine owesL_cons (i' := 8) rfl ?_ ?_
    · refine o_pure rfl (by kernel_rfl) fun us a wz hA hv K hK => ?_
      have s5 := (slot_in hA (t := 5) (by simp) (j := 0) (by kernel_rfl)).trans (hv 0 (by kernel_rfl))
      clear hA hv
      go_wp2
      exact rfl
    refine owesL_cons (i' := 9) rfl ?_ ?_
    · refine o_pure rfl (by kernel_rfl) fun us a wz hA hv K hK => ?_
      have s12 := (slot_in hA (t := 12) (by simp) (j := 7) (by kernel_rfl)).trans (hv 7 (by kernel_rfl))
      clear hA hv
      go_wp2
      exact rfl
    refine owesL_cons (i' := 10) rfl ?_ ?_
    · refine o_p rfl (by kernel_rfl) (by kernel_rfl) (pl := [6]) (by kernel_rfl) fun us a wz hA hv hf hw K hK => ?_
      have s13 := (slot_in hA (t := 13) (by simp) (j := 8) (by kernel_rfl)).trans (hv 8 (by kernel_rfl))
      have s11 := slot_in hA (t := 11) (by simp) (j := 6) (by kernel_rfl)
      have u6 : ((fun u _ => ∃ A2 c2, u = .slice A2 (N + 32) c2) : Value → World → Prop) (us 6) wz := hv 6 (by kernel_rfl)
      replace hw : ((fun vs w' => ∃ A2 c2, vs = [.slice A2 (N + 32) c2] ∧ Blk w' g 96 [.slice A N c] ∧ Own w' 5 1 A2 (N + 32) c2 (nums .u8 (xs ++ h)) ∧ (bl A2 = bl A ∨ ∃ b, bl A2 = some b ∧ w.heap.size ≤ b)) : List Value → World → Prop) [us 6] wz := hw
      clear hA hv
      obtain ⟨A2, c2, e14, hb, hown, hat⟩ := hw
      have e14 : us 6 = _ := List.head_eq_of_cons_eq e14
      have hc := hb.cell 0
      have hz := hb.frozen 0
      simp only [List.getElem?_cons_zero] at hc
      clear u6
      go_wp2
      have hf3 : Frm (fun k => k = g) wz (wz.setCell ⟨g, 0, none⟩ (.slice A2 (N + 32) c2)) := (Frm.refl (fun k => k = g) wz).setCell (p := ⟨g, 0, none⟩) (fun _ => rfl) _
      exact hK undef _ trivial ⟨A2, c2, ⟨hb.set_ 0 _, hown.frm hf3 (fun b hb' e => hown.ne_blk hb (by decide) (e ▸ hb'))⟩, hat⟩ (hf3.mono fun k _ h => .inl h)
    exact owesL_nil
  case hV => exact Stabs.vt (.cons (stab_is _ _) (.cons (stab_is _ _) (.cons (stab_is _ _) (.cons (stab_is _ _) (.cons (stab_pure _ _) (.cons (stab_is _ _) (.cons (stab_pure _ _) (.cons (stab_is _ _) (.cons (stab_is _ _) (.cons (stab_true _) (.nil)))))))))))
  case hW =>
    refine StabWs.wt (.cons (fun _ _ _ h hf => ⟨h.1.frm hf fun _ _ h => h, h.2.frm hf fun h => h⟩) (.cons (fun vs w1 w2 h hf => ?_) (.cons (fun vs w1 w2 h hf => ?_) .nil)))
    · obtain ⟨A2, c2, e, hb, hown, hat⟩ := h
      exact ⟨A2, c2, e, hb.frm hf fun h => h, hown.frm hf fun _ _ h => h, hat⟩
    · obtain ⟨A2, c2, h, hat⟩ := h
      exact ⟨A2, c2, h.frm hf fun _ _ h => h, hat⟩
  case h0 =>
    exact ⟨H.out.frm (Frm.refl (fun _ => False) _).drew fun _ _ h => h, Hb.out⟩
  intro usx wx hvx hwx hfx
  have qx0 : usx 0 = _ := hvx 0 (by decide)
  have qx1 : usx 1 = _ := hvx 1 (by decide)
  have qx2 : usx 2 = _ := hvx 2 (by decide)
  have qx3 : usx 3 = _ := hvx 3 (by decide)
  have qx4 : ((fun u _ => u = .slice A N c) : Value → World → Prop) (usx 4) wx := hvx 4 (by decide)
  have qx5 : usx 5 = _ := hvx 5 (by decide)
  have qx6 : ((fun u _ => ∃ A2 c2, u = .slice A2 (N + 32) c2) : Value → World → Prop) (usx 6) wx := hvx 6 (by decide)
  have qx7 : usx 7 = _ := hvx 7 (by decide)
  have qx8 : usx 8 = _ := hvx 8 (by decide)
  replace hwx : ((fun _ w' => ∃ A2 c2, OutV w' g A2 (N + 32) c2 (xs ++ h) ∧ (bl A2 = bl A ∨ ∃ b, bl A2 = some b ∧ w.heap.size ≤ b)) : List Value → World → Prop) [usx 6, usx 9] wx := hwx
  rw [fill_all (ds := [some 5, some 6, some 7, some 8, some 9, some 10, some 11, some 12, some 13, none]) (by kernel_rfl)]
  simp only [putAll, Act.put, List.setIfInBounds_toArray, List.set_cons_succ, List.set_cons_zero, Nat.reduceAdd, qx0, qx1, qx2, qx3, qx5, qx7, qx8]
  clear hvx qx0 qx1 qx2 qx3 qx5 qx7 qx8
  go_wp2
  go_ret
  obtain ⟨A2, c2, ho2, hat2⟩ := hwx
  exact ⟨rfl, A2, _, c2, ho2, ((Frm.refl (OutF g A) w).alloc _).drew.trans hfx (fun _ _ h => h), hat2⟩

set_option maxRecDepth 100000 in
set_option maxHeartbeats 400000 in
theorem all_any (g : Nat) (A : Option Addr) (N c : Nat) (xs : List Int) (w : World) (ho : OutV w g A N c xs) (hl : xs.length ≤ 1048576) :
    Calls Tryd.prog 52 #[.pointer (some ⟨g, 0, none⟩)] w fun e w' => ∃ v, e = .returned v ∧ NewS w w' 5 1 N (nums .u8 xs) v := by
  have hc := ho.blk.cell 0
  simp only [List.getElem?_cons_zero] at hc
  have hN : N ≤ 1048576 := by rw [ho.len]; exact hl
  have H := Lib.hid ho
  clear ho
  go_enter Tryd.func52, Tryd.ntmps52
  go_wp2_with fail
  refine (bytesClone_any A N c (nums .u8 xs) _ H.out.own.rd nums_one hN).mono ?_
  rintro e w1 ⟨v, rfl, hp⟩
  have hp := Lib.hid hp
  go_wp2_with fail
  go_ret
  exact ⟨_, rfl, hp.out⟩
end Go.Proofs.YtmajnoefddbflaaDoor
