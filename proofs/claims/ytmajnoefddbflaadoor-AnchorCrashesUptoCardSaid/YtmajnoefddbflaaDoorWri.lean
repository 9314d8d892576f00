/- sha: Write. -/
import Derived.Test.YtmajnoefddbflaaDoorLb
import Derived.Test.YtmajnoefddbflaaDoorProg
import Derived.Test.YtmajnoefddbflaaDoorDig
import Derived.WalkKit
import Derived.WalkSpells
import Derived.StillTactics
import Derived.Laws.Pointers
import Derived.Lib.Hide
import Derived.KernelRfl
namespace Go.Proofs.YtmajnoefddbflaaDoor
open Go.RowKit

theorem dig_fin {S : Sha} {g : Nat} {A : Option Addr} {w w1 : World} {m1 zs : List Int} {n : Nat} {A1 : Option Addr} {c1 : Nat} {L : Int} {wr : World} {j : Nat} {A3 : Option Addr} {c3 : Nat} {w3 : World}
    (hL : L = ((m1 ++ zs).length : Int)) (h01 : Frm (DigF g A) w w1) (hat1 : bl A1 = bl A ∨ ∃ b, bl A1 = some b ∧ w.heap.size ≤ b) (hzl : zs.length = n) (h64 : n - j < 64) (hr : restOf (m1 ++ zs.take j) = [])
    (hf : Frm (fun k => k = g) w1 wr) (hf3 : Frm (fun k => bl A1 = some k) wr w3) (hat3 : bl A3 = bl A1 ∨ bl A3 = some wr.heap.size)
    (hb3 : Blk w3 g 108 (nums .u32 (stOf S (m1 ++ zs.take j)) ++ [.slice A1 0 c1, .int .i64 L])) (hown3 : Own w3 5 1 A3 (n - j) c3 (nums .u8 (zs.drop j))) (N' : Nat) (hN' : N' = n - j) :
    DigPost S w (w3.setCell ⟨g, 8, none⟩ (.slice A3 N' c3)) g A (m1 ++ zs) := by
  subst hN'
  have hs := st_small S (m1 ++ zs.take j) (zs.drop j) (by rw [hr, List.length_drop]; simp; omega)
  rw [List.append_assoc, List.take_append_drop, hr, List.nil_append] at hs
  have hb4 := dig_s8 hb3 (stOf_length ..) (.slice A3 (n - j) c3)
  have hf4 : Frm (fun k => k = g) w3 (w3.setCell ⟨g, 8, none⟩ (.slice A3 (n - j) c3)) := (Frm.refl (fun k => k = g) w3).setCell (p := ⟨g, 8, none⟩) (fun _ => rfl) _
  have h0r : Frm (DigF g A) w wr := h01.trans hf fun b _ h => .inl h
  have h03 : Frm (DigF g A) w w3 := h0r.trans hf3 fun b hb h => by
    rcases hat1 with e | ⟨b', e, hb'⟩
    · exact .inr (e ▸ h)
    · rw [e] at h; injection h with h; omega
  refine ⟨A3, n - j, c3, ⟨?_, ?_⟩, h03.trans hf4 fun b _ h => .inl h, ?_⟩
  · rw [hs.1, ← hL]; exact hb4
  · rw [hs.2]; exact hown3.frm hf4 fun b hb e => hown3.ne_blk hb3 (by decide) (e ▸ hb)
  · rcases hat3 with e | e
    · rw [e]; exact hat1
    · exact .inr ⟨_, e, h0r.size⟩
set_option maxRecDepth 100000 in
set_option maxHeartbeats 800000 in
theorem write_any (S : Sha) (g : Nat) (A : Option Addr) (N c : Nat) (m : List Int) (b2 o2 n c2 : Nat) (ys : List Int) (w : World) (hG : ShaG S w) (hgn : ¬ shaF g) (ho : DigV S w g A N c m) (hr : Rd w 1 (some ⟨b2, o2, none⟩) n (nums .u8 ys)) (hc2 : n ≤ c2)
    (hgA : ∀ k, shaF k → bl A ≠ some k) (hap : b2 < w.heap.size ∧ ¬ DigF g A b2) (hl : m.length + n ≤ 1099511627776) :
    Calls Tryd.prog 44 #[.pointer (some ⟨g, 0, none⟩), .slice (some ⟨b2, o2, none⟩) n c2] w fun e w' => e = .returned (.tuple #[]) ∧ DigPost S w w' g A (m ++ ys) := by
  have hyl : ys.length = n := by have := hr.1; rw [nums_length] at this; omega
  have hN := ho.len
  have hc8 := dig_c8 ho.blk (stOf_length ..)
  have hc9 := dig_c9 ho.blk (stOf_length ..)
  have hz9 := ho.blk.frozen 9
  have hz8 := ho.blk.frozen 8
  have e1 : IntKind.i64.wrap ((m.length : Int) + n) = (m.length : Int) + n := IntWalk.i64_in _ (by omega)
  obtain ⟨M, hM⟩ : ∃ M, M = m.length := ⟨_, rfl⟩
  rw [← hM] at hc9 e1 hl hN
  have hb0 := ho.blk
  rw [← hM] at hb0
  replace hb0 := Lib.hid hb0
  have ho0 := Lib.hid ho
  have hr0 := Lib.hid hr
  replace hM := Lib.hid hM
  replace hap := Lib.hid hap
  replace hyl := Lib.hid hyl
  clear ho hr
  have e2 : IntKind.i64.wrap (64 - (N : Int)) = 64 - (N : Int) := IntWalk.i64_in _ (by omega)
  have hN64 : N < 64 := by omega
  replace hN := Lib.hid hN
  by_cases hN0 : N = 0
  ·   subst hN0
      have hf0 : Frm (fun k => k = g) w (w.setCell ⟨g, 9, none⟩ (.int .i64 ((M : Int) + n))) := (Frm.refl (fun k => k = g) w).setCell (p := ⟨g, 9, none⟩) (fun _ => rfl) _
      have lb := dig_s9 hb0.out (stOf_length ..) (.int .i64 ((M : Int) + n))
      have lown := ho0.out.own.none_.frm hf0 (fun b hb e => ho0.out.ne (e ▸ hb))
      have lnb : ∀ b, bl (some ⟨b2, o2, none⟩) = some b → ¬ b = g := fun b hb e => hap.out.2 (.inl (by simp [bl] at hb; omega))
      have lrd := hr0.out.frm hf0 lnb
      have lr : restOf m = [] := List.eq_nil_of_length_eq_zero (by rw [restOf_length, ← hM.out]; exact hN.out.symm)
      have lg := hG.frm hf0 (fun k hk e => hgn (e ▸ hk))
      have lAg := ho0.out.ne
      have lL : ((M : Int) + n) = ((m ++ ys).length : Int) := by rw [List.length_append, hyl.out, ← hM.out]; simp
      have l01 : Frm (DigF g A) w (w.setCell ⟨g, 9, none⟩ (.int .i64 ((M : Int) + n))) := hf0.mono fun _ _ h => Or.inl h
      replace hf0 := Lib.hid hf0
      replace lb := Lib.hid lb
      replace lown := Lib.hid lown
      replace lnb := Lib.hid lnb
      replace lrd := Lib.hid lrd
      replace lr := Lib.hid lr
      replace lg := Lib.hid lg
      replace lAg := Lib.hid lAg
      replace lL := Lib.hid lL
      replace l01 := Lib.hid l01
      go_enter Tryd.func44, Tryd.ntmps44
      go_wp2
      go_loopw [1] (fun v wr => ∃ j o3 c3 : Nat, j ≤ n ∧ v = .slice (some ⟨b2, o3, none⟩) (n - j) c3 ∧ n - j ≤ c3 ∧ Rd (w.setCell ⟨g, 9, none⟩ (.int .i64 ((M : Int) + n))) 1 (some ⟨b2, o3, none⟩) (n - j) (nums .u8 (ys.drop j)) ∧ Blk wr g 108 (nums .u32 (stOf S (m ++ ys.take j)) ++ [.slice A 0 c, .int .i64 ((M : Int) + n)]) ∧ restOf (m ++ ys.take j) = [] ∧ Frm (fun k => k = g) (w.setCell ⟨g, 9, none⟩ (.int .i64 ((M : Int) + n))) wr) (fun v _ => lenV v)
      case atStart => exact ⟨0, o2, c2, Nat.zero_le _, by first | (simp; done) | (simp; omega), by omega, by simpa using lrd.out, by simpa using lb.out, by simpa using lr.out, Frm.refl _ _⟩
      case round =>
        obtain ⟨j, o3, c3, hj, rfl, hc3, hrd0, hb, hrr, hf⟩ := hrel
        have hrd := hrd0.frm hf lnb.out
        have hg := (lg.out.frm hf (fun k hk e => hgn (e ▸ hk)))
        by_cases h64 : n - j < 64
        · have h64' : ¬ (64 : Int) ≤ ((n - j : Nat) : Int) := by omega
          have hown := lown.out.frm hf (fun b hb e => lAg.out (e ▸ hb))
          have hc8 := dig_c8 hb (stOf_length ..)
          replace hb := Lib.hid hb
          replace hf := Lib.hid hf
          replace hrr := Lib.hid hrr
          replace hrd := Lib.hid hrd
          replace hown := Lib.hid hown
          clear hg hrd0
          go_wp2_with (at_builtin; refine list_app rfl appBytes rfl rfl rfl hown.out hrd.out nums_one (by omega) ?_; intro A3 c4 w3 hown3 hf3 hat3; have hb3 := hb.out.frm hf3 lAg.out; have hc4 := dig_c8 hb3 (stOf_length ..); have hz4 := hb3.frozen 8; replace hown3 := Lib.hid hown3; replace hf3 := Lib.hid hf3; replace hat3 := Lib.hid hat3; replace hb3 := Lib.hid hb3)
          go_end0
          refine ⟨rfl, ?_⟩
          rw [show m ++ ys = m ++ ys from rfl]
          refine dig_fin (n := n) lL.out l01.out (.inl rfl) hyl.out h64 hrr.out hf.out hf3.out hat3.out hb3.out ?_ _ (by omega)
          simpa using hown3.out
        · have h64' : (64 : Int) ≤ ((n - j : Nat) : Int) := by omega
          have h64n : 64 ≤ n - j := by omega
          have hrd64 := hrd.take 64 h64n
          rw [← nums_take] at hrd64
          have hs := st_full S (m ++ ys.take j) ((ys.drop j).take 64) (by rw [hrr, List.length_take, List.length_drop, show (ys).length = n from hyl.out]; simp; omega)
          rw [List.append_assoc, ← List.take_add, hrr, List.nil_append] at hs
          replace hs := Lib.hid hs
          replace hb := Lib.hid hb
          replace hf := Lib.hid hf
          replace hrr := Lib.hid hrr
          replace hrd := Lib.hid hrd
          replace hrd0 := Lib.hid hrd0
          replace hrd64 := Lib.hid hrd64
          replace hg := Lib.hid hg
          go_wp2_with fail
          refine (block_any g (stOf S (m ++ ys.take j)) _ _ (stOf_length ..) b2 o3 c3 ((ys.drop j).take 64) _ S.tab S.htab hg.out.1 hb.out hrd64.out (by omega)).mono ?_
          rintro e w4 ⟨rfl, hf4, hb4⟩
          rw [← hs.out.1] at hb4
          replace hf4 := Lib.hid (hf.out.trans hf4 fun _ _ h => h)
          replace hb4 := Lib.hid hb4
          by_cases hcc : c3 = 64
          · go_wp2
            go_roundw
            case rel => exact ⟨j + 64, o3, 0, by omega, by rw [show n - (j + 64) = n - j - 64 by omega], by omega, by rw [show n - (j + 64) = 0 by omega, List.drop_of_length_le (by rw [show (ys).length = n from hyl.out]; omega)]; exact Rd.nil _ _ _, hb4.out, hs.out.2, hf4.out⟩
            case measure => simp [lenV]; omega
          · go_wp2
            go_roundw
            case rel => exact ⟨j + 64, o3 + 64, c3 - 64, by omega, by rw [show n - (j + 64) = n - j - 64 by omega], by omega, by rw [show n - (j + 64) = n - j - 64 by omega, ← List.drop_drop, nums_drop]; exact hrd0.out.drop 64 (by omega), hb4.out, hs.out.2, hf4.out⟩
            case measure => simp [lenV]; omega
  · have hN0' : 0 < N := by omega
    go_enter Tryd.func44, Tryd.ntmps44
    by_cases hk : n < 64 - N
    · have hk' : (n : Int) < 64 - (N : Int) := by omega
      go_wp2
      have hf0 : Frm (fun k => k = g) w (w.setCell ⟨g, 9, none⟩ (.int .i64 ((M : Int) + n))) := (Frm.refl (fun k => k = g) w).setCell (p := ⟨g, 9, none⟩) (fun _ => rfl) _
      have hbg := dig_s9 hb0.out (stOf_length ..) (.int .i64 ((M : Int) + n))
      have hoo := ho0.out.own.frm hf0 (fun b hb e => ho0.out.ne (e ▸ hb))
      have hrr := (hr0.out.frm hf0 (fun b hb e => hap.out.2 (.inl (by simp [bl] at hb; omega)))).take n (by omega)
      rw [← nums_take] at hrr
      generalize hws : w.setCell ⟨g, 9, none⟩ (.int .i64 ((M : Int) + n)) = ws at *
      have hsz : ws.heap.size = w.heap.size := by rw [← hws]; simp
      replace hf0 := Lib.hid hf0
      replace hbg := Lib.hid hbg
      replace hoo := Lib.hid hoo
      replace hrr := Lib.hid hrr
      replace hws := Lib.hid hws
      apply wp_region_typed (DigF g A) (nf [4, 8, 11]) [8, 11] (vt [(Is _), (Is _), (Is _), (Is _), (fun u _ => u = .slice A N c), (Is _), (Is _), (Is _), (fun u _ => ∃ A2 c2, u = .slice A2 (N + n) c2), (Is _), (Is _), (fun _ _ => True)]) (wt [(fun _ w' => Blk w' g 108 (nums .u32 (stOf S m) ++ [.slice A N c, .int .i64 ((M : Int) + n)]) ∧ Own w' 5 1 A N c (nums .u8 (restOf m)) ∧ Rd w' 1 (some ⟨b2, o2, none⟩) n (nums .u8 (ys.take n))), (fun vs w' => ∃ A2 c2, vs = [.slice A2 (N + n) c2] ∧ Blk w' g 108 (nums .u32 (stOf S m) ++ [.slice A N c, .int .i64 ((M : Int) + n)]) ∧ Own w' 5 1 A2 (N + n) c2 (nums .u8 (restOf m ++ ys.take n)) ∧ (bl A2 = bl A ∨ ∃ b, bl A2 = some b ∧ ws.heap.size ≤ b)), (fun _ w' => ∃ A2 c2, Blk w' g 108 (nums .u32 (stOf S m) ++ [.slice A2 (N + n) c2, .int .i64 ((M : Int) + n)]) ∧ Own w' 5 1 A2 (N + n) c2 (nums .u8 (restOf m ++ ys.take n)) ∧ (bl A2 = bl A ∨ ∃ b, bl A2 = some b ∧ ws.heap.size ≤ b))]) (by kernel_rfl) (by kernel_rfl) (by kernel_rfl) (by kernel_rfl) (hop := owesL_all ?hop)
      case hop =>
        refine owesL_cons (i' := 1) rfl ?_ ?_
        · refine o_pure rfl (by kernel_rfl) fun us a wz hA hv K hK => ?_
          have s0 := slot_out hA (t := 0) (by kernel_rfl)
          clear hA hv
          go_wp2
          exact rfl
        refine owesL_cons (i' := 2) rfl ?_ ?_
        · refine o_pure rfl (by kernel_rfl) fun us a wz hA hv K hK => ?_
          have s0 := slot_out hA (t := 0) (by kernel_rfl)
          clear hA hv
          go_wp2
          exact rfl
        refine owesL_cons (i' := 3) rfl ?_ ?_
        · refine o_pure rfl (by kernel_rfl) fun us a wz hA hv K hK => ?_
          have s30 := (slot_in hA (t := 30) (by simp) (j := 1) (by kernel_rfl)).trans (hv 1 (by kernel_rfl))
          clear hA hv
          go_wp2
          exact rfl
        refine owesL_cons (i' := 4) rfl ?_ ?_
        · refine o_pure rfl (by kernel_rfl) fun us a wz hA hv K hK => ?_
          have s31 := (slot_in hA (t := 31) (by simp) (j := 2) (by kernel_rfl)).trans (hv 2 (by kernel_rfl))
          clear hA hv
          go_wp2
          exact rfl
        refine owesL_cons (i' := 5) rfl ?_ ?_
        · refine o_q rfl (by kernel_rfl) (by kernel_rfl) (pl := []) (by kernel_rfl) fun us a wz hA hv hf hw K hK => ?_
          have s32 := (slot_in hA (t := 32) (by simp) (j := 3) (by kernel_rfl)).trans (hv 3 (by kernel_rfl))
          replace hw : ((fun _ w' => Blk w' g 108 (nums .u32 (stOf S m) ++ [.slice A N c, .int .i64 ((M : Int) + n)]) ∧ Own w' 5 1 A N c (nums .u8 (restOf m)) ∧ Rd w' 1 (some ⟨b2, o2, none⟩) n (nums .u8 (ys.take n))) : List Value → World → Prop) [] wz := hw
          clear hA hv
          have k0 := dig_c8 hw.1 (stOf_length ..)
          clear hw hf
          go_wp2
          exact hK _ _ rfl (Frm.refl _ _)
        refine owesL_cons (i' := 6) rfl ?_ ?_
        · refine o_pure rfl (by kernel_rfl) fun us a wz hA hv K hK => ?_
          have s1 := slot_out hA (t := 1) (by kernel_rfl)
          clear hA hv
          go_wp2
          exact rfl
        refine owesL_cons (i' := 7) rfl ?_ ?_
        · refine o_pure rfl (by kernel_rfl) fun us a wz hA hv K hK => ?_
          have s4 := slot_out hA (t := 4) (by kernel_rfl)
          clear hA hv
          go_wp2
          exact rfl
        refine owesL_cons (i' := 8) rfl ?_ ?_
        · refine o_pure rfl (by kernel_rfl) fun us a wz hA hv K hK => ?_
          have s34 := (slot_in hA (t := 34) (by simp) (j := 5) (by kernel_rfl)).trans (hv 5 (by kernel_rfl))
          have s35 := (slot_in hA (t := 35) (by simp) (j := 6) (by kernel_rfl)).trans (hv 6 (by kernel_rfl))
          clear hA hv
          go_wp2
          exact rfl
        refine owesL_cons (i' := 9) rfl ?_ ?_
        · refine o_p rfl (by kernel_rfl) (by kernel_rfl) (pl := []) (by kernel_rfl) fun us a wz hA hv hf hw K hK => ?_
          have s33 := slot_in hA (t := 33) (by simp) (j := 4) (by kernel_rfl)
          have u4 : ((fun u _ => u = .slice A N c) : Value → World → Prop) (us 4) wz := hv 4 (by kernel_rfl)
          have s36 := (slot_in hA (t := 36) (by simp) (j := 7) (by kernel_rfl)).trans (hv 7 (by kernel_rfl))
          replace hw : ((fun _ w' => Blk w' g 108 (nums .u32 (stOf S m) ++ [.slice A N c, .int .i64 ((M : Int) + n)]) ∧ Own w' 5 1 A N c (nums .u8 (restOf m)) ∧ Rd w' 1 (some ⟨b2, o2, none⟩) n (nums .u8 (ys.take n))) : List Value → World → Prop) [] wz := hw
          clear hA hv
          refine wp_app appBytes rfl (ev (s33.trans u4)) (ev s36) hw.2.1 hw.2.2 nums_one (by omega) fun A2 c2 w2 hown hf2 hat => ?_
          rw [show N + n = (N + n) by omega] at hown ⊢
          refine hK _ _ ⟨A2, c2, rfl⟩ ⟨A2, c2, rfl, hw.1.frm hf2 (fun e => hw.2.1.ne_blk hw.1 (by decide) e), by rw [nums_append]; exact hown, ?_⟩ (hf2.mono fun k _ h => .inr h)
          rcases hat with h | h
          · exact .inl h
          · exact .inr ⟨_, h, hf.size⟩
        refine owesL_cons (i' := 10) rfl ?_ ?_
        · refine o_pure rfl (by kernel_rfl) fun us a wz hA hv K hK => ?_
          have s29 := (slot_in hA (t := 29) (by simp) (j := 0) (by kernel_rfl)).trans (hv 0 (by kernel_rfl))
          clear hA hv
          go_wp2
          exact rfl
        refine owesL_cons (i' := 11) rfl ?_ ?_
        · refine o_pure rfl (by kernel_rfl) fun us a wz hA hv K hK => ?_
          have s38 := (slot_in hA (t := 38) (by simp) (j := 9) (by kernel_rfl)).trans (hv 9 (by kernel_rfl))
          clear hA hv
          go_wp2
          exact rfl
        refine owesL_cons (i' := 12) rfl ?_ ?_
        · refine o_p rfl (by kernel_rfl) (by kernel_rfl) (pl := [8]) (by kernel_rfl) fun us a wz hA hv hf hw K hK => ?_
          have s39 := (slot_in hA (t := 39) (by simp) (j := 10) (by kernel_rfl)).trans (hv 10 (by kernel_rfl))
          have s37 := slot_in hA (t := 37) (by simp) (j := 8) (by kernel_rfl)
          have u8 : ((fun u _ => ∃ A2 c2, u = .slice A2 (N + n) c2) : Value → World → Prop) (us 8) wz := hv 8 (by kernel_rfl)
          replace hw : ((fun vs w' => ∃ A2 c2, vs = [.slice A2 (N + n) c2] ∧ Blk w' g 108 (nums .u32 (stOf S m) ++ [.slice A N c, .int .i64 ((M : Int) + n)]) ∧ Own w' 5 1 A2 (N + n) c2 (nums .u8 (restOf m ++ ys.take n)) ∧ (bl A2 = bl A ∨ ∃ b, bl A2 = some b ∧ ws.heap.size ≤ b)) : List Value → World → Prop) [us 8] wz := hw
          clear hA hv
          obtain ⟨A2, c2, e14, hb, hown, hat⟩ := hw
          have e14 : us 8 = _ := List.head_eq_of_cons_eq e14
          have hc := dig_c8 hb (stOf_length ..)
          have hz := hb.frozen 8
          replace hb := Lib.hid hb
          clear u8
          go_wp2
          have hf3 : Frm (fun k => k = g) wz (wz.setCell ⟨g, 8, none⟩ (.slice A2 (N + n) c2)) := (Frm.refl (fun k => k = g) wz).setCell (p := ⟨g, 8, none⟩) (fun _ => rfl) _
          exact hK undef _ trivial ⟨A2, c2, dig_s8 hb.out (stOf_length ..) _, hown.frm hf3 (fun b hb' e => hown.ne_blk hb.out (by decide) (e ▸ hb')), hat⟩ (hf3.mono fun k _ h => .inl h)
        exact owesL_nil
      case hV => exact Stabs.vt (.cons (stab_is _ _) (.cons (stab_is _ _) (.cons (stab_is _ _) (.cons (stab_is _ _) (.cons (stab_pure _ _) (.cons (stab_is _ _) (.cons (stab_is _ _) (.cons (stab_is _ _) (.cons (stab_pure _ _) (.cons (stab_is _ _) (.cons (stab_is _ _) (.cons (stab_true _) (.nil)))))))))))))
      case hW =>
        refine StabWs.wt (.cons (fun _ _ _ h hf => ⟨h.1.frm hf fun h => h, h.2.1.frm hf fun _ _ h => h, h.2.2.frm hf fun _ _ h => h⟩) (.cons (fun vs w1 w2 h hf => ?_) (.cons (fun vs w1 w2 h hf => ?_) .nil)))
        · obtain ⟨A2, c2, e, hb, hown, hat⟩ := h
          exact ⟨A2, c2, e, hb.frm hf fun h => h, hown.frm hf fun _ _ h => h, hat⟩
        · obtain ⟨A2, c2, hb, hown, hat⟩ := h
          exact ⟨A2, c2, hb.frm hf fun h => h, hown.frm hf fun _ _ h => h, hat⟩
      case h0 =>
        exact ⟨hbg.out.frm (Frm.refl (fun _ => False) ws).drew fun h => h, hoo.out.frm (Frm.refl (fun _ => False) ws).drew fun _ _ h => h, hrr.out.frm (Frm.refl (fun _ => False) ws).drew fun _ _ h => h⟩
      intro usx wx hvx hwx hfx
      have qx0 : usx 0 = _ := hvx 0 (by decide)
      have qx1 : usx 1 = _ := hvx 1 (by decide)
      have qx2 : usx 2 = _ := hvx 2 (by decide)
      have qx3 : usx 3 = _ := hvx 3 (by decide)
      have qx4 : ((fun u _ => u = .slice A N c) : Value → World → Prop) (usx 4) wx := hvx 4 (by decide)
      have qx5 : usx 5 = _ := hvx 5 (by decide)
      have qx6 : usx 6 = _ := hvx 6 (by decide)
      have qx7 : usx 7 = _ := hvx 7 (by decide)
      have qx8 : ((fun u _ => ∃ A2 c2, u = .slice A2 (N + n) c2) : Value → World → Prop) (usx 8) wx := hvx 8 (by decide)
      have qx9 : usx 9 = _ := hvx 9 (by decide)
      have qx10 : usx 10 = _ := hvx 10 (by decide)
      replace hwx : ((fun _ w' => ∃ A2 c2, Blk w' g 108 (nums .u32 (stOf S m) ++ [.slice A2 (N + n) c2, .int .i64 ((M : Int) + n)]) ∧ Own w' 5 1 A2 (N + n) c2 (nums .u8 (restOf m ++ ys.take n)) ∧ (bl A2 = bl A ∨ ∃ b, bl A2 = some b ∧ ws.heap.size ≤ b)) : List Value → World → Prop) [usx 8, usx 11] wx := hwx
      rw [fill_all (ds := [some 29, some 30, some 31, some 32, some 33, some 34, some 35, some 36, some 37, some 38, some 39, none]) (by kernel_rfl)]
      simp only [putAll, Act.put, List.setIfInBounds_toArray, List.set_cons_succ, List.set_cons_zero, Nat.reduceAdd, qx0, qx1, qx2, qx3, qx5, qx6, qx7, qx9, qx10]
      clear hvx qx0 qx1 qx2 qx3 qx5 qx6 qx7 qx9 qx10
      obtain ⟨A1, c1, hb1, hown1, hat1⟩ := hwx
      have hfx1 : Frm (DigF g A) w wx := (hf0.out.mono fun _ _ h => Or.inl h).trans ((Frm.refl _ ws).drew.trans hfx fun _ _ h => h) fun b hb h => h
      rw [hsz] at hat1
      have hc8 := dig_c8 hb1 (stOf_length ..)
      have hz8 := hb1.frozen 8
      replace hb1 := Lib.hid hb1
      replace hown1 := Lib.hid hown1
      replace hat1 := Lib.hid hat1
      replace hfx1 := Lib.hid hfx1
      have hs64 : (N : Int) + n < 64 := by omega
      go_wp2
      all_goals
        (try simp only [Exit.inBlock, Exit.then])
        refine bodyPost_ret (results_none rfl _ _ _) rfl ?_
        have hs := st_small S m ys (by rw [restOf_length, ← hM.out, ← hN.out, hyl.out]; omega)
        refine ⟨rfl, A1, N + n, c1, ⟨?_, ?_⟩, hfx1.out, hat1.out⟩
        · rw [hs.1, List.length_append, hyl.out, ← hM.out, Int.natCast_add]; exact hb1.out
        · rw [hs.2]; simpa [List.take_of_length_le (Nat.le_of_eq hyl.out)] using hown1.out
    · have hk' : 64 - (N : Int) ≤ (n : Int) := by omega
      go_wp2
      have hf0 : Frm (fun k => k = g) w (w.setCell ⟨g, 9, none⟩ (.int .i64 ((M : Int) + n))) := (Frm.refl (fun k => k = g) w).setCell (p := ⟨g, 9, none⟩) (fun _ => rfl) _
      have hbg := dig_s9 hb0.out (stOf_length ..) (.int .i64 ((M : Int) + n))
      have hoo := ho0.out.own.frm hf0 (fun b hb e => ho0.out.ne (e ▸ hb))
      have hrr := (hr0.out.frm hf0 (fun b hb e => hap.out.2 (.inl (by simp [bl] at hb; omega)))).take (64 - N) (by omega)
      rw [← nums_take] at hrr
      generalize hws : w.setCell ⟨g, 9, none⟩ (.int .i64 ((M : Int) + n)) = ws at *
      have hsz : ws.heap.size = w.heap.size := by rw [← hws]; simp
      replace hf0 := Lib.hid hf0
      replace hbg := Lib.hid hbg
      replace hoo := Lib.hid hoo
      replace hrr := Lib.hid hrr
      replace hws := Lib.hid hws
      apply wp_region_typed (DigF g A) (nf [4, 8, 11]) [8, 11] (vt [(Is _), (Is _), (Is _), (Is _), (fun u _ => u = .slice A N c), (Is _), (Is _), (Is _), (fun u _ => ∃ A2 c2, u = .slice A2 64 c2), (Is _), (Is _), (fun _ _ => True)]) (wt [(fun _ w' => Blk w' g 108 (nums .u32 (stOf S m) ++ [.slice A N c, .int .i64 ((M : Int) + n)]) ∧ Own w' 5 1 A N c (nums .u8 (restOf m)) ∧ Rd w' 1 (some ⟨b2, o2, none⟩) (64 - N) (nums .u8 (ys.take (64 - N)))), (fun vs w' => ∃ A2 c2, vs = [.slice A2 64 c2] ∧ Blk w' g 108 (nums .u32 (stOf S m) ++ [.slice A N c, .int .i64 ((M : Int) + n)]) ∧ Own w' 5 1 A2 64 c2 (nums .u8 (restOf m ++ ys.take (64 - N))) ∧ (bl A2 = bl A ∨ ∃ b, bl A2 = some b ∧ ws.heap.size ≤ b)), (fun _ w' => ∃ A2 c2, Blk w' g 108 (nums .u32 (stOf S m) ++ [.slice A2 64 c2, .int .i64 ((M : Int) + n)]) ∧ Own w' 5 1 A2 64 c2 (nums .u8 (restOf m ++ ys.take (64 - N))) ∧ (bl A2 = bl A ∨ ∃ b, bl A2 = some b ∧ ws.heap.size ≤ b))]) (by kernel_rfl) (by kernel_rfl) (by kernel_rfl) (by kernel_rfl) (hop := owesL_all ?hop)
      case hop =>
        refine owesL_cons (i' := 1) rfl ?_ ?_
        · refine o_pure rfl (by kernel_rfl) fun us a wz hA hv K hK => ?_
          have s0 := slot_out hA (t := 0) (by kernel_rfl)
          clear hA hv
          go_wp2
          exact rfl
        refine owesL_cons (i' := 2) rfl ?_ ?_
        · refine o_pure rfl (by kernel_rfl) fun us a wz hA hv K hK => ?_
          have s0 := slot_out hA (t := 0) (by kernel_rfl)
          clear hA hv
          go_wp2
          exact rfl
        refine owesL_cons (i' := 3) rfl ?_ ?_
        · refine o_pure rfl (by kernel_rfl) fun us a wz hA hv K hK => ?_
          have s30 := (slot_in hA (t := 30) (by simp) (j := 1) (by kernel_rfl)).trans (hv 1 (by kernel_rfl))
          clear hA hv
          go_wp2
          exact rfl
        refine owesL_cons (i' := 4) rfl ?_ ?_
        · refine o_pure rfl (by kernel_rfl) fun us a wz hA hv K hK => ?_
          have s31 := (slot_in hA (t := 31) (by simp) (j := 2) (by kernel_rfl)).trans (hv 2 (by kernel_rfl))
          clear hA hv
          go_wp2
          exact rfl
        refine owesL_cons (i' := 5) rfl ?_ ?_
        · refine o_q rfl (by kernel_rfl) (by kernel_rfl) (pl := []) (by kernel_rfl) fun us a wz hA hv hf hw K hK => ?_
          have s32 := (slot_in hA (t := 32) (by simp) (j := 3) (by kernel_rfl)).trans (hv 3 (by kernel_rfl))
          replace hw : ((fun _ w' => Blk w' g 108 (nums .u32 (stOf S m) ++ [.slice A N c, .int .i64 ((M : Int) + n)]) ∧ Own w' 5 1 A N c (nums .u8 (restOf m)) ∧ Rd w' 1 (some ⟨b2, o2, none⟩) (64 - N) (nums .u8 (ys.take (64 - N)))) : List Value → World → Prop) [] wz := hw
          clear hA hv
          have k0 := dig_c8 hw.1 (stOf_length ..)
          clear hw hf
          go_wp2
          exact hK _ _ rfl (Frm.refl _ _)
        refine owesL_cons (i' := 6) rfl ?_ ?_
        · refine o_pure rfl (by kernel_rfl) fun us a wz hA hv K hK => ?_
          have s1 := slot_out hA (t := 1) (by kernel_rfl)
          clear hA hv
          go_wp2
          exact rfl
        refine owesL_cons (i' := 7) rfl ?_ ?_
        · refine o_pure rfl (by kernel_rfl) fun us a wz hA hv K hK => ?_
          have s4 := slot_out hA (t := 4) (by kernel_rfl)
          clear hA hv
          go_wp2
          exact rfl
        refine owesL_cons (i' := 8) rfl ?_ ?_
        · refine o_pure rfl (by kernel_rfl) fun us a wz hA hv K hK => ?_
          have s34 := (slot_in hA (t := 34) (by simp) (j := 5) (by kernel_rfl)).trans (hv 5 (by kernel_rfl))
          have s35 := (slot_in hA (t := 35) (by simp) (j := 6) (by kernel_rfl)).trans (hv 6 (by kernel_rfl))
          clear hA hv
          go_wp2
          exact rfl
        refine owesL_cons (i' := 9) rfl ?_ ?_
        · refine o_p rfl (by kernel_rfl) (by kernel_rfl) (pl := []) (by kernel_rfl) fun us a wz hA hv hf hw K hK => ?_
          have s33 := slot_in hA (t := 33) (by simp) (j := 4) (by kernel_rfl)
          have u4 : ((fun u _ => u = .slice A N c) : Value → World → Prop) (us 4) wz := hv 4 (by kernel_rfl)
          have s36 := (slot_in hA (t := 36) (by simp) (j := 7) (by kernel_rfl)).trans (hv 7 (by kernel_rfl))
          replace hw : ((fun _ w' => Blk w' g 108 (nums .u32 (stOf S m) ++ [.slice A N c, .int .i64 ((M : Int) + n)]) ∧ Own w' 5 1 A N c (nums .u8 (restOf m)) ∧ Rd w' 1 (some ⟨b2, o2, none⟩) (64 - N) (nums .u8 (ys.take (64 - N)))) : List Value → World → Prop) [] wz := hw
          clear hA hv
          refine wp_app appBytes rfl (ev (s33.trans u4)) (ev s36) hw.2.1 hw.2.2 nums_one (by omega) fun A2 c2 w2 hown hf2 hat => ?_
          rw [show N + (64 - N) = 64 by omega] at hown ⊢
          refine hK _ _ ⟨A2, c2, rfl⟩ ⟨A2, c2, rfl, hw.1.frm hf2 (fun e => hw.2.1.ne_blk hw.1 (by decide) e), by rw [nums_append]; exact hown, ?_⟩ (hf2.mono fun k _ h => .inr h)
          rcases hat with h | h
          · exact .inl h
          · exact .inr ⟨_, h, hf.size⟩
        refine owesL_cons (i' := 10) rfl ?_ ?_
        · refine o_pure rfl (by kernel_rfl) fun us a wz hA hv K hK => ?_
          have s29 := (slot_in hA (t := 29) (by simp) (j := 0) (by kernel_rfl)).trans (hv 0 (by kernel_rfl))
          clear hA hv
          go_wp2
          exact rfl
        refine owesL_cons (i' := 11) rfl ?_ ?_
        · refine o_pure rfl (by kernel_rfl) fun us a wz hA hv K hK => ?_
          have s38 := (slot_in hA (t := 38) (by simp) (j := 9) (by kernel_rfl)).trans (hv 9 (by kernel_rfl))
          clear hA hv
          go_wp2
          exact rfl
        refine owesL_cons (i' := 12) rfl ?_ ?_
        · refine o_p rfl (by kernel_rfl) (by kernel_rfl) (pl := [8]) (by kernel_rfl) fun us a wz hA hv hf hw K hK => ?_
          have s39 := (slot_in hA (t := 39) (by simp) (j := 10) (by kernel_rfl)).trans (hv 10 (by kernel_rfl))
          have s37 := slot_in hA (t := 37) (by simp) (j := 8) (by kernel_rfl)
          have u8 : ((fun u _ => ∃ A2 c2, u = .slice A2 64 c2) : Value → World → Prop) (us 8) wz := hv 8 (by kernel_rfl)
          replace hw : ((fun vs w' => ∃ A2 c2, vs = [.slice A2 64 c2] ∧ Blk w' g 108 (nums .u32 (stOf S m) ++ [.slice A N c, .int .i64 ((M : Int) + n)]) ∧ Own w' 5 1 A2 64 c2 (nums .u8 (restOf m ++ ys.take (64 - N))) ∧ (bl A2 = bl A ∨ ∃ b, bl A2 = some b ∧ ws.heap.size ≤ b)) : List Value → World → Prop) [us 8] wz := hw
          clear hA hv
          obtain ⟨A2, c2, e14, hb, hown, hat⟩ := hw
          have e14 : us 8 = _ := List.head_eq_of_cons_eq e14
          have hc := dig_c8 hb (stOf_length ..)
          have hz := hb.frozen 8
          replace hb := Lib.hid hb
          clear u8
          go_wp2
          have hf3 : Frm (fun k => k = g) wz (wz.setCell ⟨g, 8, none⟩ (.slice A2 64 c2)) := (Frm.refl (fun k => k = g) wz).setCell (p := ⟨g, 8, none⟩) (fun _ => rfl) _
          exact hK undef _ trivial ⟨A2, c2, dig_s8 hb.out (stOf_length ..) _, hown.frm hf3 (fun b hb' e => hown.ne_blk hb.out (by decide) (e ▸ hb')), hat⟩ (hf3.mono fun k _ h => .inl h)
        exact owesL_nil
      case hV => exact Stabs.vt (.cons (stab_is _ _) (.cons (stab_is _ _) (.cons (stab_is _ _) (.cons (stab_is _ _) (.cons (stab_pure _ _) (.cons (stab_is _ _) (.cons (stab_is _ _) (.cons (stab_is _ _) (.cons (stab_pure _ _) (.cons (stab_is _ _) (.cons (stab_is _ _) (.cons (stab_true _) (.nil)))))))))))))
      case hW =>
        refine StabWs.wt (.cons (fun _ _ _ h hf => ⟨h.1.frm hf fun h => h, h.2.1.frm hf fun _ _ h => h, h.2.2.frm hf fun _ _ h => h⟩) (.cons (fun vs w1 w2 h hf => ?_) (.cons (fun vs w1 w2 h hf => ?_) .nil)))
        · obtain ⟨A2, c2, e, hb, hown, hat⟩ := h
          exact ⟨A2, c2, e, hb.frm hf fun h => h, hown.frm hf fun _ _ h => h, hat⟩
        · obtain ⟨A2, c2, hb, hown, hat⟩ := h
          exact ⟨A2, c2, hb.frm hf fun h => h, hown.frm hf fun _ _ h => h, hat⟩
      case h0 =>
        exact ⟨hbg.out.frm (Frm.refl (fun _ => False) ws).drew fun h => h, hoo.out.frm (Frm.refl (fun _ => False) ws).drew fun _ _ h => h, hrr.out.frm (Frm.refl (fun _ => False) ws).drew fun _ _ h => h⟩
      intro usx wx hvx hwx hfx
      have qx0 : usx 0 = _ := hvx 0 (by decide)
      have qx1 : usx 1 = _ := hvx 1 (by decide)
      have qx2 : usx 2 = _ := hvx 2 (by decide)
      have qx3 : usx 3 = _ := hvx 3 (by decide)
      have qx4 : ((fun u _ => u = .slice A N c) : Value → World → Prop) (usx 4) wx := hvx 4 (by decide)
      have qx5 : usx 5 = _ := hvx 5 (by decide)
      have qx6 : usx 6 = _ := hvx 6 (by decide)
      have qx7 : usx 7 = _ := hvx 7 (by decide)
      have qx8 : ((fun u _ => ∃ A2 c2, u = .slice A2 64 c2) : Value → World → Prop) (usx 8) wx := hvx 8 (by decide)
      have qx9 : usx 9 = _ := hvx 9 (by decide)
      have qx10 : usx 10 = _ := hvx 10 (by decide)
      replace hwx : ((fun _ w' => ∃ A2 c2, Blk w' g 108 (nums .u32 (stOf S m) ++ [.slice A2 64 c2, .int .i64 ((M : Int) + n)]) ∧ Own w' 5 1 A2 64 c2 (nums .u8 (restOf m ++ ys.take (64 - N))) ∧ (bl A2 = bl A ∨ ∃ b, bl A2 = some b ∧ ws.heap.size ≤ b)) : List Value → World → Prop) [usx 8, usx 11] wx := hwx
      rw [fill_all (ds := [some 29, some 30, some 31, some 32, some 33, some 34, some 35, some 36, some 37, some 38, some 39, none]) (by kernel_rfl)]
      simp only [putAll, Act.put, List.setIfInBounds_toArray, List.set_cons_succ, List.set_cons_zero, Nat.reduceAdd, qx0, qx1, qx2, qx3, qx5, qx6, qx7, qx9, qx10]
      clear hvx qx0 qx1 qx2 qx3 qx5 qx6 qx7 qx9 qx10
      obtain ⟨A1, c1, hb1, hown1, hat1⟩ := hwx
      have hfx1 : Frm (DigF g A) w wx := (hf0.out.mono fun _ _ h => Or.inl h).trans ((Frm.refl _ ws).drew.trans hfx fun _ _ h => h) fun b hb h => h
      rw [hsz] at hat1
      have hc8 := dig_c8 hb1 (stOf_length ..)
      have hz8 := hb1.frozen 8
      replace hb1 := Lib.hid hb1
      replace hown1 := Lib.hid hown1
      replace hat1 := Lib.hid hat1
      replace hfx1 := Lib.hid hfx1
      have hk64 : 64 - N ≤ n := by omega
      have hbl := hown1.out.some_ (by decide)
      obtain ⟨bA, rfl⟩ := hbl
      have hgx := hG.frm hfx1.out (fun k hk e => by
        rcases e with e | e
        · exact hgn (e ▸ hk)
        · exact hgA k hk e)
      have hrx := (hr0.out.frm hfx1.out (fun b hb e => hap.out.2 (by have : b = b2 := by simpa [bl] using hb.symm
                                                                     exact this ▸ e)))
      have hbA : bA ≠ g := fun e => hown1.out.ne_blk hb1.out (by decide) (by rw [e]; rfl)
      have hsf := st_full S m (ys.take (64 - N)) (by rw [restOf_length, ← hM.out, ← hN.out, List.length_take, hyl.out]; omega)
      have hcap := hown1.out.cap
      replace hgx := Lib.hid hgx
      replace hrx := Lib.hid hrx
      replace hsf := Lib.hid hsf
      by_cases hcn : c2 = 64 - N
      · have hn64 : n = 64 - N := by omega
        have hl0 : n - (64 - N) = 0 := by omega
        go_wp2_with fail
        refine (block_any g (stOf S m) _ _ (stOf_length ..) bA 0 c1 (restOf m ++ ys.take (64 - N)) _ S.tab S.htab hgx.out.1 hb1.out hown1.out.rd (by omega)).mono ?_
        rintro e w5 ⟨rfl, hf5, hb5⟩
        rw [← hsf.out.1] at hb5
        have hg2 : b2 ≠ g := fun e => hap.out.2 (.inl e)
        have hc8 := dig_c8 hb5 (stOf_length ..)
        have hz8 := hb5.frozen 8
        have hown5 := hown1.out.frm hf5 fun b hb e => hown1.out.ne_blk hb1.out (by decide) (e ▸ hb)
        have hf6 : Frm (fun k => k = g) w5 (w5.setCell ⟨g, 8, none⟩ (.slice (some ⟨bA, 0, none⟩) 0 c1)) := (Frm.refl (fun k => k = g) w5).setCell (p := ⟨g, 8, none⟩) (fun _ => rfl) _
        have lown := hown5.none_.frm hf6 fun b hb e => hown1.out.ne_blk hb1.out (by decide) (e ▸ hb)
        have lb := dig_s8 hb5 (stOf_length ..) (.slice (some ⟨bA, 0, none⟩) 0 c1)
        have lg := (hgx.out.frm hf5 fun k hk e => hgn (e ▸ hk)).frm hf6 fun k hk e => hgn (e ▸ hk)
        have l01 := (hfx1.out.trans hf5 fun b _ h => Or.inl h).trans hf6 fun b _ h => Or.inl h
        have lrd : Rd (w5.setCell ⟨g, 8, none⟩ (.slice (some ⟨bA, 0, none⟩) 0 c1)) 1 (some ⟨b2, o2, none⟩) (n - (64 - N)) (nums .u8 (ys.drop (64 - N))) := by
          rw [hl0, List.drop_of_length_le (by rw [hyl.out]; omega)]; exact Rd.nil _ _ _
        have lnb : ∀ b, bl (some ⟨b2, o2, none⟩) = some b → ¬ b = g := fun b hb e => hg2 (by rw [← e]; simpa [bl] using hb)
        have lr := hsf.out.2
        have lAg : bl (some (⟨bA, 0, none⟩ : Addr)) ≠ some g := fun e => hbA (by simpa [bl] using e)
        have lL : ((M : Int) + n) = ((m ++ ys.take (64 - N) ++ ys.drop (64 - N)).length : Int) := by rw [List.append_assoc, List.take_append_drop, List.length_append, hyl.out, ← hM.out]; simp
        clear hf5 hb5 hown5 hf6
        replace lb := Lib.hid lb
        replace lown := Lib.hid lown
        replace lnb := Lib.hid lnb
        replace lrd := Lib.hid lrd
        replace lr := Lib.hid lr
        replace lg := Lib.hid lg
        replace lAg := Lib.hid lAg
        replace lL := Lib.hid lL
        replace l01 := Lib.hid l01
        go_wp2
        go_loopw [1] (fun v wr => ∃ j o3 c3 : Nat, j ≤ (n - (64 - N)) ∧ v = .slice (some ⟨b2, o3, none⟩) ((n - (64 - N)) - j) c3 ∧ (n - (64 - N)) - j ≤ c3 ∧ Rd (w5.setCell ⟨g, 8, none⟩ (.slice (some ⟨bA, 0, none⟩) 0 c1)) 1 (some ⟨b2, o3, none⟩) ((n - (64 - N)) - j) (nums .u8 ((ys.drop (64 - N)).drop j)) ∧ Blk wr g 108 (nums .u32 (stOf S ((m ++ ys.take (64 - N)) ++ (ys.drop (64 - N)).take j)) ++ [.slice (some ⟨bA, 0, none⟩) 0 c1, .int .i64 ((M : Int) + n)]) ∧ restOf ((m ++ ys.take (64 - N)) ++ (ys.drop (64 - N)).take j) = [] ∧ Frm (fun k => k = g) (w5.setCell ⟨g, 8, none⟩ (.slice (some ⟨bA, 0, none⟩) 0 c1)) wr) (fun v _ => lenV v)
        case atStart => exact ⟨0, o2, 0, Nat.zero_le _, by first | (simp; done) | (simp; omega), by omega, by simpa using lrd.out, by simpa using lb.out, by simpa using lr.out, Frm.refl _ _⟩
        case round =>
          obtain ⟨j, o3, c3, hj, rfl, hc3, hrd0, hb, hrr, hf⟩ := hrel
          have hrd := hrd0.frm hf lnb.out
          have hg := (lg.out.frm hf (fun k hk e => hgn (e ▸ hk)))
          by_cases h64 : (n - (64 - N)) - j < 64
          · have h64' : ¬ (64 : Int) ≤ (((n - (64 - N)) - j : Nat) : Int) := by omega
            have hown := lown.out.frm hf (fun b hb e => lAg.out (e ▸ hb))
            have hc8 := dig_c8 hb (stOf_length ..)
            replace hb := Lib.hid hb
            replace hf := Lib.hid hf
            replace hrr := Lib.hid hrr
            replace hrd := Lib.hid hrd
            replace hown := Lib.hid hown
            clear hg hrd0
            go_wp2_with (at_builtin; refine list_app rfl appBytes rfl rfl rfl hown.out hrd.out nums_one (by omega) ?_; intro A3 c4 w3 hown3 hf3 hat3; have hb3 := hb.out.frm hf3 lAg.out; have hc4 := dig_c8 hb3 (stOf_length ..); have hz4 := hb3.frozen 8; replace hown3 := Lib.hid hown3; replace hf3 := Lib.hid hf3; replace hat3 := Lib.hid hat3; replace hb3 := Lib.hid hb3)
            go_end0
            refine ⟨rfl, ?_⟩
            rw [show m ++ ys = (m ++ ys.take (64 - N)) ++ (ys.drop (64 - N)) from (by rw [List.append_assoc, List.take_append_drop])]
            refine dig_fin (n := (n - (64 - N))) lL.out l01.out hat1.out (by rw [List.length_drop, hyl.out]) h64 hrr.out hf.out hf3.out hat3.out hb3.out ?_ _ (by omega)
            simpa using hown3.out
          · exfalso; omega
      · go_wp2_with fail
        refine (block_any g (stOf S m) _ _ (stOf_length ..) bA 0 c1 (restOf m ++ ys.take (64 - N)) _ S.tab S.htab hgx.out.1 hb1.out hown1.out.rd (by omega)).mono ?_
        rintro e w5 ⟨rfl, hf5, hb5⟩
        rw [← hsf.out.1] at hb5
        have hg2 : b2 ≠ g := fun e => hap.out.2 (.inl e)
        have hc8 := dig_c8 hb5 (stOf_length ..)
        have hz8 := hb5.frozen 8
        have hown5 := hown1.out.frm hf5 fun b hb e => hown1.out.ne_blk hb1.out (by decide) (e ▸ hb)
        have hf6 : Frm (fun k => k = g) w5 (w5.setCell ⟨g, 8, none⟩ (.slice (some ⟨bA, 0, none⟩) 0 c1)) := (Frm.refl (fun k => k = g) w5).setCell (p := ⟨g, 8, none⟩) (fun _ => rfl) _
        have lown := hown5.none_.frm hf6 fun b hb e => hown1.out.ne_blk hb1.out (by decide) (e ▸ hb)
        have lb := dig_s8 hb5 (stOf_length ..) (.slice (some ⟨bA, 0, none⟩) 0 c1)
        have lg := (hgx.out.frm hf5 fun k hk e => hgn (e ▸ hk)).frm hf6 fun k hk e => hgn (e ▸ hk)
        have l01 := (hfx1.out.trans hf5 fun b _ h => Or.inl h).trans hf6 fun b _ h => Or.inl h
        have lrd : Rd (w5.setCell ⟨g, 8, none⟩ (.slice (some ⟨bA, 0, none⟩) 0 c1)) 1 (some ⟨b2, o2 + (64 - N), none⟩) (n - (64 - N)) (nums .u8 (ys.drop (64 - N))) := by
          rw [nums_drop]; exact ((hrx.out.frm hf5 fun b hb e => hg2 (by rw [← e]; simpa [bl] using hb)).frm hf6 fun b hb e => hg2 (by rw [← e]; simpa [bl] using hb)).drop _ hk64
        have lnb : ∀ b, bl (some ⟨b2, o2, none⟩) = some b → ¬ b = g := fun b hb e => hg2 (by rw [← e]; simpa [bl] using hb)
        have lr := hsf.out.2
        have lAg : bl (some (⟨bA, 0, none⟩ : Addr)) ≠ some g := fun e => hbA (by simpa [bl] using e)
        have lL : ((M : Int) + n) = ((m ++ ys.take (64 - N) ++ ys.drop (64 - N)).length : Int) := by rw [List.append_assoc, List.take_append_drop, List.length_append, hyl.out, ← hM.out]; simp
        clear hf5 hb5 hown5 hf6
        replace lb := Lib.hid lb
        replace lown := Lib.hid lown
        replace lnb := Lib.hid lnb
        replace lrd := Lib.hid lrd
        replace lr := Lib.hid lr
        replace lg := Lib.hid lg
        replace lAg := Lib.hid lAg
        replace lL := Lib.hid lL
        replace l01 := Lib.hid l01
        go_wp2
        go_loopw [1] (fun v wr => ∃ j o3 c3 : Nat, j ≤ (n - (64 - N)) ∧ v = .slice (some ⟨b2, o3, none⟩) ((n - (64 - N)) - j) c3 ∧ (n - (64 - N)) - j ≤ c3 ∧ Rd (w5.setCell ⟨g, 8, none⟩ (.slice (some ⟨bA, 0, none⟩) 0 c1)) 1 (some ⟨b2, o3, none⟩) ((n - (64 - N)) - j) (nums .u8 ((ys.drop (64 - N)).drop j)) ∧ Blk wr g 108 (nums .u32 (stOf S ((m ++ ys.take (64 - N)) ++ (ys.drop (64 - N)).take j)) ++ [.slice (some ⟨bA, 0, none⟩) 0 c1, .int .i64 ((M : Int) + n)]) ∧ restOf ((m ++ ys.take (64 - N)) ++ (ys.drop (64 - N)).take j) = [] ∧ Frm (fun k => k = g) (w5.setCell ⟨g, 8, none⟩ (.slice (some ⟨bA, 0, none⟩) 0 c1)) wr) (fun v _ => lenV v)
        case atStart => exact ⟨0, (o2 + (64 - N)), (c2 - (64 - N)), Nat.zero_le _, by first | (simp; done) | (simp; omega), by omega, by simpa using lrd.out, by simpa using lb.out, by simpa using lr.out, Frm.refl _ _⟩
        case round =>
          obtain ⟨j, o3, c3, hj, rfl, hc3, hrd0, hb, hrr, hf⟩ := hrel
          have hrd := hrd0.frm hf lnb.out
          have hg := (lg.out.frm hf (fun k hk e => hgn (e ▸ hk)))
          by_cases h64 : (n - (64 - N)) - j < 64
          · have h64' : ¬ (64 : Int) ≤ (((n - (64 - N)) - j : Nat) : Int) := by omega
            have hown := lown.out.frm hf (fun b hb e => lAg.out (e ▸ hb))
            have hc8 := dig_c8 hb (stOf_length ..)
            replace hb := Lib.hid hb
            replace hf := Lib.hid hf
            replace hrr := Lib.hid hrr
            replace hrd := Lib.hid hrd
            replace hown := Lib.hid hown
            clear hg hrd0
            go_wp2_with (at_builtin; refine list_app rfl appBytes rfl rfl rfl hown.out hrd.out nums_one (by omega) ?_; intro A3 c4 w3 hown3 hf3 hat3; have hb3 := hb.out.frm hf3 lAg.out; have hc4 := dig_c8 hb3 (stOf_length ..); have hz4 := hb3.frozen 8; replace hown3 := Lib.hid hown3; replace hf3 := Lib.hid hf3; replace hat3 := Lib.hid hat3; replace hb3 := Lib.hid hb3)
            go_end0
            refine ⟨rfl, ?_⟩
            rw [show m ++ ys = (m ++ ys.take (64 - N)) ++ (ys.drop (64 - N)) from (by rw [List.append_assoc, List.take_append_drop])]
            refine dig_fin (n := (n - (64 - N))) lL.out l01.out hat1.out (by rw [List.length_drop, hyl.out]) h64 hrr.out hf.out hf3.out hat3.out hb3.out ?_ _ (by omega)
            simpa using hown3.out
          · have h64' : (64 : Int) ≤ (((n - (64 - N)) - j : Nat) : Int) := by omega
            have h64n : 64 ≤ (n - (64 - N)) - j := by omega
            have hrd64 := hrd.take 64 h64n
            rw [← nums_take] at hrd64
            have hs := st_full S ((m ++ ys.take (64 - N)) ++ (ys.drop (64 - N)).take j) (((ys.drop (64 - N)).drop j).take 64) (by rw [hrr, List.length_take, List.length_drop, show ((ys.drop (64 - N))).length = (n - (64 - N)) from (by rw [List.length_drop, hyl.out])]; simp; omega)
            rw [List.append_assoc, ← List.take_add, hrr, List.nil_append] at hs
            replace hs := Lib.hid hs
            replace hb := Lib.hid hb
            replace hf := Lib.hid hf
            replace hrr := Lib.hid hrr
            replace hrd := Lib.hid hrd
            replace hrd0 := Lib.hid hrd0
            replace hrd64 := Lib.hid hrd64
            replace hg := Lib.hid hg
            go_wp2_with fail
            refine (block_any g (stOf S ((m ++ ys.take (64 - N)) ++ (ys.drop (64 - N)).take j)) _ _ (stOf_length ..) b2 o3 c3 (((ys.drop (64 - N)).drop j).take 64) _ S.tab S.htab hg.out.1 hb.out hrd64.out (by omega)).mono ?_
            rintro e w4 ⟨rfl, hf4, hb4⟩
            rw [← hs.out.1] at hb4
            replace hf4 := Lib.hid (hf.out.trans hf4 fun _ _ h => h)
            replace hb4 := Lib.hid hb4
            by_cases hcc : c3 = 64
            · go_wp2
              go_roundw
              case rel => exact ⟨j + 64, o3, 0, by omega, by rw [show (n - (64 - N)) - (j + 64) = (n - (64 - N)) - j - 64 by omega], by omega, by rw [show (n - (64 - N)) - (j + 64) = 0 by omega, List.drop_of_length_le (by rw [show ((ys.drop (64 - N))).length = (n - (64 - N)) from (by rw [List.length_drop, hyl.out])]; omega)]; exact Rd.nil _ _ _, hb4.out, hs.out.2, hf4.out⟩
              case measure => simp [lenV]; omega
            · go_wp2
              go_roundw
              case rel => exact ⟨j + 64, o3 + 64, c3 - 64, by omega, by rw [show (n - (64 - N)) - (j + 64) = (n - (64 - N)) - j - 64 by omega], by omega, by rw [show (n - (64 - N)) - (j + 64) = (n - (64 - N)) - j - 64 by omega, ← List.drop_drop, nums_drop]; exact hrd0.out.drop 64 (by omega), hb4.out, hs.out.2, hf4.out⟩
              case measure => simp [lenV]; omega
end Go.Proofs.YtmajnoefddbflaaDoor
