/- sha: Sum of a digest. -/
import Derived.Test.YtmajnoefddbflaaDoorProg
import Derived.Test.YtmajnoefddbflaaDoorDgs
import Derived.Test.YtmajnoefddbflaaDoorOut
import Derived.WalkKit
import Derived.WalkSpells
import Derived.StillTactics
import Derived.Laws.Pointers
import Derived.Lib.Hide
import Derived.KernelRfl
namespace Go.Proofs.YtmajnoefddbflaaDoor
open Go.RowKit

/-- how many zeros -/
def zer (m : List Int) : Nat := (64 - (m.length + 9) % 64) % 64
def padOf (m : List Int) : List Int := 128 :: (List.replicate (zer m) 0 ++ be ((m.length : Int) * 8) 8)
def hashTo (st : List Int) : Nat → List Int
  | 0 => List.replicate 32 0
  | k + 1 => ((((hashTo st k).set (4 * k) (st[k]?.getD 0 / 16777216 % 256)).set (4 * k + 1) (st[k]?.getD 0 / 65536 % 256)).set (4 * k + 2) (st[k]?.getD 0 / 256 % 256)).set (4 * k + 3) (st[k]?.getD 0 % 256)
def hashOf (st : List Int) : List Int := hashTo st 8
theorem hashTo_length (st : List Int) (k : Nat) : (hashTo st k).length = 32 := by
  induction k with
  | zero => simp [hashTo]
  | succ k ih => simp [hashTo, ih]
def sumF (S : Sha) (m : List Int) : List Int := hashOf (stOf S (m ++ padOf m))
theorem hashOf_length (st : List Int) : (hashOf st).length = 32 := hashTo_length ..
theorem sumF_length (S : Sha) (m : List Int) : (sumF S m).length = 32 := hashOf_length _

set_option maxRecDepth 100000 in
theorem idx8 (st : List Int) (h : st.length = 8) (t : Nat) (ht : t < 8) (w : World) : (Instr.index 106 (.agg (nums .u32 st).toArray) (.int .i64 t)).run Tryd.prog w = .ok (.int .u32 (st[t]?.getD 0)) w := by
  obtain ⟨a, b, c, d, e, f, g, i, rfl⟩ := eight h
  have : t = 0 ∨ t = 1 ∨ t = 2 ∨ t = 3 ∨ t = 4 ∨ t = 5 ∨ t = 6 ∨ t = 7 := by omega
  rcases this with rfl | rfl | rfl | rfl | rfl | rfl | rfl | rfl <;> rfl
set_option maxRecDepth 100000 in
set_option maxHeartbeats 800000 in
theorem sum_any (S : Sha) (g : Nat) (A : Option Addr) (N c : Nat) (m : List Int) (w : World) (hG : ShaG S w) (ho : DigV S w g A N c m) (hl : m.length ≤ 549755813888) :
    Calls Tryd.prog 45 #[.pointer (some ⟨g, 0, none⟩)] w fun e w' => e = .returned (hashV (sumF S m)) ∧ Below w.heap.size w w' := by
  have hzw := hG.lt
  replace ho := Lib.hid ho
  replace hG := Lib.hid hG
  replace hzw := Lib.hid hzw
  go_enter Tryd.func45, Tryd.ntmps45
  go_wp2_with fail
  have hf0 : Frm (fun _ => False) w (w.alloc (.cells (.replicate 32 (.int .u8 0)) 25)) := (Frm.refl _ w).alloc _
  have hbR : Blk (w.alloc (.cells (.replicate 32 (.int .u8 0)) 25)) w.heap.size 25 (List.replicate 32 (.int .u8 0)) := Blk.new w _ _
  refine (copy_any S g A N c m _ (ho.out.frm hf0 fun _ _ h => h)).mono ?_
  rintro e w1 ⟨g1, A1, c1, rfl, hg1, hd1, hA1, hbel1⟩
  have hf1 : Frm (fun _ => False) w w1 := hf0.trans (Frm.of_below hbel1 _) fun _ _ h => h
  have hb1 := hbR.below hbel1 (by simp)
  have hgc := (ho.out.frm hf1 fun _ _ h => h).blk
  have hc9 := dig_c9 hgc (stOf_length ..)
  obtain ⟨M, hM⟩ : ∃ M, M = m.length := ⟨_, rfl⟩
  rw [← hM] at hc9 hl
  replace hf1 := Lib.hid hf1
  replace hb1 := Lib.hid hb1
  replace hd1 := Lib.hid hd1
  replace hA1 := Lib.hid hA1
  replace hgc := Lib.hid hgc
  replace hM := Lib.hid hM
  clear hf0 hbR hbel1
  go_wp2
  go_loopw [5] (fun v wr => ∃ (k : Nat) (Ap : Option Addr) (cp : Nat), k ≤ zer m ∧ v = .slice Ap (1 + k) cp ∧ Own wr 5 1 Ap (1 + k) cp (nums .u8 (128 :: List.replicate k 0)) ∧ (∀ b, bl Ap = some b → w1.heap.size ≤ b) ∧ Frm (fun _ => False) w1 wr) (fun v _ => 64 - lenV v)
  case atStart => exact ⟨0, some ⟨w1.heap.size, 0, none⟩, 1, Nat.zero_le _, rfl, Own.of_blk (Blk.new w1 _ [_]) 1 rfl (by decide), fun b hb => by simp [bl] at hb; omega, (Frm.refl _ w1).alloc _⟩
  case round =>
    obtain ⟨k, Ap, cp, hk, rfl, hown, hnew, hf⟩ := hrel
    have hzr : zer m < 64 := by unfold zer; omega
    have hc9 := hf.cell hc9 fun h => h
    have e1 : IntKind.i64.wrap ((M : Int) + (1 + k : Nat)) = (M : Int) + (1 + k : Nat) := IntWalk.i64_in _ (by omega)
    have e2 : IntKind.i64.wrap ((M : Int) + (1 + k : Nat) + 8) = (M : Int) + (1 + k : Nat) + 8 := IntWalk.i64_in _ (by omega)
    replace hown := Lib.hid hown
    replace hnew := Lib.hid hnew
    replace hf := Lib.hid hf
    by_cases hz : k = zer m
    · have hmod : ((M : Int) + (1 + (k : Int)) + 8) % 64 = 0 := by rw [hz, hM.out]; unfold zer; omega
      replace hz := Lib.hid hz
      obtain ⟨w2, hw2⟩ : ∃ w2, w2 = wr := ⟨_, rfl⟩
      subst hw2
      go_wp2
      clear hmod hc9
      go_loopw [5, 6] (fun v i wr => ∃ (j : Nat) (Ap : Option Addr) (cp : Nat), j ≤ 8 ∧ i = .int .i64 (7 - (j : Int)) ∧ v = .slice Ap (1 + k + j) cp ∧ Own wr 5 1 Ap (1 + k + j) cp (nums .u8 (128 :: List.replicate k 0 ++ (be ((M : Int) * 8) 8).take j)) ∧ (∀ b, bl Ap = some b → w1.heap.size ≤ b) ∧ Frm (fun _ => False) w1 wr) (fun _ i _ => (intOf i + 1).toNat)
      case atStart => exact ⟨0, Ap, cp, by omega, rfl, rfl, by simpa using hown.out, hnew.out, hf.out⟩
      case round =>
        obtain ⟨j, Ap2, cp2, hj, rfl, rfl, hown2, hnew2, hf2⟩ := hrel
        replace hown2 := Lib.hid hown2
        replace hnew2 := Lib.hid hnew2
        replace hf2 := Lib.hid hf2
        by_cases hlt : j < 8
        · have hlt' : 0 ≤ 7 - (j : Int) := by omega
          have e3 : IntKind.i64.wrap (8 * (7 - (j : Int))) = 8 * (7 - (j : Int)) := IntWalk.i64_in _ (by omega)
          have e4 : 0 ≤ 8 * (7 - (j : Int)) := by omega
          have e5 : 8 * (7 - (j : Int)) ≤ 64 := by omega
          have e6 : IntKind.i64.wrap (7 - (j : Int) - 1) = 7 - (j : Int) - 1 := IntWalk.i64_in _ (by omega)
          have hex : 8 - 1 - j = 7 - j := by omega
          have H0 := be_snoc ((M : Int) * 8) 8 j hlt
          rw [hex] at H0
          replace H0 := Lib.hid H0
          clear hex
          have hown3 := fun q => hown2.out.frm ((Frm.refl (fun _ => False) wr).alloc (.cells #[.int .u8 q] 5)) fun _ _ h => h
          have hrd3 := fun q => (Own.of_blk (size := 1) (Blk.new wr 5 [.int .u8 q]) 1 rfl (by decide)).rd
          replace hown3 := Lib.hid hown3
          replace hrd3 := Lib.hid hrd3
          go_wp2_with (at_builtin; refine list_app rfl appBytes rfl rfl rfl (hown3.out _) (hrd3.out _) (by simp [Value.oneCell']) (by omega) ?_; intro A3 c3 w3 hown4 hf4 hat4; replace hown4 := Lib.hid hown4; replace hf4 := Lib.hid hf4; replace hat4 := Lib.hid hat4)
          go_roundw
          case rel =>
            refine ⟨j + 1, A3, c3, by omega, by rw [show (7 : Int) - (j + 1 : Nat) = 7 - j - 1 by omega], by rw [Nat.add_assoc], ?_, ?_, ?_⟩
            · rw [H0.out, ← List.append_assoc, nums_append, ← Nat.add_assoc]; exact hown4.out
            · intro b hb
              rcases hat4.out with e | e
              · exact hnew2.out b (e ▸ hb)
              · rw [e] at hb; injection hb with hb; have := hf2.out.size; simp at hb; omega
            · exact (hf2.out.alloc _).trans hf4.out fun b hb h => by have := hnew2.out b h; omega
          case measure => simp [intOf]; omega
        · have hj8 : j = 8 := by omega
          subst hj8
          have hpad : 128 :: List.replicate k 0 ++ (be ((M : Int) * 8) 8).take 8 = padOf m := by rw [padOf, ← hz.out, hM.out, List.take_of_length_le (Nat.le_of_eq (be_length ..)), List.cons_append]
          rw [hpad] at hown2
          obtain ⟨bP, rfl⟩ := hown2.out.some_ (by omega)
          have hfr : Frm (fun _ => False) w wr := hf1.out.trans hf2.out fun _ _ h => h
          have hGr := hG.out.frm hfr fun _ _ h => h
          have hdr := hd1.out.frm hf2.out fun _ _ h => h
          have hbP := hnew2.out bP rfl
          have hgw1 := hd1.out.blk.lt
          have hAw1 := hd1.out.own.lt
          have hPlt := hown2.out.lt bP rfl
          have hg1' : w.heap.size ≤ g1 := by have := hg1; simp at this; omega
          replace hg1 := Lib.hid hg1
          have hb2 := hb1.out.frm hf2.out fun h => h
          have hsz2 := hf2.out.size
          replace hb2 := Lib.hid hb2
          go_wp2_with fail
          refine (write_any S g1 A1 N c1 m bP 0 (1 + k + 8) cp2 (padOf m) wr hGr (fun h => by have := hzw.out _ h; omega) hdr hown2.out.rd hown2.out.cap (fun q hq e => by have := hzw.out _ hq; have := hA1.out q e; simp at this; omega) ⟨hPlt, fun h => by rcases h with h | h; omega; have := hAw1 _ h; omega⟩ (by rw [← hM.out]; omega)).mono ?_
          rintro e w5 ⟨rfl, A5, N5, c5, hd5, hf5, _⟩
          have hf5' : Frm (fun _ => False) w w5 := hfr.trans hf5 fun b hb h => by
            rcases h with h | h
            · omega
            · have := hA1.out _ h; simp at this; omega
          have hR1 : w.heap.size < w1.heap.size := hb1.out.lt
          have hb5 := hb2.out.frm hf5 fun h => by
            rcases h with h | h
            · have := hg1.out; simp at this; omega
            · have := hA1.out _ h; simp at this; omega
          obtain ⟨st, hst⟩ : ∃ st, st = stOf S (m ++ padOf m) := ⟨_, rfl⟩
          have hst8 : st.length = 8 := by rw [hst]; exact stOf_length ..
          have hbd := hd5.blk
          rw [← hst] at hbd
          have hn8 : (nums .u32 st).length = 8 := by rw [nums_length]; exact hst8
          have hld := (hbd.frm ((Frm.refl (fun _ => False) w5).alloc (.cells (.replicate 32 (.int .u8 0)) 25)) fun h => h).pre
          have hsz5 := hb5.lt
          clear hd5 hf5 hGr hdr
          replace hst := Lib.hid hst
          replace hf5' := Lib.hid hf5'
          replace hb5 := Lib.hid hb5
          replace hbd := Lib.hid hbd
          go_wp2_with refine list_load 106 hld Tryd.underlying106 rfl (by rw [hn8]; kernel_rfl) rfl rfl rfl ?_
          clear hld
          go_loopw [51] (fun i wr => ∃ k : Nat, k ≤ 8 ∧ i = .int .i64 k ∧ Blk wr w5.heap.size 25 (nums .u8 (hashTo st k)) ∧ Frm (fun _ => False) w5 wr) (fun i _ => 8 - (intOf i).toNat)
          case atStart => exact ⟨0, by omega, rfl, Blk.new w5 _ _, (Frm.refl _ w5).alloc _⟩
          case round =>
            obtain ⟨t, ht, rfl, hbh, hf6⟩ := hrel
            have hhl := hashTo_length st t
            by_cases hlt : t < 8
            · have hlt' : (t : Int) < 8 := by omega
              have e7 : IntKind.i64.wrap (4 * (t : Int)) = 4 * (t : Int) := IntWalk.i64_in _ (by omega)
              have e8 : IntKind.i64.wrap (4 * (t : Int) + 1) = 4 * (t : Int) + 1 := IntWalk.i64_in _ (by omega)
              have e9 : IntKind.i64.wrap (4 * (t : Int) + 2) = 4 * (t : Int) + 2 := IntWalk.i64_in _ (by omega)
              have e10 : IntKind.i64.wrap (4 * (t : Int) + 3) = 4 * (t : Int) + 3 := IntWalk.i64_in _ (by omega)
              have e11 : 0 ≤ 4 * (t : Int) := by omega
              have e12 : 4 * (t : Int) + 3 < 32 := by omega
              have c0 := hbh.num (i := 4 * t) (by omega)
              have c1' := hbh.num (i := 4 * t + 1) (by omega)
              have c2' := hbh.num (i := 4 * t + 2) (by omega)
              have c3' := hbh.num (i := 4 * t + 3) (by omega)
              have z0 := hbh.frozen (4 * t)
              have z1 := hbh.frozen (4 * t + 1)
              have z2 := hbh.frozen (4 * t + 2)
              have z3 := hbh.frozen (4 * t + 3)
              obtain ⟨x, hx⟩ : ∃ x, x = st[t]?.getD 0 := ⟨_, rfl⟩
              have hix := idx8 st hst8 t hlt
              rw [← hx] at hix
              replace hx := Lib.hid hx
              replace hbh := Lib.hid hbh
              replace hf6 := Lib.hid hf6
              go_wp2
              go_roundw
              case rel =>
                refine ⟨t + 1, by omega, by go_num, ?_, ?_⟩
                · have hs := (((hbh.out.set_ (4 * t) (.int .u8 (x / 16777216 % 256))).set_ (4 * t + 1) (.int .u8 (x / 65536 % 256))).set_ (4 * t + 2) (.int .u8 (x / 256 % 256))).set_ (4 * t + 3) (.int .u8 (x % 256))
                  rw [nums_set, nums_set, nums_set, nums_set] at hs
                  rw [hashTo, ← hx.out]
                  exact hs
                · have hs : ∀ (W : World) (i : Nat) (u : Value), Frm (fun _ => False) w5 W → Frm (fun _ => False) w5 (W.setCell ⟨w5.heap.size, i, none⟩ u) := fun W i u h => h.setCell (p := ⟨w5.heap.size, i, none⟩) (fun h => by simp at h) u
                  exact hs _ _ _ (hs _ _ _ (hs _ _ _ (hs _ _ _ hf6.out)))
              case measure => simp [intOf]; omega
            · have ht8 : t = 8 := by omega
              subst ht8
              have hr1 : wr.rangeAt w5.heap.size 0 (nums .u8 (hashTo st 8)) := hbh.range
              have hn32 : (nums .u8 (hashTo st 8)).length = 32 := by rw [nums_length]; exact hhl
              have hbR := hb5.out.frm hf6 fun h => h
              have hth := hbR.there' 0 32 (by simp)
              have hfl := hf5'.out.trans hf6 fun _ _ h => h
              obtain ⟨hs, hhs⟩ : ∃ hs, hs = hashTo st 8 := ⟨_, rfl⟩
              rw [← hhs] at hr1 hn32
              replace hhs := Lib.hid hhs
              replace hbR := Lib.hid hbR
              replace hfl := Lib.hid hfl
              replace hbh := Lib.hid hbh
              replace hf6 := Lib.hid hf6
              clear hhl
              go_wp2_with first
                | refine list_load 25 hr1 Tryd.underlying25 rfl (by rw [hn32]; kernel_rfl) rfl rfl rfl ?_
                | refine list_store 25 (by rw [hn32]; exact hth) (by rw [hn32]; kernel_rfl) nums_one rfl rfl rfl rfl ?_
              have hbF : Blk (wr.setCells w.heap.size 0 (nums .u8 hs)) w.heap.size 25 (nums .u8 hs) := by
                have := hbR.out.setCells (o := 0) (vs := nums .u8 hs) (by rw [hn32]; simp)
                simpa [hn32] using this
              refine bodyPost_ret (results_cell_range rfl _ _ (b := w.heap.size) (o := 0) (cs := nums .u8 hs) rfl hbF.range Tryd.underlying25 rfl (by rw [hn32]; kernel_rfl)) rfl ?_
              refine ⟨?_, (hfl.out.setCells (fun h => by omega) 0 _).below⟩
              rw [hashV, sumF, ← hst.out, hashOf, ← hhs.out]
    · have hmod : ((M : Int) + (1 + (k : Int)) + 8) % 64 ≠ 0 := by rw [hM.out]; unfold zer at hk hz; omega
      have hmod' : (((M : Int) + (1 + (k : Int)) + 8) % 64 != 0) = true := by simp [hmod]
      have hk1 : k + 1 ≤ zer m := by omega
      replace hk1 := Lib.hid hk1
      replace hz := Lib.hid hz
      have hown1 := hown.out.frm ((Frm.refl (fun _ => False) wr).alloc (.cells #[.int .u8 0] 5)) fun _ _ h => h
      have hrd1 := (Own.of_blk (size := 1) (Blk.new wr 5 [.int .u8 0]) 1 rfl (by decide)).rd
      replace hown1 := Lib.hid hown1
      replace hrd1 := Lib.hid hrd1
      go_wp2_with (at_builtin; refine list_app rfl appBytes rfl rfl rfl hown1.out hrd1.out (by simp [Value.oneCell']) (by omega) ?_; intro A3 c3 w3 hown3 hf3 hat3; replace hown3 := Lib.hid hown3; replace hf3 := Lib.hid hf3; replace hat3 := Lib.hid hat3)
      go_roundw
      case rel =>
        refine ⟨k + 1, A3, c3, hk1.out, by rw [Nat.add_assoc], ?_, ?_, ?_⟩
        · rw [List.replicate_succ', ← List.cons_append, nums_append]; exact hown3.out
        · intro b hb
          rcases hat3.out with e | e
          · exact hnew.out b (e ▸ hb)
          · rw [e] at hb; injection hb with hb; have := hf.out.size; simp at hb; omega
        · exact (hf.out.alloc _).trans hf3.out fun b hb h => by have := hnew.out b h; omega
      case measure => have := hk1.out; simp [lenV]; omega
end Go.Proofs.YtmajnoefddbflaaDoor
