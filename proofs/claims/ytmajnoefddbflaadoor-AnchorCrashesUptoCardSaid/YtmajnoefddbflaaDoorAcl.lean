/- law23.AnchorCrashes: the walk. -/
import Derived.Test.YtmajnoefddbflaaDoorProg
import Derived.Test.YtmajnoefddbflaaDoorAcr
import Derived.Test.YtmajnoefddbflaaDoorAwk
import Derived.Test.YtmajnoefddbflaaDoorHcp
import Derived.Test.YtmajnoefddbflaaDoorAc1
import Derived.WalkKit
import Derived.WalkSpells
import Derived.StillTactics
import Derived.Laws.Pointers
import Derived.Lib.Hide
import Derived.KernelRfl
namespace Go.Proofs.YtmajnoefddbflaaDoor
open Go.RowKit

theorem appOps : AppT Tryd.prog 30 32 69 136 := AppT.mk' Tryd.underlying30 (by kernel_rfl) (by decide) (by decide)
def mkOp (cs : List Value) : List Value := opCells 0 (List.replicate 32 0) cs
theorem mkOp_length (cs : List Value) (h : cs.length = 36) : (mkOp cs).length = 69 := by simp [mkOp, opCells, nums_length, h]
theorem op_fold (cs : List Value) (h : cs.length = 36) : cs.zipIdx.foldl (fun cs x => cs.setIfInBounds (33 + x.2) x.1) zeroOp.toArray = (mkOp cs).toArray := by
  have hz : zeroOp.length = 69 := by simp [zeroOp, opCells, nums_length, recCells_length]
  rw [foldl_setO 33 cs 0 _ (by simp [hz, h])]
  congr 1
  rw [List.toList_toArray, List.drop_of_length_le (by omega), List.append_nil]
  have : zeroOp.take (33 + 0) = .int .i64 0 :: nums .u8 (List.replicate 32 0) := by
    show ((.int .i64 0 :: nums .u8 (List.replicate 32 0)) ++ _ : List Value).take 33 = _
    rw [List.take_append_of_le_length (by simp [nums]), List.take_of_length_le (by simp [nums])]
  rw [this]; rfl
theorem op_fold' (cs : List Value) (h : cs.length = 36) : cs.zipIdx.foldl (fun cs x => cs.setIfInBounds (33 + x.2) x.1) Tryd.zeroCells32 = (mkOp cs).toArray := by
  rw [show Tryd.zeroCells32 = zeroOp.toArray by kernel_rfl]; exact op_fold cs h
theorem mkOp_V {B0 : Nat} {w : World} {cs : List Value} {r : Rec} (h : RecV B0 w cs r) : OpV B0 w (mkOp cs) r := ⟨0, List.replicate 32 0, cs, rfl, by simp, h⟩
theorem RecsV.ops {B0 : Nat} {w : World} {css : List (List Value)} {rs : List Rec} (h : RecsV B0 w css rs) : OpsV B0 w (css.map mkOp) rs := by
  induction h with
  | nil => exact .nil
  | cons h0 _ ih => exact .cons (mkOp_V h0) ih
set_option maxRecDepth 100000 in
set_option maxHeartbeats 8000000 in
theorem crashes_any (n : Nat) (A0 : Option Addr) (c0 : Nat) (css : List (List Value)) (rs : List Rec) (cs : List Value) (r : Rec) (how : Int) (S : Sha) (w : World) (hC : Ctx S w) (hr : Rd w 36 A0 n css.flatten) (hV : RecsV w.heap.size w css rs) (hl : rs.length = n) (hrv : RecV w.heap.size w cs r) (hn : n ≤ 1048576)
    (hh0 : -9223372036854775808 ≤ how) (hh1 : how ≤ 9223372036854775807) :
    Calls Tryd.prog 3 #[.slice A0 n c0, .agg cs.toArray, .int .i64 how] w fun e w' => e = .returned (.bool true) ∧ Below w.heap.size w w' := by
  have hS0 : AcS S w.heap.size A0 n css rs w := ⟨hC, fun k hk => hk.elim (hC.sha.lt k) (fun e => e ▸ hC.pow.lt), hr, fun hn => hr.lt hn (by decide), hV, Nat.le_refl _⟩
  obtain ⟨B0, hB0⟩ : ∃ B0, B0 = w.heap.size := ⟨_, rfl⟩
  rw [← hB0] at hS0
  have hrw : RecV B0 w cs r := by rw [hB0]; exact hrv
  replace hS0 := Lib.hid hS0
  replace hrw := Lib.hid hrw
  rw [← hB0] at hV hrv
  have hb := Blk.new w 29 cs
  have hf0 := (Frm.refl (fun _ => False) w).alloc (.cells cs.toArray 29)
  have hC0 := hC.quiet hf0
  have hr0 := hr.frm hf0 fun _ _ h => h
  have hV0 := hV.frm hf0 (safe_false _ _)
  have hrv0 := hrv.frm hf0 (safe_false _ _)
  replace hb := Lib.hid hb
  replace hf0 := Lib.hid hf0
  replace hC0 := Lib.hid hC0
  replace hr0 := Lib.hid hr0
  replace hV0 := Lib.hid hV0
  replace hrv0 := Lib.hid hrv0
  replace hl := Lib.hid hl
  replace hB0 := Lib.hid hB0
  clear hC hr hV hrv
  go_enter Tryd.func3, Tryd.ntmps3
  go_wp2
  generalize (how.tmod 2 != 0) = X
  generalize ((how.tdiv 2).tmod 2 != 0) = Y
  refine crash_r3 hr0.out hV0.out hl.out hb.out hrv0.out hn ?_
  intro x27 x28 x29 x30 x31 A1 c1 w1 hown1 hf1
  have hC1 := hC0.out.quiet hf1
  have hr1 := hr0.out.frm hf1 fun _ _ h => h
  have hV1 := hV0.out.frm hf1 (safe_false _ _)
  have hrv1 := hrv0.out.frm hf1 (safe_false _ _)
  have hb1 := hb.out.frm hf1 fun h => h
  have hF1 := hf0.out.trans hf1 fun _ _ h => h
  obtain ⟨all, hall⟩ : ∃ all : List (List Value), all = css ++ [cs] := ⟨_, rfl⟩
  have hall36 : ∀ c ∈ all, c.length = 36 := by
    rw [hall]; intro c hc
    rcases List.mem_append.1 hc with hc | hc
    · exact hV1.all36 c hc
    · rw [List.mem_singleton.1 hc]; exact hrv1.length
  have hallV : RecsV B0 w1 all (rs ++ [r]) := by rw [hall]; exact hV1.snoc hrv1
  have halll : all.length = n + 1 := by rw [hall]; simp [hV1.len, hl.out]
  rw [show css.flatten ++ cs = all.flatten by rw [hall]; simp] at hown1
  obtain ⟨N, hN⟩ : ∃ N, N = n + 1 := ⟨_, rfl⟩
  have hNn : (n : Int) + 1 = (N : Int) := by omega
  rw [← hN] at hown1 halll
  rw [← hN, hNn]
  have hNb : N ≤ 1048577 := by omega
  replace hN := Lib.hid hN
  replace hall := Lib.hid hall
  replace hall36 := Lib.hid hall36
  replace hallV := Lib.hid hallV
  replace halll := Lib.hid halll
  have hrd1 := hown1.rd
  replace hrd1 := Lib.hid hrd1
  replace hC1 := Lib.hid hC1
  replace hr1 := Lib.hid hr1
  replace hV1 := Lib.hid hV1
  replace hrv1 := Lib.hid hrv1
  replace hb1 := Lib.hid hb1
  replace hF1 := Lib.hid hF1
  clear hf1 hown1 hC0 hr0 hV0 hrv0 hb hf0 hNn
  go_wp2
  go_loopw [9, 11, 34] (fun v _ i wr => ∃ (k : Nat) (A : Option Addr) (c : Nat), k ≤ N ∧ i = .int .i64 k ∧ v = .slice A k c ∧ Own wr 32 69 A k c ((all.take k).map mkOp).flatten ∧ Frm (fun _ => False) w1 wr ∧ (∀ b, bl A = some b → w1.heap.size ≤ b)) (fun _ _ i _ => N - (intOf i).toNat)
  case atStart => exact ⟨0, none, 0, Nat.zero_le _, rfl, rfl, Own.nil _ _ _, Frm.refl _ _, fun b h => by cases h⟩
  case round =>
    obtain ⟨wo, rfl⟩ : ∃ wo : World, wo = wr := ⟨_, rfl⟩
    obtain ⟨k, A, c, hk, rfl, rfl, hown, hf, hA⟩ := hrel
    replace hown := Lib.hid hown
    replace hf := Lib.hid hf
    replace hA := Lib.hid hA
    by_cases hlt : k < N
    · have hlt' : (k : Int) < N := by omega
      have hkc : k < all.length := by rw [halll.out]; exact hlt
      obtain ⟨b, o, rfl, hrow⟩ := hrd1.out.2 (by omega)
      have hcur := range_frm (range_flat all 36 hall36.out o k hkc hrow) hf.out fun h => h
      obtain ⟨q, hq⟩ : ∃ q, q = all[k] := ⟨_, rfl⟩
      rw [← hq] at hcur
      have h36 : q.length = 36 := by rw [hq]; exact hall36.out _ (List.getElem_mem hkc)
      have hone : ∀ v ∈ q, v.oneCell' = true := by
        rw [hq]; exact (hallV.out.get k hkc (by rw [← hallV.out.len]; exact hkc)).one
      have htk : ((all.take (k + 1)).map mkOp).flatten = ((all.take k).map mkOp).flatten ++ mkOp q := by
        rw [List.take_succ_eq_append_getElem hkc, ← hq, List.map_append, List.flatten_append]; simp
      have h69 := mkOp_length q h36
      have hone69 : ∀ v ∈ mkOp q, v.oneCell' = true := fun v hv => by
        rcases List.mem_cons.1 hv with rfl | hv
        · rfl
        · rcases List.mem_append.1 hv with hv | hv
          · exact nums_one v hv
          · exact hone v hv
      have hz1 := Blk.new wo 29 zeroRec
      have hzl : zeroRec.length = 36 := recCells_length ..
      have hth := hz1.there' 0 36 (by rw [hzl]; exact Nat.le_refl _)
      have hbF : Blk ((wo.alloc (.cells zeroRec.toArray 29)).setCells wo.heap.size 0 q) wo.heap.size 29 q := by
        have := hz1.setCells (o := 0) (vs := q) (by rw [h36, hzl]; exact Nat.le_refl _)
        rw [h36, List.drop_of_length_le (by rw [hzl]; exact Nat.le_refl _)] at this
        simpa using this
      have hfF := ((Frm.refl (fun _ => False) wo).alloc (.cells zeroRec.toArray 29)).setCells (g := wo.heap.size) (fun h => by omega) 0 q
      obtain ⟨wq, hwq⟩ : ∃ wq, wq = (wo.alloc (.cells zeroRec.toArray 29)).setCells wo.heap.size 0 q := ⟨_, rfl⟩
      rw [← hwq] at hbF hfF
      have hrgq := hbF.range
      have hofold := op_fold' q h36
      have hoq := (hown.out.frm hfF fun _ _ h => h).frm ((Frm.refl (fun _ => False) wq).alloc (.cells (mkOp q).toArray 32)) fun _ _ h => h
      have hrn := rd_new wq (mkOp q) 32 69 1 (by rw [h69])
      have hfq := hf.out.trans hfF fun _ _ h => h
      have hsq : w1.heap.size ≤ wq.heap.size := hfq.size
      replace hwq := Lib.hid hwq
      replace hq := Lib.hid hq
      replace htk := Lib.hid htk
      replace hbF := Lib.hid hbF
      replace hfF := Lib.hid hfF
      replace hofold := Lib.hid hofold
      replace hoq := Lib.hid hoq
      replace hrn := Lib.hid hrn
      replace hfq := Lib.hid hfq
      replace hz1 := Lib.hid hz1
      replace hzl := Lib.hid hzl
      clear hrow
      go_wp2_with first
        | refine list_load 29 hcur Tryd.underlying29 rfl (by rw [h36]; kernel_rfl) rfl rfl rfl ?_
        | (refine list_store 29 (by rw [h36]; exact hth) (by rw [h36]; kernel_rfl) hone rfl rfl rfl rfl ?_; generalize hwp : World.setCells _ _ _ _ = wp; obtain rfl : wp = wq := (by rw [← hwp, hwq.out]; rfl); clear hwp hth hcur)
        | refine list_load 29 hrgq Tryd.underlying29 rfl (by rw [h36]; kernel_rfl) rfl rfl rfl ?_
        | rw [hofold.out]
        | (at_builtin; rw [foldl_set0 (mkOp q) _ (by rw [h69]; kernel_rfl)]; refine list_app rfl appOps rfl rfl rfl hoq.out hrn.out hone69 (by omega) ?_; intro A3 c3 w3 hown3 hf3 hat3; rw [← htk.out] at hown3; replace hown3 := Lib.hid hown3; replace hf3 := Lib.hid hf3; replace hat3 := Lib.hid hat3)
      go_roundw
      case rel =>
        have hb3 : ∀ x, bl A3 = some x → w1.heap.size ≤ x := fun x hx => by
          rcases hat3.out with e | e
          · exact hA.out x (by rw [← e]; exact hx)
          · rw [e] at hx
            injection hx with hx
            have : (wp.alloc (.cells (mkOp q).toArray 32)).heap.size = wp.heap.size + 1 := by simp
            omega
        exact ⟨k + 1, A3, c3, by omega, by go_num, rfl, hown3.out, (hfq.out.trans ((Frm.refl (fun _ => False) wp).alloc _) fun _ _ h => h).trans hf3.out (fun x hx h => absurd (hA.out x h) (by omega)), hb3⟩
      case measure => simp [intOf]; omega
    · have hnlt : ¬ ((k : Int) < N) := by omega
      have hkN : k = N := by omega
      have htk : all.take k = all := List.take_of_length_le (by rw [halll.out]; omega)
      have hown' := hown.out
      rw [htk] at hown'
      have c8 := small_any B0 A k c (all.map mkOp) (rs ++ [r]) wo hown'.rd (hallV.out.frm hf.out (safe_false _ _)).ops (by simp [hl.out, hN.out, hkN]) (by omega)
      have hF2 := hF1.out.trans hf.out fun _ _ h => h
      have hb2 := hb1.out.frm hf.out fun h => h
      replace hF2 := Lib.hid hF2
      replace hb2 := Lib.hid hb2
      replace hkN := Lib.hid hkN
      clear hown hA htk hown' hb1 hF1 hV1 hr1 hrv1 hC1 hrd1 hallV hall36 hf hall
      go_wp2_with fail
      refine c8.mono ?_
      rintro e w2 ⟨rfl, hbl⟩
      have hf := Frm.of_below hbl (fun _ => False)
      have hF3 := hF2.out.trans hf fun _ _ h => h
      have hb3 := hb2.out.frm hf fun h => h
      cases hsm : opsSmall (rs ++ [r]) with
      | false =>
        replace hF3 := Lib.hid hF3
        clear hbl hF2 hb2 hf hb3 c8 hsm
        go_wp2_with fail
        refine (awake_any _).mono ?_
        rintro e w3 ⟨rfl, hbl⟩
        have hF4 := hF3.out.trans (Frm.of_below hbl (fun _ => False)) fun _ _ h => h
        replace hF4 := Lib.hid hF4
        clear hF3 hbl
        go_wp2
        go_ret
        exact ⟨rfl, hF4.out.below⟩
      | true =>
        have hn40 : n ≤ 39 := by
          simp [opsSmall] at hsm
          have := hl.out
          omega
        obtain rfl := hB0.out
        have hS3 := hS0.out.frm hF3 (safe_false _ _)
        have hrv3 := hrw.out.frm hF3 (safe_false _ _)
        have hlt3 := hb3.lt
        replace hS3 := Lib.hid hS3
        replace hrv3 := Lib.hid hrv3
        replace hF3 := Lib.hid hF3
        replace hb3 := Lib.hid hb3
        clear hbl hF2 hb2 hf c8 hsm hS0 hrw
        go_wp2_with fail
        refine (anchorNew_any _).mono ?_
        rintro e w3 ⟨rfl, hR, hbl⟩
        have hf := Frm.of_below hbl (fun _ => False)
        have hF4 := hF3.out.trans hf fun _ _ h => h
        have hb4 := hb3.out.frm hf fun h => h
        have hS4 := hS3.out.frm hf (safe_false _ _)
        have hrv4 := hrv3.out.frm hf (safe_false _ _)
        have hs3 : w2.heap.size ≤ w3.heap.size := hf.size
        replace hS4 := Lib.hid hS4
        replace hrv4 := Lib.hid hrv4
        replace hF4 := Lib.hid hF4
        replace hb4 := Lib.hid hb4
        replace hR := Lib.hid hR
        clear hS3 hrv3 hF3 hb3 hbl hf
        go_wp2_with fail
        refine (histNew_any _).mono ?_
        rintro e w4 ⟨rfl, hH, hbl⟩
        obtain ⟨gr, hgr⟩ : ∃ gr, gr = w2.heap.size := ⟨_, rfl⟩
        obtain ⟨g, hg⟩ : ∃ g, g = w3.heap.size := ⟨_, rfl⟩
        rw [← hg] at hH
        rw [← hg, ← hgr]
        have hL : AcL S w.heap.size A0 n css rs cs r w gr g 0 w4 := by
          have hf := Frm.of_below hbl (fun _ => False)
          refine ⟨hS4.out.frm hf (safe_false _ _), hb4.out.frm hf (fun h => h), hrv4.out.frm hf (safe_false _ _), (hF4.out.trans hf fun _ _ h => h).below, by omega, none, 0, none, 0, [], [], Mrk.zero, histNew_V _ hH (by omega), ?_, ⟨rfl, rfl⟩, by simp, ?_⟩
          · have hR' := hR.out.frm hf fun h => h
            rw [← hgr] at hR'
            exact hR'
          · rintro k (rfl | hk | hk)
            · omega
            · cases hk
            · cases hk
        replace hL := Lib.hid hL
        clear hS4 hrv4 hF4 hb4 hR hH hbl hgr hg hs3 hlt3
        go_wp2
        go_loopw [15, 16, 58] (fun _ _ i wr => ∃ k : Nat, k ≤ n ∧ i = .int .i64 k ∧ AcL S w.heap.size A0 n css rs cs r w gr g k wr) (fun _ _ i _ => n - (intOf i).toNat)
        case atStart => exact ⟨0, Nat.zero_le _, rfl, hL.out⟩
        case round =>
          obtain ⟨wo, rfl⟩ : ∃ wo : World, wo = wr := ⟨_, rfl⟩
          obtain ⟨k, hk, rfl, hA⟩ := hrel
          replace hA := Lib.hid hA
          clear hL
          by_cases hlt : k < n
          · have hlt' : (k : Int) < n := by omega
            have hkc : k < css.length := by rw [hA.out.s.rv.len, hl.out]; exact hlt
            have hkr : k < rs.length := by rw [hl.out]; exact hlt
            obtain ⟨b, o, rfl, hrow⟩ := hA.out.s.rd.2 (by omega)
            have hcur := range_flat css 36 hA.out.s.rv.all36 o k hkc hrow
            have hqV := hA.out.s.rv.get k hkc hkr
            obtain ⟨q, hq⟩ : ∃ q, q = css[k] := ⟨_, rfl⟩
            obtain ⟨rq, hrq⟩ : ∃ rq, rq = rs[k] := ⟨_, rfl⟩
            rw [← hq] at hcur
            rw [← hq, ← hrq] at hqV
            have h36 := hqV.length
            have hone := hqV.one
            have hz1 := Blk.new wo 29 zeroRec
            have hzl : zeroRec.length = 36 := recCells_length ..
            have hth := hz1.there' 0 36 (by rw [hzl]; exact Nat.le_refl _)
            have hbF : Blk ((wo.alloc (.cells zeroRec.toArray 29)).setCells wo.heap.size 0 q) wo.heap.size 29 q := by
              have := hz1.setCells (o := 0) (vs := q) (by rw [h36, hzl]; exact Nat.le_refl _)
              rw [h36, List.drop_of_length_le (by rw [hzl]; exact Nat.le_refl _)] at this
              simpa using this
            have hfF := ((Frm.refl (fun _ => False) wo).alloc (.cells zeroRec.toArray 29)).setCells (g := wo.heap.size) (fun h => by omega) 0 q
            obtain ⟨wq, hwq⟩ : ∃ wq, wq = (wo.alloc (.cells zeroRec.toArray 29)).setCells wo.heap.size 0 q := ⟨_, rfl⟩
            rw [← hwq] at hbF hfF
            obtain ⟨A, c, B, d, rs', hs', m, hH, hR, hmk, hl', hnew⟩ := hA.out.st
            have hold : ∀ k, HistF g A B k → k < wo.heap.size := hH.g_lt
            have hAq := hA.out.quiet hfF (Nat.le_refl k)
            have hqq := hqV.frm hfF (safe_false _ _)
            have hHq := hH.quiet hfF
            have hRq := hR.frm hfF fun h => h
            have hrgq := hbF.range
            have hbl := hbF.lt
            have hgrl := hR.lt
            obtain ⟨b15, hb15⟩ : ∃ b15, b15 = wo.heap.size := ⟨_, rfl⟩
            replace hwq := Lib.hid hwq
            replace hq := Lib.hid hq
            replace hrq := Lib.hid hrq
            replace hbF := Lib.hid hbF
            replace hfF := Lib.hid hfF
            replace hz1 := Lib.hid hz1
            replace hzl := Lib.hid hzl
            replace hAq := Lib.hid hAq
            replace hqq := Lib.hid hqq
            replace hHq := Lib.hid hHq
            replace hRq := Lib.hid hRq
            replace hold := Lib.hid hold
            replace hnew := Lib.hid hnew
            replace hmk := Lib.hid hmk
            replace hb15 := Lib.hid hb15
            clear hrow hA hqV hH hR
            go_wp2_with first
              | refine list_load 29 hcur Tryd.underlying29 rfl (by rw [h36]; kernel_rfl) rfl rfl rfl ?_
              | (refine list_store 29 (by rw [h36]; exact hth) (by rw [h36]; kernel_rfl) hone rfl rfl rfl rfl ?_; generalize hwp : World.setCells _ _ _ _ = wp; obtain rfl : wp = wq := (by rw [← hwp, hwq.out]; rfl); clear hwp hth hcur)
            refine (ac_copy w.heap.size g A c B d rs' hs' wp hHq.out hAq.out.s.sz).mono ?_
            rintro e w5 ⟨g', A', c', B', d', rfl, hH', hnew', hbl5⟩
            have hf5 := Frm.of_below hbl5 (fun _ => False)
            have hA5 := hAq.out.quiet hf5 (Nat.le_refl k)
            have hq5 := hqq.out.frm hf5 (safe_false _ _)
            have hH5 := hHq.out.quiet hf5
            have hR5 := hRq.out.frm hf5 fun h => h
            have hb5 := hbF.out.frm hf5 fun h => h
            have hrg5 := hb5.range
            replace hH' := Lib.hid hH'
            replace hnew' := Lib.hid hnew'
            replace hf5 := Lib.hid hf5
            replace hA5 := Lib.hid hA5
            replace hq5 := Lib.hid hq5
            replace hH5 := Lib.hid hH5
            replace hR5 := Lib.hid hR5
            replace hb5 := Lib.hid hb5
            clear hrgq hbl5
            go_wp2_with first
              | refine list_load 29 hrg5 Tryd.underlying29 rfl (by rw [h36]; kernel_rfl) rfl rfl rfl ?_
            refine (ac_append S w.heap.size g' A' c' B' d' rs' hs' rq q w5 hA5.out.s.ctx hH'.out hq5.out (by omega)).mono ?_
            intro e w6 hP
            cases hok : appendOk rs' rq with
            | false =>
              rw [AppPost, if_neg (by rw [hok]; decide)] at hP
              obtain ⟨rfl, hbl6⟩ := hP
              have hA6 := hA5.out.quiet (Frm.of_below hbl6 _) (Nat.le_succ k)
              replace hA6 := Lib.hid hA6
              clear hbl6 hok hA5 hq5 hH5 hR5 hb5 hrg5 hH' hf5
              go_wp2
              go_roundw
              case rel => exact ⟨k + 1, by omega, by go_num, hA6.out⟩
              case measure => simp [intOf]; omega
            | true =>
              rw [AppPost, if_pos hok] at hP
              obtain ⟨rfl, A2, c2, B2, d2, hH6', hf, kA, kB⟩ := hP
              have hN' : ∀ k, HistF g' A' B' k → wp.heap.size ≤ k := hnew'.out
              have hN6 := hH'.out.new hf5.out.size hN' kA kB
              have hf6 : Frm (fun _ => False) wp w6 := hf5.out.trans hf fun b hb h => by have := hN' b h; omega
              have hA6 := hAq.out.quiet hf6 (Nat.le_refl k)
              have hq6 := hqq.out.frm hf6 (safe_false _ _)
              have hHn := hHq.out.quiet hf6
              have hR6 := hRq.out.frm hf6 fun h => h
              have hb6 := hbF.out.frm hf6 fun h => h
              replace hH6' := Lib.hid hH6'
              replace hA6 := Lib.hid hA6
              replace hq6 := Lib.hid hq6
              replace hHn := Lib.hid hHn
              replace hR6 := Lib.hid hR6
              replace hb6 := Lib.hid hb6
              clear hf6 hN6 hf kA kB hN' hAq hqq hHq hRq hbF hA5 hq5 hH5 hR5 hb5 hrg5 hf5 hH'
              have hC6 : ∀ (F : Nat → Prop) (w' : World), Frm F w6 w' → Safe w.heap.size w6 F → Ctx S w' ∧ RecV w.heap.size w' q rq := fun F w' hf hs => ⟨(hA6.out.s.frm hf hs).ctx, hq6.out.frm hf hs⟩
              have hg : w.heap.size ≤ gr := Nat.le_of_lt hA6.out.rB
              have hlen6 : rs'.length < 4096 := by omega
              have hl9 := hH6'.out.top32
              have hq36 : q.length = 36 := (hC6 (fun _ => False) w6 (Frm.refl _ _) (fun _ _ h => h.elim)).2.length
              have hmc : m.count = rs'.length := hmk.out.1
              obtain ⟨tp, htp⟩ : ∃ tp, tp = topOf (hs' ++ [link S hs' rq]) := ⟨_, rfl⟩
              have ht32 : tp.length = 32 := by rw [htp]; exact hl9
              obtain ⟨mk9, hmk9⟩ : ∃ mk9, mk9 = (⟨m.count + 1, tp, ht32⟩ : Mrk) := ⟨_, rfl⟩
              have hmv : Mk mk9 (rs' ++ [rq]) (hs' ++ [link S hs' rq]) := by rw [hmk9]; exact hmk.out.next rq _ ht32 htp
              replace hC6 := Lib.hid hC6
              replace hmk9 := Lib.hid hmk9
              replace hmv := Lib.hid hmv
              replace hmc := Lib.hid hmc
              replace htp := Lib.hid htp
              replace ht32 := Lib.hid ht32
              replace hok := Lib.hid hok
              replace hl9 := Lib.hid hl9
              go_wp2_with fail
              refine (ac_top w.heap.size g' A2 c2 B2 d2 _ _ w6 hH6'.out).mono ?_
              rintro e w11 ⟨rfl, hbl⟩
              have hg1 := Frm.of_below hbl (fun _ => False)
              have hR11 := hR6.out.frm hg1 fun h => h
              have hH11 := hHn.out.quiet hg1
              have hb11 := hb6.out.frm hg1 fun h => h
              rw [← htp.out]
              replace hR11 := Lib.hid hR11
              replace hH11 := Lib.hid hH11
              replace hb11 := Lib.hid hb11
              replace hg1 := Lib.hid hg1
              clear hbl
              go_wp2_with fail
              refine (begin_free gr m Mrk.zero tp ht32.out w11 hR11.out (by rw [hmc.out]; omega) (by rw [hmc.out]; omega)).mono ?_
              rintro e w12 ⟨rfl, hR12, hf⟩
              have hg2 : Frm (fun k => k = gr) w6 w12 := hg1.out.mono (fun _ _ h => h.elim) |>.trans hf fun _ _ h => h
              have hH12 := hH11.out.reg hR11.out hg hf
              have hb12 := hb11.out.frm hf (hb11.out.ne hR11.out (by decide))
              rw [← hmk9.out] at hR12
              have hrg := hb12.range
              obtain ⟨hC12, hq12⟩ := hC6.out _ _ hg2 (safe_reg hR6.out hg)
              replace hR12 := Lib.hid hR12
              replace hH12 := Lib.hid hH12
              replace hb12 := Lib.hid hb12
              replace hg2 := Lib.hid hg2
              replace hC12 := Lib.hid hC12
              replace hq12 := Lib.hid hq12
              clear hR11 hH11 hb11 hg1 hf
              go_wp2_with first
                | refine list_loadg 29 hrg Tryd.underlying29 rfl (by rw [hq36]; kernel_rfl) (by kernel_rfl) rfl rfl ?_
                | fail
              refine (ac_append S w.heap.size g A c B d rs' hs' rq q w12 hC12.out hH12.out hq12.out hlen6).mono ?_
              intro e w13 hP
              rw [AppPost, if_pos hok.out] at hP
              obtain ⟨rfl, A9, c9, B9, d9, hH13, hf, kA, kB⟩ := hP
              have hR13 := hR12.out.frm hf fun h => hH12.out.ne_reg hR12.out _ h rfl
              have hg3 : Frm (fun k => k = gr ∨ HistF g A B k) w6 w13 := (hg2.out.mono fun _ _ h => .inl h).trans hf fun _ _ h => .inr h
              have kA3 : Kept w6 A A9 := kA.elim .inl fun ⟨x, e, h⟩ => .inr ⟨x, e, Nat.le_trans hg2.out.size h⟩
              have kB3 : Kept w6 B B9 := kB.elim .inl fun ⟨x, e, h⟩ => .inr ⟨x, e, Nat.le_trans hg2.out.size h⟩
              replace hR13 := Lib.hid hR13
              replace hH13 := Lib.hid hH13
              replace hg3 := Lib.hid hg3
              replace kA3 := Lib.hid kA3
              replace kB3 := Lib.hid kB3
              clear hR12 hH12 hg2 hf hb12 hC12 hq12 hrg kA kB
              go_wp2_with fail
              refine (end_yes gr m mk9 w13 hR13.out).mono ?_
              rintro e w14 ⟨rfl, hR14, hf⟩
              have hg4 := hg3.out.trans hf fun _ _ h => .inl h
              have hH14 := hH13.out.reg hR13.out hg hf
              replace hR14 := Lib.hid hR14
              replace hH14 := Lib.hid hH14
              replace hg4 := Lib.hid hg4
              clear hR13 hH13 hg3 hf
              go_wp2_with fail
              have c5 := audit_any w.heap.size g gr A9 c9 B9 d9 _ _ mk9 Mrk.zero mk9 false w14 hH14.out hR14.out hmv.out
              rw [if_pos mk9.beq_self] at c5
              refine c5.mono ?_
              rintro e w15 ⟨rfl, hbl⟩
              have hf := Frm.of_below hbl (fun _ => False)
              have hg5 := hg4.out.trans hf fun _ _ h => h.elim
              have hR15 := hR14.out.frm hf fun h => h
              have hH15 := hH14.out.quiet hf
              replace hR15 := Lib.hid hR15
              replace hH15 := Lib.hid hH15
              replace hg5 := Lib.hid hg5
              clear hR14 hH14 hg4 hf hbl c5
              go_wp2
              have hA15 : AcL S w.heap.size (some ⟨b, o, none⟩) n css rs cs r w gr g (k + 1) w15 := by
                have hs6 := safe_or (safe_reg hR6.out hg) hHn.out.safe
                have hnB : ∀ x, (x = gr ∨ HistF g A B x) → w.heap.size < x := fun x h => h.elim (fun e => e ▸ hA6.out.rB) (hnew.out x)
                refine ⟨hA6.out.s.frm hg5.out hs6, hA6.out.box.frm hg5.out (fun h => Nat.lt_irrefl _ (hnB _ h)), hA6.out.rcd.frm hg5.out hs6, Frm.below_of hA6.out.bel hg5.out (fun x h => Nat.le_of_lt (hnB x h)), hA6.out.rB, A9, c9, B9, d9, _, _, mk9, hH15.out, hR15.out, hmv.out, by simp; omega, ?_⟩
                exact hHn.out.new (N := w.heap.size + 1) hA6.out.box.lt hnew.out kA3.out kB3.out
              replace hA15 := Lib.hid hA15
              clear hR15 hH15 hg5 kA3 kB3 hA6 hR6 hHn hC6 hq6 hb6 hH6'
              go_roundw
              case rel => exact ⟨k + 1, by omega, by go_num, hA15.out⟩
              case measure => simp [intOf]; omega
          · have hnlt : ¬ ((k : Int) < n) := by omega
            obtain ⟨A, c, B, d, rs', hs', m, hH, hR, hmk, hl', hnew⟩ := hA.out.st
            have hlt5 := hA.out.box.lt
            replace hH := Lib.hid hH
            replace hR := Lib.hid hR
            replace hmk := Lib.hid hmk
            replace hnew := Lib.hid hnew
            go_wp2_with fail
            refine (now_any w.heap.size g A c B d rs' hs' wo hH.out).mono ?_
            rintro e w5 ⟨v, rfl, hv, hbl⟩
            have hf5 := Frm.of_below hbl (fun _ => False)
            have hA5 := hA.out.quiet hf5 (Nat.le_refl k)
            have hH5 := hH.out.quiet hf5
            have hR5 := hR.out.frm hf5 fun h => h
            obtain ⟨v1, v2, hcs, _, _⟩ := hA5.rcd.rv
            have hcell : w5.cell? ⟨w.heap.size, 1, none⟩ = some v1 := by rw [hA5.box.cell 1, hcs]; rfl
            have hfrz := hA5.box.frozen 1
            obtain ⟨A7, c7, hv7, _⟩ := hv.it
            obtain ⟨L7, hL7⟩ : ∃ L7, L7 = (nowOf rs').length := ⟨_, rfl⟩
            rw [← hL7] at hv7
            have hb6 : Blk (w5.setCell ⟨w.heap.size, 1, none⟩ v) w.heap.size 29 (cs.set 1 v) := hA5.box.set_ 1 v
            have hf6 := (Frm.refl (fun k => k = w.heap.size) w5).setCell (p := ⟨w.heap.size, 1, none⟩) (fun _ => rfl) v
            have hs6 := safe_box hA5.box (Nat.le_refl _)
            have hS6 := hA5.s.frm hf6 hs6
            have hr6 : RecV w.heap.size (w5.setCell ⟨w.heap.size, 1, none⟩ v) (cs.set 1 v) { r with before := nowOf rs' } := by
              have h1 := hA5.rcd.frm hf6 hs6
              have h2 := hv.frm hf6 hs6
              rw [hcs] at h1 ⊢
              exact h1.before h2
            have hH6 := hH5.frm hf6 hs6 fun x hx e => by have := hnew.out x hx; omega
            have hR6 := hR5.frm hf6 fun e => by have := hA5.rB; omega
            have hB6 := Frm.below_of hA5.bel hf6 (fun x e => by omega)
            have hrB := hA5.rB
            subst hv7
            obtain ⟨w6, hw6⟩ : ∃ w6, w6 = w5.setCell ⟨w.heap.size, 1, none⟩ (.slice A7 L7 c7) := ⟨_, rfl⟩
            rw [← hw6] at hb6 hS6 hr6 hH6 hR6 hB6
            obtain ⟨cs6, hcs6⟩ : ∃ cs6, cs6 = cs.set 1 (.slice A7 L7 c7) := ⟨_, rfl⟩
            obtain ⟨r6, hr6'⟩ : ∃ r6, r6 = { r with before := nowOf rs' } := ⟨_, rfl⟩
            rw [← hcs6] at hb6 hr6
            rw [← hr6'] at hr6
            replace hb6 := Lib.hid hb6
            replace hS6 := Lib.hid hS6
            replace hr6 := Lib.hid hr6
            replace hH6 := Lib.hid hH6
            replace hR6 := Lib.hid hR6
            replace hB6 := Lib.hid hB6
            replace hw6 := Lib.hid hw6
            clear hf5 hA5 hH5 hR5 hcs hL7 hf6 hs6 hv hbl hA hH hR hcs6 hr6'
            go_wp2_with fail
            rw [← hw6.out]
            refine (ac_copy w.heap.size g A c B d rs' hs' w6 hH6.out hS6.out.sz).mono ?_
            rintro e w7 ⟨g', A', c', B', d', rfl, hH', hnew', hbl7⟩
            have hf7 := Frm.of_below hbl7 (fun _ => False)
            have hS7 := hS6.out.frm hf7 (safe_false _ _)
            have hr7 := hr6.out.frm hf7 (safe_false _ _)
            have hb7 := hb6.out.frm hf7 fun h => h
            have hrg7 := hb7.range
            have h36 := hr7.length
            replace hH' := Lib.hid hH'
            replace hnew' := Lib.hid hnew'
            replace hf7 := Lib.hid hf7
            replace hS7 := Lib.hid hS7
            replace hr7 := Lib.hid hr7
            replace hb7 := Lib.hid hb7
            clear hbl7 hcell hfrz
            go_wp2_with first
              | refine list_load 29 hrg7 Tryd.underlying29 rfl (by rw [h36]; kernel_rfl) rfl rfl rfl ?_
            refine (ac_append S w.heap.size g' A' c' B' d' rs' hs' r6 cs6 w7 hS7.out.ctx hH'.out hr7.out (by omega)).mono ?_
            intro e w8 hP
            cases hok : appendOk rs' r6 with
            | false =>
              rw [AppPost, if_neg (by rw [hok]; decide)] at hP
              obtain ⟨rfl, hbl8⟩ := hP
              have hB8 := Frm.below_of hB6.out (hf7.out.trans (Frm.of_below hbl8 _) fun _ _ h => h) (fun x h => h.elim)
              replace hB8 := Lib.hid hB8
              clear hbl8 hok hH' hnew' hf7 hS7 hr7 hb7 hrg7 hb6 hS6 hr6 hH6 hR6 hB6
              go_wp2_with fail
              refine (awake_any _).mono ?_
              rintro e w9 ⟨rfl, hbl⟩
              have hB9 := Frm.below_of hB8.out (Frm.of_below hbl (fun _ => False)) (fun x h => h.elim)
              replace hB9 := Lib.hid hB9
              clear hB8 hbl
              go_wp2
              go_ret
              exact ⟨rfl, hB9.out⟩
            | true =>
              rw [AppPost, if_pos hok] at hP
              obtain ⟨rfl, A2, c2, B2, d2, hH8', hf, kA, kB⟩ := hP
              have hN' : ∀ k, HistF g' A' B' k → w6.heap.size ≤ k := hnew'.out
              have hf8 : Frm (fun _ => False) w6 w8 := hf7.out.trans hf fun b hb h => by have := hN' b h; omega
              have hH8 := hH6.out.quiet hf8
              have hR8 := hR6.out.frm hf8 fun h => h
              have hB8 := Frm.below_of hB6.out hf8 (fun x h => h.elim)
              have hgB : w.heap.size ≤ gr := Nat.le_of_lt hrB
              obtain ⟨tp, htp⟩ : ∃ tp, tp = topOf (hs' ++ [link S hs' r6]) := ⟨_, rfl⟩
              have ht32 : tp.length = 32 := by rw [htp]; exact hH8'.top32
              obtain ⟨mc, hmc⟩ : ∃ mc, mc = (⟨m.count + 1, tp, ht32⟩ : Mrk) := ⟨_, rfl⟩
              have hmv : Mk mc (rs' ++ [r6]) (hs' ++ [link S hs' r6]) := by rw [hmc]; exact hmk.out.next r6 _ ht32 htp
              have hcount : m.count = rs'.length := hmk.out.1
              replace hH8' := Lib.hid hH8'
              replace hH8 := Lib.hid hH8
              replace hR8 := Lib.hid hR8
              replace hB8 := Lib.hid hB8
              replace htp := Lib.hid htp
              replace ht32 := Lib.hid ht32
              replace hmc := Lib.hid hmc
              replace hmv := Lib.hid hmv
              replace hcount := Lib.hid hcount
              clear hok hf hf8 hN' hH' hnew' hf7 hS7 hr7 hb7 hrg7 hb6 hS6 hr6 hH6 hR6 hB6 kA kB hw6
              go_wp2_with fail
              refine (ac_top _ _ _ _ _ _ _ _ _ hH8'.out).mono ?_
              rintro e w9 ⟨rfl, hbl⟩
              have hf := Frm.of_below hbl (fun _ => False)
              have hH9' := hH8'.out.quiet hf
              have hH9 := hH8.out.quiet hf
              have hR9 := hR8.out.frm hf fun h => h
              have hB9 := Frm.below_of hB8.out hf (fun x h => h.elim)
              rw [← htp.out]
              replace hH9' := Lib.hid hH9'
              replace hH9 := Lib.hid hH9
              replace hR9 := Lib.hid hR9
              replace hB9 := Lib.hid hB9
              clear hf hbl hH8' hH8 hR8 hB8
              go_wp2_with fail
              refine (begin_free gr m Mrk.zero tp ht32.out w9 hR9.out (by rw [hcount.out]; omega) (by rw [hcount.out]; omega)).mono ?_
              rintro e w10 ⟨rfl, hRt, hf⟩
              rw [← hmc.out] at hRt
              have hHc := hH9'.out.reg hR9.out hgB hf
              have hHh := hH9.out.reg hR9.out hgB hf
              have hBt := Frm.below_of hB9.out hf (fun x e => by omega)
              replace hRt := Lib.hid hRt
              replace hHc := Lib.hid hHc
              replace hHh := Lib.hid hHh
              replace hBt := Lib.hid hBt
              clear hH9' hH9 hR9 hB9 hf
              cases X with
              | false =>
                obtain ⟨mkt, hmkt⟩ : ∃ mkt, mkt = m := ⟨_, rfl⟩
                have hmt : Mk mkt rs' hs' := hmkt ▸ hmk.out
                have hokt : SetOk true mkt m mc := .inl (hmkt ▸ Mrk.beq_self _)
                have hHt := hHh
                replace hmt := Lib.hid hmt
                replace hokt := Lib.hid hokt
                clear hHh hHc hmkt hmk hmv
                go_wp2_with fail
                refine (ac_settle _ _ _ _ _ _ _ _ _ _ _ _ _ _ hHt.out hRt.out hmt.out hokt.out).mono ?_
                rintro e t1 ⟨rfl, mu, nu, hbe, hR1, hg1⟩
                have hH1 := hHt.out.reg hRt.out hgB hg1
                have hB1 := Frm.below_of hBt.out hg1 (fun x e => by omega)
                have hne : ∀ w, (binOp .neq 47 (.agg mu.cells.toArray) (.agg mkt.cells.toArray)).run Tryd.prog w = .ok (.bool false) w := fun w => by
                  obtain rfl := Mrk.eq_of_beq hbe
                  rw [run_neqMrk, Mrk.beq_self]; rfl
                replace hbe := Lib.hid hbe
                replace hR1 := Lib.hid hR1
                replace hB1 := Lib.hid hB1
                replace hH1 := Lib.hid hH1
                replace hne := Lib.hid hne
                clear hHt hRt hBt hg1
                go_wp2_with fail
                have c2 := settle_free _ _ _ _ _ _ _ _ _ _ _ _ _ hH1.out hR1.out hmt.out
                rw [if_pos hbe.out] at c2
                refine c2.mono ?_
                rintro e t2 ⟨rfl, hbl⟩
                have hf := Frm.of_below hbl (fun _ => False)
                have hB2 := Frm.below_of hB1.out hf (fun x h => h.elim)
                have hR2 := hR1.out.frm hf fun h => h
                have hH2 := hH1.out.quiet hf
                replace hR2 := Lib.hid hR2
                replace hB2 := Lib.hid hB2
                replace hH2 := Lib.hid hH2
                clear hH1 hR1 hB1 hf hbl c2
                go_wp2_with fail
                have c3 := audit_any _ _ _ _ _ _ _ _ _ _ _ _ _ _ hH2.out hR2.out hmt.out
                rw [if_pos hbe.out] at c3
                refine c3.mono ?_
                rintro e t3 ⟨rfl, hbl⟩
                have hf := Frm.of_below hbl (fun _ => False)
                have hB3 := Frm.below_of hB2.out hf (fun x h => h.elim)
                have hR3 := hR2.out.frm hf fun h => h
                have hH3 := hH2.out.quiet hf
                replace hR3 := Lib.hid hR3
                replace hB3 := Lib.hid hB3
                replace hH3 := Lib.hid hH3
                clear hH2 hR2 hB2 hf hbl c3
                go_wp2_with fail
                refine (regMark_any _ _ _ _ _ hR3.out).mono ?_
                rintro e t4 ⟨rfl, hbl⟩
                have hf := Frm.of_below hbl (fun _ => False)
                have hB4 := Frm.below_of hB3.out hf (fun x h => h.elim)
                have hR4 := hR3.out.frm hf fun h => h
                have hH4 := hH3.out.quiet hf
                replace hR4 := Lib.hid hR4
                replace hB4 := Lib.hid hB4
                replace hH4 := Lib.hid hH4
                clear hH3 hR3 hB3 hf hbl
                go_wp2_with fail
                refine (of_any _ _ _ _ _ _ _ _ _ hH4.out mkt hmt.out).mono ?_
                rintro e t5 ⟨rfl, hbl⟩
                have hf := Frm.of_below hbl (fun _ => False)
                have hB5 := Frm.below_of hB4.out hf (fun x h => h.elim)
                have hR5 := hR4.out.frm hf fun h => h
                replace hR5 := Lib.hid hR5
                replace hB5 := Lib.hid hB5
                have hne := hne.out
                clear hH4 hR4 hB4 hf hbl
                go_wp2_with fail
                refine (next_any _ _ _ _ _ hR5.out).mono ?_
                rintro e t6 ⟨rfl, hbl⟩
                have hf := Frm.of_below hbl (fun _ => False)
                have hB6 := Frm.below_of hB5.out hf (fun x h => h.elim)
                have hz6 := Blk.new t6 47 Mrk.zero.cells
                have hml := nu.len
                have hzl : Mrk.zero.cells.length = 33 := Mrk.zero.len
                have hth6 := hz6.there' 0 33 (by rw [hzl]; exact Nat.le_refl _)
                have hB7 := Frm.below_of hB6 (((Frm.refl (fun k => t6.heap.size ≤ k) t6).alloc (.cells Mrk.zero.cells.toArray 47)).setCells (g := t6.heap.size) (fun h => Nat.le_refl _) 0 nu.cells) (fun x h => Nat.le_trans (Nat.le_trans hB6.size (Nat.le_refl _)) h)
                replace hB7 := Lib.hid hB7
                replace hz6 := Lib.hid hz6
                replace hzl := Lib.hid hzl
                clear hR5 hB5 hf hbl hne hB6
                go_wp2_with first
                  | refine list_store (cs := nu.cells) 47 (by rw [hml]; exact hth6) (by rw [hml]; kernel_rfl) nu.one rfl rfl rfl rfl ?_
                refine (awake_any _).mono ?_
                rintro e t7 ⟨rfl, hbl⟩
                have hB8 := Frm.below_of hB7.out (Frm.of_below hbl (fun _ => False)) (fun x h => h.elim)
                replace hB8 := Lib.hid hB8
                clear hB7 hbl hth6
                go_wp2
                go_ret
                exact ⟨rfl, hB8.out⟩
              | true =>
                obtain ⟨mkt, hmkt⟩ : ∃ mkt, mkt = mc := ⟨_, rfl⟩
                have hmt : Mk mkt (rs' ++ [r6]) (hs' ++ [link S hs' r6]) := hmkt ▸ hmv.out
                have hHt := hHc
                replace hmt := Lib.hid hmt
                clear hHh hHc
                cases Y with
                | false =>
                  have hokt : SetOk true mkt m mc := .inr ⟨rfl, hmkt ▸ Mrk.beq_self _⟩
                  replace hokt := Lib.hid hokt
                  clear hmkt hmk hmv
                  go_wp2_with fail
                  refine (ac_settle _ _ _ _ _ _ _ _ _ _ _ _ _ _ hHt.out hRt.out hmt.out hokt.out).mono ?_
                  rintro e t1 ⟨rfl, mu, nu, hbe, hR1, hg1⟩
                  have hH1 := hHt.out.reg hRt.out hgB hg1
                  have hB1 := Frm.below_of hBt.out hg1 (fun x e => by omega)
                  have hne : ∀ w, (binOp .neq 47 (.agg mu.cells.toArray) (.agg mkt.cells.toArray)).run Tryd.prog w = .ok (.bool false) w := fun w => by
                    obtain rfl := Mrk.eq_of_beq hbe
                    rw [run_neqMrk, Mrk.beq_self]; rfl
                  replace hbe := Lib.hid hbe
                  replace hR1 := Lib.hid hR1
                  replace hB1 := Lib.hid hB1
                  replace hH1 := Lib.hid hH1
                  replace hne := Lib.hid hne
                  clear hHt hRt hBt hg1
                  go_wp2_with fail
                  have c2 := settle_free _ _ _ _ _ _ _ _ _ _ _ _ _ hH1.out hR1.out hmt.out
                  rw [if_pos hbe.out] at c2
                  refine c2.mono ?_
                  rintro e t2 ⟨rfl, hbl⟩
                  have hf := Frm.of_below hbl (fun _ => False)
                  have hB2 := Frm.below_of hB1.out hf (fun x h => h.elim)
                  have hR2 := hR1.out.frm hf fun h => h
                  have hH2 := hH1.out.quiet hf
                  replace hR2 := Lib.hid hR2
                  replace hB2 := Lib.hid hB2
                  replace hH2 := Lib.hid hH2
                  clear hH1 hR1 hB1 hf hbl c2
                  go_wp2_with fail
                  have c3 := audit_any _ _ _ _ _ _ _ _ _ _ _ _ _ _ hH2.out hR2.out hmt.out
                  rw [if_pos hbe.out] at c3
                  refine c3.mono ?_
                  rintro e t3 ⟨rfl, hbl⟩
                  have hf := Frm.of_below hbl (fun _ => False)
                  have hB3 := Frm.below_of hB2.out hf (fun x h => h.elim)
                  have hR3 := hR2.out.frm hf fun h => h
                  have hH3 := hH2.out.quiet hf
                  replace hR3 := Lib.hid hR3
                  replace hB3 := Lib.hid hB3
                  replace hH3 := Lib.hid hH3
                  clear hH2 hR2 hB2 hf hbl c3
                  go_wp2_with fail
                  refine (regMark_any _ _ _ _ _ hR3.out).mono ?_
                  rintro e t4 ⟨rfl, hbl⟩
                  have hf := Frm.of_below hbl (fun _ => False)
                  have hB4 := Frm.below_of hB3.out hf (fun x h => h.elim)
                  have hR4 := hR3.out.frm hf fun h => h
                  have hH4 := hH3.out.quiet hf
                  replace hR4 := Lib.hid hR4
                  replace hB4 := Lib.hid hB4
                  replace hH4 := Lib.hid hH4
                  clear hH3 hR3 hB3 hf hbl
                  go_wp2_with fail
                  refine (of_any _ _ _ _ _ _ _ _ _ hH4.out mkt hmt.out).mono ?_
                  rintro e t5 ⟨rfl, hbl⟩
                  have hf := Frm.of_below hbl (fun _ => False)
                  have hB5 := Frm.below_of hB4.out hf (fun x h => h.elim)
                  have hR5 := hR4.out.frm hf fun h => h
                  replace hR5 := Lib.hid hR5
                  replace hB5 := Lib.hid hB5
                  have hne := hne.out
                  clear hH4 hR4 hB4 hf hbl
                  go_wp2_with fail
                  refine (next_any _ _ _ _ _ hR5.out).mono ?_
                  rintro e t6 ⟨rfl, hbl⟩
                  have hf := Frm.of_below hbl (fun _ => False)
                  have hB6 := Frm.below_of hB5.out hf (fun x h => h.elim)
                  have hz6 := Blk.new t6 47 Mrk.zero.cells
                  have hml := nu.len
                  have hzl : Mrk.zero.cells.length = 33 := Mrk.zero.len
                  have hth6 := hz6.there' 0 33 (by rw [hzl]; exact Nat.le_refl _)
                  have hB7 := Frm.below_of hB6 (((Frm.refl (fun k => t6.heap.size ≤ k) t6).alloc (.cells Mrk.zero.cells.toArray 47)).setCells (g := t6.heap.size) (fun h => Nat.le_refl _) 0 nu.cells) (fun x h => Nat.le_trans (Nat.le_trans hB6.size (Nat.le_refl _)) h)
                  replace hB7 := Lib.hid hB7
                  replace hz6 := Lib.hid hz6
                  replace hzl := Lib.hid hzl
                  clear hR5 hB5 hf hbl hne hB6
                  go_wp2_with first
                    | refine list_store (cs := nu.cells) 47 (by rw [hml]; exact hth6) (by rw [hml]; kernel_rfl) nu.one rfl rfl rfl rfl ?_
                  refine (awake_any _).mono ?_
                  rintro e t7 ⟨rfl, hbl⟩
                  have hB8 := Frm.below_of hB7.out (Frm.of_below hbl (fun _ => False)) (fun x h => h.elim)
                  replace hB8 := Lib.hid hB8
                  clear hB7 hbl hth6
                  go_wp2
                  go_ret
                  exact ⟨rfl, hB8.out⟩
                | true =>
                  go_wp2_with fail
                  refine (end_yes gr m mc w10 hRt.out).mono ?_
                  rintro e w11 ⟨rfl, hR11, hf⟩
                  have hH11 := hHt.out.reg hRt.out hgB hf
                  have hB11 := Frm.below_of hBt.out hf (fun x e => by omega)
                  have hokt : SetOk false mkt mc Mrk.zero := .inl (hmkt ▸ Mrk.beq_self _)
                  replace hokt := Lib.hid hokt
                  clear hHt hRt hBt
                  have hHt := Lib.hid hH11
                  have hRt := Lib.hid hR11
                  have hBt := Lib.hid hB11
                  clear hmkt hmk hmv hH11 hR11 hB11 hf
                  go_wp2_with fail
                  refine (ac_settle _ _ _ _ _ _ _ _ _ _ _ _ _ _ hHt.out hRt.out hmt.out hokt.out).mono ?_
                  rintro e t1 ⟨rfl, mu, nu, hbe, hR1, hg1⟩
                  have hH1 := hHt.out.reg hRt.out hgB hg1
                  have hB1 := Frm.below_of hBt.out hg1 (fun x e => by omega)
                  have hne : ∀ w, (binOp .neq 47 (.agg mu.cells.toArray) (.agg mkt.cells.toArray)).run Tryd.prog w = .ok (.bool false) w := fun w => by
                    obtain rfl := Mrk.eq_of_beq hbe
                    rw [run_neqMrk, Mrk.beq_self]; rfl
                  replace hbe := Lib.hid hbe
                  replace hR1 := Lib.hid hR1
                  replace hB1 := Lib.hid hB1
                  replace hH1 := Lib.hid hH1
                  replace hne := Lib.hid hne
                  clear hHt hRt hBt hg1
                  go_wp2_with fail
                  have c2 := settle_free _ _ _ _ _ _ _ _ _ _ _ _ _ hH1.out hR1.out hmt.out
                  rw [if_pos hbe.out] at c2
                  refine c2.mono ?_
                  rintro e t2 ⟨rfl, hbl⟩
                  have hf := Frm.of_below hbl (fun _ => False)
                  have hB2 := Frm.below_of hB1.out hf (fun x h => h.elim)
                  have hR2 := hR1.out.frm hf fun h => h
                  have hH2 := hH1.out.quiet hf
                  replace hR2 := Lib.hid hR2
                  replace hB2 := Lib.hid hB2
                  replace hH2 := Lib.hid hH2
                  clear hH1 hR1 hB1 hf hbl c2
                  go_wp2_with fail
                  have c3 := audit_any _ _ _ _ _ _ _ _ _ _ _ _ _ _ hH2.out hR2.out hmt.out
                  rw [if_pos hbe.out] at c3
                  refine c3.mono ?_
                  rintro e t3 ⟨rfl, hbl⟩
                  have hf := Frm.of_below hbl (fun _ => False)
                  have hB3 := Frm.below_of hB2.out hf (fun x h => h.elim)
                  have hR3 := hR2.out.frm hf fun h => h
                  have hH3 := hH2.out.quiet hf
                  replace hR3 := Lib.hid hR3
                  replace hB3 := Lib.hid hB3
                  replace hH3 := Lib.hid hH3
                  clear hH2 hR2 hB2 hf hbl c3
                  go_wp2_with fail
                  refine (regMark_any _ _ _ _ _ hR3.out).mono ?_
                  rintro e t4 ⟨rfl, hbl⟩
                  have hf := Frm.of_below hbl (fun _ => False)
                  have hB4 := Frm.below_of hB3.out hf (fun x h => h.elim)
                  have hR4 := hR3.out.frm hf fun h => h
                  have hH4 := hH3.out.quiet hf
                  replace hR4 := Lib.hid hR4
                  replace hB4 := Lib.hid hB4
                  replace hH4 := Lib.hid hH4
                  clear hH3 hR3 hB3 hf hbl
                  go_wp2_with fail
                  refine (of_any _ _ _ _ _ _ _ _ _ hH4.out mkt hmt.out).mono ?_
                  rintro e t5 ⟨rfl, hbl⟩
                  have hf := Frm.of_below hbl (fun _ => False)
                  have hB5 := Frm.below_of hB4.out hf (fun x h => h.elim)
                  have hR5 := hR4.out.frm hf fun h => h
                  replace hR5 := Lib.hid hR5
                  replace hB5 := Lib.hid hB5
                  have hne := hne.out
                  clear hH4 hR4 hB4 hf hbl
                  go_wp2_with fail
                  refine (next_any _ _ _ _ _ hR5.out).mono ?_
                  rintro e t6 ⟨rfl, hbl⟩
                  have hf := Frm.of_below hbl (fun _ => False)
                  have hB6 := Frm.below_of hB5.out hf (fun x h => h.elim)
                  have hz6 := Blk.new t6 47 Mrk.zero.cells
                  have hml := nu.len
                  have hzl : Mrk.zero.cells.length = 33 := Mrk.zero.len
                  have hth6 := hz6.there' 0 33 (by rw [hzl]; exact Nat.le_refl _)
                  have hB7 := Frm.below_of hB6 (((Frm.refl (fun k => t6.heap.size ≤ k) t6).alloc (.cells Mrk.zero.cells.toArray 47)).setCells (g := t6.heap.size) (fun h => Nat.le_refl _) 0 nu.cells) (fun x h => Nat.le_trans (Nat.le_trans hB6.size (Nat.le_refl _)) h)
                  replace hB7 := Lib.hid hB7
                  replace hz6 := Lib.hid hz6
                  replace hzl := Lib.hid hzl
                  clear hR5 hB5 hf hbl hne hB6
                  go_wp2_with first
                    | refine list_store (cs := nu.cells) 47 (by rw [hml]; exact hth6) (by rw [hml]; kernel_rfl) nu.one rfl rfl rfl rfl ?_
                  refine (awake_any _).mono ?_
                  rintro e t7 ⟨rfl, hbl⟩
                  have hB8 := Frm.below_of hB7.out (Frm.of_below hbl (fun _ => False)) (fun x h => h.elim)
                  replace hB8 := Lib.hid hB8
                  clear hB7 hbl hth6
                  go_wp2
                  go_ret
                  exact ⟨rfl, hB8.out⟩
end Go.Proofs.YtmajnoefddbflaaDoor
