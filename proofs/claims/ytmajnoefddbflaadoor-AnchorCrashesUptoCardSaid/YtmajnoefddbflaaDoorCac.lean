/- Proved here: syngraphlaw23.AnchorCrashes answers true, and its arguments read afterwards as they read before, for every list of records, record and number (the second form's tied card, anchorCrashes.cardUpto).
   Conditions: the arguments hold together at most 1048576 values and letters; the listed package-level variables start as the program's text lays them (the card ties them, over the pruned copy of the project that the seat holds). -/
import Derived.Test.YtmajnoefddbflaaDoorCards
import Derived.Test.YtmajnoefddbflaaDoorTie
import Derived.Test.YtmajnoefddbflaaDoorAcl
import Derived.Test.YtmajnoefddbflaaDoorOpn
import Derived.WalkKit
import Derived.ProofKit
import Derived.OpenShut
import Derived.Lay
import Derived.LaidSub
import Derived.MakeChecks
import Derived.Deep.DeepHandedRow
import Derived.Lib.LaidTab
import Derived.Carry
namespace Go.Proofs.YtmajnoefddbflaaDoor
open Go.ChangeShapes Go.WideShapes Go.ChangeAt Go.RowKit

theorem ownKnob_ : ownKnob Tryd.prog.godebug = none := by kernel_rfl
theorem laidOut_ : laidOutB Tryd.prog = true := by kernel_rfl
/-- one listed table -/
theorem tab_of {W : World} {l : List (String × DataW Unit)} {name : String} {k : IntKind} {zs : List Int} {g : Nat} {t e : TypeId} {n : Nat} (h : laidMetH Tryd.prog l W)
    (hl : l.filter (fun x => x.1 == name) = [(name, Lib.tabData k zs)]) (hg : Tryd.prog.globalNamed name = some g) (hty : (Tryd.prog.globals[g]?).map (·.type) = some t) (ht : Tryd.prog.underlying t = some (.array n e)) (he : Tryd.prog.underlying e = some (.int k)) (hce : Tryd.prog.cellsOf e = 1) (hct : Tryd.prog.cellsOf t = n) : Lib.TabIs Tryd.prog W name k zs := by
  have h1 := laidMetH.filter (fun x => x.1 == name) h
  rw [hl, MakeChecks.laidMetH_plain _ _ _ (by rfl)] at h1
  exact Lib.tabIs_of_head (rest := []) hg hty ht he hce hct h1
def tab32 (d : DataW Unit) : List Int := match d with
  | .agg l => l.map fun x => match x with | .lit (.int _ z) => z | _ => 0
  | _ => []
def sha_ : Sha := ⟨tab32 Rows.laid_syngraph_sha_table, tab32 Rows.laid_syngraph_sha_begin, by kernel_rfl, by kernel_rfl⟩
theorem named_table : Tryd.prog.globalNamed "syngraph/sha.table" = some 1 := by kernel_rfl
theorem named_begin : Tryd.prog.globalNamed "syngraph/sha.begin" = some 0 := by kernel_rfl
theorem post_of_below {H : Type} {enc : TypeId × Value → H} {P : Program} {f : Func} {s : ChangeSpec} {apart fresh handsOn again : Bool} {W W' : World} {args : Array Value} {v : Value} {ds gs : List (DataW H)} {before pa pv : List MemPlace}
    (hW : DataW.Whole enc P f.params.toList s.vars apart W args.toList ds gs before)
    (hres : ∀ (b : Nat) (sp : Nat → Bool) (hd : Bool), DataW.TrodAll enc P W' b sp hd f.resultTypes.toList (v.resultList f.resultTypes.size) (s.fn H (ds ++ gs)).results [])
    (hargs : ∀ sp : Nat → Bool, (∀ p ∈ before, sp p.block = true) → DataW.TrodAll enc P W' 0 sp true f.params.toList args.toList (s.fn H (ds ++ gs)).args pa)
    (hvars : ∀ sp : Nat → Bool, (∀ p ∈ before, sp p.block = true) → DataW.TrodVars enc P W' sp s.vars (s.fn H (ds ++ gs)).vars pv)
    (hps : before = pa ++ pv) (hb : Below W.heap.size W W')
    (hok : ∀ (j : Nat) (t : TypeId) (r : Value), f.resultTypes[j]? = some t → (v.resultList f.resultTypes.size)[j]? = some r → Value.okWide P W' .any 0 t r) :
    s.post enc P f apart fresh handsOn again W args v W' := by
  have hlt : ∀ p ∈ before, p.block < W.heap.size := fun p hp => hW.lt p hp
  have hold : ∀ p ∈ before, (fun b => decide (b < W.heap.size)) p.block = true := fun p hp => by simpa using hlt p hp
  refine ⟨ds, gs, before, [], pa, pv, hW, hres _ _ _, hargs _ hold, hvars _ hold, World.keptBut_mono (fun p hp => ⟨hp, ?_⟩) (hb.frame (· ∈ before)), fun _ => ?_⟩
  · rw [hps, List.mem_append] at hp
    exact Or.inr hp
  · obtain ⟨_, _, _, _, _, hz, hn⟩ := hW
    refine ⟨hok, _, _, ([] ++ pa) ++ pv, ⟨[] ++ pa, pv, trodAll_append (hargs _ (fun _ _ => rfl)) (hres _ _ _), hvars _ (fun _ _ => rfl), rfl, ?_, ?_⟩, ?_⟩
    · intro b off hp
      have hp' : MemPlace.cell b off ∈ before := by rw [hps]; simpa using hp
      rw [hb.frozen (hlt _ hp')]
      exact hz b off hp'
    · intro ha
      have := hn ha
      rw [hps] at this
      simpa using this
    · intro p hp _
      rw [hps]
      simpa using hp
theorem ctx_of {W : World} {l : List (String × DataW Unit)} (h : laidMetH Tryd.prog l W)
    (h1 : l.filter (fun x => x.1 == "syngraph/sha.table") = [("syngraph/sha.table", Lib.tabData .u32 sha_.tab)])
    (h2 : l.filter (fun x => x.1 == "syngraph/sha.begin") = [("syngraph/sha.begin", Lib.tabData .u32 sha_.bg)])
    (h3 : l.filter (fun x => x.1 == "internal/strconv.uint64pow10") = [("internal/strconv.uint64pow10", Lib.tabData .u64 Lib.pow10Tab)]) : Ctx sha_ W := by
  have t1 := tab_of h h1 named_table (by kernel_rfl) Tryd.underlying118 Tryd.underlying105 (by kernel_rfl) (by kernel_rfl)
  have t2 := tab_of h h2 named_begin (by kernel_rfl) Tryd.underlying106 Tryd.underlying105 (by kernel_rfl) (by kernel_rfl)
  have t3 := tab_of h h3 powNamed (t := 166) (by kernel_rfl) Tryd.underlying166 Tryd.underlying109 (by kernel_rfl) (by kernel_rfl)
  exact ⟨⟨fun i hi => t1.cell named_table i hi, fun i hi => t2.cell named_begin i hi⟩, t3⟩
set_option maxRecDepth 100000 in
theorem ac_ctx {W : World} (h : laidMetH Tryd.prog Rows.anchorCrashesUptoRow.laid W) : Ctx sha_ W := ctx_of h (by kernel_rfl) (by kernel_rfl) (by kernel_rfl)
set_option maxRecDepth 100000 in
set_option maxHeartbeats 1000000 in
theorem ac_contract (H : Type) (enc : TypeId × Value → H) (W : World) (base : Nat) (args : Array Value) (ds gs : List (DataW H)) (before : List MemPlace)
    (hval : ∀ (j : Nat) t v, Tryd.f3.params[j]? = some t → args[j]? = some v → Value.okWide Tryd.prog W .any base t v)
    (hW : DataW.Whole enc Tryd.prog Tryd.f3.params.toList Rows.anchorCrashesSpec.vars false W args.toList ds gs before) (hbk : Rows.uptoBulkAll (ds ++ gs) ≤ 1048576) (hL : laidMetH Tryd.prog Rows.anchorCrashesUptoRow.laid W) :
    Calls Tryd.prog 3 args W fun e W' => ∃ v, e = .returned v ∧ Rows.anchorCrashesSpec.post enc Tryd.prog Tryd.f3 false true false false W args v W' := by
  have hW' := hW
  obtain ⟨p, q, hA0, hV, rfl, hfz, hnd⟩ := hW
  have hA : DataW.TrodAll enc Tryd.prog W 0 (fun _ => true) true Tryd.f3.params.toList args.toList ds p := hA0
  rw [Tryd.params3] at hA hval
  obtain ⟨v0, vs0, d0, ds0, p0, q0, hargs, rfl, rfl, h0, r0⟩ := trodAll_cons hA
  obtain ⟨v1, vs1, d1, ds1, p1, q1, rfl, rfl, rfl, h1, r1⟩ := trodAll_cons r0
  obtain ⟨v2, vs2, d2, ds2, p2, q2, rfl, rfl, rfl, h2, r2⟩ := trodAll_cons r1
  obtain ⟨rfl, rfl, rfl⟩ := trodAll_nil r2
  obtain rfl : args = #[v0, v1, v2] := by cases args; simp_all
  obtain ⟨rfl, rfl⟩ := trodVars_none hV
  obtain ⟨how, rfl, rfl, rfl, hwf⟩ := open_int Tryd.underlying3 (hval 2 _ v2 rfl rfl) h2
  have hs0 : ∃ A n c, v0 = .slice A n c := by
    have := hval 0 _ v0 rfl rfl
    simp only [Value.okWide, Tryd.underlying22, Cell.okWide] at this
    cases v0 <;> simp [Cell.ok, Tryd.underlying22] at this ⊢
  obtain ⟨A0, n, c0, rfl⟩ := hs0
  have hs1 : ∃ cs : Array Value, v1 = .agg cs := by
    have := hval 1 _ v1 rfl rfl
    simp only [Value.okWide, Tryd.underlying29] at this
    exact ⟨this.choose, this.choose_spec.1⟩
  obtain ⟨cs, rfl⟩ := hs1
  have hB0 : Rows.uptoBulk d0 ≤ 1048576 := Nat.le_trans (bulk_part (by simp)) hbk
  have hB1 : Rows.uptoBulk d1 ≤ 1048576 := Nat.le_trans (bulk_part (by simp)) hbk
  have h0k := h0
  have h1k := h1
  obtain ⟨f0, t0⟩ := h0
  obtain ⟨f1, t1⟩ := h1
  obtain ⟨A, n', cap, css, rs, e, hr, hrs, hl, hn⟩ := open_records t0 hB0
  obtain ⟨r, hrv⟩ := open_record (cs := cs.toList) t1 hB1
  injection e with e1 e2 e3
  subst e1 e2 e3
  have hb64 := bounds_i64 hwf
  have walk := crashes_any _ _ c0 css rs cs.toList r how sha_ W (ac_ctx hL) hr hrs hl hrv hn hb64.1 hb64.2
  rw [Array.toArray_toList] at walk
  refine walk.mono fun e W' ⟨he, hbl⟩ => ?_
  subst he
  have hlt := hW'.lt
  refine ⟨_, rfl, post_of_below (pa := p0 ++ (p1 ++ ([] ++ []))) (pv := []) hW' (fun _ _ _ => trodAll_cons_mk (shut_bool Tryd.underlying4 _) trodAll_mk0) (fun sp hsp => ?_) (fun _ _ => rfl) (by simp) hbl (ok_one (by kernel_rfl) rfl (okWide_bool_mk Tryd.underlying4 _))⟩
  refine trodAll_cons_mk (WideElems.Trod_stays laidOut_ (by kernel_rfl) (of_decide_eq_true (by kernel_rfl)) h0k (fun x hx => hbl.same (hlt x (by simp [hx]))) (fun x hx => hsp x (by simp [hx]))) ?_
  refine trodAll_cons_mk (WideElems.Trod_stays laidOut_ (by kernel_rfl) (of_decide_eq_true (by kernel_rfl)) h1k (fun x hx => hbl.same (hlt x (by simp [hx]))) (fun x hx => hsp x (by simp [hx]))) ?_
  exact trodAll_cons_mk (shut_int Tryd.underlying3 hwf) trodAll_mk0
namespace anchorCrashes
def zrec : List Value := .int .i64 0 :: .slice none 0 0 :: .slice none 0 0 :: .int .i64 0 :: List.replicate 32 (.int .u8 0)
def wargs : Array Value := #[.slice none 0 0, .agg zrec.toArray, .int .i64 0]
noncomputable def wld (os : Os) : World := World.laidAll Tryd.prog os Rows.anchorCrashesUptoRow.laid
theorem laid_met (os : Os) : laidMetH Tryd.prog Rows.anchorCrashesUptoRow.laid ((wld os).forCall (fun _ _ => 0) ⟨#[], wargs, []⟩).memory := by
  rw [MakeChecks.laidMetH_plain _ _ _ (by kernel_rfl)]
  exact laidMet_laidAll _ (by kernel_rfl) (by kernel_rfl)
def rdat {H : Type} : List (DataW H) := [.nil, .agg [.lit (.int .i64 0), .nil, .nil, .agg [.lit (.int .i64 0), .agg (List.replicate 32 (.lit (.int .u8 0)))]], .lit (.int .i64 0)]
theorem reads (os : Os) {H : Type} (enc : TypeId × Value → H) : ∃ places, DataW.whole enc Tryd.prog ((wld os).forCall (fun _ _ => 0) ⟨#[], wargs, []⟩).memory Tryd.f3.params.toList Rows.anchorCrashesSpec.vars false wargs.toList 8 = some (rdat, [], places) :=
  ⟨[], by kernel_rfl⟩
set_option maxRecDepth 100000 in
theorem liftedUpto (os : Os) (started : os.Started) (H : Type) (enc : TypeId × Value → H) (F : Stop.Interp) :
    ReturnsInHanded {} Tryd.checked os 3 .any ((Rows.OpenSpec.upto Rows.anchorCrashesSpec).preRow enc Tryd.prog Tryd.f3 Rows.anchorCrashesUptoRow.domain false Rows.anchorCrashesUptoRow.laid) (((Rows.OpenSpec.upto Rows.anchorCrashesSpec).at F).post enc Tryd.prog Tryd.f3 false true false false) := by
  obtain ⟨places, hx⟩ := reads os enc
  refine returnsInHanded_of_row (C := Tryd.checked) (s := Rows.OpenSpec.upto Rows.anchorCrashesSpec) ownKnob_ started (by kernel_rfl) Tryd.func3
    (witness_row_at (enc := enc) (C := Tryd.checked) false (wld os) wargs (World.laidAll_os _ _ _) (by kernel_rfl) (by kernel_rfl) (by kernel_rfl)
      (OpenSpec.preRow_of_cond 8 hx (by kernel_rfl) (fun k hk => by cases hk; kernel_rfl) (by kernel_rfl) (laid_met os))) ?_
  intro W base args ds gs before hval hW _ hcond _ hL _ _
  exact ac_contract H enc W base args ds gs before hval hW (of_decide_eq_true (hcond _ rfl)) hL
theorem saidUpto : Rows.AnchorCrashesUptoSaid :=
  OpenClaim.holds_of_cond 3 Tryd.f3 rfl rfl rfl rfl rfl rfl rfl ⟨rfl, rfl, rfl, rfl, rfl⟩ rfl rfl rfl rfl rfl (by kernel_rfl) Tryd.func3 (by kernel_rfl)
    (of_decide_eq_true (by kernel_rfl)) (by unfold Func.isWrapper; first | (rw [if_pos (by decide +kernel)]; kernel_rfl) | (rw [if_neg (by decide +kernel)]; exact ⟨rfl, rfl⟩))
    (fun os started H enc _ F => by rw [OpenClaim.pre_eq_preRow]; exact liftedUpto os started H enc F)
theorem plain (f : FuncId) (fn : Func) (hf : Tryd.pinned.checked.prog.funcNamed "syngraph/syngraphlaw23.AnchorCrashes" = some f) (hfn : Tryd.pinned.checked.prog.funcs[f]? = some fn) :
    false = Tryd.pinned.checked.prog.looks [] ∧ ∀ (j : Nat) t, fn.params[j]? = some t → Tryd.pinned.checked.prog.wantsStandIn t = false := by
  obtain rfl : f = 3 := Option.some.inj ((show Tryd.prog.funcNamed "syngraph/syngraphlaw23.AnchorCrashes" = some 3 by kernel_rfl).symm.trans hf) |>.symm
  obtain rfl : fn = Tryd.f3 := (Option.some.inj (Tryd.func3.symm.trans hfn)).symm
  refine ⟨by kernel_rfl, fun j t ht => ?_⟩
  rw [Tryd.params3] at ht
  have ht' := Array.mem_of_getElem? ht
  simp only [List.mem_toArray, List.mem_cons, List.not_mem_nil, or_false] at ht'
  rcases ht' with rfl | rfl | rfl
  · exact (show Tryd.prog.wantsStandIn 22 = false by kernel_rfl)
  · exact (show Tryd.prog.wantsStandIn 29 = false by kernel_rfl)
  · exact (show Tryd.prog.wantsStandIn 3 = false by kernel_rfl)
theorem cardUpto : Rows.AnchorCrashesUptoCardSaid :=
  Claim7.holds_tied_plain_at .later [] _ _ _ _ saidUpto (fun _ h => by cases h) (by kernel_rfl) (fun _ h => by cases h) anchorCrashesUpto_row_tie rfl ⟨rfl, rfl⟩ (by kernel_rfl) rfl plain (by kernel_rfl)
end anchorCrashes
end Go.Proofs.YtmajnoefddbflaaDoor
