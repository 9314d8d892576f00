/- The law of a region that draws its order: what each operation owes, once; and the region's end. -/
import Derived.Test.YtmajnoefddbflaaDoorL2
namespace Go.Proofs.YtmajnoefddbflaaDoor
open Go.RowKit

def NoQ : Exit → Act → World → Prop := fun _ _ _ => False

section
variable {P : Program} {ops : Array Oper}
theorem put_transfer {a a1 : Act} {dst : Option Tmp} {v : Value} {R : Value → World → Prop} {w : World} (hd : ∀ d, dst = some d → d < a1.tmps.size)
    (h : ∃ v', a1.put dst v = a1.put dst v' ∧ R v' w) : ∃ v', a.put dst v = a.put dst v' ∧ R v' w := by
  obtain ⟨v', he, hr⟩ := h
  cases dst with
  | none => exact ⟨v', rfl, hr⟩
  | some d =>
    have hlt := hd d rfl
    have := congrArg (fun x : Act => x.tmps[d]?) he
    simp [Act.put, hlt] at this
    exact ⟨v', by rw [this], hr⟩

theorem wpOp_transfer {i : Nat} {o : Oper} (ho : ops[i]? = some o) {a a1 : Act} (hl : ∀ t ∈ o.looksAt ops, a.tmps[t]? = a1.tmps[t]?) (hsel : ∀ cs b, o.op ≠ .select cs b)
    (hd : ∀ d, o.dst = some d → d < a1.tmps.size) {R : Value → World → Prop} {w : World} {Q : Exit → Act → World → Prop}
    (h : wpOp P ops NoQ i (fun a' w' => ∃ v, a' = a1.put o.dst v ∧ R v w') a1 w) : wpOp P ops Q i (fun a' w' => ∃ v, a' = a.put o.dst v ∧ R v w') a w := by
  have hexec : execOp a.eval o = execOp a1.eval o := execOp_congr o hsel fun x hx => by
    cases x with
    | tmp t => exact act_eval_of_slot (hl t (List.mem_append_left _ (List.mem_filterMap.2 ⟨.tmp t, by simpa using hx, rfl⟩)))
    | _ => rfl
  have hwant : Region.wanted o (yielded ops a.tmps) = Region.wanted o (yielded ops a1.tmps) := by
    unfold Region.wanted
    cases hg : o.guard with
    | none => rfl
    | some gw =>
      obtain ⟨g, want⟩ := gw
      have hy : yielded ops a.tmps g = yielded ops a1.tmps g := by
        unfold yielded
        cases ht : (ops[g]?).bind (·.dst) with
        | none => rfl
        | some t =>
          have := hl t (by simp [Oper.looksAt, hg, ht])
          simp [this]
      simp only [hy]
  unfold wpOp at *
  simp only [ho] at *
  rw [hwant]
  split
  · rename_i hw
    simp only [hw, if_true] at h
    rcases h with h | ⟨_, a0, w0, hf⟩
    · refine .inl ?_
      unfold Oper.wp at *
      rw [hexec]
      generalize (execOp a1.eval o).run P w = r at *
      cases r with
      | ok n w' =>
        cases n <;> simp only [Oper.upon] at h ⊢
        case value v => exact put_transfer hd h
        case skip => exact put_transfer hd h
        case defer d =>
          obtain ⟨v, he, _⟩ := h
          have := congrArg Act.defers he
          simp [put_defers] at this
        case enter f args =>
          refine Calls.mono h fun e w'' he => ?_
          cases e with
          | returned v => exact put_transfer hd he
          | panicked c => exact he.elim
          | outgrown => obtain ⟨_, _, hf⟩ := he; exact hf.elim
        case row row args => exact Rows.mono h fun v w'' he => put_transfer hd he
      | halt x w' =>
        cases x <;> simp only [Oper.upon] at h ⊢
        case panic v => exact h.elim
    · exact hf.elim
  · rename_i hw
    simp only [hw] at h
    exact put_transfer hd h

/-- what number i owes: out of what comes ahead of it, its value; and what it leaves of the world -/
def Owes (P : Program) (ops : Array Oper) (a0 : Act) (w0 : World) (F : Nat → Prop) (free : Nat → Bool) (phs : List Nat) (V : Nat → Value → World → Prop) (W : List Value → World → Prop) (i : Nat) : Prop :=
  ∀ (us : Nat → Value) (w : World), (∀ j, ahead ops i j = true → V j (us j) w) → Frm F w0 w → (free i = false → W ((phs.filter fun p => ahead ops i p).map us) w) →
    ∀ (K : Act → World → Prop), (∀ v w', V i v w' → (if phs.contains i = true then W ((phs.filter fun p => ahead ops i p).map us ++ [v]) w' ∧ Frm F w w' else Frm (fun _ => False) w w') → K ((fill ops (deps ops i) us a0).put ((ops[i]?).bind (·.dst)) v) w') →
      wpOp P ops NoQ i K (fill ops (deps ops i) us a0) w

def edgesOk (ops : Array Oper) : Bool := ops.toList.zipIdx.all fun p => p.1.after.all fun e => !Region.binds .any e || decide (e.on < p.2)
def phasesOk' (ops : Array Oper) (free : Nat → Bool) (phs : List Nat) : Bool :=
  decide (phs.Pairwise fun p q => ahead ops q p = true) && phs.all (fun p => decide (p < ops.size) && !free p) && (List.range ops.size).all fun i => free i || phs.all fun p => p == i || ahead ops i p || ahead ops p i

theorem mem_zipIdx_of {i : Nat} {o : Oper} (ho : ops[i]? = some o) : (o, i) ∈ ops.toList.zipIdx := by
  rw [List.mem_zipIdx_iff_getElem?]; simpa using ho

structure LooksOk (ops : Array Oper) (slots : Nat) : Prop where
  looks : ∀ (i : Nat) (o : Oper), ops[i]? = some o → ∀ t ∈ o.looksAt ops, ∀ (j : Nat) (o' : Oper), ops[j]? = some o' → o'.dst = some t → ahead ops i j = true ∨ i = j
  apart : ∀ (i : Nat) (o : Oper) (j : Nat) (o' : Oper), ops[i]? = some o → ops[j]? = some o' → i ≠ j → ∀ d, o.dst = some d → o'.dst ≠ some d
  there : ∀ (i : Nat) (o : Oper), ops[i]? = some o → ∀ d, o.dst = some d → d < slots
  sel : ∀ (i : Nat) (o : Oper), ops[i]? = some o → ∀ cs b, o.op ≠ .select cs b
theorem looksOk_spec {slots : Nat} (h : looksOk ops slots = true) : LooksOk ops slots := by
  have key := fun i o (ho : ops[i]? = some o) => List.all_eq_true.1 h (o, i) (mem_zipIdx_of ho)
  refine ⟨fun i o ho t ht j o' ho' hd => ?_, fun i o j o' ho ho' hne d hd => ?_, fun i o ho d hd => ?_, fun i o ho cs b he => ?_⟩
  · have := key i o ho
    simp only [Bool.and_eq_true] at this
    have h1 := List.all_eq_true.1 (List.all_eq_true.1 this.1.1.1 t ht) (o', j) (mem_zipIdx_of ho')
    simp only [hd, bne_self_eq_false, Bool.false_or, Bool.or_eq_true, beq_iff_eq] at h1
    exact h1
  · have := key i o ho
    simp only [Bool.and_eq_true] at this
    have h1 := List.all_eq_true.1 this.1.1.2 (o', j) (mem_zipIdx_of ho')
    simp only [hd, Bool.or_eq_true, beq_iff_eq, bne_iff_ne] at h1
    exact h1.resolve_left hne
  · have := key i o ho
    simp only [Bool.and_eq_true] at this
    have h1 := this.1.2
    simp only [hd] at h1
    exact of_decide_eq_true h1
  · have := key i o ho
    simp only [Bool.and_eq_true, he] at this
    exact absurd this.2 (by simp)

theorem count_listed {L : Array Bool} {i : Nat} (hi : i < L.size) (h : L.getD i true = false) : (L.setIfInBounds i true).toList.count false + 1 = L.toList.count false := by
  have hl : L.toList[i]'(by simpa using hi) = false := by simpa [Array.getD_eq_getD_getElem?, hi] using h
  have hpos : 0 < L.toList.count false := List.count_pos_iff.2 (by rw [← hl]; exact List.getElem_mem _)
  have hc : (L.toList.set i true).count false = (L.toList.count false - if (L.toList[i]'(by simpa using hi) == false) = true then 1 else 0) + if (true == false) = true then 1 else 0 := List.count_set (by simpa using hi)
  rw [hl] at hc
  have e1 : ((false == false) = true) = True := by decide
  have e2 : ((true == false) = true) = False := by decide
  simp only [e1, e2, if_true, if_false] at hc
  rw [Array.toList_setIfInBounds, hc]
  omega

theorem wp_region_typed {id : Nat} {a0 : Act} {w0 : World} {Q : Exit → Act → World → Prop} (F : Nat → Prop) (free : Nat → Bool) (phs : List Nat) (V : Nat → Value → World → Prop) (W : List Value → World → Prop)
    (hm : P.follows .mixedOrders = true) (hl : looksOk ops a0.tmps.size = true) (hp : phasesOk' ops free phs = true) (he : edgesOk ops = true)
    (hV : ∀ i u w w', V i u w → Frm F w w' → V i u w') (hW : ∀ vs w w', W vs w → Frm (fun _ => False) w w' → W vs w') (h0 : W [] w0.drew)
    (hop : ∀ i, i < ops.size → Owes P ops a0 w0.drew F free phs V W i)
    (hfin : ∀ us w, (∀ i, i < ops.size → V i (us i) w) → W (phs.map us) w → Frm F w0.drew w → Q .normal (fill ops (fun _ => true) us a0) w) :
    (Code.region id ops true).wp P Q a0 w0 := by
  have LO := looksOk_spec hl
  simp only [phasesOk', Bool.and_eq_true, decide_eq_true_eq] at hp
  obtain ⟨⟨hnd, hps⟩, hpa⟩ := hp
  refine wp_region_any hm ?_
  -- the invariant
  have main : ∀ (fuel : Nat) (L : Array Bool) (us : Nat → Value) (a : Act) (w : World), L.size = ops.size → L.toList.count false = fuel → Closed ops L → a = fill ops (fun i => L.getD i false) us a0 →
      (∀ i, L.getD i false = true → V i (us i) w) → W ((phs.filter fun p => L.getD p false).map us) w → Frm F w0.drew w → wpAny P .any ops Q fuel L a w := by
    intro fuel
    induction fuel with
    | zero =>
      intro L us a w hs hc hcl ha hv hw hf
      have hall : ∀ i, i < ops.size → L.getD i false = true := by
        intro i hi
        have hn := List.count_eq_zero.1 hc
        have hi' : i < L.size := by omega
        rcases hb : L[i] with _ | _
        · exact absurd (by rw [← hb]; exact Array.mem_toList_iff.2 (Array.getElem_mem hi')) hn
        · simp [Array.getD_eq_getD_getElem?, hi', hb]
      refine ⟨?_, ?_⟩
      · apply List.eq_nil_iff_forall_not_mem.2
        intro i hi
        obtain ⟨h1, o, ho, _⟩ := mem_ready.1 hi
        have hlt : i < ops.size := (Array.getElem?_eq_some_iff.1 ho).1
        have h2 := hall i hlt
        have hlt' : i < L.size := by omega
        simp [Array.getD_eq_getD_getElem?, hlt'] at h1 h2
        rw [h1] at h2; cases h2
      · have hfill : ∀ (l : List (Oper × Nat)) (x : Act), (∀ p ∈ l, p.2 < ops.size) → fillL (fun i => L.getD i false) us l x = fillL (fun _ => true) us l x := by
          intro l
          induction l with
          | nil => intro x _; rfl
          | cons p l ih =>
            obtain ⟨o, i⟩ := p
            intro x hx
            rw [fillL, fillL, hall i (hx (o, i) List.mem_cons_self)]
            exact ih _ (fun p hm => hx p (List.mem_cons_of_mem _ hm))
        have hlen : (phs.filter fun p => L.getD p false) = phs := by
          apply List.filter_eq_self.2
          intro p hp'
          have := List.all_eq_true.1 hps p hp'
          simp only [Bool.and_eq_true, decide_eq_true_eq] at this
          exact hall p this.1
        have hz : ∀ p ∈ ops.toList.zipIdx, p.2 < ops.size := fun p hp' => by
          have := List.mem_zipIdx_iff_getElem?.1 hp'
          have := (List.getElem?_eq_some_iff.1 this).1
          simpa using this
        rw [ha, fill, hfill _ _ hz]
        rw [hlen] at hw
        exact hfin us w (fun i hi => hv i (hall i hi)) hw hf
    | succ fuel ih =>
      intro L us a w hs hc hcl ha hv hw hf
      refine ⟨fun hr => ?_, fun i hi => ?_⟩
      · -- something may always come up: the least that has not
        exfalso
        have hex : ∃ i, i < ops.size ∧ L.getD i true = false := by
          have hmem : false ∈ L.toList := List.count_pos_iff.1 (by omega)
          obtain ⟨i, hi, he'⟩ := List.mem_iff_getElem.1 hmem
          have hi' : i < L.size := by simpa using hi
          exact ⟨i, by omega, by simpa [Array.getD_eq_getD_getElem?, hi'] using he'⟩
        have least : ∀ n, n < ops.size → L.getD n true = false → False := by
          intro n
          induction n using Nat.strongRecOn with
          | ind n ih2 =>
            intro hn hln
            have hni : n ∉ Region.ready .any ops L := by rw [hr]; simp
            rw [mem_ready] at hni
            have ho : ops[n]? = some ops[n] := Array.getElem?_eq_getElem hn
            have hedges := List.all_eq_true.1 he (ops[n], n) (mem_zipIdx_of ho)
            simp only [Array.all_eq_true_iff_forall_mem] at hedges
            refine hni ⟨hln, ops[n], ho, fun e hee hb => ?_⟩
            have h1 := hedges e hee
            simp only [hb, Bool.not_true, Bool.false_or, decide_eq_true_eq] at h1
            rcases hle : L.getD e.on true with _ | _
            · exact (ih2 e.on h1 (by omega) hle).elim
            · have : e.on < L.size := by omega
              simpa [Array.getD_eq_getD_getElem?, this] using hle
        obtain ⟨i, hi, hli⟩ := hex
        exact least i hi hli
      · obtain ⟨hun, o, ho, hall⟩ := mem_ready.1 hi
        have hlt : i < ops.size := (Array.getElem?_eq_some_iff.1 ho).1
        have hltL : i < L.size := by omega
        have hunf : L.getD i false = false := by simpa [Array.getD_eq_getD_getElem?, hltL] using hun
        have hah : ∀ j, ahead ops i j = true → L.getD j false = true := fun j hj => closed_ahead hcl i j o ho hall hj
        have hnot : ahead ops i i = false := by
          rcases h : ahead ops i i with _ | _
          · rfl
          · have := hah i h; rw [hunf] at this; cases this
        -- the phase
        have hphase : free i = false → phs.filter (fun p => ahead ops i p) = phs.filter fun p => L.getD p false := by
          intro hfr
          apply List.filter_congr
          intro p hpm
          have h1 := List.all_eq_true.1 hpa i (List.mem_range.2 hlt)
          rw [hfr, Bool.false_or] at h1
          have h2 := List.all_eq_true.1 h1 p hpm
          simp only [Bool.or_eq_true, beq_iff_eq] at h2
          rcases h2 with (h2 | h2) | h2
          · rw [h2, hnot, hunf]
          · rw [h2, hah p h2]
          · have hpl : L.getD p false = false := by
              rcases h : L.getD p false with _ | _
              · rfl
              · obtain ⟨op, hop', hallp⟩ := hcl p h
                have := closed_ahead hcl p i op hop' hallp h2
                rw [hunf] at this; cases this
            have hap : ahead ops i p = false := by
              rcases h : ahead ops i p with _ | _
              · rfl
              · have := hah p h; rw [hpl] at this; cases this
            rw [hpl, hap]
        have hown := hop i hlt us w (fun j hj => hv j (hah j hj)) hf (fun hfr => by rw [hphase hfr]; exact hw)
          (fun a' w' => ∃ v, a' = (fill ops (deps ops i) us a0).put o.dst v ∧ (V i v w' ∧ (if phs.contains i = true then W ((phs.filter fun p => ahead ops i p).map us ++ [v]) w' ∧ Frm F w w' else Frm (fun _ => False) w w')))
          (fun v w' hvv hpp => ⟨v, by simp [ho], hvv, hpp⟩)
        have hslots : ∀ t ∈ o.looksAt ops, a.tmps[t]? = (fill ops (deps ops i) us a0).tmps[t]? := by
          intro t ht
          rw [ha]
          refine fillL_slot t us _ _ _ (fun p hpm hpd => ?_) rfl rfl
          obtain ⟨o', j⟩ := p
          have ho' : ops[j]? = some o' := by simpa using List.mem_zipIdx_iff_getElem?.1 hpm
          simp only at hpd ⊢
          rcases LO.looks i o ho t ht j o' ho' hpd with h | rfl
          · rw [hah j h]
            have hc' : (o.looksAt ops).contains t = true := List.contains_iff_mem.2 ht
            simp only [deps, h, ho, ho', hpd, Option.bind_some, hc', Bool.and_self]
          · rw [hunf]
            simp [deps, hnot]
        have ht := wpOp_transfer (Q := Q) ho hslots (LO.sel i o ho) (fun d hd => by rw [fill, fillL_size]; exact LO.there i o ho d hd) hown
        refine wpOp_mono (fun a' w' h => ?_) ht
        obtain ⟨v, rfl, hvv, hpp⟩ := h
        have hfw : Frm F w w' := by
          split at hpp
          · exact hpp.2
          · exact hpp.mono (fun _ _ h => h.elim)
        have hget : ∀ j, (L.setIfInBounds i true).getD j false = (L.getD j false || j == i) := by
          intro j
          by_cases hji : j = i
          · subst hji; simp [Array.getD_eq_getD_getElem?, hltL]
          · rw [getD_set_ne false (Ne.symm hji)]; simp [hji]
        refine ih (L.setIfInBounds i true) (fun j => if j = i then v else us j) _ w' (by simp [hs]) ?_ ?_ ?_ ?_ ?_ (hf.trans hfw (fun _ _ h => h))
        · have := count_listed hltL hun; omega
        · intro j hj
          rw [hget] at hj
          by_cases hji : j = i
          · subst hji
            exact ⟨o, ho, fun e hee hb => by rw [hget, hall e hee hb]; rfl⟩
          · have hj' : L.getD j false = true := by simpa [hji] using hj
            obtain ⟨o', ho', hall'⟩ := hcl j hj'
            exact ⟨o', ho', fun e hee hb => by rw [hget, hall' e hee hb]; rfl⟩
        · rw [ha]
          unfold fill
          rw [fillL_put (n := i) (d := o.dst) (v := v) _ _ ?_ ?_ hunf ?_ ⟨(o, i), mem_zipIdx_of ho, rfl⟩]
          · congr 1
            funext j
            rw [hget]
          · intro p hpm hpi
            obtain ⟨o', j⟩ := p
            simp only at hpi; subst hpi
            have ho' : ops[j]? = some o' := by simpa using List.mem_zipIdx_iff_getElem?.1 hpm
            rw [ho] at ho'; injection ho' with ho'; rw [ho']
          · intro p hpm hpi t htd
            obtain ⟨o', j⟩ := p
            have ho' : ops[j]? = some o' := by simpa using List.mem_zipIdx_iff_getElem?.1 hpm
            exact LO.apart i o j o' ho ho' (Ne.symm hpi) t htd
          · rw [List.pairwise_iff_getElem]
            intro x y hx hy hxy
            simp
            omega
        · intro j hj
          rw [hget] at hj
          by_cases hji : j = i
          · subst hji; simpa using hvv
          · have hj' : L.getD j false = true := by simpa [hji] using hj
            simp only [hji, if_false]
            exact hV j _ _ _ (hv j hj') hfw
        · have hcong : (phs.filter fun p => (L.setIfInBounds i true).getD p false) = phs.filter fun p => L.getD p false || p == i := List.filter_congr (fun p _ => hget p)
          rw [hcong]
          by_cases hpi : phs.contains i = true
          · rw [if_pos hpi] at hpp
            have hmem : i ∈ phs := List.contains_iff_mem.1 hpi
            have hfr : free i = false := by
              have := List.all_eq_true.1 hps i hmem
              simp only [Bool.and_eq_true, Bool.not_eq_true'] at this
              exact this.2
            rw [hphase hfr] at hpp
            have hsplit : ∀ (l : List Nat), (l.Pairwise fun p q => ahead ops q p = true) → i ∈ l → (l.filter fun p => L.getD p false || p == i) = (l.filter fun p => L.getD p false) ++ [i] ∧ i ∉ l.filter fun p => L.getD p false := by
              intro l
              induction l with
              | nil => intro _ h; cases h
              | cons q l ihl =>
                intro hn hm'
                rw [List.pairwise_cons] at hn
                by_cases hq : q = i
                · subst hq
                  have hrest : ∀ p ∈ l, L.getD p false = false ∧ p ≠ q := fun p hpm => by
                    have h2 := hn.1 p hpm
                    constructor
                    · rcases h : L.getD p false with _ | _
                      · rfl
                      · obtain ⟨op, hop', hallp⟩ := hcl p h
                        have := closed_ahead hcl p q op hop' hallp h2
                        rw [hunf] at this; cases this
                    · rintro rfl
                      rw [hnot] at h2; cases h2
                  rw [List.filter_cons_of_pos (by simp), List.filter_cons_of_neg (by simp [hunf]), List.filter_eq_nil_iff.2 (fun p hpm => by simp [(hrest p hpm).1, (hrest p hpm).2]), List.filter_eq_nil_iff.2 (fun p hpm => by simp [(hrest p hpm).1])]
                  exact ⟨rfl, by simp⟩
                · have hm2 : i ∈ l := by
                    rcases List.mem_cons.1 hm' with h | h
                    · exact absurd h.symm hq
                    · exact h
                  have hql : L.getD q false = true := hah q (hn.1 i hm2)
                  obtain ⟨h1, h2⟩ := ihl hn.2 hm2
                  rw [List.filter_cons_of_pos (by simp [hql]), List.filter_cons_of_pos (by simp [hql]), h1]
                  exact ⟨rfl, by simp only [List.mem_cons, not_or]; exact ⟨Ne.symm hq, h2⟩⟩
            obtain ⟨h1, h2⟩ := hsplit phs hnd hmem
            rw [h1, List.map_append]
            have hm1 : ((phs.filter fun p => L.getD p false).map fun j => if j = i then v else us j) = (phs.filter fun p => L.getD p false).map us := by
              apply List.map_congr_left
              intro p hpm
              exact if_neg (fun (e : p = i) => h2 (e ▸ hpm))
            rw [hm1]
            simpa using hpp.1
          · rw [if_neg hpi] at hpp
            have hni : i ∉ phs := fun h => hpi (List.contains_iff_mem.2 h)
            have hfl : (phs.filter fun p => L.getD p false || p == i) = phs.filter fun p => L.getD p false := by
              apply List.filter_congr
              intro p hpm
              have : p ≠ i := fun e => hni (e ▸ hpm)
              simp [this]
            have hm1 : ((phs.filter fun p => L.getD p false).map fun j => if j = i then v else us j) = (phs.filter fun p => L.getD p false).map us := by
              apply List.map_congr_left
              intro p hpm
              exact if_neg (fun (e : p = i) => hni (e ▸ (List.mem_filter.1 hpm).1))
            rw [hfl, hm1]
            exact hW _ _ _ hw hpp
  refine main ops.size (Array.replicate ops.size false) (fun _ => undef) a0 w0.drew (by simp) (by simp) ?_ ?_ ?_ ?_ (Frm.refl _ _)
  · intro i hi; simp [Array.getD_eq_getD_getElem?, Array.getElem?_replicate] at hi; split at hi <;> simp at hi
  · have : ∀ (l : List (Oper × Nat)) (x : Act), fillL (fun i => (Array.replicate ops.size false).getD i false) (fun _ => undef) l x = x := by
      intro l
      induction l with
      | nil => intro x; rfl
      | cons p l ih =>
        obtain ⟨o, i⟩ := p
        intro x
        have hb : (Array.replicate ops.size false).getD i false = false := by simp [Array.getD_eq_getD_getElem?, Array.getElem?_replicate]; split <;> rfl
        rw [fillL, hb]; exact ih x
    exact (this _ _).symm
  · intro i hi; simp [Array.getD_eq_getD_getElem?, Array.getElem?_replicate] at hi; split at hi <;> simp at hi
  · have : (phs.filter fun p => (Array.replicate ops.size false).getD p false) = [] := by
      apply List.filter_eq_nil_iff.2
      intro p _
      simp [Array.getD_eq_getD_getElem?, Array.getElem?_replicate]
      split <;> simp
    rw [this]; exact h0
end
end Go.Proofs.YtmajnoefddbflaaDoor
