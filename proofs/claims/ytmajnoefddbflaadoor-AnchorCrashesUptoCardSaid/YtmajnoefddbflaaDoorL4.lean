/- The law of a drawn region, made ready for use: tables of values and of phases, one operation at a time. -/
import Derived.Test.YtmajnoefddbflaaDoorL3
namespace Go.Proofs.YtmajnoefddbflaaDoor
open Go.RowKit

/-- tables -/
def vt (l : List (Value → World → Prop)) (i : Nat) : Value → World → Prop := l.getD i (fun _ _ => True)
def wt (l : List (List Value → World → Prop)) (vs : List Value) : World → Prop := l.getD vs.length (fun _ _ => True) vs
def nf (l : List Nat) (i : Nat) : Bool := !l.contains i

def Stab (F : Nat → Prop) (T : Value → World → Prop) : Prop := ∀ u w w', T u w → Frm F w w' → T u w'
theorem stab_is (F : Nat → Prop) (v : Value) : Stab F (Is v) := fun _ _ _ h _ => h
theorem stab_true (F : Nat → Prop) : Stab F (fun _ _ => True) := fun _ _ _ h _ => h
theorem stab_pure (F : Nat → Prop) (T : Value → Prop) : Stab F (fun u _ => T u) := fun _ _ _ h _ => h
inductive Stabs (F : Nat → Prop) : List (Value → World → Prop) → Prop where
  | nil : Stabs F []
  | cons {T : Value → World → Prop} {l : List (Value → World → Prop)} : Stab F T → Stabs F l → Stabs F (T :: l)
theorem Stabs.vt {F : Nat → Prop} {l : List (Value → World → Prop)} (h : Stabs F l) : ∀ i u w w', vt l i u w → Frm F w w' → vt l i u w' := by
  induction h with
  | nil => intro i u w w' _ _; simp [Go.Proofs.YtmajnoefddbflaaDoor.vt]
  | cons ht _ ih =>
    intro i u w w' h hf
    cases i with
    | zero => exact ht u w w' h hf
    | succ i => exact ih i u w w' (by simpa [Go.Proofs.YtmajnoefddbflaaDoor.vt] using h) hf
def StabW (T : List Value → World → Prop) : Prop := ∀ vs w w', T vs w → Frm (fun _ => False) w w' → T vs w'
inductive StabWs : List (List Value → World → Prop) → Prop where
  | nil : StabWs []
  | cons {T : List Value → World → Prop} {l : List (List Value → World → Prop)} : StabW T → StabWs l → StabWs (T :: l)
theorem StabWs.get {l : List (List Value → World → Prop)} (h : StabWs l) : ∀ k, StabW (l.getD k (fun _ _ => True)) := by
  induction h with
  | nil => intro i vs w w' _ _; simp
  | cons ht _ ih =>
    intro i
    cases i with
    | zero => exact ht
    | succ i => exact ih i
theorem StabWs.wt {l : List (List Value → World → Prop)} (h : StabWs l) : ∀ vs w w', wt l vs w → Frm (fun _ => False) w w' → wt l vs w' := fun vs w w' h' hf => h.get vs.length vs w w' h' hf

def From (Ow : Nat → Prop) (k n : Nat) : Prop := ∀ i, k ≤ i → i < n → Ow i
theorem from_step {Ow : Nat → Prop} {k n : Nat} (k' : Nat) (h : k' = k + 1) (h0 : Ow k) (h1 : From Ow k' n) : From Ow k n := fun i hi hn => by
  rcases Nat.eq_or_lt_of_le hi with e | e
  · subst e; exact h0
  · exact h1 i (by omega) hn
theorem from_end {Ow : Nat → Prop} {k n : Nat} (h : n ≤ k) : From Ow k n := fun i hi hn => by omega
theorem from_all {Ow : Nat → Prop} {n : Nat} (h : From Ow 0 n) : ∀ i, i < n → Ow i := fun i hi => h i (Nat.zero_le _) hi

section
variable {P : Program} {ops : Array Oper} {a0 : Act} {w0 : World} {F : Nat → Prop} {free : Nat → Bool} {phs : List Nat} {V : Nat → Value → World → Prop} {W : List Value → World → Prop}
/-- an operation that only reckons -/
theorem owes_pure {i : Nat} {o : Oper} (ho : ops[i]? = some o) (hg : o.guard = none) (hc : phs.contains i = false)
    (h : ∀ (us : Nat → Value) (a : Act) (w : World), a = fill ops (deps ops i) us a0 → (∀ j, ahead ops i j = true → V j (us j) w) → ∀ (K : Act → World → Prop), (∀ v, V i v w → K (a.put o.dst v) w) → o.wp P a w K NoQ) :
    Owes P ops a0 w0 F free phs V W i := by
  intro us w hv _ _ K hK
  unfold wpOp
  simp only [ho, Region.wanted, hg, if_true]
  refine .inl (h us _ w rfl hv K fun v hV => ?_)
  have := hK v w hV (by rw [hc]; exact Frm.refl _ _)
  simpa [ho] using this
theorem owes_pureg {i : Nat} {o : Oper} (ho : ops[i]? = some o) (hc : phs.contains i = false)
    (h : ∀ (us : Nat → Value) (a : Act) (w : World), a = fill ops (deps ops i) us a0 → (∀ j, ahead ops i j = true → V j (us j) w) → ∀ (K : Act → World → Prop), (∀ v, V i v w → K (a.put o.dst v) w) →
      if Region.wanted o (yielded ops a.tmps) then o.wp P a w K NoQ else K (a.put o.dst undef) w) :
    Owes P ops a0 w0 F free phs V W i := by
  intro us w hv _ _ K hK
  have h' := h us _ w rfl hv K fun v hV => by
    have := hK v w hV (by rw [hc]; exact Frm.refl _ _)
    simpa [ho] using this
  unfold wpOp
  simp only [ho]
  split
  · rename_i hwt; rw [if_pos hwt] at h'; exact .inl h'
  · rename_i hwt; rw [if_neg hwt] at h'; exact h'
/-- an operation that reads, calls, or makes memory -/
theorem owes_q {i : Nat} {o : Oper} {pl : List Nat} (ho : ops[i]? = some o) (hg : o.guard = none) (hc : phs.contains i = false) (hfr : free i = false) (hpl : (phs.filter fun p => ahead ops i p) = pl)
    (h : ∀ (us : Nat → Value) (a : Act) (w : World), a = fill ops (deps ops i) us a0 → (∀ j, ahead ops i j = true → V j (us j) w) → Frm F w0 w → W (pl.map us) w →
      ∀ (K : Act → World → Prop), (∀ v w', V i v w' → Frm (fun _ => False) w w' → K (a.put o.dst v) w') → o.wp P a w K NoQ) : Owes P ops a0 w0 F free phs V W i := by
  intro us w hv hf hw K hK
  unfold wpOp
  simp only [ho, Region.wanted, hg, if_true]
  rw [hpl] at hw
  refine .inl (h us _ w rfl hv hf (hw hfr) K fun v w' h1 h2 => ?_)
  have := hK v w' h1 (by rw [hc]; exact h2)
  simpa [ho] using this
theorem owes_qg {i : Nat} {o : Oper} {pl : List Nat} (ho : ops[i]? = some o) (hc : phs.contains i = false) (hfr : free i = false) (hpl : (phs.filter fun p => ahead ops i p) = pl)
    (h : ∀ (us : Nat → Value) (a : Act) (w : World), a = fill ops (deps ops i) us a0 → (∀ j, ahead ops i j = true → V j (us j) w) → Frm F w0 w → W (pl.map us) w →
      ∀ (K : Act → World → Prop), (∀ v w', V i v w' → Frm (fun _ => False) w w' → K (a.put o.dst v) w') → if Region.wanted o (yielded ops a.tmps) then o.wp P a w K NoQ else K (a.put o.dst undef) w) : Owes P ops a0 w0 F free phs V W i := by
  intro us w hv hf hw K hK
  rw [hpl] at hw
  have h' := h us _ w rfl hv hf (hw hfr) K fun v w' h1 h2 => by
    have := hK v w' h1 (by rw [hc]; exact h2)
    simpa [ho] using this
  unfold wpOp
  simp only [ho]
  split
  · rename_i hwt; rw [if_pos hwt] at h'; exact .inl h'
  · rename_i hwt; rw [if_neg hwt] at h'; exact h'
/-- an effect -/
theorem owes_p {i : Nat} {o : Oper} {pl : List Nat} (ho : ops[i]? = some o) (hg : o.guard = none) (hc : phs.contains i = true) (hfr : free i = false) (hpl : (phs.filter fun p => ahead ops i p) = pl)
    (h : ∀ (us : Nat → Value) (a : Act) (w : World), a = fill ops (deps ops i) us a0 → (∀ j, ahead ops i j = true → V j (us j) w) → Frm F w0 w → W (pl.map us) w →
      ∀ (K : Act → World → Prop), (∀ v w', V i v w' → W (pl.map us ++ [v]) w' → Frm F w w' → K (a.put o.dst v) w') → o.wp P a w K NoQ) : Owes P ops a0 w0 F free phs V W i := by
  intro us w hv hf hw K hK
  unfold wpOp
  simp only [ho, Region.wanted, hg, if_true]
  rw [hpl] at hw hK
  refine .inl (h us _ w rfl hv hf (hw hfr) K fun v w' h1 h2 h3 => ?_)
  have := hK v w' h1 (by rw [hc]; exact ⟨h2, h3⟩)
  simpa [ho] using this
end

/-- who among the chosen writes slot t -/
def writerIn (ops : Array Oper) (i : Nat) (t : Tmp) : Option Nat := (List.range ops.size).find? fun j => deps ops i j && (((ops[j]?).bind (·.dst)) == some t)
theorem fillL_last {sel : Nat → Bool} {us : Nat → Value} {t j : Nat} : ∀ (l : List (Oper × Nat)) (a : Act), (∀ p ∈ l, p.1.dst = some t → sel p.2 = true → p.2 = j) → t < a.tmps.size →
    (fillL sel us l a).tmps[t]? = if (∃ p ∈ l, p.1.dst = some t ∧ sel p.2 = true) then some (us j) else a.tmps[t]?
  | [], a, _, _ => by simp [fillL]
  | (o, i) :: l, a, h, ht => by
    rw [fillL, fillL_last l _ (fun p hm => h p (List.mem_cons_of_mem _ hm)) (by split <;> simpa [put_size] using ht)]
    by_cases hd : o.dst = some t ∧ sel i = true
    · have hi : i = j := h (o, i) List.mem_cons_self hd.1 hd.2
      have hex : ∃ p ∈ (o, i) :: l, p.1.dst = some t ∧ sel p.2 = true := ⟨(o, i), List.mem_cons_self, hd⟩
      rw [if_pos hex]
      split
      · rfl
      · rw [if_pos hd.2, hd.1, hi]; simp [Act.put, ht]
    · have hsame : (if sel i = true then a.put o.dst (us i) else a).tmps[t]? = a.tmps[t]? := by
        split
        · rename_i hs
          cases hdst : o.dst with
          | none => rfl
          | some d =>
            have hne : d ≠ t := fun e => hd ⟨by rw [hdst, e], hs⟩
            simp [Act.put, Array.getElem?_setIfInBounds_ne hne]
        · rfl
      rw [hsame]
      by_cases hex : ∃ p ∈ l, p.1.dst = some t ∧ sel p.2 = true
      · obtain ⟨p, hp, hpp⟩ := hex
        rw [if_pos ⟨p, hp, hpp⟩, if_pos ⟨p, List.mem_cons_of_mem _ hp, hpp⟩]
      · rw [if_neg hex, if_neg]
        rintro ⟨p, hp, hpp⟩
        rcases List.mem_cons.1 hp with rfl | hp
        · exact hd hpp
        · exact hex ⟨p, hp, hpp⟩

def onlyWriter (ops : Array Oper) (i t j : Nat) : Bool := (deps ops i j && (((ops[j]?).bind (·.dst)) == some t)) && (List.range ops.size).all fun k => k == j || !(deps ops i k && (((ops[k]?).bind (·.dst)) == some t))
def noWriter (ops : Array Oper) (i t : Nat) : Bool := (List.range ops.size).all fun k => !(deps ops i k && (((ops[k]?).bind (·.dst)) == some t))
theorem slot_in {ops : Array Oper} {i t j : Nat} {us : Nat → Value} {a a0 : Act} (ha : a = fill ops (deps ops i) us a0) (ht : t < a0.tmps.size) (h : onlyWriter ops i t j = true) : a.tmps[t]?.getD undef = us j := by
  simp only [onlyWriter, Bool.and_eq_true, beq_iff_eq] at h
  obtain ⟨⟨hd, hb⟩, hall⟩ := h
  obtain ⟨o, ho, hdst⟩ := Option.bind_eq_some_iff.1 hb
  subst ha
  unfold fill
  rw [fillL_last (t := t) (j := j) _ _ (fun p hp hpd hps => ?_) ht, if_pos ⟨(o, j), mem_zipIdx_of ho, hdst, hd⟩]
  · rfl
  · obtain ⟨o', k⟩ := p
    have ho' : ops[k]? = some o' := by simpa using List.mem_zipIdx_iff_getElem?.1 hp
    have hk : k < ops.size := (Array.getElem?_eq_some_iff.1 ho').1
    have := List.all_eq_true.1 hall k (List.mem_range.2 hk)
    simp only at hpd hps
    simp only [ho', Option.bind_some, hpd, hps, beq_self_eq_true, Bool.and_self, Bool.not_true, Bool.or_false, beq_iff_eq] at this
    exact this
theorem slot_out {ops : Array Oper} {i t : Nat} {us : Nat → Value} {a a0 : Act} (ha : a = fill ops (deps ops i) us a0) (h : noWriter ops i t = true) : a.tmps[t]?.getD undef = a0.tmps[t]?.getD undef := by
  subst ha
  unfold fill
  have key : ∀ (l : List (Oper × Nat)) (x : Act), (∀ p ∈ l, ¬ (p.1.dst = some t ∧ deps ops i p.2 = true)) → (fillL (deps ops i) us l x).tmps[t]? = x.tmps[t]? := by
    intro l
    induction l with
    | nil => intro x _; rfl
    | cons p l ih =>
      obtain ⟨o, k⟩ := p
      intro x hx
      rw [fillL, ih _ (fun p hm => hx p (List.mem_cons_of_mem _ hm))]
      have hn := hx (o, k) List.mem_cons_self
      split
      · rename_i hs
        cases hdst : o.dst with
        | none => rfl
        | some d =>
          have hne : d ≠ t := fun e => hn ⟨by rw [hdst, e], hs⟩
          simp [Act.put, Array.getElem?_setIfInBounds_ne hne]
      · rfl
  rw [key]
  intro p hp ⟨hpd, hps⟩
  obtain ⟨o', k⟩ := p
  have ho' : ops[k]? = some o' := by simpa using List.mem_zipIdx_iff_getElem?.1 hp
  have hk : k < ops.size := (Array.getElem?_eq_some_iff.1 ho').1
  have := List.all_eq_true.1 h k (List.mem_range.2 hk)
  simp only at hpd hps
  simp [ho', hpd, hps] at this

theorem ev {a : Act} {t : Tmp} {v : Value} (h : a.tmps[t]?.getD undef = v) : a.eval (.tmp t) = v := by
  rw [← h]; simp [Act.eval, Array.getD_eq_getD_getElem?]
/-- the region's end: every slot that it writes -/
def putAll : List (Option Tmp) → (Nat → Value) → Nat → Act → Act
  | [], _, _, a => a
  | d :: l, us, k, a => putAll l us (k + 1) (a.put d (us k))
theorem fill_all {ops : Array Oper} {ds : List (Option Tmp)} {us : Nat → Value} {a : Act} (h : ops.toList.map (·.dst) = ds) : fill ops (fun _ => true) us a = putAll ds us 0 a := by
  subst h
  unfold fill
  have key : ∀ (l : List Oper) (k : Nat) (x : Act), fillL (fun _ => true) us (l.zipIdx k) x = putAll (l.map (·.dst)) us k x := by
    intro l
    induction l with
    | nil => intro k x; rfl
    | cons o l ih => intro k x; rw [List.zipIdx_cons, fillL, if_pos rfl, List.map_cons, putAll]; exact ih _ _
  exact key _ 0 a
end Go.Proofs.YtmajnoefddbflaaDoor
