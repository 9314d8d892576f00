/- A region that draws its order, walked operation by operation: each operation is shown once, out of what must come ahead of it; no order is gone through. -/
import Derived.Test.YtmajnoefddbflaaDoorL1
import Derived.Deep.RegionHeld3
namespace Go.Proofs.YtmajnoefddbflaaDoor
open Go.RowKit

/-- must number j come ahead of number i? -/
def ahead (ops : Array Oper) (i j : Nat) : Bool := ((Region.before ops).getD i 0).testBit j

theorem foldl_or_bit (acc : Array Nat) (j : Nat) : ∀ (l : List Edge) (s : Nat), (l.foldl (fun s e => if Region.binds .any e then s ||| 2 ^ e.on ||| acc.getD e.on 0 else s) s).testBit j = true →
    s.testBit j = true ∨ ∃ e ∈ l, Region.binds .any e = true ∧ (j = e.on ∨ (acc.getD e.on 0).testBit j = true)
  | [], s, h => .inl h
  | e :: l, s, h => by
    rw [List.foldl_cons] at h
    rcases foldl_or_bit acc j l _ h with h1 | ⟨e', he', hb, hj⟩
    · by_cases hb : Region.binds .any e = true
      · rw [if_pos hb, Nat.testBit_or, Nat.testBit_or, Nat.testBit_two_pow, Bool.or_eq_true, Bool.or_eq_true] at h1
        rcases h1 with (h1 | h1) | h1
        · exact .inl h1
        · exact .inr ⟨e, List.mem_cons_self, hb, .inl (of_decide_eq_true h1).symm⟩
        · exact .inr ⟨e, List.mem_cons_self, hb, .inr h1⟩
      · rw [if_neg hb] at h1
        exact .inl h1
    · exact .inr ⟨e', List.mem_cons_of_mem _ he', hb, hj⟩

def beforeStep (acc : Array Nat) (o : Oper) : Array Nat := acc.push (o.after.foldl (fun s e => if Region.binds .any e then s ||| 2 ^ e.on ||| acc.getD e.on 0 else s) 0)
theorem foldl_before (l : List Oper) : ∀ (acc : Array Nat), (∀ i, i < acc.size → (l.foldl beforeStep acc).getD i 0 = acc.getD i 0) ∧
    ∀ k o, l[k]? = some o → ∃ acc' : Array Nat, acc'.size = acc.size + k ∧ (∀ i, i < acc'.size → (l.foldl beforeStep acc).getD i 0 = acc'.getD i 0) ∧
      (l.foldl beforeStep acc).getD (acc.size + k) 0 = o.after.foldl (fun s e => if Region.binds .any e then s ||| 2 ^ e.on ||| acc'.getD e.on 0 else s) 0 := by
  induction l with
  | nil => intro acc; exact ⟨fun _ _ => rfl, fun k o h => by simp at h⟩
  | cons o l ih =>
    intro acc
    obtain ⟨h1, h2⟩ := ih (beforeStep acc o)
    have hs : (beforeStep acc o).size = acc.size + 1 := by simp [beforeStep]
    have hold : ∀ i, i < acc.size → (beforeStep acc o).getD i 0 = acc.getD i 0 := fun i hi => by
      simp [beforeStep, Array.getD_eq_getD_getElem?, Array.getElem?_push, Nat.ne_of_lt hi]
    refine ⟨fun i hi => ?_, fun k o' hk => ?_⟩
    · rw [List.foldl_cons, h1 i (by omega), hold i hi]
    · cases k with
      | zero =>
        have ho : o = o' := by simpa using hk
        subst ho
        refine ⟨acc, rfl, fun i hi => by rw [List.foldl_cons, h1 i (by omega), hold i hi], ?_⟩
        rw [List.foldl_cons, Nat.add_zero, h1 acc.size (by omega)]
        simp [beforeStep, Array.getD_eq_getD_getElem?]
      | succ k =>
        obtain ⟨acc', ha, hb, hc⟩ := h2 k o' (by simpa using hk)
        refine ⟨acc', by omega, fun i hi => hb i hi, ?_⟩
        rw [hs] at hc
        rw [List.foldl_cons, show acc.size + (k + 1) = acc.size + 1 + k by omega]
        exact hc

theorem ahead_spec {ops : Array Oper} {i j : Nat} {o : Oper} (ho : ops[i]? = some o) (h : ahead ops i j = true) :
    ∃ e ∈ o.after, Region.binds .any e = true ∧ (j = e.on ∨ (e.on < i ∧ ahead ops e.on j = true)) := by
  unfold ahead at *
  have hb : Region.before ops = ops.toList.foldl beforeStep #[] := by
    unfold Region.before; rw [← Array.foldl_toList]; rfl
  obtain ⟨acc', ha, hold, hnew⟩ := (foldl_before ops.toList #[]).2 i o (by simpa using ho)
  have ha' : acc'.size = i := by simpa using ha
  rw [hb] at h ⊢
  simp only [List.size_toArray, List.length_nil, Nat.zero_add] at hnew
  rw [hnew, ← Array.foldl_toList] at h
  rcases foldl_or_bit acc' j o.after.toList 0 h with h0 | ⟨e, he, hbd, hj⟩
  · simp at h0
  · refine ⟨e, by simpa using he, hbd, ?_⟩
    rcases hj with hj | hj
    · exact .inl hj
    · right
      have hlt : e.on < i := by
        rcases Nat.lt_or_ge e.on i with h | h
        · exact h
        · rw [Array.getD_eq_getD_getElem?, Array.getElem?_eq_none (by omega)] at hj
          simp at hj
      exact ⟨hlt, by rw [hold e.on (by omega)]; exact hj⟩

/-- what is listed has all that must come ahead of it listed too -/
def Closed (ops : Array Oper) (L : Array Bool) : Prop := ∀ i, L.getD i false = true → ∃ o, ops[i]? = some o ∧ ∀ e ∈ o.after, Region.binds .any e = true → L.getD e.on false = true
theorem closed_ahead {ops : Array Oper} {L : Array Bool} (hc : Closed ops L) : ∀ (i j : Nat) (o : Oper), ops[i]? = some o → (∀ e ∈ o.after, Region.binds .any e = true → L.getD e.on false = true) → ahead ops i j = true → L.getD j false = true := by
  intro i
  induction i using Nat.strongRecOn with
  | ind i ih =>
    intro j o ho hall h
    obtain ⟨e, he, hb, hj⟩ := ahead_spec ho h
    rcases hj with rfl | ⟨hlt, hj⟩
    · exact hall e he hb
    · obtain ⟨o', ho', hall'⟩ := hc e.on (hall e he hb)
      exact ih e.on hlt j o' ho' hall' hj

/-- the state in which the operations of 'sel' have left their values -/
def fillL (sel : Nat → Bool) (us : Nat → Value) : List (Oper × Nat) → Act → Act
  | [], a => a
  | (o, i) :: l, a => fillL sel us l (if sel i then a.put o.dst (us i) else a)
def fill (ops : Array Oper) (sel : Nat → Bool) (us : Nat → Value) (a : Act) : Act := fillL sel us ops.toList.zipIdx a

theorem put_size (a : Act) (d : Option Tmp) (v : Value) : (a.put d v).tmps.size = a.tmps.size := by cases d <;> simp [Act.put]
theorem put_defers (a : Act) (d : Option Tmp) (v : Value) : (a.put d v).defers = a.defers := by cases d <;> rfl
theorem fillL_size (sel us) : ∀ (l : List (Oper × Nat)) (a : Act), (fillL sel us l a).tmps.size = a.tmps.size
  | [], _ => rfl
  | (o, i) :: l, a => by rw [fillL, fillL_size sel us l]; split <;> simp [put_size]
theorem fillL_defers (sel us) : ∀ (l : List (Oper × Nat)) (a : Act), (fillL sel us l a).defers = a.defers
  | [], _ => rfl
  | (o, i) :: l, a => by rw [fillL, fillL_defers sel us l]; split <;> simp [put_defers]

/-- two choices that agree on who writes slot t leave the same there -/
theorem fillL_slot (t : Tmp) {sel sel' : Nat → Bool} (us : Nat → Value) : ∀ (l : List (Oper × Nat)) (a a' : Act), (∀ p ∈ l, p.1.dst = some t → sel p.2 = sel' p.2) → a.tmps.size = a'.tmps.size → a.tmps[t]? = a'.tmps[t]? →
    (fillL sel us l a).tmps[t]? = (fillL sel' us l a').tmps[t]?
  | [], _, _, _, _, h => h
  | (o, i) :: l, a, a', hp, hs, h => by
    rw [fillL, fillL]
    have hd := hp (o, i) List.mem_cons_self
    simp only at hd
    refine fillL_slot t us l _ _ (fun p hm => hp p (List.mem_cons_of_mem _ hm)) ?_ ?_
    · split <;> split <;> simp [put_size, hs]
    · by_cases ho : o.dst = some t
      · rw [hd ho]
        split
        · rw [ho]; simp [Act.put, Array.getElem?_setIfInBounds, hs]
        · exact h
      · have hput : ∀ (x : Act) (v : Value), (x.put o.dst v).tmps[t]? = x.tmps[t]? := fun x v => by
          cases hdst : o.dst with
          | none => rfl
          | some d =>
            have hne : d ≠ t := fun e => ho (by rw [hdst, e])
            simp [Act.put, Array.getElem?_setIfInBounds_ne hne]
        split <;> split <;> simp [hput, h]

theorem act_eval_of_slot {a a' : Act} {t : Tmp} (h : a.tmps[t]? = a'.tmps[t]?) : a.eval (.tmp t) = a'.eval (.tmp t) := by
  simp [Act.eval, Array.getD_eq_getD_getElem?, h]

/-- a value put where nothing has been put yet, last or at its place -/
theorem fillL_put {sel : Nat → Bool} {us : Nat → Value} {n : Nat} {d : Option Tmp} {v : Value} :
    ∀ (l : List (Oper × Nat)) (a : Act), (∀ p ∈ l, p.2 = n → p.1.dst = d) → (∀ p ∈ l, p.2 ≠ n → ∀ t, d = some t → p.1.dst ≠ some t) → sel n = false → l.Pairwise (fun p q => p.2 ≠ q.2) → (∃ p ∈ l, p.2 = n) →
      (fillL sel us l a).put d v = fillL (fun i => sel i || i == n) (fun i => if i = n then v else us i) l a := by
  have comm : ∀ (l : List (Oper × Nat)) (a : Act), (∀ p ∈ l, ∀ t, d = some t → p.1.dst ≠ some t) → (fillL sel us l a).put d v = fillL sel us l (a.put d v) := by
    intro l
    induction l with
    | nil => intro a _; rfl
    | cons p l ih =>
      obtain ⟨o, i⟩ := p
      intro a h
      rw [fillL, fillL, ih _ (fun p hm => h p (List.mem_cons_of_mem _ hm))]
      congr 1
      split
      · exact (Act.put_comm a v (us i) (fun t ht => h (o, i) List.mem_cons_self t ht)).symm
      · rfl
  have same : ∀ (l : List (Oper × Nat)) (a : Act), (∀ p ∈ l, p.2 ≠ n) → fillL (fun i => sel i || i == n) (fun i => if i = n then v else us i) l a = fillL sel us l a := by
    intro l
    induction l with
    | nil => intro a _; rfl
    | cons p l ih =>
      obtain ⟨o, i⟩ := p
      intro a h
      have hne : i ≠ n := h (o, i) List.mem_cons_self
      rw [fillL, fillL, ih _ (fun p hm => h p (List.mem_cons_of_mem _ hm))]
      simp [hne]
  intro l
  induction l with
  | nil => intro a _ _ _ _ ⟨p, hp, _⟩; cases hp
  | cons p l ih =>
    obtain ⟨o, i⟩ := p
    intro a h1 h2 hn hpw hex
    rw [List.pairwise_cons] at hpw
    by_cases hi : i = n
    · subst hi
      have hl : ∀ p ∈ l, p.2 ≠ i := fun p hm => (hpw.1 p hm).symm
      rw [fillL, fillL, same _ _ hl]
      have hdo : o.dst = d := h1 (o, i) List.mem_cons_self rfl
      rw [hn, if_neg (by simp), comm _ _ (fun p hm t ht => h2 p (List.mem_cons_of_mem _ hm) (hl p hm) t ht)]
      simp [hdo]
    · rw [fillL, fillL]
      have hex' : ∃ p ∈ l, p.2 = n := by
        obtain ⟨p, hp, he⟩ := hex
        rcases List.mem_cons.1 hp with rfl | hp
        · exact absurd he hi
        · exact ⟨p, hp, he⟩
      rw [ih _ (fun p hm => h1 p (List.mem_cons_of_mem _ hm)) (fun p hm => h2 p (List.mem_cons_of_mem _ hm)) hn hpw.2 hex']
      simp [hi]

/-- each operation looks at slots that only what comes ahead of it (or it itself) writes; no two write one slot; what they write is there -/
def looksOk (ops : Array Oper) (slots : Nat) : Bool :=
  ops.toList.zipIdx.all fun p =>
    ((p.1.looksAt ops).all fun t => ops.toList.zipIdx.all fun q => q.1.dst != some t || ahead ops p.2 q.2 || p.2 == q.2) &&
    (ops.toList.zipIdx.all fun q => p.2 == q.2 || (match p.1.dst with | some d => q.1.dst != some d | none => true)) &&
    (match p.1.dst with | some d => decide (d < slots) | none => true) &&
    (match p.1.op with | .select .. => false | .defer .. => false | _ => true)

/-- what comes ahead of number i and is looked at by it -/
def deps (ops : Array Oper) (i : Nat) (j : Nat) : Bool := ahead ops i j && (match ops[i]?, (ops[j]?).bind (·.dst) with | some o, some d => (o.looksAt ops).contains d | _, _ => false)

/-- the effects: numbers in order, each ahead of the next; every operation that is not free comes ahead of an effect, or behind it -/
def phasesOk (ops : Array Oper) (free : Nat → Bool) (phs : List Nat) : Bool :=
  (phs.zip (phs.drop 1)).all (fun p => ahead ops p.2 p.1) &&
  (List.range ops.size).all fun i => free i || phs.contains i || phs.all fun p => ahead ops i p || ahead ops p i
def phaseOf (ops : Array Oper) (phs : List Nat) (i : Nat) : Nat := (phs.filter fun p => ahead ops i p).length

def Is (v : Value) : Value → World → Prop := fun u _ => u = v
end Go.Proofs.YtmajnoefddbflaaDoor
