/- The law of a drawn region over the list of its operations: each operation stands in its goal as it is. -/
import Derived.Test.YtmajnoefddbflaaDoorL4
import Derived.Test.YtmajnoefddbflaaDoorGrd
namespace Go.Proofs.YtmajnoefddbflaaDoor
open Go.RowKit

section
variable {P : Program} {ops : Array Oper} {a0 : Act} {w0 : World} {F : Nat → Prop} {free : Nat → Bool} {phs : List Nat} {V : Nat → Value → World → Prop} {W : List Value → World → Prop}
structure OwesO (P : Program) (ops : Array Oper) (a0 : Act) (w0 : World) (F : Nat → Prop) (free : Nat → Bool) (phs : List Nat) (V : Nat → Value → World → Prop) (W : List Value → World → Prop) (i : Nat) (o : Oper) : Prop where
  owes : ops[i]? = some o → Owes P ops a0 w0 F free phs V W i
def OwesL (P : Program) (ops : Array Oper) (a0 : Act) (w0 : World) (F : Nat → Prop) (free : Nat → Bool) (phs : List Nat) (V : Nat → Value → World → Prop) (W : List Value → World → Prop) : List Oper → Nat → Prop
  | [], _ => True
  | o :: os, i => OwesO P ops a0 w0 F free phs V W i o ∧ OwesL P ops a0 w0 F free phs V W os (i + 1)
theorem owesL_nil {i : Nat} : OwesL P ops a0 w0 F free phs V W [] i := trivial
theorem owesL_cons {i i' : Nat} {o : Oper} {os : List Oper} (hi : i + 1 = i') (h : OwesO P ops a0 w0 F free phs V W i o) (hs : OwesL P ops a0 w0 F free phs V W os i') : OwesL P ops a0 w0 F free phs V W (o :: os) i := by
  subst hi; exact ⟨h, hs⟩
theorem owesL_get : ∀ (l : List Oper) (k : Nat), OwesL P ops a0 w0 F free phs V W l k → (∀ j o, l[j]? = some o → ops[k + j]? = some o) → ∀ j, j < l.length → Owes P ops a0 w0 F free phs V W (k + j)
  | [], _, _, _, _, hj => absurd hj (by simp)
  | o :: os, k, h, hl, 0, _ => h.1.owes (hl 0 o rfl)
  | o :: os, k, h, hl, j + 1, hj => by
    have := owesL_get os (k + 1) h.2 (fun i o' hi => by rw [show k + 1 + i = k + (i + 1) by omega]; exact hl (i + 1) o' hi) j (by simpa using hj)
    rw [show k + (j + 1) = k + 1 + j by omega]; exact this
theorem owesL_all {l : List Oper} (h : OwesL P l.toArray a0 w0 F free phs V W l 0) : ∀ i, i < l.toArray.size → Owes P l.toArray a0 w0 F free phs V W i := fun i hi => by
  have := owesL_get (ops := l.toArray) l 0 h (fun j o ho => by simpa using ho) i (by simpa using hi)
  simpa using this
theorem o_pure {i : Nat} {o : Oper} (hg : o.guard = none) (hc : phs.contains i = false)
    (h : ∀ (us : Nat → Value) (a : Act) (w : World), a = fill ops (deps ops i) us a0 → (∀ j, ahead ops i j = true → V j (us j) w) → ∀ (K : Act → World → Prop), (∀ v, V i v w → K (a.put o.dst v) w) → o.wp P a w K NoQ) :
    OwesO P ops a0 w0 F free phs V W i o := ⟨fun ho => owes_pure ho hg hc h⟩
theorem o_pureg {i : Nat} {o : Oper} (hc : phs.contains i = false)
    (h : ∀ (us : Nat → Value) (a : Act) (w : World), a = fill ops (deps ops i) us a0 → (∀ j, ahead ops i j = true → V j (us j) w) → ∀ (K : Act → World → Prop), (∀ v, V i v w → K (a.put o.dst v) w) →
      if Region.wanted o (yielded ops a.tmps) then o.wp P a w K NoQ else K (a.put o.dst undef) w) :
    OwesO P ops a0 w0 F free phs V W i o := ⟨fun ho => owes_pureg ho hc h⟩
theorem o_q {i : Nat} {o : Oper} {pl : List Nat} (hg : o.guard = none) (hc : phs.contains i = false) (hfr : free i = false) (hpl : (phs.filter fun p => ahead ops i p) = pl)
    (h : ∀ (us : Nat → Value) (a : Act) (w : World), a = fill ops (deps ops i) us a0 → (∀ j, ahead ops i j = true → V j (us j) w) → Frm F w0 w → W (pl.map us) w →
      ∀ (K : Act → World → Prop), (∀ v w', V i v w' → Frm (fun _ => False) w w' → K (a.put o.dst v) w') → o.wp P a w K NoQ) : OwesO P ops a0 w0 F free phs V W i o := ⟨fun ho => owes_q ho hg hc hfr hpl h⟩
theorem o_qg {i : Nat} {o : Oper} {pl : List Nat} (hc : phs.contains i = false) (hfr : free i = false) (hpl : (phs.filter fun p => ahead ops i p) = pl)
    (h : ∀ (us : Nat → Value) (a : Act) (w : World), a = fill ops (deps ops i) us a0 → (∀ j, ahead ops i j = true → V j (us j) w) → Frm F w0 w → W (pl.map us) w →
      ∀ (K : Act → World → Prop), (∀ v w', V i v w' → Frm (fun _ => False) w w' → K (a.put o.dst v) w') → if Region.wanted o (yielded ops a.tmps) then o.wp P a w K NoQ else K (a.put o.dst undef) w) : OwesO P ops a0 w0 F free phs V W i o := ⟨fun ho => owes_qg ho hc hfr hpl h⟩
theorem o_f {i : Nat} {o : Oper} (hg : o.guard = none) (hc : phs.contains i = false)
    (h : ∀ (us : Nat → Value) (a : Act) (w : World), a = fill ops (deps ops i) us a0 → (∀ j, ahead ops i j = true → V j (us j) w) → Frm F w0 w →
      ∀ (K : Act → World → Prop), (∀ v w', V i v w' → Frm (fun _ => False) w w' → K (a.put o.dst v) w') → o.wp P a w K NoQ) : OwesO P ops a0 w0 F free phs V W i o := ⟨fun ho => by
  intro us w hv hf _ K hK
  unfold wpOp
  simp only [ho, Region.wanted, hg, if_true]
  refine .inl (h us _ w rfl hv hf K fun v w' h1 h2 => ?_)
  have := hK v w' h1 (by rw [hc]; exact h2)
  simpa [ho] using this⟩
theorem o_p {i : Nat} {o : Oper} {pl : List Nat} (hg : o.guard = none) (hc : phs.contains i = true) (hfr : free i = false) (hpl : (phs.filter fun p => ahead ops i p) = pl)
    (h : ∀ (us : Nat → Value) (a : Act) (w : World), a = fill ops (deps ops i) us a0 → (∀ j, ahead ops i j = true → V j (us j) w) → Frm F w0 w → W (pl.map us) w →
      ∀ (K : Act → World → Prop), (∀ v w', V i v w' → W (pl.map us ++ [v]) w' → Frm F w w' → K (a.put o.dst v) w') → o.wp P a w K NoQ) : OwesO P ops a0 w0 F free phs V W i o := ⟨fun ho => owes_p ho hg hc hfr hpl h⟩
end
end Go.Proofs.YtmajnoefddbflaaDoor
