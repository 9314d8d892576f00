/- Guards of operations in a region that draws its order. -/
import Derived.Test.YtmajnoefddbflaaDoorL4
namespace Go.Proofs.YtmajnoefddbflaaDoor
open Go.RowKit

section
variable {ops : Array Oper} {o : Oper} {tmps : Array Value} {j t : Nat} {want : Bool}
theorem guard_yes (hg : o.guard = some (j, want)) (hj : (ops[j]?).bind (·.dst) = some t) (hs : tmps[t]?.getD undef = .bool want) : Region.wanted o (yielded ops tmps) = true := by
  unfold Region.wanted yielded
  rw [hg]
  simp only [hj, Option.bind_some]
  cases h : tmps[t]? with
  | none => rw [h] at hs; cases hs
  | some v => rw [h] at hs; simp only [Option.getD_some] at hs; subst hs; simp
theorem guard_no (hg : o.guard = some (j, want)) (hj : (ops[j]?).bind (·.dst) = some t) (hs : tmps[t]?.getD undef = .bool (!want)) : ¬ Region.wanted o (yielded ops tmps) = true := by
  unfold Region.wanted yielded
  rw [hg]
  simp only [hj, Option.bind_some]
  cases h : tmps[t]? with
  | none => rw [h] at hs; cases hs
  | some v => rw [h] at hs; simp only [Option.getD_some] at hs; subst hs; cases want <;> simp
theorem guard_undef (hg : o.guard = some (j, want)) (hj : (ops[j]?).bind (·.dst) = some t) (hs : tmps[t]?.getD undef = undef) : ¬ Region.wanted o (yielded ops tmps) = true := by
  unfold Region.wanted yielded
  rw [hg]
  simp only [hj, Option.bind_some]
  cases h : tmps[t]? with
  | none => simp
  | some v => rw [h] at hs; simp only [Option.getD_some] at hs; subst hs; simp [undef]
end
end Go.Proofs.YtmajnoefddbflaaDoor
