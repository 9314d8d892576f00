/- Whole values out of and into blocks, at guarded operations; small words besides. -/
import Derived.Test.YtmajnoefddbflaaDoorDat
import Derived.WalkKit
namespace Go.Proofs.YtmajnoefddbflaaDoor
open Go.RowKit

section
variable {P : Program} {ops : Array Oper} {rest : List Oper} {op : Oper} {a : Act} {w : World} {Q : Exit → Act → World → Prop}
theorem list_loadg (ty : TypeId) {b o : Nat} {cs : List Value} (hc : w.rangeAt b o cs)
    {d : TypeDesc} (hu : P.underlying ty = some d) (hd : d.isRow = true) (hi : (P.info? ty).map (·.size) = some cs.length)
    {x : Operand} (hw : Region.wanted op (yielded ops a.tmps) = true) (ho : op.op = .load ty x) (hx : a.eval x = .pointer (some ⟨b, o, none⟩))
    (h : wpList P ops Q rest (a.put op.dst (.agg cs.toArray)) w) : wpList P ops Q (op :: rest) a w :=
  BigFrame.wpList_want hw fun _ hK => wp_load_mid ty x ho b o hx cs d hc hu hd hi (hK _ _ h)
theorem list_run {s : Sem Value} {v : Value} (hs : s.run P w = .ok v w) (hgd : op.guard = none) (ho : execOp a.eval op = (do let x ← s; pure (Next.value x))) (h : wpList P ops Q rest (a.put op.dst v) w) : wpList P ops Q (op :: rest) a w :=
  wpList_plain hgd fun _ hK => by
    unfold Oper.wp
    rw [ho]
    simp only [Sem.run_bind, hs, Result.andThen_ok, Sem.run_pure]
    exact hK _ _ h
end
theorem Own.someB {w : World} {e size n c : Nat} {xs : List Value} {A : Option Addr} (h : Own w e size A n c xs) (hn : 0 < n) : ∃ b, A = some ⟨b, 0, none⟩ := by
  rcases h.2 with ⟨_, h0⟩ | ⟨g, cap, cur, e, _⟩
  · omega
  · injection e with e1; exact ⟨g, e1⟩
end Go.Proofs.YtmajnoefddbflaaDoor
