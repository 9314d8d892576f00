/- Whole values out of and into blocks. -/
import Derived.Test.YtmajnoefddbflaaDoorL4
import Derived.Deep.MidRow
import Derived.Laws.IdiomCopy
import Derived.WalkKit
namespace Go.Proofs.YtmajnoefddbflaaDoor
open Go.RowKit

section
variable {F : Nat → Prop} {w w' : World} {g t o : Nat} {cs vs : List Value}
theorem Blk.sub (h : Blk w g t cs) (o : Nat) (hs : ∀ j, j < vs.length → cs[o + j]? = vs[j]?) : w.rangeAt g o vs := fun j v hv => by
  have hj : j < vs.length := (List.getElem?_eq_some_iff.1 hv).1
  rw [h.cell, hs j hj, hv]
theorem Blk.pre (h : Blk w g t (vs ++ cs)) : w.rangeAt g 0 vs := h.sub 0 fun j hj => by rw [Nat.zero_add, List.getElem?_append_left hj]
theorem Blk.mid {as : List Value} (h : Blk w g t (as ++ (vs ++ cs))) (ho : as.length = o) : w.rangeAt g o vs := h.sub o fun j hj => by
  rw [List.getElem?_append_right (by omega), show o + j - as.length = j by omega, List.getElem?_append_left hj]
theorem Blk.setCells (h : Blk w g t cs) (ho : o + vs.length ≤ cs.length) : Blk (w.setCells g o vs) g t (cs.take o ++ vs ++ cs.drop (o + vs.length)) := by
  induction vs generalizing w o cs with
  | nil => simpa [World.setCells] using h
  | cons v vs ih =>
    simp only [List.length_cons] at ho
    have h1 := ih (h.set_ o v) (o := o + 1) (by rw [List.length_set]; omega)
    have e : (cs.set o v).take (o + 1) ++ vs ++ (cs.set o v).drop (o + 1 + vs.length) = cs.take o ++ (v :: vs) ++ cs.drop (o + (v :: vs).length) := by
      rw [List.take_succ_eq_append_getElem (by rw [List.length_set]; omega), List.getElem_set_self, List.take_set_of_le (Nat.le_refl _), List.drop_set_of_lt (by omega), List.length_cons, show o + 1 + vs.length = o + (vs.length + 1) by omega]
      simp
    rw [e] at h1
    exact h1
theorem Blk.setCells0 {ds : List Value} (h : Blk w g t (cs ++ ds)) (hl : vs.length = cs.length) : Blk (w.setCells g 0 vs) g t (vs ++ ds) := by
  have := h.setCells (o := 0) (vs := vs) (by simp; omega)
  simpa [hl] using this
theorem Frm.setCells (h : Frm F w w') (hF : g < w.heap.size → F g) (o : Nat) (vs : List Value) : Frm F w (w'.setCells g o vs) := by
  induction vs generalizing w' o with
  | nil => exact h
  | cons v vs ih => exact ih (h.setCell (p := ⟨g, o, none⟩) hF v) (o + 1)
theorem Blk.there' (h : Blk w g t cs) (o n : Nat) (hn : o + n ≤ cs.length) : w.there g o n := h.there o n hn
end
theorem list_load {P : Program} {ops : Array Oper} {rest : List Oper} {op : Oper} {a : Act} {w : World} {Q : Exit → Act → World → Prop} (ty : TypeId) {b o : Nat} {cs : List Value} (hc : w.rangeAt b o cs)
    {d : TypeDesc} (hu : P.underlying ty = some d) (hd : d.isRow = true) (hi : (P.info? ty).map (·.size) = some cs.length)
    {x : Operand} (hgd : op.guard = none) (ho : op.op = .load ty x) (hx : a.eval x = .pointer (some ⟨b, o, none⟩)) 
    (h : wpList P ops Q rest (a.put op.dst (.agg cs.toArray)) w) : wpList P ops Q (op :: rest) a w := wpList_load_mid hgd ty x ho b o hx cs d hc hu hd hi h
theorem list_store {P : Program} {ops : Array Oper} {rest : List Oper} {op : Oper} {a : Act} {w : World} {Q : Exit → Act → World → Prop} (ty : TypeId) {b o : Nat} {cs : List Value} (ht : w.there b o cs.length)
    (hi : (P.info? ty).map (·.size) = some cs.length) (h1 : ∀ v ∈ cs, v.oneCell' = true)
    {x y : Operand} (hgd : op.guard = none) (ho : op.op = .store ty x y) (hx : a.eval x = .pointer (some ⟨b, o, none⟩)) (hy : a.eval y = .agg cs.toArray)
    (h : wpList P ops Q rest (a.put op.dst undef) (w.setCells b o cs)) : wpList P ops Q (op :: rest) a w :=
  wpList_store_mid hgd ty x y ho b o cs.toArray hx hy ht hi (all_oneCell_toArray h1) h
theorem wp_copy {P : Program} {op : Oper} {a : Act} {w : World} {K : Act → World → Prop} {Q : Exit → Act → World → Prop} {s x : Operand} (t e : TypeId) (hu : P.underlying t = some (.slice e)) (hsz : (P.info? e).map (·.size) = some 1)
    (ho : op.op = .call { callee := .builtin .copy, args := #[s, x], argTypes := #[t, t] }) {b o m c b2 o2 n c2 : Nat} {cs : List Value}
    (hs : a.eval s = .slice (some ⟨b, o, none⟩) m c) (hx : a.eval x = .slice (some ⟨b2, o2, none⟩) n c2) (hn : cs.length = Nat.min n m) (hsrc : w.rangeAt b2 o2 cs) (ht : w.there b o cs.length) (h1 : ∀ v ∈ cs, v.oneCell' = true)
    (h : K (a.put op.dst (goInt cs.length)) (w.setCells b o cs)) : op.wp P a w K Q := by
  have hrun := run_copy_cells (P := P) w t t op.type e b o m c ⟨b2, o2, none⟩ n c2 cs hu hsz hn (fun j v hv => by rw [Addr.add_mid]; exact hsrc j v hv) (fun j hj => (ht j hj).1) (fun j hj => (ht j hj).2) h1
  unfold Oper.wp execOp
  simp only [ho, resolve, invoke, builtin, Sem.run_bind, Sem.run_pure, Result.andThen_ok, List.map_toArray, List.map_cons, List.map_nil, hs, hx, hrun]
  exact h
theorem list_copy {P : Program} {ops : Array Oper} {rest : List Oper} {op : Oper} {a : Act} {w : World} {Q : Exit → Act → World → Prop} {s x : Operand} (t e : TypeId) (hu : P.underlying t = some (.slice e)) (hsz : (P.info? e).map (·.size) = some 1)
    {b o m c b2 o2 n c2 : Nat} {cs : List Value} (hn : cs.length = Nat.min n m) (hsrc : w.rangeAt b2 o2 cs) (ht : w.there b o cs.length) (h1 : ∀ v ∈ cs, v.oneCell' = true)
    (hgd : op.guard = none) (ho : op.op = .call { callee := .builtin .copy, args := #[s, x], argTypes := #[t, t] }) (hs : a.eval s = .slice (some ⟨b, o, none⟩) m c) (hx : a.eval x = .slice (some ⟨b2, o2, none⟩) n c2)
    (h : wpList P ops Q rest (a.put op.dst (goInt cs.length)) (w.setCells b o cs)) : wpList P ops Q (op :: rest) a w :=
  wpList_plain hgd fun _ hK => wp_copy t e hu hsz ho hs hx hn hsrc ht h1 (hK _ _ h)
theorem list_build0 {P : Program} {ops : Array Oper} {rest : List Oper} {op : Oper} {a : Act} {w : World} {Q : Exit → Act → World → Prop} {t : TypeId} {v : Value} (hb : (Instr.build t #[]).run P w = .ok v w)
    (hgd : op.guard = none) (ho : op.op = .build t #[]) (h : wpList P ops Q rest (a.put op.dst v) w) : wpList P ops Q (op :: rest) a w :=
  wpList_plain hgd fun _ hK => by
    unfold Oper.wp execOp
    simp only [ho, Array.map_empty, Sem.run_bind, hb, Result.andThen_ok, Sem.run_pure]
    exact hK _ _ h
theorem results_cell_range {P : Program} {fn : Func} {p : Tmp} {ty : TypeId} (h : fn.results = #[.cell p ty]) (tmps : Array Value) (w : World) {b o : Nat} {cs : List Value} {d : TypeDesc} (hp : tmps.getD p undef = .pointer (some ⟨b, o, none⟩)) (hc : w.rangeAt b o cs)
    (hu : P.underlying ty = some d) (hd : d.isRow = true) (hi : (P.info? ty).map (·.size) = some cs.length) : (results fn tmps).run P w = .ok (.agg cs.toArray) w := by
  have hp' : tmps[p]?.getD undef = .pointer (some ⟨b, o, none⟩) := by simpa using hp
  simp [results, h, hp', asAddr, run_loadVar_mid w b o ty cs d hc hu hd hi]
/-- a global that is fixed: its block is known -/
def GTab (w : World) (g : Nat) (k : IntKind) (xs : List Int) : Prop := ∀ i, i < xs.length → w.cell? ⟨g, i, none⟩ = some (.int k (xs.getD i 0))
theorem GTab.frm {F : Nat → Prop} {w w' : World} {g : Nat} {k : IntKind} {xs : List Int} (h : GTab w g k xs) (hf : Frm F w w') (hF : ¬ F g) : GTab w' g k xs := fun i hi => hf.cell (h i hi) hF
theorem GTab.lt {w : World} {g : Nat} {k : IntKind} {xs : List Int} (h : GTab w g k xs) (hx : 0 < xs.length) : g < w.heap.size := World.block_lt_of_cell? w _ (h 0 hx)
end Go.Proofs.YtmajnoefddbflaaDoor
