/- Words on slices: what is owned, what is read; append in one law each for a plain region and for one that draws. -/
import Derived.Test.YtmajnoefddbflaaDoorL0
import Derived.WalkKit
import Derived.Maps.AppendAt
namespace Go.Proofs.YtmajnoefddbflaaDoor
open Go.RowKit

/-- a slice's own block -/
def bl (A : Option Addr) : Option Nat := A.map (·.block)
theorem ownBlock_slice (A : Option Addr) (n c : Nat) : (Value.slice A n c).ownBlock = bl A := by cases A <;> rfl

/-- the slice (A, n, c) is the whole row of its own block: n elements of size cells each: the cells xs -/
def Own (w : World) (e size : Nat) (A : Option Addr) (n c : Nat) (xs : List Value) : Prop := w.ownsRow 0 e size (.slice A n c) n xs

/-- the slice (A, n, c) reads as n elements: the cells xs -/
def Rd (w : World) (size : Nat) (A : Option Addr) (n : Nat) (xs : List Value) : Prop :=
  xs.length = n * size ∧ (0 < n → ∃ b o, A = some ⟨b, o, none⟩ ∧ w.rangeAt b o xs)

section
variable {F : Nat → Prop} {w w' : World} {e size n c : Nat} {A : Option Addr} {xs : List Value}
theorem range_frm {b o : Nat} (h : w.rangeAt b o xs) (hf : Frm F w w') (hb : ¬ F b) : w'.rangeAt b o xs := fun j v hv => by
  have h0 := h j v hv
  have hlt : b < w.heap.size := World.block_lt_of_cell? w _ h0
  rw [World.cell?_of_block (w := w) (hf.block b hlt hb)]; exact h0
theorem Rd.frm (h : Rd w size A n xs) (hf : Frm F w w') (hb : ∀ b, bl A = some b → ¬ F b) : Rd w' size A n xs :=
  ⟨h.1, fun hn => by
    obtain ⟨b, o, rfl, hr⟩ := h.2 hn
    exact ⟨b, o, rfl, range_frm hr hf (hb b rfl)⟩⟩
theorem Rd.below (h : Rd w size A n xs) (hf : Below w.heap.size w w') : Rd w' size A n xs := h.frm (Frm.of_below hf (fun _ => False)) (fun _ _ h => h)
theorem Frm.cell (hf : Frm F w w') {a : Addr} {v : Value} (h : w.cell? a = some v) (hb : ¬ F a.block) : w'.cell? a = some v :=
  (World.cell?_of_block (w := w) (hf.block a.block (World.block_lt_of_cell? w a h) hb)).trans h
theorem Frm.frozen (hf : Frm F w w') {a : Addr} (h : w.frozen? a = false) (hlt : a.block < w.heap.size) (hb : ¬ F a.block) : w'.frozen? a = false :=
  (World.frozen?_of_block (w := w) (hf.block a.block hlt hb)).trans h
theorem Rd.nil (w : World) (size : Nat) (A : Option Addr) : Rd w size A 0 [] := ⟨by simp, fun h => absurd h (by omega)⟩
theorem Rd.lt (h : Rd w size A n xs) (hn : 0 < n) (hs : 0 < size) : ∀ b, bl A = some b → b < w.heap.size := by
  obtain ⟨b, o, rfl, hr⟩ := h.2 hn
  intro b' hb'
  have : b = b' := by simpa [bl] using hb'
  subst this
  have hl : 0 < xs.length := by rw [h.1]; exact Nat.mul_pos hn hs
  exact World.block_lt_of_cell? w _ (hr 0 _ (List.getElem?_eq_getElem hl))
theorem Own.nil (w : World) (e size : Nat) : Own w e size none 0 0 [] := World.ownsRow_nil w 0 e size
theorem Own.len (h : Own w e size A n c xs) : xs.length = n * size := h.1
theorem Own.frm (h : Own w e size A n c xs) (hf : Frm F w w') (hb : ∀ b, bl A = some b → ¬ F b) : Own w' e size A n c xs :=
  own_frm h hf (fun k hk => hb k (by rw [← ownBlock_slice A n c]; exact hk))
theorem Own.lt (h : Own w e size A n c xs) : ∀ b, bl A = some b → b < w.heap.size := fun b hb => (World.ownsRow.lt h b (by rw [ownBlock_slice]; exact hb)).2
theorem Own.ne_blk (h : Own w e size A n c xs) {g t : Nat} {cs : List Value} (hb : Blk w g t cs) (hne : e ≠ t) : bl A ≠ some g := by
  rw [← ownBlock_slice A n c]; exact own_blk_ne h hb hne
theorem Own.rd (h : Own w e size A n c xs) : Rd w size A n xs := by
  refine ⟨h.1, fun hn => ?_⟩
  obtain ⟨g, cap, hv, _, _⟩ := World.ownsRow.form h hn
  injection hv with hA
  subst hA
  refine ⟨g, 0, rfl, fun j v hv => ?_⟩
  have := World.ownsRow.cells h (g := g) rfl j v hv
  rwa [Addr.add_mid] at this
theorem Own.cap (h : Own w e size A n c xs) : n ≤ c := by
  rcases h.2 with ⟨h1, h2⟩ | ⟨g, cap, cur, hv, _, _, h2, _⟩
  · omega
  · injection hv with _ _ hc
    omega
theorem Own.of_blk {g : Nat} {t : TypeId} {cs : List Value} (h : Blk w g t cs) (n : Nat) (hl : cs.length = n * size) (hn : n ≤ 9223372036854775807) : Own w t size (some ⟨g, 0, none⟩) n n cs := by
  refine ⟨hl, .inr ⟨g, n, cs.toArray, rfl, Nat.zero_le _, h, Nat.le_refl _, by simpa [maxLen] using hn, by simpa using hl, ?_⟩⟩
  rw [List.toList_toArray, ← hl, List.take_length]
end

/-- all that append asks of a slice type -/
structure AppT (P : Program) (t e size bytes : Nat) : Prop where
  ht : P.underlying t = some (.slice e)
  hi : ∃ i z, P.info? e = some i ∧ i.zero = some z ∧ i.size = size ∧ i.bytes = bytes ∧ z.cells.size = size
  hs : 0 < size
  hb : 0 < bytes
theorem AppT.mk' {P : Program} {t e size bytes : Nat} (ht : P.underlying t = some (.slice e)) (hi : (P.info? e).map (fun i => (i.zero.map (·.cells.size), i.size, i.bytes)) = some (some size, size, bytes)) (hs : 0 < size) (hb : 0 < bytes) : AppT P t e size bytes := by
  obtain ⟨i, h1, h2⟩ := Option.map_eq_some_iff.1 hi
  simp only [Prod.mk.injEq] at h2
  obtain ⟨z, hz, hzs⟩ := Option.map_eq_some_iff.1 h2.1
  exact ⟨ht, ⟨i, z, h1, hz, h2.2.1, h2.2.2, hzs⟩, hs, hb⟩

section
variable {P : Program} {w : World} {t e size bytes : Nat}
/-- append(v, news...): v owned; what is appended is read, nil let in -/
theorem run_app (T : AppT P t e size bytes) (ty : TypeId) {A : Option Addr} {n c : Nat} {xs : List Value} (hown : Own w e size A n c xs) {A2 : Option Addr} {m : Nat} (c2 : Nat) {news : List Value}
    (hr : Rd w size A2 m news) (h1 : ∀ u ∈ news, u.oneCell' = true) (hbytes : (n + m) * bytes ≤ 140737488355328) :
    ∃ A' c' w', (Builtin.append_ #[t, t] ty #[.slice A n c, .slice A2 m c2]).run P w = .ok (.slice A' (n + m) c') w' ∧ Own w' e size A' (n + m) c' (xs ++ news) ∧ Frm (fun k => bl A = some k) w w' ∧
      (bl A' = bl A ∨ bl A' = some w.heap.size) := by
  obtain ⟨i, z, hi, hz, hs, hb, hzs⟩ := T.hi
  have hle : n + m ≤ 140737488355328 := Nat.le_trans (Nat.le_mul_of_pos_right _ T.hb) hbytes
  have fin : ∀ v' w', (Builtin.append_ #[t, t] ty #[.slice A n c, .slice A2 m c2]).run P w = .ok v' w' → w'.ownsRow 0 e size v' (n + m) (xs ++ news) → w.grownBy w' (bl A) → (v'.ownBlock = bl A ∨ v'.ownBlock = some w.heap.size) →
      ∃ A' c' w', (Builtin.append_ #[t, t] ty #[.slice A n c, .slice A2 m c2]).run P w = .ok (.slice A' (n + m) c') w' ∧ Own w' e size A' (n + m) c' (xs ++ news) ∧ Frm (fun k => bl A = some k) w w' ∧
      (bl A' = bl A ∨ bl A' = some w.heap.size) := by
    intro v' w' h1 h2 h3 h4
    have hshape : ∃ A' c', v' = .slice A' (n + m) c' := by
      rcases h2.2 with ⟨rfl, h0⟩ | ⟨g, cap, cur, rfl, _⟩
      · exact ⟨none, 0, by rw [h0]⟩
      · exact ⟨_, cap, rfl⟩
    obtain ⟨A', c', rfl⟩ := hshape
    rw [ownBlock_slice] at h4
    exact ⟨A', c', w', h1, h2, (Frm.refl _ w).grown h3 (fun k _ hk => hk), h4⟩
  rcases Nat.eq_zero_or_pos m with h0 | h0
  · subst h0
    have hn : news = [] := List.eq_nil_of_length_eq_zero (by simpa using hr.1)
    subst hn
    refine fin (.slice A n c) w ?_ (by simpa [Own] using hown) (World.grownBy.refl w _) (.inl (ownBlock_slice ..))
    rcases hown.2 with ⟨hv, hn0⟩ | ⟨g, cap, cur, hv, _, _, hnc, _⟩
    · rw [hv, hn0] at *
      cases A2 <;> simp [Builtin.append_, run_underlying T.ht, sizeOf, typeInfo, hi, Builtin.lenOf, Builtin.firstCells, loadCells, loadCellsFrom]
    · rw [hv]
      injection hv with hA hn' hc
      subst hc
      cases A2 <;> simp [Builtin.append_, run_underlying T.ht, sizeOf, typeInfo, hi, Builtin.lenOf, Builtin.firstCells, hnc, storeCells, loadCells, loadCellsFrom]
  · obtain ⟨b, o, rfl, hcells⟩ := hr.2 h0
    obtain ⟨v', w', hrun, h2, h3, _, h5⟩ := run_append_own_at (P := P) w 0 t ty e i z size bytes T.ht hi hz hs hb hzs T.hs (.slice A n c) n xs hown ⟨b, o, none⟩ m c2 news hr.1 (fun j u hu => by rw [Addr.add_mid]; exact hcells j u hu) h1 (by simp only [maxLen]; omega) hbytes (Nat.zero_le _)
    rw [ownBlock_slice] at h3 h5
    exact fin v' w' hrun h2 h3 h5

section
variable {o : Oper} {a : Act} {Q : Exit → Act → World → Prop} {s x : Operand}
theorem wp_app {K : Act → World → Prop} (T : AppT P t e size bytes) (ho : o.op = .call { callee := .builtin .append, args := #[s, x], argTypes := #[t, t] }) {A : Option Addr} {n c : Nat} {xs : List Value} {A2 : Option Addr} {m c2 : Nat} {news : List Value}
    (hs : a.eval s = .slice A n c) (hx : a.eval x = .slice A2 m c2) (hown : Own w e size A n c xs) (hr : Rd w size A2 m news) (h1 : ∀ u ∈ news, u.oneCell' = true) (hbytes : (n + m) * bytes ≤ 140737488355328)
    (h : ∀ A' c' w', Own w' e size A' (n + m) c' (xs ++ news) → Frm (fun k => bl A = some k) w w' → (bl A' = bl A ∨ bl A' = some w.heap.size) → K (a.put o.dst (.slice A' (n + m) c')) w') : o.wp P a w K Q := by
  obtain ⟨A', c', w', hrun, h2, h3, h4⟩ := run_app T o.type hown c2 hr h1 hbytes
  unfold Oper.wp execOp
  simp only [ho, resolve, invoke, builtin, Sem.run_bind, Sem.run_pure, Result.andThen_ok, List.map_toArray, List.map_cons, List.map_nil, hs, hx, hrun]
  exact h A' c' w' h2 h3 h4
theorem list_app {ops : Array Oper} {rest : List Oper} (hgd : o.guard = none) (T : AppT P t e size bytes) (ho : o.op = .call { callee := .builtin .append, args := #[s, x], argTypes := #[t, t] }) {A : Option Addr} {n c : Nat} {xs : List Value} {A2 : Option Addr} {m c2 : Nat} {news : List Value}
    (hs : a.eval s = .slice A n c) (hx : a.eval x = .slice A2 m c2) (hown : Own w e size A n c xs) (hr : Rd w size A2 m news) (h1 : ∀ u ∈ news, u.oneCell' = true) (hbytes : (n + m) * bytes ≤ 140737488355328)
    (h : ∀ A' c' w', Own w' e size A' (n + m) c' (xs ++ news) → Frm (fun k => bl A = some k) w w' → (bl A' = bl A ∨ bl A' = some w.heap.size) → wpList P ops Q rest (a.put o.dst (.slice A' (n + m) c')) w') : wpList P ops Q (o :: rest) a w :=
  wpList_plain hgd fun _ hK => wp_app T ho hs hx hown hr h1 hbytes fun A' c' w' h2 h3 h4 => hK _ _ (h A' c' w' h2 h3 h4)
theorem step_app {ops : Array Oper} {K : Act → World → Prop} {E : Prop} (hgd : o.guard = none) (T : AppT P t e size bytes) (ho : o.op = .call { callee := .builtin .append, args := #[s, x], argTypes := #[t, t] }) {A : Option Addr} {n c : Nat} {xs : List Value} {A2 : Option Addr} {m c2 : Nat} {news : List Value}
    (hs : a.eval s = .slice A n c) (hx : a.eval x = .slice A2 m c2) (hown : Own w e size A n c xs) (hr : Rd w size A2 m news) (h1 : ∀ u ∈ news, u.oneCell' = true) (hbytes : (n + m) * bytes ≤ 140737488355328)
    (h : ∀ A' c' w', Own w' e size A' (n + m) c' (xs ++ news) → Frm (fun k => bl A = some k) w w' → (bl A' = bl A ∨ bl A' = some w.heap.size) → K (a.put o.dst (.slice A' (n + m) c')) w') :
    if Region.wanted o (yielded ops a.tmps) = true then Oper.wp P o a w K Q else E := by
  have hw : Region.wanted o (yielded ops a.tmps) = true := by simp [Region.wanted, hgd]
  rw [if_pos hw]
  exact wp_app T ho hs hx hown hr h1 hbytes h
end
end
/-- what was just laid as a block of its own is read -/
theorem rd_new (w : World) (cs : List Value) (t size n : Nat) (hl : cs.length = n * size) : Rd (w.alloc (.cells cs.toArray t)) size (some ⟨w.heap.size, 0, none⟩) n cs := ⟨hl, fun _ => ⟨_, 0, rfl, (Blk.new w t cs).range⟩⟩
theorem rd_new_drew (w : World) (cs : List Value) (t size n : Nat) (hl : cs.length = n * size) : Rd (w.alloc (.cells cs.toArray t)).drew size (some ⟨w.heap.size, 0, none⟩) n cs := rd_new w cs t size n hl
end Go.Proofs.YtmajnoefddbflaaDoor
