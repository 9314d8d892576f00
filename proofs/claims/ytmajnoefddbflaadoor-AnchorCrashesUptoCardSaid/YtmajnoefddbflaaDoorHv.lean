/- history.History as data: what its memory holds; what writes leave it alone. -/
import Derived.Test.YtmajnoefddbflaaDoorProg
import Derived.Test.YtmajnoefddbflaaDoorCpd
import Derived.Test.YtmajnoefddbflaaDoorHis
import Derived.WalkKit
namespace Go.Proofs.YtmajnoefddbflaaDoor
open Go.RowKit

/-- a block that no write here meets: older than B0, or a row of items -/
def Imm (B0 : Nat) (w : World) (b : Nat) : Prop := b < B0 ∨ ∃ cs fz, w.heap[b]? = some (.cells cs 68 fz)
/-- what is written is newer than B0, and no row of items -/
def Safe (B0 : Nat) (w : World) (F : Nat → Prop) : Prop := ∀ k, k < w.heap.size → F k → ¬ Imm B0 w k
theorem safe_false (B0 : Nat) (w : World) : Safe B0 w (fun _ => False) := fun _ _ h => h.elim
theorem Imm.frm {B0 : Nat} {w w' : World} {F : Nat → Prop} {b : Nat} (h : Imm B0 w b) (hb : b < w.heap.size) (hf : Frm F w w') (hs : Safe B0 w F) : Imm B0 w' b := by
  rcases h with h | ⟨cs, fz, h⟩
  · exact .inl h
  · exact .inr ⟨cs, fz, by rw [hf.block b hb fun hF => hs b hb hF (.inr ⟨cs, fz, h⟩)]; exact h⟩
theorem Rd.frm0 {F : Nat → Prop} {w w' : World} {size n : Nat} {A : Option Addr} {xs : List Value} (h : Rd w size A n xs) (hf : Frm F w w') (hb : 0 < n → ∀ b, bl A = some b → ¬ F b) : Rd w' size A n xs :=
  ⟨h.1, fun hn => by
    obtain ⟨b, o, rfl, hr⟩ := h.2 hn
    exact ⟨b, o, rfl, range_frm hr hf (hb hn b rfl)⟩⟩
/-- a slice of items that stays as it is -/
structure ItV (B0 : Nat) (w : World) (v : Value) (l : List Itm) : Prop where
  it : ∃ A c, v = .slice A l.length c ∧ ItS w A l.length l ∧ (0 < l.length → ∀ b, bl A = some b → Imm B0 w b ∧ b < w.heap.size)
theorem ItV.frm {B0 : Nat} {w w' : World} {F : Nat → Prop} {v : Value} {l : List Itm} (h : ItV B0 w v l) (hf : Frm F w w') (hs : Safe B0 w F) : ItV B0 w' v l := by
  obtain ⟨A, c, e, hi, hb⟩ := h
  exact ⟨A, c, e, ⟨hi.1.frm0 hf fun hn b e hF => hs b (hb hn b e).2 hF (hb hn b e).1, hi.2⟩, fun hn b e => ⟨(hb hn b e).1.frm (hb hn b e).2 hf hs, Nat.lt_of_lt_of_le (hb hn b e).2 hf.size⟩⟩
theorem ItV.nil (B0 : Nat) (w : World) : ItV B0 w (.slice none 0 0) [] := ⟨none, 0, rfl, ⟨Rd.nil _ _ _, rfl, by simp⟩, fun h => absurd h (by simp)⟩
theorem row_length (l : List Itm) : (row l).length = l.length * 37 := by
  induction l with
  | nil => rfl
  | cons x l ih => rw [row, List.flatMap_cons, List.length_append, Itm.cells_length]; show 37 + (row l).length = _; rw [ih, List.length_cons]; omega
theorem Mine.itv {B0 B1 : Nat} {w : World} {n : Nat} {l : List Itm} {v : Value} (h : Mine B1 w 68 37 n (row l) v) (hn : n ≤ 1048576) : ItV B0 w v l := by
  obtain ⟨A, c, e, ho, hb⟩ := h
  have hl : l.length = n := by have := ho.len; rw [row_length] at this; omega
  subst hl
  refine ⟨A, c, e, ⟨ho.rd, rfl, hn⟩, fun hn b hb' => ⟨.inr ?_, ho.lt b hb'⟩⟩
  rcases ho.2 with ⟨e1, h0⟩ | ⟨g, cap, cur, e1, _, hg, _⟩
  · omega
  · injection e1 with e1; subst e1
    have : g = b := by simpa [bl] using hb'
    subst this
    exact ⟨_, _, hg⟩
/-- a record's cells -/
structure RecV (B0 : Nat) (w : World) (cs : List Value) (r : Rec) : Prop where
  rv : ∃ v1 v2, cs = recCells r.kind v1 v2 r.head ∧ ItV B0 w v1 r.before ∧ ItV B0 w v2 r.after
theorem RecV.frm {B0 : Nat} {w w' : World} {F : Nat → Prop} {cs : List Value} {r : Rec} (h : RecV B0 w cs r) (hf : Frm F w w') (hs : Safe B0 w F) : RecV B0 w' cs r := by
  obtain ⟨v1, v2, e, h1, h2⟩ := h
  exact ⟨v1, v2, e, h1.frm hf hs, h2.frm hf hs⟩
theorem RecV.length {B0 : Nat} {w : World} {cs : List Value} {r : Rec} (h : RecV B0 w cs r) : cs.length = 36 := by
  obtain ⟨v1, v2, e, h1, h2⟩ := h; rw [e]; exact recCells_length ..
theorem ItV.one {B0 : Nat} {w : World} {v : Value} {l : List Itm} (h : ItV B0 w v l) : v.oneCell' = true := by obtain ⟨A, c, e, _⟩ := h; rw [e]; rfl
theorem RecV.one {B0 : Nat} {w : World} {cs : List Value} {r : Rec} (h : RecV B0 w cs r) : ∀ v ∈ cs, v.oneCell' = true := by
  obtain ⟨v1, v2, e, h1, h2⟩ := h; rw [e]; exact recCells_one _ _ _ _ h1.one h2.one
/-- records' cells, one behind the other -/
inductive RecsV (B0 : Nat) (w : World) : List (List Value) → List Rec → Prop where
  | nil : RecsV B0 w [] []
  | cons {cs : List Value} {r : Rec} {css : List (List Value)} {rs : List Rec} : RecV B0 w cs r → RecsV B0 w css rs → RecsV B0 w (cs :: css) (r :: rs)
theorem RecsV.frm {B0 : Nat} {w w' : World} {F : Nat → Prop} {css : List (List Value)} {rs : List Rec} (h : RecsV B0 w css rs) (hf : Frm F w w') (hs : Safe B0 w F) : RecsV B0 w' css rs := by
  induction h with
  | nil => exact .nil
  | cons h _ ih => exact .cons (h.frm hf hs) ih
theorem RecsV.len {B0 : Nat} {w : World} {css : List (List Value)} {rs : List Rec} (h : RecsV B0 w css rs) : css.length = rs.length := by
  induction h with
  | nil => rfl
  | cons _ _ ih => simp [ih]
theorem RecsV.get {B0 : Nat} {w : World} {css : List (List Value)} {rs : List Rec} (h : RecsV B0 w css rs) : ∀ k (h1 : k < css.length) (h2 : k < rs.length), RecV B0 w css[k] rs[k] := by
  induction h with
  | nil => intro k h1; cases h1
  | cons h0 _ ih =>
    intro k h1 h2
    cases k with
    | zero => exact h0
    | succ k => exact ih k (by simpa using h1) (by simpa using h2)
theorem RecsV.snoc {B0 : Nat} {w : World} {css : List (List Value)} {rs : List Rec} {cs : List Value} {r : Rec} (h : RecsV B0 w css rs) (h1 : RecV B0 w cs r) : RecsV B0 w (css ++ [cs]) (rs ++ [r]) := by
  induction h with
  | nil => exact .cons h1 .nil
  | cons h0 _ ih => exact .cons h0 ih
theorem RecsV.all36 {B0 : Nat} {w : World} {css : List (List Value)} {rs : List Rec} (h : RecsV B0 w css rs) : ∀ cs ∈ css, cs.length = 36 := by
  induction h with
  | nil => intro cs h; cases h
  | cons h0 _ ih =>
    intro cs h
    rcases List.mem_cons.1 h with rfl | h
    · exact h0.length
    · exact ih cs h
theorem RecsV.one {B0 : Nat} {w : World} {css : List (List Value)} {rs : List Rec} (h : RecsV B0 w css rs) : ∀ v ∈ css.flatten, v.oneCell' = true := by
  induction h with
  | nil => intro v h; cases h
  | cons h0 _ ih =>
    intro v h
    rw [List.flatten_cons, List.mem_append] at h
    rcases h with h | h
    · exact h0.one v h
    · exact ih v h
/-- a history at block g: its records' row, its chain's row -/
structure HistV (B0 : Nat) (w : World) (g : Nat) (A : Option Addr) (c : Nat) (B : Option Addr) (d : Nat) (rs : List Rec) (hs : List (List Int)) : Prop where
  blk : Blk w g 73 [.slice A rs.length c, .slice B rs.length d]
  recs : ∃ css, Own w 29 36 A rs.length c css.flatten ∧ RecsV B0 w css rs
  chain : Own w 25 32 B rs.length d (hrow hs)
  hl : hs.length = rs.length
  h32 : ∀ h ∈ hs, h.length = 32
  n : rs.length ≤ 4096
  gB : B0 ≤ g
  aB : ∀ b, bl A = some b → B0 ≤ b
  bB : ∀ b, bl B = some b → B0 ≤ b
def HistF (g : Nat) (A B : Option Addr) : Nat → Prop := fun k => k = g ∨ bl A = some k ∨ bl B = some k
section
variable {B0 : Nat} {w w' : World} {g : Nat} {A : Option Addr} {c : Nat} {B : Option Addr} {d : Nat} {rs : List Rec} {hs : List (List Int)}
theorem own_notItem {e size n c : Nat} {A : Option Addr} {xs : List Value} (h : Own w e size A n c xs) (hne : e ≠ 68) {b : Nat} (hb : bl A = some b) : ¬ ∃ cs fz, w.heap[b]? = some (.cells cs 68 fz) := by
  rintro ⟨cs, fz, hc⟩
  rcases h.2 with ⟨e1, h0⟩ | ⟨g, cap, cur, e1, _, hg, _⟩
  · injection e1 with e1; subst e1; cases hb
  · injection e1 with e1; subst e1
    have : g = b := by simpa [bl] using hb
    subst this
    rw [hg] at hc
    injection hc with hc
    injection hc with _ ht
    exact hne ht
theorem blk_notItem {t : Nat} {cs : List Value} (h : Blk w g t cs) (hne : t ≠ 68) : ¬ ∃ cs fz, w.heap[g]? = some (.cells cs 68 fz) := by
  rintro ⟨cs', fz, hc⟩
  unfold Blk at h
  rw [h] at hc
  injection hc with hc
  injection hc with _ ht
  exact hne ht
theorem HistV.safe (h : HistV B0 w g A c B d rs hs) : Safe B0 w (HistF g A B) := by
  obtain ⟨css, ho, _⟩ := h.recs
  intro k hk hF
  rintro (hi | hi)
  · rcases hF with rfl | hF | hF
    · have := h.gB; omega
    · have := h.aB k hF; omega
    · have := h.bB k hF; omega
  · rcases hF with rfl | hF | hF
    · exact blk_notItem h.blk (by decide) hi
    · exact own_notItem ho (by decide) hF hi
    · exact own_notItem h.chain (by decide) hF hi
theorem HistV.frm {F : Nat → Prop} (h : HistV B0 w g A c B d rs hs) (hf : Frm F w w') (hs' : Safe B0 w F) (hF : ∀ k, HistF g A B k → ¬ F k) : HistV B0 w' g A c B d rs hs := by
  obtain ⟨css, ho, hr⟩ := h.recs
  exact ⟨h.blk.frm hf (hF g (.inl rfl)), ⟨css, ho.frm hf (fun b hb => hF b (.inr (.inl hb))), hr.frm hf hs'⟩, h.chain.frm hf (fun b hb => hF b (.inr (.inr hb))), h.hl, h.h32, h.n, h.gB, h.aB, h.bB⟩
theorem HistV.quiet (h : HistV B0 w g A c B d rs hs) (hf : Frm (fun _ => False) w w') : HistV B0 w' g A c B d rs hs := h.frm hf (safe_false _ _) fun _ _ h => h
theorem HistV.apart (h : HistV B0 w g A c B d rs hs) : bl A ≠ some g ∧ bl B ≠ some g ∧ ∀ b, bl A = some b → bl B ≠ some b := by
  obtain ⟨css, ho, _⟩ := h.recs
  refine ⟨ho.ne_blk h.blk (by decide), h.chain.ne_blk h.blk (by decide), fun b hb hb' => ?_⟩
  rcases h.chain.2 with ⟨e1, h0⟩ | ⟨g2, cap2, cur2, e2, _, hg2, _⟩
  · injection e1 with e1; subst e1; cases hb'
  · rcases ho.2 with ⟨e1, h0⟩ | ⟨g1, cap, cur, e1, _, hg1, _⟩
    · injection e1 with e1; subst e1; cases hb
    · injection e1 with e1; subst e1
      injection e2 with e2; subst e2
      have h1 : g1 = b := by simpa [bl] using hb
      have h2 : g2 = b := by simpa [bl] using hb'
      subst h1 h2
      rw [hg1] at hg2
      injection hg2 with hg2
      injection hg2 with _ ht
      exact absurd ht (by decide)
theorem HistV.g_lt (h : HistV B0 w g A c B d rs hs) : ∀ k, HistF g A B k → k < w.heap.size := fun k hk => by
  obtain ⟨css, ho, _⟩ := h.recs
  rcases hk with rfl | hk | hk
  · exact h.blk.lt
  · exact ho.lt k hk
  · exact h.chain.lt k hk
end
theorem range_flat {w : World} {b : Nat} : ∀ (css : List (List Value)) (sz : Nat) (_ : ∀ cs ∈ css, cs.length = sz) (o k : Nat) (hk : k < css.length), w.rangeAt b o css.flatten → w.rangeAt b (o + k * sz) css[k]
  | cs :: css, sz, _, o, 0, _, h => fun j v hv => by
    have hj : j < cs.length := (List.getElem?_eq_some_iff.1 hv).1
    have := h j v (by rw [List.flatten_cons, List.getElem?_append_left hj]; exact hv)
    simpa using this
  | cs :: css, sz, hsz, o, k + 1, hk, h => by
    have hx := hsz cs (List.mem_cons_self ..)
    have h2 : w.rangeAt b (o + sz) css.flatten := fun j v hv => by
      have := h (sz + j) v (by rw [List.flatten_cons, List.getElem?_append_right (by rw [hx]; omega), hx, Nat.add_sub_cancel_left]; exact hv)
      rw [Nat.add_assoc]; exact this
    have := range_flat css sz (fun a ha => hsz a (List.mem_cons_of_mem _ ha)) (o + sz) k (by simpa using hk) h2
    rw [show o + (k + 1) * sz = o + sz + k * sz by rw [Nat.add_mul]; omega]
    exact this
theorem results_cell_tmp {P : Program} {fn : Func} {p q : Tmp} {ty : TypeId} (h : fn.results = #[.cell p ty, .tmp q]) (tmps : Array Value) (w : World) {b o : Nat} {cs : List Value} {d : TypeDesc} (hp : tmps.getD p undef = .pointer (some ⟨b, o, none⟩)) (hc : w.rangeAt b o cs)
    (hu : P.underlying ty = some d) (hd : d.isRow = true) (hi : (P.info? ty).map (·.size) = some cs.length) : (results fn tmps).run P w = .ok (.tuple #[.agg cs.toArray, tmps.getD q undef]) w := by
  have hp' : tmps[p]?.getD undef = .pointer (some ⟨b, o, none⟩) := by simpa using hp
  simp [results, h, hp', asAddr, run_loadVar_mid w b o ty cs d hc hu hd hi]
end Go.Proofs.YtmajnoefddbflaaDoor
