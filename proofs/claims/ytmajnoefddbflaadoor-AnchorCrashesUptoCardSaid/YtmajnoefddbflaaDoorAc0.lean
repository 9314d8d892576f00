/- The Anchor laws: what their memory holds, and the histories' methods in its words. -/
import Derived.Test.YtmajnoefddbflaaDoorProg
import Derived.Test.YtmajnoefddbflaaDoorAwk
import Derived.Test.YtmajnoefddbflaaDoorHcp
import Derived.WalkKit
namespace Go.Proofs.YtmajnoefddbflaaDoor
open Go.RowKit

theorem Mrk.beq_self (m : Mrk) : m.beq m = true := by simp [Mrk.beq]
theorem Mrk.eq_of_beq {m k : Mrk} (h : m.beq k = true) : m = k := by
  obtain ⟨c, t, ht⟩ := m
  obtain ⟨c', t', ht'⟩ := k
  simp [Mrk.beq] at h
  obtain ⟨rfl, rfl⟩ := h
  rfl
theorem topOf_len {hs : List (List Int)} (h : ∀ x ∈ hs, x.length = 32) : (topOf hs).length = 32 := by
  unfold topOf
  cases hc : hs.getLast? with
  | none => simp
  | some x => exact h x (List.mem_of_getLast? hc)
def Mk (m : Mrk) (rs : List Rec) (hs : List (List Int)) : Prop := m.count = rs.length ∧ m.top = topOf hs
theorem Mk.of {rs : List Rec} {hs : List (List Int)} (h : (topOf hs).length = 32) : ∃ m, Mk m rs hs := ⟨⟨rs.length, topOf hs, h⟩, rfl, rfl⟩
theorem Mk.eq {m k : Mrk} {rs : List Rec} {hs : List (List Int)} (h : Mk m rs hs) (h' : Mk k rs hs) : m = k := by
  obtain ⟨c, t, ht⟩ := m
  obtain ⟨c', t', ht'⟩ := k
  obtain ⟨h1, h2⟩ := h
  obtain ⟨h3, h4⟩ := h'
  simp only at h1 h2 h3 h4
  subst h1 h2 h3 h4
  rfl
theorem Mk.next {m : Mrk} {rs : List Rec} {hs : List (List Int)} (h : Mk m rs hs) (r : Rec) (l : List Int) {t : List Int} (ht : t.length = 32) (e : t = topOf (hs ++ [l])) : Mk ⟨m.count + 1, t, ht⟩ (rs ++ [r]) (hs ++ [l]) := ⟨by simp [h.1], e⟩
theorem Blk.ne {w : World} {g k t u : Nat} {cs ds : List Value} (h : Blk w g t cs) (h' : Blk w k u ds) (hne : t ≠ u) : g ≠ k := by
  rintro rfl
  unfold Blk at h h'
  rw [h] at h'
  injection h' with h'
  injection h' with _ ht
  exact hne ht
theorem safe_reg {B0 : Nat} {w : World} {g : Nat} {m n : Mrk} {b : Bool} (h : RegV w g m n b) (hg : B0 ≤ g) : Safe B0 w (fun k => k = g) := by
  rintro k _ rfl (hi | hi)
  · omega
  · exact blk_notItem h (by decide) hi
theorem safe_box {B0 : Nat} {w : World} {g : Nat} {cs : List Value} (h : Blk w g 29 cs) (hg : B0 ≤ g) : Safe B0 w (fun k => k = g) := by
  rintro k _ rfl (hi | hi)
  · omega
  · exact blk_notItem h (by decide) hi
theorem safe_or {B0 : Nat} {w : World} {F G : Nat → Prop} (h : Safe B0 w F) (h' : Safe B0 w G) : Safe B0 w (fun k => F k ∨ G k) := fun k hk hF => by
  rcases hF with hF | hF
  · exact h k hk hF
  · exact h' k hk hF
theorem safe_new {B0 N : Nat} {w : World} (h : ∀ k, Imm B0 w k → k < N) : Safe B0 w (fun k => N ≤ k) := fun k _ hF hi => by have := h k hi; omega
/-- what an Anchor law is handed, with the tables it needs -/
structure AcS (S : Sha) (B0 : Nat) (A0 : Option Addr) (n : Nat) (css : List (List Value)) (rs : List Rec) (w : World) : Prop where
  ctx : Ctx S w
  glb : ∀ k, shaF k ∨ k = 5 → k < B0
  rd : Rd w 36 A0 n css.flatten
  old : 0 < n → ∀ b, bl A0 = some b → b < B0
  rv : RecsV B0 w css rs
  sz : B0 ≤ w.heap.size
theorem AcS.frm {S : Sha} {B0 : Nat} {A0 : Option Addr} {n : Nat} {css : List (List Value)} {rs : List Rec} {w w' : World} {F : Nat → Prop} (h : AcS S B0 A0 n css rs w) (hf : Frm F w w') (hs : Safe B0 w F) : AcS S B0 A0 n css rs w' := by
  have hF : ∀ k, k < B0 → ¬ F k := fun k hk hF => hs k (Nat.lt_of_lt_of_le hk h.sz) hF (.inl hk)
  exact ⟨⟨h.ctx.sha.frm hf fun k hk => hF k (h.glb k (.inl hk)), h.ctx.pow.frm hf (hF _ (h.glb _ (.inr rfl)))⟩, h.glb, h.rd.frm0 hf fun hn b hb => hF b (h.old hn b hb), h.old, h.rv.frm hf hs, Nat.le_trans h.sz hf.size⟩
theorem RecV.before {B0 : Nat} {w : World} {v1 v2 v : Value} {r : Rec} {l : List Itm} (h : RecV B0 w (recCells r.kind v1 v2 r.head) r) (hv : ItV B0 w v l) : RecV B0 w ((recCells r.kind v1 v2 r.head).set 1 v) { r with before := l } := by
  obtain ⟨u1, u2, e, h1, h2⟩ := h
  simp [recCells] at e
  obtain ⟨rfl, rfl⟩ := e
  exact ⟨v, v2, rfl, hv, h2⟩
section
variable {B0 : Nat} {w w' : World} {g gr : Nat} {A : Option Addr} {c : Nat} {B : Option Addr} {d : Nat} {rs : List Rec} {hs : List (List Int)} {m n : Mrk} {b : Bool}
theorem HistV.ne_reg (h : HistV B0 w g A c B d rs hs) (hR : RegV w gr m n b) : ∀ k, HistF g A B k → k ≠ gr := by
  obtain ⟨css, ho, _⟩ := h.recs
  rintro k (rfl | hk | hk)
  · exact h.blk.ne hR (by decide)
  · rintro rfl; exact ho.ne_blk hR (by decide) hk
  · rintro rfl; exact h.chain.ne_blk hR (by decide) hk
theorem HistV.reg (h : HistV B0 w g A c B d rs hs) (hR : RegV w gr m n b) (hg : B0 ≤ gr) (hf : Frm (fun k => k = gr) w w') : HistV B0 w' g A c B d rs hs :=
  h.frm hf (safe_reg hR hg) fun k hk e => h.ne_reg hR k hk e
theorem HistV.top32 (h : HistV B0 w g A c B d rs hs) : (topOf hs).length = 32 := topOf_len h.h32
theorem HistV.new (h : HistV B0 w g A c B d rs hs) {A' B' : Option Addr} {N : Nat} (hN : N ≤ w.heap.size) (hH : ∀ k, HistF g A B k → N ≤ k) (hA : Kept w A A') (hB : Kept w B B') : ∀ k, HistF g A' B' k → N ≤ k := by
  rintro k (rfl | hk | hk)
  · exact hH k (.inl rfl)
  · rcases hA with e | ⟨x, e, hx⟩
    · exact hH k (.inr (.inl (e ▸ hk)))
    · rw [e] at hk; injection hk with hk; omega
  · rcases hB with e | ⟨x, e, hx⟩
    · exact hH k (.inr (.inr (e ▸ hk)))
    · rw [e] at hk; injection hk with hk; omega
end
/-- the second loop's state: k records of the list are behind us -/
structure AcL (S : Sha) (B0 : Nat) (A0 : Option Addr) (n : Nat) (css : List (List Value)) (rs : List Rec) (cs : List Value) (r : Rec) (w0 : World) (gr g k : Nat) (w : World) : Prop where
  s : AcS S B0 A0 n css rs w
  box : Blk w B0 29 cs
  rcd : RecV B0 w cs r
  bel : Below B0 w0 w
  rB : B0 < gr
  st : ∃ A c B d rs' hs', ∃ m, HistV B0 w g A c B d rs' hs' ∧ RegV w gr m Mrk.zero false ∧ Mk m rs' hs' ∧ rs'.length ≤ k ∧ ∀ k, HistF g A B k → B0 < k
theorem AcL.quiet {S : Sha} {B0 : Nat} {A0 : Option Addr} {n : Nat} {css : List (List Value)} {rs : List Rec} {cs : List Value} {r : Rec} {w0 : World} {gr g k k' : Nat} {w w' : World} (h : AcL S B0 A0 n css rs cs r w0 gr g k w) (hf : Frm (fun _ => False) w w') (hk : k ≤ k') : AcL S B0 A0 n css rs cs r w0 gr g k' w' := by
  obtain ⟨A, c, B, d, rs', hs', m, hH, hR, hm, hl, hF⟩ := h.st
  refine ⟨h.s.frm hf (safe_false _ _), h.box.frm hf (fun h => h), h.rcd.frm hf (safe_false _ _), ?_, h.rB, A, c, B, d, rs', hs', m, hH.quiet hf, hR.frm hf (fun h => h), hm, by omega, hF⟩
  exact ⟨hf.os.trans h.bel.os, hf.tape.trans h.bel.tape, hf.output.trans h.bel.output, Nat.le_trans h.bel.size hf.size, fun b hb => (hf.block b (Nat.lt_of_lt_of_le hb h.s.sz) (fun h => h)).trans (h.bel.block b hb)⟩
theorem ac_copy (B0 g : Nat) (A : Option Addr) (c : Nat) (B : Option Addr) (d : Nat) (rs : List Rec) (hs : List (List Int)) (w : World) (h : HistV B0 w g A c B d rs hs) (hB0 : B0 ≤ w.heap.size) :
    Calls Tryd.prog 9 #[.pointer (some ⟨g, 0, none⟩)] w fun e w' => ∃ g' A' c' B' d', e = .returned (.pointer (some ⟨g', 0, none⟩)) ∧ HistV B0 w' g' A' c' B' d' rs hs ∧ (∀ k, HistF g' A' B' k → w.heap.size ≤ k) ∧ Below w.heap.size w w' := by
  obtain ⟨css, ho, hv⟩ := h.recs
  have hn := h.n
  refine (histCopy_any g A rs.length c css.flatten B rs.length d (hrow hs) w h.blk ho.rd hv.one (by omega) h.chain.rd (fun u hu => by obtain ⟨x, _, hx⟩ := List.mem_flatMap.1 hu; exact nums_one u hx) (by omega)).mono ?_
  rintro e w' ⟨g', v1, v2, rfl, hg, hb, ⟨A', c', rfl, o1, n1⟩, ⟨B', d', rfl, o2, n2⟩, hbl⟩
  have hf := Frm.of_below hbl (fun _ => False)
  refine ⟨g', A', c', B', d', rfl, ⟨hb, ⟨css, o1, hv.frm hf (safe_false _ _)⟩, o2, h.hl, h.h32, h.n, by omega, fun b hb => by have := n1 b hb; omega, fun b hb => by have := n2 b hb; omega⟩, ?_, hbl⟩
  rintro k (rfl | hk | hk)
  · exact hg
  · exact n1 k hk
  · exact n2 k hk
theorem ac_append (S : Sha) (B0 g : Nat) (A : Option Addr) (c : Nat) (B : Option Addr) (d : Nat) (rs : List Rec) (hs : List (List Int)) (r : Rec) (cs : List Value) (w : World) (hC : Ctx S w) (hH : HistV B0 w g A c B d rs hs) (hr : RecV B0 w cs r) (hlen : rs.length < 4096) :
    Calls Tryd.prog 10 #[.pointer (some ⟨g, 0, none⟩), .agg cs.toArray] w fun e w' => AppPost S B0 w w' g A B rs hs r e := by
  obtain ⟨v1, v2, rfl, h1, h2⟩ := hr
  exact append_any S B0 g A c B d rs hs r v1 v2 w hC hH h1 h2 hlen
theorem ac_top (B0 g : Nat) (A : Option Addr) (c : Nat) (B : Option Addr) (d : Nat) (rs : List Rec) (hs : List (List Int)) (w : World) (h : HistV B0 w g A c B d rs hs) :
    Calls Tryd.prog 12 #[.pointer (some ⟨g, 0, none⟩)] w fun e w' => e = .returned (hashV (topOf hs)) ∧ Below w.heap.size w w' := by
  have hn := h.n
  exact histTop_any g _ B rs.length d hs w h.blk h.chain.rd h.hl h.h32 (by omega)
end Go.Proofs.YtmajnoefddbflaaDoor
