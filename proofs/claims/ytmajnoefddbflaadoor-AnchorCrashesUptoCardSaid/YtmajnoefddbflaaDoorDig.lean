/- sha: digests. -/
import Derived.Test.YtmajnoefddbflaaDoorProg
import Derived.Test.YtmajnoefddbflaaDoorShb
import Derived.Test.YtmajnoefddbflaaDoorL4
import Derived.Test.YtmajnoefddbflaaDoorClo
import Derived.Test.YtmajnoefddbflaaDoorDat
import Derived.WalkKit
import Derived.WalkSpells
import Derived.StillTactics
import Derived.Laws.Pointers
import Derived.Lib.Hide
import Derived.KernelRfl
namespace Go.Proofs.YtmajnoefddbflaaDoor
open Go.RowKit

/-- the two tables -/
structure Sha where
  tab : List Int
  bg : List Int
  htab : tab.length = 64
  hbg : bg.length = 8
def ShaG (S : Sha) (w : World) : Prop := GTab w 1 .u32 S.tab ∧ GTab w 0 .u32 S.bg
def shaF (k : Nat) : Prop := k = 1 ∨ k = 0
theorem ShaG.frm {S : Sha} {F : Nat → Prop} {w w' : World} (h : ShaG S w) (hf : Frm F w w') (hF : ∀ k, shaF k → ¬ F k) : ShaG S w' := ⟨h.1.frm hf (hF _ (.inl rfl)), h.2.frm hf (hF _ (.inr rfl))⟩
theorem ShaG.lt {S : Sha} {w : World} (h : ShaG S w) : ∀ k, shaF k → k < w.heap.size := fun k hk => by
  rcases hk with rfl | rfl
  · exact h.1.lt (by rw [S.htab]; decide)
  · exact h.2.lt (by rw [S.hbg]; decide)

def stN (S : Sha) (m : List Int) : Nat → List Int
  | 0 => S.bg
  | k + 1 => blockF S.tab (stN S m k) ((m.drop (64 * k)).take 64)
def stOf (S : Sha) (m : List Int) : List Int := stN S m (m.length / 64)
def restOf (m : List Int) : List Int := m.drop (64 * (m.length / 64))
theorem stN_length (S : Sha) (m : List Int) (k : Nat) : (stN S m k).length = 8 := by
  induction k with
  | zero => exact S.hbg
  | succ k ih => rw [stN, blockF_length, ih]
theorem stOf_length (S : Sha) (m : List Int) : (stOf S m).length = 8 := stN_length ..
theorem restOf_length (m : List Int) : (restOf m).length = m.length % 64 := by simp [restOf]; omega
theorem restOf_lt (m : List Int) : (restOf m).length < 64 := by rw [restOf_length]; omega
theorem stN_append (S : Sha) (m vs : List Int) (k : Nat) (h : 64 * k ≤ m.length) : stN S (m ++ vs) k = stN S m k := by
  induction k with
  | zero => rfl
  | succ k ih => rw [stN, stN, ih (by omega), List.drop_append_of_le_length (by omega), List.take_append_of_le_length (by rw [List.length_drop]; omega)]
theorem st_small (S : Sha) (m vs : List Int) (h : (restOf m).length + vs.length < 64) : stOf S (m ++ vs) = stOf S m ∧ restOf (m ++ vs) = restOf m ++ vs := by
  rw [restOf_length] at h
  have e : (m ++ vs).length / 64 = m.length / 64 := by rw [List.length_append]; omega
  refine ⟨?_, ?_⟩
  · rw [stOf, stOf, e, stN_append _ _ _ _ (by omega)]
  · rw [restOf, restOf, e, List.drop_append_of_le_length (by omega)]
theorem st_full (S : Sha) (m vs : List Int) (h : (restOf m).length + vs.length = 64) : stOf S (m ++ vs) = blockF S.tab (stOf S m) (restOf m ++ vs) ∧ restOf (m ++ vs) = [] := by
  have hr := restOf_length m
  have e : (m ++ vs).length / 64 = m.length / 64 + 1 := by rw [List.length_append]; omega
  refine ⟨?_, ?_⟩
  · rw [stOf, stOf, e, stN, stN_append _ _ _ _ (by omega), List.drop_append_of_le_length (by omega), ← restOf, List.take_of_length_le (by rw [List.length_append]; omega)]
  · rw [restOf, e]; exact List.drop_of_length_le (by rw [List.length_append]; omega)

section
variable {w : World} {g t : Nat} {st : List Int} {r l : Value}
theorem dig_c8 (h : Blk w g t (nums .u32 st ++ [r, l])) (hs : st.length = 8) : w.cell? ⟨g, 8, none⟩ = some r := by
  rw [h.cell 8, List.getElem?_append_right (by rw [nums_length]; omega), nums_length, hs]; rfl
theorem dig_c9 (h : Blk w g t (nums .u32 st ++ [r, l])) (hs : st.length = 8) : w.cell? ⟨g, 9, none⟩ = some l := by
  rw [h.cell 9, List.getElem?_append_right (by rw [nums_length]; omega), nums_length, hs]; rfl
theorem dig_s8 (h : Blk w g t (nums .u32 st ++ [r, l])) (hs : st.length = 8) (u : Value) : Blk (w.setCell ⟨g, 8, none⟩ u) g t (nums .u32 st ++ [u, l]) := by
  have := h.set_ 8 u
  rw [List.set_append_right _ _ (by rw [nums_length]; omega), nums_length, hs] at this; exact this
theorem dig_s9 (h : Blk w g t (nums .u32 st ++ [r, l])) (hs : st.length = 8) (u : Value) : Blk (w.setCell ⟨g, 9, none⟩ u) g t (nums .u32 st ++ [r, u]) := by
  have := h.set_ 9 u
  rw [List.set_append_right _ _ (by rw [nums_length]; omega), nums_length, hs] at this; exact this
end
theorem Own.none_ {w : World} {e size n c : Nat} {xs : List Value} {A : Option Addr} (h : Own w e size A n c xs) : Own w e size A 0 c [] := by
  refine ⟨by simp, ?_⟩
  rcases h.2 with ⟨e, _⟩ | ⟨g, cap, cur, e, hb, hg, hn, hc, hs, _⟩
  · injection e with e1 e2 e3; subst e1 e3; exact .inl ⟨rfl, rfl⟩
  · injection e with e1 e2 e3; subst e1 e3; exact .inr ⟨g, c, cur, rfl, hb, hg, by omega, hc, hs, by simp⟩
theorem Own.some_ {w : World} {e size n c : Nat} {xs : List Value} {A : Option Addr} (h : Own w e size A n c xs) (hn : 0 < n) : ∃ b, A = some ⟨b, 0, none⟩ := by
  rcases h.2 with ⟨_, h0⟩ | ⟨g, cap, cur, e, _⟩
  · omega
  · injection e with e1; exact ⟨g, e1⟩
theorem Rd.take {w : World} {n : Nat} {A : Option Addr} {xs : List Value} (h : Rd w 1 A n xs) (k : Nat) (hk : k ≤ n) : Rd w 1 A k (xs.take k) := by
  refine ⟨by have := h.1; simp; omega, fun hn => ?_⟩
  obtain ⟨b', o', e, hr⟩ := h.2 (by omega)
  refine ⟨_, _, e, fun j v hv => hr j v ?_⟩
  have hj : j < k := by have := (List.getElem?_eq_some_iff.1 hv).1; simp at this; omega
  rwa [List.getElem?_take_of_lt hj] at hv
theorem nums_take (k : IntKind) (xs : List Int) (n : Nat) : nums k (xs.take n) = (nums k xs).take n := by simp [nums, List.map_take]

/-- the digest at block g of the bytes m -/
structure DigV (S : Sha) (w : World) (g : Nat) (A : Option Addr) (N c : Nat) (m : List Int) : Prop where
  blk : Blk w g 108 (nums .u32 (stOf S m) ++ [.slice A N c, .int .i64 m.length])
  own : Own w 5 1 A N c (nums .u8 (restOf m))
theorem DigV.len {S : Sha} {w : World} {g : Nat} {A : Option Addr} {N c : Nat} {m : List Int} (h : DigV S w g A N c m) : N = m.length % 64 := by
  have := h.own.len; rw [nums_length, restOf_length] at this; omega
def DigF (g : Nat) (A : Option Addr) : Nat → Prop := fun k => k = g ∨ bl A = some k
theorem DigV.ne {S : Sha} {w : World} {g : Nat} {A : Option Addr} {N c : Nat} {m : List Int} (h : DigV S w g A N c m) : bl A ≠ some g := h.own.ne_blk h.blk (by decide)
theorem DigV.frm {S : Sha} {F : Nat → Prop} {w w' : World} {g : Nat} {A : Option Addr} {N c : Nat} {m : List Int} (h : DigV S w g A N c m) (hf : Frm F w w') (hF : ∀ k, DigF g A k → ¬ F k) : DigV S w' g A N c m :=
  ⟨h.blk.frm hf (hF g (.inl rfl)), h.own.frm hf (fun b hb => hF b (.inr hb))⟩
def DigPost (S : Sha) (w w' : World) (g : Nat) (A : Option Addr) (m : List Int) : Prop :=
  ∃ A' N' c', DigV S w' g A' N' c' m ∧ Frm (DigF g A) w w' ∧ (bl A' = bl A ∨ ∃ b, bl A' = some b ∧ w.heap.size ≤ b)
def lenV : Value → Nat
  | .slice _ n _ => n
  | _ => 0
end Go.Proofs.YtmajnoefddbflaaDoor
