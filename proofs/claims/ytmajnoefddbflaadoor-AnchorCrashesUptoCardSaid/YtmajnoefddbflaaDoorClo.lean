/- slices.Clone and bytes.Clone: a slice of the call's own with the same cells. -/
import Derived.Test.YtmajnoefddbflaaDoorProg
import Derived.Test.YtmajnoefddbflaaDoorL4
import Derived.WalkKit
import Derived.WalkSpells
import Derived.Lib.Hide
import Derived.KernelRfl
namespace Go.Proofs.YtmajnoefddbflaaDoor
open Go.RowKit

/-- what a function leaves that hands back a slice of its own -/
def NewS (w w' : World) (e size n : Nat) (xs : List Value) (v : Value) : Prop :=
  ∃ A c, v = .slice A n c ∧ Own w' e size A n c xs ∧ Below w.heap.size w w' ∧ ∀ b, bl A = some b → w.heap.size ≤ b

theorem appBytes : AppT Tryd.prog 55 5 1 1 := AppT.mk' Tryd.underlying55 (by kernel_rfl) (by decide) (by decide)
set_option maxRecDepth 100000 in
set_option maxHeartbeats 400000 in
theorem bytesClone_any (A : Option Addr) (n c : Nat) (xs : List Value) (w : World) (hr : Rd w 1 A n xs) (h1 : ∀ u ∈ xs, u.oneCell' = true) (hb : n ≤ 1048576) :
    Calls Tryd.prog 65 #[.slice A n c] w fun e w' => ∃ v, e = .returned v ∧ NewS w w' 5 1 n xs v := by
  have hnil := fun w0 => Lib.run_eql_slice_nil (P := Tryd.prog) w0 55 5 A n c 0 0 Tryd.underlying55
  cases A with
  | none =>
    go_enter Tryd.func65, Tryd.ntmps65
    go_wp2
    go_ret
    have h0 : n = 0 := by
      rcases Nat.eq_zero_or_pos n with h | h
      · exact h
      · obtain ⟨b, o, e, _⟩ := hr.2 h; cases e
    subst h0
    have hx : xs = [] := List.eq_nil_of_length_eq_zero (by simpa using hr.1)
    subst hx
    exact ⟨_, rfl, none, 0, rfl, Own.nil _ _ _, Below.refl _ _, fun b h => by cases h⟩
  | some a =>
    have hr' : Rd (w.alloc (.cells #[] 5)) 1 (some a) n xs := hr.frm ((Frm.refl (fun _ => False) w).alloc _) fun _ _ h => h
    have ho : Own (w.alloc (.cells #[] 5)) 5 1 (some ⟨w.heap.size, 0, none⟩) 0 0 [] := Own.of_blk (Blk.new w 5 []) 0 rfl (by decide)
    have H1 := Lib.hid hr'
    have H2 := Lib.hid h1
    clear hr' h1 hr
    go_enter Tryd.func65, Tryd.ntmps65
    go_wp2_with (at_builtin; refine list_app rfl appBytes rfl rfl rfl ho H1.out H2.out (by omega) ?_; intro A' c' w1 hown hf hat)
    go_ret
    refine ⟨_, rfl, A', c', by simp, by simpa using hown, Frm.below_of ((Below.refl _ _).alloc (Nat.le_refl _) _) hf (fun b h => by simp [bl] at h; omega), fun b hb => ?_⟩
    rcases hat with e | e
    · rw [e] at hb; simp [bl] at hb; omega
    · rw [e] at hb; simp at hb; omega
theorem appRecords : AppT Tryd.prog 22 29 36 96 := AppT.mk' Tryd.underlying22 (by kernel_rfl) (by decide) (by decide)
set_option maxRecDepth 100000 in
set_option maxHeartbeats 400000 in
theorem cloneRecord_any (A : Option Addr) (n c : Nat) (xs : List Value) (w : World) (hr : Rd w 36 A n xs) (h1 : ∀ u ∈ xs, u.oneCell' = true) (hb : n ≤ 1048576) :
    Calls Tryd.prog 27 #[.slice A n c] w fun e w' => ∃ v, e = .returned v ∧ NewS w w' 29 36 n xs v := by
  have hnil := fun w0 => Lib.run_eql_slice_nil (P := Tryd.prog) w0 22 29 A n c 0 0 Tryd.underlying22
  cases A with
  | none =>
    go_enter Tryd.func27, Tryd.ntmps27
    go_wp2
    go_ret
    have h0 : n = 0 := by
      rcases Nat.eq_zero_or_pos n with h | h
      · exact h
      · obtain ⟨b, o, e, _⟩ := hr.2 h; cases e
    subst h0
    have hx : xs = [] := List.eq_nil_of_length_eq_zero (by simpa using hr.1)
    subst hx
    exact ⟨_, rfl, none, 0, rfl, Own.nil _ _ _, Below.refl _ _, fun b h => by cases h⟩
  | some a =>
    have hr' : Rd (w.alloc (.cells #[] 29)) 36 (some a) n xs := hr.frm ((Frm.refl (fun _ => False) w).alloc _) fun _ _ h => h
    have ho : Own (w.alloc (.cells #[] 29)) 29 36 (some ⟨w.heap.size, 0, none⟩) 0 0 [] := Own.of_blk (Blk.new w 29 []) 0 rfl (by decide)
    have H1 := Lib.hid hr'
    have H2 := Lib.hid h1
    clear hr' h1 hr
    go_enter Tryd.func27, Tryd.ntmps27
    go_wp2_with (at_builtin; refine list_app rfl appRecords rfl rfl rfl ho H1.out H2.out (by omega) ?_; intro A' c' w1 hown hf hat)
    go_ret
    refine ⟨_, rfl, A', c', by simp, by simpa using hown, Frm.below_of ((Below.refl _ _).alloc (Nat.le_refl _) _) hf (fun b h => by simp [bl] at h; omega), fun b hb => ?_⟩
    rcases hat with e | e
    · rw [e] at hb; simp [bl] at hb; omega
    · rw [e] at hb; simp at hb; omega
theorem appHashes : AppT Tryd.prog 71 25 32 32 := AppT.mk' Tryd.underlying71 (by kernel_rfl) (by decide) (by decide)
set_option maxRecDepth 100000 in
set_option maxHeartbeats 400000 in
theorem cloneHash_any (A : Option Addr) (n c : Nat) (xs : List Value) (w : World) (hr : Rd w 32 A n xs) (h1 : ∀ u ∈ xs, u.oneCell' = true) (hb : n ≤ 1048576) :
    Calls Tryd.prog 28 #[.slice A n c] w fun e w' => ∃ v, e = .returned v ∧ NewS w w' 25 32 n xs v := by
  have hnil := fun w0 => Lib.run_eql_slice_nil (P := Tryd.prog) w0 71 25 A n c 0 0 Tryd.underlying71
  cases A with
  | none =>
    go_enter Tryd.func28, Tryd.ntmps28
    go_wp2
    go_ret
    have h0 : n = 0 := by
      rcases Nat.eq_zero_or_pos n with h | h
      · exact h
      · obtain ⟨b, o, e, _⟩ := hr.2 h; cases e
    subst h0
    have hx : xs = [] := List.eq_nil_of_length_eq_zero (by simpa using hr.1)
    subst hx
    exact ⟨_, rfl, none, 0, rfl, Own.nil _ _ _, Below.refl _ _, fun b h => by cases h⟩
  | some a =>
    have hr' : Rd (w.alloc (.cells #[] 25)) 32 (some a) n xs := hr.frm ((Frm.refl (fun _ => False) w).alloc _) fun _ _ h => h
    have ho : Own (w.alloc (.cells #[] 25)) 25 32 (some ⟨w.heap.size, 0, none⟩) 0 0 [] := Own.of_blk (Blk.new w 25 []) 0 rfl (by decide)
    have H1 := Lib.hid hr'
    have H2 := Lib.hid h1
    clear hr' h1 hr
    go_enter Tryd.func28, Tryd.ntmps28
    go_wp2_with (at_builtin; refine list_app rfl appHashes rfl rfl rfl ho H1.out H2.out (by omega) ?_; intro A' c' w1 hown hf hat)
    go_ret
    refine ⟨_, rfl, A', c', by simp, by simpa using hown, Frm.below_of ((Below.refl _ _).alloc (Nat.le_refl _) _) hf (fun b h => by simp [bl] at h; omega), fun b hb => ?_⟩
    rcases hat with e | e
    · rw [e] at hb; simp [bl] at hb; omega
    · rw [e] at hb; simp at hb; omega
theorem appItems : AppT Tryd.prog 23 68 37 88 := AppT.mk' Tryd.underlying23 (by kernel_rfl) (by decide) (by decide)
set_option maxRecDepth 100000 in
set_option maxHeartbeats 400000 in
theorem cloneItem_any (A : Option Addr) (n c : Nat) (xs : List Value) (w : World) (hr : Rd w 37 A n xs) (h1 : ∀ u ∈ xs, u.oneCell' = true) (hb : n ≤ 1048576) :
    Calls Tryd.prog 53 #[.slice A n c] w fun e w' => ∃ v, e = .returned v ∧ NewS w w' 68 37 n xs v := by
  have hnil := fun w0 => Lib.run_eql_slice_nil (P := Tryd.prog) w0 23 68 A n c 0 0 Tryd.underlying23
  cases A with
  | none =>
    go_enter Tryd.func53, Tryd.ntmps53
    go_wp2
    go_ret
    have h0 : n = 0 := by
      rcases Nat.eq_zero_or_pos n with h | h
      · exact h
      · obtain ⟨b, o, e, _⟩ := hr.2 h; cases e
    subst h0
    have hx : xs = [] := List.eq_nil_of_length_eq_zero (by simpa using hr.1)
    subst hx
    exact ⟨_, rfl, none, 0, rfl, Own.nil _ _ _, Below.refl _ _, fun b h => by cases h⟩
  | some a =>
    have hr' : Rd (w.alloc (.cells #[] 68)) 37 (some a) n xs := hr.frm ((Frm.refl (fun _ => False) w).alloc _) fun _ _ h => h
    have ho : Own (w.alloc (.cells #[] 68)) 68 37 (some ⟨w.heap.size, 0, none⟩) 0 0 [] := Own.of_blk (Blk.new w 68 []) 0 rfl (by decide)
    have H1 := Lib.hid hr'
    have H2 := Lib.hid h1
    clear hr' h1 hr
    go_enter Tryd.func53, Tryd.ntmps53
    go_wp2_with (at_builtin; refine list_app rfl appItems rfl rfl rfl ho H1.out H2.out (by omega) ?_; intro A' c' w1 hown hf hat)
    go_ret
    refine ⟨_, rfl, A', c', by simp, by simpa using hown, Frm.below_of ((Below.refl _ _).alloc (Nat.le_refl _) _) hf (fun b h => by simp [bl] at h; omega), fun b hb => ?_⟩
    rcases hat with e | e
    · rw [e] at hb; simp [bl] at hb; omega
    · rw [e] at hb; simp at hb; omega
end Go.Proofs.YtmajnoefddbflaaDoor
