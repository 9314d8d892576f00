/- manifest.Name. -/
import Derived.Test.YtmajnoefddbflaaDoorProg
import Derived.Test.YtmajnoefddbflaaDoorVer
import Derived.WalkKit
import Derived.WalkSpells
import Derived.StillTactics
import Derived.Laws.Pointers
import Derived.Lib.Hide
import Derived.KernelRfl
namespace Go.Proofs.YtmajnoefddbflaaDoor
open Go.RowKit

def lower : List UInt8 := [97, 98, 99, 100, 101, 102, 103, 104, 105, 106, 107, 108, 109, 110, 111, 112, 113, 114, 115, 116, 117, 118, 119, 120, 121, 122]
def alnumd : List UInt8 := [97, 98, 99, 100, 101, 102, 103, 104, 105, 106, 107, 108, 109, 110, 111, 112, 113, 114, 115, 116, 117, 118, 119, 120, 121, 122, 48, 49, 50, 51, 52, 53, 54, 55, 56, 57, 45]
def nameOk (s : ByteArray) : Bool := decide (0 < s.size ∧ s.size ≤ 32) && (Lib.trimS s.data.toList alnumd).isEmpty && decide (0 ≤ Lib.indexByte lower (s.data.toList.headD 0))
set_option maxRecDepth 100000 in
set_option maxHeartbeats 800000 in
theorem name_any (s : ByteArray) (w : World) : Calls Tryd.prog 60 #[.string s] w fun e w' => e = .returned (.bool (nameOk s)) ∧ Below w.heap.size w w' := by
  obtain ⟨⟨l⟩⟩ := s
  cases l with
  | nil =>
    go_enter Tryd.func60, Tryd.ntmps60
    go_wp2
    go_ret
    exact ⟨rfl, Below.refl _ _⟩
  | cons x xs =>
    by_cases h32 : (⟨(x :: xs).toArray⟩ : ByteArray).size ≤ 32
    · have h32' : ((⟨(x :: xs).toArray⟩ : ByteArray).size : Int) ≤ 32 := by omega
      go_enter Tryd.func60, Tryd.ntmps60
      go_wp2_with fail
      refine (Tryd.strings_Trim ⟨⟨x :: xs⟩⟩ ⟨alnumd.toArray⟩ _ (Nat.le_trans h32 (by decide)) (by decide) (ascii_of_all (by decide))).mono ?_
      rintro e w2 ⟨rfl, hbel⟩
      obtain ⟨l, hl⟩ : ∃ l, l = Lib.trimS (x :: xs) alnumd := ⟨_, rfl⟩
      rw [show (⟨alnumd.toArray⟩ : ByteArray).data.toList = alnumd from rfl, show (⟨⟨x :: xs⟩⟩ : ByteArray).data.toList = x :: xs from rfl, ← hl]
      have hsz : decide (0 < (⟨⟨x :: xs⟩⟩ : ByteArray).size ∧ (⟨⟨x :: xs⟩⟩ : ByteArray).size ≤ 32) = true := by
        rw [decide_eq_true_iff]; exact ⟨by show 0 < (x :: xs).length; simp, h32⟩
      have hok : nameOk ⟨⟨x :: xs⟩⟩ = (l.isEmpty && decide (0 ≤ Lib.indexByte lower x)) := by
        simp only [nameOk, hsz, Bool.true_and, ← hl, List.headD_cons]
        try rfl
      replace hl := Lib.hid hl
      replace hok := Lib.hid hok
      replace hbel := Lib.hid hbel
      clear hsz
      cases l with
      | nil =>
        go_wp2_with fail
        refine (Tryd.strings_IndexByte ⟨lower.toArray⟩ x.toNat _).mono ?_
        rintro e w3 ⟨rfl, rfl⟩
        rw [show (⟨lower.toArray⟩ : ByteArray).data.toList = lower from rfl, show ((x.toNat : Int).toNat.toUInt8) = x by simp]
        obtain ⟨q, hq⟩ : ∃ q, q = Lib.indexByte lower x := ⟨_, rfl⟩
        rw [← hq]
        replace hq := Lib.hid hq
        go_wp2
        go_ret
        refine ⟨?_, hbel.out⟩
        rw [hok.out, ← hq.out]; rfl
      | cons y ys =>
        go_wp2
        go_ret
        exact ⟨by rw [hok.out]; rfl, hbel.out⟩
    · have h32' : ¬ ((⟨(x :: xs).toArray⟩ : ByteArray).size : Int) ≤ 32 := by omega
      go_enter Tryd.func60, Tryd.ntmps60
      go_wp2
      go_ret
      refine ⟨?_, Below.refl _ _⟩
      show Ending.returned (Value.bool false) = _
      have hno : decide (0 < (⟨⟨x :: xs⟩⟩ : ByteArray).size ∧ (⟨⟨x :: xs⟩⟩ : ByteArray).size ≤ 32) = false := by
        rw [decide_eq_false_iff_not]; exact fun h => h32 h.2
      rw [nameOk, hno]; rfl
end Go.Proofs.YtmajnoefddbflaaDoor
