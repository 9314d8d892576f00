/- version.Right, manifest.Name. -/
import Derived.Test.YtmajnoefddbflaaDoorProg
import Derived.Test.YtmajnoefddbflaaDoorShelf
import Derived.Test.YtmajnoefddbflaaDoorL4
import Derived.Test.YtmajnoefddbflaaDoorDat
import Derived.Test.YtmajnoefddbflaaDoorItd
import Derived.WalkKit
import Derived.WalkSpells
import Derived.StillTactics
import Derived.Laws.Pointers
import Derived.Lib.Hide
import Derived.KernelRfl
namespace Go.Proofs.YtmajnoefddbflaaDoor
open Go.RowKit

def alnum : List UInt8 := [97, 98, 99, 100, 101, 102, 103, 104, 105, 106, 107, 108, 109, 110, 111, 112, 113, 114, 115, 116, 117, 118, 119, 120, 121, 122, 48, 49, 50, 51, 52, 53, 54, 55, 56, 57]
def partOk (n : Int) : Bool := decide (0 ≤ n ∧ n ≤ 999999)
def preOk (s : ByteArray) : Bool := decide (s.size ≤ 16) && (Lib.trimS s.data.toList alnum).isEmpty
def Ver.ok (v : Ver) : Bool := partOk v.p0 && partOk v.p1 && partOk v.p2 && preOk v.pre
set_option maxRecDepth 100000 in
theorem idx3 (a b c : Int) (k : Nat) (hk : k < 3) (w : World) : (Instr.index 64 (.agg #[.int .i64 a, .int .i64 b, .int .i64 c]) (.int .i64 k)).run Tryd.prog w = .ok (.int .i64 ([a, b, c][k]?.getD 0)) w := by
  have : k = 0 ∨ k = 1 ∨ k = 2 := by omega
  rcases this with rfl | rfl | rfl <;> rfl
theorem ver_no (p0 p1 p2 : Int) (pre : ByteArray) (k : Nat) (hk : k < 3) (h : partOk ([p0, p1, p2][k]?.getD 0) = false) : Ver.ok ⟨p0, p1, p2, pre⟩ = false := by
  have : k = 0 ∨ k = 1 ∨ k = 2 := by omega
  rcases this with rfl | rfl | rfl <;> simp at h <;> simp [Ver.ok, h]
set_option maxRecDepth 100000 in
set_option maxHeartbeats 800000 in
theorem verRight_any (v : Ver) (w : World) : Calls Tryd.prog 61 #[.agg v.cells.toArray] w fun e w' => e = .returned (.bool v.ok) ∧ Below w.heap.size w w' := by
  obtain ⟨p0, p1, p2, pre⟩ := v
  unfold Ver.cells
  go_enter Tryd.func61, Tryd.ntmps61
  go_wp2
  go_loop [7] (fun i => ∃ k : Nat, k ≤ 3 ∧ i = .int .i64 k ∧ ∀ j, j < k → partOk ([p0, p1, p2][j]?.getD 0) = true) (fun i => 3 - (intOf i).toNat)
  case atStart => exact ⟨0, by omega, rfl, fun j hj => by omega⟩
  case round =>
    obtain ⟨k, hk, rfl, hall⟩ := hrel
    by_cases hlt : k < 3
    · have hlt' : (k : Int) < 3 := by omega
      have hix := idx3 p0 p1 p2 k hlt
      obtain ⟨x, hx⟩ : ∃ x, x = [p0, p1, p2][k]?.getD 0 := ⟨_, rfl⟩
      rw [← hx] at hix
      replace hx := Lib.hid hx
      replace hall := Lib.hid hall
      by_cases h0 : x < 0
      · go_wp2
        go_ret
        refine ⟨?_, ((Frm.refl _ w).alloc _).below⟩
        show Ending.returned (Value.bool false) = _
        rw [ver_no p0 p1 p2 pre k hlt (by rw [← hx.out]; simp [partOk]; omega)]
      · by_cases h9 : 999999 < x
        · go_wp2
          go_ret
          refine ⟨?_, ((Frm.refl _ w).alloc _).below⟩
          show Ending.returned (Value.bool false) = _
          rw [ver_no p0 p1 p2 pre k hlt (by rw [← hx.out]; simp [partOk]; omega)]
        · go_wp2
          go_round
          case rel =>
            refine ⟨k + 1, by omega, by go_num, fun j hj => ?_⟩
            rcases Nat.lt_or_ge j k with h | h
            · exact hall.out j h
            · rw [show j = k by omega, ← hx.out]; simp [partOk]; omega
          case measure => simp [intOf]; omega
    · have hk3 : k = 3 := by omega
      subst hk3
      have hparts : (partOk p0 && partOk p1 && partOk p2) = true := by
        have a := hall 0 (by omega); have b := hall 1 (by omega); have c := hall 2 (by omega)
        simp at a b c
        simp [a, b, c]
      replace hparts := Lib.hid hparts
      clear hall
      by_cases h16 : pre.size ≤ 16
      · have h16' : (pre.size : Int) ≤ 16 := by omega
        go_wp2_with fail
        refine (Tryd.strings_Trim pre ⟨alnum.toArray⟩ _ (by omega) (by decide) (ascii_of_all (by decide))).mono ?_
        rintro e w2 ⟨rfl, hbel⟩
        have hf2 : Frm (fun _ => False) w w2 := ((Frm.refl _ w).alloc _).trans (Frm.of_below hbel _) fun _ _ h => h
        obtain ⟨l, hl⟩ : ∃ l, l = Lib.trimS pre.data.toList alnum := ⟨_, rfl⟩
        rw [show (⟨alnum.toArray⟩ : ByteArray).data.toList = alnum from rfl, ← hl]
        have hok : Ver.ok ⟨p0, p1, p2, pre⟩ = l.isEmpty := by
          simp only [Ver.ok, hparts.out, preOk, ← hl, h16, decide_true, Bool.true_and]
        replace hl := Lib.hid hl
        replace hok := Lib.hid hok
        replace hf2 := Lib.hid hf2
        clear hbel
        cases l with
        | nil =>
          go_wp2
          go_ret
          exact ⟨by rw [hok.out]; rfl, hf2.out.below⟩
        | cons x xs =>
          go_wp2
          go_ret
          exact ⟨by rw [hok.out]; rfl, hf2.out.below⟩
      · have h16' : ¬ (pre.size : Int) ≤ 16 := by omega
        go_wp2
        go_ret
        refine ⟨?_, ((Frm.refl _ w).alloc _).below⟩
        show Ending.returned (Value.bool false) = _
        have hno : decide (pre.size ≤ 16) = false := by simp; omega
        rw [show Ver.ok ⟨p0, p1, p2, pre⟩ = false by simp [Ver.ok, preOk, hno]]
end Go.Proofs.YtmajnoefddbflaaDoor
