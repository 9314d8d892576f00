/- anchor.Settle, both ways. -/
import Derived.Test.YtmajnoefddbflaaDoorProg
import Derived.Test.YtmajnoefddbflaaDoorAc0
import Derived.Test.YtmajnoefddbflaaDoorRgn
import Derived.WalkKit
import Derived.WalkSpells
import Derived.StillTactics
import Derived.Laws.Pointers
import Derived.Lib.Hide
import Derived.KernelRfl
namespace Go.Proofs.YtmajnoefddbflaaDoor
open Go.RowKit

def SetOk (b : Bool) (mk m n : Mrk) : Prop := mk.beq m = true ∨ (b = true ∧ mk.beq n = true)
theorem ac_settle (B0 g gr : Nat) (A : Option Addr) (c : Nat) (B : Option Addr) (d : Nat) (rs : List Rec) (hs : List (List Int)) (m n mk : Mrk) (b : Bool) (w : World) (hH : HistV B0 w g A c B d rs hs) (hR : RegV w gr m n b) (hm : mk.count = rs.length ∧ mk.top = topOf hs) (hok : SetOk b mk m n) :
    Calls Tryd.prog 16 #[.pointer (some ⟨gr, 0, none⟩), .pointer (some ⟨g, 0, none⟩)] w fun e w' => e = .returned (.int .i64 0) ∧ ∃ m' n', mk.beq m' = true ∧ RegV w' gr m' n' false ∧ Frm (fun k => k = gr) w w' := by
  cases b with
  | false =>
    have h : mk.beq m = true := hok.elim id fun h => absurd h.1 (by decide)
    refine (settle_free B0 g gr A c B d rs hs m n mk w hH hR hm).mono ?_
    rintro e w' ⟨rfl, hbl⟩
    rw [if_pos h]
    have hf := Frm.of_below hbl (fun _ => False)
    exact ⟨rfl, m, n, h, hR.frm hf (fun h => h), Frm.of_below hbl _⟩
  | true =>
    have hor : mk.beq m = true ∨ mk.beq n = true := hok.elim .inl fun h => .inr h.2
    refine (settle_busy B0 g gr A c B d rs hs m n mk w hH hR hm hor).mono ?_
    rintro e w' ⟨rfl, h1, h2⟩
    refine ⟨rfl, _, _, ?_, h1, h2⟩
    by_cases h : mk.beq m = true
    · rw [if_pos h]; exact h
    · rw [if_neg h]; exact hor.elim (fun h' => absurd h' h) id
end Go.Proofs.YtmajnoefddbflaaDoor
