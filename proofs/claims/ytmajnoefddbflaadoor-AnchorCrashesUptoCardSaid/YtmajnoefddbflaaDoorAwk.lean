/- law23.awake. -/
import Derived.Test.YtmajnoefddbflaaDoorProg
import Derived.Test.YtmajnoefddbflaaDoorAnf
import Derived.WalkKit
import Derived.WalkSpells
import Derived.StillTactics
import Derived.Laws.Pointers
import Derived.Lib.Hide
import Derived.KernelRfl
namespace Go.Proofs.YtmajnoefddbflaaDoor
open Go.RowKit

theorem histNew_V (B0 : Nat) {w : World} {g : Nat} (hb : Blk w g 73 [.slice none 0 0, .slice none 0 0]) (hg : B0 ≤ g) : HistV B0 w g none 0 none 0 [] [] :=
  ⟨hb, ⟨[], Own.nil _ _ _, .nil⟩, Own.nil _ _ _, rfl, fun h hh => (by cases hh), (by simp), hg, fun b h => (by cases h), fun b h => (by cases h)⟩
theorem mark_zero_beq : Mrk.zero.beq Mrk.zero = true := by kernel_rfl
def oneHash : List Int := 1 :: List.replicate 31 0
theorem oneHash_len : oneHash.length = 32 := rfl
def oneMark : Mrk := ⟨1, oneHash, oneHash_len⟩
theorem mark_one_beq : Mrk.zero.beq oneMark = false := by kernel_rfl
theorem field_one (w : World) : (Instr.field 47 (.agg oneMark.cells.toArray) 0).run Tryd.prog w = .ok (.int .i64 1) w := by kernel_rfl
set_option maxRecDepth 100000 in
set_option maxHeartbeats 2000000 in
theorem awake_any (w : World) : Calls Tryd.prog 6 #[] w fun e w' => e = .returned (.bool true) ∧ Below w.heap.size w w' := by
  go_enter Tryd.func6, Tryd.ntmps6
  go_wp2_with fail
  refine (anchorNew_any _).mono ?_
  rintro e w1 ⟨rfl, hR, hbl⟩
  have hf1 := Frm.of_below hbl (fun _ => False)
  have hl1 := Blk.lt hR
  replace hR := Lib.hid hR
  replace hf1 := Lib.hid hf1
  clear hbl
  go_wp2_with fail
  refine (histNew_any _).mono ?_
  rintro e w2 ⟨rfl, hH, hbl⟩
  have hf := Frm.of_below hbl (fun _ => False)
  have hf2 := hf1.out.trans hf fun _ _ h => h
  have hR2 := hR.out.frm hf fun h => h
  have hV := histNew_V w.heap.size hH (by omega)
  have hne : w1.heap.size ≠ w.heap.size := by omega
  replace hR2 := Lib.hid hR2
  replace hf2 := Lib.hid hf2
  replace hV := Lib.hid hV
  clear hbl hH hf hf1 hR
  go_wp2_with fail
  have c1 := audit_any w.heap.size w1.heap.size w.heap.size none 0 none 0 [] [] Mrk.zero Mrk.zero Mrk.zero false w2 hV.out hR2.out ⟨rfl, rfl⟩
  rw [mark_zero_beq, if_pos rfl] at c1
  refine c1.mono ?_
  rintro e w3 ⟨rfl, hbl⟩
  have hf := Frm.of_below hbl (fun _ => False)
  have hf3 := hf2.out.trans hf fun _ _ h => h
  have hR3 := hR2.out.frm hf fun h => h
  have hV3 := hV.out.quiet hf
  replace hR3 := Lib.hid hR3
  replace hf3 := Lib.hid hf3
  replace hV3 := Lib.hid hV3
  clear hbl hf hf2 hR2 hV c1
  go_wp2_with fail
  have c2 := begin_free w.heap.size Mrk.zero Mrk.zero oneHash oneHash_len w3 hR3.out (by decide) (by decide)
  refine c2.mono ?_
  rintro e w4 ⟨rfl, hR4, hf⟩
  have hf4 := hf3.out.trans hf fun b hb h => by omega
  have hV4 := hV3.out.frm hf (fun k hk h hi => by
    subst h
    rcases hi with hi | hi
    · omega
    · exact blk_notItem hR3.out (by decide) hi) (fun k hk h => by
    rcases hk with h' | h' | h'
    · omega
    · cases h'
    · cases h')
  replace hR4 := Lib.hid hR4
  replace hf4 := Lib.hid hf4
  replace hV4 := Lib.hid hV4
  clear hf hf3 hR3 hV3 c2
  go_wp2_with fail
  refine (begin_busy w.heap.size _ _ oneHash w4 hR4.out).mono ?_
  rintro e w5 ⟨rfl, hbl⟩
  have hf := Frm.of_below hbl (fun _ => False)
  have hf5 := hf4.out.trans hf fun _ _ h => h
  have hR5 := hR4.out.frm hf fun h => h
  have hV5 := hV4.out.quiet hf
  replace hR5 := Lib.hid hR5
  replace hf5 := Lib.hid hf5
  replace hV5 := Lib.hid hV5
  clear hbl hf hf4 hR4 hV4
  go_wp2_with fail
  refine (end_yes w.heap.size _ _ w5 hR5.out).mono ?_
  rintro e w6 ⟨rfl, hR6, hf⟩
  have hf6 := hf5.out.trans hf fun b hb h => by omega
  have hV6 := hV5.out.frm hf (fun k hk h hi => by
    subst h
    rcases hi with hi | hi
    · omega
    · exact blk_notItem hR5.out (by decide) hi) (fun k hk h => by
    rcases hk with h' | h' | h'
    · omega
    · cases h'
    · cases h')
  replace hR6 := Lib.hid hR6
  replace hf6 := Lib.hid hf6
  replace hV6 := Lib.hid hV6
  clear hf hf5 hR5 hV5
  go_wp2_with fail
  refine (end_no w.heap.size _ _ w6 hR6.out).mono ?_
  rintro e w7 ⟨rfl, hbl⟩
  have hf := Frm.of_below hbl (fun _ => False)
  have hf7 := hf6.out.trans hf fun _ _ h => h
  have hR7 := hR6.out.frm hf fun h => h
  have hV7 := hV6.out.quiet hf
  replace hR7 := Lib.hid hR7
  replace hf7 := Lib.hid hf7
  replace hV7 := Lib.hid hV7
  clear hbl hf hf6 hR6 hV6
  go_wp2_with fail
  have c8 := audit_any w.heap.size w1.heap.size w.heap.size none 0 none 0 [] [] oneMark Mrk.zero Mrk.zero false w7 hV7.out hR7.out ⟨rfl, rfl⟩
  rw [mark_one_beq, if_neg (by decide)] at c8
  refine c8.mono ?_
  rintro e w8 ⟨rfl, hbl⟩
  have hf := Frm.of_below hbl (fun _ => False)
  have hf8 := hf7.out.trans hf fun _ _ h => h
  have hR8 := hR7.out.frm hf fun h => h
  replace hR8 := Lib.hid hR8
  replace hf8 := Lib.hid hf8
  clear hbl hf hf7 hR7 hV7 c8
  go_wp2_with fail
  have c9 := regMark_any w.heap.size oneMark Mrk.zero false w8 hR8.out
  refine c9.mono ?_
  rintro e w9 ⟨rfl, hbl⟩
  have hf9 := hf8.out.trans (Frm.of_below hbl (fun _ => False)) fun _ _ h => h
  replace hf9 := Lib.hid hf9
  clear hbl hf8 hR8 c9
  have hfld := fun w => field_one w
  go_wp2
  go_ret
  exact ⟨rfl, hf9.out.below⟩
end Go.Proofs.YtmajnoefddbflaaDoor
