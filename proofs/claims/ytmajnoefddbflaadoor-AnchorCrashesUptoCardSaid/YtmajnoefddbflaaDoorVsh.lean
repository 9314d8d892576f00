/- version.Show. -/
import Derived.Test.YtmajnoefddbflaaDoorProg
import Derived.Test.YtmajnoefddbflaaDoorVer
import Derived.Test.YtmajnoefddbflaaDoorClo
import Derived.Test.YtmajnoefddbflaaDoorDt2
import Derived.WalkKit
import Derived.WalkSpells
import Derived.WalkLawsBesides
import Derived.StillTactics
import Derived.Laws.Pointers
import Derived.Lib.Hide
import Derived.Lib.QuietBelow
import Derived.Lib.ItoaLen
import Derived.Lib.Join
import Derived.KernelRfl
namespace Go.Proofs.YtmajnoefddbflaaDoor
open Go.RowKit

/-- the table of powers of ten is as the library's text lays it -/
def PowG (w : World) : Prop := Lib.TabIs Tryd.prog w "internal/strconv.uint64pow10" .u64 Lib.pow10Tab
theorem powNamed : Tryd.prog.globalNamed "internal/strconv.uint64pow10" = some 5 := by kernel_rfl
theorem PowG.frm {w w' : World} {F : Nat → Prop} (h : PowG w) (hf : Frm F w w') (hF : ¬ F 5) : PowG w' := by
  unfold PowG Lib.TabIs World.var? at *
  rw [powNamed, Option.bind_some] at *
  have hlt : 5 < w.heap.size := by
    rcases Nat.lt_or_ge 5 w.heap.size with h1 | h1
    · exact h1
    · rw [Array.getElem?_eq_none h1] at h; cases h
  rw [hf.block _ hlt hF]
  exact h
theorem PowG.lt {w : World} (h : PowG w) : 5 < w.heap.size := by
  unfold PowG Lib.TabIs World.var? at h
  rw [powNamed, Option.bind_some] at h
  rcases Nat.lt_or_ge 5 w.heap.size with h1 | h1
  · exact h1
  · rw [Array.getElem?_eq_none h1] at h; cases h
def itoaS (n : Int) : ByteArray := ⟨(Lib.itoa n).toArray⟩
theorem itoa_any (n : Int) (h0 : -9223372036854775808 ≤ n) (h1 : n ≤ 9223372036854775807) (w : World) (h : PowG w) : Calls Tryd.prog 72 #[.int .i64 n] w fun e w' => e = .returned (.string (itoaS n)) ∧ Below w.heap.size w w' :=
  (Tryd.strconv_Itoa n h0 h1 w h).mono fun e w' ⟨he, k, os, hw⟩ => ⟨he, by
    rw [hw]
    refine ⟨rfl, rfl, rfl, by simp [Sort.grow], fun i hi => ?_⟩
    show (w.heap ++ os)[i]? = w.heap[i]?
    rw [Array.getElem?_append_left hi]⟩
theorem appStrings : AppT Tryd.prog 125 9 1 16 := AppT.mk' Tryd.underlying125 (by kernel_rfl) (by decide) (by decide)
def strs (l : List ByteArray) : List Value := l.map .string
theorem strs_one (l : List ByteArray) : ∀ v ∈ strs l, v.oneCell' = true := fun v hv => by
  obtain ⟨s, _, rfl⟩ := List.mem_map.1 hv; rfl
def joined (l : List ByteArray) : ByteArray := ⟨(Lib.join (l.map (·.data.toList)) [46]).toArray⟩
def Ver.show (v : Ver) : ByteArray := if v.ok then (if v.pre.toList.isEmpty then joined [itoaS v.p0, itoaS v.p1, itoaS v.p2] else joined [itoaS v.p0, itoaS v.p1, itoaS v.p2] ++ (⟨#[45]⟩ ++ v.pre)) else ⟨#[]⟩
set_option maxRecDepth 100000 in
set_option maxHeartbeats 1000000 in
theorem verShow_any (v : Ver) (w : World) (hP : PowG w) : Calls Tryd.prog 64 #[.agg v.cells.toArray] w fun e w' => e = .returned (.string v.show) ∧ Below w.heap.size w w' := by
  obtain ⟨p0, p1, p2, pre⟩ := v
  have hb := Blk.new w 66 [.int .i64 p0, .int .i64 p1, .int .i64 p2, .string pre]
  have hf0 := (Frm.refl (fun _ => False) w).alloc (.cells #[.int .i64 p0, .int .i64 p1, .int .i64 p2, .string pre] 66)
  replace hb := Lib.hid hb
  replace hf0 := Lib.hid hf0
  replace hP := Lib.hid hP
  go_enter Tryd.func64, Tryd.ntmps64
  unfold Ver.cells
  go_wp2_with fail
  refine (verRight_any ⟨p0, p1, p2, pre⟩ _).mono ?_
  rintro e w1 ⟨rfl, hbl⟩
  have hf1 := Frm.of_below hbl (fun _ => False)
  have hb1 := hb.out.frm hf1 fun h => h
  replace hf1 := Lib.hid (hf0.out.trans hf1 fun _ _ h => h)
  have c0 : w1.cell? ⟨w.heap.size, 0, none⟩ = some (.int .i64 p0) := hb1.cell 0
  have c1 : w1.cell? ⟨w.heap.size, 1, none⟩ = some (.int .i64 p1) := hb1.cell 1
  have c2 : w1.cell? ⟨w.heap.size, 2, none⟩ = some (.int .i64 p2) := hb1.cell 2
  replace hb1 := Lib.hid hb1
  clear hbl
  cases hok : Ver.ok ⟨p0, p1, p2, pre⟩ with
  | false =>
    go_wp2
    go_ret
    refine ⟨?_, hf1.out.below⟩
    rw [show Ver.show ⟨p0, p1, p2, pre⟩ = ⟨#[]⟩ by rw [Ver.show, hok]; rfl]; rfl
  | true =>
    have hok' := hok
    simp only [Ver.ok, Bool.and_eq_true, partOk, decide_eq_true_eq, preOk] at hok'
    obtain ⟨⟨⟨hp0, hp1⟩, hp2⟩, hpre, _⟩ := hok'
    have hP1 := hP.out.frm hf1.out fun h => h
    replace hP1 := Lib.hid hP1
    go_wp2
    go_loopw [3, 5, 12] (fun s _ i wr => ∃ (k : Nat) (A : Option Addr) (c : Nat), k ≤ 3 ∧ i = .int .i64 k ∧ s = .slice A k c ∧ Own wr 9 1 A k c (strs ([itoaS p0, itoaS p1, itoaS p2].take k)) ∧ Frm (fun _ => False) w1 wr ∧ (∀ b, bl A = some b → w1.heap.size ≤ b)) (fun _ _ i _ => 3 - (intOf i).toNat)
    case atStart => exact ⟨0, none, 0, by omega, rfl, rfl, Own.nil _ _ _, Frm.refl _ _, fun b h => by cases h⟩
    case round =>
      obtain ⟨k, A, c, hk, rfl, rfl, hown, hf, hA⟩ := hrel
      replace hf := Lib.hid hf
      by_cases hlt : k < 3
      · have hlt' : (k : Int) < 3 := by omega
        have hix := idx3 p0 p1 p2 k hlt
        obtain ⟨x, hx⟩ : ∃ x, x = [p0, p1, p2][k]?.getD 0 := ⟨_, rfl⟩
        rw [← hx] at hix
        have hxb : -9223372036854775808 ≤ x ∧ x ≤ 9223372036854775807 := by
          have : k = 0 ∨ k = 1 ∨ k = 2 := by omega
          rcases this with rfl | rfl | rfl <;> simp at hx <;> omega
        have hsn : strs ([itoaS p0, itoaS p1, itoaS p2].take k) ++ [.string (itoaS x)] = strs ([itoaS p0, itoaS p1, itoaS p2].take (k + 1)) := by
          have : k = 0 ∨ k = 1 ∨ k = 2 := by omega
          rcases this with rfl | rfl | rfl <;> simp at hx <;> simp [strs, hx]
        have hPr := hP1.out.frm hf.out fun h => h
        replace hPr := Lib.hid hPr
        replace hsn := Lib.hid hsn
        replace hx := Lib.hid hx
        replace hown := Lib.hid hown
        replace hA := Lib.hid hA
        go_wp2_with fail
        refine (itoa_any x hxb.1 hxb.2 _ hPr.out).mono ?_
        rintro e w2 ⟨rfl, hbl⟩
        have hf2 := Frm.of_below hbl (fun _ => False)
        have ho2 := (hown.out.frm hf2 fun _ _ h => h).frm ((Frm.refl (fun _ => False) w2).alloc (.cells #[.string (itoaS x)] 9)) fun _ _ h => h
        have hrn := rd_new w2 [.string (itoaS x)] 9 1 1 rfl
        obtain ⟨y, hy⟩ : ∃ y, y = itoaS x := ⟨_, rfl⟩
        rw [← hy] at ho2 hrn hsn ⊢
        replace hf2 := Lib.hid (hf.out.trans hf2 fun _ _ h => h)
        replace ho2 := Lib.hid ho2
        replace hrn := Lib.hid hrn
        replace hy := Lib.hid hy
        clear hbl hix
        go_wp2_with (at_builtin; refine list_app rfl appStrings rfl rfl rfl ho2.out hrn.out (by simp [Value.oneCell']) (by omega) ?_; intro A3 c3 w3 hown3 hf3 hat3; replace hown3 := Lib.hid hown3; replace hf3 := Lib.hid hf3; replace hat3 := Lib.hid hat3)
        go_roundw
        case rel => exact ⟨k + 1, A3, c3, by omega, by go_num, rfl, by rw [← hsn.out]; exact hown3.out, (hf2.out.alloc _).trans hf3.out fun b hb h => by have := hA.out b h; omega, fun b hb => by
          rcases hat3.out with e | e
          · exact hA.out b (e ▸ hb)
          · rw [e] at hb; injection hb with hb; have := hf2.out.size; simp at hb; omega⟩
        case measure => simp [intOf]; omega
      · have hk3 : k = 3 := by omega
        subst hk3
        rw [List.take_of_length_le (by simp)] at hown
        have hl3 : (joined [itoaS p0, itoaS p1, itoaS p2]).size ≤ 100 := by
          have a := Lib.itoa_length_le p0 (by omega) (by omega)
          have b := Lib.itoa_length_le p1 (by omega) (by omega)
          have c := Lib.itoa_length_le p2 (by omega) (by omega)
          have h := Lib.join_length (Lib.itoa p0) [Lib.itoa p1, Lib.itoa p2] [46]
          simp [Lib.lens] at h
          show (joined [itoaS p0, itoaS p1, itoaS p2]).data.size ≤ 100
          simp only [joined, itoaS, List.map_cons, List.map_nil, List.size_toArray, List.toList_toArray]
          omega
        obtain ⟨bk, rfl⟩ := Own.someB hown (by omega)
        have hrow := hown.rd.2 (by omega)
        obtain ⟨b', o', e', hrow⟩ := hrow
        injection e' with e'; injection e' with e1 e2
        subst e1 e2
        have hcap := hown.cap
        have hlt' := hown.lt bk rfl
        have hshow : Ver.show ⟨p0, p1, p2, pre⟩ = if pre.toList.isEmpty then joined [itoaS p0, itoaS p1, itoaS p2] else joined [itoaS p0, itoaS p1, itoaS p2] ++ (⟨#[45]⟩ ++ pre) := by
          rw [Ver.show, hok]; rfl
        have hj := Tryd.strings_Join bk 0 c [itoaS p0, itoaS p1, itoaS p2] ⟨#[46]⟩ wr (fun j x hx => hrow j _ (by rw [strs, List.getElem?_map, hx]; rfl)) hlt' (by simp) hcap (Nat.le_trans hl3 (by decide))
        have hj2 : Calls Tryd.prog 73 #[.slice (some ⟨bk, 0, none⟩) 3 c, .string ⟨#[46]⟩] wr fun e w' => e = .returned (.string (joined [itoaS p0, itoaS p1, itoaS p2])) ∧ Below wr.heap.size wr w' := hj
        obtain ⟨y, hy⟩ : ∃ y, y = joined [itoaS p0, itoaS p1, itoaS p2] := ⟨_, rfl⟩
        rw [← hy] at hj2 hshow hl3
        have hbr := hb1.out.frm hf.out fun h => h
        have c3 : wr.cell? ⟨w.heap.size, 3, none⟩ = some (.string pre) := hbr.cell 3
        replace hbr := Lib.hid hbr
        replace hj2 := Lib.hid hj2
        replace hshow := Lib.hid hshow
        replace hy := Lib.hid hy
        clear hj hrow
        go_wp2_with fail
        refine hj2.out.mono ?_
        rintro e w3 ⟨rfl, hbl⟩
        have hb3 := hbr.out.frm (Frm.of_below hbl (fun _ => False)) fun h => h
        have c3 : w3.cell? ⟨w.heap.size, 3, none⟩ = some (.string pre) := hb3.cell 3
        have hf3 := (hf1.out.trans hf.out fun _ _ h => h).trans (Frm.of_below hbl (fun _ => False)) fun _ _ h => h
        replace hf3 := Lib.hid hf3
        clear hbl
        cases hem : pre.toList.isEmpty with
        | true =>
          rw [hem] at hshow
          go_wp2
          go_ret
          refine ⟨?_, hf3.out.below⟩
          rw [hshow.out]; rfl
        | false =>
          rw [hem] at hshow
          have hem' : (!pre.toList.isEmpty) = true := by rw [hem]; rfl
          go_wp2
          go_ret
          refine ⟨?_, hf3.out.below⟩
          rw [hshow.out]; rfl
end Go.Proofs.YtmajnoefddbflaaDoor
