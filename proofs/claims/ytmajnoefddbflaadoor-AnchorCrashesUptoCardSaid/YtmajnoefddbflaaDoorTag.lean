/- tag: sums of parts. -/
import Derived.Test.YtmajnoefddbflaaDoorProg
import Derived.Test.YtmajnoefddbflaaDoorSum
import Derived.WalkKit
import Derived.WalkSpells
import Derived.StillTactics
import Derived.Laws.Pointers
import Derived.Lib.Hide
import Derived.KernelRfl
namespace Go.Proofs.YtmajnoefddbflaaDoor
open Go.RowKit

/-- a slice of bytes that is read -/
structure Part where
  b : Nat
  o : Nat
  n : Nat
  c : Nat
  xs : List Int
def Part.val (p : Part) : Value := .slice (some ⟨p.b, p.o, none⟩) p.n p.c
def Part.ok (w : World) (p : Part) : Prop := p.b < w.heap.size ∧ Rd w 1 (some ⟨p.b, p.o, none⟩) p.n (nums .u8 p.xs) ∧ p.n ≤ p.c
def parts (ps : List Part) : List Int := ps.flatMap (·.xs)
theorem Part.ok.len {w : World} {p : Part} (h : p.ok w) : p.xs.length = p.n := by have := h.2.1.1; rw [nums_length] at this; omega
theorem parts_take (ps : List Part) (k : Nat) (h : k < ps.length) : parts (ps.take (k + 1)) = parts (ps.take k) ++ ps[k].xs := by
  rw [List.take_succ_eq_append_getElem h]; simp only [parts, List.flatMap_append, List.flatMap_cons, List.flatMap_nil, List.append_nil]
theorem parts_le (ps : List Part) (k : Nat) : (parts (ps.take k)).length ≤ (parts ps).length := by
  have e : parts ps = parts (ps.take k) ++ parts (ps.drop k) := by rw [parts, parts, parts, ← List.flatMap_append, List.take_append_drop]
  rw [e, List.length_append]; omega
set_option maxRecDepth 100000 in
set_option maxHeartbeats 800000 in
theorem tagsum_any (S : Sha) (kind : Nat) (hkd : kind < 256) (ps : List Part) (A : Option Addr) (n c : Nat) (w : World) (hG : ShaG S w) (hr : Rd w 1 A n (ps.map Part.val)) (hp : ∀ p ∈ ps, p.ok w) (hl : (parts ps).length ≤ 274877906944) (hn : n ≤ 1048576) :
    Calls Tryd.prog 48 #[.int .i64 kind, .slice A n c] w fun e w' => e = .returned (hashV (sumF S (kind :: parts ps))) ∧ Below w.heap.size w w' := by
  have hpl : ps.length = n := by have := hr.1; simp at this; omega
  have hzw := hG.lt
  have hbR : Blk (w.alloc (.cells (.replicate 32 (.int .u8 0)) 25)) w.heap.size 25 (List.replicate 32 (.int .u8 0)) := Blk.new w _ _
  have hf0 : Frm (fun _ => False) w (w.alloc (.cells (.replicate 32 (.int .u8 0)) 25)) := (Frm.refl _ w).alloc _
  have hmod : (kind : Int) % 256 = kind := by omega
  replace hG := Lib.hid hG
  replace hzw := Lib.hid hzw
  replace hr := Lib.hid hr
  replace hp := Lib.hid hp
  replace hpl := Lib.hid hpl
  replace hbR := Lib.hid hbR
  replace hf0 := Lib.hid hf0
  go_enter Tryd.func48, Tryd.ntmps48
  go_wp2_with fail
  refine (new_any S _ (hG.out.frm hf0.out fun _ _ h => h)).mono ?_
  rintro e w1 ⟨g, rfl, hg1, hd1, hbel1⟩
  have hf1 : Frm (fun _ => False) w w1 := hf0.out.trans (Frm.of_below hbel1 _) fun _ _ h => h
  have hb1 := hbR.out.below hbel1 (by simp)
  have hg1' : w.heap.size < g := by simp at hg1; omega
  replace hf1 := Lib.hid hf1
  replace hb1 := Lib.hid hb1
  replace hd1 := Lib.hid hd1
  clear hbel1 hg1
  go_wp2_with fail
  have hf1k : Frm (fun _ => False) w (w1.alloc (.cells #[.int .u8 kind] 5)) := hf1.out.alloc _
  have hdk := hd1.out.frm ((Frm.refl (fun _ => False) w1).alloc (.cells #[.int .u8 kind] 5)) fun _ _ h => h
  have hgw1 := hd1.out.blk.lt
  have hrk := (Own.of_blk (size := 1) (Blk.new w1 5 [.int .u8 kind]) 1 rfl (by decide)).rd
  refine (write_any S g none 0 0 [] w1.heap.size 0 1 1 [(kind : Int)] _ (hG.out.frm hf1k fun _ _ h => h) (fun h => by have := hzw.out _ h; omega) hdk hrk (Nat.le_refl _) (fun q hq e => by cases e) ⟨by simp, fun h => by rcases h with h | h; omega; cases h⟩ (by simp)).mono ?_
  rintro e w2 ⟨rfl, A2, N2, c2, hd2, hf2, hat2⟩
  have hf2' : Frm (fun _ => False) w w2 := hf1k.trans hf2 fun b hb h => by rcases h with h | h; omega; cases h
  have hA2 : ∀ b, bl A2 = some b → w.heap.size < b := fun b hb => by
    rcases hat2 with e | ⟨b', e, hb'⟩
    · rw [e] at hb; cases hb
    · rw [e] at hb; injection hb with hb; have := hb1.out.lt; simp at hb'; omega
  rw [List.nil_append] at hd2
  have hfw : Frm (fun b => w.heap.size < b) w1 w2 := ((Frm.refl _ w1).alloc _).trans hf2 fun b hb h => by rcases h with h | h; omega; cases h
  replace hfw := Lib.hid hfw
  replace hd2 := Lib.hid hd2
  replace hf2' := Lib.hid hf2'
  replace hA2 := Lib.hid hA2
  clear hf1k hdk hrk hf2 hat2
  go_wp2
  go_loopw [16] (fun i wr => ∃ (k : Nat) (A3 : Option Addr) (N3 c3 : Nat), k ≤ n ∧ i = .int .i64 k ∧ DigV S wr g A3 N3 c3 (kind :: parts (ps.take k)) ∧ (∀ b, bl A3 = some b → w.heap.size < b) ∧ Frm (fun _ => False) w wr ∧ Frm (fun b => w.heap.size < b) w1 wr) (fun i _ => n - (intOf i).toNat)
  case atStart => exact ⟨0, A2, N2, c2, Nat.zero_le _, rfl, hd2.out, hA2.out, hf2'.out, hfw.out⟩
  case round =>
    obtain ⟨k, A3, N3, c3, hk, rfl, hd3, hA3, hf3, hfw3⟩ := hrel
    by_cases hlt : k < n
    · have hlt' : (k : Int) < n := by omega
      have hkp : k < ps.length := by rw [hpl.out]; exact hlt
      obtain ⟨bA, oA, rfl, hra⟩ := hr.out.2 (by omega)
      have hcel : w.cell? ⟨bA, oA + k, none⟩ = some ps[k].val := hra k _ (by rw [List.getElem?_map, List.getElem?_eq_getElem hkp]; rfl)
      have hcl := hf3.cell hcel fun h => h
      obtain ⟨p, hpe⟩ : ∃ p, p = ps[k] := ⟨_, rfl⟩
      rw [← hpe] at hcl
      have hpk : p.ok w := hp.out p (by rw [hpe]; exact List.getElem_mem hkp)
      have hpt := parts_take ps k hkp
      rw [← hpe] at hpt
      have hple := parts_le ps (k + 1)
      rw [hpt, List.length_append, hpk.len] at hple
      unfold Part.val at hcl
      replace hpe := Lib.hid hpe
      replace hpk := Lib.hid hpk
      replace hpt := Lib.hid hpt
      replace hd3 := Lib.hid hd3
      replace hA3 := Lib.hid hA3
      replace hf3 := Lib.hid hf3
      replace hfw3 := Lib.hid hfw3
      replace hple := Lib.hid hple
      clear hra hcel
      go_wp2_with fail
      refine (write_any S g A3 N3 c3 (kind :: parts (ps.take k)) p.b p.o p.n p.c p.xs wr (hG.out.frm hf3.out fun _ _ h => h) (fun h => by have := hzw.out _ h; omega) hd3.out (hpk.out.2.1.frm hf3.out fun _ _ h => h) hpk.out.2.2 (fun q hq e => by have := hzw.out _ hq; have := hA3.out q e; omega) ⟨by have := hpk.out.1; have := hf3.out.size; omega, fun h => by
        have := hpk.out.1
        rcases h with h | h
        · omega
        · have := hA3.out _ h; omega⟩ (by have := hple.out; rw [List.length_cons]; omega)).mono ?_
      rintro e w4 ⟨rfl, A4, N4, c4, hd4, hf4, hat4⟩
      rw [List.cons_append, ← hpt.out] at hd4
      have hF : ∀ b, DigF g A3 b → w.heap.size < b := fun b h => by
        rcases h with h | h
        · omega
        · exact hA3.out b h
      have hA4 : ∀ b, bl A4 = some b → w.heap.size < b := fun b hb => by
        rcases hat4 with e | ⟨b', e, hb'⟩
        · exact hA3.out b (e ▸ hb)
        · rw [e] at hb; injection hb with hb; have := hfw3.out.size; have := hb1.out.lt; omega
      replace hf3 := Lib.hid (hf3.out.trans hf4 fun b hb h => by have := hF b h; omega)
      replace hfw3 := Lib.hid (hfw3.out.trans hf4 fun b hb h => hF b h)
      replace hd4 := Lib.hid hd4
      replace hA4 := Lib.hid hA4
      clear hf4 hat4 hF
      go_wp2
      go_roundw
      case rel => exact ⟨k + 1, A4, N4, c4, by omega, by go_num, hd4.out, hA4.out, hf3.out, hfw3.out⟩
      case measure => simp [intOf]; omega
    · have hkn : k = n := by omega
      subst hkn
      rw [List.take_of_length_le (Nat.le_of_eq hpl.out)] at hd3
      have hbR3 := hb1.out.frm hfw3 fun h => by omega
      have hln : (kind :: parts ps : List Int).length ≤ 549755813888 := by rw [List.length_cons]; omega
      have hGr := hG.out.frm hf3 fun _ _ h => h
      replace hd3 := Lib.hid hd3
      replace hA3 := Lib.hid hA3
      replace hf3 := Lib.hid hf3
      replace hGr := Lib.hid hGr
      replace hln := Lib.hid hln
      replace hbR3 := Lib.hid hbR3
      clear hfw3
      go_wp2_with fail
      refine (sum_any S g A3 N3 c3 (kind :: parts ps) wr hGr.out hd3.out hln.out).mono ?_
      rintro e w4 ⟨rfl, hbel⟩
      have hbR4 := hbR3.out.below hbel hbR3.out.lt
      have hth := hbR4.there' 0 32 (by simp)
      obtain ⟨hs, hhs⟩ : ∃ hs, hs = sumF S (kind :: parts ps) := ⟨_, rfl⟩
      have hn32 : (nums .u8 hs).length = 32 := by rw [nums_length, hhs]; exact sumF_length ..
      rw [← hhs]
      have hf4 := hf3.out.trans (Frm.of_below hbel _) fun _ _ h => h
      unfold hashV
      replace hf4 := Lib.hid hf4
      replace hbR4 := Lib.hid hbR4
      replace hhs := Lib.hid hhs
      clear hbel
      go_wp2_with refine list_store 25 (by rw [hn32]; exact hth) (by rw [hn32]; kernel_rfl) nums_one rfl rfl rfl rfl ?_
      have hbF : Blk (w4.setCells w.heap.size 0 (nums .u8 hs)) w.heap.size 25 (nums .u8 hs) := by
        have := hbR4.out.setCells (o := 0) (vs := nums .u8 hs) (by rw [hn32]; simp)
        simpa [hn32] using this
      refine bodyPost_ret (results_cell_range rfl _ _ (b := w.heap.size) (o := 0) (cs := nums .u8 hs) rfl hbF.range Tryd.underlying25 rfl (by rw [hn32]; kernel_rfl)) rfl ?_
      refine ⟨?_, (hf4.out.setCells (fun h => by omega) 0 _).below⟩
      rw [← hhs.out]; rfl
end Go.Proofs.YtmajnoefddbflaaDoor
