/- tag.Record. -/
import Derived.Test.YtmajnoefddbflaaDoorProg
import Derived.Test.YtmajnoefddbflaaDoorTag
import Derived.WalkKit
import Derived.WalkSpells
import Derived.StillTactics
import Derived.Laws.Pointers
import Derived.Lib.Hide
import Derived.KernelRfl
namespace Go.Proofs.YtmajnoefddbflaaDoor
open Go.RowKit

set_option maxRecDepth 100000 in
set_option maxHeartbeats 800000 in
theorem tagrec_any (S : Sha) (h : List Int) (hh : h.length = 32) (p : Part) (w : World) (hG : ShaG S w) (hp : p.ok w) (hl : p.xs.length ≤ 137438953472) :
    Calls Tryd.prog 31 #[hashV h, p.val] w fun e w' => e = .returned (hashV (sumF S (7 :: (h ++ p.xs)))) ∧ Below w.heap.size w w' := by
  have h32 : (nums .u8 h).length = 32 := by rw [nums_length]; exact hh
  have hv : p.val = .slice (some ⟨p.b, p.o, none⟩) p.n p.c := rfl
  unfold hashV
  rw [hv]
  replace hG := Lib.hid hG
  replace hp := Lib.hid hp
  replace hv := Lib.hid hv
  go_enter Tryd.func31, Tryd.ntmps31
  go_wp2_with fail
  have hfA : Frm (fun _ => False) w (((w.alloc (.cells (nums .u8 h).toArray 25)).alloc (.cells (.replicate 32 (.int .u8 0)) 25)).alloc (.cells #[(⟨w.heap.size, 0, 32, 32, h⟩ : Part).val, p.val] 55)) := (((Frm.refl _ w).alloc _).alloc _).alloc _
  have hbH := ((Blk.new w 25 (nums .u8 h)).alloc (.cells (.replicate 32 (.int .u8 0)) 25)).alloc (.cells #[(⟨w.heap.size, 0, 32, 32, h⟩ : Part).val, p.val] 55)
  have hbR : Blk (((w.alloc (.cells (nums .u8 h).toArray 25)).alloc (.cells (.replicate 32 (.int .u8 0)) 25)).alloc (.cells #[(⟨w.heap.size, 0, 32, 32, h⟩ : Part).val, p.val] 55)) (w.heap.size + 1) 25 (List.replicate 32 (.int .u8 0)) := by
    have := (Blk.new (w.alloc (.cells (nums .u8 h).toArray 25)) 25 (List.replicate 32 (.int .u8 0))).alloc (.cells #[(⟨w.heap.size, 0, 32, 32, h⟩ : Part).val, p.val] 55)
    have hs1 : (w.alloc (.cells (nums .u8 h).toArray 25)).heap.size = w.heap.size + 1 := by simp
    rw [hs1] at this
    exact this
  have hrP := (Own.of_blk (size := 1) (Blk.new ((w.alloc (.cells (nums .u8 h).toArray 25)).alloc (.cells (.replicate 32 (.int .u8 0)) 25)) 55 [(⟨w.heap.size, 0, 32, 32, h⟩ : Part).val, p.val]) 2 rfl (by decide)).rd
  have hG2 : ShaG S (((w.alloc (.cells (nums .u8 h).toArray 25)).alloc (.cells (.replicate 32 (.int .u8 0)) 25)).alloc (.cells #[(⟨w.heap.size, 0, 32, 32, h⟩ : Part).val, p.val] 55)) := hG.out.frm hfA fun _ _ h => h
  have hp2 : p.ok (((w.alloc (.cells (nums .u8 h).toArray 25)).alloc (.cells (.replicate 32 (.int .u8 0)) 25)).alloc (.cells #[(⟨w.heap.size, 0, 32, 32, h⟩ : Part).val, p.val] 55)) := ⟨Nat.lt_of_lt_of_le hp.out.1 hfA.size, hp.out.2.1.frm hfA fun _ _ h => h, hp.out.2.2⟩
  have hpH : (⟨w.heap.size, 0, 32, 32, h⟩ : Part).ok (((w.alloc (.cells (nums .u8 h).toArray 25)).alloc (.cells (.replicate 32 (.int .u8 0)) 25)).alloc (.cells #[(⟨w.heap.size, 0, 32, 32, h⟩ : Part).val, p.val] 55)) := ⟨hbH.lt, (Own.of_blk (size := 1) hbH 32 (by rw [h32]) (by decide)).rd, Nat.le_refl _⟩
  replace hG2 := Lib.hid hG2
  replace hp2 := Lib.hid hp2
  replace hpH := Lib.hid hpH
  have hps : parts [⟨w.heap.size, 0, 32, 32, h⟩, p] = h ++ p.xs := by simp [parts]
  have hcall := tagsum_any S 7 (by decide) [⟨w.heap.size, 0, 32, 32, h⟩, p] (some ⟨w.heap.size + 1 + 1, 0, none⟩) 2 2 (((w.alloc (.cells (nums .u8 h).toArray 25)).alloc (.cells (.replicate 32 (.int .u8 0)) 25)).alloc (.cells #[(⟨w.heap.size, 0, 32, 32, h⟩ : Part).val, p.val] 55)) hG2.out (by simpa using hrP) (fun q hq => by
    rcases List.mem_cons.1 hq with rfl | hq
    · exact hpH.out
    · rw [List.mem_singleton.1 hq]; exact hp2.out) (by rw [hps, List.length_append, hh]; omega) (by decide)
  refine hcall.mono ?_
  rintro e w4 ⟨rfl, hbel⟩
  rw [hps]
  have hbR4 := hbR.below hbel hbR.lt
  have hth := hbR4.there' 0 32 (by simp)
  have hs7 : ((7 : Nat) : Int) = 7 := rfl
  rw [hs7]
  obtain ⟨hs, hhs⟩ : ∃ hs, hs = sumF S (7 :: (h ++ p.xs)) := ⟨_, rfl⟩
  have hn32 : (nums .u8 hs).length = 32 := by rw [nums_length, hhs]; exact sumF_length ..
  rw [← hhs]
  have hf4 := hfA.trans (Frm.of_below hbel _) fun _ _ h => h
  unfold hashV
  replace hf4 := Lib.hid hf4
  replace hbR4 := Lib.hid hbR4
  replace hhs := Lib.hid hhs
  clear hbel hfA hbH hbR hrP hcall hps hs7
  go_wp2_with refine list_store 25 (by rw [hn32]; exact hth) (by rw [hn32]; kernel_rfl) nums_one rfl rfl rfl rfl ?_
  have hbF : Blk (w4.setCells (w.heap.size + 1) 0 (nums .u8 hs)) (w.heap.size + 1) 25 (nums .u8 hs) := by
    have := hbR4.out.setCells (o := 0) (vs := nums .u8 hs) (by rw [hn32]; simp)
    simpa [hn32] using this
  refine bodyPost_ret (results_cell_range rfl _ _ (b := w.heap.size + 1) (o := 0) (cs := nums .u8 hs) rfl hbF.range Tryd.underlying25 rfl (by rw [hn32]; kernel_rfl)) rfl ?_
  refine ⟨?_, (hf4.out.setCells (fun h => by omega) 0 _).below⟩
  rw [← hhs.out]
end Go.Proofs.YtmajnoefddbflaaDoor
