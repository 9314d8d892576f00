/- sha: New, Copy, Sum of a digest. -/
import Derived.Test.YtmajnoefddbflaaDoorProg
import Derived.Test.YtmajnoefddbflaaDoorWri
import Derived.WalkKit
import Derived.WalkSpells
import Derived.StillTactics
import Derived.Laws.Pointers
import Derived.Lib.Hide
import Derived.KernelRfl
namespace Go.Proofs.YtmajnoefddbflaaDoor
open Go.RowKit

theorem GTab.range {w : World} {g : Nat} {k : IntKind} {xs : List Int} (h : GTab w g k xs) : w.rangeAt g 0 (nums k xs) := fun j v hv => by
  have hj : j < xs.length := by have := (List.getElem?_eq_some_iff.1 hv).1; rwa [nums_length] at this
  rw [Nat.zero_add, h j hj, ← hv, nums, List.getElem?_map, List.getElem?_eq_getElem hj]; simp [List.getD, List.getElem?_eq_getElem hj]
set_option maxRecDepth 100000 in
set_option maxHeartbeats 400000 in
theorem new_any (S : Sha) (w : World) (hG : ShaG S w) :
    Calls Tryd.prog 43 #[] w fun e w' => ∃ g, e = .returned (.pointer (some ⟨g, 0, none⟩)) ∧ w.heap.size ≤ g ∧ DigV S w' g none 0 0 [] ∧ Below w.heap.size w w' := by
  have hr := hG.2.range
  have hb8 : (nums .u32 S.bg).length = 8 := by rw [nums_length]; exact S.hbg
  obtain ⟨a, b, c, d, e, f, g, i, h8⟩ := eight S.hbg
  rw [h8] at hr
  simp only [nums, List.map_cons, List.map_nil] at hr
  replace h8 := Lib.hid h8
  clear hb8
  go_enter Tryd.func43, Tryd.ntmps43
  go_wp2_with refine list_load 106 hr Tryd.underlying106 rfl (by kernel_rfl) rfl rfl rfl ?_
  go_ret
  refine ⟨w.heap.size, rfl, Nat.le_refl _, ⟨?_, Own.nil _ _ _⟩, ((Frm.refl _ w).alloc _).below⟩
  have : stOf S [] = [a, b, c, d, e, f, g, i] := h8.out
  rw [this]
  exact Blk.new w _ [_, _, _, _, _, _, _, _, _, _]
set_option maxRecDepth 100000 in
set_option maxHeartbeats 400000 in
theorem copy_any (S : Sha) (g : Nat) (A : Option Addr) (N c : Nat) (m : List Int) (w : World) (ho : DigV S w g A N c m) :
    Calls Tryd.prog 59 #[.pointer (some ⟨g, 0, none⟩)] w fun e w' => ∃ g' A' c', e = .returned (.pointer (some ⟨g', 0, none⟩)) ∧ w.heap.size ≤ g' ∧ DigV S w' g' A' N c' m ∧ (∀ b, bl A' = some b → w.heap.size ≤ b) ∧ Below w.heap.size w w' := by
  have hb := ho.blk
  have hn10 : (nums .u32 (stOf S m) ++ [Value.slice A N c, .int .i64 m.length]).length = 10 := by rw [List.length_append, nums_length, stOf_length]; rfl
  have hr : w.rangeAt g 0 (nums .u32 (stOf S m) ++ [Value.slice A N c, .int .i64 m.length]) := hb.range
  have hnw := Blk.new w 108 [.int .u32 0, .int .u32 0, .int .u32 0, .int .u32 0, .int .u32 0, .int .u32 0, .int .u32 0, .int .u32 0, .slice none 0 0, .int .i64 0]
  have hth := hnw.there' 0 10 (by decide)
  have hv1 : ∀ v ∈ nums .u32 (stOf S m) ++ [Value.slice A N c, .int .i64 m.length], v.oneCell' = true := fun v hv => by
    rcases List.mem_append.1 hv with h | h
    · exact nums_one v h
    · simp at h; rcases h with rfl | rfl <;> rfl
  have hNb := ho.len
  replace ho := Lib.hid ho
  replace hb := Lib.hid hb
  replace hnw := Lib.hid hnw
  replace hNb := Lib.hid hNb
  go_enter Tryd.func59, Tryd.ntmps59
  go_wp2_with first
    | refine list_load 108 hr Tryd.underlying108 rfl (by rw [hn10]; kernel_rfl) rfl rfl rfl ?_
    | (refine list_store 108 (by rw [hn10]; exact hth) (by rw [hn10]; kernel_rfl) hv1 rfl rfl rfl rfl ?_
       generalize hw1 : World.setCells _ _ _ _ = w1
       have hb1 : Blk w1 w.heap.size 108 (nums .u32 (stOf S m) ++ [Value.slice A N c, .int .i64 m.length]) := by
         rw [← hw1]
         have := hnw.out.setCells (o := 0) (vs := nums .u32 (stOf S m) ++ [Value.slice A N c, .int .i64 m.length]) (by rw [hn10]; decide)
         rw [hn10] at this
         simpa using this
       have hf1 : Frm (fun _ => False) w w1 := by
         rw [← hw1]
         exact ((Frm.refl _ w).alloc _).setCells (fun h => by omega) 0 _
       have hc8 := dig_c8 (hb.out.frm hf1 fun h => h) (stOf_length ..)
       replace hb1 := Lib.hid hb1
       replace hf1 := Lib.hid hf1
       clear hw1 hth hr)
    | fail
  refine (bytesClone_any A N c (nums .u8 (restOf m)) w1 (ho.out.own.rd.frm hf1.out fun _ _ h => h) nums_one (by have := hNb.out; omega)).mono ?_
  rintro e w2 ⟨v, rfl, A', c', rfl, hown, hbel, hnew⟩
  have hf2 : Frm (fun _ => False) w w2 := hf1.out.trans (Frm.of_below hbel _) fun _ _ h => h
  have hb2 := hb1.out.below hbel hb1.out.lt
  have hc8' := dig_c8 hb2 (stOf_length ..)
  have hz8 := hb2.frozen 8
  replace hf2 := Lib.hid hf2
  replace hb2 := Lib.hid hb2
  replace hown := Lib.hid hown
  replace hnew := Lib.hid hnew
  clear hbel
  go_wp2
  go_ret
  have hf3 : Frm (fun k => k = w.heap.size) w2 (w2.setCell ⟨w.heap.size, 8, none⟩ (.slice A' N c')) := (Frm.refl (fun k => k = w.heap.size) w2).setCell (p := ⟨w.heap.size, 8, none⟩) (fun _ => rfl) _
  refine ⟨w.heap.size, A', c', rfl, Nat.le_refl _, ⟨dig_s8 hb2.out (stOf_length ..) _, ?_⟩, fun b hb => Nat.le_trans hf1.out.size (hnew.out b hb), (hf2.out.trans hf3 fun b hb h => by omega).below⟩
  exact hown.out.frm hf3 fun b hb e => hown.out.ne_blk hb2.out (by decide) (e ▸ hb)
end Go.Proofs.YtmajnoefddbflaaDoor
