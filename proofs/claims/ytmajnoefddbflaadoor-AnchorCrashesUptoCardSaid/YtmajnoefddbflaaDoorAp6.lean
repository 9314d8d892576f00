/- history.Append: the records, one longer; Append. -/
import Derived.Test.YtmajnoefddbflaaDoorLb
import Derived.Test.YtmajnoefddbflaaDoorProg
import Derived.Test.YtmajnoefddbflaaDoorAp5
import Derived.WalkKit
import Derived.WalkSpells
import Derived.StillTactics
import Derived.Laws.Pointers
import Derived.Lib.Hide
import Derived.KernelRfl
namespace Go.Proofs.YtmajnoefddbflaaDoor
open Go.RowKit

set_option maxRecDepth 100000 in
set_option maxHeartbeats 2000000 in
theorem append_r6 {B0 g b n : Nat} {A : Option Addr} {c : Nat} {B : Option Addr} {m d : Nat} {rs : List Rec} {hs : List (List Int)} {r : Rec} {v1 v2 : Value} {u1 u2 u4 u5 u6 u7 u8 u9 u10 u11 u12 u13 u14 u15 u16 u17 u18 u19 u20 u21 u22 u23 u24 u25 u26 u27 u28 u29 u30 u31 u32 u33 u34 u35 u36 u37 u38 u39 u40 u41 u42 u43 u44 u45 u46 u47 u48 : Value} {w : World} (hM : MidV B0 w g A n c B m d rs hs) (hB : Blk w b 29 (recCells r.kind v1 v2 r.head)) (h1 : ItV B0 w v1 r.before) (h2 : ItV B0 w v2 r.after)
    (hn : n ≤ 4096) (hgB : B0 ≤ g) (hAB : ∀ b, bl A = some b → B0 ≤ b) {Q : Exit → Act → World → Prop}
    (hQ : ∀ (x38 x39 x40 x41 x42 x43 x44 x45 x46 x47 x48 : Value) (A' : Option Addr) (c' : Nat) (w' : World), MidV B0 w' g A' (n + 1) c' B m d (rs ++ [r]) hs → (bl A' = bl A ∨ ∃ b, bl A' = some b ∧ w.heap.size ≤ b) → Frm (fun k => k = g ∨ bl A = some k) w w' → Q .normal ⟨(.pointer (some ⟨g, 0, none⟩) :: u1 :: u2 :: .pointer (some ⟨b, 0, none⟩) :: u4 :: u5 :: u6 :: u7 :: u8 :: u9 :: u10 :: u11 :: u12 :: u13 :: u14 :: u15 :: u16 :: u17 :: u18 :: u19 :: u20 :: u21 :: u22 :: u23 :: u24 :: u25 :: u26 :: u27 :: u28 :: u29 :: u30 :: u31 :: u32 :: u33 :: u34 :: u35 :: u36 :: u37 :: x38 :: x39 :: x40 :: x41 :: x42 :: x43 :: x44 :: x45 :: x46 :: x47 :: x48 :: []).toArray, []⟩ w') :
    (regionOf Tryd.f10 6).wp Tryd.prog Q ⟨(.pointer (some ⟨g, 0, none⟩) :: u1 :: u2 :: .pointer (some ⟨b, 0, none⟩) :: u4 :: u5 :: u6 :: u7 :: u8 :: u9 :: u10 :: u11 :: u12 :: u13 :: u14 :: u15 :: u16 :: u17 :: u18 :: u19 :: u20 :: u21 :: u22 :: u23 :: u24 :: u25 :: u26 :: u27 :: u28 :: u29 :: u30 :: u31 :: u32 :: u33 :: u34 :: u35 :: u36 :: u37 :: u38 :: u39 :: u40 :: u41 :: u42 :: u43 :: u44 :: u45 :: u46 :: u47 :: u48 :: []).toArray, []⟩ w := by
  conv => arg 2; whnf
  have hl := recCells_length r.kind v1 v2 r.head
  have hF : ∀ k, (k = g ∨ bl A = some k) → k < w.heap.size := fun k hk => by
    obtain ⟨css, ho, _⟩ := hM.recs
    rcases hk with rfl | hk
    · exact hM.blk.lt
    · exact ho.lt k hk
  have hcne : ∀ w1 : World, MidV B0 w1 g A n c B m d rs hs → bl A ≠ some g ∧ bl B ≠ some g ∧ ∀ b, bl A = some b → ¬ bl B = some b := fun w1 h => by
    obtain ⟨css, ho, _⟩ := h.recs
    refine ⟨ho.ne_blk h.blk (by decide), h.chain.ne_blk h.blk (by decide), fun b hb hb' => ?_⟩
    rcases h.chain.2 with ⟨e1, h0⟩ | ⟨g2, cap2, cur2, e2, _, hg2, _⟩
    · injection e1 with e1; subst e1; cases hb'
    · rcases ho.2 with ⟨e1, h0⟩ | ⟨g1, cap, cur, e1, _, hg1, _⟩
      · injection e1 with e1; subst e1; cases hb
      · injection e1 with e1; subst e1
        injection e2 with e2; subst e2
        have h1 : g1 = b := by simpa [bl] using hb
        have h2 : g2 = b := by simpa [bl] using hb'
        subst h1 h2
        rw [hg1] at hg2
        injection hg2 with hg2
        injection hg2 with _ ht
        exact absurd ht (by decide)
  obtain ⟨A1, c1, e1, i1, _⟩ := h1.it
  obtain ⟨A2, c2, e2, i2, _⟩ := h2.it
  have hk1 : r.before.length ≤ 1048576 := i1.2.2
  have hk2 : r.after.length ≤ 1048576 := i2.2.2
  replace hM := Lib.hid hM
  replace hB := Lib.hid hB
  replace h1 := Lib.hid h1
  replace h2 := Lib.hid h2
  replace hF := Lib.hid hF
  replace hcne := Lib.hid hcne
  clear i1 i2 e1 e2
  apply wp_region_typed (fun k => k = g ∨ bl A = some k) (nf [4, 5, 6, 7, 8, 11]) [8, 11] (vt [(Is _), (Is _), (Is _), (Is _), (Is _), (Is _), (fun u w' => ∃ y1 y2, u = .agg (recCells r.kind y1 y2 r.head).toArray ∧ Mine w.heap.size w' 68 37 r.before.length (row r.before) y1 ∧ Mine w.heap.size w' 68 37 r.after.length (row r.after) y2), (fun u w' => ∃ x y1 y2, u = .slice (some ⟨x, 0, none⟩) 1 1 ∧ Blk w' x 29 (recCells r.kind y1 y2 r.head) ∧ w.heap.size ≤ x ∧ Mine w.heap.size w' 68 37 r.before.length (row r.before) y1 ∧ Mine w.heap.size w' 68 37 r.after.length (row r.after) y2), (fun u _ => ∃ A' c', u = .slice A' (n + 1) c'), (Is _), (Is _), (fun _ _ => True)]) (wt [(fun _ w' => MidV B0 w' g A n c B m d rs hs ∧ Frm (fun _ => False) w w'), (fun vs w' => ∃ A' c', vs = [.slice A' (n + 1) c'] ∧ Blk w' g 73 [.slice A n c, .slice B m d] ∧ (∃ css, Own w' 29 36 A' (n + 1) c' css.flatten ∧ RecsV B0 w' css (rs ++ [r])) ∧ Own w' 25 32 B m d (hrow hs) ∧ (bl A' = bl A ∨ ∃ b, bl A' = some b ∧ w.heap.size ≤ b)), (fun vs w' => ∃ A' c', MidV B0 w' g A' (n + 1) c' B m d (rs ++ [r]) hs ∧ (bl A' = bl A ∨ ∃ b, bl A' = some b ∧ w.heap.size ≤ b))]) (by kernel_rfl) (by kernel_rfl) (by kernel_rfl) (by kernel_rfl) (hop := owesL_all ?hop)
  case hop =>
    refine owesL_cons (i' := 1) rfl ?_ ?_
    · refine o_pure rfl (by kernel_rfl) fun us a wz hA hv K hK => ?_
      have s0 := slot_out hA (t := 0) (by kernel_rfl)
      clear hA hv
      go_wp2
      exact rfl
    refine owesL_cons (i' := 2) rfl ?_ ?_
    · refine o_pure rfl (by kernel_rfl) fun us a wz hA hv K hK => ?_
      have s0 := slot_out hA (t := 0) (by kernel_rfl)
      clear hA hv
      go_wp2
      exact rfl
    refine owesL_cons (i' := 3) rfl ?_ ?_
    · refine o_pure rfl (by kernel_rfl) fun us a wz hA hv K hK => ?_
      have s39 := (slot_in hA (t := 39) (by simp) (j := 1) (by kernel_rfl)).trans (hv 1 (by kernel_rfl))
      clear hA hv
      go_wp2
      exact rfl
    refine owesL_cons (i' := 4) rfl ?_ ?_
    · refine o_pure rfl (by kernel_rfl) fun us a wz hA hv K hK => ?_
      have s40 := (slot_in hA (t := 40) (by simp) (j := 2) (by kernel_rfl)).trans (hv 2 (by kernel_rfl))
      clear hA hv
      go_wp2
      exact rfl
    refine owesL_cons (i' := 5) rfl ?_ ?_
    · refine o_q rfl (by kernel_rfl) (by kernel_rfl) (pl := []) (by kernel_rfl) fun us a wz hA hv hf hw K hK => ?_
      have s41 := (slot_in hA (t := 41) (by simp) (j := 3) (by kernel_rfl)).trans (hv 3 (by kernel_rfl))
      replace hw : ((fun _ w' => MidV B0 w' g A n c B m d rs hs ∧ Frm (fun _ => False) w w') : List Value → World → Prop) [] wz := hw
      clear hA hv
      have k0 : wz.cell? ⟨g, 0, none⟩ = some (.slice A n c) := hw.1.blk.cell 0
      clear hf hw
      go_wp2
      exact hK _ _ rfl (Frm.refl _ _)
    refine owesL_cons (i' := 6) rfl ?_ ?_
    · refine o_q rfl (by kernel_rfl) (by kernel_rfl) (pl := []) (by kernel_rfl) fun us a wz hA hv hf hw K hK => ?_
      have s3 := slot_out hA (t := 3) (by kernel_rfl)
      replace hw : ((fun _ w' => MidV B0 w' g A n c B m d rs hs ∧ Frm (fun _ => False) w w') : List Value → World → Prop) [] wz := hw
      clear hA hv
      have k0 := (hB.out.frm hw.2 fun h => h).range
      clear hf
      refine wp_load_mid 29 _ rfl b 0 (ev s3) (recCells r.kind v1 v2 r.head) _ k0 Tryd.underlying29 rfl (by rw [hl]; kernel_rfl) ?_
      exact hK _ _ rfl (Frm.refl _ _)
    refine owesL_cons (i' := 7) rfl ?_ ?_
    · refine o_q rfl (by kernel_rfl) (by kernel_rfl) (pl := []) (by kernel_rfl) fun us a wz hA hv hf hw K hK => ?_
      have s43 := (slot_in hA (t := 43) (by simp) (j := 5) (by kernel_rfl)).trans (hv 5 (by kernel_rfl))
      replace hw : ((fun _ w' => MidV B0 w' g A n c B m d rs hs ∧ Frm (fun _ => False) w w') : List Value → World → Prop) [] wz := hw
      clear hA hv
      have i1 := h1.out.frm hw.2 (safe_false _ _)
      have i2 := h2.out.frm hw.2 (safe_false _ _)
      have hsz := hw.2.size
      obtain ⟨A1, c1, e1, i1, _⟩ := i1
      obtain ⟨A2, c2, e2, i2, _⟩ := i2
      subst e1 e2
      clear hf hw
      go_wp2_with fail
      refine (copied_any r A1 A2 _ c1 _ c2 _ i1 i2).mono ?_
      rintro e w1 ⟨y1, y2, rfl, m1, m2, hp1⟩
      exact hK _ _ ⟨y1, y2, rfl, m1.old hsz, m2.old hsz⟩ (Frm.of_below hp1 _)
    refine owesL_cons (i' := 8) rfl ?_ ?_
    · refine o_q rfl (by kernel_rfl) (by kernel_rfl) (pl := []) (by kernel_rfl) fun us a wz hA hv hf hw K hK => ?_
      have s44 := slot_in hA (t := 44) (by simp) (j := 6) (by kernel_rfl)
      have u6 : ((fun u w' => ∃ y1 y2, u = .agg (recCells r.kind y1 y2 r.head).toArray ∧ Mine w.heap.size w' 68 37 r.before.length (row r.before) y1 ∧ Mine w.heap.size w' 68 37 r.after.length (row r.after) y2) : Value → World → Prop) (us 6) wz := hv 6 (by kernel_rfl)
      replace hw : ((fun _ w' => MidV B0 w' g A n c B m d rs hs ∧ Frm (fun _ => False) w w') : List Value → World → Prop) [] wz := hw
      clear hA hv
      obtain ⟨y1, y2, e6, m1, m2⟩ := u6
      replace s44 := s44.trans e6
      have hsz := hw.2.size
      have hyl := recCells_length r.kind y1 y2 r.head
      replace m1 := Lib.hid m1
      replace m2 := Lib.hid m2
      clear hf hw e6
      go_wp2
      rw [foldl_set0 (recCells r.kind y1 y2 r.head) _ (by rw [hyl]; rfl)]
      have hfa := (Frm.refl (fun _ => False) wz).alloc (.cells (recCells r.kind y1 y2 r.head).toArray 29)
      exact hK _ _ ⟨wz.heap.size, y1, y2, rfl, Blk.new wz _ _, hsz, m1.out.frm hfa fun _ h => h.elim, m2.out.frm hfa fun _ h => h.elim⟩ hfa
    refine owesL_cons (i' := 9) rfl ?_ ?_
    · refine o_p rfl (by kernel_rfl) (by kernel_rfl) (pl := []) (by kernel_rfl) fun us a wz hA hv hf hw K hK => ?_
      have s42 := (slot_in hA (t := 42) (by simp) (j := 4) (by kernel_rfl)).trans (hv 4 (by kernel_rfl))
      have s45 := slot_in hA (t := 45) (by simp) (j := 7) (by kernel_rfl)
      have u7 : ((fun u w' => ∃ x y1 y2, u = .slice (some ⟨x, 0, none⟩) 1 1 ∧ Blk w' x 29 (recCells r.kind y1 y2 r.head) ∧ w.heap.size ≤ x ∧ Mine w.heap.size w' 68 37 r.before.length (row r.before) y1 ∧ Mine w.heap.size w' 68 37 r.after.length (row r.after) y2) : Value → World → Prop) (us 7) wz := hv 7 (by kernel_rfl)
      replace hw : ((fun _ w' => MidV B0 w' g A n c B m d rs hs ∧ Frm (fun _ => False) w w') : List Value → World → Prop) [] wz := hw
      clear hA hv
      obtain ⟨x, y1, y2, e45, hbx, hxl, m1, m2⟩ := u7
      replace s45 := s45.trans e45
      have hM1 := hw.1
      have hyl := recCells_length r.kind y1 y2 r.head
      obtain ⟨css, hoA, hrA⟩ := hM1.recs
      have hap := hcne.out _ hM1
      refine wp_app appRecords rfl (ev s42) (ev s45) hoA (Own.of_blk (size := 36) hbx 1 (by rw [hyl]) (by decide)).rd (recCells_one _ _ _ _ m1.one m2.one) (by omega) fun A' c' w2 hown hf2 hat => ?_
      have hsf : Safe B0 wz (fun k => bl A = some k) := fun k hk hF hi => by
        rcases hi with hi | hi
        · have := hAB k hF; omega
        · exact own_notItem hoA (by decide) hF hi
      have hrv : RecV B0 w2 (recCells r.kind y1 y2 r.head) r := ⟨y1, y2, rfl, (m1.frm hf2 fun k hk => hF.out k (.inr hk)).itv hk1, (m2.frm hf2 fun k hk => hF.out k (.inr hk)).itv hk2⟩
      refine hK _ _ ⟨A', c', rfl⟩ ⟨A', c', rfl, hM1.blk.frm hf2 hap.1, ⟨css ++ [recCells r.kind y1 y2 r.head], by rw [List.flatten_append]; simpa using hown, (hrA.frm hf2 hsf).snoc hrv⟩, hM1.chain.frm hf2 fun b hb hb' => hap.2.2 b hb' hb, ?_⟩ (hf2.mono fun k _ h => .inr h)
      rcases hat with h | h
      · exact .inl h
      · exact .inr ⟨_, h, hw.2.size⟩
    refine owesL_cons (i' := 10) rfl ?_ ?_
    · refine o_pure rfl (by kernel_rfl) fun us a wz hA hv K hK => ?_
      have s38 := (slot_in hA (t := 38) (by simp) (j := 0) (by kernel_rfl)).trans (hv 0 (by kernel_rfl))
      clear hA hv
      go_wp2
      exact rfl
    refine owesL_cons (i' := 11) rfl ?_ ?_
    · refine o_pure rfl (by kernel_rfl) fun us a wz hA hv K hK => ?_
      have s47 := (slot_in hA (t := 47) (by simp) (j := 9) (by kernel_rfl)).trans (hv 9 (by kernel_rfl))
      clear hA hv
      go_wp2
      exact rfl
    refine owesL_cons (i' := 12) rfl ?_ ?_
    · refine o_p rfl (by kernel_rfl) (by kernel_rfl) (pl := [8]) (by kernel_rfl) fun us a wz hA hv hf hw K hK => ?_
      have s48 := (slot_in hA (t := 48) (by simp) (j := 10) (by kernel_rfl)).trans (hv 10 (by kernel_rfl))
      have s46 := slot_in hA (t := 46) (by simp) (j := 8) (by kernel_rfl)
      have u8 : ((fun u _ => ∃ A' c', u = .slice A' (n + 1) c') : Value → World → Prop) (us 8) wz := hv 8 (by kernel_rfl)
      replace hw : ((fun vs w' => ∃ A' c', vs = [.slice A' (n + 1) c'] ∧ Blk w' g 73 [.slice A n c, .slice B m d] ∧ (∃ css, Own w' 29 36 A' (n + 1) c' css.flatten ∧ RecsV B0 w' css (rs ++ [r])) ∧ Own w' 25 32 B m d (hrow hs) ∧ (bl A' = bl A ∨ ∃ b, bl A' = some b ∧ w.heap.size ≤ b)) : List Value → World → Prop) [us 8] wz := hw
      clear hA hv
      obtain ⟨A', c', e8, hb, hrec, hown, hat⟩ := hw
      have e8 : us 8 = _ := List.head_eq_of_cons_eq e8
      replace s46 := s46.trans e8
      have k0 : wz.cell? ⟨g, 0, none⟩ = some (.slice A n c) := hb.cell 0
      have k1 := hb.frozen 0
      have kb := hb.set_ 0 (.slice A' (n + 1) c')
      obtain ⟨css, hoA, hrA⟩ := hrec
      have neA := hoA.ne_blk hb (by decide)
      have neB := hown.ne_blk hb (by decide)
      have hsf : Safe B0 wz (fun k => k = g) := fun k hk hF hi => by
        subst hF
        rcases hi with hi | hi
        · omega
        · exact blk_notItem hb (by decide) hi
      replace hoA := Lib.hid hoA
      replace hrA := Lib.hid hrA
      replace hown := Lib.hid hown
      replace hat := Lib.hid hat
      replace hsf := Lib.hid hsf
      replace kb := Lib.hid kb
      clear u8 hf hb e8
      go_wp2
      have hf3 : Frm (fun k => k = g) wz (wz.setCell ⟨g, 0, none⟩ (.slice A' (n + 1) c')) := (Frm.refl (fun k => k = g) wz).setCell (p := ⟨g, 0, none⟩) (fun _ => rfl) _
      exact hK undef _ trivial ⟨A', c', ⟨kb.out, ⟨css, hoA.out.frm hf3 fun b hb e => neA (e ▸ hb), hrA.out.frm hf3 hsf.out⟩, hown.out.frm hf3 fun b hb e => neB (e ▸ hb)⟩, hat.out⟩ (hf3.mono fun k _ h => .inl h)
    exact owesL_nil
  case hV => exact Stabs.vt (.cons (stab_is _ _) (.cons (stab_is _ _) (.cons (stab_is _ _) (.cons (stab_is _ _) (.cons (stab_is _ _) (.cons (stab_is _ _) (.cons (fun _ _ _ ⟨y1, y2, e, m1, m2⟩ hf => ⟨y1, y2, e, m1.frm hf fun k hk => hF.out k hk, m2.frm hf fun k hk => hF.out k hk⟩) (.cons (fun _ _ _ ⟨x, y1, y2, e, h, hx, m1, m2⟩ hf => ⟨x, y1, y2, e, h.frm hf fun hk => by have := hF.out _ hk; omega, hx, m1.frm hf fun k hk => hF.out k hk, m2.frm hf fun k hk => hF.out k hk⟩) (.cons (stab_pure _ _) (.cons (stab_is _ _) (.cons (stab_is _ _) (.cons (stab_true _) (.nil)))))))))))))
  case hW =>
    refine StabWs.wt (.cons (fun _ _ _ h hf => ⟨h.1.quiet hf, h.2.trans hf fun _ _ h => h⟩) (.cons (fun vs w1 w2 h hf => ?_) (.cons (fun vs w1 w2 h hf => ?_) .nil)))
    · obtain ⟨A', c', e, hb, ⟨css, hoA, hrA⟩, hown, hat⟩ := h
      exact ⟨A', c', e, hb.frm hf fun h => h, ⟨css, hoA.frm hf fun _ _ h => h, hrA.frm hf (safe_false _ _)⟩, hown.frm hf fun _ _ h => h, hat⟩
    · obtain ⟨A', c', h, hat⟩ := h
      exact ⟨A', c', h.quiet hf, hat⟩
  case h0 =>
    exact ⟨hM.out.quiet (Frm.refl (fun _ => False) w).drew, (Frm.refl _ w).drew⟩
  intro usx wx hvx hwx hfx
  have qx0 : usx 0 = _ := hvx 0 (by decide)
  have qx1 : usx 1 = _ := hvx 1 (by decide)
  have qx2 : usx 2 = _ := hvx 2 (by decide)
  have qx3 : usx 3 = _ := hvx 3 (by decide)
  have qx4 : usx 4 = _ := hvx 4 (by decide)
  have qx5 : usx 5 = _ := hvx 5 (by decide)
  have qx6 : ((fun u w' => ∃ y1 y2, u = .agg (recCells r.kind y1 y2 r.head).toArray ∧ Mine w.heap.size w' 68 37 r.before.length (row r.before) y1 ∧ Mine w.heap.size w' 68 37 r.after.length (row r.after) y2) : Value → World → Prop) (usx 6) wx := hvx 6 (by decide)
  have qx7 : ((fun u w' => ∃ x y1 y2, u = .slice (some ⟨x, 0, none⟩) 1 1 ∧ Blk w' x 29 (recCells r.kind y1 y2 r.head) ∧ w.heap.size ≤ x ∧ Mine w.heap.size w' 68 37 r.before.length (row r.before) y1 ∧ Mine w.heap.size w' 68 37 r.after.length (row r.after) y2) : Value → World → Prop) (usx 7) wx := hvx 7 (by decide)
  have qx8 : ((fun u _ => ∃ A' c', u = .slice A' (n + 1) c') : Value → World → Prop) (usx 8) wx := hvx 8 (by decide)
  have qx9 : usx 9 = _ := hvx 9 (by decide)
  have qx10 : usx 10 = _ := hvx 10 (by decide)
  replace hwx : ((fun vs w' => ∃ A' c', MidV B0 w' g A' (n + 1) c' B m d (rs ++ [r]) hs ∧ (bl A' = bl A ∨ ∃ b, bl A' = some b ∧ w.heap.size ≤ b)) : List Value → World → Prop) [usx 8, usx 11] wx := hwx
  rw [fill_all (ds := [some 38, some 39, some 40, some 41, some 42, some 43, some 44, some 45, some 46, some 47, some 48, none]) (by kernel_rfl)]
  simp only [putAll, Act.put, List.setIfInBounds_toArray, List.set_cons_succ, List.set_cons_zero, Nat.reduceAdd, qx0, qx1, qx2, qx3, qx4, qx5, qx9, qx10]
  clear hvx qx0 qx1 qx2 qx3 qx4 qx5 qx9 qx10
  obtain ⟨A', c', hMx, hatx⟩ := hwx
  exact hQ _ _ _ _ _ _ _ _ _ _ _ A' c' _ hMx hatx ((Frm.refl _ _).drew.trans hfx fun _ _ h => h)
theorem namesOk_of {l : List Itm} (h : itemsOk l = true) : NamesOk l ∧ l.length ≤ 256 := by
  simp only [itemsOk, Bool.and_eq_true, List.all_eq_true, decide_eq_true_eq] at h
  refine ⟨fun x hx => ?_, h.2⟩
  obtain ⟨j, hj, rfl⟩ := List.getElem_of_mem hx
  have := h.1 j (List.mem_range.2 hj)
  rw [itemAt, List.getElem?_eq_getElem hj] at this
  simp only [Bool.and_eq_true] at this
  have h2 := this.1.1
  simp only [nameOk, Bool.and_eq_true, decide_eq_true_eq] at h2
  exact h2.1.1.2
theorem Rec.ok_names {r : Rec} (h : r.ok = true) : (NamesOk r.before ∧ r.before.length ≤ 256) ∧ NamesOk r.after ∧ r.after.length ≤ 256 := by
  simp only [Rec.ok, Bool.and_eq_true] at h
  exact ⟨namesOk_of h.1.1.2, namesOk_of h.1.2⟩
/-- a slice header's block is the old one, or new -/
def Kept (w : World) (A A' : Option Addr) : Prop := bl A' = bl A ∨ ∃ b, bl A' = some b ∧ w.heap.size ≤ b
def AppPost (S : Sha) (B0 : Nat) (w w' : World) (g : Nat) (A B : Option Addr) (rs : List Rec) (hs : List (List Int)) (r : Rec) (e : Ending) : Prop :=
  if appendOk rs r = true then e = .returned (.int .i64 0) ∧ ∃ A' c' B' d', HistV B0 w' g A' c' B' d' (rs ++ [r]) (hs ++ [link S hs r]) ∧ Frm (HistF g A B) w w' ∧ Kept w A A' ∧ Kept w B B'
  else e = .returned (.int .i64 10) ∧ Below w.heap.size w w'
theorem AppPost.yes {S : Sha} {B0 : Nat} {w w' : World} {g : Nat} {A B : Option Addr} {rs : List Rec} {hs : List (List Int)} {r : Rec} (hok : appendOk rs r = true) {A' : Option Addr} {c' : Nat} {B' : Option Addr} {d' : Nat} (h : HistV B0 w' g A' c' B' d' (rs ++ [r]) (hs ++ [link S hs r])) (hf : Frm (HistF g A B) w w') (h1 : Kept w A A') (h2 : Kept w B B') : AppPost S B0 w w' g A B rs hs r (.returned (.int .i64 0)) := by
  rw [AppPost, if_pos hok]; exact ⟨rfl, A', c', B', d', h, hf, h1, h2⟩
theorem AppPost.no {S : Sha} {B0 : Nat} {w w' : World} {g : Nat} {A B : Option Addr} {rs : List Rec} {hs : List (List Int)} {r : Rec} (hok : appendOk rs r = false) (hb : Below w.heap.size w w') : AppPost S B0 w w' g A B rs hs r (.returned (.int .i64 10)) := by
  rw [AppPost, if_neg (by rw [hok]; decide)]; exact ⟨rfl, hb⟩
set_option maxRecDepth 100000 in
set_option maxHeartbeats 2000000 in
theorem append_any (S : Sha) (B0 g : Nat) (A : Option Addr) (c : Nat) (B : Option Addr) (d : Nat) (rs : List Rec) (hs : List (List Int)) (r : Rec) (v1 v2 : Value) (w : World) (hC : Ctx S w) (hH : HistV B0 w g A c B d rs hs) (h1 : ItV B0 w v1 r.before) (h2 : ItV B0 w v2 r.after) (hlen : rs.length < 4096) :
    Calls Tryd.prog 10 #[.pointer (some ⟨g, 0, none⟩), .agg (recCells r.kind v1 v2 r.head).toArray] w fun e w' => AppPost S B0 w w' g A B rs hs r e := by
  have hb := Blk.new w 29 (recCells r.kind v1 v2 r.head)
  have hf0 := (Frm.refl (fun _ => False) w).alloc (.cells (recCells r.kind v1 v2 r.head).toArray 29)
  have hC0 := hC.quiet hf0
  have hH0 := hH.quiet hf0
  have i1 := h1.frm hf0 (safe_false _ _)
  have i2 := h2.frm hf0 (safe_false _ _)
  have hgl := hH.g_lt
  replace hb := Lib.hid hb
  replace hf0 := Lib.hid hf0
  replace hC0 := Lib.hid hC0
  replace hH0 := Lib.hid hH0
  replace i1 := Lib.hid i1
  replace i2 := Lib.hid i2
  replace hgl := Lib.hid hgl
  clear hC hH h1 h2
  go_enter Tryd.func10, Tryd.ntmps10
  go_wp2
  cases hro : r.ok with
  | false =>
    have hno : appendOk rs r = false := by rw [appendOk, hro]; rfl
    replace hno := Lib.hid hno
    refine append_r1a hH0.out hb.out i1.out i2.out hro ?_
    intro x6 x7 x8 x9 x10 x11 x12 x13 x14 x15 x16 w2 hf2
    replace hf2 := Lib.hid (hf0.out.trans hf2 fun _ _ h => h)
    go_wp2
    go_ret
    exact AppPost.no hno.out hf2.out.below
  | true =>
  cases heq : itemsEq r.before (nowOf rs) with
  | false =>
    have hno : appendOk rs r = false := by rw [appendOk, hro, heq]; rfl
    replace hno := Lib.hid hno
    refine append_r1b hH0.out hb.out i1.out i2.out hro heq ?_
    intro x6 x7 x8 x9 x10 x11 x12 x13 x14 x15 x16 w2 hf2
    replace hf2 := Lib.hid (hf0.out.trans hf2 fun _ _ h => h)
    go_wp2
    go_ret
    exact AppPost.no hno.out hf2.out.below
  | true =>
    have hyes : appendOk rs r = true := by rw [appendOk, hro, heq]; rfl
    obtain ⟨⟨hn1, hl1⟩, hn2, hl2⟩ := Rec.ok_names hro
    replace hyes := Lib.hid hyes
    refine append_r1c hH0.out hb.out i1.out i2.out hro heq ?_
    intro x6 x7 x8 x9 x10 x11 x12 x13 x14 x15 x16 w2 hf2
    have hC2 := hC0.out.quiet hf2
    have hH2 := hH0.out.quiet hf2
    have hb2 := hb.out.frm hf2 fun h => h
    have j1 := i1.out.frm hf2 (safe_false _ _)
    have j2 := i2.out.frm hf2 (safe_false _ _)
    have hs2 := hf2.size
    have c0 : w2.cell? ⟨g, 0, none⟩ = some (.slice A rs.length c) := hH2.blk.cell 0
    have hne : ((rs.length : Int) == 4096) = false := by rw [beq_eq_false_iff_ne]; omega
    replace hf2 := Lib.hid (hf0.out.trans hf2 fun _ _ h => h)
    replace hC2 := Lib.hid hC2
    replace hH2 := Lib.hid hH2
    replace hb2 := Lib.hid hb2
    replace j1 := Lib.hid j1
    replace j2 := Lib.hid j2
    replace hn1 := Lib.hid hn1
    replace hn2 := Lib.hid hn2
    go_wp2
    refine append_r5 hC2.out hH2.out hb2.out j1.out j2.out hn1.out hn2.out hl1 hl2 ?_
    intro x24 x25 x26 x27 x28 x29 x30 x31 x32 x33 x34 x35 x36 x37 B' d' w3 hM3 hat3 hf3
    have hgf : ∀ k, HistF g A B k → k < w.heap.size := hgl.out
    have hsw : w.heap.size < w2.heap.size := hb2.out.lt
    have hsafe2 := hH2.out.safe
    have hb3 := hb2.out.frm hf3 fun h => by have := hgf _ h; omega
    have k1 := j1.out.frm hf3 hsafe2
    have k2 := j2.out.frm hf3 hsafe2
    have hF3 : Frm (HistF g A B) w w3 := (hf2.out.mono (G := HistF g A B) fun _ _ h => h.elim).trans hf3 fun _ _ h => h
    have hB3 : Kept w B B' := by
      rcases hat3 with e | ⟨b, e, hb⟩
      · exact .inl e
      · exact .inr ⟨b, e, by omega⟩
    have hs3 := hF3.size
    replace hM3 := Lib.hid hM3
    replace hb3 := Lib.hid hb3
    replace k1 := Lib.hid k1
    replace k2 := Lib.hid k2
    replace hF3 := Lib.hid hF3
    replace hB3 := Lib.hid hB3
    clear hat3 hf3 hsafe2 c0
    go_wp2
    refine append_r6 hM3.out hb3.out k1.out k2.out (by omega) hH2.out.gB hH2.out.aB ?_
    intro x38 x39 x40 x41 x42 x43 x44 x45 x46 x47 x48 A' c' w4 hM4 hat4 hf4
    have hF4 : Frm (HistF g A B) w w4 := hF3.out.trans hf4 fun b hb h => by
      rcases h with h | h
      · exact .inl h
      · exact .inr (.inl h)
    have hA4 : Kept w A A' := by
      rcases hat4 with e | ⟨b, e, hb⟩
      · exact .inl e
      · exact .inr ⟨b, e, by omega⟩
    have hV : HistV B0 w4 g A' c' B' d' (rs ++ [r]) (hs ++ [link S hs r]) := by
      have hll : (rs ++ [r]).length = rs.length + 1 := by simp
      refine ⟨by rw [hll]; exact hM4.blk, by rw [hll]; exact hM4.recs, by rw [hll]; exact hM4.chain, by rw [hll]; simp [hH2.out.hl], fun h hh => ?_, by rw [hll]; omega, hH2.out.gB, fun b hb => ?_, fun b hb => ?_⟩
      · rcases List.mem_append.1 hh with hh | hh
        · exact hH2.out.h32 h hh
        · rw [List.mem_singleton.1 hh]; exact link_length ..
      · rcases hA4 with e | ⟨b', e, hb'⟩
        · exact hH2.out.aB b (e ▸ hb)
        · rw [e] at hb; injection hb with hb
          have := hH2.out.gB
          have := hgf g (.inl rfl)
          omega
      · rcases hB3.out with e | ⟨b', e, hb'⟩
        · exact hH2.out.bB b (e ▸ hb)
        · rw [e] at hb; injection hb with hb
          have := hH2.out.gB
          have := hgf g (.inl rfl)
          omega
    replace hV := Lib.hid hV
    replace hF4 := Lib.hid hF4
    replace hA4 := Lib.hid hA4
    clear hM4 hat4 hf4
    go_wp2
    go_ret
    exact AppPost.yes hyes.out hV.out hF4.out hA4.out hB3.out
end Go.Proofs.YtmajnoefddbflaaDoor
