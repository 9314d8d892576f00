/- history.Record: copied. -/
import Derived.Test.YtmajnoefddbflaaDoorLb
import Derived.Test.YtmajnoefddbflaaDoorProg
import Derived.Test.YtmajnoefddbflaaDoorRcd
import Derived.Test.YtmajnoefddbflaaDoorClo
import Derived.WalkKit
import Derived.WalkSpells
import Derived.StillTactics
import Derived.Laws.Pointers
import Derived.Lib.Hide
import Derived.KernelRfl
namespace Go.Proofs.YtmajnoefddbflaaDoor
open Go.RowKit

/-- a slice that was made behind B0: it owns its row -/
def Mine (B0 : Nat) (w : World) (e size n : Nat) (xs : List Value) (v : Value) : Prop := ∃ A c, v = .slice A n c ∧ Own w e size A n c xs ∧ ∀ b, bl A = some b → B0 ≤ b
theorem Mine.frm {F : Nat → Prop} {B0 : Nat} {w w' : World} {e size n : Nat} {xs : List Value} {v : Value} (h : Mine B0 w e size n xs v) (hf : Frm F w w') (hF : ∀ k, F k → k < B0) : Mine B0 w' e size n xs v := by
  obtain ⟨A, c, e, ho, hb⟩ := h
  exact ⟨A, c, e, ho.frm hf fun b hb' hFb => by have := hb b hb'; have := hF b hFb; omega, hb⟩
theorem Mine.old {B0 B1 : Nat} {w : World} {e size n : Nat} {xs : List Value} {v : Value} (h : Mine B0 w e size n xs v) (hB : B1 ≤ B0) : Mine B1 w e size n xs v := by
  obtain ⟨A, c, e, ho, hb⟩ := h
  exact ⟨A, c, e, ho, fun b hb' => Nat.le_trans hB (hb b hb')⟩
theorem Mine.one {B0 : Nat} {w : World} {e size n : Nat} {xs : List Value} {v : Value} (h : Mine B0 w e size n xs v) : v.oneCell' = true := by
  obtain ⟨A, c, e, _⟩ := h; rw [e]; rfl
def zeroRec : List Value := recCells 0 (.slice none 0 0) (.slice none 0 0) ⟨0, List.replicate 32 0, by simp⟩
set_option maxRecDepth 100000 in
set_option maxHeartbeats 1000000 in
theorem copied_any (r : Rec) (A B : Option Addr) (n c m d : Nat) (w : World) (hA : ItS w A n r.before) (hB : ItS w B m r.after) :
    Calls Tryd.prog 33 #[.agg (recCells r.kind (.slice A n c) (.slice B m d) r.head).toArray] w fun e w' => ∃ v1 v2, e = .returned (.agg (recCells r.kind v1 v2 r.head).toArray) ∧ Mine w.heap.size w' 68 37 n (row r.before) v1 ∧ Mine w.heap.size w' 68 37 m (row r.after) v2 ∧ Below w.heap.size w w' := by
  have hb0 := Blk.new w 29 (recCells r.kind (.slice A n c) (.slice B m d) r.head)
  have hf0 := (Frm.refl (fun _ => False) w).alloc (.cells (recCells r.kind (.slice A n c) (.slice B m d) r.head).toArray 29)
  have hb1 := hb0.alloc (.cells zeroRec.toArray 29)
  have hz1 := Blk.new (w.alloc (.cells (recCells r.kind (.slice A n c) (.slice B m d) r.head).toArray 29)) 29 zeroRec
  have hf1 := hf0.alloc (.cells zeroRec.toArray 29)
  have hA1 := hA.frm hf1 fun _ _ h => h
  have hB1 := hB.frm hf1 fun _ _ h => h
  have hzl : zeroRec.length = 36 := recCells_length ..
  rw [show (w.alloc (.cells (recCells r.kind (.slice A n c) (.slice B m d) r.head).toArray 29)).heap.size = w.heap.size + 1 by simp] at hz1
  replace hb1 := Lib.hid hb1
  replace hz1 := Lib.hid hz1
  replace hf1 := Lib.hid hf1
  replace hA1 := Lib.hid hA1
  replace hB1 := Lib.hid hB1
  replace hzl := Lib.hid hzl
  clear hb0 hf0 hA hB
  go_enter Tryd.func33, Tryd.ntmps33
  go_wp2
  generalize hws : World.alloc _ _ = ws
  have hb : Blk ws w.heap.size 29 (recCells r.kind (.slice A n c) (.slice B m d) r.head) := by rw [← hws]; exact hb1.out
  have hz : Blk ws (w.heap.size + 1) 29 zeroRec := by rw [← hws]; exact hz1.out
  have hf : Frm (fun _ => False) w ws := by rw [← hws]; exact hf1.out
  have hA : ItS ws A n r.before := by rw [← hws]; exact hA1.out
  have hB : ItS ws B m r.after := by rw [← hws]; exact hB1.out
  clear hws hb1 hz1 hf1 hA1 hB1
  replace hb := Lib.hid hb
  replace hz := Lib.hid hz
  replace hf := Lib.hid hf
  replace hA := Lib.hid hA
  replace hB := Lib.hid hB
  have hsz : w.heap.size + 1 < ws.heap.size := hz.out.lt
  apply wp_region_typed (fun k => k = w.heap.size) (nf [1, 2, 4, 5, 7, 9]) [7, 9] (vt [(Is _), (Is _), (fun u w' => Mine ws.heap.size w' 68 37 n (row r.before) u), (Is _), (Is _), (fun u w' => Mine ws.heap.size w' 68 37 m (row r.after) u), (Is _), (fun _ _ => True), (Is _), (fun _ _ => True)]) (wt [(fun _ w' => Blk w' w.heap.size 29 (recCells r.kind (.slice A n c) (.slice B m d) r.head) ∧ ItS w' A n r.before ∧ ItS w' B m r.after), (fun _ w' => ∃ v1, Blk w' w.heap.size 29 (recCells r.kind v1 (.slice B m d) r.head) ∧ Mine ws.heap.size w' 68 37 n (row r.before) v1), (fun _ w' => ∃ v1 v2, Blk w' w.heap.size 29 (recCells r.kind v1 v2 r.head) ∧ Mine ws.heap.size w' 68 37 n (row r.before) v1 ∧ Mine ws.heap.size w' 68 37 m (row r.after) v2)]) (by kernel_rfl) (by kernel_rfl) (by kernel_rfl) (by kernel_rfl) (hop := owesL_all ?hop)
  case hop =>
    refine owesL_cons (i' := 1) rfl ?_ ?_
    · refine o_pure rfl (by kernel_rfl) fun us a wz hA hv K hK => ?_
      have s1 := slot_out hA (t := 1) (by kernel_rfl)
      clear hA hv
      go_wp2
      exact rfl
    refine owesL_cons (i' := 2) rfl ?_ ?_
    · refine o_q rfl (by kernel_rfl) (by kernel_rfl) (pl := []) (by kernel_rfl) fun us a wz hA hv hf hw K hK => ?_
      have s3 := (slot_in hA (t := 3) (by simp) (j := 0) (by kernel_rfl)).trans (hv 0 (by kernel_rfl))
      replace hw : ((fun _ w' => Blk w' w.heap.size 29 (recCells r.kind (.slice A n c) (.slice B m d) r.head) ∧ ItS w' A n r.before ∧ ItS w' B m r.after) : List Value → World → Prop) [] wz := hw
      clear hA hv
      have k0 : wz.cell? ⟨w.heap.size, 1, none⟩ = some (.slice A n c) := hw.1.cell 1
      clear hf hw
      go_wp2
      exact hK _ _ rfl (Frm.refl _ _)
    refine owesL_cons (i' := 3) rfl ?_ ?_
    · refine o_q rfl (by kernel_rfl) (by kernel_rfl) (pl := []) (by kernel_rfl) fun us a wz hA hv hf hw K hK => ?_
      have s4 := (slot_in hA (t := 4) (by simp) (j := 1) (by kernel_rfl)).trans (hv 1 (by kernel_rfl))
      replace hw : ((fun _ w' => Blk w' w.heap.size 29 (recCells r.kind (.slice A n c) (.slice B m d) r.head) ∧ ItS w' A n r.before ∧ ItS w' B m r.after) : List Value → World → Prop) [] wz := hw
      clear hA hv
      have hsz2 := hf.size
      clear hf
      go_wp2_with fail
      refine (cloneItem_any A n c _ _ hw.2.1.1 (row_one _) hw.2.1.2.2).mono ?_
      rintro e w1 ⟨v, rfl, A', c', rfl, hown, hbel, hnew⟩
      exact hK _ _ ⟨A', c', rfl, hown, fun b hb => Nat.le_trans hsz2 (hnew b hb)⟩ (Frm.of_below hbel _)
    refine owesL_cons (i' := 4) rfl ?_ ?_
    · refine o_pure rfl (by kernel_rfl) fun us a wz hA hv K hK => ?_
      have s1 := slot_out hA (t := 1) (by kernel_rfl)
      clear hA hv
      go_wp2
      exact rfl
    refine owesL_cons (i' := 5) rfl ?_ ?_
    · refine o_q rfl (by kernel_rfl) (by kernel_rfl) (pl := []) (by kernel_rfl) fun us a wz hA hv hf hw K hK => ?_
      have s6 := (slot_in hA (t := 6) (by simp) (j := 3) (by kernel_rfl)).trans (hv 3 (by kernel_rfl))
      replace hw : ((fun _ w' => Blk w' w.heap.size 29 (recCells r.kind (.slice A n c) (.slice B m d) r.head) ∧ ItS w' A n r.before ∧ ItS w' B m r.after) : List Value → World → Prop) [] wz := hw
      clear hA hv
      have k0 : wz.cell? ⟨w.heap.size, 2, none⟩ = some (.slice B m d) := hw.1.cell 2
      clear hf hw
      go_wp2
      exact hK _ _ rfl (Frm.refl _ _)
    refine owesL_cons (i' := 6) rfl ?_ ?_
    · refine o_q rfl (by kernel_rfl) (by kernel_rfl) (pl := []) (by kernel_rfl) fun us a wz hA hv hf hw K hK => ?_
      have s7 := (slot_in hA (t := 7) (by simp) (j := 4) (by kernel_rfl)).trans (hv 4 (by kernel_rfl))
      replace hw : ((fun _ w' => Blk w' w.heap.size 29 (recCells r.kind (.slice A n c) (.slice B m d) r.head) ∧ ItS w' A n r.before ∧ ItS w' B m r.after) : List Value → World → Prop) [] wz := hw
      clear hA hv
      have hsz2 := hf.size
      clear hf
      go_wp2_with fail
      refine (cloneItem_any B m d _ _ hw.2.2.1 (row_one _) hw.2.2.2.2).mono ?_
      rintro e w1 ⟨v, rfl, A', c', rfl, hown, hbel, hnew⟩
      exact hK _ _ ⟨A', c', rfl, hown, fun b hb => Nat.le_trans hsz2 (hnew b hb)⟩ (Frm.of_below hbel _)
    refine owesL_cons (i' := 7) rfl ?_ ?_
    · refine o_pure rfl (by kernel_rfl) fun us a wz hA hv K hK => ?_
      have s1 := slot_out hA (t := 1) (by kernel_rfl)
      clear hA hv
      go_wp2
      exact rfl
    refine owesL_cons (i' := 8) rfl ?_ ?_
    · refine o_p rfl (by kernel_rfl) (by kernel_rfl) (pl := []) (by kernel_rfl) fun us a wz hA hv hf hw K hK => ?_
      have s9 := (slot_in hA (t := 9) (by simp) (j := 6) (by kernel_rfl)).trans (hv 6 (by kernel_rfl))
      have s5 := slot_in hA (t := 5) (by simp) (j := 2) (by kernel_rfl)
      have u2 : ((fun u w' => Mine ws.heap.size w' 68 37 n (row r.before) u) : Value → World → Prop) (us 2) wz := hv 2 (by kernel_rfl)
      replace hw : ((fun _ w' => Blk w' w.heap.size 29 (recCells r.kind (.slice A n c) (.slice B m d) r.head) ∧ ItS w' A n r.before ∧ ItS w' B m r.after) : List Value → World → Prop) [] wz := hw
      clear hA hv
      obtain ⟨A1, c1, e1, ho1, hn1⟩ := u2
      replace s5 := s5.trans e1
      have k0 : wz.cell? ⟨w.heap.size, 1, none⟩ = some (.slice A n c) := hw.1.cell 1
      have k1 := hw.1.frozen 1
      have kb := Lib.hid (hw.1.set_ 1 (.slice A1 n c1))
      replace ho1 := Lib.hid ho1
      replace hn1 := Lib.hid hn1
      clear hw hf e1
      go_wp2
      have hf3 : Frm (fun k => k = w.heap.size) wz (wz.setCell ⟨w.heap.size, 1, none⟩ (.slice A1 n c1)) := (Frm.refl (fun k => k = w.heap.size) wz).setCell (p := ⟨w.heap.size, 1, none⟩) (fun _ => rfl) _
      exact hK undef _ trivial ⟨_, kb.out, A1, c1, rfl, ho1.out.frm hf3 fun b hb e => by have := hn1.out b hb; omega, hn1.out⟩ hf3
    refine owesL_cons (i' := 9) rfl ?_ ?_
    · refine o_pure rfl (by kernel_rfl) fun us a wz hA hv K hK => ?_
      have s1 := slot_out hA (t := 1) (by kernel_rfl)
      clear hA hv
      go_wp2
      exact rfl
    refine owesL_cons (i' := 10) rfl ?_ ?_
    · refine o_p rfl (by kernel_rfl) (by kernel_rfl) (pl := [7]) (by kernel_rfl) fun us a wz hA hv hf hw K hK => ?_
      have s10 := (slot_in hA (t := 10) (by simp) (j := 8) (by kernel_rfl)).trans (hv 8 (by kernel_rfl))
      have s8 := slot_in hA (t := 8) (by simp) (j := 5) (by kernel_rfl)
      have u5 : ((fun u w' => Mine ws.heap.size w' 68 37 m (row r.after) u) : Value → World → Prop) (us 5) wz := hv 5 (by kernel_rfl)
      replace hw : ((fun _ w' => ∃ v1, Blk w' w.heap.size 29 (recCells r.kind v1 (.slice B m d) r.head) ∧ Mine ws.heap.size w' 68 37 n (row r.before) v1) : List Value → World → Prop) [us 7] wz := hw
      clear hA hv
      obtain ⟨v1, hbv, hm1⟩ := hw
      obtain ⟨A1, c1, e1, ho1, hn1⟩ := u5
      replace s8 := s8.trans e1
      have k0 : wz.cell? ⟨w.heap.size, 2, none⟩ = some (.slice B m d) := hbv.cell 2
      have k1 := hbv.frozen 2
      have kb := Lib.hid (hbv.set_ 2 (.slice A1 m c1))
      replace ho1 := Lib.hid ho1
      replace hn1 := Lib.hid hn1
      replace hm1 := Lib.hid hm1
      clear hbv hf e1
      go_wp2
      have hf3 : Frm (fun k => k = w.heap.size) wz (wz.setCell ⟨w.heap.size, 2, none⟩ (.slice A1 m c1)) := (Frm.refl (fun k => k = w.heap.size) wz).setCell (p := ⟨w.heap.size, 2, none⟩) (fun _ => rfl) _
      exact hK undef _ trivial ⟨_, _, kb.out, hm1.out.frm hf3 fun k hk => by omega, A1, c1, rfl, ho1.out.frm hf3 fun b hb e => by have := hn1.out b hb; omega, hn1.out⟩ hf3
    exact owesL_nil
  case hV => exact Stabs.vt (.cons (stab_is _ _) (.cons (stab_is _ _) (.cons (fun _ _ _ h hf => h.frm hf fun k hk => by omega) (.cons (stab_is _ _) (.cons (stab_is _ _) (.cons (fun _ _ _ h hf => h.frm hf fun k hk => by omega) (.cons (stab_is _ _) (.cons (stab_true _) (.cons (stab_is _ _) (.cons (stab_true _) (.nil)))))))))))
  case hW =>
    refine StabWs.wt (.cons (fun _ _ _ h hf => ⟨h.1.frm hf fun h => h, h.2.1.frm hf fun _ _ h => h, h.2.2.frm hf fun _ _ h => h⟩) (.cons (fun vs w1 w2 h hf => ?_) (.cons (fun vs w1 w2 h hf => ?_) .nil)))
    · obtain ⟨v1, hb, h1⟩ := h
      exact ⟨v1, hb.frm hf fun h => h, h1.frm hf fun _ h => h.elim⟩
    · obtain ⟨v1, v2, hb, h1, h2⟩ := h
      exact ⟨v1, v2, hb.frm hf fun h => h, h1.frm hf fun _ h => h.elim, h2.frm hf fun _ h => h.elim⟩
  case h0 =>
    exact ⟨hb.out.frm (Frm.refl (fun _ => False) ws).drew fun h => h, hA.out.frm (Frm.refl (fun _ => False) ws).drew fun _ _ h => h, hB.out.frm (Frm.refl (fun _ => False) ws).drew fun _ _ h => h⟩
  intro usx wx hvx hwx hfx
  have qx0 : usx 0 = _ := hvx 0 (by decide)
  have qx1 : usx 1 = _ := hvx 1 (by decide)
  have qx2 : ((fun u w' => Mine ws.heap.size w' 68 37 n (row r.before) u) : Value → World → Prop) (usx 2) wx := hvx 2 (by decide)
  have qx3 : usx 3 = _ := hvx 3 (by decide)
  have qx4 : usx 4 = _ := hvx 4 (by decide)
  have qx5 : ((fun u w' => Mine ws.heap.size w' 68 37 m (row r.after) u) : Value → World → Prop) (usx 5) wx := hvx 5 (by decide)
  have qx6 : usx 6 = _ := hvx 6 (by decide)
  have qx8 : usx 8 = _ := hvx 8 (by decide)
  replace hwx : ((fun _ w' => ∃ v1 v2, Blk w' w.heap.size 29 (recCells r.kind v1 v2 r.head) ∧ Mine ws.heap.size w' 68 37 n (row r.before) v1 ∧ Mine ws.heap.size w' 68 37 m (row r.after) v2) : List Value → World → Prop) [usx 7, usx 9] wx := hwx
  rw [fill_all (ds := [some 3, some 4, some 5, some 6, some 7, some 8, some 9, none, some 10, none]) (by kernel_rfl)]
  simp only [putAll, Act.put, List.setIfInBounds_toArray, List.set_cons_succ, List.set_cons_zero, Nat.reduceAdd, qx0, qx1, qx3, qx4, qx6, qx8]
  clear hvx qx0 qx1 qx3 qx4 qx6 qx8
  obtain ⟨v1, v2, hbx, hm1, hm2⟩ := hwx
  have hzx := hz.out.frm ((Frm.refl _ ws).drew.trans hfx fun _ _ h => h) (fun e => by omega)
  have hfx2 := hf.out.drew.trans hfx fun b hb h => by omega
  have hl1 := recCells_length r.kind v1 v2 r.head
  have h1 := recCells_one r.kind v1 v2 r.head hm1.one hm2.one
  have hrg := hbx.range
  have hth := hzx.there' 0 36 (by rw [hzl.out]; exact Nat.le_refl _)
  replace hm1 := Lib.hid hm1
  replace hm2 := Lib.hid hm2
  replace hzx := Lib.hid hzx
  replace hfx2 := Lib.hid hfx2
  replace hbx := Lib.hid hbx
  clear hfx
  go_wp2_with first
    | refine list_load 29 hrg Tryd.underlying29 rfl (by rw [hl1]; kernel_rfl) rfl rfl rfl ?_
    | refine list_store 29 (by rw [hl1]; exact hth) (by rw [hl1]; kernel_rfl) h1 rfl rfl rfl rfl ?_
  have hbF : Blk (wx.setCells (w.heap.size + 1) 0 (recCells r.kind v1 v2 r.head)) (w.heap.size + 1) 29 (recCells r.kind v1 v2 r.head) := by
    have := hzx.out.setCells (o := 0) (vs := recCells r.kind v1 v2 r.head) (by rw [hl1, hzl.out]; exact Nat.le_refl _)
    rw [hl1, List.drop_of_length_le (by rw [hzl.out]; exact Nat.le_refl _)] at this
    simpa using this
  have hfF : Frm (fun k => k = w.heap.size + 1) wx (wx.setCells (w.heap.size + 1) 0 (recCells r.kind v1 v2 r.head)) := (Frm.refl (fun k => k = w.heap.size + 1) wx).setCells (fun _ => rfl) 0 _
  refine bodyPost_ret (results_cell_range rfl _ _ (b := w.heap.size + 1) (o := 0) (cs := recCells r.kind v1 v2 r.head) rfl hbF.range Tryd.underlying29 rfl (by rw [hl1]; kernel_rfl)) rfl ?_
  exact ⟨v1, v2, rfl, (hm1.out.frm hfF fun k hk => by omega).old (by omega), (hm2.out.frm hfF fun k hk => by omega).old (by omega), (hfx2.out.trans hfF fun b hb h => by omega).below⟩
end Go.Proofs.YtmajnoefddbflaaDoor
