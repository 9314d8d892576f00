/- anchor: Begin, End, Cancel, Audit, Settle, Next. -/
import Derived.Test.YtmajnoefddbflaaDoorLb
import Derived.Test.YtmajnoefddbflaaDoorProg
import Derived.Test.YtmajnoefddbflaaDoorAnc
import Derived.WalkKit
import Derived.WalkSpells
import Derived.StillTactics
import Derived.Laws.Pointers
import Derived.Lib.Hide
import Derived.KernelRfl
namespace Go.Proofs.YtmajnoefddbflaaDoor
open Go.RowKit

set_option maxRecDepth 100000 in
set_option maxHeartbeats 1000000 in
theorem begin_busy (g : Nat) (m n : Mrk) (t : List Int) (w : World) (h : RegV w g m n true) :
    Calls Tryd.prog 11 #[.pointer (some ⟨g, 0, none⟩), hashV t] w fun e w' => e = .returned (.int .i64 50) ∧ Below w.heap.size w w' := by
  have hc : ∀ o, (w.alloc o).cell? ⟨g, 66, none⟩ = some (.bool true) := fun o => (h.frm ((Frm.refl (fun _ => False) w).alloc o) fun h => h).c66
  have hf := fun o => (Frm.refl (fun _ => False) w).alloc o
  replace h := Lib.hid h
  replace hf := Lib.hid hf
  unfold hashV
  go_enter Tryd.func11, Tryd.ntmps11
  go_wp2
  go_ret
  exact ⟨rfl, (hf.out _).below⟩
set_option maxRecDepth 100000 in
set_option maxHeartbeats 1000000 in
theorem begin_free (g : Nat) (m n : Mrk) (t : List Int) (ht : t.length = 32) (w : World) (h : RegV w g m n false) (hc0 : 0 ≤ m.count) (hc1 : m.count ≤ 1099511627776) :
    Calls Tryd.prog 11 #[.pointer (some ⟨g, 0, none⟩), hashV t] w fun e w' => e = .returned (.int .i64 0) ∧ RegV w' g m ⟨m.count + 1, t, ht⟩ true ∧ Frm (fun k => k = g) w w' := by
  have hc : ∀ o, (w.alloc o).cell? ⟨g, 66, none⟩ = some (.bool false) := fun o => (h.frm ((Frm.refl (fun _ => False) w).alloc o) fun h => h).c66
  have hf := (Frm.refl (fun _ => False) w).alloc (.cells (nums .u8 t).toArray 25)
  have hb := Blk.new w 25 (nums .u8 t)
  have h1 := h.frm hf (fun h => h)
  have hg : g < w.heap.size := Blk.lt h
  have e1 : IntKind.i64.wrap (m.count + 1) = m.count + 1 := IntWalk.i64_in _ (by omega)
  obtain ⟨q, hq⟩ : ∃ q : Mrk, q = ⟨m.count + 1, t, ht⟩ := ⟨_, rfl⟩
  have h32 : (nums .u8 t).length = 32 := by rw [nums_length]; exact ht
  have hql := q.len
  have hqc : q.cells = .int .i64 (m.count + 1) :: nums .u8 t := by rw [hq]; rfl
  have hfold := mark_fold (m.count + 1) t ht
  rw [← hq] at hfold ⊢
  replace hq := Lib.hid hq
  replace h := Lib.hid h
  replace h1 := Lib.hid h1
  replace hf := Lib.hid hf
  replace hb := Lib.hid hb
  replace hqc := Lib.hid hqc
  replace hfold := Lib.hid hfold
  unfold hashV
  go_enter Tryd.func11, Tryd.ntmps11
  go_wp2
  apply wp_region_typed (fun k => k = g) (nf [6, 8, 9, 12, 15]) [12, 15] (vt [(Is _), (Is _), (Is _), (Is _), (Is _), (Is _), (Is _), (Is _), (Is _), (Is (.agg q.cells.toArray)), (Is _), (Is _), (fun _ _ => True), (Is _), (Is _), (fun _ _ => True)]) (wt [(fun _ w' => RegV w' g m n false ∧ Blk w' w.heap.size 25 (nums .u8 t)), (fun _ w' => RegV w' g m q false), (fun _ w' => RegV w' g m q true)]) (by kernel_rfl) (by kernel_rfl) (by kernel_rfl) (by kernel_rfl) (hop := owesL_all ?hop)
  case hop =>
    refine owesL_cons (i' := 1) rfl ?_ ?_
    · refine o_pure rfl (by kernel_rfl) fun us a wz hA hv K hK => ?_
      have s0 := slot_out hA (t := 0) (by kernel_rfl)
      clear hA hv
      go_wp2
      exact rfl
    refine owesL_cons (i' := 2) rfl ?_ ?_
    · refine o_pure rfl (by kernel_rfl) fun us a wz hA hv K hK => ?_
      have s0 := slot_out hA (t := 0) (by kernel_rfl)
      clear hA hv
      go_wp2
      exact rfl
    refine owesL_cons (i' := 3) rfl ?_ ?_
    · refine o_pure rfl (by kernel_rfl) fun us a wz hA hv K hK => ?_
      have s0 := slot_out hA (t := 0) (by kernel_rfl)
      clear hA hv
      go_wp2
      exact rfl
    refine owesL_cons (i' := 4) rfl ?_ ?_
    · refine o_pure rfl (by kernel_rfl) fun us a wz hA hv K hK => ?_
      have s11 := (slot_in hA (t := 11) (by simp) (j := 2) (by kernel_rfl)).trans (hv 2 (by kernel_rfl))
      clear hA hv
      go_wp2
      exact rfl
    refine owesL_cons (i' := 5) rfl ?_ ?_
    · refine o_pure rfl (by kernel_rfl) fun us a wz hA hv K hK => ?_
      have s12 := (slot_in hA (t := 12) (by simp) (j := 3) (by kernel_rfl)).trans (hv 3 (by kernel_rfl))
      clear hA hv
      go_wp2
      exact rfl
    refine owesL_cons (i' := 6) rfl ?_ ?_
    · refine o_pure rfl (by kernel_rfl) fun us a wz hA hv K hK => ?_
      have s13 := (slot_in hA (t := 13) (by simp) (j := 4) (by kernel_rfl)).trans (hv 4 (by kernel_rfl))
      clear hA hv
      go_wp2
      exact rfl
    refine owesL_cons (i' := 7) rfl ?_ ?_
    · refine o_q rfl (by kernel_rfl) (by kernel_rfl) (pl := []) (by kernel_rfl) fun us a wz hA hv hf hw K hK => ?_
      have s14 := (slot_in hA (t := 14) (by simp) (j := 5) (by kernel_rfl)).trans (hv 5 (by kernel_rfl))
      replace hw : ((fun _ w' => RegV w' g m n false ∧ Blk w' w.heap.size 25 (nums .u8 t)) : List Value → World → Prop) [] wz := hw
      clear hA hv
      have k0 := hw.1.mk0 0 _ rfl
      rw [Nat.zero_add] at k0
      clear hf hw
      go_wp2
      exact hK _ _ rfl (Frm.refl _ _)
    refine owesL_cons (i' := 8) rfl ?_ ?_
    · refine o_pure rfl (by kernel_rfl) fun us a wz hA hv K hK => ?_
      have s15 := (slot_in hA (t := 15) (by simp) (j := 6) (by kernel_rfl)).trans (hv 6 (by kernel_rfl))
      clear hA hv
      go_wp2
      exact rfl
    refine owesL_cons (i' := 9) rfl ?_ ?_
    · refine o_q rfl (by kernel_rfl) (by kernel_rfl) (pl := []) (by kernel_rfl) fun us a wz hA hv hf hw K hK => ?_
      have s3 := slot_out hA (t := 3) (by kernel_rfl)
      replace hw : ((fun _ w' => RegV w' g m n false ∧ Blk w' w.heap.size 25 (nums .u8 t)) : List Value → World → Prop) [] wz := hw
      clear hA hv
      have k0 := hw.2.range
      clear hf hw
      refine wp_load_mid 25 _ rfl w.heap.size 0 (ev s3) (nums .u8 t) _ k0 Tryd.underlying25 rfl (by rw [h32]; kernel_rfl) ?_
      exact hK _ _ rfl (Frm.refl _ _)
    refine owesL_cons (i' := 10) rfl ?_ ?_
    · refine o_q rfl (by kernel_rfl) (by kernel_rfl) (pl := []) (by kernel_rfl) fun us a wz hA hv hf hw K hK => ?_
      have s16 := (slot_in hA (t := 16) (by simp) (j := 7) (by kernel_rfl)).trans (hv 7 (by kernel_rfl))
      have s17 := (slot_in hA (t := 17) (by simp) (j := 8) (by kernel_rfl)).trans (hv 8 (by kernel_rfl))
      replace hw : ((fun _ w' => RegV w' g m n false ∧ Blk w' w.heap.size 25 (nums .u8 t)) : List Value → World → Prop) [] wz := hw
      clear hA hv
      go_wp2
      exact (congrArg (fun v => K (a.put (some 18) v) wz) (congrArg Value.agg hfold.out)).mpr (hK _ _ rfl (Frm.refl _ _))
    refine owesL_cons (i' := 11) rfl ?_ ?_
    · refine o_pure rfl (by kernel_rfl) fun us a wz hA hv K hK => ?_
      have s9 := (slot_in hA (t := 9) (by simp) (j := 0) (by kernel_rfl)).trans (hv 0 (by kernel_rfl))
      clear hA hv
      go_wp2
      exact rfl
    refine owesL_cons (i' := 12) rfl ?_ ?_
    · refine o_pure rfl (by kernel_rfl) fun us a wz hA hv K hK => ?_
      have s19 := (slot_in hA (t := 19) (by simp) (j := 10) (by kernel_rfl)).trans (hv 10 (by kernel_rfl))
      clear hA hv
      go_wp2
      exact rfl
    refine owesL_cons (i' := 13) rfl ?_ ?_
    · refine o_p rfl (by kernel_rfl) (by kernel_rfl) (pl := []) (by kernel_rfl) fun us a wz hA hv hf hw K hK => ?_
      have s20 := (slot_in hA (t := 20) (by simp) (j := 11) (by kernel_rfl)).trans (hv 11 (by kernel_rfl))
      have s18 := (slot_in hA (t := 18) (by simp) (j := 9) (by kernel_rfl)).trans (hv 9 (by kernel_rfl))
      replace hw : ((fun _ w' => RegV w' g m n false ∧ Blk w' w.heap.size 25 (nums .u8 t)) : List Value → World → Prop) [] wz := hw
      clear hA hv
      have hth := Blk.there' hw.1 33 33 (by simp [m.len, n.len])
      have hn := hw.1.next q
      clear hf
      refine wp_store_mid 47 _ _ rfl g 33 q.cells.toArray (ev s20) (ev s18) (by simpa [hql] using hth) (by simp only [List.size_toArray, hql]; kernel_rfl) (all_oneCell_toArray q.one) ?_
      exact hK undef _ trivial hn ((Frm.refl (fun k => k = g) wz).setCells (fun _ => rfl) 33 _)
    refine owesL_cons (i' := 14) rfl ?_ ?_
    · refine o_pure rfl (by kernel_rfl) fun us a wz hA hv K hK => ?_
      have s10 := (slot_in hA (t := 10) (by simp) (j := 1) (by kernel_rfl)).trans (hv 1 (by kernel_rfl))
      clear hA hv
      go_wp2
      exact rfl
    refine owesL_cons (i' := 15) rfl ?_ ?_
    · refine o_pure rfl (by kernel_rfl) fun us a wz hA hv K hK => ?_
      have s21 := (slot_in hA (t := 21) (by simp) (j := 13) (by kernel_rfl)).trans (hv 13 (by kernel_rfl))
      clear hA hv
      go_wp2
      exact rfl
    refine owesL_cons (i' := 16) rfl ?_ ?_
    · refine o_p rfl (by kernel_rfl) (by kernel_rfl) (pl := [12]) (by kernel_rfl) fun us a wz hA hv hf hw K hK => ?_
      have s22 := (slot_in hA (t := 22) (by simp) (j := 14) (by kernel_rfl)).trans (hv 14 (by kernel_rfl))
      replace hw : ((fun _ w' => RegV w' g m q false) : List Value → World → Prop) [us 12] wz := hw
      clear hA hv
      have k0 := hw.c66
      have k1 := Blk.frozen hw 66
      have hn := hw.busy true
      replace hn := Lib.hid hn
      clear hf hw
      go_wp2
      exact hK undef _ trivial hn.out ((Frm.refl (fun k => k = g) wz).setCell (p := ⟨g, 66, none⟩) (fun _ => rfl) _)
    exact owesL_nil
  case hV => exact Stabs.vt (.cons (stab_is _ _) (.cons (stab_is _ _) (.cons (stab_is _ _) (.cons (stab_is _ _) (.cons (stab_is _ _) (.cons (stab_is _ _) (.cons (stab_is _ _) (.cons (stab_is _ _) (.cons (stab_is _ _) (.cons (stab_is _ _) (.cons (stab_is _ _) (.cons (stab_is _ _) (.cons (stab_true _) (.cons (stab_is _ _) (.cons (stab_is _ _) (.cons (stab_true _) (.nil)))))))))))))))))
  case hW =>
    exact StabWs.wt (.cons (fun _ _ _ h hf => ⟨h.1.frm hf fun h => h, h.2.frm hf fun h => h⟩) (.cons (fun _ _ _ h hf => h.frm hf fun h => h) (.cons (fun _ _ _ h hf => h.frm hf fun h => h) .nil)))
  case h0 =>
    exact ⟨h1.out.frm (Frm.refl (fun _ => False) _).drew fun h => h, hb.out⟩
  intro usx wx hvx hwx hfx
  have qx0 : usx 0 = _ := hvx 0 (by decide)
  have qx1 : usx 1 = _ := hvx 1 (by decide)
  have qx2 : usx 2 = _ := hvx 2 (by decide)
  have qx3 : usx 3 = _ := hvx 3 (by decide)
  have qx4 : usx 4 = _ := hvx 4 (by decide)
  have qx5 : usx 5 = _ := hvx 5 (by decide)
  have qx6 : usx 6 = _ := hvx 6 (by decide)
  have qx7 : usx 7 = _ := hvx 7 (by decide)
  have qx8 : usx 8 = _ := hvx 8 (by decide)
  have qx9 : usx 9 = _ := hvx 9 (by decide)
  have qx10 : usx 10 = _ := hvx 10 (by decide)
  have qx11 : usx 11 = _ := hvx 11 (by decide)
  have qx13 : usx 13 = _ := hvx 13 (by decide)
  have qx14 : usx 14 = _ := hvx 14 (by decide)
  replace hwx : ((fun _ w' => RegV w' g m q true) : List Value → World → Prop) [usx 12, usx 15] wx := hwx
  rw [fill_all (ds := [some 9, some 10, some 11, some 12, some 13, some 14, some 15, some 16, some 17, some 18, some 19, some 20, none, some 21, some 22, none]) (by kernel_rfl)]
  simp only [putAll, Act.put, List.setIfInBounds_toArray, List.set_cons_succ, List.set_cons_zero, Nat.reduceAdd, qx0, qx1, qx2, qx3, qx4, qx5, qx6, qx7, qx8, qx9, qx10, qx11, qx13, qx14]
  clear hvx qx0 qx1 qx2 qx3 qx4 qx5 qx6 qx7 qx8 qx9 qx10 qx11 qx13 qx14
  replace hwx := Lib.hid hwx
  have hfx2 : Frm (fun k => k = g) w wx := (hf.out.mono (G := fun k => k = g) fun _ _ h => h.elim).trans ((Frm.refl _ _).drew.trans hfx fun _ _ h => h) fun _ _ h => h
  replace hfx2 := Lib.hid hfx2
  go_wp2
  go_ret
  exact ⟨rfl, hwx.out, hfx2.out⟩
set_option maxRecDepth 100000 in
set_option maxHeartbeats 1000000 in
theorem end_no (g : Nat) (m n : Mrk) (w : World) (h : RegV w g m n false) :
    Calls Tryd.prog 13 #[.pointer (some ⟨g, 0, none⟩)] w fun e w' => e = .returned (.int .i64 14) ∧ Below w.heap.size w w' := by
  have hc := h.c66
  replace h := Lib.hid h
  go_enter Tryd.func13, Tryd.ntmps13
  go_wp2
  go_ret
  exact ⟨rfl, Below.refl _ _⟩
set_option maxRecDepth 100000 in
set_option maxHeartbeats 1000000 in
theorem end_yes (g : Nat) (m n : Mrk) (w : World) (h : RegV w g m n true) :
    Calls Tryd.prog 13 #[.pointer (some ⟨g, 0, none⟩)] w fun e w' => e = .returned (.int .i64 0) ∧ RegV w' g n Mrk.zero false ∧ Frm (fun k => k = g) w w' := by
  have hc := h.c66
  have h33 := h.mk33
  have hnl := n.len
  have hth := Blk.there' h 0 33 (by simp [m.len])
  have h2 := h.mark n
  have hf := (Frm.refl (fun k => k = g) w).setCells (g := g) (fun _ => rfl) 0 n.cells
  replace h := Lib.hid h
  replace h2 := Lib.hid h2
  replace hf := Lib.hid hf
  go_enter Tryd.func13, Tryd.ntmps13
  go_wp2_with first
    | refine list_load (cs := n.cells) 47 h33 Tryd.underlying47 rfl (by rw [hnl]; kernel_rfl) rfl rfl rfl ?_
    | refine list_store (cs := n.cells) 47 (by rw [hnl]; exact hth) (by rw [hnl]; kernel_rfl) n.one rfl rfl rfl rfl ?_
  refine (over_any g n n true _ h2.out).mono ?_
  rintro e w2 ⟨rfl, h3, hf3⟩
  have hf4 := hf.out.trans hf3 fun _ _ h => h
  replace h3 := Lib.hid h3
  replace hf4 := Lib.hid hf4
  clear hf3
  go_wp2
  go_ret
  exact ⟨rfl, h3.out, hf4.out⟩
set_option maxRecDepth 100000 in
set_option maxHeartbeats 1000000 in
theorem cancel_yes (g : Nat) (m n : Mrk) (w : World) (h : RegV w g m n true) :
    Calls Tryd.prog 36 #[.pointer (some ⟨g, 0, none⟩)] w fun e w' => e = .returned (.int .i64 0) ∧ RegV w' g m Mrk.zero false ∧ Frm (fun k => k = g) w w' := by
  have hc := h.c66
  replace h := Lib.hid h
  go_enter Tryd.func36, Tryd.ntmps36
  go_wp2_with fail
  refine (over_any g m n true _ h.out).mono ?_
  rintro e w2 ⟨rfl, h3, hf3⟩
  replace h3 := Lib.hid h3
  replace hf3 := Lib.hid hf3
  go_wp2
  go_ret
  exact ⟨rfl, h3.out, hf3.out⟩
end Go.Proofs.YtmajnoefddbflaaDoor
