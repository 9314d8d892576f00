/- law23.small. -/
import Derived.Test.YtmajnoefddbflaaDoorLb
import Derived.Test.YtmajnoefddbflaaDoorProg
import Derived.Test.YtmajnoefddbflaaDoorHv
import Derived.Test.YtmajnoefddbflaaDoorAp5
import Derived.WalkKit
import Derived.WalkSpells
import Derived.StillTactics
import Derived.Laws.Pointers
import Derived.Lib.Hide
import Derived.KernelRfl
namespace Go.Proofs.YtmajnoefddbflaaDoor
open Go.RowKit

def opCells (k : Int) (top : List Int) (rc : List Value) : List Value := .int .i64 k :: (nums .u8 top ++ rc)
/-- an op's cells -/
structure OpV (B0 : Nat) (w : World) (cs : List Value) (r : Rec) : Prop where
  ov : ∃ k top rc, cs = opCells k top rc ∧ top.length = 32 ∧ RecV B0 w rc r
inductive OpsV (B0 : Nat) (w : World) : List (List Value) → List Rec → Prop where
  | nil : OpsV B0 w [] []
  | cons {cs : List Value} {r : Rec} {css : List (List Value)} {rs : List Rec} : OpV B0 w cs r → OpsV B0 w css rs → OpsV B0 w (cs :: css) (r :: rs)
theorem OpV.frm {B0 : Nat} {w w' : World} {F : Nat → Prop} {cs : List Value} {r : Rec} (h : OpV B0 w cs r) (hf : Frm F w w') (hs : Safe B0 w F) : OpV B0 w' cs r := by
  obtain ⟨k, top, rc, e, h1, h2⟩ := h
  exact ⟨k, top, rc, e, h1, h2.frm hf hs⟩
theorem OpsV.frm {B0 : Nat} {w w' : World} {F : Nat → Prop} {css : List (List Value)} {rs : List Rec} (h : OpsV B0 w css rs) (hf : Frm F w w') (hs : Safe B0 w F) : OpsV B0 w' css rs := by
  induction h with
  | nil => exact .nil
  | cons h _ ih => exact .cons (h.frm hf hs) ih
theorem OpsV.len {B0 : Nat} {w : World} {css : List (List Value)} {rs : List Rec} (h : OpsV B0 w css rs) : css.length = rs.length := by
  induction h with
  | nil => rfl
  | cons _ _ ih => simp [ih]
theorem OpsV.get {B0 : Nat} {w : World} {css : List (List Value)} {rs : List Rec} (h : OpsV B0 w css rs) : ∀ k (h1 : k < css.length) (h2 : k < rs.length), OpV B0 w css[k] rs[k] := by
  induction h with
  | nil => intro k h1; cases h1
  | cons h0 _ ih =>
    intro k h1 h2
    cases k with
    | zero => exact h0
    | succ k => exact ih k (by simpa using h1) (by simpa using h2)
theorem OpsV.snoc {B0 : Nat} {w : World} {css : List (List Value)} {rs : List Rec} {cs : List Value} {r : Rec} (h : OpsV B0 w css rs) (h1 : OpV B0 w cs r) : OpsV B0 w (css ++ [cs]) (rs ++ [r]) := by
  induction h with
  | nil => exact .cons h1 .nil
  | cons h0 _ ih => exact .cons h0 ih
theorem OpV.length {B0 : Nat} {w : World} {cs : List Value} {r : Rec} (h : OpV B0 w cs r) : cs.length = 69 := by
  obtain ⟨k, top, rc, rfl, h1, h2⟩ := h
  simp [opCells, nums_length, h1, h2.length]
theorem OpV.one {B0 : Nat} {w : World} {cs : List Value} {r : Rec} (h : OpV B0 w cs r) : ∀ v ∈ cs, v.oneCell' = true := by
  obtain ⟨k, top, rc, rfl, h1, h2⟩ := h
  intro v hv
  rcases List.mem_cons.1 hv with rfl | hv
  · rfl
  · rcases List.mem_append.1 hv with hv | hv
    · exact nums_one v hv
    · exact h2.one v hv
theorem OpsV.all69 {B0 : Nat} {w : World} {css : List (List Value)} {rs : List Rec} (h : OpsV B0 w css rs) : ∀ cs ∈ css, cs.length = 69 := by
  induction h with
  | nil => intro cs h; cases h
  | cons h0 _ ih =>
    intro cs h
    rcases List.mem_cons.1 h with rfl | h
    · exact h0.length
    · exact ih cs h
def itemSmall (x : Itm) : Bool := decide (x.name.size ≤ 50) && decide (x.ver.pre.size ≤ 50)
def recSmall (r : Rec) : Bool := decide (r.before.length ≤ 8 ∧ r.after.length ≤ 8) && (r.before ++ r.after).all itemSmall
def opsSmall (rs : List Rec) : Bool := rs.all recSmall && decide (rs.length ≤ 40)
set_option maxRecDepth 100000 in
set_option maxHeartbeats 1000000 in
theorem small_r6 {B0 b : Nat} {r : Rec} {cs : List Value} {u0 u1 u2 u3 u5 u6 u7 u8 u9 u10 u11 u12 u13 u14 u15 u16 u17 u18 u19 u20 u21 u22 u23 u24 u25 u26 u27 u28 u29 u30 u31 u32 u33 u34 u35 u36 u37 u38 u39 u40 u41 u42 u43 u44 u45 u46 u47 u48 u49 u50 u51 u52 u53 u54 : Value} {w : World} (hB : Blk w b 32 cs) (hV : OpV B0 w cs r) (h8 : r.before.length ≤ 8) (h8' : r.after.length ≤ 8) {Q : Exit → Act → World → Prop}
    (hQ : ∀ (x25 x26 x27 x28 x29 x30 x31 x32 : Value) (A : Option Addr) (c : Nat) (w' : World), Own w' 68 37 A (r.before.length + r.after.length) c (row (r.before ++ r.after)) → Frm (fun _ => False) w w' → Q .normal ⟨(u0 :: u1 :: u2 :: u3 :: .pointer (some ⟨b, 0, none⟩) :: u5 :: u6 :: u7 :: u8 :: u9 :: u10 :: u11 :: u12 :: u13 :: u14 :: u15 :: u16 :: u17 :: u18 :: u19 :: u20 :: u21 :: u22 :: u23 :: u24 :: x25 :: x26 :: x27 :: x28 :: x29 :: x30 :: x31 :: x32 :: .slice A (r.before.length + r.after.length) c :: .int .i64 ((r.before.length : Int) + r.after.length) :: .int .i64 0 :: u36 :: u37 :: u38 :: u39 :: u40 :: u41 :: u42 :: u43 :: u44 :: u45 :: u46 :: u47 :: u48 :: u49 :: u50 :: u51 :: u52 :: u53 :: u54 :: []).toArray, []⟩ w') :
    (regionOf Tryd.f5 6).wp Tryd.prog Q ⟨(u0 :: u1 :: u2 :: u3 :: .pointer (some ⟨b, 0, none⟩) :: u5 :: u6 :: u7 :: u8 :: u9 :: u10 :: u11 :: u12 :: u13 :: u14 :: u15 :: u16 :: u17 :: u18 :: u19 :: u20 :: u21 :: u22 :: u23 :: u24 :: u25 :: u26 :: u27 :: u28 :: u29 :: u30 :: u31 :: u32 :: u33 :: u34 :: u35 :: u36 :: u37 :: u38 :: u39 :: u40 :: u41 :: u42 :: u43 :: u44 :: u45 :: u46 :: u47 :: u48 :: u49 :: u50 :: u51 :: u52 :: u53 :: u54 :: []).toArray, []⟩ w := by
  conv => arg 2; whnf
  obtain ⟨k, top, rc, hcs, ht, hrv⟩ := hV
  obtain ⟨v1, v2, hrc, hv1, hv2⟩ := hrv.rv
  obtain ⟨A1, c1, e1, i1, _⟩ := hv1.it
  obtain ⟨A2, c2, e2, i2, _⟩ := hv2.it
  have ct : (nums .u8 top).length = 32 := by rw [nums_length]; exact ht
  have c34 : w.cell? ⟨b, 34, none⟩ = some (.slice A1 r.before.length c1) := by
    rw [hB.cell 34, hcs, hrc, opCells, List.getElem?_cons_succ, List.getElem?_append_right (by omega), ct, e1]; rfl
  have c35 : w.cell? ⟨b, 35, none⟩ = some (.slice A2 r.after.length c2) := by
    rw [hB.cell 35, hcs, hrc, opCells, List.getElem?_cons_succ, List.getElem?_append_right (by omega), ct, e2]; rfl
  have hbl := hB.lt
  have l1 := i1.1.lt
  have l2 := i2.1.lt
  have e12 : IntKind.i64.wrap ((r.before.length + r.after.length : Nat) : Int) = ((r.before.length + r.after.length : Nat) : Int) := IntWalk.i64_in _ (by omega)
  replace i1 := Lib.hid i1
  replace i2 := Lib.hid i2
  replace l1 := Lib.hid l1
  replace l2 := Lib.hid l2
  clear hB hrv hv1 hv2 hcs hrc e1 e2
  apply wp_region_typed (fun k => w.heap.size ≤ k) (nf [0, 4, 8, 9]) [0, 4, 8] (vt [(fun _ _ => True), (Is _), (Is _), (Is _), (fun _ _ => True), (Is _), (Is _), (Is _), (fun u _ => ∃ A c, u = .slice A (r.before.length + r.after.length) c), (Is _), (Is _)]) (wt [(fun _ _ => True), (fun vs w' => ∃ x, vs = [.slice (some ⟨x, 0, none⟩) 0 0] ∧ Blk w' x 68 [] ∧ w.heap.size ≤ x), (fun vs w' => ∃ A c, vs.getD 1 undef = .slice A r.before.length c ∧ Own w' 68 37 A r.before.length c (row r.before) ∧ ∀ b, bl A = some b → w.heap.size ≤ b), (fun vs w' => ∃ A c, vs.getD 2 undef = .slice A (r.before.length + r.after.length) c ∧ Own w' 68 37 A (r.before.length + r.after.length) c (row (r.before ++ r.after)))]) (by kernel_rfl) (by kernel_rfl) (by kernel_rfl) (by kernel_rfl) (hop := owesL_all ?hop)
  case hop =>
    refine owesL_cons (i' := 1) rfl ?_ ?_
    · refine o_p rfl (by kernel_rfl) (by kernel_rfl) (pl := []) (by kernel_rfl) fun us a wz hA hv hf hw K hK => ?_
      clear hA hv
      have hsz := hf.size
      clear hf hw
      go_wp2
      exact hK _ _ trivial ⟨wz.heap.size, rfl, Blk.new wz _ [], hsz⟩ ((Frm.refl (fun k => w.heap.size ≤ k) wz).alloc _)
    refine owesL_cons (i' := 2) rfl ?_ ?_
    · refine o_pure rfl (by kernel_rfl) fun us a wz hA hv K hK => ?_
      have s4 := slot_out hA (t := 4) (by kernel_rfl)
      clear hA hv
      go_wp2
      exact rfl
    refine owesL_cons (i' := 3) rfl ?_ ?_
    · refine o_pure rfl (by kernel_rfl) fun us a wz hA hv K hK => ?_
      have s26 := (slot_in hA (t := 26) (by simp) (j := 1) (by kernel_rfl)).trans (hv 1 (by kernel_rfl))
      clear hA hv
      go_wp2
      exact rfl
    refine owesL_cons (i' := 4) rfl ?_ ?_
    · refine o_f rfl (by kernel_rfl) fun us a wz hA hv hf K hK => ?_
      have s27 := (slot_in hA (t := 27) (by simp) (j := 2) (by kernel_rfl)).trans (hv 2 (by kernel_rfl))
      clear hA hv
      have k0 := hf.cell c34 (fun h => absurd (show w.heap.size ≤ b from h) (by omega))
      clear hf
      go_wp2
      exact hK _ _ rfl (Frm.refl _ _)
    refine owesL_cons (i' := 5) rfl ?_ ?_
    · refine o_p rfl (by kernel_rfl) (by kernel_rfl) (pl := [0]) (by kernel_rfl) fun us a wz hA hv hf hw K hK => ?_
      have s25 := slot_in hA (t := 25) (by simp) (j := 0) (by kernel_rfl)
      have u0 : ((fun _ _ => True) : Value → World → Prop) (us 0) wz := hv 0 (by kernel_rfl)
      have s28 := (slot_in hA (t := 28) (by simp) (j := 3) (by kernel_rfl)).trans (hv 3 (by kernel_rfl))
      replace hw : ((fun vs w' => ∃ x, vs = [.slice (some ⟨x, 0, none⟩) 0 0] ∧ Blk w' x 68 [] ∧ w.heap.size ≤ x) : List Value → World → Prop) [us 0] wz := hw
      clear hA hv
      obtain ⟨x, e, hb, hx⟩ := hw
      have e : us 0 = _ := List.head_eq_of_cons_eq e
      replace s25 := s25.trans e
      have hr := i1.out.1.frm0 ((Frm.refl _ w).drew.trans hf fun _ _ h => h) fun hn b hb h => by have := l1.out hn (by decide) b hb; omega
      refine wp_app appItems rfl (ev s25) (ev s28) (Own.of_blk (size := 37) hb 0 rfl (by decide)) hr (row_one _) (by omega) fun A' c' w2 hown hf2 hat => ?_
      rw [Nat.zero_add] at hown ⊢
      exact hK _ _ trivial ⟨A', c', rfl, by simpa using hown, fun y hy => by
        rcases hat with e | e
        · rw [e] at hy; have h' : x = y := Option.some.inj hy; omega
        · rw [e] at hy; injection hy with hy; have : w.heap.size ≤ wz.heap.size := hf.size; omega⟩ (hf2.mono fun k hk h => by have h' : x = k := Option.some.inj h; omega)
    refine owesL_cons (i' := 6) rfl ?_ ?_
    · refine o_pure rfl (by kernel_rfl) fun us a wz hA hv K hK => ?_
      have s4 := slot_out hA (t := 4) (by kernel_rfl)
      clear hA hv
      go_wp2
      exact rfl
    refine owesL_cons (i' := 7) rfl ?_ ?_
    · refine o_pure rfl (by kernel_rfl) fun us a wz hA hv K hK => ?_
      have s30 := (slot_in hA (t := 30) (by simp) (j := 5) (by kernel_rfl)).trans (hv 5 (by kernel_rfl))
      clear hA hv
      go_wp2
      exact rfl
    refine owesL_cons (i' := 8) rfl ?_ ?_
    · refine o_f rfl (by kernel_rfl) fun us a wz hA hv hf K hK => ?_
      have s31 := (slot_in hA (t := 31) (by simp) (j := 6) (by kernel_rfl)).trans (hv 6 (by kernel_rfl))
      clear hA hv
      have k0 := hf.cell c35 (fun h => absurd (show w.heap.size ≤ b from h) (by omega))
      clear hf
      go_wp2
      exact hK _ _ rfl (Frm.refl _ _)
    refine owesL_cons (i' := 9) rfl ?_ ?_
    · refine o_p rfl (by kernel_rfl) (by kernel_rfl) (pl := [0, 4]) (by kernel_rfl) fun us a wz hA hv hf hw K hK => ?_
      have s29 := slot_in hA (t := 29) (by simp) (j := 4) (by kernel_rfl)
      have u4 : ((fun _ _ => True) : Value → World → Prop) (us 4) wz := hv 4 (by kernel_rfl)
      have s32 := (slot_in hA (t := 32) (by simp) (j := 7) (by kernel_rfl)).trans (hv 7 (by kernel_rfl))
      replace hw : ((fun vs w' => ∃ A c, vs.getD 1 undef = .slice A r.before.length c ∧ Own w' 68 37 A r.before.length c (row r.before) ∧ ∀ b, bl A = some b → w.heap.size ≤ b) : List Value → World → Prop) [us 0, us 4] wz := hw
      clear hA hv
      obtain ⟨A, c, e, ho, hA⟩ := hw
      have e : us 4 = _ := e
      replace s29 := s29.trans e
      have hr := i2.out.1.frm0 ((Frm.refl _ w).drew.trans hf fun _ _ h => h) fun hn b hb h => by have := l2.out hn (by decide) b hb; omega
      refine wp_app appItems rfl (ev s29) (ev s32) ho hr (row_one _) (by omega) fun A' c' w2 hown hf2 hat => ?_
      refine hK _ _ ⟨A', c', rfl⟩ ⟨A', c', rfl, by rw [row, List.flatMap_append]; exact hown⟩ (hf2.mono fun k hk h => hA k h)
    refine owesL_cons (i' := 10) rfl ?_ ?_
    · refine o_q rfl (by kernel_rfl) (by kernel_rfl) (pl := [0, 4, 8]) (by kernel_rfl) fun us a wz hA hv hf hw K hK => ?_
      have s33 := slot_in hA (t := 33) (by simp) (j := 8) (by kernel_rfl)
      have u8 : ((fun u _ => ∃ A c, u = .slice A (r.before.length + r.after.length) c) : Value → World → Prop) (us 8) wz := hv 8 (by kernel_rfl)
      replace hw : ((fun vs w' => ∃ A c, vs.getD 2 undef = .slice A (r.before.length + r.after.length) c ∧ Own w' 68 37 A (r.before.length + r.after.length) c (row (r.before ++ r.after))) : List Value → World → Prop) [us 0, us 4, us 8] wz := hw
      clear hA hv
      obtain ⟨A, c, e⟩ := u8
      replace s33 := s33.trans e
      clear e
      go_wp2
      exact hK _ _ rfl (Frm.refl _ _)
    refine owesL_cons (i' := 11) rfl ?_ ?_
    · refine o_pure rfl (by kernel_rfl) fun us a wz hA hv K hK => ?_
      clear hA hv
      go_wp2
      exact rfl
    exact owesL_nil
  case hV => exact Stabs.vt (.cons (stab_true _) (.cons (stab_is _ _) (.cons (stab_is _ _) (.cons (stab_is _ _) (.cons (stab_true _) (.cons (stab_is _ _) (.cons (stab_is _ _) (.cons (stab_is _ _) (.cons (stab_pure _ _) (.cons (stab_is _ _) (.cons (stab_is _ _) (.nil))))))))))))
  case hW =>
    refine StabWs.wt (.cons (fun _ _ _ h _ => trivial) (.cons (fun vs w1 w2 h hf => ?_) (.cons (fun vs w1 w2 h hf => ?_) (.cons (fun vs w1 w2 h hf => ?_) .nil))))
    · obtain ⟨x, e, hb, hx⟩ := h; exact ⟨x, e, hb.frm hf fun h => h, hx⟩
    · obtain ⟨A, c, e, ho, hA⟩ := h; exact ⟨A, c, e, ho.frm hf fun _ _ h => h, hA⟩
    · obtain ⟨A, c, e, ho⟩ := h; exact ⟨A, c, e, ho.frm hf fun _ _ h => h⟩
  case h0 =>
    trivial
  intro usx wx hvx hwx hfx
  have qx0 : ((fun _ _ => True) : Value → World → Prop) (usx 0) wx := hvx 0 (by decide)
  have qx1 : usx 1 = _ := hvx 1 (by decide)
  have qx2 : usx 2 = _ := hvx 2 (by decide)
  have qx3 : usx 3 = _ := hvx 3 (by decide)
  have qx4 : ((fun _ _ => True) : Value → World → Prop) (usx 4) wx := hvx 4 (by decide)
  have qx5 : usx 5 = _ := hvx 5 (by decide)
  have qx6 : usx 6 = _ := hvx 6 (by decide)
  have qx7 : usx 7 = _ := hvx 7 (by decide)
  have qx8 : ((fun u _ => ∃ A c, u = .slice A (r.before.length + r.after.length) c) : Value → World → Prop) (usx 8) wx := hvx 8 (by decide)
  have qx9 : usx 9 = _ := hvx 9 (by decide)
  have qx10 : usx 10 = _ := hvx 10 (by decide)
  replace hwx : ((fun vs w' => ∃ A c, vs.getD 2 undef = .slice A (r.before.length + r.after.length) c ∧ Own w' 68 37 A (r.before.length + r.after.length) c (row (r.before ++ r.after))) : List Value → World → Prop) [usx 0, usx 4, usx 8] wx := hwx
  rw [fill_all (ds := [some 25, some 26, some 27, some 28, some 29, some 30, some 31, some 32, some 33, some 34, some 35]) (by kernel_rfl)]
  simp only [putAll, Act.put, List.setIfInBounds_toArray, List.set_cons_succ, List.set_cons_zero, Nat.reduceAdd, qx1, qx2, qx3, qx5, qx6, qx7, qx9, qx10]
  clear hvx qx1 qx2 qx3 qx5 qx6 qx7 qx9 qx10
  obtain ⟨A, c, e8, ho⟩ := hwx
  have e8 : usx 8 = _ := e8
  rw [e8]
  exact hQ _ _ _ _ _ _ _ _ A c _ ho (((Frm.refl _ _).drew.trans hfx fun _ _ h => h).mono fun k hk h => absurd h (by omega))
theorem allItems_no {l : List Itm} {j : Nat} (hj : j < l.length) (h : itemSmall l[j] = false) : l.all itemSmall = false := by
  rw [List.all_eq_false]; exact ⟨l[j], List.getElem_mem hj, by rw [h]; decide⟩
theorem allItems_yes {l : List Itm} (h : ∀ j (hj : j < l.length), itemSmall l[j] = true) : l.all itemSmall = true := by
  rw [List.all_eq_true]; intro x hx
  obtain ⟨j, hj, rfl⟩ := List.getElem_of_mem hx
  exact h j hj
theorem ops_no {l : List Rec} {j : Nat} (hj : j < l.length) (h : recSmall l[j] = false) : opsSmall l = false := by
  have : l.all recSmall = false := by rw [List.all_eq_false]; exact ⟨l[j], List.getElem_mem hj, by rw [h]; decide⟩
  rw [opsSmall, this, Bool.false_and]
theorem ops_yes {l : List Rec} (h : ∀ j (hj : j < l.length), recSmall l[j] = true) : opsSmall l = decide (l.length ≤ 40) := by
  have : l.all recSmall = true := by
    rw [List.all_eq_true]; intro x hx
    obtain ⟨j, hj, rfl⟩ := List.getElem_of_mem hx
    exact h j hj
  rw [opsSmall, this, Bool.true_and]
def zeroOp : List Value := opCells 0 (List.replicate 32 0) (recCells 0 (.slice none 0 0) (.slice none 0 0) ⟨0, List.replicate 32 0, by simp⟩)
set_option maxRecDepth 100000 in
set_option maxHeartbeats 4000000 in
theorem small_any (B0 : Nat) (A : Option Addr) (n c : Nat) (css : List (List Value)) (rs : List Rec) (w : World) (hr : Rd w 69 A n css.flatten) (hV : OpsV B0 w css rs) (hl : rs.length = n) (hn : n ≤ 2097152) :
    Calls Tryd.prog 5 #[.slice A n c] w fun e w' => e = .returned (.bool (opsSmall rs)) ∧ Below w.heap.size w w' := by
  have hcl := hV.len
  replace hr := Lib.hid hr
  replace hV := Lib.hid hV
  replace hl := Lib.hid hl
  replace hcl := Lib.hid hcl
  go_enter Tryd.func5, Tryd.ntmps5
  go_wp2
  go_loopw [4, 6, 9] (fun _ _ i wr => ∃ k : Nat, k ≤ n ∧ i = .int .i64 k ∧ (∀ j (hj : j < k) (h : j < rs.length), recSmall rs[j] = true) ∧ Frm (fun _ => False) w wr) (fun _ _ i _ => n - (intOf i).toNat)
  case atStart => exact ⟨0, Nat.zero_le _, rfl, fun j hj => by omega, Frm.refl _ _⟩
  case round =>
    obtain ⟨k, hk, rfl, hall, hf⟩ := hrel
    obtain ⟨wo, rfl⟩ : ∃ wo : World, wo = wr := ⟨_, rfl⟩
    replace hall := Lib.hid hall
    by_cases hlt : k < n
    · have hlt' : (k : Int) < n := by omega
      have hkl : k < rs.length := by rw [hl.out]; exact hlt
      have hkc : k < css.length := by rw [hcl.out]; exact hkl
      obtain ⟨b, o, rfl, hrow⟩ := hr.out.2 (by omega)
      have hcur := range_frm (range_flat css 69 hV.out.all69 o k hkc hrow) hf fun h => h
      have hov := (hV.out.get k hkc hkl).frm hf (safe_false _ _)
      obtain ⟨cs, hcs⟩ : ∃ cs, cs = css[k] := ⟨_, rfl⟩
      obtain ⟨r, hrr⟩ : ∃ r, r = rs[k] := ⟨_, rfl⟩
      rw [← hcs] at hcur hov
      rw [← hrr] at hov
      have h69 := hov.length
      have hone := hov.one
      have hz1 := Blk.new wo 32 zeroOp
      have hzl : zeroOp.length = 69 := by simp [zeroOp, opCells, nums_length, recCells_length]
      have hth := hz1.there' 0 69 (by rw [hzl]; exact Nat.le_refl _)
      have hbF : Blk ((wo.alloc (.cells zeroOp.toArray 32)).setCells wo.heap.size 0 cs) wo.heap.size 32 cs := by
        have := hz1.setCells (o := 0) (vs := cs) (by rw [h69, hzl]; exact Nat.le_refl _)
        rw [h69, List.drop_of_length_le (by rw [hzl]; exact Nat.le_refl _)] at this
        simpa using this
      have hfF := ((Frm.refl (fun _ => False) wo).alloc (.cells zeroOp.toArray 32)).setCells (g := wo.heap.size) (fun h => by omega) 0 cs
      obtain ⟨wq, hwq⟩ : ∃ wq, wq = (wo.alloc (.cells zeroOp.toArray 32)).setCells wo.heap.size 0 cs := ⟨_, rfl⟩
      rw [← hwq] at hbF hfF
      have hov2 := hov.frm hfF (safe_false _ _)
      have hfq := hf.trans hfF fun _ _ h => h
      have c34 : ∃ A1 c1, wq.cell? ⟨wo.heap.size, 34, none⟩ = some (.slice A1 r.before.length c1) := by
        obtain ⟨k, top, rc, hcs, ht, hrv⟩ := hov2
        obtain ⟨v1, v2, hrc, hv1, hv2⟩ := hrv.rv
        obtain ⟨A1, c1, e1, i1, _⟩ := hv1.it
        have ct : (nums .u8 top).length = 32 := by rw [nums_length]; exact ht
        exact ⟨A1, c1, by rw [hbF.cell 34, hcs, hrc, opCells, List.getElem?_cons_succ, List.getElem?_append_right (by omega), ct, e1]; rfl⟩
      have c35 : ∃ A1 c1, wq.cell? ⟨wo.heap.size, 35, none⟩ = some (.slice A1 r.after.length c1) := by
        obtain ⟨k, top, rc, hcs, ht, hrv⟩ := hov2
        obtain ⟨v1, v2, hrc, hv1, hv2⟩ := hrv.rv
        obtain ⟨A1, c1, e1, i1, _⟩ := hv2.it
        have ct : (nums .u8 top).length = 32 := by rw [nums_length]; exact ht
        exact ⟨A1, c1, by rw [hbF.cell 35, hcs, hrc, opCells, List.getElem?_cons_succ, List.getElem?_append_right (by omega), ct, e1]; rfl⟩
      obtain ⟨A1, c1, c34⟩ := c34
      obtain ⟨A2, c2, c35⟩ := c35
      replace hwq := Lib.hid hwq
      replace hcs := Lib.hid hcs
      replace hrr := Lib.hid hrr
      replace hbF := Lib.hid hbF
      replace hfF := Lib.hid hfF
      replace hov2 := Lib.hid hov2
      replace hfq := Lib.hid hfq
      replace hzl := Lib.hid hzl
      replace hz1 := Lib.hid hz1
      clear hrow hov hf
      have hrs : ∀ bb, recSmall r = bb → recSmall rs[k] = bb := fun bb h => by rw [← hrr.out]; exact h
      replace hrs := Lib.hid hrs
      by_cases h8 : r.before.length ≤ 8
      · by_cases h8' : r.after.length ≤ 8
        · go_wp2_with first
            | refine list_load 32 hcur Tryd.underlying32 rfl (by rw [h69]; kernel_rfl) rfl rfl rfl ?_
            | (refine list_store 32 (by rw [h69]; exact hth) (by rw [h69]; kernel_rfl) hone rfl rfl rfl rfl ?_; generalize hwp : World.setCells _ _ _ _ = wp; obtain rfl : wp = wq := (by rw [← hwp, hwq.out]; rfl); clear hwp hth)
          refine small_r6 hbF.out hov2.out h8 h8' ?_
          intro x25 x26 x27 x28 x29 x30 x31 x32 A5 c5 w5 hown5 hf5
          have hfq5 := hfq.out.trans hf5 fun _ _ h => h
          obtain ⟨N, hN⟩ : ∃ N, N = r.before.length + r.after.length := ⟨_, rfl⟩
          obtain ⟨L, hL⟩ : ∃ L, L = r.before ++ r.after := ⟨_, rfl⟩
          have hLN : L.length = N := by rw [hL, hN, List.length_append]
          have hNI : (r.before.length : Int) + r.after.length = (N : Int) := by omega
          rw [← hN, ← hL] at hown5
          rw [← hN, hNI]
          replace hL := Lib.hid hL
          replace hN' := Lib.hid hN
          have hN16 : N ≤ 16 := by omega
          have hrd5 := hown5.rd
          replace hown5 := Lib.hid hown5
          replace hrd5 := Lib.hid hrd5
          replace hfq5 := Lib.hid hfq5
          replace hLN := Lib.hid hLN
          clear hf5 c34 c35 hN hNI hcur
          go_wp2
          go_loopw [6, 35] (fun _ i wi => ∃ j : Nat, j ≤ N ∧ i = .int .i64 j ∧ (∀ q (hq : q < j) (h : q < L.length), itemSmall L[q] = true) ∧ Frm (fun _ => False) w5 wi) (fun _ i _ => N - (intOf i).toNat)
          case atStart => exact ⟨0, Nat.zero_le _, rfl, fun j hj => by omega, Frm.refl _ _⟩
          case round =>
            obtain ⟨j, hj, rfl, hall2, hfi⟩ := hrel
            replace hall2 := Lib.hid hall2
            by_cases hltj : j < N
            · have hltj' : (j : Int) < N := by omega
              have hjl : j < L.length := by rw [hLN.out]; exact hltj
              obtain ⟨b5, o5, rfl, hrow5⟩ := hrd5.out.2 (by omega)
              have hcur5 := range_row Itm.cells 37 Itm.cells_length L o5 j hjl (range_frm hrow5 hfi fun h => h)
              obtain ⟨x, hx⟩ : ∃ x, x = L[j] := ⟨_, rfl⟩
              rw [← hx] at hcur5
              have h37 := x.cells_length
              have hnw := Blk.new wr 68 (.string ⟨#[]⟩ :: .int .i64 0 :: .int .i64 0 :: .int .i64 0 :: .string ⟨#[]⟩ :: List.replicate 32 (.int .u8 0))
              have hth5 := hnw.there' 0 37 (by simp)
              have hfw : Frm (fun _ => False) w5 ((wr.alloc (.cells (.string ⟨#[]⟩ :: .int .i64 0 :: .int .i64 0 :: .int .i64 0 :: .string ⟨#[]⟩ :: List.replicate 32 (.int .u8 0)).toArray 68)).setCells wr.heap.size 0 x.cells) := (hfi.alloc _).setCells (fun h => by have := hfi.size; omega) 0 _
              have hB5 : Blk ((wr.alloc (.cells (.string ⟨#[]⟩ :: .int .i64 0 :: .int .i64 0 :: .int .i64 0 :: .string ⟨#[]⟩ :: List.replicate 32 (.int .u8 0)).toArray 68)).setCells wr.heap.size 0 x.cells) wr.heap.size 68 x.cells := by
                have := hnw.setCells (o := 0) (vs := x.cells) (by rw [h37]; simp)
                rw [h37] at this
                simpa using this
              obtain ⟨wv, hwv⟩ : ∃ wv, wv = (wr.alloc (.cells (.string ⟨#[]⟩ :: .int .i64 0 :: .int .i64 0 :: .int .i64 0 :: .string ⟨#[]⟩ :: List.replicate 32 (.int .u8 0)).toArray 68)).setCells wr.heap.size 0 x.cells := ⟨_, rfl⟩
              rw [← hwv] at hfw hB5
              have cn : wv.cell? ⟨wr.heap.size, 0, none⟩ = some (.string x.name) := hB5.cell 0
              have cp : wv.cell? ⟨wr.heap.size, 4, none⟩ = some (.string x.ver.pre) := hB5.cell 4
              have hxs : ∀ bb, itemSmall x = bb → itemSmall L[j] = bb := fun bb h => by rw [← hx]; exact h
              replace hxs := Lib.hid hxs
              replace hx := Lib.hid hx
              replace hnw := Lib.hid hnw
              replace hfw := Lib.hid hfw
              replace hB5 := Lib.hid hB5
              replace hwv := Lib.hid hwv
              clear hrow5 hfi
              by_cases hnm : x.name.size ≤ 50
              · have hnm' : ¬ (50 : Int) < x.name.size := by omega
                by_cases hpr : x.ver.pre.size ≤ 50
                · have hpr' : ¬ (50 : Int) < x.ver.pre.size := by omega
                  have hxo := hxs.out true (by simp [itemSmall, hnm, hpr])
                  replace hxo := Lib.hid hxo
                  go_wp2_with first
                    | refine list_load 68 hcur5 Tryd.underlying68 rfl (by rw [h37]; kernel_rfl) rfl rfl rfl ?_
                    | (refine list_store 68 (by rw [h37]; exact hth5) (by rw [h37]; kernel_rfl) x.one rfl rfl rfl rfl ?_; generalize hwp : World.setCells _ _ _ _ = wp; obtain rfl : wp = wv := (by rw [← hwp, hwv.out]; rfl); clear hwp hth5)
                  go_roundw
                  case rel => exact ⟨j + 1, by omega, by go_num, fun q hq h => by
                    rcases Nat.lt_or_ge q j with h' | h'
                    · exact hall2.out q h' h
                    · obtain rfl : q = j := by omega
                      exact hxo.out, hfw.out⟩
                  case measure => simp [intOf]; omega
                · have hpr' : (50 : Int) < x.ver.pre.size := by omega
                  have hxo := hxs.out false (by simp [itemSmall, hpr])
                  have hres := ops_no hkl (hrs.out false (by rw [recSmall, ← hL.out, allItems_no hjl hxo, Bool.and_false]))
                  replace hres := Lib.hid hres
                  clear hxo
                  go_wp2_with first
                    | refine list_load 68 hcur5 Tryd.underlying68 rfl (by rw [h37]; kernel_rfl) rfl rfl rfl ?_
                    | (refine list_store 68 (by rw [h37]; exact hth5) (by rw [h37]; kernel_rfl) x.one rfl rfl rfl rfl ?_; generalize hwp : World.setCells _ _ _ _ = wp; obtain rfl : wp = wv := (by rw [← hwp, hwv.out]; rfl); clear hwp hth5)
                  go_ret
                  refine ⟨?_, (hfq5.out.trans hfw.out fun _ _ h => h).below⟩
                  rw [hres.out]; rfl
              · have hnm' : (50 : Int) < x.name.size := by omega
                have hxo := hxs.out false (by simp [itemSmall, hnm])
                have hres := ops_no hkl (hrs.out false (by rw [recSmall, ← hL.out, allItems_no hjl hxo, Bool.and_false]))
                replace hres := Lib.hid hres
                clear hxo
                go_wp2_with first
                  | refine list_load 68 hcur5 Tryd.underlying68 rfl (by rw [h37]; kernel_rfl) rfl rfl rfl ?_
                  | (refine list_store 68 (by rw [h37]; exact hth5) (by rw [h37]; kernel_rfl) x.one rfl rfl rfl rfl ?_; generalize hwp : World.setCells _ _ _ _ = wp; obtain rfl : wp = wv := (by rw [← hwp, hwv.out]; rfl); clear hwp hth5)
                go_ret
                refine ⟨?_, (hfq5.out.trans hfw.out fun _ _ h => h).below⟩
                rw [hres.out]; rfl
            · have hjN : j = N := by omega
              have hro : recSmall rs[k] = true := hrs.out true (by
                rw [recSmall, ← hL.out, allItems_yes fun q hq => hall2.out q (by rw [hjN, ← hLN.out]; exact hq) hq]
                simp [h8, h8'])
              have hfx := hfq5.out.trans hfi fun _ _ h => h
              replace hro := Lib.hid hro
              replace hfx := Lib.hid hfx
              subst hjN
              clear hfi
              go_wp2
              go_roundw
              case rel => exact ⟨k + 1, by omega, by go_num, fun q hq h => by
                rcases Nat.lt_or_ge q k with h' | h'
                · exact hall.out q h' h
                · obtain rfl : q = k := by omega
                  exact hro.out, hfx.out⟩
              case measure => simp [intOf]; omega
        · have h8n : (8 : Int) < r.after.length := by omega
          have hres := ops_no hkl (hrs.out false (by simp [recSmall, h8']))
          replace hres := Lib.hid hres
          go_wp2_with first
            | refine list_load 32 hcur Tryd.underlying32 rfl (by rw [h69]; kernel_rfl) rfl rfl rfl ?_
            | (refine list_store 32 (by rw [h69]; exact hth) (by rw [h69]; kernel_rfl) hone rfl rfl rfl rfl ?_; generalize hwp : World.setCells _ _ _ _ = wp; obtain rfl : wp = wq := (by rw [← hwp, hwq.out]; rfl); clear hwp hth)
          go_ret
          refine ⟨?_, hfq.out.below⟩
          rw [hres.out]; rfl
      · have h8n : (8 : Int) < r.before.length := by omega
        have hres := ops_no hkl (hrs.out false (by simp [recSmall, h8]))
        replace hres := Lib.hid hres
        go_wp2_with first
          | refine list_load 32 hcur Tryd.underlying32 rfl (by rw [h69]; kernel_rfl) rfl rfl rfl ?_
          | (refine list_store 32 (by rw [h69]; exact hth) (by rw [h69]; kernel_rfl) hone rfl rfl rfl rfl ?_; generalize hwp : World.setCells _ _ _ _ = wp; obtain rfl : wp = wq := (by rw [← hwp, hwq.out]; rfl); clear hwp hth)
        go_ret
        refine ⟨?_, hfq.out.below⟩
        rw [hres.out]; rfl
    · have hkn : k = n := by omega
      subst hkn
      replace hf := Lib.hid hf
      have hres := ops_yes (l := rs) (fun j hj => hall.out j (by rw [← hl.out]; exact hj) hj)
      rw [hl.out] at hres
      replace hres := Lib.hid hres
      go_wp2
      go_ret
      refine ⟨?_, hf.out.below⟩
      show Ending.returned (Value.bool (decide ((k : Int) ≤ 40))) = _
      rw [hres.out, show decide ((k : Int) ≤ 40) = decide (k ≤ 40) from decide_eq_decide.2 (by omega)]
end Go.Proofs.YtmajnoefddbflaaDoor
