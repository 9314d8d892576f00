/- history.Record: Bytes. -/
import Derived.Test.YtmajnoefddbflaaDoorLb
import Derived.Test.YtmajnoefddbflaaDoorProg
import Derived.Test.YtmajnoefddbflaaDoorPut
import Derived.Test.YtmajnoefddbflaaDoorHv
import Derived.WalkKit
import Derived.WalkSpells
import Derived.StillTactics
import Derived.Laws.Pointers
import Derived.Lib.Hide
import Derived.KernelRfl
namespace Go.Proofs.YtmajnoefddbflaaDoor
open Go.RowKit

def recBytes (r : Rec) : List Int := be r.kind 8 ++ be r.before.length 8 ++ itemsBytes r.before ++ be r.after.length 8 ++ itemsBytes r.after ++ be r.head.size 8 ++ r.head.root
theorem recBytes_length (r : Rec) (h1 : NamesOk r.before) (h2 : NamesOk r.after) (n1 : r.before.length ≤ 256) (n2 : r.after.length ≤ 256) : (recBytes r).length ≤ 88128 := by
  have a := itemsBytes_length r.before h1
  have b := itemsBytes_length r.after h2
  simp only [recBytes, List.length_append, be_length, r.head.hr]
  omega
/-- what an Out of the call's own leaves alone: whatever is older -/
def NewA (B0 : Nat) (A : Option Addr) : Prop := ∀ b, bl A = some b → B0 ≤ b
theorem NewA.step {B0 : Nat} {w : World} {A A' : Option Addr} (h : NewA B0 A) (hw : B0 ≤ w.heap.size) (hat : bl A' = bl A ∨ ∃ b, bl A' = some b ∧ w.heap.size ≤ b) : NewA B0 A' := fun b hb => by
  rcases hat with e | ⟨b', e, hb'⟩
  · exact h b (e ▸ hb)
  · rw [e] at hb; injection hb with hb; omega
theorem NewA.not {B0 g b : Nat} {A : Option Addr} (h : NewA B0 A) (hg : B0 ≤ g) (hb : b < B0) : ¬ OutF g A b := fun h' => by
  rcases h' with e | e
  · omega
  · have := h b e; omega
set_option maxRecDepth 100000 in
set_option maxHeartbeats 1000000 in
theorem recBytes_r5 {g b : Nat} {A : Option Addr} {xs : List Int} {h : Hd} {u0 u2 u4 u5 u6 u7 u8 u9 u10 u11 u12 u13 u14 u15 u16 u17 u18 u19 u20 u21 u22 u23 u24 u25 u26 u27 : Value} {w : World} (ho : OutS w w g A xs) (hgb : ¬ OutF g A b) (hB : w.rangeAt b 3 h.cells) (hxs : xs.length ≤ 1000000) {Q : Exit → Act → World → Prop}
    (hQ : ∀ (x18 x19 x20 x21 x22 x23 x24 x25 x26 x27 : Value) (v : Value) (w' : World), Mine w.heap.size w' 5 1 (xs ++ be h.size 8 ++ h.root).length (nums .u8 (xs ++ be h.size 8 ++ h.root)) v → Frm (OutF g A) w w' → Q .normal ⟨(u0 :: .pointer (some ⟨b, 0, none⟩) :: v :: .pointer (some ⟨g, 0, none⟩) :: u4 :: u5 :: u6 :: u7 :: u8 :: u9 :: u10 :: u11 :: u12 :: u13 :: u14 :: u15 :: u16 :: u17 :: x18 :: x19 :: x20 :: x21 :: x22 :: x23 :: x24 :: x25 :: x26 :: x27 :: []).toArray, []⟩ w') :
    (regionOf Tryd.f32 5).wp Tryd.prog Q ⟨(u0 :: .pointer (some ⟨b, 0, none⟩) :: u2 :: .pointer (some ⟨g, 0, none⟩) :: u4 :: u5 :: u6 :: u7 :: u8 :: u9 :: u10 :: u11 :: u12 :: u13 :: u14 :: u15 :: u16 :: u17 :: u18 :: u19 :: u20 :: u21 :: u22 :: u23 :: u24 :: u25 :: u26 :: u27 :: []).toArray, []⟩ w := by
  conv => arg 2; whnf
  have c3 : w.cell? ⟨b, 3, none⟩ = some (.int .i64 h.size) := hB 0 _ rfl
  have hsr : w.rangeAt b 4 (nums .u8 h.root) := fun j v hv => by
    rw [show 4 + j = 3 + (j + 1) by omega]; exact hB (j + 1) v hv
  have hbl : b < w.heap.size := World.block_lt_of_cell? w _ c3
  have h32 := h.hr
  have hnb : ¬ (OutF g A b ∨ w.heap.size ≤ b) := fun h => h.elim hgb fun h => by omega
  replace ho := Lib.hid ho
  apply wp_region_typed (fun k => OutF g A k ∨ w.heap.size ≤ k) (nf [4, 8, 9, 10]) [4, 8, 9, 10] (vt [(Is _), (Is _), (Is _), (Is _), (Is _), (Is _), (Is _), (Is _), (Is _), (fun _ _ => True), (fun _ _ => True)]) (wt [(fun _ w' => OutS w w' g A xs), (fun _ w' => OutS w w' g A (xs ++ be h.size 8)), (fun _ w' => OutS w w' g A (xs ++ be h.size 8 ++ h.root)), (fun vs w' => Mine w.heap.size w' 5 1 (xs ++ be h.size 8 ++ h.root).length (nums .u8 (xs ++ be h.size 8 ++ h.root)) (vs.getD 2 undef)), (fun vs w' => Mine w.heap.size w' 5 1 (xs ++ be h.size 8 ++ h.root).length (nums .u8 (xs ++ be h.size 8 ++ h.root)) (vs.getD 3 undef))]) (by kernel_rfl) (by kernel_rfl) (by kernel_rfl) (by kernel_rfl) (hop := owesL_all ?hop)
  case hop =>
    refine owesL_cons (i' := 1) rfl ?_ ?_
    · refine o_pure rfl (by kernel_rfl) fun us a wz hA hv K hK => ?_
      have s3 := slot_out hA (t := 3) (by kernel_rfl)
      clear hA hv
      go_wp2
      exact rfl
    refine owesL_cons (i' := 2) rfl ?_ ?_
    · refine o_pure rfl (by kernel_rfl) fun us a wz hA hv K hK => ?_
      have s1 := slot_out hA (t := 1) (by kernel_rfl)
      clear hA hv
      go_wp2
      exact rfl
    refine owesL_cons (i' := 3) rfl ?_ ?_
    · refine o_pure rfl (by kernel_rfl) fun us a wz hA hv K hK => ?_
      have s19 := (slot_in hA (t := 19) (by simp) (j := 1) (by kernel_rfl)).trans (hv 1 (by kernel_rfl))
      clear hA hv
      go_wp2
      exact rfl
    refine owesL_cons (i' := 4) rfl ?_ ?_
    · refine o_f rfl (by kernel_rfl) fun us a wz hA hv hf K hK => ?_
      have s20 := (slot_in hA (t := 20) (by simp) (j := 2) (by kernel_rfl)).trans (hv 2 (by kernel_rfl))
      clear hA hv
      have k0 := hf.cell c3 hnb
      clear hf
      go_wp2
      exact hK _ _ rfl (Frm.refl _ _)
    refine owesL_cons (i' := 5) rfl ?_ ?_
    · refine o_p rfl (by kernel_rfl) (by kernel_rfl) (pl := []) (by kernel_rfl) fun us a wz hA hv hf hw K hK => ?_
      have s18 := (slot_in hA (t := 18) (by simp) (j := 0) (by kernel_rfl)).trans (hv 0 (by kernel_rfl))
      have s21 := (slot_in hA (t := 21) (by simp) (j := 3) (by kernel_rfl)).trans (hv 3 (by kernel_rfl))
      replace hw : ((fun _ w' => OutS w w' g A xs) : List Value → World → Prop) [] wz := hw
      clear hA hv
      obtain ⟨A1, N1, c1, ho1, hat1⟩ := hw
      have hsz := hf.size
      clear hf
      go_wp2_with fail
      refine (int_any g A1 N1 c1 xs h.size _ ho1 (by omega)).mono ?_
      rintro e w1 ⟨rfl, hp1⟩
      obtain ⟨h1, h2⟩ := OutS.step hat1 hsz hp1
      exact hK _ _ rfl h1 h2
    refine owesL_cons (i' := 6) rfl ?_ ?_
    · refine o_pure rfl (by kernel_rfl) fun us a wz hA hv K hK => ?_
      have s1 := slot_out hA (t := 1) (by kernel_rfl)
      clear hA hv
      go_wp2
      exact rfl
    refine owesL_cons (i' := 7) rfl ?_ ?_
    · refine o_pure rfl (by kernel_rfl) fun us a wz hA hv K hK => ?_
      have s23 := (slot_in hA (t := 23) (by simp) (j := 5) (by kernel_rfl)).trans (hv 5 (by kernel_rfl))
      clear hA hv
      go_wp2
      exact rfl
    refine owesL_cons (i' := 8) rfl ?_ ?_
    · refine o_f rfl (by kernel_rfl) fun us a wz hA hv hf K hK => ?_
      have s24 := (slot_in hA (t := 24) (by simp) (j := 6) (by kernel_rfl)).trans (hv 6 (by kernel_rfl))
      clear hA hv
      have k0 : wz.rangeAt b 4 (nums .u8 h.root) := range_frm (F := fun k => OutF g A k ∨ w.heap.size ≤ k) (show w.drew.rangeAt b 4 (nums .u8 h.root) from hsr) hf hnb
      clear hf
      refine wp_load_mid 25 _ rfl b 4 (ev s24) (nums .u8 h.root) _ k0 Tryd.underlying25 rfl (by rw [nums_length, h32]; kernel_rfl) ?_
      exact hK _ _ rfl (Frm.refl _ _)
    refine owesL_cons (i' := 9) rfl ?_ ?_
    · refine o_p rfl (by kernel_rfl) (by kernel_rfl) (pl := [4]) (by kernel_rfl) fun us a wz hA hv hf hw K hK => ?_
      have s22 := (slot_in hA (t := 22) (by simp) (j := 4) (by kernel_rfl)).trans (hv 4 (by kernel_rfl))
      have s25 := (slot_in hA (t := 25) (by simp) (j := 7) (by kernel_rfl)).trans (hv 7 (by kernel_rfl))
      replace hw : ((fun _ w' => OutS w w' g A (xs ++ be h.size 8)) : List Value → World → Prop) [us 4] wz := hw
      clear hA hv
      obtain ⟨A1, N1, c1, ho1, hat1⟩ := hw
      have hsz := hf.size
      clear hf
      go_wp2_with fail
      refine (hash_any g A1 N1 c1 _ h.root h32 _ ho1 (by simp only [List.length_append, be_length]; omega)).mono ?_
      rintro e w1 ⟨rfl, hp1⟩
      obtain ⟨h1, h2⟩ := OutS.step hat1 hsz hp1
      exact hK _ _ rfl h1 h2
    refine owesL_cons (i' := 10) rfl ?_ ?_
    · refine o_p rfl (by kernel_rfl) (by kernel_rfl) (pl := [4, 8]) (by kernel_rfl) fun us a wz hA hv hf hw K hK => ?_
      have s26 := (slot_in hA (t := 26) (by simp) (j := 8) (by kernel_rfl)).trans (hv 8 (by kernel_rfl))
      replace hw : ((fun _ w' => OutS w w' g A (xs ++ be h.size 8 ++ h.root)) : List Value → World → Prop) [us 4, us 8] wz := hw
      clear hA hv
      obtain ⟨A1, N1, c1, ho1, hat1⟩ := hw
      have hsz := hf.size
      have hN := ho1.len
      clear hf
      go_wp2_with fail
      refine (all_any g A1 N1 c1 _ _ ho1 (by simp only [List.length_append, be_length, h32]; omega)).mono ?_
      rintro e w1 ⟨v, rfl, A2, c2, rfl, hown, hbel, hnew⟩
      exact hK _ _ trivial ⟨A2, c2, by rw [hN]; rfl, by rw [← hN]; exact hown, fun b hb => Nat.le_trans hsz (hnew b hb)⟩ (Frm.of_below hbel _)
    refine owesL_cons (i' := 11) rfl ?_ ?_
    · refine o_p rfl (by kernel_rfl) (by kernel_rfl) (pl := [4, 8, 9]) (by kernel_rfl) fun us a wz hA hv hf hw K hK => ?_
      have s27 := slot_in hA (t := 27) (by simp) (j := 9) (by kernel_rfl)
      have u9 : ((fun _ _ => True) : Value → World → Prop) (us 9) wz := hv 9 (by kernel_rfl)
      replace hw : ((fun vs w' => Mine w.heap.size w' 5 1 (xs ++ be h.size 8 ++ h.root).length (nums .u8 (xs ++ be h.size 8 ++ h.root)) (vs.getD 2 undef)) : List Value → World → Prop) [us 4, us 8, us 9] wz := hw
      clear hA hv
      clear u9 hf
      replace hw : Mine w.heap.size wz 5 1 (xs ++ be h.size 8 ++ h.root).length (nums .u8 (xs ++ be h.size 8 ++ h.root)) (us 9) := hw
      replace hw := Lib.hid hw
      go_wp2
      exact hK _ _ trivial hw.out (Frm.refl _ _)
    exact owesL_nil
  case hV => exact Stabs.vt (.cons (stab_is _ _) (.cons (stab_is _ _) (.cons (stab_is _ _) (.cons (stab_is _ _) (.cons (stab_is _ _) (.cons (stab_is _ _) (.cons (stab_is _ _) (.cons (stab_is _ _) (.cons (stab_is _ _) (.cons (stab_true _) (.cons (stab_true _) (.nil))))))))))))
  case hW =>
    exact StabWs.wt (.cons (fun _ _ _ h hf => h.frm hf) (.cons (fun _ _ _ h hf => h.frm hf) (.cons (fun _ _ _ h hf => h.frm hf) (.cons (fun _ _ _ h hf => h.frm hf fun _ h => h.elim) (.cons (fun _ _ _ h hf => h.frm hf fun _ h => h.elim) .nil)))))
  case h0 =>
    exact ho.out.frm (Frm.refl (fun _ => False) w).drew
  intro usx wx hvx hwx hfx
  have qx0 : usx 0 = _ := hvx 0 (by decide)
  have qx1 : usx 1 = _ := hvx 1 (by decide)
  have qx2 : usx 2 = _ := hvx 2 (by decide)
  have qx3 : usx 3 = _ := hvx 3 (by decide)
  have qx4 : usx 4 = _ := hvx 4 (by decide)
  have qx5 : usx 5 = _ := hvx 5 (by decide)
  have qx6 : usx 6 = _ := hvx 6 (by decide)
  have qx7 : usx 7 = _ := hvx 7 (by decide)
  have qx8 : usx 8 = _ := hvx 8 (by decide)
  have qx9 : ((fun _ _ => True) : Value → World → Prop) (usx 9) wx := hvx 9 (by decide)
  have qx10 : ((fun _ _ => True) : Value → World → Prop) (usx 10) wx := hvx 10 (by decide)
  replace hwx : ((fun vs w' => Mine w.heap.size w' 5 1 (xs ++ be h.size 8 ++ h.root).length (nums .u8 (xs ++ be h.size 8 ++ h.root)) (vs.getD 3 undef)) : List Value → World → Prop) [usx 4, usx 8, usx 9, usx 10] wx := hwx
  rw [fill_all (ds := [some 18, some 19, some 20, some 21, some 22, some 23, some 24, some 25, some 26, some 27, some 2]) (by kernel_rfl)]
  simp only [putAll, Act.put, List.setIfInBounds_toArray, List.set_cons_succ, List.set_cons_zero, Nat.reduceAdd, qx0, qx1, qx2, qx3, qx4, qx5, qx6, qx7, qx8]
  clear hvx qx0 qx1 qx2 qx3 qx4 qx5 qx6 qx7 qx8
  exact hQ _ _ _ _ _ _ _ _ _ _ _ _ hwx (((Frm.refl _ _).drew.trans hfx fun _ _ h => h).mono fun k hk h => h.elim (fun h => h) fun h => absurd h (by omega))
theorem ItS.frm0 {F : Nat → Prop} {w w' : World} {A : Option Addr} {n : Nat} {l : List Itm} (h : ItS w A n l) (hf : Frm F w w') (hb : 0 < n → ∀ b, bl A = some b → ¬ F b) : ItS w' A n l := ⟨h.1.frm0 hf hb, h.2⟩
set_option maxRecDepth 100000 in
set_option maxHeartbeats 1000000 in
theorem recBytes_any (r : Rec) (A B : Option Addr) (n c m d : Nat) (w : World) (hP : PowG w) (hA : ItS w A n r.before) (hB : ItS w B m r.after) (h1 : NamesOk r.before) (h2 : NamesOk r.after) (n1 : n ≤ 256) (n2 : m ≤ 256) :
    Calls Tryd.prog 32 #[.agg (recCells r.kind (.slice A n c) (.slice B m d) r.head).toArray] w fun e w' => ∃ v, e = .returned v ∧ Mine w.heap.size w' 5 1 (recBytes r).length (nums .u8 (recBytes r)) v ∧ Below w.heap.size w w' := by
  have hb0 := Blk.new w 29 (recCells r.kind (.slice A n c) (.slice B m d) r.head)
  have hb1 := hb0.alloc (.cells #[.slice none 0 0] 96)
  have ho1 := Blk.new (w.alloc (.cells (recCells r.kind (.slice A n c) (.slice B m d) r.head).toArray 29)) 96 [.slice none 0 0]
  have hf1 := ((Frm.refl (fun _ => False) w).alloc (.cells (recCells r.kind (.slice A n c) (.slice B m d) r.head).toArray 29)).alloc (.cells #[.slice none 0 0] 96)
  rw [show (w.alloc (.cells (recCells r.kind (.slice A n c) (.slice B m d) r.head).toArray 29)).heap.size = w.heap.size + 1 by simp] at ho1
  have hAl := hA.1.lt
  have hBl := hB.1.lt
  have hnl : r.before.length = n := hA.2.1
  have hml : r.after.length = m := hB.2.1
  have lb := itemsBytes_length r.before h1
  have la := itemsBytes_length r.after h2
  rw [hnl] at lb
  rw [hml] at la
  have hPl := hP.lt
  have c0 : ∀ o, ((w.alloc (.cells (recCells r.kind (.slice A n c) (.slice B m d) r.head).toArray 29)).alloc o).cell? ⟨w.heap.size, 0, none⟩ = some (.int .i64 r.kind) := fun o => (hb0.alloc o).cell 0
  have hO1 : OutV ((w.alloc (.cells (recCells r.kind (.slice A n c) (.slice B m d) r.head).toArray 29)).alloc (.cells #[.slice none 0 0] 96)) (w.heap.size + 1) none 0 0 [] := ⟨ho1, Own.nil _ _ _⟩
  have hP1 := hP.frm hf1 fun h => h
  have hA1 := hA.frm hf1 fun _ _ h => h
  have hB1 := hB.frm hf1 fun _ _ h => h
  replace hb1 := Lib.hid hb1
  replace ho1 := Lib.hid ho1
  replace hf1 := Lib.hid hf1
  replace hO1 := Lib.hid hO1
  replace hP1 := Lib.hid hP1
  replace hA1 := Lib.hid hA1
  replace hB1 := Lib.hid hB1
  replace hAl := Lib.hid hAl
  replace hBl := Lib.hid hBl
  replace hnl := Lib.hid hnl
  replace hml := Lib.hid hml
  replace h1 := Lib.hid h1
  replace h2 := Lib.hid h2
  clear hb0 hP hA hB
  go_enter Tryd.func32, Tryd.ntmps32
  go_wp2_with fail
  refine (int_any (w.heap.size + 1) none 0 0 [] r.kind _ hO1.out (by simp)).mono ?_
  rintro e w2 ⟨rfl, A2, N2, c2, ho2, hf2, hat2⟩
  have hn2 : NewA (w.heap.size + 1) A2 := NewA.step (fun b hb => by cases hb) (by simp) hat2
  have hF2 : ∀ b, b < w.heap.size + 1 → ¬ OutF (w.heap.size + 1) none b := fun b hb h => by rcases h with h | h; omega; cases h
  have hb2 := hb1.out.frm hf2 (hF2 _ (by omega))
  have hP2 := hP1.out.frm hf2 (hF2 _ (by omega))
  have hA2 := hA1.out.frm0 hf2 fun hn b hb => hF2 b (by have := hAl.out hn (by decide) b hb; omega)
  have hB2 := hB1.out.frm0 hf2 fun hn b hb => hF2 b (by have := hBl.out hn (by decide) b hb; omega)
  have c1 : w2.cell? ⟨w.heap.size, 1, none⟩ = some (.slice A n c) := hb2.cell 1
  have hff := hf1.out.trans hf2 fun b hb h => absurd h (hF2 b (by omega))
  replace ho2 := Lib.hid ho2
  replace hn2 := Lib.hid hn2
  replace hb2 := Lib.hid hb2
  replace hP2 := Lib.hid hP2
  replace hA2 := Lib.hid hA2
  replace hB2 := Lib.hid hB2
  replace hff := Lib.hid hff
  clear hf2 hat2 c0
  go_wp2_with fail
  have hF3 : ∀ b, b < w.heap.size + 1 → ¬ OutF (w.heap.size + 1) A2 b := fun b hb => hn2.out.not (by omega) hb
  refine (put_any (w.heap.size + 1) A2 N2 c2 _ r.before A n c w2 hP2.out ho2.out hA2.out (fun hn b hb => hF3 b (by have := hAl.out hn (by decide) b hb; omega)) (hF3 _ (by omega)) (by simp [be_length]) n1 h1.out).mono ?_
  rintro e w3 ⟨rfl, A3, N3, c3, ho3, hf3, hat3⟩
  have hs2 := hff.out.size
  have hn3 : NewA (w.heap.size + 1) A3 := NewA.step hn2.out (by have := hb2.out.lt; omega) hat3
  have hb3 := hb2.out.frm hf3 (hF3 _ (by omega))
  have hP3 := hP2.out.frm hf3 (hF3 _ (by omega))
  have hB3 := hB2.out.frm0 hf3 fun hn b hb => hF3 b (by have := hBl.out hn (by decide) b hb; omega)
  have c2' : w3.cell? ⟨w.heap.size, 2, none⟩ = some (.slice B m d) := hb3.cell 2
  have hff3 := hff.out.trans hf3 fun b hb h => absurd h (hF3 b (by omega))
  replace ho3 := Lib.hid ho3
  replace hn3 := Lib.hid hn3
  replace hb3 := Lib.hid hb3
  replace hP3 := Lib.hid hP3
  replace hB3 := Lib.hid hB3
  replace hff3 := Lib.hid hff3
  clear hf3 hat3 c1 hF3
  go_wp2_with fail
  have hF4 : ∀ b, b < w.heap.size + 1 → ¬ OutF (w.heap.size + 1) A3 b := fun b hb => hn3.out.not (by omega) hb
  refine (put_any (w.heap.size + 1) A3 N3 c3 _ r.after B m d w3 hP3.out ho3.out hB3.out (fun hn b hb => hF4 b (by have := hBl.out hn (by decide) b hb; omega)) (hF4 _ (by omega)) (by simp only [List.length_append, be_length, List.nil_append]; omega) n2 h2.out).mono ?_
  rintro e w4 ⟨rfl, A4, N4, c4, ho4, hf4, hat4⟩
  have hs3 := hff3.out.size
  have hb4 := hb3.out.frm hf4 (hF4 _ (by omega))
  have hff4 := hff3.out.trans hf4 fun b hb h => absurd h (hF4 b (by omega))
  have hn4 : NewA (w.heap.size + 1) A4 := NewA.step hn3.out (by have := hb3.out.lt; omega) hat4
  have hmid := blk_mid3 hb4
  replace hff4 := Lib.hid hff4
  replace hn4 := Lib.hid hn4
  clear hf4 hat4 c2' hF4 hb4
  go_wp2
  have hF5 : ∀ b, b < w.heap.size + 1 → ¬ OutF (w.heap.size + 1) A4 b := fun b hb => hn4.out.not (by omega) hb
  have ho5 : OutS w4 w4 (w.heap.size + 1) A4 _ := ⟨A4, N4, c4, ho4, .inl rfl⟩
  refine recBytes_r5 (h := r.head) ho5 (hF5 _ (by omega)) hmid (by simp only [List.length_append, be_length, List.nil_append]; omega) ?_
  intro x18 x19 x20 x21 x22 x23 x24 x25 x26 x27 v w5 hm5 hf5
  have hff5 := hff4.out.trans hf5 fun b hb h => absurd h (hF5 b (by omega))
  have hm6 := hm5.old hff4.out.size
  rw [show [] ++ be r.kind 8 ++ be n 8 ++ itemsBytes r.before ++ be m 8 ++ itemsBytes r.after ++ be r.head.size 8 ++ r.head.root = recBytes r by rw [recBytes, hnl.out, hml.out]; simp only [List.nil_append, List.append_assoc]] at hm6
  replace hff5 := Lib.hid hff5
  replace hm6 := Lib.hid hm6
  clear hf5 ho5 hm5 hmid
  go_wp2
  go_ret
  exact ⟨v, rfl, hm6.out, hff5.out.below⟩
end Go.Proofs.YtmajnoefddbflaaDoor
