/- history.put: items in bytes. -/
import Derived.Test.YtmajnoefddbflaaDoorLb
import Derived.Test.YtmajnoefddbflaaDoorProg
import Derived.Test.YtmajnoefddbflaaDoorOut
import Derived.Test.YtmajnoefddbflaaDoorVsh
import Derived.Test.YtmajnoefddbflaaDoorItm
import Derived.Test.YtmajnoefddbflaaDoorRcd
import Derived.WalkKit
import Derived.WalkSpells
import Derived.StillTactics
import Derived.Laws.Pointers
import Derived.Lib.Hide
import Derived.KernelRfl
namespace Go.Proofs.YtmajnoefddbflaaDoor
open Go.RowKit

def itemBytes (x : Itm) : List Int := be x.name.size 4 ++ strBytes x.name ++ (be x.ver.show.size 4 ++ strBytes x.ver.show) ++ x.sum
def itemsBytes (l : List Itm) : List Int := l.flatMap itemBytes
theorem joined3_size (a b c : ByteArray) : (joined [a, b, c]).size = a.size + b.size + c.size + 2 := by
  have h := Lib.join_length a.data.toList [b.data.toList, c.data.toList] [46]
  simp [Lib.lens] at h
  show (joined [a, b, c]).data.size = _
  simp only [joined, List.map_cons, List.map_nil, List.size_toArray]
  omega
theorem itoaS_size (n : Int) (h0 : -9223372036854775808 ≤ n) (h1 : n ≤ 9223372036854775807) : (itoaS n).size ≤ 21 := by
  have := Lib.itoa_length_le n h0 h1
  show (itoaS n).data.size ≤ 21
  simpa [itoaS] using this
theorem ba_append_size (a b : ByteArray) : (a ++ b).size = a.size + b.size := ByteArray.size_append
theorem Ver.show_size (v : Ver) : v.show.size ≤ 100 := by
  rw [Ver.show]
  split
  · rename_i hok
    simp only [Ver.ok, Bool.and_eq_true, partOk, decide_eq_true_eq, preOk] at hok
    obtain ⟨⟨⟨h0, h1⟩, h2⟩, hp, _⟩ := hok
    have a := itoaS_size v.p0 (by omega) (by omega)
    have b := itoaS_size v.p1 (by omega) (by omega)
    have c := itoaS_size v.p2 (by omega) (by omega)
    split
    · rw [joined3_size]; omega
    · rw [ba_append_size, ba_append_size, joined3_size]
      have : (⟨#[45]⟩ : ByteArray).size = 1 := rfl
      omega
  · exact Nat.zero_le _
theorem itemBytes_length (x : Itm) (h : x.name.size ≤ 32) : (itemBytes x).length ≤ 172 := by
  have := x.ver.show_size
  simp only [itemBytes, List.length_append, be_length, strBytes_length, x.hs]
  omega
theorem itemsBytes_length (l : List Itm) (h : ∀ x ∈ l, x.name.size ≤ 32) : (itemsBytes l).length ≤ 172 * l.length := by
  induction l with
  | nil => simp [itemsBytes]
  | cons x l ih =>
    have h1 := itemBytes_length x (h x (List.mem_cons_self ..))
    have h2 := ih fun y hy => h y (List.mem_cons_of_mem _ hy)
    rw [itemsBytes, List.flatMap_cons, List.length_append, List.length_cons]
    have : (List.flatMap itemBytes l).length = (itemsBytes l).length := rfl
    omega
theorem itemsBytes_take (l : List Itm) (k : Nat) (hk : k < l.length) : itemsBytes (l.take (k + 1)) = itemsBytes (l.take k) ++ itemBytes l[k] := by
  rw [List.take_succ_eq_append_getElem hk, itemsBytes, List.flatMap_append]; simp [itemsBytes]
/-- what a chain of methods leaves of an Out, by its bytes -/
def OutS (w0 w' : World) (g : Nat) (A : Option Addr) (ys : List Int) : Prop := ∃ A' N' c', OutV w' g A' N' c' ys ∧ (bl A' = bl A ∨ ∃ b, bl A' = some b ∧ w0.heap.size ≤ b)
theorem OutS.frm {w0 w1 w2 : World} {g : Nat} {A : Option Addr} {ys : List Int} (h : OutS w0 w1 g A ys) (hf : Frm (fun _ => False) w1 w2) : OutS w0 w2 g A ys := by
  obtain ⟨A', N', c', ho, hat⟩ := h
  exact ⟨A', N', c', ho.frm hf fun _ _ h => h, hat⟩
/-- after one more method -/
theorem OutS.step {w0 w1 w2 : World} {g : Nat} {A A1 : Option Addr} {ys : List Int} (hat : bl A1 = bl A ∨ ∃ b, bl A1 = some b ∧ w0.heap.size ≤ b) (h0 : w0.heap.size ≤ w1.heap.size) (h : OutPost w1 w2 g A1 ys) : OutS w0 w2 g A ys ∧ Frm (fun k => OutF g A k ∨ w0.heap.size ≤ k) w1 w2 := by
  obtain ⟨A2, N2, c2, ho, hf, hat2⟩ := h
  refine ⟨⟨A2, N2, c2, ho, ?_⟩, hf.mono fun k hk hF => ?_⟩
  · rcases hat2 with e | ⟨b, e, hb⟩
    · rw [e]; exact hat
    · exact .inr ⟨b, e, Nat.le_trans h0 hb⟩
  · rcases hF with h | h
    · exact .inl (.inl h)
    · rcases hat with e | ⟨b, e, hb⟩
      · exact .inl (.inr (e ▸ h))
      · rw [e] at h; injection h with h; subst h; exact .inr hb
def NamesOk (l : List Itm) : Prop := ∀ x ∈ l, x.name.size ≤ 32
set_option maxRecDepth 100000 in
set_option maxHeartbeats 1000000 in
theorem put_r4 {g b : Nat} {A : Option Addr} {xs : List Int} {x : Itm} {u1 u2 u3 u4 u6 u7 u8 u9 u10 u11 u12 u13 u14 u15 u16 u17 u18 u19 u20 u21 u22 u23 u24 u25 u26 u27 : Value} {w : World} (hP : PowG w) (ho : OutS w w g A xs) (hgb : ¬ OutF g A b) (hpw : ¬ OutF g A 5) (hB : Blk w b 68 x.cells) (hxs : xs.length ≤ 1048576) (hx : x.name.size ≤ 32) {Q : Exit → Act → World → Prop}
    (hQ : ∀ (x16 x17 x18 x19 x20 x21 x22 x23 x24 x25 x26 : Value) (w' : World), OutS w w' g A (xs ++ itemBytes x) → Frm (OutF g A) w w' → Q .normal ⟨(.pointer (some ⟨g, 0, none⟩) :: u1 :: u2 :: u3 :: u4 :: .pointer (some ⟨b, 0, none⟩) :: u6 :: u7 :: u8 :: u9 :: u10 :: u11 :: u12 :: u13 :: u14 :: u15 :: x16 :: x17 :: x18 :: x19 :: x20 :: x21 :: x22 :: x23 :: x24 :: x25 :: x26 :: u27 :: []).toArray, []⟩ w') :
    (regionOf Tryd.f50 4).wp Tryd.prog Q ⟨(.pointer (some ⟨g, 0, none⟩) :: u1 :: u2 :: u3 :: u4 :: .pointer (some ⟨b, 0, none⟩) :: u6 :: u7 :: u8 :: u9 :: u10 :: u11 :: u12 :: u13 :: u14 :: u15 :: u16 :: u17 :: u18 :: u19 :: u20 :: u21 :: u22 :: u23 :: u24 :: u25 :: u26 :: u27 :: []).toArray, []⟩ w := by
  conv => arg 2; whnf
  have cn : w.cell? ⟨b, 0, none⟩ = some (.string x.name) := hB.cell 0
  have hvr : w.rangeAt b 1 x.ver.cells := (show Blk w b 68 ([.string x.name] ++ (x.ver.cells ++ nums .u8 x.sum)) from hB).mid rfl
  have hsr : w.rangeAt b 5 (nums .u8 x.sum) := (show Blk w b 68 ((.string x.name :: x.ver.cells) ++ (nums .u8 x.sum ++ [])) from by rw [List.append_nil]; exact hB).mid rfl
  have hbl := hB.lt
  have hss := x.ver.show_size
  have h32 := x.hs
  have hpl : 5 < w.heap.size := hP.lt
  have hnb : ¬ (OutF g A b ∨ w.heap.size ≤ b) := fun h => h.elim hgb fun h => by omega
  have hnp : ¬ (OutF g A 5 ∨ w.heap.size ≤ 5) := fun h => h.elim hpw fun h => by omega
  replace hP := Lib.hid hP
  replace ho := Lib.hid ho
  apply wp_region_typed (fun k => OutF g A k ∨ w.heap.size ≤ k) (nf [3, 7, 10]) [3, 7, 10] (vt [(Is _), (Is _), (Is _), (Is _), (Is _), (Is _), (Is _), (Is _), (Is _), (Is _), (Is _)]) (wt [(fun _ w' => OutS w w' g A xs), (fun _ w' => OutS w w' g A (xs ++ be x.name.size 4 ++ strBytes x.name)), (fun _ w' => OutS w w' g A (xs ++ be x.name.size 4 ++ strBytes x.name ++ be x.ver.show.size 4 ++ strBytes x.ver.show)), (fun _ w' => OutS w w' g A (xs ++ be x.name.size 4 ++ strBytes x.name ++ be x.ver.show.size 4 ++ strBytes x.ver.show ++ x.sum))]) (by kernel_rfl) (by kernel_rfl) (by kernel_rfl) (by kernel_rfl) (hop := owesL_all ?hop)
  case hop =>
    refine owesL_cons (i' := 1) rfl ?_ ?_
    · refine o_pure rfl (by kernel_rfl) fun us a wz hA hv K hK => ?_
      have s0 := slot_out hA (t := 0) (by kernel_rfl)
      clear hA hv
      go_wp2
      exact rfl
    refine owesL_cons (i' := 2) rfl ?_ ?_
    · refine o_pure rfl (by kernel_rfl) fun us a wz hA hv K hK => ?_
      have s5 := slot_out hA (t := 5) (by kernel_rfl)
      clear hA hv
      go_wp2
      exact rfl
    refine owesL_cons (i' := 3) rfl ?_ ?_
    · refine o_f rfl (by kernel_rfl) fun us a wz hA hv hf K hK => ?_
      have s17 := (slot_in hA (t := 17) (by simp) (j := 1) (by kernel_rfl)).trans (hv 1 (by kernel_rfl))
      clear hA hv
      have k0 := hf.cell cn hnb
      clear hf
      go_wp2
      exact hK _ _ rfl (Frm.refl _ _)
    refine owesL_cons (i' := 4) rfl ?_ ?_
    · refine o_p rfl (by kernel_rfl) (by kernel_rfl) (pl := []) (by kernel_rfl) fun us a wz hA hv hf hw K hK => ?_
      have s16 := (slot_in hA (t := 16) (by simp) (j := 0) (by kernel_rfl)).trans (hv 0 (by kernel_rfl))
      have s18 := (slot_in hA (t := 18) (by simp) (j := 2) (by kernel_rfl)).trans (hv 2 (by kernel_rfl))
      replace hw : ((fun _ w' => OutS w w' g A xs) : List Value → World → Prop) [] wz := hw
      clear hA hv
      obtain ⟨A1, N1, c1, ho1, hat1⟩ := hw
      have hsz := hf.size
      clear hf
      go_wp2_with fail
      refine (text_any g A1 N1 c1 xs x.name _ ho1 (by omega) (by omega)).mono ?_
      rintro e w1 ⟨rfl, hp1⟩
      obtain ⟨h1, h2⟩ := OutS.step hat1 hsz hp1
      exact hK _ _ rfl h1 h2
    refine owesL_cons (i' := 5) rfl ?_ ?_
    · refine o_pure rfl (by kernel_rfl) fun us a wz hA hv K hK => ?_
      have s5 := slot_out hA (t := 5) (by kernel_rfl)
      clear hA hv
      go_wp2
      exact rfl
    refine owesL_cons (i' := 6) rfl ?_ ?_
    · refine o_f rfl (by kernel_rfl) fun us a wz hA hv hf K hK => ?_
      have s20 := (slot_in hA (t := 20) (by simp) (j := 4) (by kernel_rfl)).trans (hv 4 (by kernel_rfl))
      clear hA hv
      have k0 : wz.rangeAt b 1 x.ver.cells := range_frm (F := fun k => OutF g A k ∨ w.heap.size ≤ k) (show w.drew.rangeAt b 1 x.ver.cells from hvr) hf hnb
      clear hf
      refine wp_load_mid 66 _ rfl b 1 (ev s20) x.ver.cells _ k0 Tryd.underlying66 rfl (by kernel_rfl) ?_
      exact hK _ _ rfl (Frm.refl _ _)
    refine owesL_cons (i' := 7) rfl ?_ ?_
    · refine o_f rfl (by kernel_rfl) fun us a wz hA hv hf K hK => ?_
      have s21 := (slot_in hA (t := 21) (by simp) (j := 5) (by kernel_rfl)).trans (hv 5 (by kernel_rfl))
      clear hA hv
      have hP1 := hP.out.frm ((Frm.refl _ w).drew.trans hf fun _ _ h => h) hnp
      clear hf
      go_wp2_with fail
      refine (verShow_any x.ver _ hP1).mono ?_
      rintro e w1 ⟨rfl, hp1⟩
      exact hK _ _ rfl (Frm.of_below hp1 _)
    refine owesL_cons (i' := 8) rfl ?_ ?_
    · refine o_p rfl (by kernel_rfl) (by kernel_rfl) (pl := [3]) (by kernel_rfl) fun us a wz hA hv hf hw K hK => ?_
      have s19 := (slot_in hA (t := 19) (by simp) (j := 3) (by kernel_rfl)).trans (hv 3 (by kernel_rfl))
      have s22 := (slot_in hA (t := 22) (by simp) (j := 6) (by kernel_rfl)).trans (hv 6 (by kernel_rfl))
      replace hw : ((fun _ w' => OutS w w' g A (xs ++ be x.name.size 4 ++ strBytes x.name)) : List Value → World → Prop) [us 3] wz := hw
      clear hA hv
      obtain ⟨A1, N1, c1, ho1, hat1⟩ := hw
      have hsz := hf.size
      clear hf
      go_wp2_with fail
      refine (text_any g A1 N1 c1 _ x.ver.show _ ho1 (by simp only [List.length_append, be_length, strBytes_length]; omega) (by omega)).mono ?_
      rintro e w1 ⟨rfl, hp1⟩
      obtain ⟨h1, h2⟩ := OutS.step hat1 hsz hp1
      exact hK _ _ rfl h1 h2
    refine owesL_cons (i' := 9) rfl ?_ ?_
    · refine o_pure rfl (by kernel_rfl) fun us a wz hA hv K hK => ?_
      have s5 := slot_out hA (t := 5) (by kernel_rfl)
      clear hA hv
      go_wp2
      exact rfl
    refine owesL_cons (i' := 10) rfl ?_ ?_
    · refine o_f rfl (by kernel_rfl) fun us a wz hA hv hf K hK => ?_
      have s24 := (slot_in hA (t := 24) (by simp) (j := 8) (by kernel_rfl)).trans (hv 8 (by kernel_rfl))
      clear hA hv
      have k0 : wz.rangeAt b 5 (nums .u8 x.sum) := range_frm (F := fun k => OutF g A k ∨ w.heap.size ≤ k) (show w.drew.rangeAt b 5 (nums .u8 x.sum) from hsr) hf hnb
      clear hf
      refine wp_load_mid 25 _ rfl b 5 (ev s24) (nums .u8 x.sum) _ k0 Tryd.underlying25 rfl (by rw [nums_length, h32]; kernel_rfl) ?_
      exact hK _ _ rfl (Frm.refl _ _)
    refine owesL_cons (i' := 11) rfl ?_ ?_
    · refine o_p rfl (by kernel_rfl) (by kernel_rfl) (pl := [3, 7]) (by kernel_rfl) fun us a wz hA hv hf hw K hK => ?_
      have s23 := (slot_in hA (t := 23) (by simp) (j := 7) (by kernel_rfl)).trans (hv 7 (by kernel_rfl))
      have s25 := (slot_in hA (t := 25) (by simp) (j := 9) (by kernel_rfl)).trans (hv 9 (by kernel_rfl))
      replace hw : ((fun _ w' => OutS w w' g A (xs ++ be x.name.size 4 ++ strBytes x.name ++ be x.ver.show.size 4 ++ strBytes x.ver.show)) : List Value → World → Prop) [us 3, us 7] wz := hw
      clear hA hv
      obtain ⟨A1, N1, c1, ho1, hat1⟩ := hw
      have hsz := hf.size
      clear hf
      go_wp2_with fail
      refine (hash_any g A1 N1 c1 _ x.sum h32 _ ho1 (by simp only [List.length_append, be_length, strBytes_length]; omega)).mono ?_
      rintro e w1 ⟨rfl, hp1⟩
      obtain ⟨h1, h2⟩ := OutS.step hat1 hsz hp1
      exact hK _ _ rfl h1 h2
    exact owesL_nil
  case hV => exact Stabs.vt (.cons (stab_is _ _) (.cons (stab_is _ _) (.cons (stab_is _ _) (.cons (stab_is _ _) (.cons (stab_is _ _) (.cons (stab_is _ _) (.cons (stab_is _ _) (.cons (stab_is _ _) (.cons (stab_is _ _) (.cons (stab_is _ _) (.cons (stab_is _ _) (.nil))))))))))))
  case hW =>
    exact StabWs.wt (.cons (fun _ _ _ h hf => h.frm hf) (.cons (fun _ _ _ h hf => h.frm hf) (.cons (fun _ _ _ h hf => h.frm hf) (.cons (fun _ _ _ h hf => h.frm hf) .nil))))
  case h0 =>
    exact ho.out.frm (Frm.refl (fun _ => False) w).drew
  intro usx wx hvx hwx hfx
  have qx0 : usx 0 = _ := hvx 0 (by decide)
  have qx1 : usx 1 = _ := hvx 1 (by decide)
  have qx2 : usx 2 = _ := hvx 2 (by decide)
  have qx3 : usx 3 = _ := hvx 3 (by decide)
  have qx4 : usx 4 = _ := hvx 4 (by decide)
  have qx5 : usx 5 = _ := hvx 5 (by decide)
  have qx6 : usx 6 = _ := hvx 6 (by decide)
  have qx7 : usx 7 = _ := hvx 7 (by decide)
  have qx8 : usx 8 = _ := hvx 8 (by decide)
  have qx9 : usx 9 = _ := hvx 9 (by decide)
  have qx10 : usx 10 = _ := hvx 10 (by decide)
  replace hwx : ((fun _ w' => OutS w w' g A (xs ++ be x.name.size 4 ++ strBytes x.name ++ be x.ver.show.size 4 ++ strBytes x.ver.show ++ x.sum)) : List Value → World → Prop) [usx 3, usx 7, usx 10] wx := hwx
  rw [fill_all (ds := [some 16, some 17, some 18, some 19, some 20, some 21, some 22, some 23, some 24, some 25, some 26]) (by kernel_rfl)]
  simp only [putAll, Act.put, List.setIfInBounds_toArray, List.set_cons_succ, List.set_cons_zero, Nat.reduceAdd, qx0, qx1, qx2, qx3, qx4, qx5, qx6, qx7, qx8, qx9, qx10]
  clear hvx qx0 qx1 qx2 qx3 qx4 qx5 qx6 qx7 qx8 qx9 qx10
  refine hQ _ _ _ _ _ _ _ _ _ _ _ _ ?_ (((Frm.refl _ _).drew.trans hfx fun _ _ h => h).mono fun k hk h => h.elim (fun h => h) fun h => absurd h (by omega))
  simpa [itemBytes, List.append_assoc] using hwx
theorem OutS.trans {w0 w1 w2 : World} {g : Nat} {A A1 : Option Addr} {ys : List Int} (hat : bl A1 = bl A ∨ ∃ b, bl A1 = some b ∧ w0.heap.size ≤ b) (h0 : w0.heap.size ≤ w1.heap.size) (h : OutS w1 w2 g A1 ys) : OutS w0 w2 g A ys := by
  obtain ⟨A2, N2, c2, ho, hat2⟩ := h
  refine ⟨A2, N2, c2, ho, ?_⟩
  rcases hat2 with e | ⟨b, e, hb⟩
  · rw [e]; exact hat
  · exact .inr ⟨b, e, Nat.le_trans h0 hb⟩
set_option maxRecDepth 100000 in
set_option maxHeartbeats 1000000 in
theorem put_any (g : Nat) (A : Option Addr) (N c : Nat) (xs : List Int) (l : List Itm) (A2 : Option Addr) (n c2 : Nat) (w : World) (hP : PowG w) (ho : OutV w g A N c xs) (hi : ItS w A2 n l) (hd : 0 < n → ∀ b, bl A2 = some b → ¬ OutF g A b) (hpw : ¬ OutF g A 5)
    (hxs : xs.length ≤ 524288) (hn : n ≤ 256) (hx : NamesOk l) :
    Calls Tryd.prog 50 #[.pointer (some ⟨g, 0, none⟩), .slice A2 n c2] w fun e w' => e = .returned (.tuple #[]) ∧ OutPost w w' g A (xs ++ be n 8 ++ itemsBytes l) := by
  obtain ⟨hr, hl, hn'⟩ := hi
  have hgl := ho.blk.lt
  have hal := ho.own.lt
  replace hP := Lib.hid hP
  replace ho := Lib.hid ho
  replace hr := Lib.hid hr
  replace hl := Lib.hid hl
  replace hx := Lib.hid hx
  replace hal := Lib.hid hal
  go_enter Tryd.func50, Tryd.ntmps50
  go_wp2_with fail
  refine (int_any g A N c xs n w ho.out (by omega)).mono ?_
  rintro e w1 ⟨rfl, A1, N1, c1, ho1, hf1, hat1⟩
  replace ho1 := Lib.hid ho1
  replace hf1 := Lib.hid hf1
  replace hat1 := Lib.hid hat1
  go_wp2
  go_loopw [5, 12] (fun _ i wr => ∃ (k : Nat) (A3 : Option Addr) (N3 c3 : Nat), k ≤ n ∧ i = .int .i64 k ∧ OutV wr g A3 N3 c3 (xs ++ be n 8 ++ itemsBytes (l.take k)) ∧ Frm (OutF g A) w wr ∧ (bl A3 = bl A ∨ ∃ b, bl A3 = some b ∧ w.heap.size ≤ b)) (fun _ i _ => n - (intOf i).toNat)
  case atStart => exact ⟨0, A1, N1, c1, Nat.zero_le _, rfl, by simpa [itemsBytes] using ho1.out, hf1.out, hat1.out⟩
  case round =>
    obtain ⟨k, A3, N3, c3, hk, rfl, ho3, hf3, hat3⟩ := hrel
    replace ho3 := Lib.hid ho3
    replace hf3 := Lib.hid hf3
    replace hat3 := Lib.hid hat3
    by_cases hlt : k < n
    · have hlt' : (k : Int) < n := by omega
      have hkl : k < l.length := by rw [hl.out]; exact hlt
      obtain ⟨b, o, rfl, hrow⟩ := hr.out.2 (by omega)
      have hbF : ¬ OutF g A b := hd (by omega) b rfl
      have hcur := range_row Itm.cells 37 Itm.cells_length l o k hkl (range_frm hrow hf3.out hbF)
      have htk := itemsBytes_take l k hkl
      obtain ⟨x, hx0⟩ : ∃ x, x = l[k] := ⟨_, rfl⟩
      rw [← hx0] at hcur htk
      have hxn : x.name.size ≤ 32 := hx.out x (by rw [hx0]; exact List.getElem_mem hkl)
      have hbl3 : (itemsBytes (l.take k)).length ≤ 172 * 256 := by
        have := itemsBytes_length (l.take k) fun y hy => hx.out y (List.mem_of_mem_take hy)
        have h2 : (l.take k).length ≤ k := List.length_take_le _ _
        omega
      have h37 := x.cells_length
      have hnw := Blk.new wr 68 (.string ⟨#[]⟩ :: .int .i64 0 :: .int .i64 0 :: .int .i64 0 :: .string ⟨#[]⟩ :: List.replicate 32 (.int .u8 0))
      have hth := hnw.there' 0 37 (by simp)
      replace hx0 := Lib.hid hx0
      replace htk := Lib.hid htk
      replace hnw := Lib.hid hnw
      clear hrow
      go_wp2_with first
        | refine list_load 68 hcur Tryd.underlying68 rfl (by rw [h37]; kernel_rfl) rfl rfl rfl ?_
        | refine list_store 68 (by rw [h37]; exact hth) (by rw [h37]; kernel_rfl) x.one rfl rfl rfl rfl ?_
      generalize hwq : World.setCells _ _ _ _ = wq
      simp only [Act.put, List.setIfInBounds_toArray, List.set_cons_succ, List.set_cons_zero]
      have hB : Blk wq wr.heap.size 68 x.cells := by
        rw [← hwq]
        have := hnw.out.setCells (o := 0) (vs := x.cells) (by rw [h37]; simp)
        rw [h37] at this
        simpa using this
      have hfr : Frm (fun _ => False) wr wq := by
        rw [← hwq]
        exact ((Frm.refl (fun _ => False) wr).alloc _).setCells (fun h => by omega) 0 _
      have hsw : w.heap.size ≤ wr.heap.size := hf3.out.size
      have hog := ho3.out.blk.lt
      have hoa := ho3.out.own.lt
      have hpl := hP.out.lt
      have hnF : ¬ OutF g A3 wr.heap.size := fun h => by
        rcases h with h | h
        · omega
        · have := hoa _ h; omega
      have hnP : ¬ OutF g A3 5 := fun h => by
        rcases h with h | h
        · exact hpw (.inl h)
        · rcases hat3.out with e | ⟨b, e, hb⟩
          · exact hpw (.inr (e ▸ h))
          · rw [e] at h; injection h with h; omega
      have ho4 : OutS wq wq g A3 (xs ++ be n 8 ++ itemsBytes (l.take k)) := ⟨A3, N3, c3, ho3.out.frm hfr fun _ _ h => h, .inl rfl⟩
      have hP4 := (hP.out.frm hf3.out hpw).frm hfr fun h => h
      have hsr := hfr.size
      clear hwq hth hnw hcur
      replace hfr := Lib.hid hfr
      refine put_r4 hP4 ho4 hnF hnP hB (by simp only [List.length_append, be_length]; omega) hxn ?_
      intro x16 x17 x18 x19 x20 x21 x22 x23 x24 x25 x26 w2 ho5 hf5
      obtain ⟨A5, N5, c5, hv5, hat5⟩ := ho5
      have hF5 : Frm (OutF g A) w w2 := (hf3.out.trans hfr.out fun _ _ h => h.elim).trans hf5 fun b hb h => by
        rcases h with h | h
        · exact .inl h
        · rcases hat3.out with e | ⟨b', e, hb'⟩
          · exact .inr (e ▸ h)
          · rw [e] at h; injection h with h; omega
      have hat6 : bl A5 = bl A ∨ ∃ b, bl A5 = some b ∧ w.heap.size ≤ b := by
        rcases hat5 with e | ⟨b, e, hb⟩
        · rw [e]; exact hat3.out
        · exact .inr ⟨b, e, by omega⟩
      replace hv5 := Lib.hid hv5
      replace hF5 := Lib.hid hF5
      replace hat6 := Lib.hid hat6
      clear hf5 hat5 ho4 hP4
      go_wp2
      go_roundw
      case rel => exact ⟨k + 1, A5, N5, c5, by omega, by go_num, by rw [htk.out, ← List.append_assoc]; exact hv5.out, hF5.out, hat6.out⟩
      case measure => simp [intOf]; omega
    · have hkn : k = n := by omega
      subst hkn
      rw [List.take_of_length_le (Nat.le_of_eq hl.out)] at ho3
      go_wp2
      go_end0
      exact ⟨rfl, A3, N3, c3, ho3.out, hf3.out, hat3.out⟩
end Go.Proofs.YtmajnoefddbflaaDoor
