/- law23.AnchorCrashes: its lists. -/
import Derived.Test.YtmajnoefddbflaaDoorLx
import Derived.Test.YtmajnoefddbflaaDoorProg
import Derived.Test.YtmajnoefddbflaaDoorSml
import Derived.Test.YtmajnoefddbflaaDoorEmp
import Derived.Test.YtmajnoefddbflaaDoorRgn
import Derived.WalkKit
import Derived.WalkSpells
import Derived.StillTactics
import Derived.Laws.Pointers
import Derived.Lib.Hide
import Derived.KernelRfl
namespace Go.Proofs.YtmajnoefddbflaaDoor
open Go.RowKit

theorem wp_app0 {P : Program} {w : World} {t e size bytes : Nat} {o : Oper} {a : Act} {Q : Exit → Act → World → Prop} {s x : Operand} {K : Act → World → Prop} (T : AppT P t e size bytes) (ho : o.op = .call { callee := .builtin .append, args := #[s, x], argTypes := #[t, t] }) {b : Nat} {A2 : Option Addr} {m c2 : Nat} {news : List Value}
    (hs : a.eval s = .slice (some ⟨b, 0, none⟩) 0 0) (hx : a.eval x = .slice A2 m c2) (hb : Blk w b e []) (hr : Rd w size A2 m news) (h1 : ∀ u ∈ news, u.oneCell' = true) (hbytes : m * bytes ≤ 140737488355328)
    (h : ∀ A' c' w', Own w' e size A' m c' news → Frm (fun _ => False) w w' → (bl A' = some b ∨ bl A' = some w.heap.size) → K (a.put o.dst (.slice A' m c')) w') : o.wp P a w K Q := by
  rcases Nat.eq_zero_or_pos m with h0 | h0
  · subst h0
    have hn : news = [] := List.eq_nil_of_length_eq_zero (by simpa using hr.1)
    subst hn
    obtain ⟨i, z, hi, hz, hs', hbb, hzs⟩ := T.hi
    have hrun : (Builtin.append_ #[t, t] o.type #[.slice (some ⟨b, 0, none⟩) 0 0, .slice A2 0 c2]).run P w = .ok (.slice (some ⟨b, 0, none⟩) 0 0) w := by
      cases A2 <;> simp [Builtin.append_, run_underlying T.ht, sizeOf, typeInfo, hi, Builtin.lenOf, Builtin.firstCells, storeCells, loadCells, loadCellsFrom]
    unfold Oper.wp execOp
    simp only [ho, resolve, invoke, builtin, Sem.run_bind, Sem.run_pure, Result.andThen_ok, List.map_toArray, List.map_cons, List.map_nil, hs, hx, hrun]
    exact h _ _ _ (Own.of_blk hb 0 (by simp) (by decide)) (Frm.refl _ _) (.inl rfl)
  · obtain ⟨A', c', w', hrun, h2, h3, h4⟩ := run_app T o.type (Own.nil w e size) c2 hr h1 (by rw [Nat.zero_add]; exact hbytes)
    have hrun' := run_app_empty T o.type w ⟨b, 0, none⟩ (A2 := A2) (c2 := c2) h0 hbytes
    rw [hrun] at hrun'
    unfold Oper.wp execOp
    simp only [ho, resolve, invoke, builtin, Sem.run_bind, Sem.run_pure, Result.andThen_ok, List.map_toArray, List.map_cons, List.map_nil, hs, hx, hrun', Nat.zero_add]
    rw [Nat.zero_add] at h2
    refine h _ _ _ (by simpa using h2) (h3.mono fun k _ h => by cases h) ?_
    rcases h4 with e | e
    · exfalso
      obtain ⟨y, rfl⟩ := Own.someB h2 h0
      cases e
    · exact .inr e
set_option maxRecDepth 100000 in
set_option maxHeartbeats 2000000 in
theorem crash_r3 {B0 b n : Nat} {A0 : Option Addr} {c0 : Nat} {css : List (List Value)} {rs : List Rec} {cs : List Value} {r : Rec} {u1 u2 u3 u5 u6 u7 u8 u9 u10 u11 u12 u13 u14 u15 u16 u17 u18 u19 u20 u21 u22 u23 u24 u25 u26 u27 u28 u29 u30 u31 u32 u33 u34 u35 u36 u37 u38 u39 u40 u41 u42 u43 u44 u45 u46 u47 u48 u49 u50 u51 u52 u53 u54 u55 u56 u57 u58 u59 u60 u61 u62 u63 u64 u65 u66 u67 u68 u69 u70 u71 u72 u73 u74 u75 u76 u77 u78 u79 u80 u81 u82 u83 u84 u85 u86 u87 u88 u89 u90 u91 u92 u93 u94 u95 u96 u97 u98 u99 u100 u101 u102 u103 u104 u105 u106 u107 u108 u109 u110 u111 u112 u113 u114 u115 u116 u117 u118 u119 u120 u121 u122 u123 u124 u125 u126 u127 u128 u129 u130 u131 u132 u133 u134 u135 u136 u137 u138 u139 u140 u141 u142 u143 u144 u145 u146 : Value} {w : World} (hr : Rd w 36 A0 n css.flatten) (hV : RecsV B0 w css rs) (hl : rs.length = n) (hB : Blk w b 29 cs) (hrv : RecV B0 w cs r) (hn : n ≤ 1048576) {Q : Exit → Act → World → Prop}
    (hQ : ∀ (x27 x28 x29 x30 x31 : Value) (A : Option Addr) (c : Nat) (w' : World), Own w' 29 36 A (n + 1) c (css.flatten ++ cs) → Frm (fun _ => False) w w' → Q .normal ⟨(.slice A0 n c0 :: u1 :: u2 :: u3 :: .pointer (some ⟨b, 0, none⟩) :: u5 :: u6 :: u7 :: u8 :: u9 :: u10 :: u11 :: u12 :: u13 :: u14 :: u15 :: u16 :: u17 :: u18 :: u19 :: u20 :: u21 :: u22 :: u23 :: u24 :: u25 :: u26 :: x27 :: x28 :: x29 :: x30 :: x31 :: .slice A (n + 1) c :: .int .i64 ((n : Int) + 1) :: .int .i64 0 :: u35 :: u36 :: u37 :: u38 :: u39 :: u40 :: u41 :: u42 :: u43 :: u44 :: u45 :: u46 :: u47 :: u48 :: u49 :: u50 :: u51 :: u52 :: u53 :: u54 :: u55 :: u56 :: u57 :: u58 :: u59 :: u60 :: u61 :: u62 :: u63 :: u64 :: u65 :: u66 :: u67 :: u68 :: u69 :: u70 :: u71 :: u72 :: u73 :: u74 :: u75 :: u76 :: u77 :: u78 :: u79 :: u80 :: u81 :: u82 :: u83 :: u84 :: u85 :: u86 :: u87 :: u88 :: u89 :: u90 :: u91 :: u92 :: u93 :: u94 :: u95 :: u96 :: u97 :: u98 :: u99 :: u100 :: u101 :: u102 :: u103 :: u104 :: u105 :: u106 :: u107 :: u108 :: u109 :: u110 :: u111 :: u112 :: u113 :: u114 :: u115 :: u116 :: u117 :: u118 :: u119 :: u120 :: u121 :: u122 :: u123 :: u124 :: u125 :: u126 :: u127 :: u128 :: u129 :: u130 :: u131 :: u132 :: u133 :: u134 :: u135 :: u136 :: u137 :: u138 :: u139 :: u140 :: u141 :: u142 :: u143 :: u144 :: u145 :: u146 :: []).toArray, []⟩ w') :
    (regionOf Tryd.f3 3).wp Tryd.prog Q ⟨(.slice A0 n c0 :: u1 :: u2 :: u3 :: .pointer (some ⟨b, 0, none⟩) :: u5 :: u6 :: u7 :: u8 :: u9 :: u10 :: u11 :: u12 :: u13 :: u14 :: u15 :: u16 :: u17 :: u18 :: u19 :: u20 :: u21 :: u22 :: u23 :: u24 :: u25 :: u26 :: u27 :: u28 :: u29 :: u30 :: u31 :: u32 :: u33 :: u34 :: u35 :: u36 :: u37 :: u38 :: u39 :: u40 :: u41 :: u42 :: u43 :: u44 :: u45 :: u46 :: u47 :: u48 :: u49 :: u50 :: u51 :: u52 :: u53 :: u54 :: u55 :: u56 :: u57 :: u58 :: u59 :: u60 :: u61 :: u62 :: u63 :: u64 :: u65 :: u66 :: u67 :: u68 :: u69 :: u70 :: u71 :: u72 :: u73 :: u74 :: u75 :: u76 :: u77 :: u78 :: u79 :: u80 :: u81 :: u82 :: u83 :: u84 :: u85 :: u86 :: u87 :: u88 :: u89 :: u90 :: u91 :: u92 :: u93 :: u94 :: u95 :: u96 :: u97 :: u98 :: u99 :: u100 :: u101 :: u102 :: u103 :: u104 :: u105 :: u106 :: u107 :: u108 :: u109 :: u110 :: u111 :: u112 :: u113 :: u114 :: u115 :: u116 :: u117 :: u118 :: u119 :: u120 :: u121 :: u122 :: u123 :: u124 :: u125 :: u126 :: u127 :: u128 :: u129 :: u130 :: u131 :: u132 :: u133 :: u134 :: u135 :: u136 :: u137 :: u138 :: u139 :: u140 :: u141 :: u142 :: u143 :: u144 :: u145 :: u146 :: []).toArray, []⟩ w := by
  conv => arg 2; whnf
  have h36 := hrv.length
  have hone := hrv.one
  have hones := hV.one
  replace hr := Lib.hid hr
  replace hV := Lib.hid hV
  replace hB := Lib.hid hB
  replace hrv := Lib.hid hrv
  replace hl := Lib.hid hl
  replace hone := Lib.hid hone
  replace hones := Lib.hid hones
  apply wp_region_dead (fun k => w.heap.size ≤ k) (nf [0, 2, 3, 4, 5, 6]) [5] 5 (fun i => [0, 2, 4].contains i) (vt [(fun u w' => ∃ x, u = .slice (some ⟨x, 0, none⟩) 0 0 ∧ Blk w' x 29 [] ∧ w.heap.size ≤ x), (Is _), (fun u w' => ∃ A c, u = .slice A n c ∧ Own w' 29 36 A n c css.flatten ∧ ∀ b, bl A = some b → w.heap.size ≤ b), (Is _), (fun u w' => ∃ y, u = .slice (some ⟨y, 0, none⟩) 1 1 ∧ Blk w' y 29 cs), (fun u _ => ∃ A c, u = .slice A (n + 1) c), (Is _), (Is _)]) (wt [(fun _ w' => Frm (fun _ => False) w w'), (fun vs w' => ∃ A c, vs = [.slice A (n + 1) c] ∧ Own w' 29 36 A (n + 1) c (css.flatten ++ cs))]) rfl (by kernel_rfl) (by kernel_rfl) (by kernel_rfl) (by kernel_rfl) (hop := owesDL_all ?hop)
  case hop =>
    refine owesDL_cons (i' := 1) rfl ?_ ?_
    · refine d_q rfl (by kernel_rfl) (by kernel_rfl) (pl := []) (by kernel_rfl) fun us a wz hA hv hf hw K hK => ?_
      replace hw : ((fun _ w' => Frm (fun _ => False) w w') : List Value → World → Prop) [] wz := hw
      clear hA hv
      have hsz := hw.size
      clear hf hw
      go_wp2
      exact hK _ _ ⟨wz.heap.size, rfl, Blk.new wz _ [], hsz⟩ ((Frm.refl _ wz).alloc _)
    refine owesDL_cons (i' := 2) rfl ?_ ?_
    · refine d_pure rfl (by kernel_rfl) fun us a wz hA hv K hK => ?_
      have s0 := slot_out hA (t := 0) (by kernel_rfl)
      clear hA hv
      go_wp2
      exact rfl
    refine owesDL_cons (i' := 3) rfl ?_ ?_
    · refine d_q rfl (by kernel_rfl) (by kernel_rfl) (pl := []) (by kernel_rfl) fun us a wz hA hv hf hw K hK => ?_
      have s27 := slot_in hA (t := 27) (by simp) (j := 0) (by kernel_rfl)
      have u0 : ((fun u w' => ∃ x, u = .slice (some ⟨x, 0, none⟩) 0 0 ∧ Blk w' x 29 [] ∧ w.heap.size ≤ x) : Value → World → Prop) (us 0) wz := hv 0 (by kernel_rfl)
      have s28 := (slot_in hA (t := 28) (by simp) (j := 1) (by kernel_rfl)).trans (hv 1 (by kernel_rfl))
      replace hw : ((fun _ w' => Frm (fun _ => False) w w') : List Value → World → Prop) [] wz := hw
      clear hA hv
      obtain ⟨x, e, hb, hx⟩ := u0
      replace s27 := s27.trans e
      refine wp_app0 appRecords rfl (ev s27) (ev s28) hb (hr.out.frm hw fun _ _ h => h) hones.out (by omega) fun A' c' w2 hown hf2 hat => ?_
      refine hK _ _ ⟨A', c', rfl, hown, fun y hy => ?_⟩ hf2
      rcases hat with e | e
      · rw [e] at hy; injection hy with hy; omega
      · rw [e] at hy; injection hy with hy; have := hw.size; omega
    refine owesDL_cons (i' := 4) rfl ?_ ?_
    · refine d_q rfl (by kernel_rfl) (by kernel_rfl) (pl := []) (by kernel_rfl) fun us a wz hA hv hf hw K hK => ?_
      have s4 := slot_out hA (t := 4) (by kernel_rfl)
      replace hw : ((fun _ w' => Frm (fun _ => False) w w') : List Value → World → Prop) [] wz := hw
      clear hA hv
      have k0 := (hB.out.frm hw fun h => h).range
      clear hf
      refine wp_load_mid 29 _ rfl b 0 (ev s4) cs _ k0 Tryd.underlying29 rfl (by rw [h36]; kernel_rfl) ?_
      exact hK _ _ rfl (Frm.refl _ _)
    refine owesDL_cons (i' := 5) rfl ?_ ?_
    · refine d_q rfl (by kernel_rfl) (by kernel_rfl) (pl := []) (by kernel_rfl) fun us a wz hA hv hf hw K hK => ?_
      have s30 := (slot_in hA (t := 30) (by simp) (j := 3) (by kernel_rfl)).trans (hv 3 (by kernel_rfl))
      replace hw : ((fun _ w' => Frm (fun _ => False) w w') : List Value → World → Prop) [] wz := hw
      clear hA hv
      clear hf hw
      go_wp2
      rw [foldl_set0 cs _ (by rw [h36]; rfl)]
      exact hK _ _ ⟨wz.heap.size, rfl, Blk.new wz _ _⟩ ((Frm.refl _ wz).alloc _)
    refine owesDL_cons (i' := 6) rfl ?_ ?_
    · refine d_p rfl (by kernel_rfl) (by kernel_rfl) (pl := []) (by kernel_rfl) fun us a wz hA hv hf hw K hK => ?_
      have s29 := slot_in hA (t := 29) (by simp) (j := 2) (by kernel_rfl)
      have u2 : ((fun u w' => ∃ A c, u = .slice A n c ∧ Own w' 29 36 A n c css.flatten ∧ ∀ b, bl A = some b → w.heap.size ≤ b) : Value → World → Prop) (us 2) wz := hv 2 (by kernel_rfl)
      have s31 := slot_in hA (t := 31) (by simp) (j := 4) (by kernel_rfl)
      have u4 : ((fun u w' => ∃ y, u = .slice (some ⟨y, 0, none⟩) 1 1 ∧ Blk w' y 29 cs) : Value → World → Prop) (us 4) wz := hv 4 (by kernel_rfl)
      replace hw : ((fun _ w' => Frm (fun _ => False) w w') : List Value → World → Prop) [] wz := hw
      clear hA hv
      obtain ⟨A, c, e2, ho, hA⟩ := u2
      obtain ⟨y, e4, hb⟩ := u4
      replace s29 := s29.trans e2
      replace s31 := s31.trans e4
      refine wp_app appRecords rfl (ev s29) (ev s31) ho (Own.of_blk (size := 36) hb 1 (by rw [h36]) (by decide)).rd hone.out (by omega) fun A' c' w2 hown hf2 hat => ?_
      exact hK _ _ ⟨A', c', rfl⟩ ⟨A', c', rfl, hown⟩ (hf2.mono fun k hk h => hA k h)
    refine owesDL_cons (i' := 7) rfl ?_ ?_
    · refine d_q rfl (by kernel_rfl) (by kernel_rfl) (pl := [5]) (by kernel_rfl) fun us a wz hA hv hf hw K hK => ?_
      have s32 := slot_in hA (t := 32) (by simp) (j := 5) (by kernel_rfl)
      have u5 : ((fun u _ => ∃ A c, u = .slice A (n + 1) c) : Value → World → Prop) (us 5) wz := hv 5 (by kernel_rfl)
      replace hw : ((fun vs w' => ∃ A c, vs = [.slice A (n + 1) c] ∧ Own w' 29 36 A (n + 1) c (css.flatten ++ cs)) : List Value → World → Prop) [us 5] wz := hw
      clear hA hv
      obtain ⟨A, c, e⟩ := u5
      replace s32 := s32.trans e
      clear e hw hf
      go_wp2
      exact hK _ _ rfl (Frm.refl _ _)
    refine owesDL_cons (i' := 8) rfl ?_ ?_
    · refine d_pure rfl (by kernel_rfl) fun us a wz hA hv K hK => ?_
      clear hA hv
      go_wp2
      exact rfl
    exact owesDL_nil
  case hV => exact StabsD.vt (.cons (fun h => absurd h (by decide)) (.cons (fun _ => stab_is _ _) (.cons (fun h => absurd h (by decide)) (.cons (fun _ => stab_is _ _) (.cons (fun h => absurd h (by decide)) (.cons (fun _ => stab_pure _ _) (.cons (fun _ => stab_is _ _) (.cons (fun _ => stab_is _ _) (.nil)))))))))
  case hVd => exact Stabs.vt (.cons (fun _ _ _ ⟨x, e, h, hx⟩ hf => ⟨x, e, h.frm hf fun h => h, hx⟩) (.cons ((stab_is _ _ : Stab (fun k => w.heap.size ≤ k) _).weak) (.cons (fun _ _ _ ⟨A, c, e, h, hx⟩ hf => ⟨A, c, e, h.frm hf fun _ _ h => h, hx⟩) (.cons ((stab_is _ _ : Stab (fun k => w.heap.size ≤ k) _).weak) (.cons (fun _ _ _ ⟨x, e, h⟩ hf => ⟨x, e, h.frm hf fun h => h⟩) (.cons ((stab_pure _ _ : Stab (fun k => w.heap.size ≤ k) _).weak) (.cons ((stab_is _ _ : Stab (fun k => w.heap.size ≤ k) _).weak) (.cons ((stab_is _ _ : Stab (fun k => w.heap.size ≤ k) _).weak) (.nil)))))))))
  case hW =>
    refine StabWs.wt (.cons (fun _ _ _ h hf => h.trans hf fun _ _ h => h) (.cons (fun vs w1 w2 h hf => ?_) .nil))
    obtain ⟨A, c, e, ho⟩ := h; exact ⟨A, c, e, ho.frm hf fun _ _ h => h⟩
  case h0 =>
    exact (Frm.refl _ w).drew
  intro usx wx hvx hwx hfx
  have qx1 : usx 1 = _ := hvx 1 (by decide) (by kernel_rfl)
  have qx3 : usx 3 = _ := hvx 3 (by decide) (by kernel_rfl)
  have qx5 : ((fun u _ => ∃ A c, u = .slice A (n + 1) c) : Value → World → Prop) (usx 5) wx := hvx 5 (by decide) (by kernel_rfl)
  have qx6 : usx 6 = _ := hvx 6 (by decide) (by kernel_rfl)
  have qx7 : usx 7 = _ := hvx 7 (by decide) (by kernel_rfl)
  replace hwx : ((fun vs w' => ∃ A c, vs = [.slice A (n + 1) c] ∧ Own w' 29 36 A (n + 1) c (css.flatten ++ cs)) : List Value → World → Prop) [usx 5] wx := hwx
  rw [fill_all (ds := [some 27, some 28, some 29, some 30, some 31, some 32, some 33, some 34]) (by kernel_rfl)]
  simp only [putAll, Act.put, List.setIfInBounds_toArray, List.set_cons_succ, List.set_cons_zero, Nat.reduceAdd, qx1, qx3, qx6, qx7]
  clear hvx qx1 qx3 qx6 qx7
  obtain ⟨A, c, e5, ho⟩ := hwx
  have e5 : usx 5 = _ := List.head_eq_of_cons_eq e5
  rw [e5]
  exact hQ _ _ _ _ _ A c _ ho (((Frm.refl _ _).drew.trans hfx fun _ _ h => h).mono fun k hk h => absurd h (by omega))
end Go.Proofs.YtmajnoefddbflaaDoor
