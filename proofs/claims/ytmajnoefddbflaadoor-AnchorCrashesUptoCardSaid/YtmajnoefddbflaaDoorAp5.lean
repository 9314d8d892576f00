/- history.Append: the chain, and the records, one longer. -/
import Derived.Test.YtmajnoefddbflaaDoorLb
import Derived.Test.YtmajnoefddbflaaDoorProg
import Derived.Test.YtmajnoefddbflaaDoorApp
import Derived.WalkKit
import Derived.WalkSpells
import Derived.StillTactics
import Derived.Laws.Pointers
import Derived.Lib.Hide
import Derived.KernelRfl
namespace Go.Proofs.YtmajnoefddbflaaDoor
open Go.RowKit

/-- a history whose rows may have parted by one -/
structure MidV (B0 : Nat) (w : World) (g : Nat) (A : Option Addr) (n c : Nat) (B : Option Addr) (m d : Nat) (rs : List Rec) (hs : List (List Int)) : Prop where
  blk : Blk w g 73 [.slice A n c, .slice B m d]
  recs : ∃ css, Own w 29 36 A n c css.flatten ∧ RecsV B0 w css rs
  chain : Own w 25 32 B m d (hrow hs)
theorem MidV.quiet {B0 : Nat} {w w' : World} {g : Nat} {A : Option Addr} {n c : Nat} {B : Option Addr} {m d : Nat} {rs : List Rec} {hs : List (List Int)} (h : MidV B0 w g A n c B m d rs hs) (hf : Frm (fun _ => False) w w') : MidV B0 w' g A n c B m d rs hs := by
  obtain ⟨css, ho, hr⟩ := h.recs
  exact ⟨h.blk.frm hf fun h => h, ⟨css, ho.frm hf fun _ _ h => h, hr.frm hf (safe_false _ _)⟩, h.chain.frm hf fun _ _ h => h⟩
theorem HistV.mid {B0 : Nat} {w : World} {g : Nat} {A : Option Addr} {c : Nat} {B : Option Addr} {d : Nat} {rs : List Rec} {hs : List (List Int)} (h : HistV B0 w g A c B d rs hs) : MidV B0 w g A rs.length c B rs.length d rs hs := ⟨h.blk, h.recs, h.chain⟩
/-- all that a call may lean on, and leave as it is -/
structure Ctx (S : Sha) (w : World) : Prop where
  sha : ShaG S w
  pow : PowG w
theorem Ctx.quiet {S : Sha} {w w' : World} (h : Ctx S w) (hf : Frm (fun _ => False) w w') : Ctx S w' := ⟨h.sha.frm hf fun _ _ h => h, h.pow.frm hf fun h => h⟩
theorem appHashes1 : AppT Tryd.prog 71 25 32 32 := appHashes
theorem hrow_snoc (hs : List (List Int)) (h : List Int) : hrow (hs ++ [h]) = hrow hs ++ nums .u8 h := by simp [hrow, List.flatMap_append]
theorem topOf_length (hs : List (List Int)) (h32 : ∀ h ∈ hs, h.length = 32) : (topOf hs).length = 32 := by
  unfold topOf
  cases h : hs.getLast? with
  | none => simp
  | some x => exact h32 x (List.mem_of_getLast? h)
theorem link_length (S : Sha) (hs : List (List Int)) (r : Rec) : (link S hs r).length = 32 := sumF_length ..
theorem foldl_set : ∀ (vs : List Value) (k : Nat) (zs : Array Value), zs.size = k + vs.length → (vs.zipIdx k).foldl (fun cs x => cs.setIfInBounds x.2 x.1) zs = (zs.toList.take k ++ vs).toArray
  | [], k, zs, h => by
    rw [List.zipIdx_nil, List.foldl_nil, List.append_nil, List.take_of_length_le (by simp at h; simp [h])]
  | v :: vs, k, zs, h => by
    simp only [List.length_cons] at h
    rw [List.zipIdx_cons, List.foldl_cons, foldl_set vs (k + 1) _ (by simp; omega)]
    congr 1
    have hk : k < zs.toList.length := by simp; omega
    rw [Array.toList_setIfInBounds, List.take_succ_eq_append_getElem (by simpa using hk), List.getElem_set_self, List.take_set_of_le (Nat.le_refl _)]
    simp
theorem foldl_set0 (vs : List Value) (zs : Array Value) (h : zs.size = vs.length) : vs.zipIdx.foldl (fun cs x => cs.setIfInBounds x.2 x.1) zs = vs.toArray := by
  rw [foldl_set vs 0 zs (by omega)]; simp
set_option maxRecDepth 100000 in
set_option maxHeartbeats 2000000 in
theorem append_r5 {S : Sha} {B0 g b : Nat} {A : Option Addr} {c : Nat} {B : Option Addr} {d : Nat} {rs : List Rec} {hs : List (List Int)} {r : Rec} {v1 v2 : Value} {u1 u2 u4 u5 u6 u7 u8 u9 u10 u11 u12 u13 u14 u15 u16 u17 u18 u19 u20 u21 u22 u23 u24 u25 u26 u27 u28 u29 u30 u31 u32 u33 u34 u35 u36 u37 u38 u39 u40 u41 u42 u43 u44 u45 u46 u47 u48 : Value} {w : World} (hC : Ctx S w) (hH : HistV B0 w g A c B d rs hs) (hB : Blk w b 29 (recCells r.kind v1 v2 r.head)) (h1 : ItV B0 w v1 r.before) (h2 : ItV B0 w v2 r.after)
    (hn1 : NamesOk r.before) (hn2 : NamesOk r.after) (hl1 : r.before.length ≤ 256) (hl2 : r.after.length ≤ 256) {Q : Exit → Act → World → Prop}
    (hQ : ∀ (x24 x25 x26 x27 x28 x29 x30 x31 x32 x33 x34 x35 x36 x37 : Value) (B' : Option Addr) (d' : Nat) (w' : World), MidV B0 w' g A rs.length c B' (rs.length + 1) d' rs (hs ++ [link S hs r]) → (bl B' = bl B ∨ ∃ b, bl B' = some b ∧ w.heap.size ≤ b) → Frm (HistF g A B) w w' → Q .normal ⟨(.pointer (some ⟨g, 0, none⟩) :: u1 :: u2 :: .pointer (some ⟨b, 0, none⟩) :: u4 :: u5 :: u6 :: u7 :: u8 :: u9 :: u10 :: u11 :: u12 :: u13 :: u14 :: u15 :: u16 :: u17 :: u18 :: u19 :: u20 :: u21 :: u22 :: u23 :: x24 :: x25 :: x26 :: x27 :: x28 :: x29 :: x30 :: x31 :: x32 :: x33 :: x34 :: x35 :: x36 :: x37 :: u38 :: u39 :: u40 :: u41 :: u42 :: u43 :: u44 :: u45 :: u46 :: u47 :: u48 :: []).toArray, []⟩ w') :
    (regionOf Tryd.f10 5).wp Tryd.prog Q ⟨(.pointer (some ⟨g, 0, none⟩) :: u1 :: u2 :: .pointer (some ⟨b, 0, none⟩) :: u4 :: u5 :: u6 :: u7 :: u8 :: u9 :: u10 :: u11 :: u12 :: u13 :: u14 :: u15 :: u16 :: u17 :: u18 :: u19 :: u20 :: u21 :: u22 :: u23 :: u24 :: u25 :: u26 :: u27 :: u28 :: u29 :: u30 :: u31 :: u32 :: u33 :: u34 :: u35 :: u36 :: u37 :: u38 :: u39 :: u40 :: u41 :: u42 :: u43 :: u44 :: u45 :: u46 :: u47 :: u48 :: []).toArray, []⟩ w := by
  conv => arg 2; whnf
  have hl := recCells_length r.kind v1 v2 r.head
  have hF := hH.g_lt
  have hap := hH.apart
  have hsafe := hH.safe
  have hhl := hH.hl
  have h32 := hH.h32
  have hn := hH.n
  have htl := topOf_length hs h32
  have hbl := recBytes_length r hn1 hn2 hl1 hl2
  have hkl := link_length S hs r
  obtain ⟨n, hnn⟩ : ∃ n, n = rs.length := ⟨_, rfl⟩
  have hM := hH.mid
  rw [← hnn] at hM hhl hn hQ
  replace hnn := Lib.hid hnn
  obtain ⟨q, hq⟩ : ∃ q, q = link S hs r := ⟨_, rfl⟩
  rw [← hq] at hkl hQ
  have hql : (nums .u8 q).length = 32 := by rw [nums_length]; exact hkl
  replace hq := Lib.hid hq
  replace hC := Lib.hid hC
  replace hM := Lib.hid hM
  replace hH := Lib.hid hH
  replace hB := Lib.hid hB
  replace h1 := Lib.hid h1
  replace h2 := Lib.hid h2
  replace hF := Lib.hid hF
  replace hsafe := Lib.hid hsafe
  apply wp_region_typed (HistF g A B) (nf [4, 6, 7, 8, 9, 10, 11, 14]) [11, 14] (vt [(Is _), (Is _), (Is _), (Is _), (Is _), (Is _), (Is _), (Is _), (fun u w' => Mine w.heap.size w' 5 1 (recBytes r).length (nums .u8 (recBytes r)) u), (Is _), (fun u w' => ∃ x, u = .slice (some ⟨x, 0, none⟩) 1 1 ∧ Blk w' x 25 (nums .u8 q) ∧ w.heap.size ≤ x), (fun u _ => ∃ B' d', u = .slice B' (n + 1) d'), (Is _), (Is _), (fun _ _ => True)]) (wt [(fun _ w' => MidV B0 w' g A n c B n d rs hs ∧ Frm (fun _ => False) w w'), (fun vs w' => ∃ B' d', vs = [.slice B' (n + 1) d'] ∧ Blk w' g 73 [.slice A n c, .slice B n d] ∧ (∃ css, Own w' 29 36 A n c css.flatten ∧ RecsV B0 w' css rs) ∧ Own w' 25 32 B' (n + 1) d' (hrow (hs ++ [q])) ∧ (bl B' = bl B ∨ ∃ b, bl B' = some b ∧ w.heap.size ≤ b)), (fun vs w' => ∃ B' d', MidV B0 w' g A n c B' (n + 1) d' rs (hs ++ [q]) ∧ (bl B' = bl B ∨ ∃ b, bl B' = some b ∧ w.heap.size ≤ b))]) (by kernel_rfl) (by kernel_rfl) (by kernel_rfl) (by kernel_rfl) (hop := owesL_all ?hop)
  case hop =>
    refine owesL_cons (i' := 1) rfl ?_ ?_
    · refine o_pure rfl (by kernel_rfl) fun us a wz hA hv K hK => ?_
      have s0 := slot_out hA (t := 0) (by kernel_rfl)
      clear hA hv
      go_wp2
      exact rfl
    refine owesL_cons (i' := 2) rfl ?_ ?_
    · refine o_pure rfl (by kernel_rfl) fun us a wz hA hv K hK => ?_
      have s0 := slot_out hA (t := 0) (by kernel_rfl)
      clear hA hv
      go_wp2
      exact rfl
    refine owesL_cons (i' := 3) rfl ?_ ?_
    · refine o_pure rfl (by kernel_rfl) fun us a wz hA hv K hK => ?_
      have s25 := (slot_in hA (t := 25) (by simp) (j := 1) (by kernel_rfl)).trans (hv 1 (by kernel_rfl))
      clear hA hv
      go_wp2
      exact rfl
    refine owesL_cons (i' := 4) rfl ?_ ?_
    · refine o_pure rfl (by kernel_rfl) fun us a wz hA hv K hK => ?_
      have s26 := (slot_in hA (t := 26) (by simp) (j := 2) (by kernel_rfl)).trans (hv 2 (by kernel_rfl))
      clear hA hv
      go_wp2
      exact rfl
    refine owesL_cons (i' := 5) rfl ?_ ?_
    · refine o_q rfl (by kernel_rfl) (by kernel_rfl) (pl := []) (by kernel_rfl) fun us a wz hA hv hf hw K hK => ?_
      have s27 := (slot_in hA (t := 27) (by simp) (j := 3) (by kernel_rfl)).trans (hv 3 (by kernel_rfl))
      replace hw : ((fun _ w' => MidV B0 w' g A n c B n d rs hs ∧ Frm (fun _ => False) w w') : List Value → World → Prop) [] wz := hw
      clear hA hv
      have k0 : wz.cell? ⟨g, 1, none⟩ = some (.slice B n d) := hw.1.blk.cell 1
      clear hf hw
      go_wp2
      exact hK _ _ rfl (Frm.refl _ _)
    refine owesL_cons (i' := 6) rfl ?_ ?_
    · refine o_pure rfl (by kernel_rfl) fun us a wz hA hv K hK => ?_
      have s0 := slot_out hA (t := 0) (by kernel_rfl)
      clear hA hv
      go_wp2
      exact rfl
    refine owesL_cons (i' := 7) rfl ?_ ?_
    · refine o_q rfl (by kernel_rfl) (by kernel_rfl) (pl := []) (by kernel_rfl) fun us a wz hA hv hf hw K hK => ?_
      have s29 := (slot_in hA (t := 29) (by simp) (j := 5) (by kernel_rfl)).trans (hv 5 (by kernel_rfl))
      replace hw : ((fun _ w' => MidV B0 w' g A n c B n d rs hs ∧ Frm (fun _ => False) w w') : List Value → World → Prop) [] wz := hw
      clear hA hv
      clear hf
      go_wp2_with fail
      refine (histTop_any g _ B n d hs _ hw.1.blk hw.1.chain.rd hhl h32 (by omega)).mono ?_
      rintro e w1 ⟨rfl, hp1⟩
      exact hK (hashV (topOf hs)) _ rfl (Frm.of_below hp1 _)
    refine owesL_cons (i' := 8) rfl ?_ ?_
    · refine o_q rfl (by kernel_rfl) (by kernel_rfl) (pl := []) (by kernel_rfl) fun us a wz hA hv hf hw K hK => ?_
      have s3 := slot_out hA (t := 3) (by kernel_rfl)
      replace hw : ((fun _ w' => MidV B0 w' g A n c B n d rs hs ∧ Frm (fun _ => False) w w') : List Value → World → Prop) [] wz := hw
      clear hA hv
      have k0 := (hB.out.frm hw.2 fun h => h).range
      clear hf
      refine wp_load_mid 29 _ rfl b 0 (ev s3) (recCells r.kind v1 v2 r.head) _ k0 Tryd.underlying29 rfl (by rw [hl]; kernel_rfl) ?_
      exact hK _ _ rfl (Frm.refl _ _)
    refine owesL_cons (i' := 9) rfl ?_ ?_
    · refine o_q rfl (by kernel_rfl) (by kernel_rfl) (pl := []) (by kernel_rfl) fun us a wz hA hv hf hw K hK => ?_
      have s31 := (slot_in hA (t := 31) (by simp) (j := 7) (by kernel_rfl)).trans (hv 7 (by kernel_rfl))
      replace hw : ((fun _ w' => MidV B0 w' g A n c B n d rs hs ∧ Frm (fun _ => False) w w') : List Value → World → Prop) [] wz := hw
      clear hA hv
      have i1 := h1.out.frm hw.2 (safe_false _ _)
      have i2 := h2.out.frm hw.2 (safe_false _ _)
      have hP := hC.out.pow.frm hw.2 fun h => h
      have hsz := hw.2.size
      obtain ⟨A1, c1, e1, i1, _⟩ := i1
      obtain ⟨A2, c2, e2, i2, _⟩ := i2
      subst e1 e2
      clear hf hw
      go_wp2_with fail
      refine (recBytes_any r A1 A2 _ c1 _ c2 _ hP i1 i2 hn1 hn2 hl1 hl2).mono ?_
      rintro e w1 ⟨v, rfl, hm, hp1⟩
      exact hK _ _ (hm.old hsz) (Frm.of_below hp1 _)
    refine owesL_cons (i' := 10) rfl ?_ ?_
    · refine o_q rfl (by kernel_rfl) (by kernel_rfl) (pl := []) (by kernel_rfl) fun us a wz hA hv hf hw K hK => ?_
      have s30 := (slot_in hA (t := 30) (by simp) (j := 6) (by kernel_rfl)).trans (hv 6 (by kernel_rfl))
      have s32 := slot_in hA (t := 32) (by simp) (j := 8) (by kernel_rfl)
      have u8 : ((fun u w' => Mine w.heap.size w' 5 1 (recBytes r).length (nums .u8 (recBytes r)) u) : Value → World → Prop) (us 8) wz := hv 8 (by kernel_rfl)
      replace hw : ((fun _ w' => MidV B0 w' g A n c B n d rs hs ∧ Frm (fun _ => False) w w') : List Value → World → Prop) [] wz := hw
      clear hA hv
      obtain ⟨A1, c1, e1, ho1, hb1⟩ := u8
      obtain ⟨x, rfl⟩ := Own.someB ho1 (by simp only [recBytes, List.length_append, be_length]; omega)
      replace s32 := s32.trans e1
      have hG := hC.out.sha.frm hw.2 fun _ _ h => h
      have hrd := ho1.rd
      have hcap := ho1.cap
      have hlt := ho1.lt x rfl
      replace ho1 := Lib.hid ho1
      have hcall : Calls Tryd.prog 31 #[hashV (topOf hs), .slice (some ⟨x, 0, none⟩) (recBytes r).length c1] wz fun e w' => e = .returned (hashV q) ∧ Below wz.heap.size wz w' := by
        rw [hq.out]; exact tagrec_any S (topOf hs) htl ⟨x, 0, (recBytes r).length, c1, recBytes r⟩ _ hG ⟨hlt, hrd, hcap⟩ (Nat.le_trans hbl (by decide))
      replace hcall := Lib.hid hcall
      clear hf hw hrd hG
      go_wp2_with fail
      refine hcall.out.mono ?_
      rintro e w1 ⟨rfl, hp1⟩
      exact hK _ _ rfl (Frm.of_below hp1 _)
    refine owesL_cons (i' := 11) rfl ?_ ?_
    · refine o_q rfl (by kernel_rfl) (by kernel_rfl) (pl := []) (by kernel_rfl) fun us a wz hA hv hf hw K hK => ?_
      have s33 := (slot_in hA (t := 33) (by simp) (j := 9) (by kernel_rfl)).trans (hv 9 (by kernel_rfl))
      replace hw : ((fun _ w' => MidV B0 w' g A n c B n d rs hs ∧ Frm (fun _ => False) w w') : List Value → World → Prop) [] wz := hw
      clear hA hv
      have hsz := hw.2.size
      clear hf hw
      unfold hashV at s33
      go_wp2
      rw [foldl_set0 (nums .u8 q) _ (by rw [hql]; rfl)]
      exact hK _ _ ⟨wz.heap.size, rfl, Blk.new wz _ _, hsz⟩ ((Frm.refl _ _).alloc _)
    refine owesL_cons (i' := 12) rfl ?_ ?_
    · refine o_p rfl (by kernel_rfl) (by kernel_rfl) (pl := []) (by kernel_rfl) fun us a wz hA hv hf hw K hK => ?_
      have s28 := (slot_in hA (t := 28) (by simp) (j := 4) (by kernel_rfl)).trans (hv 4 (by kernel_rfl))
      have s34 := slot_in hA (t := 34) (by simp) (j := 10) (by kernel_rfl)
      have u10 : ((fun u w' => ∃ x, u = .slice (some ⟨x, 0, none⟩) 1 1 ∧ Blk w' x 25 (nums .u8 q) ∧ w.heap.size ≤ x) : Value → World → Prop) (us 10) wz := hv 10 (by kernel_rfl)
      replace hw : ((fun _ w' => MidV B0 w' g A n c B n d rs hs ∧ Frm (fun _ => False) w w') : List Value → World → Prop) [] wz := hw
      clear hA hv
      obtain ⟨x, e34, hbx, hxl⟩ := u10
      replace s34 := s34.trans e34
      have hM1 := hw.1
      obtain ⟨css, hoA, hrA⟩ := hM1.recs
      refine wp_app appHashes rfl (ev s28) (ev s34) hM1.chain (Own.of_blk (size := 32) hbx 1 (by rw [hql]) (by decide)).rd nums_one (by omega) fun B' d' w2 hown hf2 hat => ?_
      have hne : ∀ b, bl A = some b → ¬ bl B = some b := fun b hb hb' => hap.2.2 b hb hb'
      have hsf : Safe B0 wz (fun k => bl B = some k) := fun k hk hF hi => by
        rcases hi with hi | hi
        · have := hH.out.bB k hF; omega
        · exact own_notItem hM1.chain (by decide) hF hi
      refine hK _ _ ⟨B', d', rfl⟩ ⟨B', d', rfl, hM1.blk.frm hf2 hap.2.1, ⟨css, hoA.frm hf2 hne, hrA.frm hf2 hsf⟩, by rw [hrow_snoc]; exact hown, ?_⟩ (hf2.mono fun k _ h => .inr (.inr h))
      rcases hat with h | h
      · exact .inl h
      · exact .inr ⟨_, h, hw.2.size⟩
    refine owesL_cons (i' := 13) rfl ?_ ?_
    · refine o_pure rfl (by kernel_rfl) fun us a wz hA hv K hK => ?_
      have s24 := (slot_in hA (t := 24) (by simp) (j := 0) (by kernel_rfl)).trans (hv 0 (by kernel_rfl))
      clear hA hv
      go_wp2
      exact rfl
    refine owesL_cons (i' := 14) rfl ?_ ?_
    · refine o_pure rfl (by kernel_rfl) fun us a wz hA hv K hK => ?_
      have s36 := (slot_in hA (t := 36) (by simp) (j := 12) (by kernel_rfl)).trans (hv 12 (by kernel_rfl))
      clear hA hv
      go_wp2
      exact rfl
    refine owesL_cons (i' := 15) rfl ?_ ?_
    · refine o_p rfl (by kernel_rfl) (by kernel_rfl) (pl := [11]) (by kernel_rfl) fun us a wz hA hv hf hw K hK => ?_
      have s37 := (slot_in hA (t := 37) (by simp) (j := 13) (by kernel_rfl)).trans (hv 13 (by kernel_rfl))
      have s35 := slot_in hA (t := 35) (by simp) (j := 11) (by kernel_rfl)
      have u11 : ((fun u _ => ∃ B' d', u = .slice B' (n + 1) d') : Value → World → Prop) (us 11) wz := hv 11 (by kernel_rfl)
      replace hw : ((fun vs w' => ∃ B' d', vs = [.slice B' (n + 1) d'] ∧ Blk w' g 73 [.slice A n c, .slice B n d] ∧ (∃ css, Own w' 29 36 A n c css.flatten ∧ RecsV B0 w' css rs) ∧ Own w' 25 32 B' (n + 1) d' (hrow (hs ++ [q])) ∧ (bl B' = bl B ∨ ∃ b, bl B' = some b ∧ w.heap.size ≤ b)) : List Value → World → Prop) [us 11] wz := hw
      clear hA hv
      obtain ⟨B', d', e11, hb, hrec, hown, hat⟩ := hw
      have e11 : us 11 = _ := List.head_eq_of_cons_eq e11
      replace s35 := s35.trans e11
      have k0 : wz.cell? ⟨g, 1, none⟩ = some (.slice B n d) := hb.cell 1
      have k1 := hb.frozen 1
      have kb := hb.set_ 1 (.slice B' (n + 1) d')
      obtain ⟨css, hoA, hrA⟩ := hrec
      have neA := hoA.ne_blk hb (by decide)
      have neB := hown.ne_blk hb (by decide)
      have hsf : Safe B0 wz (fun k => k = g) := fun k hk hF hi => by
        subst hF
        rcases hi with hi | hi
        · have := hH.out.gB; omega
        · exact blk_notItem hb (by decide) hi
      replace hoA := Lib.hid hoA
      replace hrA := Lib.hid hrA
      replace hown := Lib.hid hown
      replace hat := Lib.hid hat
      replace hsf := Lib.hid hsf
      replace kb := Lib.hid kb
      clear u11 hf hb e11
      go_wp2
      have hf3 : Frm (fun k => k = g) wz (wz.setCell ⟨g, 1, none⟩ (.slice B' (n + 1) d')) := (Frm.refl (fun k => k = g) wz).setCell (p := ⟨g, 1, none⟩) (fun _ => rfl) _
      exact hK undef _ trivial ⟨B', d', ⟨kb.out, ⟨css, hoA.out.frm hf3 fun b hb e => neA (e ▸ hb), hrA.out.frm hf3 hsf.out⟩, hown.out.frm hf3 fun b hb e => neB (e ▸ hb)⟩, hat.out⟩ (hf3.mono fun k _ h => .inl h)
    exact owesL_nil
  case hV => exact Stabs.vt (.cons (stab_is _ _) (.cons (stab_is _ _) (.cons (stab_is _ _) (.cons (stab_is _ _) (.cons (stab_is _ _) (.cons (stab_is _ _) (.cons (stab_is _ _) (.cons (stab_is _ _) (.cons (fun _ _ _ h hf => h.frm hf fun k hk => hF.out k hk) (.cons (stab_is _ _) (.cons (fun _ _ _ ⟨x, e, h, hx⟩ hf => ⟨x, e, h.frm hf fun hk => by have := hF.out _ hk; omega, hx⟩) (.cons (stab_pure _ _) (.cons (stab_is _ _) (.cons (stab_is _ _) (.cons (stab_true _) (.nil))))))))))))))))
  case hW =>
    refine StabWs.wt (.cons (fun _ _ _ h hf => ⟨h.1.quiet hf, h.2.trans hf fun _ _ h => h⟩) (.cons (fun vs w1 w2 h hf => ?_) (.cons (fun vs w1 w2 h hf => ?_) .nil)))
    · obtain ⟨B', d', e, hb, ⟨css, hoA, hrA⟩, hown, hat⟩ := h
      exact ⟨B', d', e, hb.frm hf fun h => h, ⟨css, hoA.frm hf fun _ _ h => h, hrA.frm hf (safe_false _ _)⟩, hown.frm hf fun _ _ h => h, hat⟩
    · obtain ⟨B', d', h, hat⟩ := h
      exact ⟨B', d', h.quiet hf, hat⟩
  case h0 =>
    exact ⟨hM.out.quiet (Frm.refl (fun _ => False) w).drew, (Frm.refl _ w).drew⟩
  intro usx wx hvx hwx hfx
  have qx0 : usx 0 = _ := hvx 0 (by decide)
  have qx1 : usx 1 = _ := hvx 1 (by decide)
  have qx2 : usx 2 = _ := hvx 2 (by decide)
  have qx3 : usx 3 = _ := hvx 3 (by decide)
  have qx4 : usx 4 = _ := hvx 4 (by decide)
  have qx5 : usx 5 = _ := hvx 5 (by decide)
  have qx6 : usx 6 = _ := hvx 6 (by decide)
  have qx7 : usx 7 = _ := hvx 7 (by decide)
  have qx8 : ((fun u w' => Mine w.heap.size w' 5 1 (recBytes r).length (nums .u8 (recBytes r)) u) : Value → World → Prop) (usx 8) wx := hvx 8 (by decide)
  have qx9 : usx 9 = _ := hvx 9 (by decide)
  have qx10 : ((fun u w' => ∃ x, u = .slice (some ⟨x, 0, none⟩) 1 1 ∧ Blk w' x 25 (nums .u8 q) ∧ w.heap.size ≤ x) : Value → World → Prop) (usx 10) wx := hvx 10 (by decide)
  have qx11 : ((fun u _ => ∃ B' d', u = .slice B' (n + 1) d') : Value → World → Prop) (usx 11) wx := hvx 11 (by decide)
  have qx12 : usx 12 = _ := hvx 12 (by decide)
  have qx13 : usx 13 = _ := hvx 13 (by decide)
  replace hwx : ((fun vs w' => ∃ B' d', MidV B0 w' g A n c B' (n + 1) d' rs (hs ++ [q]) ∧ (bl B' = bl B ∨ ∃ b, bl B' = some b ∧ w.heap.size ≤ b)) : List Value → World → Prop) [usx 11, usx 14] wx := hwx
  rw [fill_all (ds := [some 24, some 25, some 26, some 27, some 28, some 29, some 30, some 31, some 32, some 33, some 34, some 35, some 36, some 37, none]) (by kernel_rfl)]
  simp only [putAll, Act.put, List.setIfInBounds_toArray, List.set_cons_succ, List.set_cons_zero, Nat.reduceAdd, qx0, qx1, qx2, qx3, qx4, qx5, qx6, qx7, qx9, qx12, qx13]
  clear hvx qx0 qx1 qx2 qx3 qx4 qx5 qx6 qx7 qx9 qx12 qx13
  obtain ⟨B', d', hMx, hatx⟩ := hwx
  exact hQ _ _ _ _ _ _ _ _ _ _ _ _ _ _ B' d' _ hMx hatx ((Frm.refl _ _).drew.trans hfx fun _ _ h => h)
end Go.Proofs.YtmajnoefddbflaaDoor
