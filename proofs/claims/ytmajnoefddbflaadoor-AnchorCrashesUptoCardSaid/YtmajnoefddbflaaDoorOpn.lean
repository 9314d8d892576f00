/- Arguments opened: what they read as, to what the walks want. -/
import Derived.Test.YtmajnoefddbflaaDoorProg
import Derived.Test.YtmajnoefddbflaaDoorRows
import Derived.Test.YtmajnoefddbflaaDoorHv
import Derived.WalkKit
import Derived.ProofKit
import Derived.OpenShut
import Derived.Deep.Slices
import Derived.Carry
import Derived.Lib.LaidTab
import Derived.KernelRfl
namespace Go.Proofs.YtmajnoefddbflaaDoor
open Go.RowKit Go.ChangeShapes Go.WideShapes

theorem bulk_one {H : Type} (d : DataW H) : 1 ≤ Rows.uptoBulk d := by
  cases d with
  | lit l => cases l <;> simp [Rows.uptoBulk]
  | nil => simp [Rows.uptoBulk]
  | ptr d => simp [Rows.uptoBulk]
  | slice elems spare => simp [Rows.uptoBulk]
  | agg parts => simp [Rows.uptoBulk]
  | iface t d => simp [Rows.uptoBulk]
  | map entries => simp [Rows.uptoBulk]
  | held h => simp [Rows.uptoBulk]
theorem bulk_part {H : Type} {d : DataW H} {l : List (DataW H)} (h : d ∈ l) : Rows.uptoBulk d ≤ Rows.uptoBulkAll l := by
  induction l with
  | nil => cases h
  | cons x r ih =>
    simp only [Rows.uptoBulkAll]
    rcases List.mem_cons.1 h with e | e
    · subst e; omega
    · have := ih e; omega
theorem bulk_length {H : Type} (l : List (DataW H)) : l.length ≤ Rows.uptoBulkAll l := by
  induction l with
  | nil => simp [Rows.uptoBulkAll]
  | cons x r ih => have := bulk_one x; simp only [Rows.uptoBulkAll, List.length_cons]; omega
theorem bulk_agg {H : Type} {d : DataW H} {l : List (DataW H)} (h : d ∈ l) : Rows.uptoBulk d ≤ Rows.uptoBulk (.agg l) := by
  have := bulk_part h
  simp only [Rows.uptoBulk]; omega
theorem bulk_slice {H : Type} {d : DataW H} {l s : List (DataW H)} (h : d ∈ l) : Rows.uptoBulk d ≤ Rows.uptoBulk (.slice l s) := by
  have := bulk_part h
  simp only [Rows.uptoBulk]; omega
theorem bulk_slice_len {H : Type} (l s : List (DataW H)) : l.length ≤ Rows.uptoBulk (.slice l s) := by
  have := bulk_length l
  simp only [Rows.uptoBulk]; omega

section
variable {H : Type} {enc : TypeId × Value → H} {P : Program} {w : World} {base : Nat} {spare : Nat → Bool} {held : Bool}
theorem open_field {t : TypeId} {fs : Array Field} {fuel : Nat} {cs : List Value} {x : DataW H × List MemPlace} (ht : P.underlying t = some (.struct fs)) (h : DataW.trod enc P w base spare held fuel t cs = some x) :
    cs.length = P.cellsOf t ∧ ∀ (i : Nat) f, fs[i]? = some f → ∃ n y, DataW.trod enc P w base spare held n f.type ((cs.drop f.offset).take (P.cellsOf f.type)) = some y ∧ Rows.uptoBulk y.1 ≤ Rows.uptoBulk x.1 := by
  obtain ⟨xs, n, _, rfl, hl, hlen, hf⟩ := DataW.trod_struct ht h
  refine ⟨hl, fun i f hi => ?_⟩
  have hi' : i < xs.length := by
    have := (Array.getElem?_eq_some_iff.1 hi).1
    omega
  refine ⟨n, xs[i], (hf i f hi).trans (List.getElem?_eq_getElem hi'), bulk_agg (List.mem_map_of_mem (List.getElem_mem hi'))⟩
theorem open_elem {t e : TypeId} {n : Nat} {fuel : Nat} {cs : List Value} {x : DataW H × List MemPlace} (ht : P.underlying t = some (.array n e)) (h : DataW.trod enc P w base spare held fuel t cs = some x) :
    cs.length = P.cellsOf t ∧ ∀ i, i < n → ∃ m y, DataW.trod enc P w base spare held m e ((cs.drop (i * P.cellsOf e)).take (P.cellsOf e)) = some y := by
  obtain ⟨xs, m, _, rfl, hl, hlen, hf⟩ := DataW.trod_array ht h
  refine ⟨hl, fun i hi => ?_⟩
  have hi' : i < xs.length := by omega
  exact ⟨m, xs[i], (hf i hi).trans (List.getElem?_eq_getElem hi')⟩
theorem ints_of {k : IntKind} : ∀ (cs : List Value) (_ : ∀ v ∈ cs, ∃ z, v = .int k z), ∃ l : List Int, l.length = cs.length ∧ cs = nums k l
  | [], _ => ⟨[], rfl, rfl⟩
  | v :: cs, h => by
    obtain ⟨z, rfl⟩ := h v (List.mem_cons_self ..)
    obtain ⟨l, hl, e⟩ := ints_of cs fun v hv => h v (List.mem_cons_of_mem _ hv)
    exact ⟨z :: l, by simp [hl], by rw [e]; rfl⟩
theorem open_arr {t e : TypeId} {n : Nat} {k : IntKind} {fuel : Nat} {cs : List Value} {x : DataW H × List MemPlace} (ht : P.underlying t = some (.array n e)) (he : P.underlying e = some (.int k)) (hce : P.cellsOf e = 1) (hct : P.cellsOf t = n) (h : DataW.trod enc P w base spare held fuel t cs = some x) :
    ∃ l : List Int, l.length = n ∧ cs = nums k l := by
  obtain ⟨hl, hf⟩ := open_elem ht h
  rw [hct] at hl
  obtain ⟨l, h1, h2⟩ := ints_of (k := k) cs fun v hv => by
    obtain ⟨i, hi, rfl⟩ := List.getElem_of_mem hv
    obtain ⟨m, y, hy⟩ := hf i (by omega)
    rw [hce, Nat.mul_one, List.drop_eq_getElem_cons hi, List.take_succ_cons, List.take_zero] at hy
    obtain ⟨z, hz, _⟩ := DataW.trod_int he hy
    exact ⟨z, by simpa using hz⟩
  exact ⟨l, by omega, h2⟩
theorem cut_ (cs : List Value) (o a b : Nat) : (cs.drop o).take (a + b) = (cs.drop o).take a ++ (cs.drop (o + a)).take b := by
  rw [List.take_add, List.drop_drop]
end
section
variable {H : Type} {enc : TypeId × Value → H} {w : World} {base : Nat} {spare : Nat → Bool} {held : Bool} {fuel : Nat} {cs : List Value} {x : DataW H × List MemPlace}
theorem cellsInt : Tryd.prog.cellsOf 3 = 1 := by kernel_rfl
theorem cellsU8 : Tryd.prog.cellsOf 5 = 1 := by kernel_rfl
theorem cellsStr : Tryd.prog.cellsOf 9 = 1 := by kernel_rfl
theorem cellsHash : Tryd.prog.cellsOf 25 = 32 := by kernel_rfl
theorem cellsInt3 : Tryd.prog.cellsOf 64 = 3 := by kernel_rfl
theorem cellsVer : Tryd.prog.cellsOf 66 = 4 := by kernel_rfl
theorem cellsItem : Tryd.prog.cellsOf 68 = 37 := by kernel_rfl
theorem cellsItems : Tryd.prog.cellsOf 23 = 1 := by kernel_rfl
theorem cellsHead : Tryd.prog.cellsOf 27 = 33 := by kernel_rfl
theorem cellsRec : Tryd.prog.cellsOf 29 = 36 := by kernel_rfl
theorem open_hash (h : DataW.trod enc Tryd.prog w base spare held fuel 25 cs = some x) : ∃ l : List Int, l.length = 32 ∧ cs = nums .u8 l :=
  open_arr Tryd.underlying25 Tryd.underlying5 cellsU8 cellsHash h
theorem open_ver (h : DataW.trod enc Tryd.prog w base spare held fuel 66 cs = some x) : ∃ v : Ver, cs = v.cells := by
  obtain ⟨hl, hf⟩ := open_field Tryd.underlying66 h
  obtain ⟨n0, y0, h0, _⟩ := hf 0 _ rfl
  obtain ⟨n1, y1, h1, _⟩ := hf 1 _ rfl
  rw [cellsVer] at hl
  change DataW.trod enc Tryd.prog w base spare held n0 64 ((cs.drop 0).take (Tryd.prog.cellsOf 64)) = some y0 at h0
  rw [cellsInt3] at h0
  change DataW.trod enc Tryd.prog w base spare held n1 9 ((cs.drop 3).take (Tryd.prog.cellsOf 9)) = some y1 at h1
  rw [cellsStr] at h1
  obtain ⟨l, hl3, e⟩ := open_arr Tryd.underlying64 Tryd.underlying3 cellsInt cellsInt3 h0
  obtain ⟨s, e1, _⟩ := DataW.trod_string Tryd.underlying9 h1
  have hc : cs = (cs.drop 0).take 3 ++ (cs.drop 3).take 1 := by rw [← Nat.zero_add 3, ← cut_ cs 0 3 1, List.drop_zero, List.take_of_length_le (by omega)]
  match l, hl3 with
  | [a, b, c], _ =>
    rw [e, e1] at hc
    exact ⟨⟨a, b, c, s⟩, hc⟩
theorem open_itm (h : DataW.trod enc Tryd.prog w base spare held fuel 68 cs = some x) : ∃ v : Itm, cs = v.cells := by
  obtain ⟨hl, hf⟩ := open_field Tryd.underlying68 h
  obtain ⟨n0, y0, h0, _⟩ := hf 0 _ rfl
  obtain ⟨n1, y1, h1, _⟩ := hf 1 _ rfl
  obtain ⟨n2, y2, h2, _⟩ := hf 2 _ rfl
  rw [cellsItem] at hl
  change DataW.trod enc Tryd.prog w base spare held n0 9 ((cs.drop 0).take (Tryd.prog.cellsOf 9)) = some y0 at h0
  rw [cellsStr] at h0
  change DataW.trod enc Tryd.prog w base spare held n1 66 ((cs.drop 1).take (Tryd.prog.cellsOf 66)) = some y1 at h1
  rw [cellsVer] at h1
  change DataW.trod enc Tryd.prog w base spare held n2 25 ((cs.drop 5).take (Tryd.prog.cellsOf 25)) = some y2 at h2
  rw [cellsHash] at h2
  obtain ⟨s, e0, _⟩ := DataW.trod_string Tryd.underlying9 h0
  obtain ⟨v, e1⟩ := open_ver h1
  obtain ⟨l, hl32, e2⟩ := open_hash h2
  have hc : cs = (cs.drop 0).take 1 ++ ((cs.drop 1).take 4 ++ (cs.drop 5).take 32) := by
    rw [← cut_ cs 1 4 32, ← cut_ cs 0 1 36, List.drop_zero, List.take_of_length_le (by omega)]
  rw [e0, e1, e2] at hc
  exact ⟨⟨s, v, l, hl32⟩, hc⟩
theorem open_head (h : DataW.trod enc Tryd.prog w base spare held fuel 27 cs = some x) : ∃ v : Hd, cs = v.cells := by
  obtain ⟨hl, hf⟩ := open_field Tryd.underlying27 h
  obtain ⟨n0, y0, h0, _⟩ := hf 0 _ rfl
  obtain ⟨n1, y1, h1, _⟩ := hf 1 _ rfl
  rw [cellsHead] at hl
  change DataW.trod enc Tryd.prog w base spare held n0 3 ((cs.drop 0).take (Tryd.prog.cellsOf 3)) = some y0 at h0
  rw [cellsInt] at h0
  change DataW.trod enc Tryd.prog w base spare held n1 25 ((cs.drop 1).take (Tryd.prog.cellsOf 25)) = some y1 at h1
  rw [cellsHash] at h1
  obtain ⟨s, e0, _⟩ := DataW.trod_int Tryd.underlying3 h0
  obtain ⟨l, hl32, e2⟩ := open_hash h1
  have hc : cs = (cs.drop 0).take 1 ++ (cs.drop 1).take 32 := by
    rw [← cut_ cs 0 1 32, List.drop_zero, List.take_of_length_le (by omega)]
  rw [e0, e2] at hc
  exact ⟨⟨s, l, hl32⟩, hc⟩
end
theorem range_flat_mk {w : World} {b sz : Nat} : ∀ (css : List (List Value)) (o : Nat) (_ : ∀ i (h : i < css.length), css[i].length = sz ∧ w.rangeAt b (o + i * sz) css[i]), w.rangeAt b o css.flatten
  | [], o, _ => fun j v hv => by simp at hv
  | cs :: css, o, h => fun j v hv => by
    obtain ⟨h1, h2⟩ := h 0 (by simp)
    simp only [List.getElem_cons_zero, Nat.zero_mul, Nat.add_zero] at h1 h2
    rw [List.flatten_cons] at hv
    rcases Nat.lt_or_ge j cs.length with hj | hj
    · rw [List.getElem?_append_left hj] at hv
      exact h2 j v hv
    · rw [List.getElem?_append_right hj] at hv
      have ih := range_flat_mk (w := w) (b := b) (sz := sz) css (o + sz) (fun i hi => by
        have := h (i + 1) (by simpa using hi)
        rw [List.getElem_cons_succ, show o + (i + 1) * sz = o + sz + i * sz by rw [Nat.add_mul]; omega] at this
        exact this) (j - cs.length) v hv
      rw [show o + sz + (j - cs.length) = o + j by omega] at ih
      exact ih
theorem cells_spec {w : World} {base n : Nat} {a : Addr} {cs : List Value} (h : w.cells? base a n = some cs) : cs.length = n ∧ ∀ j v, cs[j]? = some v → w.cell? (a.add j) = some v := by
  unfold World.cells? at h
  split at h
  · have hl : cs.length = n := by simpa using Lib.mapM_length h
    refine ⟨hl, fun j v hv => ?_⟩
    have hj : j < n := by rw [← hl]; exact (List.getElem?_eq_some_iff.1 hv).1
    obtain ⟨u, hu, e⟩ := Lib.mapM_at h j j (by simp [hj])
    rw [hv] at hu
    injection hu with hu
    rw [e, hu]
  · cases h
section
variable {H : Type} {enc : TypeId × Value → H} {P : Program} {w : World} {base : Nat} {spare : Nat → Bool} {held : Bool}
theorem open_rows {t e : TypeId} {sz fuel : Nat} {c : Value} {x : DataW H × List MemPlace} (ht : P.underlying t = some (.slice e)) (hce : P.cellsOf e = sz) (hsz : 0 < sz) (h : DataW.trod enc P w base spare held fuel t [c] = some x) :
    ∃ (A : Option Addr) (n cap : Nat) (css : List (List Value)), c = .slice A n cap ∧ css.length = n ∧ Rd w sz A n css.flatten ∧ n ≤ Rows.uptoBulk x.1 ∧ (∀ cs ∈ css, cs.length = sz ∧ ∃ m y, DataW.trod enc P w base spare held m e cs = some y ∧ Rows.uptoBulk y.1 ≤ Rows.uptoBulk x.1) := by
  rcases Deep.open_slice ht h with ⟨e0, rfl⟩ | ⟨a, len, cap, m, n, D, Pl, e0, hb, hl, hm, hmm, rfl, hx⟩
  · injection e0 with e0
    exact ⟨none, 0, 0, [], e0, rfl, Rd.nil _ _ _, Nat.zero_le _, fun cs h => by cases h⟩
  · injection e0 with e0
    rw [hce] at hx
    have hlm : len ≤ m := by rw [hmm]; split <;> omega
    obtain ⟨R, hR⟩ := Deep.choose_lt (α := List Value) (n := len) (p := fun i cs => w.cells? base (a.add (i * sz)) sz = some cs ∧ DataW.trod enc P w base spare held n e cs = some (D i, Pl i)) fun i hi => hx i (by omega)
    have hlen : ((List.range len).map R).flatten.length = len * sz := by
      rw [List.length_flatten, List.map_map]
      have : ((List.range len).map (List.length ∘ R)) = List.replicate len sz := by
        refine List.eq_replicate_iff.2 ⟨by simp, fun b hb => ?_⟩
        obtain ⟨i, hi, rfl⟩ := List.mem_map.1 hb
        exact (cells_spec (hR i (by simpa using hi)).1).1
      rw [this]; simp
    refine ⟨some a, len, cap, (List.range len).map R, e0, by simp, ⟨hlen, fun hn => ?_⟩, ?_, fun cs hcs => ?_⟩
    · obtain ⟨h1, h2⟩ := cells_spec (hR 0 hn).1
      have hspot : a.spot = none := by
        have := h2 0 (R 0)[0] (List.getElem?_eq_getElem (by omega))
        rw [Deep.add_add, Nat.zero_mul] at this
        have e : a.add (0 + 0) = a := by simp [Addr.add]
        rw [e] at this
        unfold World.cell? at this
        split at this
        · split at this
          · cases this
          · rename_i hs; simpa using hs
        · cases this
      obtain ⟨b, o, sp⟩ := a
      simp only at hspot
      subst hspot
      refine ⟨b, o, rfl, range_flat_mk (sz := sz) _ _ fun i hi => ?_⟩
      have hi' : i < len := by simpa using hi
      obtain ⟨h3, h4⟩ := cells_spec (hR i hi').1
      simp only [List.getElem_map, List.getElem_range]
      refine ⟨h3, fun j v hv => ?_⟩
      have := h4 j v hv
      rw [Deep.add_add] at this
      have e : (⟨b, o, none⟩ : Addr).add (i * sz + j) = ⟨b, o + i * sz + j, none⟩ := by
        unfold Addr.add
        split
        · rename_i h0; rw [show o + i * sz + j = o by omega]
        · rw [show o + (i * sz + j) = o + i * sz + j by omega]
      rw [e] at this
      exact this
    · have := bulk_slice_len ((List.range len).map D) ((List.range (m - len)).map fun j => D (len + j))
      simpa using this
    · obtain ⟨i, hi, rfl⟩ := List.mem_map.1 hcs
      have hi' : i < len := by simpa using hi
      refine ⟨(cells_spec (hR i hi').1).1, n, _, (hR i hi').2, bulk_slice (List.mem_map_of_mem (List.mem_range.2 hi'))⟩
end
section
variable {H : Type} {enc : TypeId × Value → H} {w : World} {base : Nat} {spare : Nat → Bool} {held : Bool} {fuel : Nat} {x : DataW H × List MemPlace}
theorem itms_of : ∀ (css : List (List Value)) (_ : ∀ cs ∈ css, ∃ v : Itm, cs = v.cells), ∃ l : List Itm, l.length = css.length ∧ css.flatten = row l
  | [], _ => ⟨[], rfl, rfl⟩
  | cs :: css, h => by
    obtain ⟨v, rfl⟩ := h cs (List.mem_cons_self ..)
    obtain ⟨l, hl, e⟩ := itms_of css fun c hc => h c (List.mem_cons_of_mem _ hc)
    exact ⟨v :: l, by simp [hl], by rw [List.flatten_cons, e]; rfl⟩
theorem open_items {c : Value} (h : DataW.trod enc Tryd.prog w base spare held fuel 23 [c] = some x) (hb : Rows.uptoBulk x.1 ≤ 1048576) : ∃ l, ItV w.heap.size w c l := by
  obtain ⟨A, n, cap, css, rfl, hn, hr, hlen, hall⟩ := open_rows Tryd.underlying23 cellsItem (by decide) h
  obtain ⟨l, hl, e⟩ := itms_of css fun cs hcs => by
    obtain ⟨_, m, y, hy, _⟩ := hall cs hcs
    exact open_itm hy
  rw [e] at hr
  obtain rfl : l.length = n := by omega
  exact ⟨l, A, cap, rfl, ⟨hr, rfl, by omega⟩, fun h0 b hb' => ⟨.inl (hr.lt h0 (by decide) b hb'), hr.lt h0 (by decide) b hb'⟩⟩
theorem open_record {cs : List Value} (h : DataW.trod enc Tryd.prog w base spare held fuel 29 cs = some x) (hb : Rows.uptoBulk x.1 ≤ 1048576) : ∃ r, RecV w.heap.size w cs r := by
  obtain ⟨hl, hf⟩ := open_field Tryd.underlying29 h
  obtain ⟨n0, y0, h0, _⟩ := hf 0 _ rfl
  obtain ⟨n1, y1, h1, b1⟩ := hf 1 _ rfl
  obtain ⟨n2, y2, h2, b2⟩ := hf 2 _ rfl
  obtain ⟨n3, y3, h3, _⟩ := hf 3 _ rfl
  rw [cellsRec] at hl
  change DataW.trod enc Tryd.prog w base spare held n0 3 ((cs.drop 0).take (Tryd.prog.cellsOf 3)) = some y0 at h0
  change DataW.trod enc Tryd.prog w base spare held n1 23 ((cs.drop 1).take (Tryd.prog.cellsOf 23)) = some y1 at h1
  change DataW.trod enc Tryd.prog w base spare held n2 23 ((cs.drop 2).take (Tryd.prog.cellsOf 23)) = some y2 at h2
  change DataW.trod enc Tryd.prog w base spare held n3 27 ((cs.drop 3).take (Tryd.prog.cellsOf 27)) = some y3 at h3
  rw [cellsInt] at h0
  rw [cellsItems] at h1 h2
  rw [cellsHead] at h3
  have hc : cs = (cs.drop 0).take 1 ++ ((cs.drop 1).take 1 ++ ((cs.drop 2).take 1 ++ (cs.drop 3).take 33)) := by
    rw [← cut_ cs 2 1 33, ← cut_ cs 1 1 34, ← cut_ cs 0 1 35, List.drop_zero, List.take_of_length_le (by omega)]
  obtain ⟨z, e0, _⟩ := DataW.trod_int Tryd.underlying3 h0
  obtain ⟨hd, e3⟩ := open_head h3
  have one : ∀ o, o < 36 → ∃ v, (cs.drop o).take 1 = [v] := fun o ho => ⟨cs[o], by rw [List.drop_eq_getElem_cons (by omega), List.take_succ_cons, List.take_zero]⟩
  obtain ⟨v1, e1⟩ := one 1 (by omega)
  obtain ⟨v2, e2⟩ := one 2 (by omega)
  rw [e1] at h1
  rw [e2] at h2
  obtain ⟨l1, i1⟩ := open_items h1 (by omega)
  obtain ⟨l2, i2⟩ := open_items h2 (by omega)
  rw [e0, e1, e2, e3] at hc
  exact ⟨⟨z, l1, l2, hd⟩, v1, v2, hc, i1, i2⟩
theorem open_recs : ∀ (css : List (List Value)) (_ : ∀ cs ∈ css, ∃ r, RecV w.heap.size w cs r), ∃ rs, RecsV w.heap.size w css rs
  | [], _ => ⟨[], .nil⟩
  | cs :: css, h => by
    obtain ⟨r, hr⟩ := h cs (List.mem_cons_self ..)
    obtain ⟨rs, hrs⟩ := open_recs css fun c hc => h c (List.mem_cons_of_mem _ hc)
    exact ⟨r :: rs, .cons hr hrs⟩
theorem open_records {c : Value} (h : DataW.trod enc Tryd.prog w base spare held fuel 22 [c] = some x) (hb : Rows.uptoBulk x.1 ≤ 1048576) :
    ∃ (A : Option Addr) (n cap : Nat) (css : List (List Value)) (rs : List Rec), c = .slice A n cap ∧ Rd w 36 A n css.flatten ∧ RecsV w.heap.size w css rs ∧ rs.length = n ∧ n ≤ 1048576 := by
  obtain ⟨A, n, cap, css, rfl, hn, hr, hlen, hall⟩ := open_rows Tryd.underlying22 cellsRec (by decide) h
  obtain ⟨rs, hrs⟩ := open_recs (w := w) css fun cs hcs => by
    obtain ⟨_, m, y, hy, hby⟩ := hall cs hcs
    exact open_record hy (by omega)
  exact ⟨A, n, cap, css, rs, rfl, hr, hrs, by rw [← hrs.len]; exact hn, by omega⟩
end
end Go.Proofs.YtmajnoefddbflaaDoor
