/- Equality of hashes, versions, items, heads and marks: what the model's == says of two of them. -/
import Derived.Test.YtmajnoefddbflaaDoorProg
import Derived.Test.YtmajnoefddbflaaDoorItd
import Derived.WalkKit
import Derived.Laws.StructEq
import Derived.ChangeKeysEq
import Derived.Lib.Hide
import Derived.KernelRfl
namespace Go.Proofs.YtmajnoefddbflaaDoor
open Go.RowKit

section
variable {P : Program}
theorem all_getD : ∀ (xs ys : List Int), xs.length = ys.length → ((List.range xs.length).all fun i => xs.getD i 0 == ys.getD i 0) = (xs == ys)
  | [], [], _ => rfl
  | x :: xs, y :: ys, h => by
    have ih := all_getD xs ys (by simpa using h)
    rw [List.length_cons, List.range_succ_eq_map, List.all_cons, List.all_map]
    simp only [List.getD_cons_zero, List.cons_beq_cons]
    congr 1
  | [], _ :: _, h => by cases h
  | _ :: _, [], h => by cases h
theorem run_eqItems_int (d : Nat) {e : TypeId} {k : IntKind} (he : P.underlying e = some (.int k)) (xs ys : List Int) : ∀ (is : List Nat) (w : World), (∀ i ∈ is, i < xs.length ∧ i < ys.length) →
    (Op.eqItems (d + 1) e 1 (nums k xs).toArray (nums k ys).toArray is).run P w = .ok (is.all fun i => xs.getD i 0 == ys.getD i 0) w
  | [], w, _ => by simp [Op.eqItems]
  | i :: is, w, h => by
    have hag : ∀ w, (isAgg e).run P w = .ok false w := fun w => by simp [isAgg, Sem.run_bind, run_underlying he]
    have hpart : ∀ (zs : List Int) (i : Nat) (hi : i < zs.length) w, (part e (nums k zs).toArray (i * 1)).run P w = .ok (.int k (zs.getD i 0)) w := fun zs i hi w => by
      have : (nums k zs)[i]? = some (.int k (zs.getD i 0)) := by simp [nums, hi]
      simp [part, Sem.run_bind, hag, this]
    obtain ⟨h1, h2⟩ := h i (List.mem_cons_self ..)
    have ih := run_eqItems_int d he xs ys is w (fun j hj => h j (List.mem_cons_of_mem _ hj))
    have he1 := run_equalIn_int (P := P) w d e k k (xs.getD i 0) (ys.getD i 0) he
    simp only [Op.eqItems, Sem.run_bind, hpart xs i h1, hpart ys i h2, Result.andThen_ok, he1]
    cases hb : (xs.getD i 0 == ys.getD i 0) with
    | false => simp only [Bool.not_false, if_true, Sem.run_pure, List.all_cons, hb, Bool.false_and]
    | true => simp only [Bool.not_true, Bool.false_eq_true, if_false, List.all_cons, hb, Bool.true_and]; exact ih
theorem eqArr (w : World) (d : Nat) {t e n : Nat} {k : IntKind} (hu : P.underlying t = some (.array n e)) (he : P.underlying e = some (.int k)) (hs : P.cellsOf e = 1) (xs ys : List Int) (hx : xs.length = n) (hy : ys.length = n) :
    (Op.equalIn (d + 2) t (.agg (nums k xs).toArray) (.agg (nums k ys).toArray)).run P w = .ok (xs == ys) w := by
  obtain ⟨i, hi⟩ := info_of_underlying he
  rw [run_equalIn_array (P := P) w (d + 1) _ _ hu hi, hs, run_eqItems_int d he xs ys _ w (fun j hj => by simp at hj; omega), ← hx, all_getD xs ys (by omega)]
end
theorem eqHash (w : World) (d : Nat) (xs ys : List Int) (hx : xs.length = 32) (hy : ys.length = 32) : (Op.equalIn (d + 2) 25 (.agg (nums .u8 xs).toArray) (.agg (nums .u8 ys).toArray)).run Tryd.prog w = .ok (xs == ys) w :=
  eqArr w d Tryd.underlying25 Tryd.underlying5 (by kernel_rfl) xs ys hx hy
theorem eqInt3 (w : World) (d : Nat) (a b c a' b' c' : Int) : (Op.equalIn (d + 2) 64 (.agg #[.int .i64 a, .int .i64 b, .int .i64 c]) (.agg #[.int .i64 a', .int .i64 b', .int .i64 c'])).run Tryd.prog w = .ok ([a, b, c] == [a', b', c']) w :=
  eqArr w d Tryd.underlying64 Tryd.underlying3 (by kernel_rfl) [a, b, c] [a', b', c'] rfl rfl

theorem run_part_agg {P : Program} {t : TypeId} {sz : Nat} {d : TypeDesc} (hu : P.underlying t = some d) (hd : d.isRow = true) (hs : (P.info? t).map (·.size) = some sz) (w : World) (cs ys bs zs : List Value) (off : Nat) (h : cs = ys ++ bs ++ zs) (ho : ys.length = off) (hb : bs.length = sz) :
    (part t cs.toArray off).run P w = .ok (.agg bs.toArray) w := by
  obtain ⟨i, hi, hsz⟩ := Option.map_eq_some_iff.1 hs
  have hag : (isAgg t).run P w = .ok true w := by
    cases d <;> simp [TypeDesc.isRow] at hd <;> simp [isAgg, Sem.run_bind, run_underlying hu]
  have hso : (sizeOf t).run P w = .ok sz w := by simp [sizeOf, typeInfo, Sem.run_bind, hi, hsz]
  have hex : cs.toArray.extract off (off + sz) = bs.toArray := by
    rw [h, List.extract_toArray]
    congr 1
    rw [List.extract, ← hb, ← ho, List.append_assoc, List.drop_left, Nat.add_sub_cancel_left, List.take_left]
  simp only [part, Sem.run_bind, hag, hso, Result.andThen_ok, if_true, Sem.run_pure, hex]
theorem run_part_one {P : Program} {t : TypeId} {d : TypeDesc} (hu : P.underlying t = some d) (hd : d.isRow = false) (w : World) (cs : List Value) (off : Nat) (v : Value) (h : cs[off]? = some v) :
    (part t cs.toArray off).run P w = .ok v w := by
  have hag : (isAgg t).run P w = .ok false w := by
    cases d <;> simp [TypeDesc.isRow] at hd <;> simp [isAgg, Sem.run_bind, run_underlying hu]
  simp [part, Sem.run_bind, hag, h]

def Ver.beq (a b : Ver) : Bool := ([a.p0, a.p1, a.p2] == [b.p0, b.p1, b.p2]) && (a.pre.toList == b.pre.toList)
def Itm.beq (a b : Itm) : Bool := (a.name.toList == b.name.toList) && a.ver.beq b.ver && (a.sum == b.sum)
theorem run_eqFields_cons {P : Program} {w : World} {d : Nat} {xs ys : Array Value} {f : Field} {fs : List Field} {a b : Value} {r r' : Bool} (hn : f.name ≠ "_") (ha : (part f.type xs f.offset).run P w = .ok a w) (hb : (part f.type ys f.offset).run P w = .ok b w)
    (he : (Op.equalIn d f.type a b).run P w = .ok r w) (ih : (Op.eqFields d xs ys fs).run P w = .ok r' w) : (Op.eqFields d xs ys (f :: fs)).run P w = .ok (r && r') w := by
  unfold Op.eqFields
  rw [if_pos hn]
  simp only [Sem.run_bind, ha, hb, he, Result.andThen_ok]
  cases r with
  | false => rfl
  | true => simpa using ih
theorem run_eqFields_nil {P : Program} {w : World} {d : Nat} {xs ys : Array Value} : (Op.eqFields d xs ys []).run P w = .ok true w := rfl
theorem eqVer (w : World) (d : Nat) (a b : Ver) : (Op.equalIn (d + 3) 66 (.agg a.cells.toArray) (.agg b.cells.toArray)).run Tryd.prog w = .ok (a.beq b) w := by
  have hi3 := fun (v : Ver) => run_part_agg (P := Tryd.prog) Tryd.underlying64 rfl (sz := 3) (by kernel_rfl) w v.cells [] [.int .i64 v.p0, .int .i64 v.p1, .int .i64 v.p2] [.string v.pre] 0 rfl rfl rfl
  have hst := fun (v : Ver) => run_part_one (P := Tryd.prog) Tryd.underlying9 rfl w v.cells 3 (.string v.pre) rfl
  have e3 := eqInt3 w d a.p0 a.p1 a.p2 b.p0 b.p1 b.p2
  have es := run_equalIn_string (P := Tryd.prog) w (d + 1) 9 a.pre b.pre Tryd.underlying9
  rw [run_equalIn_agg w (d + 2) _ _ _ (by simp only [Program.fieldsOf, Tryd.underlying66]) (by kernel_rfl), Ver.beq, ← Bool.and_true (a.pre.toList == b.pre.toList)]
  simp only [Program.fieldsOf, Tryd.underlying66]
  exact run_eqFields_cons (by decide) (hi3 a) (hi3 b) e3 (run_eqFields_cons (by decide) (hst a) (hst b) es run_eqFields_nil)
theorem eqItm (w : World) (d : Nat) (a b : Itm) : (Op.equalIn (d + 4) 68 (.agg a.cells.toArray) (.agg b.cells.toArray)).run Tryd.prog w = .ok (a.beq b) w := by
  have hn := fun (v : Itm) => run_part_one (P := Tryd.prog) Tryd.underlying9 rfl w v.cells 0 (.string v.name) rfl
  have hv := fun (v : Itm) => run_part_agg (P := Tryd.prog) Tryd.underlying66 rfl (sz := 4) (by kernel_rfl) w v.cells [.string v.name] v.ver.cells (nums .u8 v.sum) 1 rfl rfl rfl
  have hs := fun (v : Itm) => run_part_agg (P := Tryd.prog) Tryd.underlying25 rfl (sz := 32) (by kernel_rfl) w v.cells (.string v.name :: v.ver.cells) (nums .u8 v.sum) [] 5 (by simp [Itm.cells]) rfl (by rw [nums_length, v.hs])
  have es := run_equalIn_string (P := Tryd.prog) w (d + 2) 9 a.name b.name Tryd.underlying9
  have ev := eqVer w d a.ver b.ver
  have eh := eqHash w (d + 1) a.sum b.sum a.hs b.hs
  rw [run_equalIn_agg w (d + 3) _ _ _ (by simp only [Program.fieldsOf, Tryd.underlying68]) (by kernel_rfl), Itm.beq, Bool.and_assoc, ← Bool.and_true (a.sum == b.sum)]
  simp only [Program.fieldsOf, Tryd.underlying68]
  exact run_eqFields_cons (by decide) (hn a) (hn b) es (run_eqFields_cons (by decide) (hv a) (hv b) ev (run_eqFields_cons (by decide) (hs a) (hs b) eh run_eqFields_nil))
def Mrk.beq (a b : Mrk) : Bool := (a.count == b.count) && (a.top == b.top)
theorem eqMrk (w : World) (d : Nat) (a b : Mrk) : (Op.equalIn (d + 3) 47 (.agg a.cells.toArray) (.agg b.cells.toArray)).run Tryd.prog w = .ok (a.beq b) w := by
  have hn := fun (v : Mrk) => run_part_one (P := Tryd.prog) Tryd.underlying3 rfl w v.cells 0 (.int .i64 v.count) rfl
  have hs := fun (v : Mrk) => run_part_agg (P := Tryd.prog) Tryd.underlying25 rfl (sz := 32) (by kernel_rfl) w v.cells [.int .i64 v.count] (nums .u8 v.top) [] 1 (by simp [Mrk.cells]) rfl (by rw [nums_length, v.ht])
  have es := run_equalIn_int (P := Tryd.prog) w (d + 1) 3 .i64 .i64 a.count b.count Tryd.underlying3
  have eh := eqHash w d a.top b.top a.ht b.ht
  rw [run_equalIn_agg w (d + 2) _ _ _ (by simp only [Program.fieldsOf, Tryd.underlying47]) (by kernel_rfl), Mrk.beq, ← Bool.and_true (a.top == b.top)]
  simp only [Program.fieldsOf, Tryd.underlying47]
  exact run_eqFields_cons (by decide) (hn a) (hn b) es (run_eqFields_cons (by decide) (hs a) (hs b) eh run_eqFields_nil)
theorem run_eqlMrk (w : World) (a b : Mrk) : (binOp .eql 47 (.agg a.cells.toArray) (.agg b.cells.toArray)).run Tryd.prog w = .ok (.bool (a.beq b)) w := by
  rw [run_eql_struct, eqMrk w 9997 a b]; rfl
theorem run_neqMrk (w : World) (a b : Mrk) : (binOp .neq 47 (.agg a.cells.toArray) (.agg b.cells.toArray)).run Tryd.prog w = .ok (.bool (!(a.beq b))) w := by
  rw [run_neq_struct, eqMrk w 9997 a b]; rfl
theorem run_guardMrk (op : BinOp) (x y : Operand) (w : World) (a b : Array Value) : (eqGuard op 47 x y (.agg a) (.agg b)).run Tryd.prog w = .ok () w := run_eqGuard_agg w op _ x y a b (by kernel_rfl)
theorem run_neqItm (w : World) (a b : Itm) : (binOp .neq 68 (.agg a.cells.toArray) (.agg b.cells.toArray)).run Tryd.prog w = .ok (.bool (!(a.beq b))) w := by
  rw [run_neq_struct, eqItm w 9996 a b]; rfl
theorem run_guardItm (op : BinOp) (x y : Operand) (w : World) (a b : Array Value) : (eqGuard op 68 x y (.agg a) (.agg b)).run Tryd.prog w = .ok () w := run_eqGuard_agg w op _ x y a b (by kernel_rfl)
end Go.Proofs.YtmajnoefddbflaaDoor
