/- Items, heads, records, marks as data; their cells. -/
import Derived.Test.YtmajnoefddbflaaDoorProg
import Derived.Test.YtmajnoefddbflaaDoorL4
import Derived.Test.YtmajnoefddbflaaDoorDat
import Derived.WalkKit
namespace Go.Proofs.YtmajnoefddbflaaDoor
open Go.RowKit

structure Ver where
  p0 : Int
  p1 : Int
  p2 : Int
  pre : ByteArray
def Ver.cells (v : Ver) : List Value := [.int .i64 v.p0, .int .i64 v.p1, .int .i64 v.p2, .string v.pre]
structure Itm where
  name : ByteArray
  ver : Ver
  sum : List Int
  hs : sum.length = 32
def Itm.cells (x : Itm) : List Value := .string x.name :: (x.ver.cells ++ nums .u8 x.sum)
theorem Itm.cells_length (x : Itm) : x.cells.length = 37 := by simp [Itm.cells, Ver.cells, nums_length, x.hs]
theorem Itm.one (x : Itm) : ∀ v ∈ x.cells, v.oneCell' = true := fun v hv => by
  rcases List.mem_cons.1 hv with rfl | hv
  · rfl
  · rcases List.mem_append.1 hv with hv | hv
    · simp [Ver.cells] at hv; rcases hv with rfl | rfl | rfl | rfl <;> rfl
    · exact nums_one v hv
def row (l : List Itm) : List Value := l.flatMap Itm.cells
theorem row_one (l : List Itm) : ∀ v ∈ row l, v.oneCell' = true := fun v hv => by
  obtain ⟨x, _, h⟩ := List.mem_flatMap.1 hv
  exact x.one v h
theorem range_row {α : Type} (f : α → List Value) (sz : Nat) (hsz : ∀ a, (f a).length = sz) {w : World} {b : Nat} : ∀ (l : List α) (o k : Nat) (hk : k < l.length), w.rangeAt b o (l.flatMap f) → w.rangeAt b (o + k * sz) (f l[k])
  | x :: l, o, 0, _, h => fun j v hv => by
    have hj : j < (f x).length := (List.getElem?_eq_some_iff.1 hv).1
    have := h j v (by rw [List.flatMap_cons, List.getElem?_append_left hj]; exact hv)
    simpa using this
  | x :: l, o, k + 1, hk, h => by
    have h2 : w.rangeAt b (o + sz) (l.flatMap f) := fun j v hv => by
      have := h (sz + j) v (by rw [List.flatMap_cons, List.getElem?_append_right (by rw [hsz]; omega), hsz, Nat.add_sub_cancel_left]; exact hv)
      rw [Nat.add_assoc]; exact this
    have := range_row f sz hsz l (o + sz) k (by simpa using hk) h2
    rw [show o + (k + 1) * sz = o + sz + k * sz by rw [Nat.add_mul]; omega]
    exact this
structure Hd where
  size : Int
  root : List Int
  hr : root.length = 32
def Hd.cells (h : Hd) : List Value := .int .i64 h.size :: nums .u8 h.root
theorem Hd.cells_length (h : Hd) : h.cells.length = 33 := by simp [Hd.cells, nums_length, h.hr]
theorem Hd.one (h : Hd) : ∀ v ∈ h.cells, v.oneCell' = true := fun v hv => by
  rcases List.mem_cons.1 hv with rfl | hv
  · rfl
  · exact nums_one v hv
structure Mrk where
  count : Int
  top : List Int
  ht : top.length = 32
def Mrk.cells (m : Mrk) : List Value := .int .i64 m.count :: nums .u8 m.top
theorem Mrk.len (m : Mrk) : m.cells.length = 33 := by simp [Mrk.cells, nums_length, m.ht]
theorem Mrk.one (m : Mrk) : ∀ v ∈ m.cells, v.oneCell' = true := fun v hv => by
  rcases List.mem_cons.1 hv with rfl | hv
  · rfl
  · exact nums_one v hv
def Mrk.zero : Mrk := ⟨0, List.replicate 32 0, by simp⟩
structure Rec where
  kind : Int
  before : List Itm
  after : List Itm
  head : Hd
end Go.Proofs.YtmajnoefddbflaaDoor
