/- head.Right; the small methods of history.History. -/
import Derived.Test.YtmajnoefddbflaaDoorProg
import Derived.Test.YtmajnoefddbflaaDoorL4
import Derived.Test.YtmajnoefddbflaaDoorDat
import Derived.Test.YtmajnoefddbflaaDoorItd
import Derived.Test.YtmajnoefddbflaaDoorOut
import Derived.WalkKit
import Derived.WalkSpells
import Derived.StillTactics
import Derived.Laws.Pointers
import Derived.Lib.Hide
import Derived.KernelRfl
namespace Go.Proofs.YtmajnoefddbflaaDoor
open Go.RowKit

def Hd.ok (h : Hd) : Bool := decide (0 ≤ h.size ∧ h.size ≤ 1048576)
set_option maxRecDepth 100000 in
set_option maxHeartbeats 800000 in
theorem headRight_any (h : Hd) (w : World) : Calls Tryd.prog 47 #[.agg h.cells.toArray] w fun e w' => e = .returned (.bool h.ok) ∧ Below w.heap.size w w' := by
  have hb := Blk.new w 27 h.cells
  have hc : (w.alloc (.cells h.cells.toArray 27)).cell? ⟨w.heap.size, 0, none⟩ = some (.int .i64 h.size) := hb.cell 0
  have hf := (Frm.refl (fun _ => False) w).alloc (.cells h.cells.toArray 27)
  replace hb := Lib.hid hb
  replace hf := Lib.hid hf
  by_cases h0 : 0 ≤ h.size
  · by_cases h1 : h.size ≤ 1048576
    · go_enter Tryd.func47, Tryd.ntmps47
      go_wp2
      go_ret
      refine ⟨?_, hf.out.below⟩
      show Ending.returned (Value.bool true) = _
      rw [show h.ok = true by simp [Hd.ok, h0, h1]]
    · go_enter Tryd.func47, Tryd.ntmps47
      go_wp2
      go_ret
      refine ⟨?_, hf.out.below⟩
      show Ending.returned (Value.bool false) = _
      rw [show h.ok = false by simp [Hd.ok, h1]]
  · go_enter Tryd.func47, Tryd.ntmps47
    go_wp2
    go_ret
    refine ⟨?_, hf.out.below⟩
    show Ending.returned (Value.bool false) = _
    rw [show h.ok = false by simp [Hd.ok]; omega]
end Go.Proofs.YtmajnoefddbflaaDoor
