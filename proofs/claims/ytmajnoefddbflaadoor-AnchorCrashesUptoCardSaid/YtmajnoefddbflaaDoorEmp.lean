/- append onto an empty slice without room: nothing that was there is touched. -/
import Derived.Test.YtmajnoefddbflaaDoorL4
import Derived.Test.YtmajnoefddbflaaDoorDt2
namespace Go.Proofs.YtmajnoefddbflaaDoor
open Go.RowKit

theorem run_app_empty {P : Program} {t e size bytes : Nat} (T : AppT P t e size bytes) (ty : TypeId) (w : World) (a : Addr) {A2 : Option Addr} {m c2 : Nat} (hm : 0 < m) (hb : m * bytes ≤ 140737488355328) :
    (Builtin.append_ #[t, t] ty #[.slice (some a) 0 0, .slice A2 m c2]).run P w = (Builtin.append_ #[t, t] ty #[.slice none 0 0, .slice A2 m c2]).run P w := by
  obtain ⟨i, z, hi, hz, hs, hbb, hzs⟩ := T.hi
  have h1 : ¬ m = 0 := by omega
  have h2 : Builtin.nextslicecap m 0 * bytes ≤ 281474976710656 := by
    have : Builtin.nextslicecap m 0 = m := by simp [Builtin.nextslicecap, hm]
    rw [this]; omega
  have h3 : ¬ (2 ^ 48 < Builtin.nextslicecap m 0 * bytes) := by
    have : (2 : Nat) ^ 48 = 281474976710656 := by decide
    omega
  simp [Builtin.append_, run_underlying T.ht, sizeOf, typeInfo, hi, hs, hbb, Builtin.lenOf, Builtin.firstCells, h1, h3, loadCells, loadCellsFrom]
end Go.Proofs.YtmajnoefddbflaaDoor
