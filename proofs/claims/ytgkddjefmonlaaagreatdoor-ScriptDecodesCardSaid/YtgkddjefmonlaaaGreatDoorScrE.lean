/-
  Functions without a body that the script's layer calls: what the model has for them.
-/
import Derived.Test.YtgkddjefmonlaaaGreatDoorBase2
import Derived.Laws.Externs
namespace Go.Proofs.YtgkddjefmonlaaaGreatDoor
open Go.RowKit

theorem run_frombits (n : Int) (w : World) : (callFunc 30 #[.int .u64 n]).run Tryz.prog w = .ok (.value (.float .f64 n.toNat)) w := by
  rw [run_callFunc_extern (e := Extern.MathFloatBits.float64frombits) Tryz.func30 (by kernel_rfl) (by kernel_rfl) (by kernel_rfl) (by kernel_rfl)]
  rfl
theorem run_floatbits (n : Nat) (w : World) : (callFunc 67 #[.float .f64 n]).run Tryz.prog w = .ok (.value (.int .u64 n)) w := by
  rw [run_callFunc_extern (e := Extern.MathFloatBits.float64bits) Tryz.func67 (by kernel_rfl) (by kernel_rfl) (by kernel_rfl) (by kernel_rfl)]
  rfl
/-- the kit has a cell's store for numbers, strings, slices ..; this is the one for floats -/
@[go_sem] theorem run_store_float {P : Program} {w : World} {a : Addr} {m : Mode} (k : FloatKind) (n : Nat) : (store a (.float k n) m).run P w = stored P w a (.float k n) m := run_store P w a _ m rfl
end Go.Proofs.YtgkddjefmonlaaaGreatDoor
