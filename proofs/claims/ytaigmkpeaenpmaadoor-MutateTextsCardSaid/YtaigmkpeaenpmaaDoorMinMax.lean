/- min and max of two numbers, as the walk takes them. -/
import Derived.Test.YtaigmkpeaenpmaaDoorBase
namespace Go.Proofs.YtaigmkpeaenpmaaDoor
set_option maxRecDepth 100000
open Go.RowKit
def minI (x y : Int) : Int := if y < x then y else x
def maxI (x y : Int) : Int := if x < y then y else x
theorem min2_i (k k' : IntKind) (x y : Int) : Builtin.min2 (.int k x) (.int k' y) = pure (.int k (minI x y)) := by simp only [Builtin.min2, minI]
theorem max2_i (k k' : IntKind) (x y : Int) : Builtin.max2 (.int k x) (.int k' y) = pure (.int k (maxI x y)) := by simp only [Builtin.max2, maxI, gt_iff_lt]
theorem max_two_i (ats : Array TypeId) (ty : TypeId) (a b : Value) : Builtin.max_ ats ty #[a, b] = (Builtin.max2 a b >>= fun s => pure s) := by simp only [Builtin.max_, List.foldlM_cons, List.foldlM_nil]
theorem min_two_i (ats : Array TypeId) (ty : TypeId) (a b : Value) : Builtin.min_ ats ty #[a, b] = (Builtin.min2 a b >>= fun s => pure s) := by simp only [Builtin.min_, List.foldlM_cons, List.foldlM_nil]
end Go.Proofs.YtaigmkpeaenpmaaDoor
