import Derived.Test.YtomdgahghdmhbaaGreatDoorPnTab
namespace Go.Proofs
open Go Go.Qx
set_option linter.unusedVariables false
set_option maxRecDepth 1000000
set_option maxHeartbeats 0
theorem pn (n : Int) (es : List V) (nn : Bool) (w0 : World) (F : Nat → Nat → Prop) : exF Tryz.prog al36_53t 2000 14 [.raw (.int .i64 n), .sl es nn none] [(0, .fr w0 F)] 1 = some (.raw (.bool true), [(0, .fr w0 F)], 1) := by kernel_rfl
theorem pn_ok (n : Int) (es : List V) (nn : Bool) : PureOk Tryz.prog 14 [.raw (.int .i64 n), .sl es nn none] (.raw (.bool true)) [] 1 := ((KTabOk.run al36_53 2000 rfl fun w0 F => pn n es nn w0 F) _ (List.mem_cons_self ..)).1
end Go.Proofs
