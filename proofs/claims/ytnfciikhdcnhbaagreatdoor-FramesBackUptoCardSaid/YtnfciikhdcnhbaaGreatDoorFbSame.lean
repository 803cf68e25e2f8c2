import Derived.Test.YtnfciikhdcnhbaaGreatDoorFbJoin
namespace Go.Proofs.YtnfciikhdcnhbaaGreatDoor
open Go Go.Px
set_option linter.unusedVariables false

def strL (bs : List Nat) : ByteArray := strOf (bs.map fun (b : Nat) => (b : Int))

theorem byteV_ints (bs : List Nat) : bs.map byteV = (bs.map fun (b : Nat) => (b : Int)).map fun n => .raw (.int .u8 n) := by
  rw [List.map_map]; rfl

set_option maxRecDepth 100000 in
set_option maxHeartbeats 2000000 in
theorem same_ok (a b : List Nat) (n1 n2 : Bool) : PureOk Tryz.prog 7 [.sl (a.map byteV) n1 none, .sl (b.map byteV) n2 none] (.raw (.bool ((strL a).toList == (strL b).toList))) [] 2 := by
  refine PureOk.of_body Tryz.func7 rfl fun w0 F => vcC_ok _ _ _ ?_
  refine Exists.intro _ (And.intro (byteV_ints a) (And.intro ⟨⟨_, rfl, rfl⟩, rfl⟩ ?_))
  refine Exists.intro _ (And.intro (byteV_ints b) (And.intro ⟨⟨_, rfl, rfl⟩, rfl⟩ ?_))
  refine Exists.intro (.bool ((strL a).toList == (strL b).toList)) (And.intro rfl ?_)
  exact Ends.plain [] (.inr rfl) rfl rfl rfl (Soft.refl _) rfl rfl
end Go.Proofs.YtnfciikhdcnhbaaGreatDoor
