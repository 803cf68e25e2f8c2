import Derived.Test.YtnfciikhdcnhbaaGreatDoorPxVcC
import Derived.Test.YtnfciikhdcnhbaaGreatDoorProg
namespace Go.Proofs.YtnfciikhdcnhbaaGreatDoor
open Go Go.Px
set_option linter.unusedVariables false

set_option maxRecDepth 100000 in
set_option maxHeartbeats 400000 in
theorem clone_ok (es : List V) (nn : Bool) (hk : ∀ e, es.head? = some e → e.cells.length = 1) (hl : es.length ≤ 1099511627776) :
    PureOk Tryz.prog 17 [.sl es nn none] (.sl es false (some 1)) [(1, .own 1)] 3 := by
  refine PureOk.of_body Tryz.func17 rfl fun w0 F => vcC_ok _ _ _ ?_
  refine And.intro (.inl rfl) (And.intro rfl fun isn hi => And.intro (fun h => ?_) (fun h => ?_))
  · obtain ⟨rfl, rfl⟩ := hi (by simpa using h)
    exact Ends.weak [1] (Weak.nilTok 2 1 rfl) (.inr rfl) rfl rfl rfl (Soft.refl _) rfl rfl
  · refine And.intro ⟨rfl, rfl, .inl rfl, by decide⟩ ?_
    refine And.intro ⟨rfl, rfl, fun e he => (by cases he), hk, by show (0 + es.length) * 1 ≤ _; omega, by show 0 + es.length ≤ _; omega⟩ ?_
    exact Ends.plain [2] (.inr rfl) rfl rfl rfl (Soft.sl _ _ _) rfl rfl
end Go.Proofs.YtnfciikhdcnhbaaGreatDoor
