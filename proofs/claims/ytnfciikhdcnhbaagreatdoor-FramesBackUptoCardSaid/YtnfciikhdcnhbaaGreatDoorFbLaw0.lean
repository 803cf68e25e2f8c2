import Derived.Test.YtnfciikhdcnhbaaGreatDoorFbLaw
namespace Go.Proofs.YtnfciikhdcnhbaaGreatDoor
open Go Go.Px
set_option linter.unusedVariables false

set_option maxRecDepth 100000

set_option maxHeartbeats 2000000 in
theorem law_nil : PureOk Tryz.prog 3 [.sl [] false none, .sl [] false none] (.raw (.bool true)) [] 2 := by
  have hj : joinL [] = [] := rfl
  have hjoin := join_ok [] (by decide) (by decide)
  refine PureOk.of_body Tryz.func3 rfl fun w0 F => vcC_ok _ _ _ ?_
  refine call_pure alive_ok rfl rfl rfl ?_
  refine Exists.intro (.bool false) (And.intro rfl ?_)
  refine And.intro (fun h => by cases h) (fun _ => ?_)
  refine vcL_ok ?_
  refine And.intro rfl (And.intro rfl ?_)
  refine Exists.intro (.int .i64 0) (And.intro rfl ?_)
  refine Exists.intro (.bool false) (And.intro rfl ?_)
  refine And.intro (fun h => by cases h) (fun _ => ?_)
  refine Exists.intro (.bool false) (And.intro rfl ?_)
  refine And.intro (fun _ => ?_) (fun h => by cases h)
  refine And.intro rfl (And.intro rfl ?_)
  refine Exists.intro (.int .i64 0) (And.intro rfl ?_)
  refine Exists.intro (.bool false) (And.intro rfl ?_)
  refine And.intro (fun h => by cases h) (fun _ => ?_)
  refine call_pure hjoin rfl rfl rfl ?_
  refine call_pure hjoin rfl rfl rfl ?_
  refine And.intro ⟨rfl, rfl, (fun e he => by cases he), (fun e he => by cases he), by decide, by decide⟩ ?_
  refine call_pure (split_empty false) rfl rfl rfl ?_
  refine Exists.intro (.int .i64 0) (And.intro rfl ?_)
  refine Exists.intro (.bool false) (And.intro rfl ?_)
  refine And.intro (fun _ => ?_) (fun h => by cases h)
  refine Exists.intro (.bool false) (And.intro rfl ?_)
  refine And.intro (fun _ => ?_) (fun h => by cases h)
  refine Exists.intro (.int .i64 0) (And.intro rfl ?_)
  refine And.intro rfl (And.intro rfl ?_)
  refine Exists.intro (.int .i64 0) (And.intro rfl ?_)
  refine Exists.intro (.bool false) (And.intro rfl ?_)
  refine And.intro (fun h => by cases h) (fun _ => ?_)
  refine vcL_ok ?_
  refine Exists.intro (.int .i64 0) (And.intro rfl ?_)
  refine Exists.intro (.bool false) (And.intro rfl ?_)
  refine And.intro (fun h => by cases h) (fun _ => ?_)
  refine call_pure (each_nil _ false _) rfl rfl rfl ?_
  refine call_pure (fold_nil _ false) rfl rfl rfl ?_
  refine call_pure (find_nil _ false _) rfl rfl rfl ?_
  refine Exists.intro (.int .i64 1) (And.intro rfl ?_)
  refine Exists.intro (.bool true) (And.intro rfl ?_)
  refine And.intro (fun _ => ?_) (fun h => by cases h)
  refine Exists.intro (.int .i64 1) (And.intro rfl ?_)
  refine Exists.intro (.bool true) (And.intro rfl ?_)
  refine And.intro (fun _ => ?_) (fun h => by cases h)
  refine Exists.intro (.int .i64 1) (And.intro rfl ?_)
  refine Exists.intro (.bool true) (And.intro rfl ?_)
  exact Ends.plain [] (.inr rfl) rfl rfl rfl (Soft.refl _) rfl rfl

/-- FRAMESBACK, for all streams: it tells true. -/
theorem law_all (l m : List (List Nat)) (hl : l.length + m.length ≤ 4194304) (hs : sumL (l ++ m) ≤ 1099511627776) :
    PureOk Tryz.prog 3 [.sl (l.map rowV) false none, .sl (m.map rowV) false none] (.raw (.bool true)) [] 2 := by
  by_cases h : l ++ m = []
  · obtain ⟨rfl, rfl⟩ := List.append_eq_nil_iff.1 h
    exact law_nil
  · exact law_ok l m hl hs h
end Go.Proofs.YtnfciikhdcnhbaaGreatDoor
