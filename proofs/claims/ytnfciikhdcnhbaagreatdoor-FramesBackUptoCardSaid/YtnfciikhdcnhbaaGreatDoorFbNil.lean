import Derived.Test.YtnfciikhdcnhbaaGreatDoorFbSplit
namespace Go.Proofs.YtnfciikhdcnhbaaGreatDoor
open Go Go.Px
set_option linter.unusedVariables false

set_option maxRecDepth 100000

set_option maxHeartbeats 800000 in
theorem split_nil (es : List V) (nn : Bool) : PureOk Tryz.prog 13 [.raw (.pointer none), .sl es nn none] (.tup [.raw (.slice none 0 0), .raw (.int .i64 0), .raw (.int .u8 1)]) [] 2 := by
  refine PureOk.of_bodyM Tryz.func13 rfl fun w0 F => vcC_ok _ _ _ ?_
  refine Exists.intro (.bool true) (And.intro rfl ?_)
  refine And.intro (fun _ => ?_) (fun h => by cases h)
  refine And.intro rfl (And.intro rfl (And.intro rfl ?_))
  exact ⟨rfl, Ends.plain [] (.inr rfl) rfl rfl rfl (Soft.refl _) rfl rfl⟩

set_option maxHeartbeats 800000 in
theorem each_nil (es : List V) (nn : Bool) (cs : List V) : PureOk Tryz.prog 8 [.raw (.pointer none), .sl es nn none, .agg cs] (.tup [.raw (.slice none 0 0), .raw (.int .i64 0), .raw (.int .u8 1)]) [] 2 := by
  refine PureOk.of_body Tryz.func8 rfl fun w0 F => vcC_ok _ _ _ ?_
  refine call_pure (split_nil es nn) rfl rfl rfl ?_
  refine Exists.intro (.bool true) (And.intro rfl ?_)
  refine And.intro (fun _ => ?_) (fun h => by cases h)
  exact Ends.plain [] (.inr rfl) rfl rfl rfl (Soft.refl _) rfl rfl

set_option maxHeartbeats 800000 in
theorem fold_nil (es : List V) (nn : Bool) : PureOk Tryz.prog 9 [.raw (.pointer none), .sl es nn none] (.tup [.raw (.slice none 0 0), .raw (.int .i64 0), .raw (.int .u8 1)]) [] 2 := by
  refine PureOk.of_body Tryz.func9 rfl fun w0 F => vcC_ok _ _ _ ?_
  refine call_pure (split_nil es nn) rfl rfl rfl ?_
  refine Exists.intro (.bool true) (And.intro rfl ?_)
  refine And.intro (fun _ => ?_) (fun h => by cases h)
  exact Ends.plain [] (.inr rfl) rfl rfl rfl (Soft.refl _) rfl rfl

set_option maxHeartbeats 800000 in
theorem find_nil (es : List V) (nn : Bool) (s : ByteArray) : PureOk Tryz.prog 10 [.raw (.pointer none), .sl es nn none, .raw (.string s), .raw (.slice none 0 0)] (.tup [.raw (.slice none 0 0), .raw (.int .u8 1)]) [] 2 := by
  refine PureOk.of_body Tryz.func10 rfl fun w0 F => vcC_ok _ _ _ ?_
  refine call_pure (split_nil es nn) rfl rfl rfl ?_
  refine Exists.intro (.bool true) (And.intro rfl ?_)
  refine And.intro (fun _ => ?_) (fun h => by cases h)
  exact Ends.plain [] (.inr rfl) rfl rfl rfl (Soft.refl _) rfl rfl

/-- An empty stream has no frames. -/
theorem split_empty (nn : Bool) : PureOk Tryz.prog 6 [.sl [] nn none] (.tup [.raw (.slice none 0 0), .raw (.int .i64 0), .raw (.int .u8 0)]) [] 2 := by
  refine PureOk.of_bodyM Tryz.func6 rfl fun w0 F => vcC_ok _ _ _ ?_
  refine call_pure (frames_ok _ nn) rfl rfl rfl ?_
  refine And.intro rfl fun own => CallOk.of_bodyM (Tryz.func18) rfl (vcC_ok _ _ _ ?_)
  refine vcL_ok ?_
  refine And.intro rfl ?_
  refine Exists.intro (.bool false) (And.intro rfl ?_)
  refine And.intro (fun h => by cases h) (fun _ => ?_)
  refine ⟨.inl rfl, rfl, _, rfl, false, none, .normal, rfl, rfl, ?_⟩
  refine And.intro rfl (And.intro rfl (And.intro rfl ?_))
  exact ⟨rfl, Ends.plain [] (.inr rfl) rfl rfl rfl (Soft.refl _) rfl rfl⟩

theorem joinL_alive : joinL [[97], []] = [1, 97, 0] := by
  have h1 : putL 1 = [1] := by unfold putL; rw [if_pos (by decide)]
  have h0 : putL 0 = [0] := by unfold putL; rw [if_pos (by decide)]
  show putL 1 ++ [97] ++ (putL 0 ++ [] ++ []) = _
  rw [h1, h0]; rfl

theorem split_alive : PureOk Tryz.prog 6 [.sl [byteV 1, byteV 97, byteV 0] true none] (.tup [.sl [rowT [97], rowT []] false (some 1), .raw (.int .i64 0), .raw (.int .u8 0)]) [(1, .own 1)] 3 := by
  have h := split_ok [[97], []] true (by rw [joinL_alive]; decide) (by simp)
  rw [joinL_alive] at h
  exact h

/-- alive tells true. -/
theorem alive_ok : PureOk Tryz.prog 4 [] (.raw (.bool true)) [] 2 := by
  refine PureOk.of_body Tryz.func4 rfl fun w0 F => vcC_ok _ _ _ ?_
  refine And.intro ⟨rfl, rfl, .inr rfl, by decide⟩ ?_
  refine call_pure split_alive rfl rfl rfl ?_
  refine Exists.intro (.int .i64 0) (And.intro rfl ?_)
  refine Exists.intro (.bool true) (And.intro rfl ?_)
  refine And.intro (fun _ => ?_) (fun h => by cases h)
  refine And.intro rfl ?_
  refine Exists.intro (.bool true) (And.intro rfl ?_)
  refine And.intro (fun _ => ?_) (fun h => by cases h)
  refine Exists.intro (rowT [97]) (And.intro (Int.le_refl 0) (And.intro rfl (And.intro rfl ?_)))
  refine Exists.intro [97] (And.intro rfl (And.intro ⟨⟨_, rfl, rfl⟩, rfl⟩ ?_))
  refine Exists.intro (.bool true) (And.intro (by show some (Value.bool ((strOf [97]).toList == (ByteArray.mk #[97]).toList)) = _; rw [show strOf [97] = ByteArray.mk #[97] from rfl]; simp) ?_)
  refine And.intro (fun _ => ?_) (fun h => by cases h)
  refine Exists.intro (rowT []) (And.intro (by show (0:Int) ≤ 1; decide) (And.intro rfl (And.intro rfl ?_)))
  refine And.intro rfl ?_
  refine Exists.intro (.bool true) (And.intro rfl ?_)
  exact Ends.plain [] (.inr rfl) rfl rfl rfl (Soft.refl _) rfl rfl
end Go.Proofs.YtnfciikhdcnhbaaGreatDoor
