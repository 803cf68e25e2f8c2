import Derived.Test.YtnfciikhdcnhbaaGreatDoorFbSame
namespace Go.Proofs.YtnfciikhdcnhbaaGreatDoor
open Go Go.Px
set_option linter.unusedVariables false

set_option maxRecDepth 100000 in
set_option maxHeartbeats 400000 in
theorem read1_ok (x : Nat) (rest : List V) (hx : x < 128) (nn : Bool) (hl : rest.length < 1099511627776) :
    PureOk Tryz.prog 19 [.sl (byteV x :: rest) nn none] (.tup [.raw (.int .u64 (x : Int)), .raw (.int .i64 1), .raw (.int .u8 0)]) [] 2 := by
  refine PureOk.of_body Tryz.func19 rfl fun w0 F => vcC_ok _ _ _ ?_
  refine And.intro rfl ?_
  refine vcL_ok ?_
  refine Exists.intro (.bool true) (And.intro ?_ ?_)
  · show some (Value.bool (decide ((0:Int) < ((rest.length + 1 : Nat) : Int)))) = _
    rw [decide_eq_true (by omega)]
  refine And.intro (fun h => ?_) (fun h => by cases h)
  refine Exists.intro (byteV x) (And.intro (Int.le_refl 0) (And.intro rfl (And.intro rfl ?_)))
  refine Exists.intro (.bool false) (And.intro rfl ?_)
  refine And.intro (fun h => by cases h) (fun h => ?_)
  refine And.intro (fun h => by cases h) (fun h => ?_)
  refine val_int rfl (and127 x (by omega)) ?_
  refine val_int rfl (u64_of (x % 128) (by omega)) ?_
  refine val_int rfl (b := 0) (by decide) ?_
  refine val_int rfl (b := 0) (by decide) ?_
  refine val_int rfl (b := ((x : Nat) : Int)) (show IntKind.u64.wrap (((x % 128 : Nat) : Int) * 1) = _ by rw [Int.mul_one, Nat.mod_eq_of_lt hx]; exact u64_of x (by omega)) ?_
  refine val_int rfl (b := ((x : Nat) : Int)) (or64z x (by omega)) ?_
  refine val_bool (p := (x:Int) < 128) (q := True) rfl (by simp; omega) ?_
  refine And.intro (fun _ => ?_) (fun h => by simp at h)
  refine val_int rfl (b := 1) (by decide) ?_
  exact Ends.plain [] (.inr rfl) rfl rfl rfl (Soft.refl _) rfl rfl

set_option maxRecDepth 100000 in
set_option maxHeartbeats 400000 in
theorem read2_ok (x : Nat) (rest : List V) (hx : 128 ≤ x) (hx2 : x < 16384) (nn : Bool) (hl : rest.length < 1099511627776) :
    PureOk Tryz.prog 19 [.sl (byteV (x % 128 + 128) :: byteV (x / 128) :: rest) nn none] (.tup [.raw (.int .u64 (x : Int)), .raw (.int .i64 2), .raw (.int .u8 0)]) [] 2 := by
  refine PureOk.of_body Tryz.func19 rfl fun w0 F => vcC_ok _ _ _ ?_
  refine And.intro rfl ?_
  refine vcL_ok ?_
  refine Exists.intro (.bool true) (And.intro ?_ ?_)
  · show some (Value.bool (decide ((0:Int) < ((rest.length + 1 + 1 : Nat) : Int)))) = _
    rw [decide_eq_true (by omega)]
  refine And.intro (fun h => ?_) (fun h => by cases h)
  refine Exists.intro (byteV (x % 128 + 128)) (And.intro (Int.le_refl 0) (And.intro rfl (And.intro rfl ?_)))
  refine Exists.intro (.bool false) (And.intro rfl ?_)
  refine And.intro (fun h => by cases h) (fun h => ?_)
  refine And.intro (fun h => by cases h) (fun h => ?_)
  refine val_int rfl (and127 (x % 128 + 128) (by omega)) ?_
  rw [show (x % 128 + 128) % 128 = x % 128 by omega]
  refine val_int rfl (u64_of (x % 128) (by omega)) ?_
  refine val_int rfl (b := 0) (by decide) ?_
  refine val_int rfl (b := 0) (by decide) ?_
  refine val_int rfl (b := ((x % 128 : Nat) : Int)) (show IntKind.u64.wrap (((x % 128 : Nat) : Int) * 1) = _ by rw [Int.mul_one]; exact u64_of _ (by omega)) ?_
  refine val_int rfl (b := ((x % 128 : Nat) : Int)) (or64z (x % 128) (by omega)) ?_
  refine val_bool (p := ((x % 128 + 128 : Nat) : Int) < 128) (q := False) rfl (by simp; omega) ?_
  refine And.intro (fun h => by simp at h) (fun _ => ?_)
  refine val_int rfl (b := 1) (by decide) ?_
  refine vcL_ok ?_
  refine Exists.intro (.bool true) (And.intro ?_ ?_)
  · show some (Value.bool (decide ((1:Int) < ((rest.length + 1 + 1 : Nat) : Int)))) = _
    rw [decide_eq_true (by omega)]
  refine And.intro (fun h => ?_) (fun h => by cases h)
  refine Exists.intro (byteV (x / 128)) (And.intro (by show (0:Int) ≤ 1; omega) (And.intro rfl (And.intro rfl ?_)))
  refine Exists.intro (.bool false) (And.intro rfl ?_)
  refine And.intro (fun h => by cases h) (fun h => ?_)
  refine And.intro (fun h => by cases h) (fun h => ?_)
  refine val_int rfl (and127 (x / 128) (by omega)) ?_
  rw [show (x / 128) % 128 = x / 128 by omega]
  refine val_int rfl (u64_of (x / 128) (by omega)) ?_
  refine val_int rfl (b := 1) (by decide) ?_
  refine val_int rfl (b := 7) (by decide) ?_
  refine val_int rfl (b := ((2 ^ 7 * (x / 128) : Nat) : Int)) (show IntKind.u64.wrap (((x / 128 : Nat) : Int) * 2 ^ 7) = _ by rw [show ((x / 128 : Nat) : Int) * 2 ^ 7 = ((2 ^ 7 * (x / 128) : Nat) : Int) by omega]; exact u64_of _ (by omega)) ?_
  refine val_int rfl (b := ((x : Nat) : Int)) (by have := or64 7 (x % 128) (x / 128) (by omega) (by omega); rw [show 2 ^ 7 * (x / 128) + x % 128 = x by omega] at this; exact this) ?_
  refine val_bool (p := ((x / 128 : Nat) : Int) < 128) (q := True) rfl (by simp; omega) ?_
  refine And.intro (fun _ => ?_) (fun h => by simp at h)
  refine val_int rfl (b := 2) (by decide) ?_
  exact Ends.plain [] (.inr rfl) rfl rfl rfl (Soft.refl _) rfl rfl

theorem read_ok (x : Nat) (rest : List V) (hx2 : x < 16384) (nn : Bool) (hl : rest.length < 1099511627776) :
    PureOk Tryz.prog 19 [.sl ((putL x).map byteV ++ rest) nn none] (.tup [.raw (.int .u64 (x : Int)), .raw (.int .i64 ((putL x).length : Int)), .raw (.int .u8 0)]) [] 2 := by
  by_cases h : x < 128
  · have : putL x = [x] := by unfold putL; rw [if_pos h]
    rw [this]
    exact read1_ok x rest h nn hl
  · have : putL x = [x % 128 + 128, x / 128] := by unfold putL; rw [if_neg h]; unfold putL; rw [if_pos (by omega)]
    rw [this]
    exact read2_ok x rest (by omega) hx2 nn hl
end Go.Proofs.YtnfciikhdcnhbaaGreatDoor
