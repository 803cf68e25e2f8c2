import Derived.Test.YtnfciikhdcnhbaaGreatDoorPxInd
import Derived.IntWalk
namespace Go.Px
open Go
set_option linter.unusedVariables false

theorem u8_of (y : Nat) : IntKind.u8.wrap (y : Int) = ((y % 256 : Nat) : Int) := by rw [IntKind.wrap_u8]; omega
theorem u64_of (y : Nat) (h : y < 18446744073709551616) : IntKind.u64.wrap (y : Int) = (y : Int) := IntWalk.u64_in _ ⟨by omega, by omega⟩
theorem i64_of (y : Nat) (h : y < 9223372036854775808) : IntKind.i64.wrap (y : Int) = (y : Int) := by rw [IntKind.wrap_i64]; omega

theorem or128 (a : Nat) (h : a < 256) : IntKind.u8.wrap (((BitVec.ofInt 8 (a : Int)) ||| (BitVec.ofInt 8 128)).toNat : Int) = ((a % 128 + 128 : Nat) : Int) := by
  have key : ∀ a : Fin 256, IntKind.u8.wrap (((BitVec.ofInt 8 (a.val : Int)) ||| (BitVec.ofInt 8 128)).toNat : Int) = ((a.val % 128 + 128 : Nat) : Int) := by decide +kernel
  exact key ⟨a, h⟩
theorem and127 (a : Nat) (h : a < 256) : IntKind.u8.wrap (((BitVec.ofInt 8 (a : Int)) &&& (BitVec.ofInt 8 127)).toNat : Int) = ((a % 128 : Nat) : Int) := by
  have key : ∀ a : Fin 256, IntKind.u8.wrap (((BitVec.ofInt 8 (a.val : Int)) &&& (BitVec.ofInt 8 127)).toNat : Int) = ((a.val % 128 : Nat) : Int) := by decide +kernel
  exact key ⟨a, h⟩
theorem shr7 (y : Nat) : ((y : Int).fdiv (2 ^ 7)) = ((y / 128 : Nat) : Int) := by
  rw [Int.fdiv_eq_ediv_of_nonneg _ (by decide)]; omega

/-- A pure value, told in another form. -/
theorem val_int {P : Program} {k : IntKind} {a b : Int} {s : Sem Value} {K : Value → Prop} (h : pureRun P s = some (.int k a)) (hab : a = b) (hK : K (.int k b)) : ∃ v, pureRun P s = some v ∧ K v :=
  ⟨_, hab ▸ h, hK⟩
theorem val_bool {P : Program} {p : Prop} [Decidable p] {q : Prop} [Decidable q] {s : Sem Value} {K : Value → Prop} (h : pureRun P s = some (.bool (decide p))) (hab : p ↔ q) (hK : K (.bool (decide q))) : ∃ v, pureRun P s = some v ∧ K v :=
  ⟨_, by rw [h, decide_eq_decide.2 hab], hK⟩
end Go.Px
namespace Go.Px
open Go
theorem or64 (i a b : Nat) (ha : a < 2 ^ i) (h : 2 ^ i * b + a < 18446744073709551616) :
    IntKind.u64.wrap (((BitVec.ofInt 64 (a : Int)) ||| (BitVec.ofInt 64 ((2 ^ i * b : Nat) : Int))).toNat : Int) = ((2 ^ i * b + a : Nat) : Int) := by
  have e : ((BitVec.ofInt 64 (a : Int)) ||| (BitVec.ofInt 64 ((2 ^ i * b : Nat) : Int))).toNat = 2 ^ i * b + a := by
    rw [BitVec.ofInt_natCast, BitVec.ofInt_natCast, BitVec.toNat_or, BitVec.toNat_ofNat, BitVec.toNat_ofNat, Nat.mod_eq_of_lt (by omega), Nat.mod_eq_of_lt (by omega), Nat.or_comm,
      Nat.two_pow_add_eq_or_of_lt ha]
  rw [e]; exact u64_of _ h
end Go.Px
namespace Go.Px
open Go
theorem or64z (x : Nat) (h : x < 18446744073709551616) : IntKind.u64.wrap (((BitVec.ofInt 64 0) ||| (BitVec.ofInt 64 (x : Int))).toNat : Int) = (x : Int) := by
  have := or64 0 0 x (by omega) (by omega)
  rwa [show 2 ^ 0 * x = x by omega, show x + 0 = x from rfl] at this
end Go.Px
