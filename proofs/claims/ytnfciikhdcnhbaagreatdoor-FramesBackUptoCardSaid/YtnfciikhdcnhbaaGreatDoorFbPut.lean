import Derived.Test.YtnfciikhdcnhbaaGreatDoorPxNum
import Derived.Test.YtnfciikhdcnhbaaGreatDoorFbClone
namespace Go.Proofs.YtnfciikhdcnhbaaGreatDoor
open Go Go.Px
set_option linter.unusedVariables false

def byteV (b : Nat) : V := .raw (.int .u8 (b : Int))

def putL (y : Nat) : List Nat := if y < 128 then [y] else (y % 128 + 128) :: putL (y / 128)
  termination_by y
  decreasing_by omega

def putSt (w0 : World) (F : Nat → Nat → Prop) (a : List V × Nat) : St :=
  { tmps := [.sl a.1 false (some 1), .raw (.int .u64 (a.2 : Int))] ++ List.replicate 20 .any, h := [(1, .own 1), (0, .fr w0 F)], n := 3, marks := [] }

theorem putL_len : ∀ (n y : Nat), y < 128 ^ (n + 1) → (putL y).length ≤ n + 1
  | 0, y, h => by unfold putL; rw [if_pos (by omega)]; simp
  | n + 1, y, h => by
    unfold putL
    split
    · simp
    · have := putL_len n (y / 128) (by rw [Nat.pow_succ] at h; omega)
      simp only [List.length_cons]; omega

set_option maxRecDepth 100000 in
set_option maxHeartbeats 400000 in
theorem put_ok (es : List V) (nn : Bool) (x : Nat) (hx : x < 18446744073709551616) (hk : ∀ e ∈ es, e.cells.length = 1) (hl : es.length ≤ 1099511627776) :
    PureOk Tryz.prog 11 [.sl es nn none, .raw (.int .u64 (x : Int))] (.sl (es ++ (putL x).map byteV) false (some 1)) [(1, .own 1)] 3 := by
  refine PureOk.of_body Tryz.func11 rfl fun w0 F => vcC_ok _ _ _ ?_
  refine call_pure (clone_ok es nn (fun e he => hk e (List.mem_of_mem_head? he)) hl) rfl rfl rfl ?_
  refine LW.keepInd [0, 1] [2] (fun a => a.2) (putSt w0 F) (fun a => a.1 ++ (putL a.2).map byteV = es ++ (putL x).map byteV) (es, x) rfl rfl ⟨_, _, rfl⟩ (fun m hm => by cases hm) rfl rfl ?_
  intro N a hi hb
  obtain ⟨acc, y⟩ := a
  have hacc : ∀ e, acc.head? = some e → e.cells.length = 1 := fun e he => by
    have : e ∈ es ++ (putL x).map byteV := by rw [← hi]; exact List.mem_append_left _ (List.mem_of_mem_head? he)
    rcases List.mem_append.1 this with h | h
    · exact hk e h
    · obtain ⟨b, _, rfl⟩ := List.mem_map.1 h; rfl
  have hlen : acc.length + 1 ≤ 2199023255552 := by
    have h1 : acc.length + (putL y).length = es.length + (putL x).length := by simpa using congrArg List.length hi
    have h2 := putL_len 9 x (by omega)
    have h3 : 1 ≤ (putL y).length := by unfold putL; split <;> simp
    omega
  refine val_bool (p := (128:Int) ≤ (y:Int)) (q := 128 ≤ y) rfl (by omega) (And.intro (fun h => ?_) (fun h => ?_))
  · have h : 128 ≤ y := of_decide_eq_true h
    refine val_int rfl (u8_of y) ?_
    refine val_int rfl (or128 (y % 256) (by omega)) ?_
    refine And.intro ⟨rfl, rfl, .inr rfl, by decide⟩ ?_
    refine And.intro ⟨rfl, rfl, hacc, fun e he => by cases he; rfl, by show (acc.length + 1) * 1 ≤ _; omega, by show acc.length + 1 ≤ _; omega⟩ ?_
    refine val_int rfl (shr7 y) ?_
    refine hb (acc ++ [byteV (y % 256 % 128 + 128)], y / 128) _ [0, 1] [4] rfl rfl ⟨_, _, rfl⟩ (fun m hm => by cases hm) rfl ?_ ?_
    · rw [← hi]
      conv => rhs; simp only [putL.eq_1 y]
      rw [if_neg (by omega)]
      have : y % 256 % 128 = y % 128 := by omega
      simp [this]
    · show y / 128 < y
      omega
  · have h : ¬ 128 ≤ y := of_decide_eq_false h
    refine val_int rfl (u8_of y) ?_
    refine And.intro ⟨rfl, rfl, .inr rfl, by decide⟩ ?_
    refine And.intro ⟨rfl, rfl, hacc, fun e he => by cases he; rfl, by show (acc.length + 1) * 1 ≤ _; omega, by show acc.length + 1 ≤ _; omega⟩ ?_
    have : acc ++ [byteV (y % 256)] = es ++ (putL x).map byteV := by
      rw [← hi, putL.eq_1 y, if_pos (by omega), show y % 256 = y by omega]; rfl
    rw [← this]
    exact Ends.plain [4] (.inr rfl) rfl rfl rfl (Soft.refl _) rfl rfl
end Go.Proofs.YtnfciikhdcnhbaaGreatDoor
