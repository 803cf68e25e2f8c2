import Derived.Test.YtnfciikhdcnhbaaGreatDoorFbTop
import Derived.Below
namespace Go.Proofs.YtnfciikhdcnhbaaGreatDoor
open Go Go.Px Go.RowKit
set_option linter.unusedVariables false

/-- What a state that owns nothing leaves: all that was there. -/
theorem below_of {W W' : World} {M' : Mem} (h : Tr (fun _ => none) W M' W') : Below W.heap.size W W' :=
  ⟨h.ext.os, h.ext.tape, h.ext.output, h.ext.size, fun k hk => h.ext.blk k hk fun o => noFoot k o⟩

theorem sim_none (W : World) : Sim W (fun _ => none) [] 0 := by
  refine Sim.of_obj (fun _ _ h => by cases h) (fun _ _ _ _ h => by cases h) (fun _ _ _ _ _ _ h => by cases h) (fun id h => absurd rfl h)

theorem walk (W : World) (v0 v1 : Value) (l m : List (List Nat)) (h0 : Rep W (fun _ => none) 0 (.sl (l.map rowV) false none) v0) (h1 : Rep W (fun _ => none) 0 (.sl (m.map rowV) false none) v1)
    (hl : l.length + m.length ≤ 4194304) (hs : sumL (l ++ m) ≤ 1099511627776) :
    Calls Tryz.prog 3 #[v0, v1] W fun e w' => e = .returned (.bool true) ∧ Below W.heap.size W w' := by
  intro cs
  have hc := PureOk.frame (h := []) (n := 0) (args := [.sl (l.map rowV) false none, .sl (m.map rowV) false none]) (law_all l m hl hs) (fun a ha => by
    simp only [List.mem_cons, List.mem_nil_iff, or_false] at ha
    rcases ha with rfl | rfl <;> rfl) rfl
  have ha : ArgsRep W (fun _ => none) 0 [.sl (l.map rowV) false none, .sl (m.map rowV) false none] #[v0, v1] := by
    refine ⟨rfl, fun i v hv => ?_⟩
    match i, hv with
    | 0, hv => simp only [List.getElem?_cons_zero, Option.some.injEq] at hv; subst hv; exact h0
    | 1, hv => simp only [List.getElem?_cons_succ, List.getElem?_cons_zero, Option.some.injEq] at hv; subst hv; exact h1
    | i + 2, hv => simp at hv
  obtain ⟨v, h', n', x, w', M', fr, ⟨rfl, _, _⟩, r1, r2, r3, r4, r5, r6⟩ := hc W _ _ ha (sim_none W) cs
  have hx : x = .bool true := r1.raw_inv
  subst hx
  exact ⟨.returned (.bool true), w', fr, ⟨rfl, below_of r3⟩, r5, r6.2, r6.1⟩
end Go.Proofs.YtnfciikhdcnhbaaGreatDoor
