import Derived.Test.YtnfciikhdcnhbaaGreatDoorPxVcC
namespace Go.Px
open Go
set_option linter.unusedVariables false

/-- A loop whose rounds lead from one known state to another, less in a measure. -/
theorem LW.keepInd {P : Program} {m : Nat} {c : Code} {Q : Ex → St → Prop} {st : St} {α : Type} (keepT keep : List Nat) (μ : α → Nat) (f : α → St) (I : α → Prop) (a0 : α)
    (hp : stays m keep = true) (hk : keepOk st.h keep = true) (hz : ∃ w0 F, st.h.find 0 = .fr w0 F) (hm : ∀ m ∈ st.marks, m ∈ keep) (he : st.keep keepT keep = f a0) (h0 : I a0)
    (h : ∀ (N : St → Prop) a, I a → (∀ b st keepT keep, stays m keep = true → keepOk st.h keep = true → (∃ w0 F, st.h.find 0 = .fr w0 F) → (∀ m ∈ st.marks, m ∈ keep) → st.keep keepT keep = f b → I b → μ b < μ a → N st) →
      vcC P m c (Ex.thn N Q) (f a)) : LW P m c Q st := by
  have key : ∀ n a, μ a < n → I a → LW P m c Q (f a) := by
    intro n
    induction n with
    | zero => intro a ha; omega
    | succ n ih =>
      intro a ha hi
      exact vcL_ok (h _ a hi fun b st keepT keep h0 h1 h2 h3 h4 hb hlt => LW.keep keepT keep h0 h1 h2 h3 (h4 ▸ ih b (by omega) hb))
  exact LW.keep keepT keep hp hk hz hm (he ▸ key (μ a0 + 1) a0 (by omega) h0)

theorem call_pure {P : Program} {f : FuncId} {args : List V} {v : V} {news : Heap} {n0 : Nat} {h : Heap} {n : Nat} {K : V → Heap → Nat → Prop} (hp : PureOk P f (args.map V.strip) v news n0)
    (hc : (args.all fun a => a.strip.closed) = true) (hz : Heap.find news 0 = .dead) (hcl : callable P f = true) (hK : K (v.ren (· + n)) (Heap.shift n news ++ h) (n + n0)) :
    ∃ R, CallOk P f args h n R ∧ callable P f = true ∧ ∀ v h' n', R v h' n' → K v h' n' :=
  ⟨_, PureOk.frame hp (fun a ha => List.all_eq_true.1 hc a ha) hz, hcl, fun _ _ _ hr => by obtain ⟨rfl, rfl, rfl⟩ := hr; exact hK⟩
end Go.Px
