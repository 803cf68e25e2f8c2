import Derived.Test.YtnfciikhdcnhbaaGreatDoorFbNil
namespace Go.Proofs.YtnfciikhdcnhbaaGreatDoor
open Go Go.Px
set_option linter.unusedVariables false

set_option maxRecDepth 100000

def sumL (rows : List (List Nat)) : Nat := (rows.map List.length).sum

theorem sumL_take {rows : List (List Nat)} {i : Nat} {r : List Nat} (h : rows[i]? = some r) : sumL (rows.take (i + 1)) = sumL (rows.take i) + r.length := by
  rw [List.take_add_one, h]; simp [sumL]
theorem sumL_le {rows : List (List Nat)} (i : Nat) : sumL (rows.take i) ≤ sumL rows := by
  have h : sumL rows = sumL (rows.take i) + sumL (rows.drop i) := by
    conv => lhs; rw [← List.take_append_drop i rows]
    simp only [sumL, List.map_append, List.sum_append]
  omega
theorem joinL_sum : ∀ (rows : List (List Nat)), sumL rows < 1180591620717411303424 → (joinL rows).length ≤ sumL rows + 10 * rows.length
  | [], _ => by simp [joinL]
  | r :: rs, h => by
    have h0 : sumL (r :: rs) = r.length + sumL rs := by simp [sumL]
    have h1 := joinL_sum rs (by omega)
    have h2 := putL_len 9 r.length (by omega)
    simp only [joinL, List.flatMap_cons, List.length_append, List.length_cons] at h1 ⊢
    omega
theorem joinL_app (a b : List (List Nat)) : joinL (a ++ b) = joinL a ++ joinL b := by simp [joinL]

def lawA (l m : List (List Nat)) (w0 : World) (F : Nat → Nat → Prop) (i : Nat) : St :=
  { tmps := [.sl (l.map rowV) false none, .sl (m.map rowV) false none, .any, .any, .any, .raw (.int .i64 (sumL ((l ++ m).take i) : Int)), .raw (.int .i64 (i : Int))] ++ List.replicate 126 .any,
    h := [(0, .fr w0 F)], n := 2, marks := [] }

def lawB (l m : List (List Nat)) (w0 : World) (F : Nat → Nat → Prop) (i : Nat) : St :=
  { tmps := [.sl (l.map rowV) false none, .sl (m.map rowV) false none, .any, .any, .any, .any, .any, .sl ((joinL l).map byteV ++ (joinL m).map byteV) false (some 1), .sl ((l ++ m).map rowT) false (some 1), .any, .any, .raw (.int .i64 (i : Int))] ++ List.replicate 121 .any,
    h := [(0, .fr w0 F)], n := 2, marks := [] }

set_option maxHeartbeats 2000000 in
theorem law_ok (l m : List (List Nat)) (hl : l.length + m.length ≤ 4194304) (hs : sumL (l ++ m) ≤ 1099511627776) (hne : l ++ m ≠ []) :
    PureOk Tryz.prog 3 [.sl (l.map rowV) false none, .sl (m.map rowV) false none] (.raw (.bool true)) [] 2 := by
  have hrl : ∀ e, (l.map rowV).head? = some e → e.cells.length = 1 := fun e he => by
    obtain ⟨b, _, rfl⟩ := List.mem_map.1 (List.mem_of_mem_head? he); rfl
  have hrm : ∀ e, (m.map rowV).head? = some e → e.cells.length = 1 := fun e he => by
    obtain ⟨b, _, rfl⟩ := List.mem_map.1 (List.mem_of_mem_head? he); rfl
  have hrlm : ∀ e, ([] ++ l.map rowV).head? = some e → e.cells.length = 1 := hrl
  have b1 : (0 + (l.map rowV).length) * 24 ≤ 140737488355328 := by rw [List.length_map]; omega
  have b2 : 0 + (l.map rowV).length ≤ 140737488355328 := by rw [List.length_map]; omega
  have b3 : (([] ++ l.map rowV).length + (m.map rowV).length) * 24 ≤ 140737488355328 := by simp; omega
  have b4 : ([] ++ l.map rowV).length + (m.map rowV).length ≤ 140737488355328 := by simp; omega
  have hcat : ([] ++ l.map rowV) ++ m.map rowV = (l ++ m).map rowV := by simp
  have hlen : (l ++ m).length = l.length + m.length := List.length_append
  refine PureOk.of_body Tryz.func3 rfl fun w0 F => vcC_ok _ _ _ ?_
  refine call_pure alive_ok rfl rfl rfl ?_
  refine Exists.intro (.bool false) (And.intro rfl ?_)
  refine And.intro (fun h => by cases h) (fun _ => ?_)
  refine LW.keepInd [0, 1, 5, 6] [] (fun i => (l ++ m).length - i) (lawA l m w0 F) (fun i => i ≤ (l ++ m).length) 0 rfl rfl ⟨_, _, rfl⟩ (fun m hm => by cases hm) rfl (Nat.zero_le _) ?_
  intro N i hi hb
  have hsi := sumL_le (rows := l ++ m) i
  refine And.intro rfl (And.intro rfl ?_)
  refine val_int rfl (b := (((l ++ m).length : Nat) : Int)) (by rw [List.length_map, List.length_map, IntWalk.i64_in _ ⟨by omega, by omega⟩]; omega) ?_
  refine val_bool (p := (i : Int) < (((l ++ m).length : Nat) : Int)) (q := i < (l ++ m).length) rfl (by omega) ?_
  refine And.intro (fun h => ?_) (fun h => ?_)
  · have h : i < (l ++ m).length := of_decide_eq_true h
    obtain ⟨r, hr⟩ : ∃ r, (l ++ m)[i]? = some r := ⟨_, List.getElem?_eq_getElem h⟩
    have ht := sumL_take hr
    have hsi2 := sumL_le (rows := l ++ m) (i + 1)
    refine And.intro ⟨rfl, rfl, .inl rfl, by decide⟩ ?_
    refine And.intro ⟨rfl, rfl, (fun e he => by cases he), hrl, b1, b2⟩ ?_
    refine And.intro ⟨rfl, rfl, hrlm, hrm, b3, b4⟩ ?_
    refine Exists.intro (rowV r) (And.intro (Int.natCast_nonneg i) (And.intro (by rw [hcat]; show ((l ++ m).map rowV)[i]? = _; rw [List.getElem?_map, hr]; rfl) (And.intro rfl ?_)))
    refine And.intro rfl ?_
    refine val_int rfl (b := ((sumL ((l ++ m).take (i + 1)) : Nat) : Int)) (by rw [List.length_map, IntWalk.i64_in _ ⟨by omega, by omega⟩]; omega) ?_
    refine val_int rfl (i64_of (i + 1) (by omega)) ?_
    exact hb (i + 1) _ [0, 1, 5, 6] [] rfl rfl ⟨_, _, rfl⟩ (fun m hm => by cases hm) rfl (by omega) (by omega)
  · have h : ¬ i < (l ++ m).length := of_decide_eq_false h
    have hi' : i = (l ++ m).length := by have := hi; omega
    subst hi'
    have hS : sumL ((l ++ m).take (l ++ m).length) = sumL (l ++ m) := by rw [List.take_length]
    refine val_bool (p := (2500 : Int) < (sumL ((l ++ m).take (l ++ m).length) : Int)) (q := 2500 < sumL (l ++ m)) rfl (by rw [hS]; omega) ?_
    refine And.intro (fun hb1 => ?_) (fun hb1 => ?_)
    · have hb1 : ¬ 2500 < sumL (l ++ m) := of_decide_eq_false hb1
      refine And.intro rfl (And.intro rfl ?_)
      refine val_int rfl (b := (((l ++ m).length : Nat) : Int)) (by rw [List.length_map, List.length_map, IntWalk.i64_in _ ⟨by omega, by omega⟩]; omega) ?_
      refine val_bool (p := (40 : Int) < (((l ++ m).length : Nat) : Int)) (q := 40 < (l ++ m).length) rfl (by omega) ?_
      refine And.intro (fun hb2 => ?_) (fun hb2 => ?_)
      · have hb2 : 40 < (l ++ m).length := of_decide_eq_true hb2
        exact Ends.plain [] (.inr rfl) rfl rfl rfl (Soft.refl _) rfl rfl
      · have hb2 : ¬ 40 < (l ++ m).length := of_decide_eq_false hb2
        have hjs := joinL_sum (l ++ m) (by omega)
        have hja : (joinL (l ++ m)).length = (joinL l).length + (joinL m).length := by rw [joinL_app, List.length_append]
        have hsplit := split_ok (l ++ m) false (by omega) hne
        rw [joinL_app, List.map_append] at hsplit
        have hjl : ∀ e, ((joinL l).map byteV).head? = some e → e.cells.length = 1 := fun e he => by
          obtain ⟨b, _, rfl⟩ := List.mem_map.1 (List.mem_of_mem_head? he); rfl
        have hjm : ∀ e, ((joinL m).map byteV).head? = some e → e.cells.length = 1 := fun e he => by
          obtain ⟨b, _, rfl⟩ := List.mem_map.1 (List.mem_of_mem_head? he); rfl
        have c1 : (((joinL l).map byteV).length + ((joinL m).map byteV).length) * 1 ≤ 140737488355328 := by rw [List.length_map, List.length_map]; omega
        have c2 : ((joinL l).map byteV).length + ((joinL m).map byteV).length ≤ 140737488355328 := by rw [List.length_map, List.length_map]; omega
        refine call_pure (join_ok l (by omega) (by omega)) rfl rfl rfl ?_
        refine call_pure (join_ok m (by omega) (by omega)) rfl rfl rfl ?_
        refine And.intro ⟨rfl, rfl, hjl, hjm, c1, c2⟩ ?_
        refine call_pure hsplit rfl rfl rfl ?_
        refine Exists.intro (.int .i64 0) (And.intro rfl ?_)
        refine Exists.intro (.bool false) (And.intro rfl ?_)
        refine And.intro (fun _ => ?_) (fun h => by cases h)
        refine Exists.intro (.bool false) (And.intro rfl ?_)
        refine And.intro (fun _ => ?_) (fun h => by cases h)
        refine And.intro rfl (And.intro rfl (And.intro rfl ?_))
        refine val_int rfl (b := (((l ++ m).length : Nat) : Int)) (by rw [List.length_map, List.length_map, IntWalk.i64_in _ ⟨by omega, by omega⟩]; omega) ?_
        refine Exists.intro (.bool false) (And.intro (by
          show some (Value.bool (((((l ++ m).map rowT).length : Nat) : Int) != (((l ++ m).length : Nat) : Int))) = _
          rw [List.length_map]; simp) ?_)
        refine And.intro (fun h => by cases h) (fun _ => ?_)
        refine LW.keepInd [0, 1, 7, 8, 11] [] (fun i => (l ++ m).length - i) (lawB l m w0 F) (fun i => i ≤ (l ++ m).length) 0 rfl rfl ⟨_, _, rfl⟩ (fun m hm => by cases hm) rfl (Nat.zero_le _) ?_
        intro N i hi hb
        refine And.intro rfl ?_
        refine val_bool (p := (i : Int) < ((((l ++ m).map rowT).length : Nat) : Int)) (q := i < (l ++ m).length) rfl (by rw [List.length_map]; omega) ?_
        refine And.intro (fun h => ?_) (fun h => ?_)
        · have h : i < (l ++ m).length := of_decide_eq_true h
          obtain ⟨r, hr⟩ : ∃ r, (l ++ m)[i]? = some r := ⟨_, List.getElem?_eq_getElem h⟩
          refine And.intro ⟨rfl, rfl, .inl rfl, by decide⟩ ?_
          refine And.intro ⟨rfl, rfl, (fun e he => by cases he), hrl, b1, b2⟩ ?_
          refine And.intro ⟨rfl, rfl, hrlm, hrm, b3, b4⟩ ?_
          refine Exists.intro (rowV r) (And.intro (Int.natCast_nonneg i) (And.intro (by rw [hcat]; show ((l ++ m).map rowV)[i]? = _; rw [List.getElem?_map, hr]; rfl) (And.intro rfl ?_)))
          refine Exists.intro (rowT r) (And.intro (Int.natCast_nonneg i) (And.intro (by show ((l ++ m).map rowT)[i]? = _; rw [List.getElem?_map, hr]; rfl) (And.intro rfl ?_)))
          refine call_pure (same_ok r r true false) rfl rfl rfl ?_
          refine Exists.intro (.bool false) (And.intro (by
            show some (Value.bool (!((strL r).toList == (strL r).toList))) = _
            simp) ?_)
          refine And.intro (fun h => by cases h) (fun _ => ?_)
          refine val_int rfl (i64_of (i + 1) (by omega)) ?_
          exact hb (i + 1) _ [0, 1, 7, 8, 11] [] rfl rfl ⟨_, _, rfl⟩ (fun m hm => by cases hm) rfl (by omega) (by omega)
        · refine call_pure (each_nil _ false _) rfl rfl rfl ?_
          refine call_pure (fold_nil _ false) rfl rfl rfl ?_
          refine call_pure (find_nil _ false _) rfl rfl rfl ?_
          refine Exists.intro (.int .i64 1) (And.intro rfl ?_)
          refine Exists.intro (.bool true) (And.intro rfl ?_)
          refine And.intro (fun _ => ?_) (fun h => by cases h)
          refine Exists.intro (.int .i64 1) (And.intro rfl ?_)
          refine Exists.intro (.bool true) (And.intro rfl ?_)
          refine And.intro (fun _ => ?_) (fun h => by cases h)
          refine Exists.intro (.int .i64 1) (And.intro rfl ?_)
          refine Exists.intro (.bool true) (And.intro rfl ?_)
          exact Ends.plain [] (.inr rfl) rfl rfl rfl (Soft.refl _) rfl rfl
    · refine And.intro (fun _ => ?_) (fun h => by cases h)
      exact Ends.plain [] (.inr rfl) rfl rfl rfl (Soft.refl _) rfl rfl
end Go.Proofs.YtnfciikhdcnhbaaGreatDoor
