import Derived.Test.YtnfciikhdcnhbaaGreatDoorFbPut
namespace Go.Proofs.YtnfciikhdcnhbaaGreatDoor
open Go Go.Px
set_option linter.unusedVariables false

def rowV (r : List Nat) : V := .sl (r.map byteV) false none

def joinL (rows : List (List Nat)) : List Nat := rows.flatMap fun r => putL r.length ++ r

theorem joinL_take {rows : List (List Nat)} {i : Nat} {r : List Nat} (h : rows[i]? = some r) : joinL (rows.take (i + 1)) = joinL (rows.take i) ++ (putL r.length ++ r) := by
  rw [List.take_add_one, h]; simp [joinL]

theorem joinL_le {rows : List (List Nat)} (i : Nat) : (joinL (rows.take i)).length ≤ (joinL rows).length := by
  have h : joinL rows = joinL (rows.take i) ++ joinL (rows.drop i) := by
    conv => lhs; rw [← List.take_append_drop i rows]
    rw [joinL, List.flatMap_append]; rfl
  rw [h, List.length_append]; omega

theorem le_trans1 {a : Nat} (h : a ≤ 549755813888) : a * 1 ≤ 140737488355328 := by omega
theorem le_trans2 {a : Nat} (h : a ≤ 549755813888) : a ≤ 140737488355328 := by omega

def joinSt (rows : List (List Nat)) (w0 : World) (F : Nat → Nat → Prop) (i : Nat) : St :=
  { tmps := [.any, .any, .any, .sl ((joinL (rows.take i)).map byteV) false (some 1), .any, .any, .sl (rows.map rowV) false none, .raw (.int .i64 (rows.length : Int)), .raw (.int .i64 (i : Int))] ++ List.replicate 12 .any,
    h := [(1, .own 1), (0, .fr w0 F)], n := 3, marks := [] }

set_option maxRecDepth 100000 in
set_option maxHeartbeats 2000000 in
theorem join_ok (rows : List (List Nat)) (hl : rows.length ≤ 1099511627776) (hj : (joinL rows).length ≤ 549755813888) :
    PureOk Tryz.prog 5 [.sl (rows.map rowV) false none] (.sl ((joinL rows).map byteV) false (some 1)) [(1, .own 1)] 3 := by
  refine PureOk.of_body Tryz.func5 rfl fun w0 F => vcC_ok _ _ _ ?_
  refine And.intro rfl ?_
  refine LW.nilTok 3 1 rfl ?_
  refine LW.keepInd [3, 6, 7, 8] [1] (fun i => rows.length - i) (joinSt rows w0 F) (fun i => i ≤ rows.length) 0 rfl rfl ⟨_, _, rfl⟩ (fun m hm => by cases hm) (by simp [joinSt, joinL]; rfl) (Nat.zero_le _) ?_
  intro N i hi hb
  refine val_bool (p := (i:Int) < (rows.length:Int)) (q := i < rows.length) rfl (by omega) (And.intro (fun h => ?_) (fun h => ?_))
  · have h : i < rows.length := of_decide_eq_true h
    have hr : rows[i]? = some rows[i] := List.getElem?_eq_getElem h
    have hjl : (joinL (rows.take i)).length + ((putL rows[i].length).length + rows[i].length) ≤ (joinL rows).length := by
      have h1 := joinL_take hr
      have h2 := joinL_le (rows := rows) (i + 1)
      rw [h1] at h2; simpa using h2
    refine Exists.intro (rowV rows[i]) (And.intro (by omega) (And.intro (by simp [hr]) (And.intro rfl ?_)))
    refine And.intro rfl ?_
    refine val_int rfl (b := ((rows[i].length : Nat) : Int)) ?_ ?_
    · rw [List.length_map]; exact u64_of _ (by omega)
    refine call_pure (put_ok ((joinL (rows.take i)).map byteV) false rows[i].length (by omega) ?_ ?_) rfl rfl rfl ?_
    · intro e he; obtain ⟨b, _, rfl⟩ := List.mem_map.1 he; rfl
    · simp; omega
    have hall : ∀ e, ((joinL (rows.take i)).map byteV ++ (putL rows[i].length).map byteV).head? = some e → e.cells.length = 1 := fun e he => by
      rw [← List.map_append] at he
      obtain ⟨b, _, rfl⟩ := List.mem_map.1 (List.mem_of_mem_head? he); rfl
    have hall2 : ∀ e, (rows[i].map byteV).head? = some e → e.cells.length = 1 := fun e he => by
      obtain ⟨b, _, rfl⟩ := List.mem_map.1 (List.mem_of_mem_head? he); rfl
    have hlen : ((joinL (rows.take i)).map byteV ++ (putL rows[i].length).map byteV).length + (rows[i].map byteV).length ≤ 549755813888 := by simp; omega
    refine And.intro ⟨rfl, rfl, hall, hall2, le_trans1 hlen, le_trans2 hlen⟩ ?_
    refine val_int rfl (b := ((i + 1 : Nat) : Int)) (i64_of (i + 1) (by omega)) ?_
    refine hb (i + 1) _ [3, 6, 7, 8] [6] rfl rfl ⟨_, _, rfl⟩ (fun m hm => by cases hm) ?_ (by omega) (by omega)
    have he : (joinL (rows.take (i + 1))).map byteV = ((joinL (rows.take i)).map byteV ++ (putL rows[i].length).map byteV) ++ rows[i].map byteV := by
      rw [joinL_take hr]; simp
    conv => rhs; rw [joinSt, he]
    rfl
  · have h : ¬ i < rows.length := of_decide_eq_false h
    have hi : i = rows.length := by have := hi; omega
    subst hi
    rw [show joinL rows = joinL (rows.take rows.length) by rw [List.take_length]]
    exact Ends.plain [1] (.inr rfl) rfl rfl rfl (Soft.refl _) rfl rfl
end Go.Proofs.YtnfciikhdcnhbaaGreatDoor
