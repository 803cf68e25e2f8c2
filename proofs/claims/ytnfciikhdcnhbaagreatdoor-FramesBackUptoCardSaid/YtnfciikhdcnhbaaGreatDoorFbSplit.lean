import Derived.Test.YtnfciikhdcnhbaaGreatDoorFbRead
namespace Go.Proofs.YtnfciikhdcnhbaaGreatDoor
open Go Go.Px
set_option linter.unusedVariables false

set_option maxRecDepth 100000 in
set_option maxHeartbeats 400000 in
theorem frames_ok (es : List V) (nn : Bool) : PureOk Tryz.prog 12 [.sl es nn none] (.fn (.func 18) [] [.ptr 1 0]) [(1, .box [.sl es nn none])] 3 := by
  refine PureOk.of_body Tryz.func12 rfl fun w0 F => vcC_ok _ _ _ ?_
  exact Ends.plain [1] (.inr rfl) rfl rfl rfl (Soft.refl _) rfl rfl

def rowT (r : List Nat) : V := .sl (r.map byteV) true none

def posL (rows : List (List Nat)) (i : Nat) : Nat := (joinL (rows.take i)).length

def splitTm (data : List V) (nn : Bool) : List V :=
  [.sl data nn none, .any, .ptr 1 0, .ptr 2 0, .ptr 3 0, .ptr 4 0, .any, .any, .sl data nn none, .fn (.func 18) [] [.ptr 6 0]] ++ List.replicate 17 .any

theorem rows_le : ∀ rows : List (List Nat), rows.length ≤ (joinL rows).length
  | [] => Nat.zero_le _
  | r :: rs => by
    have h1 := rows_le rs
    have h2 : 0 < (putL r.length).length := by unfold putL; split <;> simp
    simp only [joinL, List.flatMap_cons, List.length_cons, List.length_append] at h1 ⊢
    omega

def splitA (rows : List (List Nat)) (nn : Bool) (w0 : World) (F : Nat → Nat → Prop) (own : FuncId) (ac bd : Code) : St :=
  { tmps := [.yld 9, .ptr 6 0, .any, .raw (.int .i64 (posL rows 0 : Int)), .raw (.int .i64 (0 : Int))] ++ List.replicate 58 .any,
    h := [(1, .box [.raw (.slice none 0 0)]), (2, .box [.raw (.int .i64 0)]), (3, .box [.raw (.int .u8 0)]), (4, .box [.raw (.slice none 0 0)]), (5, .dead), (6, .box [.sl ((joinL rows).map byteV) nn none]), (7, .dead), (8, .dfr),
          (9, .loop own (splitTm ((joinL rows).map byteV) nn) [10, 11] ac bd false false none 8), (0, .fr w0 F)],
    n := 11, marks := [] }

def splitB (rows : List (List Nat)) (nn : Bool) (w0 : World) (F : Nat → Nat → Prop) (own : FuncId) (ac bd : Code) (i : Nat) (L : List V) : St :=
  { tmps := [.yld 9, .ptr 6 0, .any, .raw (.int .i64 (posL rows i : Int)), .raw (.int .i64 (i : Int))] ++ List.replicate 58 .any,
    h := [(1, .box [.raw (.slice none 0 0)]), (2, .box [.raw (.int .i64 0)]), (3, .box [.raw (.int .u8 0)]), (4, .box [.sl L false (some 10)]), (5, .dead), (6, .box [.sl ((joinL rows).map byteV) nn none]), (7, .dead), (8, .dfr),
          (9, .loop own (splitTm ((joinL rows).map byteV) nn) [10, 11] ac bd false false none 8), (10, .own 1), (0, .fr w0 F)],
    n := 12, marks := [] }

def splitSt (rows : List (List Nat)) (nn : Bool) (w0 : World) (F : Nat → Nat → Prop) (own : FuncId) (ac bd : Code) : Nat → St
  | 0 => splitA rows nn w0 F own ac bd
  | i + 1 => splitB rows nn w0 F own ac bd (i + 1) ((rows.take (i + 1)).map rowT)

theorem posL_succ {rows : List (List Nat)} {i : Nat} {r : List Nat} (h : rows[i]? = some r) : posL rows (i + 1) = posL rows i + (putL r.length).length + r.length := by
  rw [posL, posL, joinL_take h]; simp; omega

theorem putL_pos (n : Nat) : 0 < (putL n).length := by unfold putL; split <;> simp

theorem joinL_at {rows : List (List Nat)} {i : Nat} {r : List Nat} (h : rows[i]? = some r) : ∃ rest, (joinL rows).drop (posL rows i) = putL r.length ++ (r ++ rest) := by
  have h1 : joinL rows = joinL (rows.take (i + 1)) ++ joinL (rows.drop (i + 1)) := by
    conv => lhs; rw [← List.take_append_drop (i + 1) rows]
    rw [joinL, List.flatMap_append]; rfl
  refine ⟨joinL (rows.drop (i + 1)), ?_⟩
  rw [h1, joinL_take h, posL, List.append_assoc, List.drop_left, List.append_assoc]

theorem boundV_nat (n : Nat) : (if (n : Int) < 0 then none else some (n : Int).toNat : Option Nat) = some n := by
  rw [if_neg (by omega)]; simp

theorem posL_le {rows : List (List Nat)} (i : Nat) : posL rows i ≤ (joinL rows).length := joinL_le i

set_option maxRecDepth 100000 in
set_option maxHeartbeats 1600000 in
theorem split_ok (rows : List (List Nat)) (nn : Bool) (hj : (joinL rows).length < 16384) (hne : rows ≠ []) :
    PureOk Tryz.prog 6 [.sl ((joinL rows).map byteV) nn none] (.tup [.sl (rows.map rowT) false (some 1), .raw (.int .i64 0), .raw (.int .u8 0)]) [(1, .own 1)] 3 := by
  refine PureOk.of_bodyM Tryz.func6 rfl fun w0 F => vcC_ok _ _ _ ?_
  refine call_pure (frames_ok _ nn) rfl rfl rfl ?_
  refine And.intro rfl fun own => CallOk.of_bodyM (Tryz.func18) rfl (vcC_ok _ _ _ ?_)
  refine LW.keepInd [0, 1, 3, 4] [1, 2, 3, 4, 5, 6, 7, 8, 9] (fun i => rows.length - i) (splitSt rows nn w0 F own _ _) (fun i => i ≤ rows.length) 0 rfl rfl ⟨_, _, rfl⟩ (fun m hm => by cases hm) rfl (Nat.zero_le _) ?_
  intro N i hi hb
  have hpos := posL_le (rows := rows) i
  have hrows := rows_le rows
  have hcmp : ((posL rows i : Int) < (((joinL rows).map byteV).length : Int)) ↔ i < rows.length := by
    rw [List.length_map]
    constructor
    · intro h
      rcases Nat.lt_or_ge i rows.length with h1 | h1
      · exact h1
      · have : rows.take i = rows := List.take_of_length_le h1
        rw [posL, this] at h; omega
    · intro h
      have h1 := posL_succ (List.getElem?_eq_getElem h)
      have h2 := posL_le (rows := rows) (i + 1)
      have h3 := putL_pos rows[i].length
      omega
  by_cases hlt : i < rows.length
  · obtain ⟨r, hr⟩ : ∃ r, rows[i]? = some r := ⟨_, List.getElem?_eq_getElem hlt⟩
    have hps := posL_succ hr
    have hps2 := posL_le (rows := rows) (i + 1)
    have hpp := putL_pos r.length
    obtain ⟨rest, hrest⟩ := joinL_at hr
    have hrl : r.length < 16384 := by omega
    have hd1 : (((joinL rows).map byteV).take ((joinL rows).map byteV).length).drop (posL rows i) = (putL r.length).map byteV ++ (r ++ rest).map byteV := by
      rw [List.take_length, ← List.map_drop, hrest, List.map_append]
    have hd2 : (((joinL rows).map byteV).take (posL rows (i + 1))).drop (posL rows i + (putL r.length).length) = r.map byteV := by
      rw [← List.map_take, ← List.map_drop]
      congr 1
      rw [List.drop_take, ← List.drop_drop, hrest, List.drop_left, show posL rows (i + 1) - (posL rows i + (putL r.length).length) = r.length by omega, List.take_left]
    have hlr : (r ++ rest).length ≤ 16384 := by
      have := congrArg List.length hrest
      simp only [List.length_drop, List.length_append] at this ⊢
      omega
    have hby : ∀ e, ((joinL rows).map byteV).head? = some e → e.cells.length = 1 := fun e he => by
      obtain ⟨b, _, rfl⟩ := List.mem_map.1 (List.mem_of_mem_head? he); rfl
    have hT : (((joinL rows).map byteV).length : Int) = ((joinL rows).length : Int) := by rw [List.length_map]
    have hdec : decide ((posL rows i : Int) < (((joinL rows).map byteV).length : Int)) = true := decide_eq_true (hcmp.2 hlt)
    have hread := read_ok r.length ((r ++ rest).map byteV) hrl nn (by simp only [List.length_map]; omega)
    rw [← hd1] at hread
    have htk : (rows.take (i + 1)).map rowT = (rows.take i).map rowT ++ [V.sl ([] ++ r.map byteV) true none] := by
      rw [List.take_add_one, hr]; simp [rowT]
    cases i with
    | zero =>
      have htk : [V.sl ([] ++ r.map byteV) true none] = (rows.take (0 + 1)).map rowT := by rw [htk]; rfl
      refine And.intro rfl ?_
      refine Exists.intro (.bool true) (And.intro (congrArg (fun b => some (Value.bool b)) hdec) ?_)
      refine And.intro (fun _ => ?_) (fun h => by cases h)
      refine Exists.intro (posL rows 0) (Exists.intro ((joinL rows).map byteV).length ?_)
      refine And.intro rfl (And.intro ?_ (And.intro rfl (And.intro ?_ (And.intro (Nat.le_refl _) (And.intro ?_ ?_)))))
      · exact boundV_nat (posL rows 0)
      · rw [List.length_map]; exact hpos
      · intro e he; rw [hby e he]; rfl
      refine call_pure hread rfl rfl rfl ?_
      refine Exists.intro (.bool true) (And.intro rfl ?_)
      refine And.intro (fun _ => ?_) (fun h => by cases h)
      refine And.intro rfl ?_
      refine val_int rfl (b := (((joinL rows).length - posL rows 0 : Nat) : Int)) (by rw [hT]; rw [IntWalk.i64_in _ ⟨by omega, by omega⟩]; omega) ?_
      refine val_int rfl (b := (((joinL rows).length - posL rows 0 - (putL r.length).length : Nat) : Int)) (by rw [IntWalk.i64_in _ ⟨by omega, by omega⟩]; omega) ?_
      refine val_int rfl (u64_of _ (by omega)) ?_
      refine val_bool (p := (((joinL rows).length - posL rows 0 - (putL r.length).length : Nat) : Int) < (r.length : Int)) (q := False) rfl (by simp; omega) ?_
      refine And.intro (fun h => by simp at h) (fun _ => ?_)
      refine Exists.intro (.bool false) (And.intro rfl ?_)
      refine And.intro (fun h => by cases h) (fun _ => ?_)
      refine val_int rfl (b := ((posL rows 0 + (putL r.length).length : Nat) : Int)) (by rw [IntWalk.i64_in _ ⟨by omega, by omega⟩]; omega) ?_
      refine val_int rfl (i64_of r.length (by omega)) ?_
      refine val_int rfl (b := ((posL rows (0 + 1) : Nat) : Int)) (by rw [IntWalk.i64_in _ ⟨by omega, by omega⟩]; omega) ?_
      refine val_int rfl (b := ((posL rows 0 + (putL r.length).length : Nat) : Int)) (by rw [IntWalk.i64_in _ ⟨by omega, by omega⟩]; omega) ?_
      refine Exists.intro (posL rows 0 + (putL r.length).length) (Exists.intro (posL rows (0 + 1)) ?_)
      refine And.intro rfl (And.intro rfl (And.intro rfl (And.intro (by omega) (And.intro (by rw [List.length_map]; exact hps2) (And.intro ?_ ?_)))))
      · intro e he; rw [hby e he]; rfl
      rw [hd2]
      refine And.intro ⟨rfl, rfl, rfl⟩ (vcC_ok _ _ _ ?_)
      refine And.intro rfl ?_
      refine And.intro rfl (And.intro rfl (vcC_ok _ _ _ ?_))
      refine Exists.intro (.bool false) (And.intro rfl ?_)
      refine And.intro (fun h => by cases h) (fun _ => ?_)
      have hrow : ∀ e, (r.map byteV).head? = some e → e.cells.length = 1 := fun e he => by
        obtain ⟨b, _, rfl⟩ := List.mem_map.1 (List.mem_of_mem_head? he); rfl
      have hrb1 : (0 + (r.map byteV).length) * 1 ≤ 140737488355328 := by rw [List.length_map]; omega
      have hrb2 : 0 + (r.map byteV).length ≤ 140737488355328 := by rw [List.length_map]; omega
      refine And.intro ?_ (And.intro ?_ (And.intro ?_ (And.intro ?_ (And.intro ?_ (And.intro ?_ (And.intro ?_ (And.intro ?_ (And.intro ?_ (And.intro ?_ (And.intro ?_ (And.intro ?_ (And.intro ?_ (And.intro ?_ (And.intro ?_ (And.intro ?_ (And.intro ?_ (?_)))))))))))))))))
      all_goals
        refine And.intro ⟨rfl, rfl, .inl rfl, by decide⟩ ?_
        refine And.intro ⟨rfl, rfl, (fun e he => by cases he), hrow, hrb1, hrb2⟩ ?_
        refine And.intro ⟨rfl, rfl, .inr rfl, by decide⟩ ?_
        refine And.intro ⟨rfl, (fun e he => by cases he; rfl), by show 1 * 24 ≤ 140737488355328; decide, by show 1 ≤ 140737488355328; decide⟩ ?_
        refine And.intro rfl ?_
        refine And.intro rfl (And.intro rfl ?_)
        refine Exists.intro (.bool false) (And.intro rfl ?_)
        refine And.intro (fun h => by cases h) (fun _ => ?_)
        refine val_int rfl (i64_of (0 + 1) (by omega)) ?_
        refine hb (0 + 1) _ [0, 1, 3, 4] [1, 2, 3, 4, 5, 6, 7, 8, 9, 18] rfl rfl ⟨_, _, rfl⟩ (fun m hm => by cases hm) ?_ (by omega) (by omega)
        exact Eq.trans (b := splitB rows nn w0 F own _ _ 1 [V.sl ([] ++ r.map byteV) true none]) rfl (congrArg (splitB rows nn w0 F own _ _ 1) htk)
    | succ i =>
      have hheads : ∀ e, ((rows.take (i + 1)).map rowT).head? = some e → e.cells.length = 1 := fun e he => by
        obtain ⟨b, _, rfl⟩ := List.mem_map.1 (List.mem_of_mem_head? he); rfl
      have hll : ((rows.take (i + 1)).map rowT).length ≤ rows.length := by rw [List.length_map, List.length_take]; exact Nat.min_le_right _ _
      have hb1 : (((rows.take (i + 1)).map rowT).length + 1) * 24 ≤ 140737488355328 := by omega
      have hb2 : ((rows.take (i + 1)).map rowT).length + 1 ≤ 140737488355328 := by omega
      have htk := htk.symm
      refine And.intro rfl ?_
      refine Exists.intro (.bool true) (And.intro (congrArg (fun b => some (Value.bool b)) hdec) ?_)
      refine And.intro (fun _ => ?_) (fun h => by cases h)
      refine Exists.intro (posL rows (i + 1)) (Exists.intro ((joinL rows).map byteV).length ?_)
      refine And.intro rfl (And.intro ?_ (And.intro rfl (And.intro ?_ (And.intro (Nat.le_refl _) (And.intro ?_ ?_)))))
      · exact boundV_nat (posL rows (i + 1))
      · rw [List.length_map]; exact hpos
      · intro e he; rw [hby e he]; rfl
      refine call_pure hread rfl rfl rfl ?_
      refine Exists.intro (.bool true) (And.intro rfl ?_)
      refine And.intro (fun _ => ?_) (fun h => by cases h)
      refine And.intro rfl ?_
      refine val_int rfl (b := (((joinL rows).length - posL rows (i + 1) : Nat) : Int)) (by rw [hT]; rw [IntWalk.i64_in _ ⟨by omega, by omega⟩]; omega) ?_
      refine val_int rfl (b := (((joinL rows).length - posL rows (i + 1) - (putL r.length).length : Nat) : Int)) (by rw [IntWalk.i64_in _ ⟨by omega, by omega⟩]; omega) ?_
      refine val_int rfl (u64_of _ (by omega)) ?_
      refine val_bool (p := (((joinL rows).length - posL rows (i + 1) - (putL r.length).length : Nat) : Int) < (r.length : Int)) (q := False) rfl (by simp; omega) ?_
      refine And.intro (fun h => by simp at h) (fun _ => ?_)
      refine Exists.intro (.bool false) (And.intro rfl ?_)
      refine And.intro (fun h => by cases h) (fun _ => ?_)
      refine val_int rfl (b := ((posL rows (i + 1) + (putL r.length).length : Nat) : Int)) (by rw [IntWalk.i64_in _ ⟨by omega, by omega⟩]; omega) ?_
      refine val_int rfl (i64_of r.length (by omega)) ?_
      refine val_int rfl (b := ((posL rows ((i + 1) + 1) : Nat) : Int)) (by rw [IntWalk.i64_in _ ⟨by omega, by omega⟩]; omega) ?_
      refine val_int rfl (b := ((posL rows (i + 1) + (putL r.length).length : Nat) : Int)) (by rw [IntWalk.i64_in _ ⟨by omega, by omega⟩]; omega) ?_
      refine Exists.intro (posL rows (i + 1) + (putL r.length).length) (Exists.intro (posL rows ((i + 1) + 1)) ?_)
      refine And.intro rfl (And.intro rfl (And.intro rfl (And.intro (by omega) (And.intro (by rw [List.length_map]; exact hps2) (And.intro ?_ ?_)))))
      · intro e he; rw [hby e he]; rfl
      rw [hd2]
      refine And.intro ⟨rfl, rfl, rfl⟩ (vcC_ok _ _ _ ?_)
      refine And.intro rfl ?_
      refine And.intro rfl (And.intro rfl (vcC_ok _ _ _ ?_))
      refine Exists.intro (.bool false) (And.intro rfl ?_)
      refine And.intro (fun h => by cases h) (fun _ => ?_)
      have hrow : ∀ e, (r.map byteV).head? = some e → e.cells.length = 1 := fun e he => by
        obtain ⟨b, _, rfl⟩ := List.mem_map.1 (List.mem_of_mem_head? he); rfl
      have hrb1 : (0 + (r.map byteV).length) * 1 ≤ 140737488355328 := by rw [List.length_map]; omega
      have hrb2 : 0 + (r.map byteV).length ≤ 140737488355328 := by rw [List.length_map]; omega
      refine And.intro ?_ (And.intro ?_ (And.intro ?_ (And.intro ?_ (And.intro ?_ (And.intro ?_ (And.intro ?_ (And.intro ?_ (And.intro ?_ (And.intro ?_ (And.intro ?_ (And.intro ?_ (And.intro ?_ (And.intro ?_ (And.intro ?_ (And.intro ?_ (And.intro ?_ (?_)))))))))))))))))
      all_goals
        refine And.intro ⟨rfl, rfl, .inl rfl, by decide⟩ ?_
        refine And.intro ⟨rfl, rfl, (fun e he => by cases he), hrow, hrb1, hrb2⟩ ?_
        refine And.intro ⟨rfl, rfl, .inr rfl, by decide⟩ ?_
        refine And.intro ⟨rfl, rfl, hheads, (fun e he => by cases he; rfl), hb1, hb2⟩ ?_
        refine And.intro rfl ?_
        refine And.intro rfl (And.intro rfl ?_)
        refine Exists.intro (.bool false) (And.intro rfl ?_)
        refine And.intro (fun h => by cases h) (fun _ => ?_)
        refine val_int rfl (i64_of ((i + 1) + 1) (by omega)) ?_
        refine hb ((i + 1) + 1) _ [0, 1, 3, 4] [1, 2, 3, 4, 5, 6, 7, 8, 9, 18] rfl rfl ⟨_, _, rfl⟩ (fun m hm => by cases hm) ?_ (by omega) (by omega)
        exact Eq.trans (b := splitB rows nn w0 F own _ _ (i + 1 + 1) ((rows.take (i + 1)).map rowT ++ [V.sl ([] ++ r.map byteV) true none])) rfl (congrArg (splitB rows nn w0 F own _ _ (i + 1 + 1)) htk)
  · have hall : i = rows.length := by have := hi; omega
    cases i with
    | zero => exact absurd (List.eq_nil_of_length_eq_zero hall.symm) hne
    | succ i =>
      have hB : ∀ ac bd, splitSt rows nn w0 F own ac bd (i + 1) = splitB rows nn w0 F own ac bd (i + 1) (rows.map rowT) := fun ac bd => by
        show splitB _ _ _ _ _ _ _ _ _ = _
        rw [hall, List.take_length]
      rw [hB]
      have hdec : decide ((posL rows (i + 1) : Int) < (((joinL rows).map byteV).length : Int)) = false := decide_eq_false (fun h => hlt (hcmp.1 h))
      refine And.intro rfl ?_
      refine Exists.intro (.bool false) (And.intro (congrArg (fun b => some (Value.bool b)) hdec) ?_)
      refine And.intro (fun h => by cases h) (fun _ => ?_)
      refine ⟨.inl rfl, rfl, _, rfl, false, none, .normal, rfl, rfl, ?_⟩
      refine And.intro rfl (And.intro rfl (And.intro rfl ?_))
      exact ⟨rfl, Ends.plain [10] (.inr rfl) rfl rfl rfl (Soft.refl _) rfl rfl⟩
end Go.Proofs.YtnfciikhdcnhbaaGreatDoor
