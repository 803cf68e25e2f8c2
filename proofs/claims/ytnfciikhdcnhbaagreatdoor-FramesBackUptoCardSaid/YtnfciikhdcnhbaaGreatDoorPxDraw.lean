import Derived.Test.YtnfciikhdcnhbaaGreatDoorPxVc
namespace Go.Px
open Go
set_option linter.unusedVariables false

/-! ### All orders in which a region's operations may run. -/

def free (m : Region.Mode) (ops : Array Oper) (acc : List Nat) (i : Nat) : Bool :=
  !acc.contains i && (match ops[i]? with
    | some o => o.after.toList.all fun e => !Region.binds m e || acc.contains e.on
    | none => false)

def exts (m : Region.Mode) (ops : Array Oper) : List (List Nat) := go ops.size []
  where go : Nat → List Nat → List (List Nat)
  | 0, acc => [acc.reverse]
  | fuel + 1, acc => match (List.range ops.size).filter (free m ops acc) with
    | [] => [acc.reverse]
    | i :: r => (i :: r).flatMap fun i => go fuel (i :: acc)

structure Listed (n : Nat) (listed : Array Bool) (acc : List Nat) : Prop where
  size : listed.size = n
  mem : ∀ i, i < n → listed[i]? = some (acc.contains i)
  lt : ∀ i ∈ acc, i < n

theorem Listed.start (n : Nat) : Listed n (Array.replicate n false) [] :=
  ⟨by simp, fun i hi => by simp [hi], fun i h => by cases h⟩

theorem Listed.step {n : Nat} {listed : Array Bool} {acc : List Nat} (h : Listed n listed acc) {i : Nat} (hi : i < n) : Listed n (listed.setIfInBounds i true) (i :: acc) := by
  refine ⟨by simp [h.size], fun j hj => ?_, fun j hj => ?_⟩
  · rw [Array.getElem?_setIfInBounds]
    by_cases hij : i = j
    · subst hij
      rw [if_pos rfl, if_pos (by rw [h.size]; exact hi)]
      simp
    · rw [if_neg hij, h.mem j hj]
      simp [Ne.symm hij]
  · rcases List.mem_cons.1 hj with rfl | hj
    · exact hi
    · exact h.lt j hj

theorem Listed.free {m : Region.Mode} {ops : Array Oper} {listed : Array Bool} {acc : List Nat} (h : Listed ops.size listed acc) {i : Nat} (hi : i < ops.size) :
    (!listed.getD i true && ((ops[i]?).map (·.after.all fun e => !Region.binds m e || listed.getD e.on false)).getD false) = free m ops acc i := by
  have h1 : listed.getD i true = acc.contains i := by simp [Array.getD_eq_getD_getElem?, h.mem i hi]
  have h2 : ∀ j, listed.getD j false = acc.contains j := fun j => by
    by_cases hj : j < ops.size
    · simp [Array.getD_eq_getD_getElem?, h.mem j hj]
    · have : acc.contains j = false := by
        simp only [List.contains_eq_mem, decide_eq_false_iff_not]
        exact fun hm => hj (h.lt j hm)
      rw [this, Array.getD_eq_getD_getElem?, Array.getElem?_eq_none (by rw [h.size]; omega)]
      rfl
  unfold Px.free
  rw [h1]
  cases hoi : ops[i]? with
  | none => simp
  | some o =>
    simp only [Option.map_some, Option.getD_some, h2]
    congr 1
    rw [← Array.all_toList]

theorem linearise_mem {m : Region.Mode} {ops : Array Oper} : ∀ (fuel t : Nat) (listed : Array Bool) (acc : List Nat), Listed ops.size listed acc → Region.linearise.go m ops fuel t listed acc ∈ exts.go m ops fuel acc
  | 0, t, listed, acc, h => by simp [Region.linearise.go, exts.go]
  | fuel + 1, t, listed, acc, h => by
    have hf : ((List.range ops.size).filter fun i => !listed.getD i true && ((ops[i]?).map (·.after.all fun e => !Region.binds m e || listed.getD e.on false)).getD false) = (List.range ops.size).filter (Px.free m ops acc) := by
      apply List.filter_congr
      intro i hi
      exact h.free (List.mem_range.1 hi)
    simp only [Region.linearise.go, exts.go]
    rw [hf]
    cases hr : (List.range ops.size).filter (Px.free m ops acc) with
    | nil => simp
    | cons a r =>
      simp only
      have hlt : t % (a :: r).length < (a :: r).length := Nat.mod_lt _ (by simp)
      rw [List.getElem?_eq_getElem hlt]
      simp only
      have hmem : (a :: r)[t % (a :: r).length] ∈ a :: r := List.getElem_mem hlt
      have hin : (a :: r)[t % (a :: r).length] < ops.size := by
        have : (a :: r)[t % (a :: r).length] ∈ (List.range ops.size).filter (Px.free m ops acc) := by rw [hr]; exact hmem
        exact List.mem_range.1 (List.mem_filter.1 this).1
      exact List.mem_flatMap.2 ⟨_, hmem, linearise_mem fuel _ _ _ (h.step hin)⟩

def allP : List (List Nat) → (List Nat → Prop) → Prop
  | [], _ => True
  | [l], p => p l
  | l :: r, p => p l ∧ allP r p

theorem allP_mem : ∀ {L : List (List Nat)} {p : List Nat → Prop}, allP L p → ∀ l ∈ L, p l
  | [], p, h, l, hl => by cases hl
  | [a], p, h, l, hl => by simp only [List.mem_singleton] at hl; subst hl; exact h
  | a :: b :: r, p, h, l, hl => by
    rcases List.mem_cons.1 hl with rfl | hl
    · exact h.1
    · exact allP_mem (L := b :: r) h.2 l hl

/-- What is asked of a region whose order is drawn. -/
def vcDraw (P : Program) (ops : Array Oper) (p : List Nat → Prop) : Prop :=
  match P.follows .mixedOrders || !Region.departs ops with
  | true => allP (exts .any ops) p
  | false => allP (exts .text ops) p ∧ allP (exts .gc ops) p

theorem vcDraw_ok {P : Program} {ops : Array Oper} {p : List Nat → Prop} (h : vcDraw P ops p) : ∀ t, p (Region.schedule (P.follows .mixedOrders) ops t) := by
  intro t
  unfold vcDraw at h
  unfold Region.schedule
  have lin : ∀ m t, Region.linearise m ops t ∈ exts m ops := fun m t => linearise_mem _ _ _ _ (Listed.start _)
  split at h
  · rename_i hb
    rw [if_pos hb]
    exact allP_mem h _ (lin _ _)
  · rename_i hb
    rw [if_neg (by rw [hb]; decide)]
    split
    · exact allP_mem h.1 _ (lin _ _)
    · exact allP_mem h.2 _ (lin _ _)
end Go.Px
