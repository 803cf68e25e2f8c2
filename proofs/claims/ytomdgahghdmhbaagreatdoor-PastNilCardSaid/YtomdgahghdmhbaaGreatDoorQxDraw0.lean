import GoSem.Core.Region
namespace Go.Qx
open Go
set_option linter.unusedVariables false

/-! ### The orders in which a region's operations may run. -/

def predsIn (m : Region.Mode) (ops : Array Oper) (acc : List Nat) (i : Nat) : Bool :=
  match ops[i]? with
  | some o => o.after.toList.all fun e => !Region.binds m e || acc.contains e.on
  | none => false

def free (m : Region.Mode) (ops : Array Oper) (acc : List Nat) (i : Nat) : Bool := !acc.contains i && predsIn m ops acc i

def Ord (m : Region.Mode) (ops : Array Oper) : List Nat → List Nat → Prop
  | acc, [] => ∀ i, i < ops.size → free m ops acc i = false
  | acc, i :: rest => i < ops.size ∧ free m ops acc i = true ∧ Ord m ops (i :: acc) rest

structure Listed (n : Nat) (listed : Array Bool) (acc : List Nat) : Prop where
  size : listed.size = n
  mem : ∀ i, i < n → listed[i]? = some (acc.contains i)
  lt : ∀ i ∈ acc, i < n

theorem Listed.start (n : Nat) : Listed n (Array.replicate n false) [] :=
  ⟨by simp, fun i hi => by simp [hi], fun i h => by cases h⟩

theorem Listed.step {n : Nat} {listed : Array Bool} {acc : List Nat} (h : Listed n listed acc) {i : Nat} (hi : i < n) : Listed n (listed.setIfInBounds i true) (i :: acc) := by
  refine ⟨by simp [h.size], fun j hj => ?_, fun j hj => ?_⟩
  · rw [Array.getElem?_setIfInBounds]
    by_cases hij : i = j
    · subst hij
      rw [if_pos rfl, if_pos (by rw [h.size]; exact hi)]
      simp
    · rw [if_neg hij, h.mem j hj]
      simp [Ne.symm hij]
  · rcases List.mem_cons.1 hj with rfl | hj
    · exact hi
    · exact h.lt j hj

theorem Listed.free {m : Region.Mode} {ops : Array Oper} {listed : Array Bool} {acc : List Nat} (h : Listed ops.size listed acc) {i : Nat} (hi : i < ops.size) :
    (!listed.getD i true && ((ops[i]?).map (·.after.all fun e => !Region.binds m e || listed.getD e.on false)).getD false) = free m ops acc i := by
  have h1 : listed.getD i true = acc.contains i := by simp [Array.getD_eq_getD_getElem?, h.mem i hi]
  have h2 : ∀ j, listed.getD j false = acc.contains j := fun j => by
    by_cases hj : j < ops.size
    · simp [Array.getD_eq_getD_getElem?, h.mem j hj]
    · have : acc.contains j = false := by
        simp only [List.contains_eq_mem, decide_eq_false_iff_not]
        exact fun hm => hj (h.lt j hm)
      rw [this, Array.getD_eq_getD_getElem?, Array.getElem?_eq_none (by rw [h.size]; omega)]
      rfl
  unfold Qx.free predsIn
  rw [h1]
  cases hoi : ops[i]? with
  | none => simp
  | some o =>
    simp only [Option.map_some, Option.getD_some, h2]
    congr 1
    rw [← Array.all_toList]

/-- What is left to list. -/
def left (n : Nat) (acc : List Nat) : List Nat := (List.range n).filter fun i => !acc.contains i

theorem left_step {n i : Nat} {acc : List Nat} (h : i ∈ left n acc) : (left n (i :: acc)).length + 1 = (left n acc).length := by
  have he : left n (i :: acc) = (left n acc).erase i := by
    have hnd : (left n acc).Nodup := List.Pairwise.filter _ List.nodup_range
    rw [List.Nodup.erase_eq_filter hnd]
    unfold left
    rw [List.filter_filter]
    apply List.filter_congr
    intro j hj
    rw [Bool.eq_iff_iff]
    simp
  rw [he, List.length_erase_of_mem h]
  have := List.length_pos_of_mem h
  omega

theorem linearise_ord {m : Region.Mode} {ops : Array Oper} : ∀ (fuel t : Nat) (listed : Array Bool) (acc : List Nat), Listed ops.size listed acc → (left ops.size acc).length = fuel →
    ∃ rest, Region.linearise.go m ops fuel t listed acc = acc.reverse ++ rest ∧ Ord m ops acc rest
  | 0, t, listed, acc, h, hl => by
    refine ⟨[], by simp [Region.linearise.go], fun i hi => ?_⟩
    have : left ops.size acc = [] := List.eq_nil_of_length_eq_zero hl
    have hn : i ∉ left ops.size acc := by rw [this]; simp
    simp only [left, List.mem_filter, List.mem_range, not_and, Bool.not_eq_true, Bool.not_eq_false'] at hn
    simp only [free, hn hi, Bool.not_true, Bool.false_and]
  | fuel + 1, t, listed, acc, h, hl => by
    have hf : ((List.range ops.size).filter fun i => !listed.getD i true && ((ops[i]?).map (·.after.all fun e => !Region.binds m e || listed.getD e.on false)).getD false) = (List.range ops.size).filter (Qx.free m ops acc) := by
      apply List.filter_congr
      intro i hi
      exact h.free (List.mem_range.1 hi)
    simp only [Region.linearise.go]
    rw [hf]
    cases hr : (List.range ops.size).filter (Qx.free m ops acc) with
    | nil =>
      refine ⟨[], by simp, fun i hi => ?_⟩
      have hn : i ∉ (List.range ops.size).filter (Qx.free m ops acc) := by rw [hr]; simp
      simp only [List.mem_filter, List.mem_range, not_and, Bool.not_eq_true] at hn
      exact hn hi
    | cons a r =>
      have hlt : t % (a :: r).length < (a :: r).length := Nat.mod_lt _ (by simp)
      rw [List.getElem?_eq_getElem hlt]
      simp only
      have hmem : (a :: r)[t % (a :: r).length] ∈ (List.range ops.size).filter (Qx.free m ops acc) := by rw [hr]; exact List.getElem_mem hlt
      generalize (a :: r)[t % (a :: r).length] = i at hmem
      have hin := List.mem_range.1 (List.mem_filter.1 hmem).1
      have hfr := (List.mem_filter.1 hmem).2
      have hleft : i ∈ left ops.size acc := by
        simp only [free, Bool.and_eq_true] at hfr
        exact List.mem_filter.2 ⟨List.mem_range.2 hin, hfr.1⟩
      obtain ⟨rest, h1, h2⟩ := linearise_ord fuel (t / (a :: r).length) (listed.setIfInBounds i true) (i :: acc) (h.step hin) (by have := left_step hleft; omega)
      exact ⟨i :: rest, by rw [h1]; simp, hin, hfr, h2⟩

def modes (mixed : Bool) (ops : Array Oper) : List Region.Mode := bif mixed || !Region.departs ops then [.any] else [.text, .gc]

theorem schedule_ord (mixed : Bool) (ops : Array Oper) (t : Nat) : ∃ m ∈ modes mixed ops, Ord m ops [] (Region.schedule mixed ops t) := by
  have lin : ∀ m t, Ord m ops [] (Region.linearise m ops t) := fun m t => by
    obtain ⟨rest, h1, h2⟩ := linearise_ord (m := m) (ops := ops) ops.size t (Array.replicate ops.size false) [] (Listed.start _) (by unfold left; rw [List.filter_eq_self.2 (by simp)]; simp)
    have : Region.linearise m ops t = rest := by unfold Region.linearise; rw [h1]; simp
    rw [this]; exact h2
  unfold modes Region.schedule
  cases hb : mixed || !Region.departs ops
  · simp only [cond_false, Bool.false_eq_true, if_false]
    split
    · exact ⟨.text, by simp, lin _ _⟩
    · exact ⟨.gc, by simp, lin _ _⟩
  · simp only [cond_true, if_true]
    exact ⟨.any, by simp, lin _ _⟩
end Go.Qx
