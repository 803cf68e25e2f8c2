import Derived.Test.YtomdgahghdmhbaaGreatDoorQxFrame
namespace Go.Qx
open Go
set_option linter.unusedVariables false

/-- The new number of an old place: places that are kept are 1, 2, ..; all others get one number that means none. -/
def rho (keep : List Nat) (id : Nat) : Nat := go keep 1
  where go : List Nat → Nat → Nat
  | [], i => i
  | k :: r, i => bif k == id then i else go r (i + 1)

def nth (keep : List Nat) (i : Nat) : Option Nat := keep[i]?

theorem rho_go {keep : List Nat} {id i : Nat} : (∃ j, keep[j]? = some id ∧ rho.go id keep i = i + j) ∨ (id ∉ keep ∧ rho.go id keep i = i + keep.length) := by
  induction keep generalizing i with
  | nil => right; simp [rho.go]
  | cons k r ih =>
    by_cases hk : k = id
    · left; exact ⟨0, by simp [hk], by simp [rho.go, hk]⟩
    · have hb : (k == id) = false := by simpa using hk
      rcases ih (i := i + 1) with ⟨j, h1, h2⟩ | ⟨h1, h2⟩
      · left; exact ⟨j + 1, by simpa using h1, by simp only [rho.go, hb, cond_false, h2]; omega⟩
      · right; refine ⟨by simp [Ne.symm hk, h1], ?_⟩
        simp only [rho.go, hb, cond_false, h2, List.length_cons]; omega

theorem rho_spec (keep : List Nat) (id : Nat) : (∃ j, keep[j]? = some id ∧ rho keep id = j + 1) ∨ (id ∉ keep ∧ rho keep id = keep.length + 1) := by
  rcases rho_go (keep := keep) (id := id) (i := 1) with ⟨j, h1, h2⟩ | ⟨h1, h2⟩
  · exact .inl ⟨j, h1, by rw [rho, h2]; omega⟩
  · exact .inr ⟨h1, by rw [rho, h2]; omega⟩

/-- The heap that is kept: the frame, and the places named, in their order. -/
def keepH (h : Heap) (keep : List Nat) : Heap := go keep 1
  where go : List Nat → Nat → Heap
  | [], _ => [(0, h.find 0)]
  | k :: r, i => (i, (h.find k).renf (rho keep)) :: go r (i + 1)

theorem keepH_go {h : Heap} {keep : List Nat} : ∀ (l : List Nat) (i id : Nat), 0 < i → Heap.find (keepH.go h keep l i) id =
    if id = 0 then h.find 0 else if i ≤ id then (match l[id - i]? with | some k => (h.find k).renf (rho keep) | none => .dead) else .dead
  | [], i, id, hi => by
    simp only [keepH.go]
    rw [Heap.find_new]
    by_cases h0 : id = 0
    · simp [h0]
    · rw [if_neg (Ne.symm h0), if_neg h0]; simp [Heap.find]
  | k :: r, i, id, hi => by
    simp only [keepH.go]
    rw [Heap.find_new, keepH_go r (i + 1) id (by omega)]
    by_cases h0 : id = 0
    · subst h0; rw [if_neg (by omega)]; simp
    · by_cases h1 : i = id
      · subst h1; rw [if_pos rfl, if_neg h0, if_pos (Nat.le_refl _), Nat.sub_self]; rfl
      · rw [if_neg h1, if_neg h0, if_neg h0]
        by_cases h2 : i + 1 ≤ id
        · rw [if_pos h2, if_pos (by omega), show id - i = (id - (i + 1)) + 1 by omega]; rfl
        · rw [if_neg h2, if_neg (by omega)]

theorem keepH_find {h : Heap} {keep : List Nat} (id : Nat) : Heap.find (keepH h keep) id =
    if id = 0 then h.find 0 else (match keep[id - 1]? with | some k => (h.find k).renf (rho keep) | none => .dead) := by
  rw [keepH, keepH_go keep 1 id (by omega)]
  by_cases h0 : id = 0
  · simp [h0]
  · rw [if_neg h0, if_neg h0, if_pos (by omega)]

def keepM (M : Mem) (keep : List Nat) : Mem := fun j => if j = 0 then M 0 else (match keep[j - 1]? with | some k => M k | none => none)

theorem keepM_zero (M : Mem) (keep : List Nat) : keepM M keep 0 = M 0 := rfl
theorem keepM_at {M : Mem} {keep : List Nat} {j k : Nat} (h : keep[j]? = some k) : keepM M keep (j + 1) = M k := by
  simp [keepM, h]
theorem keepM_inv {M : Mem} {keep : List Nat} {j : Nat} {p : Plc} (h : keepM M keep j = some p) : (j = 0 ∧ M 0 = some p) ∨ ∃ i k, j = i + 1 ∧ keep[i]? = some k ∧ M k = some p := by
  by_cases h0 : j = 0
  · subst h0; exact .inl ⟨rfl, h⟩
  · simp only [keepM, if_neg h0] at h
    split at h
    · rename_i k hk; exact .inr ⟨j - 1, k, by omega, hk, h⟩
    · cases h

theorem keepM_foot {M : Mem} {keep : List Nat} {b o : Nat} (h : foot (keepM M keep) b o) : foot M b o := by
  obtain ⟨j, p, hj, hf⟩ := h
  rcases keepM_inv hj with ⟨_, h1⟩ | ⟨i, k, _, _, h1⟩
  · exact ⟨0, p, h1, hf⟩
  · exact ⟨k, p, h1, hf⟩

theorem Rep.keep {w : World} {M : Mem} {n : Nat} {v : V} {x : Value} (h : Rep w M n v x) (keep : List Nat) : Rep w (keepM M keep) (keep.length + 2) (v.ren (rho keep)) x :=
  h.ren (rho keep) (fun b o hn hf => hn (keepM_foot hf)) fun id hid => by
    rcases rho_spec keep id with ⟨j, h1, h2⟩ | ⟨h1, h2⟩
    · have hj := (List.getElem?_eq_some_iff.1 h1).1
      exact ⟨by omega, fun p hp => by rw [h2, keepM_at h1] at hp; exact hp⟩
    · refine ⟨by omega, fun p hp => ?_⟩
      rw [h2] at hp
      rcases keepM_inv hp with ⟨h3, _⟩ | ⟨i, k, h3, h4, _⟩
      · omega
      · have := (List.getElem?_eq_some_iff.1 h4).1; omega

/-- Two places of the list are two places. -/
def distinct : List Nat → Bool
  | [] => true
  | k :: r => !(k == 0) && !r.contains k && distinct r

theorem distinct_inj {keep : List Nat} (hd : distinct keep = true) : (∀ k ∈ keep, k ≠ 0) ∧ ∀ i j k : Nat, keep[i]? = some k → keep[j]? = some k → i = j := by
  induction keep with
  | nil => exact ⟨(fun k h => by cases h), (fun i j k h => by simp at h)⟩
  | cons a r ih =>
    simp only [distinct, Bool.and_eq_true, Bool.not_eq_true', beq_eq_false_iff_ne, ne_eq] at hd
    obtain ⟨⟨h1, h2⟩, h3⟩ := hd
    obtain ⟨i1, i2⟩ := ih h3
    have hna : a ∉ r := by simpa using h2
    refine ⟨fun k hk => ?_, fun i j k hi hj => ?_⟩
    · rcases List.mem_cons.1 hk with rfl | hk
      · exact h1
      · exact i1 k hk
    · cases i with
      | zero =>
        simp at hi; subst hi
        cases j with
        | zero => rfl
        | succ j => exact absurd (List.mem_of_getElem? (by simpa using hj)) hna
      | succ i =>
        cases j with
        | zero => simp at hj; subst hj; exact absurd (List.mem_of_getElem? (by simpa using hi)) hna
        | succ j => have := i2 i j k (by simpa using hi) (by simpa using hj); omega

/-- Loops whose marks are kept, too. -/
def keepOk (h : Heap) (keep : List Nat) : Bool :=
  distinct keep && keep.all fun k => match h.find k with
    | .loop _ _ _ _ _ _ _ _ df => keep.contains df
    | .mit mid _ _ => keep.contains mid
    | _ => true

theorem Sim.keep {w : World} {M : Mem} {h : Heap} {n : Nat} (hs : Sim w M h n) {keep : List Nat} (hk : keepOk h keep = true) (hz : ∃ w0 F, h.find 0 = .fr w0 F) :
    Sim w (keepM M keep) (keepH h keep) (keep.length + 2) ∧ Tr M w (keepM M keep) w := by
  simp only [keepOk, Bool.and_eq_true, List.all_eq_true] at hk
  obtain ⟨hd, hl⟩ := hk
  obtain ⟨hd0, hinj⟩ := distinct_inj hd
  have htr : Tr M w (keepM M keep) w := ⟨(Tr.refl M w).ext, fun b o hf => .inl (keepM_foot hf)⟩
  refine ⟨Sim.of_obj ?_ ?_ ?_ ?_, htr⟩
  · intro j p hj
    rcases keepM_inv hj with ⟨h1, _⟩ | ⟨i, k, h1, h2, _⟩
    · omega
    · have := (List.getElem?_eq_some_iff.1 h2).1; omega
  · intro j p b o hj hf
    rcases keepM_inv hj with ⟨_, h1⟩ | ⟨i, k, _, _, h1⟩
    · exact hs.inb 0 p b o h1 hf
    · exact hs.inb k p b o h1 hf
  · intro i j p q b o hi hj hfi hfj
    rcases keepM_inv hi with ⟨h1, h2⟩ | ⟨i', k, h1, h2, h3⟩ <;> rcases keepM_inv hj with ⟨h4, h5⟩ | ⟨j', k', h4, h5, h6⟩
    · omega
    · have := hs.disj 0 k' p q b o h2 h6 hfi hfj
      exact absurd this.symm (hd0 k' (List.mem_of_getElem? h5))
    · have := hs.disj k 0 p q b o h3 h5 hfi hfj
      exact absurd this (hd0 k (List.mem_of_getElem? h2))
    · have := hs.disj k k' p q b o h3 h6 hfi hfj
      subst this
      have := hinj i' j' k h2 h5
      omega
  · intro j hj
    rw [keepH_find] at hj ⊢
    by_cases h0 : j = 0
    · subst h0
      simp only [if_true] at hj ⊢
      obtain ⟨p, hp, hok⟩ := hs.obj 0 hj
      refine ⟨p, hp, ?_⟩
      obtain ⟨w0, F, hf⟩ := hz
      rw [hf] at hok ⊢
      exact hok
    · rw [if_neg h0] at hj ⊢
      cases hk' : keep[j - 1]? with
      | none => rw [hk'] at hj; exact absurd rfl hj
      | some k =>
        rw [hk'] at hj
        simp only at hj ⊢
        have hkM : keepM M keep j = M k := by rw [show j = (j - 1) + 1 by omega]; exact keepM_at hk'
        have hnd : h.find k ≠ .dead := fun hf => by rw [hf] at hj; exact hj rfl
        obtain ⟨p, hp', hok⟩ := hs.obj k hnd
        refine ⟨p, by rw [hkM]; exact hp', hok.renf (rho keep) (fun v x hr => hr.keep keep) fun id D hid hDk hD => ?_⟩
        have hmem : id ∈ keep := by
          have hl' := hl k (List.mem_of_getElem? hk')
          cases hf : h.find k with
          | loop fn tm ps as bd bu ov pe df => rw [hf] at hl' hid; simp only [O.deps, List.mem_singleton] at hid; subst hid; simpa using hl'
          | mit mid len seen => rw [hf] at hl' hid; simp only [O.deps, List.mem_singleton] at hid; subst hid; simpa using hl'
          | _ => rw [hf] at hid; simp [O.deps] at hid
        rcases rho_spec keep id with ⟨i, h1, h2⟩ | ⟨h1, _⟩
        · rw [h2, keepM_at h1]; exact hD
        · exact absurd hmem h1

/-- The temporaries that are kept; what is in the others is forgotten. -/
def maskT (keepT : List Nat) : Nat → List V → List V
  | _, [] => []
  | i, v :: vs => (bif keepT.contains i then v else .any) :: maskT keepT (i + 1) vs

theorem maskT_get {keepT : List Nat} : ∀ {l : List V} {i j : Nat} {u : V}, (maskT keepT i l)[j]? = some u → ∃ v : V, l[j]? = some v ∧ (u = v ∨ u = .any)
  | [], i, j, u, h => by simp [maskT] at h
  | v :: vs, i, j, u, h => by
    cases j with
    | zero =>
      simp only [maskT, List.getElem?_cons_zero, Option.some.injEq] at h
      refine ⟨v, rfl, ?_⟩
      cases hc : keepT.contains i
      · rw [hc] at h; exact .inr h.symm
      · rw [hc] at h; exact .inl h.symm
    | succ j =>
      simp only [maskT, List.getElem?_cons_succ] at h
      simpa using maskT_get h

theorem maskT_len (keepT : List Nat) : ∀ (l : List V) (i : Nat), (maskT keepT i l).length = l.length
  | [], _ => rfl
  | v :: vs, i => by simp [maskT, maskT_len keepT vs (i + 1)]

/-- THE STATE, forgetting all but some temporaries and places; these get new numbers. -/
def St.keep (st : St) (keepT keep : List Nat) : St :=
  { tmps := renL (rho keep) (maskT keepT 0 st.tmps), h := keepH st.h keep, n := keep.length + 2, marks := st.marks.map (rho keep) }

theorem Marks.keep {M : Mem} {h : Heap} {keep : List Nat} : ∀ {ms : List Nat} {df : List Deferred}, Marks M h ms df → (∀ m ∈ ms, m ∈ keep) → Marks (keepM M keep) (keepH h keep) (ms.map (rho keep)) df
  | [], df, hm, _ => hm
  | m :: ms, df, hm, hk => by
    obtain ⟨h1, r, df', h2, h3, h4⟩ := hm
    have hmk := hk m (List.mem_cons_self ..)
    rcases rho_spec keep m with ⟨j, hj, hr⟩ | ⟨hn, _⟩
    · refine ⟨?_, r, df', by rw [hr, keepM_at hj]; exact h2, h3, h4.keep fun x hx => hk x (List.mem_cons_of_mem _ hx)⟩
      rw [keepH_find, hr, if_neg (by omega), Nat.add_sub_cancel, hj]
      simp only [h1, O.renf]
    · exact absurd hmk hn

theorem StRel.keep {st : St} {tm : Array Value} {df : List Deferred} {w : World} {M : Mem} (hs : StRel st tm df w M) {keepT keep : List Nat} (hk : keepOk st.h keep = true) (hz : ∃ w0 F, st.h.find 0 = .fr w0 F)
    (hm : ∀ m ∈ st.marks, m ∈ keep) : StRel (st.keep keepT keep) tm df w (keepM M keep) ∧ Tr M w (keepM M keep) w := by
  obtain ⟨h1, h2⟩ := hs.sim.keep hk hz
  refine ⟨⟨by simp [St.keep, renL_eq, maskT_len, hs.size], fun i u hu => ?_, h1, hs.marks.keep hm⟩, h2⟩
  obtain ⟨v, hv, rfl⟩ := renL_get hu
  obtain ⟨v0, hv0, hv1⟩ := maskT_get hv
  rcases hv1 with rfl | rfl
  · exact (hs.tmp i _ hv0).keep keep
  · simp only [V.ren]; exact .any _

end Go.Qx
