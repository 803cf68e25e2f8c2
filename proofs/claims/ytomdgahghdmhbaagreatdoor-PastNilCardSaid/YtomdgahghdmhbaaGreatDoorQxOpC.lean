import Derived.Test.YtomdgahghdmhbaaGreatDoorQxOpB
namespace Go.Qx
open Go
set_option linter.unusedVariables false

theorem add_at (b o j : Nat) : (⟨b, o, none⟩ : Addr).add j = ⟨b, o + j, none⟩ := by unfold Addr.add; split <;> simp_all

/-- Only one place's own cells have turned. -/
structure Chg (p : Plc) (w w' : World) : Prop where
  os : w'.os = w.os
  tape : w'.tape = w.tape
  output : w'.output = w.output
  size : w'.heap.size = w.heap.size
  cell : ∀ b o, ¬ p.foot b o → w'.cell? ⟨b, o, none⟩ = w.cell? ⟨b, o, none⟩ ∧ w'.frozen? ⟨b, o, none⟩ = w.frozen? ⟨b, o, none⟩
  blk : ∀ b, (∀ o, ¬ p.foot b o) → w'.heap[b]? = w.heap[b]?

theorem Chg.tr {p : Plc} {w w' : World} {M : Mem} {id : Nat} (h : Chg p w w') (hp : M id = some p) : Tr M w M w' :=
  ⟨⟨h.os, h.tape, h.output, Nat.le_of_eq h.size.symm, fun b o _ hf => h.cell b o fun hf' => hf ⟨id, p, hp, hf'⟩, fun b _ hf => h.blk b fun o hf' => hf o ⟨id, p, hp, hf'⟩⟩, fun b o hf => .inl hf⟩

theorem Sim.set {w w' : World} {M : Mem} {h : Heap} {n id : Nat} {p : Plc} {o' : O} (hs : Sim w M h n) (hp : M id = some p) (c : Chg p w w')
    (hok : Tr M w M w' → ObjOk w' M n p o') : Sim w' M ((id, o') :: h) n := by
  have ht := c.tr hp
  refine Sim.of_obj hs.lt (fun i q b o hq hf => by rw [c.size]; exact hs.inb i q b o hq hf) hs.disj ?_
  intro j hj
  rw [Heap.find_new] at hj ⊢
  by_cases hij : id = j
  · subst hij
    simp only [if_true] at hj ⊢
    exact ⟨p, hp, hok ht⟩
  · simp only [hij, if_false] at hj ⊢
    obtain ⟨q, hq, hqok⟩ := hs.obj j hj
    have hne : ∀ b o, q.foot b o → ¬ p.foot b o := fun b o h1 h2 => hij (hs.disj id j p q b o hp hq h2 h1)
    exact ⟨q, hq, hqok.tr ht (fun _ _ _ h => h) (fun _ _ _ h => h) (Nat.le_refl _) (fun b o hf => c.cell b o (hne b o hf)) (fun b hb => c.blk b fun o => hne b o (hb o))⟩

theorem StRel.set {st : St} {tm : Array Value} {df : List Deferred} {w w' : World} {M : Mem} {id : Nat} {p : Plc} {o' : O} (h : StRel st tm df w M) (hp : M id = some p)
    (hnd : st.h.find id ≠ .dfr) (c : Chg p w w') (hok : Tr M w M w' → ObjOk w' M st.n p o') : StRel (st.set id o') tm df w' M ∧ Tr M w M w' := by
  have ht := c.tr hp
  refine ⟨h.tr ht (fun _ _ _ h => h) (Nat.le_refl _) (h.sim.set hp c hok) fun j hj hf => ⟨?_, rfl⟩, ht⟩
  rw [Heap.find_new, if_neg]
  · exact hf
  · rintro rfl; exact hnd hf

/-- A token is used up; what is left of its room goes to a new one. -/
theorem StRel.move {st : St} {tm : Array Value} {df : List Deferred} {w : World} {M : Mem} {id : Nat} {b t e k t' : Nat} (h : StRel st tm df w M)
    (hp : M id = some (.tip b t e k)) (hnd : st.h.find id = .own k) (htt : t ≤ t') :
    StRel { st with h := (st.n, .own k) :: (id, .dead) :: st.h, n := st.n + 1 } tm df w (upd (upd M id none) st.n (some (.tip b t' e k))) ∧
      Tr M w (upd (upd M id none) st.n (some (.tip b t' e k))) w := by
  have hs := h.sim
  have hlt := hs.lt id _ hp
  have hMid : ∀ j q, j < st.n → upd (upd M id none) st.n (some (.tip b t' e k)) j = some q → M j = some q ∧ j ≠ id := by
    intro j q hj hq
    rw [upd_other _ _ (by omega)] at hq
    by_cases hji : j = id
    · subst hji; rw [upd_same] at hq; cases hq
    · rw [upd_other _ _ hji] at hq; exact ⟨hq, hji⟩
  have hsub : ∀ b' o', foot (upd (upd M id none) st.n (some (.tip b t' e k))) b' o' → foot M b' o' := by
    intro b' o' hf
    rcases foot_upd hf with h1 | ⟨q, hq, h1⟩
    · rcases foot_upd h1 with h2 | ⟨q, hq, h2⟩
      · exact h2
      · cases hq
    · cases hq; exact ⟨id, _, hp, h1.1, Nat.le_trans htt h1.2.1, h1.2.2⟩
  have ht : Tr M w (upd (upd M id none) st.n (some (.tip b t' e k))) w :=
    ⟨(Tr.refl M w).ext, fun b' o' hf => .inl (hsub b' o' hf)⟩
  have hsim : Sim w (upd (upd M id none) st.n (some (.tip b t' e k))) ((st.n, .own k) :: (id, .dead) :: st.h) (st.n + 1) := by
    refine Sim.of_obj ?_ ?_ ?_ ?_
    · intro j q hq
      by_cases hj : j < st.n
      · omega
      · by_cases hjn : j = st.n
        · omega
        · rw [upd_other _ _ hjn] at hq
          by_cases hji : j = id
          · omega
          · rw [upd_other _ _ hji] at hq; have := hs.lt j q hq; omega
    · intro j q b' o' hq hf
      obtain ⟨i, r, hr, hf'⟩ := hsub b' o' ⟨j, q, hq, hf⟩
      exact hs.inb i r b' o' hr hf'
    · intro i j q r b' o' hi hj hfi hfj
      by_cases h1 : i = st.n <;> by_cases h2 : j = st.n
      · omega
      · subst h1; rw [upd_same] at hi; cases hi
        rw [upd_other _ _ h2] at hj
        by_cases hji : j = id
        · subst hji; rw [upd_same] at hj; cases hj
        · rw [upd_other _ _ hji] at hj
          exact absurd (hs.disj id j _ r b' o' hp hj ⟨hfi.1, Nat.le_trans htt hfi.2.1, hfi.2.2⟩ hfj).symm hji
      · subst h2; rw [upd_same] at hj; cases hj
        rw [upd_other _ _ h1] at hi
        by_cases hji : i = id
        · subst hji; rw [upd_same] at hi; cases hi
        · rw [upd_other _ _ hji] at hi
          exact absurd (hs.disj id i _ q b' o' hp hi ⟨hfj.1, Nat.le_trans htt hfj.2.1, hfj.2.2⟩ hfi).symm hji
      · rw [upd_other _ _ h1] at hi; rw [upd_other _ _ h2] at hj
        by_cases h3 : i = id
        · subst h3; rw [upd_same] at hi; cases hi
        · by_cases h4 : j = id
          · subst h4; rw [upd_same] at hj; cases hj
          · rw [upd_other _ _ h3] at hi; rw [upd_other _ _ h4] at hj
            exact hs.disj i j q r b' o' hi hj hfi hfj
    · intro j hj
      rw [Heap.find_new, Heap.find_new] at hj ⊢
      by_cases hjn : st.n = j
      · subst hjn
        simp only [if_true] at hj ⊢
        refine ⟨_, upd_same .., b, t', e, rfl, fun o' h1 h2 => ?_⟩
        obtain ⟨b2, t2, e2, hm2, hc⟩ := hs.own id k hnd
        rw [hp] at hm2; cases hm2
        exact hc o' (Nat.le_trans htt h1) h2
      · simp only [hjn, if_false] at hj ⊢
        by_cases hji : id = j
        · simp [hji] at hj
        · simp only [hji, if_false] at hj ⊢
          obtain ⟨q, hq, hqok⟩ := hs.obj j hj
          refine ⟨q, by rw [upd_other _ _ (by omega), upd_other _ _ (by omega)]; exact hq, hqok.tr ht (fun i r hi hr => (hMid i r hi hr).1) (fun i D hDk hD => ?_) (Nat.le_succ _) (fun _ _ _ => ⟨rfl, rfl⟩) (fun _ _ => rfl)⟩
          have hi1 := hs.lt i _ hD
          have hi2 : i ≠ id := by
            rintro rfl
            rw [hp] at hD
            obtain ⟨b, rfl | rfl⟩ := hDk <;> cases hD
          rw [upd_other _ _ (by omega), upd_other _ _ hi2]; exact hD
  refine ⟨h.tr ht (fun i r hi hr => (hMid i r hi hr).1) (Nat.le_succ _) hsim fun j hj hf => ?_, ht⟩
  have hji : id ≠ j := by rintro rfl; rw [hnd] at hf; cases hf
  have hjn : j < st.n := by obtain ⟨q, hq, _⟩ := hs.obj j (by rw [hf]; simp); exact hs.lt j q hq
  exact ⟨by rw [Heap.find_new, Heap.find_new, if_neg (by omega), if_neg hji]; exact hf, by rw [upd_other _ _ (by omega), upd_other _ _ hji.symm]⟩

/-! ### Cells written one behind the other. -/
theorem setCells_blk (b : Nat) : ∀ (vs : List Value) (o : Nat) (w : World) (ys : Array Value) (el : TypeId) (fz : Nat × Nat), w.heap[b]? = some (.cells ys el fz) → o + vs.length ≤ ys.size →
    ∃ ys', (w.setCells b o vs).heap[b]? = some (.cells ys' el fz) ∧ ys'.size = ys.size ∧
      ∀ i, ys'.getD i undef = if o ≤ i ∧ i < o + vs.length then vs.getD (i - o) undef else ys.getD i undef
  | [], o, w, ys, el, fz, h, hl => ⟨ys, h, rfl, fun i => by rw [if_neg (by simp)]⟩
  | v :: r, o, w, ys, el, fz, h, hl => by
    have h1 : (w.setCell ⟨b, o, none⟩ v).heap[b]? = some (.cells (ys.setIfInBounds o v) el fz) := by
      simp [World.setCell, Array.getElem?_modify, h]
    obtain ⟨ys', h2, h3, h4⟩ := setCells_blk b r (o + 1) (w.setCell ⟨b, o, none⟩ v) (ys.setIfInBounds o v) el fz h1 (by simp at hl ⊢; omega)
    refine ⟨ys', h2, by simpa using h3, fun i => ?_⟩
    rw [h4 i]
    simp only [List.length_cons] at hl ⊢
    by_cases hio : i = o
    · subst hio
      rw [if_neg (by omega), if_pos (by omega)]
      have : i < ys.size := by omega
      simp [Array.getD_eq_getD_getElem?, this]
    · by_cases hin : o + 1 ≤ i ∧ i < o + 1 + r.length
      · rw [if_pos hin, if_pos (by omega)]
        obtain ⟨j, rfl⟩ : ∃ j, i = o + 1 + j := ⟨i - (o + 1), by omega⟩
        rw [show o + 1 + j - (o + 1) = j by omega, show o + 1 + j - o = j + 1 by omega]
        simp
      · rw [if_neg hin, if_neg (by omega)]
        simp [Array.getD_eq_getD_getElem?, Ne.symm hio]

theorem setCells_size (b : Nat) : ∀ (vs : List Value) (o : Nat) (w : World), (w.setCells b o vs).heap.size = w.heap.size
  | [], _, _ => rfl
  | v :: r, o, w => by rw [World.setCells, setCells_size b r]; simp [World.setCell]
theorem setCells_other (b : Nat) : ∀ (vs : List Value) (o : Nat) (w : World) (b' : Nat), b' ≠ b → (w.setCells b o vs).heap[b']? = w.heap[b']?
  | [], _, _, _, _ => rfl
  | v :: r, o, w, b', h => by
    rw [World.setCells, setCells_other b r _ _ b' h]
    simp only [World.setCell, Array.getElem?_modify]
    rw [if_neg (by simpa using Ne.symm h)]
theorem setCells_rest (b : Nat) : ∀ (vs : List Value) (o : Nat) (w : World), (w.setCells b o vs).os = w.os ∧ (w.setCells b o vs).tape = w.tape ∧ (w.setCells b o vs).output = w.output
  | [], _, _ => ⟨rfl, rfl, rfl⟩
  | v :: r, o, w => by rw [World.setCells]; exact setCells_rest b r _ _

theorem setCells_chg {p : Plc} {w : World} {b o : Nat} {vs : List Value} (h : ∀ j, j < vs.length → p.foot b (o + j)) : Chg p w (w.setCells b o vs) := by
  obtain ⟨h1, h2, h3⟩ := setCells_rest b vs o w
  refine ⟨h1, h2, h3, setCells_size b vs o w, fun b' o' hf => ⟨World.cell?_setCells_out b vs o w _ fun hb _ => ?_, World.frozen?_setCells b vs o w _⟩, fun b' hb => ?_⟩
  · simp only at hb; subst hb
    by_cases hin : o ≤ o' ∧ o' < o + vs.length
    · exfalso
      obtain ⟨j, rfl⟩ : ∃ j, o' = o + j := ⟨o' - o, by omega⟩
      exact hf (h j (by omega))
    · simp only; omega
  · by_cases hbb : b' = b
    · subst hbb
      cases vs with
      | nil => rfl
      | cons v r => exact absurd (h 0 (by simp)) (hb _)
    · exact setCells_other b vs o w b' hbb
end Go.Qx
