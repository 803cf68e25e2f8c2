import Derived.Test.YtomdgahghdmhbaaGreatDoorQxSched
namespace Go.Qx
open Go
set_option linter.unusedVariables false

/-! ### One order for all orders. -/

/-- An effect, from temporaries that agree where it looks. -/
def EffOk (P : Program) (ops : Array Oper) (i : Nat) (o : Oper) (st : St) (K : St → Prop) : Prop :=
  ∀ tm df w M, StRel st tm df w M → ∀ b rest k cs tm2, Agree tm tm2 (opUses o) → Region.wanted o (yielded ops tm2) = true →
    ∃ st' x w' M', K st' ∧ StRel st' (tput tm o.dst x) df w' M' ∧ Tr M w M' w' ∧ Old M st.h st.n M' st'.h st'.n ∧
      Steps P (lone (here b tm2 df (.inRegion ops (i :: rest) :: k)) cs w) (lone (here b (tput tm2 o.dst x) df (.inRegion ops rest :: k)) cs w')

/-- An effect, or none where its guard bars it. -/
def Eff (P : Program) (ops : Array Oper) (i : Nat) (o : Oper) (st : St) (K : St → Prop) : Prop :=
  (wantV st ops o = some true ∧ EffOk P ops i o st K) ∨ (wantV st ops o = some false ∧ K (st.put o.dst nop))

/-- A quiet operation, or none. -/
def Quiet (P : Program) (ops : Array Oper) (o : Oper) (st : St) (v : V) : Prop :=
  (wantV st ops o = some true ∧ OpQ P o st v ∧ (isMem o = false → OpS P o st v)) ∨ (wantV st ops o = some false ∧ v = nop)

/-- A quiet operation would come to the same. -/
def Stab (P : Program) (ops : Array Oper) (i : Nat) (st : St) : Prop :=
  ∃ o d, ops[i]? = some o ∧ o.dst = some d ∧ Quiet P ops o st (lget st.tmps d)

def disj (ts us : List Nat) : Bool := ts.all fun t => !us.contains t

def isPred (m : Region.Mode) (ops : Array Oper) : Nat → Nat → Nat → Bool
  | 0, _, _ => false
  | fuel + 1, i, j => match ops[i]? with
    | some o => o.after.toList.any fun e => Region.binds m e && (e.on == j || isPred m ops fuel e.on j)
    | none => false

def Closed (m : Region.Mode) (ops : Array Oper) (acc : List Nat) : Prop := ∀ i ∈ acc, predsIn m ops acc i = true

theorem pred_in {m : Region.Mode} {ops : Array Oper} {acc : List Nat} (hc : Closed m ops acc) : ∀ {fuel i j : Nat}, predsIn m ops acc i = true → isPred m ops fuel i j = true → j ∈ acc
  | 0, i, j, h, hp => by simp [isPred] at hp
  | fuel + 1, i, j, h, hp => by
    unfold isPred at hp
    unfold predsIn at h
    cases ho : ops[i]? with
    | none => rw [ho] at hp; cases hp
    | some o =>
      rw [ho] at hp h
      simp only [List.any_eq_true, Bool.and_eq_true, Bool.or_eq_true, beq_iff_eq] at hp
      obtain ⟨e, he, hb, hj⟩ := hp
      have h1 := List.all_eq_true.1 h e he
      simp only [hb, Bool.not_true, Bool.false_or, List.contains_eq_mem, decide_eq_true_eq] at h1
      rcases hj with rfl | hj
      · exact h1
      · exact pred_in hc (hc _ h1) hj

theorem predsIn_mono {m : Region.Mode} {ops : Array Oper} {acc acc' : List Nat} {i : Nat} (hs : ∀ j ∈ acc, j ∈ acc') (h : predsIn m ops acc i = true) : predsIn m ops acc' i = true := by
  unfold predsIn at h ⊢
  cases ho : ops[i]? with
  | none => rw [ho] at h; cases h
  | some o =>
    rw [ho] at h
    refine List.all_eq_true.2 fun e he => ?_
    have := List.all_eq_true.1 h e he
    simp only [Bool.or_eq_true, List.contains_eq_mem, decide_eq_true_eq] at this ⊢
    exact this.imp id (hs _)

/-- What is asked of a quiet operation that runs next. -/
def ckQ (m : Region.Mode) (ops : Array Oper) (done : List Nat) (i : Nat) : Bool :=
  Nat.blt i ops.size && !done.contains i && isQAt ops i && predsIn m ops done i && disj (dstAt ops i).toList (usesAt ops i) &&
    done.all fun a => !isQAt ops a || (disj (dstAt ops i).toList (usesAt ops a) && disj (dstAt ops i).toList (dstAt ops a).toList && (disj (dstAt ops a).toList (usesAt ops i) || isPred m ops 3 i a))

/-- What is asked of an effect that runs next; R: the operations that are looked at again behind it. -/
def ckE (m : Region.Mode) (ops : Array Oper) (done R : List Nat) (i : Nat) : Bool :=
  Nat.blt i ops.size && !done.contains i && !isQAt ops i && predsIn m ops done i &&
    done.all fun a => !isQAt ops a || isPred m ops 3 i a || (disj (dstAt ops i).toList (usesAt ops a) && disj (dstAt ops i).toList (dstAt ops a).toList && disj (dstAt ops a).toList (usesAt ops i) &&
      (R.contains a || (!isMemAt ops a && R.all fun r => disj (dstAt ops r).toList (usesAt ops a))))

/-- All that is quiet and may run has run. -/
def satur (m : Region.Mode) (ops : Array Oper) (done : List Nat) : Bool := (List.range ops.size).all fun i => done.contains i || !isQAt ops i || !predsIn m ops done i
def covers (m : Region.Mode) (ops : Array Oper) (done alts : List Nat) : Bool := (List.range ops.size).all fun i => done.contains i || isQAt ops i || !predsIn m ops done i || alts.contains i

theorem disj_spec {d : Option Tmp} {us : List Nat} (h : disj d.toList us = true) : ∀ t, d = some t → t ∉ us := by
  rintro t rfl
  have := List.all_eq_true.1 h t (by simp)
  simpa using this

structure Inv (m : Region.Mode) (ops : Array Oper) (acc L done : List Nat) : Prop where
  iff : ∀ i, i ∈ done ↔ i ∈ acc ∨ i ∈ L
  off : ∀ i ∈ L, i ∉ acc
  clean : Clean ops L
  quiet : ∀ i ∈ L, isQAt ops i = true
  closed : Closed m ops acc
  lt : ∀ i ∈ L, i < ops.size
  /-- those that an operation hangs on stand ahead of it -/
  ahead : ∀ A i B, L = A ++ i :: B → predsIn m ops (A ++ acc) i = true
  /-- what an operation looks at, of those ahead, it hangs on -/
  looks : ∀ A i B, L = A ++ i :: B → ∀ a ∈ A, (∀ t, dstAt ops a = some t → t ∉ usesAt ops i) ∨ isPred m ops 3 i a = true
  nodup : L.Nodup

theorem Inv.done_lt {m : Region.Mode} {ops : Array Oper} {acc L done : List Nat} (h : Inv m ops acc L done) : Closed m ops done := by
  intro i hi
  rcases (h.iff i).1 hi with h1 | h1
  · exact predsIn_mono (fun j hj => (h.iff j).2 (.inl hj)) (h.closed i h1)
  · obtain ⟨A, B, hL⟩ := List.append_of_mem h1
    refine predsIn_mono (fun j hj => (h.iff j).2 ?_) (h.ahead A i B hL)
    rcases List.mem_append.1 hj with h2 | h2
    · exact .inr (by rw [hL]; simp [h2])
    · exact .inl h2

theorem clean_snoc {ops : Array Oper} {i : Nat} : ∀ {L : List Nat}, Clean ops L → (∀ t, dstAt ops i = some t → t ∉ usesAt ops i) → (∀ a ∈ L, ∀ t, dstAt ops i = some t → t ∉ usesAt ops a ∧ dstAt ops a ≠ some t) → Clean ops (L ++ [i])
  | [], _, h1, _ => ⟨h1, (fun j hj => by cases hj), trivial⟩
  | a :: L, hc, h1, h2 => by
    refine ⟨hc.1, fun j hj t ht => ?_, clean_snoc hc.2.2 h1 fun b hb => h2 b (List.mem_cons_of_mem _ hb)⟩
    rcases List.mem_append.1 hj with h3 | h3
    · exact hc.2.1 j h3 t ht
    · simp only [List.mem_singleton] at h3; subst h3
      exact h2 a (List.mem_cons_self ..) t ht

/-- A quiet operation runs: in the plan alone. -/
theorem Inv.plan {m : Region.Mode} {ops : Array Oper} {acc L done : List Nat} {i : Nat} (h : Inv m ops acc L done) (hc : ckQ m ops done i = true) : Inv m ops acc (L ++ [i]) (i :: done) := by
  simp only [ckQ, Bool.and_eq_true, Bool.not_eq_true', List.all_eq_true, Bool.or_eq_true] at hc
  obtain ⟨⟨⟨⟨⟨c1, c2⟩, c3⟩, c4⟩, c5⟩, c6⟩ := hc
  have hni : i ∉ done := by simpa using c2
  have hlt : i < ops.size := by simp [Nat.blt] at c1; omega
  have hold : ∀ a ∈ L, (∀ t, dstAt ops i = some t → t ∉ usesAt ops a ∧ dstAt ops a ≠ some t) ∧ ((∀ t, dstAt ops a = some t → t ∉ usesAt ops i) ∨ isPred m ops 3 i a = true) := by
    intro a ha
    have hd : a ∈ done := (h.iff a).2 (.inr ha)
    rcases c6 a hd with hq | ⟨⟨h1, h2⟩, h3⟩
    · rw [h.quiet a ha] at hq; cases hq
    · refine ⟨fun t ht => ⟨disj_spec h1 t ht, fun hda => ?_⟩, h3.imp (fun h3 => disj_spec h3) id⟩
      have := disj_spec h2 t ht
      simp [hda] at this
  refine ⟨fun j => ?_, fun j hj => ?_, clean_snoc h.clean (disj_spec c5) fun a ha => (hold a ha).1, fun j hj => ?_, h.closed, fun j hj => ?_, fun A j B hL => ?_, fun A j B hL a ha => ?_, List.nodup_append.2 ⟨h.nodup, by simp, fun a ha b hb => by
    simp only [List.mem_singleton] at hb; subst hb; rintro rfl; exact hni ((h.iff _).2 (.inr ha))⟩⟩
  · simp only [List.mem_cons, List.mem_append, List.not_mem_nil, or_false, h.iff j]
    constructor
    · rintro (h1 | h1 | h1)
      · exact .inr (.inr h1)
      · exact .inl h1
      · exact .inr (.inl h1)
    · rintro (h1 | h1 | h1)
      · exact .inr (.inl h1)
      · exact .inr (.inr h1)
      · exact .inl h1
  · rcases List.mem_append.1 hj with h1 | h1
    · exact h.off j h1
    · simp only [List.mem_singleton] at h1; subst h1
      exact fun ha => hni ((h.iff j).2 (.inl ha))
  · rcases List.mem_append.1 hj with h1 | h1
    · exact h.quiet j h1
    · simp only [List.mem_singleton] at h1; subst h1; exact c3
  · rcases List.mem_append.1 hj with h1 | h1
    · exact h.lt j h1
    · simp only [List.mem_singleton] at h1; subst h1; exact hlt
  all_goals
    rcases List.append_eq_append_iff.1 hL with ⟨C, hA, hB⟩ | ⟨C, hLc, hB⟩
    · have : C = [] ∧ j = i ∧ B = [] := by
        cases C with
        | nil => simp at hB; exact ⟨rfl, hB.1.symm, hB.2⟩
        | cons c C => simp at hB
      obtain ⟨rfl, rfl, rfl⟩ := this
      simp only [List.append_nil] at hA
      subst hA
      first
        | exact predsIn_mono (fun k hk => by rcases (h.iff k).1 hk with h1 | h1 <;> simp [h1]) c4
        | exact (hold a ha).2
    · cases C with
      | nil =>
        simp only [List.append_nil] at hLc
        simp only [List.nil_append, List.cons.injEq] at hB
        obtain ⟨rfl, rfl⟩ := hB
        subst hLc
        first
          | exact predsIn_mono (fun k hk => by rcases (h.iff k).1 hk with h1 | h1 <;> simp [h1]) c4
          | exact (hold a ha).2
      | cons c C =>
        simp only [List.cons_append, List.cons.injEq] at hB
        obtain ⟨rfl, _⟩ := hB
        first
          | exact h.ahead A _ C hLc
          | exact h.looks A _ C hLc a ha

/-- An operation that has run in the plan, runs. -/
theorem Inv.catch {m : Region.Mode} {ops : Array Oper} {acc A B done : List Nat} {i : Nat} (h : Inv m ops acc (A ++ i :: B) done) (hf : predsIn m ops acc i = true) : Inv m ops (i :: acc) (A ++ B) done := by
  have hnd : i ∉ A ++ B ∧ (A ++ B).Nodup := by
    have hp : (A ++ i :: B).Perm (i :: (A ++ B)) := List.perm_middle
    have := hp.nodup_iff.1 h.nodup
    exact ⟨(List.nodup_cons.1 this).1, (List.nodup_cons.1 this).2⟩
  refine ⟨fun j => ?_, fun j hj => ?_, h.clean.remove, fun j hj => h.quiet j ?_, fun j hj => ?_, fun j hj => h.lt j ?_, fun A' j B' hL => ?_, fun A' j B' hL a ha => ?_, hnd.2⟩
  · rw [h.iff j]
    simp only [List.mem_append, List.mem_cons]
    constructor
    · rintro (h1 | h1 | h1 | h1)
      · exact .inl (.inr h1)
      · exact .inr (.inl h1)
      · exact .inl (.inl h1)
      · exact .inr (.inr h1)
    · rintro ((h1 | h1) | (h1 | h1))
      · exact .inr (.inr (.inl h1))
      · exact .inl h1
      · exact .inr (.inl h1)
      · exact .inr (.inr (.inr h1))
  · intro hj2
    rcases List.mem_cons.1 hj2 with rfl | hj2
    · exact hnd.1 hj
    · refine h.off j ?_ hj2
      rcases List.mem_append.1 hj with h1 | h1 <;> simp [h1]
  · rcases List.mem_append.1 hj with h1 | h1 <;> simp [h1]
  · rcases List.mem_cons.1 hj with rfl | hj
    · exact predsIn_mono (fun k hk => List.mem_cons_of_mem _ hk) hf
    · exact predsIn_mono (fun k hk => List.mem_cons_of_mem _ hk) (h.closed j hj)
  · rcases List.mem_append.1 hj with h1 | h1 <;> simp [h1]
  all_goals
    rcases List.append_eq_append_iff.1 hL with ⟨C, hA, hB⟩ | ⟨C, hAc, hB⟩
    · -- A' = A ++ C, B = C ++ j :: B'
      subst hA
      have hL2 : A ++ i :: B = (A ++ i :: C) ++ j :: B' := by rw [hB]; simp
      first
        | exact predsIn_mono (fun k hk => by simp only [List.mem_append, List.mem_cons] at hk ⊢; rcases hk with (h1 | h1 | h1) | h1 <;> simp [h1]) (h.ahead _ j B' hL2)
        | exact h.looks _ j B' hL2 a (by simp only [List.mem_append, List.mem_cons] at ha ⊢; rcases ha with h1 | h1 <;> simp [h1])
    · -- A = A' ++ C, C ++ B = j :: B'
      cases C with
      | nil =>
        simp only [List.append_nil] at hAc
        subst hAc
        simp only [List.nil_append] at hB
        have hL2 : A ++ i :: B = (A ++ [i]) ++ j :: B' := by rw [← hB]; simp
        first
          | exact predsIn_mono (fun k hk => by simp only [List.mem_append, List.mem_cons, List.not_mem_nil, or_false] at hk ⊢; rcases hk with (h1 | h1) | h1 <;> simp [h1]) (h.ahead _ j B' hL2)
          | exact h.looks _ j B' hL2 a (by simp [ha])
      | cons c C =>
        simp only [List.cons_append, List.cons.injEq] at hB
        obtain ⟨rfl, hB⟩ := hB
        have hL2 : A ++ i :: B = A' ++ j :: (C ++ i :: B) := by rw [hAc]; simp
        first
          | exact predsIn_mono (fun k hk => by simp only [List.mem_append, List.mem_cons] at hk ⊢; rcases hk with h1 | h1 <;> simp [h1]) (h.ahead A' j _ hL2)
          | exact h.looks A' j _ hL2 a ha

/-! #### The temporaries behind an effect. -/
theorem lget_put_self {st : St} {d : Tmp} : st.put (some d) (lget st.tmps d) = st := by
  obtain ⟨l, h, n, m⟩ := st
  simp only [St.put, lget_eq]
  congr 1
  by_cases hd : d < l.length
  · rw [List.getElem?_eq_getElem hd]; simp
  · exact List.set_eq_of_length_le (Nat.le_of_not_lt hd)

theorem dstAt_of {ops : Array Oper} {i : Nat} {o : Oper} (ho : ops[i]? = some o) : dstAt ops i = o.dst := by simp [dstAt, ho]

theorem relag {P : Program} {ops : Array Oper} {w w2 : World} {M2 : Mem} {st2 : St} {df : List Deferred} {R : List Nat} {de : Option Tmp} : ∀ (L : List Nat) (tm tm' cur S : Array Value), Clean ops L →
    (∀ i ∈ L, i ∈ R → Stab P ops i st2) → (∀ i ∈ L, i ∉ R → isMemAt ops i = false ∧ ∀ r ∈ R, ∀ t, dstAt ops r = some t → t ∉ usesAt ops i) → (∀ i ∈ L, ∀ t, de = some t → t ∉ usesAt ops i) → (∀ i ∈ L, isQAt ops i = true) →
    Later P ops w L tm tm' →
    S.size = cur.size → (∀ t, (∀ j ∈ L, dstAt ops j ≠ some t) → S[t]? = cur[t]?) → StRel st2 S df w2 M2 → (∀ j ∈ L, j ∉ R → ∀ t, dstAt ops j = some t → S[t]? = tm'[t]?) →
    tm.size = cur.size → (∀ t, de ≠ some t → (∀ r ∈ R, dstAt ops r ≠ some t) → tm[t]? = cur[t]?) →
    ∃ tm2, Later P ops w2 L cur tm2 ∧ StRel st2 tm2 df w2 M2
  | [], tm, tm', cur, S, hc, hst, hfar, hde, hq, hl, hs1, hs2, hS, hold, ht1, ht2 => by
    have : S = cur := Array.ext_getElem? fun t => hs2 t fun j hj => by cases hj
    exact ⟨cur, rfl, this ▸ hS⟩
  | i :: L, tm, tm', cur, S, hc, hst, hfar, hde, hq, ⟨x, hx, hl⟩, hs1, hs2, hS, hold, ht1, ht2 => by
    -- what it looks at, none of the list writes
    have huse : ∀ t ∈ usesAt ops i, ∀ j ∈ i :: L, dstAt ops j ≠ some t := fun t ht j hj hd => by
      rcases List.mem_cons.1 hj with rfl | hj
      · exact hc.1 t hd ht
      · exact (hc.2.1 j hj t hd).1 ht
    have hagS : Agree S cur (usesAt ops i) := ⟨hs1, fun t ht => hs2 t (huse t ht)⟩
    obtain ⟨o, ho, hqo, hval⟩ := hx
    have hu : usesAt ops i = opUses o ++ guardT ops o := by simp [usesAt, ho]
    have hdo := dstAt_of ho
    have next : ∀ x2 S2, ValAt P ops w2 cur i x2 → S2.size = S.size → (∀ t, dstAt ops i ≠ some t → S2[t]? = S[t]?) → (∀ t, dstAt ops i = some t → S2[t]? = (tput cur (dstAt ops i) x2)[t]?) → StRel st2 S2 df w2 M2 →
        (i ∉ R → x2 = x) → ∃ tm2, Later P ops w2 (i :: L) cur tm2 ∧ StRel st2 tm2 df w2 M2 := by
      intro x2 S2 hv h1 h2 h3 h4 h5
      have hrec : ∃ tm2, Later P ops w2 L (tput cur (dstAt ops i) x2) tm2 ∧ StRel st2 tm2 df w2 M2 := by
       refine relag (w := w) (R := R) (de := de) L (tput tm (dstAt ops i) x) tm' (tput cur (dstAt ops i) x2) S2 hc.2.2 (fun j hj => hst j (List.mem_cons_of_mem _ hj)) (fun j hj => hfar j (List.mem_cons_of_mem _ hj))
        (fun j hj => hde j (List.mem_cons_of_mem _ hj)) (fun j hj => hq j (List.mem_cons_of_mem _ hj)) hl (by rw [h1, size_tput, hs1]) (fun t ht => ?_) h4 (fun j hj hjR t ht => ?_) (by rw [size_tput, size_tput, ht1]) (fun t h6 h7 => ?_)
       · by_cases hd : dstAt ops i = some t
         · exact h3 t hd
         · rw [h2 t hd, get_tput hd]
           exact hs2 t fun j hj => by
             rcases List.mem_cons.1 hj with rfl | hj
             · exact hd
             · exact ht j hj
       · rw [h2 t (fun hd => (hc.2.1 j hj t ht).2 hd)]
         exact hold j (List.mem_cons_of_mem _ hj) hjR t ht
       · by_cases hd : dstAt ops i = some t
         · by_cases hiR : i ∈ R
           · exact absurd hd (h7 i hiR)
           · rw [h5 hiR, hd]
             simp only [tput, Array.getElem?_setIfInBounds, ht1]
             by_cases hlt : t < cur.size <;> simp [hlt]
         · rw [get_tput hd, get_tput hd]; exact ht2 t h6 h7
      obtain ⟨tm2, g1, g2⟩ := hrec
      exact ⟨tm2, ⟨x2, hv, g1⟩, g2⟩
    by_cases hiR : i ∈ R
    · obtain ⟨o', d, ho', hd, hs⟩ := hst i (List.mem_cons_self ..) hiR
      rw [ho] at ho'
      cases ho'
      have fin : ∀ x2, ValAt P ops w2 cur i x2 → Rep w2 M2 st2.n (lget st2.tmps d) x2 → ∃ tm2, Later P ops w2 (i :: L) cur tm2 ∧ StRel st2 tm2 df w2 M2 := by
        intro x2 hv hr
        refine next x2 (tput S o.dst x2) hv (size_tput ..) (fun t ht => get_tput (by rw [← hdo]; exact ht)) (fun t ht => ?_) ?_ (fun h => absurd hiR h)
        · rw [hdo] at ht ⊢
          rw [ht]
          simp only [tput, Array.getElem?_setIfInBounds, hs1]
          by_cases hlt : t < cur.size
          · simp [hlt]
          · simp [hlt]
        · have := hS.put hr (some d)
          rw [lget_put_self] at this
          rw [hd]
          exact this
      have hsel := isQ_select hqo
      have hexe : execOp (tev S) o = execOp (tev cur) o := (hagS.mono fun t ht => by rw [hu]; exact List.mem_append_left _ ht).exec hsel
      have hwan : Region.wanted o (yielded ops S) = Region.wanted o (yielded ops cur) := wanted_congr fun t ht => hagS.at_ t (by rw [hu]; exact List.mem_append_right _ ht)
      rcases hs with ⟨h1, h2, h3⟩ | ⟨h1, h2⟩
      · have hwn : Region.wanted o (yielded ops cur) = true := by rw [← hwan]; exact wantV_spec hS h1
        by_cases hm : isMem o = false
        · obtain ⟨x2, hr1, hr2⟩ := (h3 hm).2 S df w2 M2 hS
          exact fin x2 ⟨o, ho, hqo, .inl ⟨hwn, h2.1, by rw [← hexe]; exact hr1 w2, fun _ => by rw [← hexe]; exact hr1⟩⟩ hr2
        · obtain ⟨x2, hr1, hr2⟩ := h2.2 S df w2 M2 hS
          exact fin x2 ⟨o, ho, hqo, .inl ⟨hwn, h2.1, by rw [← hexe]; exact hr1, fun h => absurd h hm⟩⟩ hr2
      · exact fin undef ⟨o, ho, hqo, .inr ⟨by rw [← hwan]; exact wantV_spec hS h1, rfl⟩⟩ (by rw [h2]; exact .raw _)
    · obtain ⟨hm, hR⟩ := hfar i (List.mem_cons_self ..) hiR
      have hm : isMem o = false := by simpa [isMemAt, ho] using hm
      have hag : Agree tm cur (usesAt ops i) := ⟨ht1, fun t ht => ht2 t (fun hd => hde i (List.mem_cons_self ..) t hd ht) fun r hr hd => hR r hr t hd ht⟩
      have hv : ValAt P ops w2 tm i x := by
        refine ⟨o, ho, hqo, ?_⟩
        rcases hval with ⟨h1, h2, h3, h4⟩ | h
        · exact .inl ⟨h1, h2, h4 hm w2, h4⟩
        · exact .inr h
      refine next x S (hv.congr hag) rfl (fun t _ => rfl) (fun t ht => ?_) hS (fun _ => rfl)
      rw [hold i (List.mem_cons_self ..) hiR t ht, hl.other fun j hj hd => (hc.2.1 j hj t hd).2 ht, ht]
      simp only [tput, Array.getElem?_setIfInBounds, ht1]
      by_cases hlt : t < cur.size <;> simp [hlt]

/-! #### The region, by its plan. -/
def SimOk (P : Program) (ops : Array Oper) (m : Region.Mode) (done : List Nat) (K : St → Prop) (st : St) : Prop :=
  ∀ rest acc L tm tm' df w M, Inv m ops acc L done → Later P ops w L tm tm' → StRel st tm' df w M → Ord m ops acc rest → ∀ b k cs, ∃ st' tmE w' M', K st' ∧ StRel st' tmE df w' M' ∧ Tr M w M' w' ∧ Old M st.h st.n M' st'.h st'.n ∧
    Steps P (lone (here b tm df (.inRegion ops rest :: k)) cs w) (lone (here b tmE df (.inRegion ops [] :: k)) cs w')

theorem put_hn (st : St) (d : Option Tmp) (v : V) : (st.put d v).h = st.h ∧ (st.put d v).n = st.n := by cases d <;> exact ⟨rfl, rfl⟩

theorem SimOk.q {P : Program} {ops : Array Oper} {m : Region.Mode} {done : List Nat} {K : St → Prop} {st : St} {i : Nat} {o : Oper} {v : V} (hc : ckQ m ops done i = true) (ho : ops[i]? = some o) (hq : Quiet P ops o st v)
    (h : SimOk P ops m (i :: done) K (st.put o.dst v)) : SimOk P ops m done K st := by
  intro rest acc L tm tm' df w M hi hl hs hord b k cs
  have hqq : isQ o = true := by
    simp only [ckQ, Bool.and_eq_true] at hc
    simpa [isQAt, ho] using hc.1.1.1.2
  obtain ⟨x, hx, hr⟩ : ∃ x, ValAt P ops w tm' i x ∧ Rep w M st.n v x := by
    rcases hq with ⟨h1, h2, h3⟩ | ⟨h1, rfl⟩
    · by_cases hm : isMem o = false
      · obtain ⟨x, h4, h5⟩ := (h3 hm).2 tm' df w M hs
        exact ⟨x, ⟨o, ho, hqq, .inl ⟨wantV_spec hs h1, h2.1, h4 w, fun _ => h4⟩⟩, h5⟩
      · obtain ⟨x, h4, h5⟩ := h2.2 tm' df w M hs
        exact ⟨x, ⟨o, ho, hqq, .inl ⟨wantV_spec hs h1, h2.1, h4, fun h => absurd h hm⟩⟩, h5⟩
    · exact ⟨undef, ⟨o, ho, hqq, .inr ⟨wantV_spec hs h1, rfl⟩⟩, .raw _⟩
  have hs2 := hs.put hr o.dst
  have hl2 := hl.snoc hx
  rw [dstAt_of ho] at hl2
  obtain ⟨st', tmE, w', M', q1, q2, q3, q4, q5⟩ := h rest acc (L ++ [i]) tm _ df w M (hi.plan hc) hl2 hs2 hord b k cs
  rw [(put_hn ..).1, (put_hn ..).2] at q4
  exact ⟨st', tmE, w', M', q1, q2, q3, q4, q5⟩

theorem SimOk.leaf {P : Program} {ops : Array Oper} {m : Region.Mode} {done : List Nat} {K : St → Prop} {st : St} (hall : (List.range ops.size).all (fun i => done.contains i) = true) (hK : K st) : SimOk P ops m done K st := by
  intro rest
  induction rest with
  | nil =>
    intro acc L tm tm' df w M hi hl hs hord b k cs
    cases L with
    | nil => rw [show tm' = tm from hl] at hs; exact ⟨st, tm, w, M, hK, hs, .refl M w, .refl _ _ _, .refl P _⟩
    | cons i B =>
      exfalso
      have h1 := hi.ahead [] i B rfl
      have h2 := hi.off i (List.mem_cons_self ..)
      have := hord i (hi.lt i (List.mem_cons_self ..))
      simp only [free, List.nil_append] at this h1
      rw [h1] at this
      simp [h2] at this
  | cons r rest ih =>
    intro acc L tm tm' df w M hi hl hs hord b k cs
    obtain ⟨h1, h2, h3⟩ := hord
    simp only [free, Bool.and_eq_true, Bool.not_eq_true'] at h2
    have hra : r ∉ acc := by simpa using h2.1
    have hrd : r ∈ done := by simpa using List.all_eq_true.1 hall r (List.mem_range.2 h1)
    have hrL : r ∈ L := ((hi.iff r).1 hrd).resolve_left hra
    obtain ⟨A, B, rfl⟩ := List.append_of_mem hrL
    obtain ⟨x, hx, hl2⟩ := Later.remove hi.clean (fun a ha => (hi.looks A r B rfl a ha).elim id fun hp => absurd (pred_in hi.closed h2.2 hp) (hi.off a (by simp [ha]))) hl
    obtain ⟨st', tmE, w', M', q1, q2, q3, q4, q5⟩ := ih (r :: acc) (A ++ B) _ tm' df w M (hi.catch h2.2) hl2 hs h3 b k cs
    exact ⟨st', tmE, w', M', q1, q2, q3, q4, (hx.step b df rest k cs).trans q5⟩

/-- An effect has run, in the plan and in the region. -/
theorem Inv.eff {m : Region.Mode} {ops : Array Oper} {acc L done : List Nat} {i : Nat} (h : Inv m ops acc L done) (hf : predsIn m ops acc i = true) (hn : i ∉ L) : Inv m ops (i :: acc) L (i :: done) := by
  refine ⟨fun j => ?_, fun j hj hj2 => ?_, h.clean, h.quiet, fun j hj => ?_, h.lt, fun A j B hL => predsIn_mono (fun k hk => by simp only [List.mem_append, List.mem_cons] at hk ⊢; rcases hk with h1 | h1 <;> simp [h1]) (h.ahead A j B hL), h.looks, h.nodup⟩
  · simp only [List.mem_cons, h.iff j, or_assoc]
  · rcases List.mem_cons.1 hj2 with rfl | hj2
    · exact hn hj
    · exact h.off j hj hj2
  · rcases List.mem_cons.1 hj with rfl | hj
    · exact predsIn_mono (fun k hk => List.mem_cons_of_mem _ hk) hf
    · exact predsIn_mono (fun k hk => List.mem_cons_of_mem _ hk) (h.closed j hj)

theorem SimOk.node {P : Program} {ops : Array Oper} {m : Region.Mode} {done : List Nat} {K : St → Prop} {st : St} (alts : List Nat) (hne : alts ≠ []) (hsat : satur m ops done = true) (hcov : covers m ops done alts = true)
    (h : ∀ i ∈ alts, ∃ o R, ops[i]? = some o ∧ ckE m ops done R i = true ∧ Eff P ops i o st fun st' => (∀ r ∈ R, Stab P ops r st') ∧ SimOk P ops m (i :: done) K st') : SimOk P ops m done K st := by
  intro rest
  induction rest with
  | nil =>
    intro acc L tm tm' df w M hi hl hs hord b k cs
    exfalso
    cases L with
    | nil =>
      obtain ⟨i, hia⟩ := List.exists_mem_of_ne_nil alts hne
      obtain ⟨o, R, ho, hck, _⟩ := h i hia
      simp only [ckE, Bool.and_eq_true, Bool.not_eq_true'] at hck
      obtain ⟨⟨⟨⟨c1, c2⟩, _⟩, c4⟩, _⟩ := hck
      have hlt : i < ops.size := by simp [Nat.blt] at c1; omega
      have hsub : ∀ j ∈ done, j ∈ acc := fun j hj => ((hi.iff j).1 hj).resolve_right (by simp)
      have := hord i hlt
      simp only [free, predsIn_mono hsub c4, Bool.and_true, Bool.not_eq_false'] at this
      have hia : i ∈ acc := by simpa using this
      have : i ∈ done := (hi.iff i).2 (.inl hia)
      simp [this] at c2
    | cons i B =>
      have h1 := hi.ahead [] i B rfl
      have h2 := hi.off i (List.mem_cons_self ..)
      have := hord i (hi.lt i (List.mem_cons_self ..))
      simp only [free, List.nil_append] at this h1
      rw [h1] at this
      simp [h2] at this
  | cons r rest ih =>
    intro acc L tm tm' df w M hi hl hs hord b k cs
    obtain ⟨h1, h2, h3⟩ := hord
    simp only [free, Bool.and_eq_true, Bool.not_eq_true'] at h2
    have hra : r ∉ acc := by simpa using h2.1
    by_cases hrL : r ∈ L
    · obtain ⟨A, B, rfl⟩ := List.append_of_mem hrL
      obtain ⟨x, hx, hl2⟩ := Later.remove hi.clean (fun a ha => (hi.looks A r B rfl a ha).elim id fun hp => absurd (pred_in hi.closed h2.2 hp) (hi.off a (by simp [ha]))) hl
      obtain ⟨st', tmE, w', M', q1, q2, q3, q4, q5⟩ := ih (r :: acc) (A ++ B) _ tm' df w M (hi.catch h2.2) hl2 hs h3 b k cs
      exact ⟨st', tmE, w', M', q1, q2, q3, q4, (hx.step b df rest k cs).trans q5⟩
    · have hrd : r ∉ done := fun hd => ((hi.iff r).1 hd).elim hra hrL
      have hpd : predsIn m ops done r = true := predsIn_mono (fun j hj => (hi.iff j).2 (.inl hj)) h2.2
      have hmem := List.mem_range.2 h1
      have hnq : isQAt ops r = false := by
        have := List.all_eq_true.1 hsat r hmem
        cases hq : isQAt ops r
        · rfl
        · rw [hq, hpd] at this; simp [hrd] at this
      have hra2 : r ∈ alts := by
        have := List.all_eq_true.1 hcov r hmem
        rw [hnq, hpd] at this
        simpa [hrd] using this
      obtain ⟨o, R, ho, hck, heff⟩ := h r hra2
      simp only [ckE, Bool.and_eq_true, Bool.not_eq_true', List.all_eq_true, Bool.or_eq_true] at hck
      obtain ⟨_, c5⟩ := hck
      have lagf : ∀ a ∈ L, (∀ t, dstAt ops r = some t → t ∉ usesAt ops a ∧ dstAt ops a ≠ some t) ∧ (∀ t, dstAt ops a = some t → t ∉ usesAt ops r) ∧ (a ∈ R ∨ (isMemAt ops a = false ∧ ∀ q ∈ R, ∀ t, dstAt ops q = some t → t ∉ usesAt ops a)) := by
        intro a ha
        rcases c5 a ((hi.iff a).2 (.inr ha)) with (hq | hp) | ⟨⟨⟨g1, g2⟩, g3⟩, g4⟩
        · rw [hi.quiet a ha] at hq; cases hq
        · exact absurd (pred_in hi.closed h2.2 hp) (hi.off a ha)
        · refine ⟨fun t ht => ⟨disj_spec g1 t ht, fun hda => ?_⟩, disj_spec g3, ?_⟩
          · have := disj_spec g2 t ht
            simp [hda] at this
          · rcases g4 with g4 | ⟨g4, g5⟩
            · exact .inl (by simpa using g4)
            · exact .inr ⟨by simpa using g4, fun q hq => disj_spec (g5 q hq)⟩
      have hdr := dstAt_of ho
      have hur : usesAt ops r = opUses o ++ guardT ops o := by simp [usesAt, ho]
      have hagree : Agree tm' tm (usesAt ops r) := ⟨hl.size, fun t ht => hl.other fun j hj hd => (lagf j hj).2.1 t hd ht⟩
      have hwan : Region.wanted o (yielded ops tm') = Region.wanted o (yielded ops tm) := wanted_congr fun t ht => hagree.at_ t (by rw [hur]; exact List.mem_append_right _ ht)
      -- behind the effect
      have go : ∀ st1 x w1 M1, ((∀ q ∈ R, Stab P ops q st1) ∧ SimOk P ops m (r :: done) K st1) → StRel st1 (tput tm' o.dst x) df w1 M1 → Tr M w M1 w1 → Old M st.h st.n M1 st1.h st1.n →
          Steps P (lone (here b tm df (.inRegion ops (r :: rest) :: k)) cs w) (lone (here b (tput tm o.dst x) df (.inRegion ops rest :: k)) cs w1) →
          ∃ st' tmE w' M', K st' ∧ StRel st' tmE df w' M' ∧ Tr M w M' w' ∧ Old M st.h st.n M' st'.h st'.n ∧ Steps P (lone (here b tm df (.inRegion ops (r :: rest) :: k)) cs w) (lone (here b tmE df (.inRegion ops [] :: k)) cs w') := by
        intro st1 x w1 M1 ⟨hstab, hsim⟩ hst1 htr hold hsteps
        obtain ⟨tm2, g1, g2⟩ := relag (w := w) (R := R) (de := o.dst) L tm tm' (tput tm o.dst x) (tput tm' o.dst x) hi.clean (fun j hj hR => hstab j hR) (fun j hj hR => (lagf j hj).2.2.resolve_left hR)
          (fun j hj t ht => ((lagf j hj).1 t (hdr.trans ht)).1) hi.quiet hl (by rw [size_tput, size_tput, hl.size]) (fun t ht => by
            by_cases hd : o.dst = some t
            · rw [hd]; simp [tput, Array.getElem?_setIfInBounds, hl.size]
            · rw [get_tput hd, get_tput hd]; exact hl.other ht) hst1 (fun j hj _ t ht => get_tput fun hd => ((lagf j hj).1 t (hdr.trans hd)).2 ht) (size_tput ..).symm (fun t ht _ => (get_tput ht).symm)
        obtain ⟨st', tmE, w', M', q1, q2, q3, q4, q5⟩ := hsim rest (r :: acc) L _ tm2 df w1 M1 (hi.eff h2.2 hrL) g1 g2 h3 b k cs
        exact ⟨st', tmE, w', M', q1, q2, htr.trans q3, hold.trans q4, hsteps.trans q5⟩
      rcases heff with ⟨e1, e2⟩ | ⟨e1, e2⟩
      · have hw := wantV_spec hs e1
        rw [hwan] at hw
        obtain ⟨st1, x, w1, M1, p1, p2, p3, p4, p5⟩ := e2 tm' df w M hs b rest k cs tm (hagree.mono fun t ht => by rw [hur]; exact List.mem_append_left _ ht) hw
        exact go st1 x w1 M1 p1 p2 p3 p4 p5
      · have hw := wantV_spec hs e1
        rw [hwan] at hw
        have hstep := hstep_op_skip (P := P) (b := b) (df := df) (k := k) (cs := cs) (w := w) (ops := ops) (tm := tm) (i := r) (rest := rest) (by rw [ho]; simpa using hw)
        rw [ho, Option.bind_some] at hstep
        exact go _ undef w M e2 (hs.put (.raw _) o.dst) (.refl M w) (by rw [(put_hn ..).1, (put_hn ..).2]; exact .refl _ _ _) (.one hstep)

theorem AW.region_plan {P : Program} {ops : Array Oper} {m : Nat} {Q : Ex → St → Prop} {id : Nat} {st : St} (h : ∀ md ∈ modes (P.follows .mixedOrders) ops, SimOk P ops md [] (Q .normal) st) : AW P m (.region id ops true) Q st := by
  intro hm tm df w M hs b k cs _
  have g : Grow w { w with drawn := w.drawn + 1 } := Grow.drew w
  have hs' : StRel st tm df { w with drawn := w.drawn + 1 } M :=
    ⟨hs.size, fun i v hv => (hs.tmp i v hv).tr (g.tr fun _ _ h => .inl h) (fun _ _ _ h => h) (Nat.le_refl _), hs.sim.grow g, hs.marks⟩
  obtain ⟨md, hmd, hord⟩ := schedule_ord (P.follows .mixedOrders) ops (w.tape w.drawn (.order b.fn id))
  have hi : Inv md ops [] [] [] := ⟨fun i => by simp, (fun i h => by cases h), trivial, (fun i h => by cases h), (fun i h => by cases h), (fun i h => by cases h), (fun A i B h => by simp at h), (fun A i B h => by simp at h), .nil⟩
  obtain ⟨st', tm', w', M', q, r1, r2, r4, r3⟩ := h md hmd _ [] [] tm tm df _ M hi rfl hs' hord b k cs
  exact ⟨.normal, st', tm', df, w', M', q, r1, (g.tr (M := M) fun _ _ h => .inl h).trans r2, r4.weaken hm, .head hstep_region_draw (r3.trans (.one hstep_region_end))⟩
end Go.Qx
