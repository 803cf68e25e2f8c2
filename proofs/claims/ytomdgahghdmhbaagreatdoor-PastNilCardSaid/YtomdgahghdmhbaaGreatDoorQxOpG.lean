import Derived.Test.YtomdgahghdmhbaaGreatDoorQxOpF
namespace Go.Qx
open Go
set_option linter.unusedVariables false

theorem Sim.congr {w : World} {M : Mem} {h h' : Heap} {n : Nat} (hs : Sim w M h n) (he : ∀ id, h'.find id = h.find id) : Sim w M h' n :=
  ⟨hs.lt, hs.inb, hs.disj, fun id hid => by rw [he] at hid ⊢; exact hs.obj id hid⟩

theorem StRel.congr {st : St} {h' : Heap} {tm : Array Value} {df : List Deferred} {w : World} {M : Mem} (hs : StRel st tm df w M) (he : ∀ id, h'.find id = st.h.find id) :
    StRel { st with h := h' } tm df w M :=
  ⟨hs.size, hs.tmp, hs.sim.congr he, hs.marks.mono fun id _ hf => ⟨(he id).trans hf, rfl⟩⟩

theorem Tr.cut {M : Mem} {w : World} {id : Nat} : Tr M w (upd M id none) w :=
  ⟨(Tr.refl M w).ext, fun b o hf => by
    rcases foot_upd hf with h1 | ⟨q, hq, _⟩
    · exact .inl h1
    · cases hq⟩

theorem upd_cut {M : Mem} {id n : Nat} : ∀ j q, j < n → upd M id none j = some q → M j = some q := by
  intro j q _ hq
  by_cases hj : j = id
  · subst hj; rw [upd_same] at hq; cases hq
  · rwa [upd_other _ _ hj] at hq

/-- A token is given up. -/
theorem StRel.kill {st : St} {tm : Array Value} {df : List Deferred} {w : World} {M : Mem} {id k : Nat} (h : StRel st tm df w M) (hnd : st.h.find id = .own k) :
    StRel { st with h := (id, .dead) :: st.h } tm df w (upd M id none) := by
  have hs := h.sim
  obtain ⟨b, t, e, hp, _⟩ := hs.own id k hnd
  have hsim : Sim w (upd M id none) ((id, .dead) :: st.h) st.n := by
    refine Sim.of_obj (fun j q hq => hs.lt j q (upd_cut j q (Nat.lt_succ_self j) hq)) (fun j q b o hq hf => hs.inb j q b o (upd_cut j q (Nat.lt_succ_self j) hq) hf)
      (fun i j p q b o hi hj => hs.disj i j p q b o (upd_cut i p (Nat.lt_succ_self i) hi) (upd_cut j q (Nat.lt_succ_self j) hj)) fun j hj => ?_
    rw [Heap.find_new] at hj ⊢
    by_cases hji : id = j
    · simp [hji] at hj
    · simp only [hji, if_false] at hj ⊢
      obtain ⟨q, hq, hqok⟩ := hs.obj j hj
      refine ⟨q, by rw [upd_other _ _ (Ne.symm hji)]; exact hq, hqok.tr Tr.cut (fun i r hi hr => upd_cut i r hi hr) (fun i D hDk hD => ?_) (Nat.le_refl _) (fun _ _ _ => ⟨rfl, rfl⟩) (fun _ _ => rfl)⟩
      have hi2 : i ≠ id := by rintro rfl; rw [hp] at hD; obtain ⟨b, rfl | rfl⟩ := hDk <;> cases hD
      rw [upd_other _ _ hi2]; exact hD
  refine h.tr Tr.cut (fun i r hi hr => upd_cut i r hi hr) (Nat.le_refl _) hsim fun j hj hf => ?_
  have hji : id ≠ j := by rintro rfl; rw [hnd] at hf; cases hf
  exact ⟨by rw [Heap.find_new, if_neg hji]; exact hf, upd_other _ _ (Ne.symm hji)⟩

/-- A token without room. -/
theorem StRel.newTip {st : St} {tm : Array Value} {df : List Deferred} {w : World} {M : Mem} (h : StRel st tm df w M) (b t e k : Nat) (he : e ≤ t) :
    StRel (st.new (.own k)) tm df w (upd M st.n (some (.tip b t e k))) ∧ Tr M w (upd M st.n (some (.tip b t e k))) w :=
  h.new (Grow.refl w) (.tip b t e k) (.own k) (fun b' o hf => by have := hf.2; omega) (fun _ => ⟨b, t, e, rfl, fun o h1 h2 => by omega⟩)

/-- The elements that are appended: so many cells at a place. -/
theorem rep_cells {w : World} {M : Mem} {n : Nat} {es : List V} {nn : Bool} {tok : Option Nat} {x : Value} {k : Nat} (h : Rep w M n (.sl es nn tok) x) (hk : ∀ e, es.head? = some e → e.cells.length = k) :
    ((x = .slice none 0 0 ∨ tok = none ∧ ∃ a, x = .slice (some a) 0 0) ∧ es = []) ∨ ∃ (b o cap : Nat) (ys : List Value), x = .slice (some ⟨b, o, none⟩) es.length cap ∧ ys.length = es.length * k ∧ (∀ j v, ys[j]? = some v → w.cell? ((⟨b, o, none⟩ : Addr).add j) = some v) ∧
      (∀ u ∈ ys, u.oneCell' = true) ∧ (∀ i v, (es.flatMap V.cells)[i]? = some v → Rep w M 0 v (ys.getD i undef)) ∧ (∀ j v, ys[j]? = some v → ¬ foot M b (o + j)) ∧ ∀ e ∈ es, e.cells.length = k := by
  cases h with
  | slNil => exact .inl ⟨.inl rfl, rfl⟩
  | slE a => exact .inl ⟨.inr ⟨rfl, a, rfl⟩, rfl⟩
  | @sl _ _ _ _ b o cap k' y hlen hk' hc ho hr ht =>
    have hkk : ∀ e ∈ es, e.cells.length = k := by
      cases es with
      | nil => intro e he; cases he
      | cons e r => intro e' he'; rw [hk' e' he', ← hk' e (List.mem_cons_self ..)]; exact hk e rfl
    have hlk : es.length * k' = es.length * k := by
      cases es with
      | nil => simp
      | cons e r => rw [← hk' e (List.mem_cons_self ..), hk e rfl]
    refine .inr ⟨b, o, cap, (List.range (es.length * k)).map y, rfl, by simp, fun j v hv => ?_, fun u hu => ?_, fun i v hv => ?_, fun j v hv => ?_, hkk⟩
    · simp only [List.getElem?_map, Option.map_eq_some_iff] at hv
      obtain ⟨j', hj', rfl⟩ := hv
      have hj : j < es.length * k ∧ j = j' := by
        obtain ⟨hlt, he⟩ := List.getElem?_eq_some_iff.1 hj'
        simp at hlt he
        exact ⟨hlt, he⟩
      rw [add_at]; obtain ⟨h1, rfl⟩ := hj; exact (hc j (by omega)).1
    · simp only [List.mem_map, List.mem_range] at hu
      obtain ⟨j, hj, rfl⟩ := hu
      exact ho j (by omega)
    · have hi : i < es.length * k := by
        rw [← flat_len hkk]
        rcases Nat.lt_or_ge i (es.flatMap V.cells).length with h | h
        · exact h
        · simp [List.getElem?_eq_none h] at hv
      have := hr i v hv
      simpa [List.getD_eq_getElem?_getD, hi] using this
    · have hj : j < es.length * k := by
        rcases Nat.lt_or_ge j (es.length * k) with h | h
        · exact h
        · simp [List.getElem?_eq_none (show ((List.range (es.length * k)).map y).length ≤ j by simpa using h)] at hv
      exact (hc j (by omega)).2

theorem run_append_call {P : Program} {o : Oper} {tm : Array Value} {w w' : World} {a b : Operand} {ats : Array TypeId} {x : Value} (ho : o.op = .call { callee := .builtin .append, args := #[a, b], argTypes := ats })
    (h : (Builtin.append_ ats o.type #[tev tm a, tev tm b]).run P w = .ok x w') : (execOp (tev tm) o).run P w = .ok (.value x) w' := by
  simp only [execOp, ho]
  simp [resolve, invoke, builtin, h]

/-- What an append asks and tells, whatever row it goes to. -/
structure AppSpec (P : Program) (t el : TypeId) (i : TypeInfo) (z : Value) : Prop where
  ty : P.underlying t = some (.slice el)
  info : P.info? el = some i
  zero : i.zero = some z
  size : z.cells.size = i.size
  pos : 0 < i.size

theorem getD_append {l r : List Value} (i : Nat) : (l ++ r).getD i undef = if i < l.length then l.getD i undef else r.getD (i - l.length) undef := by
  simp only [List.getD_eq_getElem?_getD]
  split
  · rw [List.getElem?_append_left (by assumption)]
  · rw [List.getElem?_append_right (by omega)]

/-- The cells of a grown row. -/
theorem grown_row {P : Program} {t el : TypeId} {i : TypeInfo} {z : Value} (sp : AppSpec P t el i z) {st : St} {tm : Array Value} {df : List Deferred} {w : World} {M : Mem} (hs : StRel st tm df w M) {es es2 : List V} {olds news : List Value} {newCap : Nat} (nn : Bool)
    (hk1 : ∀ e ∈ es, e.cells.length = i.size) (hk2 : ∀ e ∈ es2, e.cells.length = i.size) (hl1 : olds.length = es.length * i.size) (hl2 : news.length = es2.length * i.size) (h1 : ∀ u ∈ olds, u.oneCell' = true) (h2 : ∀ u ∈ news, u.oneCell' = true)
    (hr1 : ∀ j v, (es.flatMap V.cells)[j]? = some v → Rep w M 0 v (olds.getD j undef)) (hr2 : ∀ j v, (es2.flatMap V.cells)[j]? = some v → Rep w M 0 v (news.getD j undef)) (hc : es.length + es2.length ≤ newCap) :
    ∃ M', StRel (st.new (.own i.size)) tm df (w.drew.alloc (.cells (olds.toArray ++ news.toArray ++ Builtin.zeroCells z.cells (newCap - (es.length + es2.length))) el)) M' ∧
      Tr M w M' (w.drew.alloc (.cells (olds.toArray ++ news.toArray ++ Builtin.zeroCells z.cells (newCap - (es.length + es2.length))) el)) ∧
      Rep (w.drew.alloc (.cells (olds.toArray ++ news.toArray ++ Builtin.zeroCells z.cells (newCap - (es.length + es2.length))) el)) M' (st.n + 1) (.sl (es ++ es2) nn (some st.n)) (.slice (some ⟨w.heap.size, 0, none⟩) (es.length + es2.length) newCap) ∧ Old M st.h st.n M' (st.new (.own i.size)).h (st.new (.own i.size)).n := by
  have hk : ∀ e ∈ es ++ es2, e.cells.length = i.size := fun e he => by
    rcases List.mem_append.1 he with h | h
    · exact hk1 e h
    · exact hk2 e h
  have hget : ∀ m, m < (es ++ es2).length * i.size → (olds.toArray ++ news.toArray ++ Builtin.zeroCells z.cells (newCap - (es.length + es2.length))).getD m undef = (olds ++ news).getD m undef := fun m hm => by
    have hm' : m < (olds ++ news).length := by simp only [List.length_append, hl1, hl2, Nat.add_mul] at hm ⊢; exact hm
    have e : olds.toArray ++ news.toArray = (olds ++ news).toArray := by simp
    rw [e]
    simp only [Array.getD_eq_getD_getElem?, List.getD_eq_getElem?_getD]
    rw [Array.getElem?_append_left (by simpa using hm')]
    simp
  have := hs.newRow (Grow.drew w) rfl (es := es ++ es2) (cells := olds.toArray ++ news.toArray ++ Builtin.zeroCells z.cells (newCap - (es.length + es2.length))) (k := i.size) (cap := newCap) nn el (by simpa using hc) hk
    (by
      simp only [Array.size_append, List.size_toArray, size_zeroCells, sp.size, hl1, hl2, ← Nat.add_mul]
      congr 1; omega)
    (fun m hm => by
      rw [hget m hm]
      simp only [List.length_append, Nat.add_mul] at hm
      have hm' : m < (olds ++ news).length := by simp only [List.length_append, hl1, hl2]; exact hm
      have : (olds ++ news).getD m undef = (olds ++ news)[m] := by rw [List.getD_eq_getElem?_getD, List.getElem?_eq_getElem hm']; rfl
      rw [this]
      rcases List.mem_append.1 (List.getElem_mem hm') with h | h
      · exact h1 _ h
      · exact h2 _ h)
    (fun m v hv => by
      have hm : m < (es ++ es2).length * i.size := by
        rw [← flat_len hk]
        exact (List.getElem?_eq_some_iff.1 hv).1
      rw [hget m hm, getD_append, hl1]
      rw [List.flatMap_append] at hv
      have hfl := flat_len hk1
      split
      · rename_i hlt
        rw [List.getElem?_append_left (by omega)] at hv
        exact hr1 m v hv
      · rename_i hlt
        rw [List.getElem?_append_right (by omega), hfl] at hv
        exact hr2 _ v hv)
  simpa using this

theorem OpOk.congr {P : Program} {o : Oper} {st : St} {st₁ st₂ : St} (h : OpOk P o st st₁) (ht : st₂.tmps = st₁.tmps) (hn : st₂.n = st₁.n) (hm : st₂.marks = st₁.marks) (he : ∀ id, st₂.h.find id = st₁.h.find id) : OpOk P o st st₂ := by
  refine ⟨h.1, fun tm df w M hs => ?_⟩
  obtain ⟨r, x, w', M', hr, hx, h1, h2, h4⟩ := h.2 tm df w M hs
  refine ⟨r, x, w', M', hr, hx, ?_, h2, by rw [hn]; exact h4.congr he⟩
  have := h1.congr he
  obtain ⟨t2, h2', n2, m2⟩ := st₂
  simp only at ht hn hm
  subst ht; subst hn; subst hm
  exact this

/-- What stands behind an append: the token that is used up is dead. -/
def afterApp (st : St) (tk : Option Nat) (k : Nat) : St :=
  match tk with
  | some id => { st with h := (st.n, .own k) :: (id, .dead) :: st.h, n := st.n + 1 }
  | none => st.new (.own k)

/-- APPEND: what is put behind a row that the state owns. -/
theorem append_core {P : Program} {o : Oper} {st : St} {t el : TypeId} {i : TypeInfo} {z : Value} {a b : Operand} {es es2 : List V} {nn nn2 : Bool} {tk : Nat} {tok2 : Option Nat}
    (ho : o.op = .call { callee := .builtin .append, args := #[a, b], argTypes := #[t, t] }) (sp : AppSpec P t el i z)
    (hown : st.h.find tk = .own i.size) (hk1 : ∀ e, es.head? = some e → e.cells.length = i.size) (hk2 : ∀ e, es2.head? = some e → e.cells.length = i.size)
    (hfit : (es.length + es2.length) * i.bytes ≤ 140737488355328) (hfit' : es.length + es2.length ≤ 140737488355328)
    {tm : Array Value} {df : List Deferred} {w : World} {M : Mem} (hs : StRel st tm df w M) (h1 : Rep w M st.n (.sl es nn (some tk)) (tev tm a)) (h2 : Rep w M st.n (.sl es2 nn2 tok2) (tev tm b)) :
    ∃ x w' M', (execOp (tev tm) o).run P w = .ok (.value x) w' ∧ StRel (afterApp st (some tk) i.size) tm df w' M' ∧ Tr M w M' w' ∧ Rep w' M' (st.n + 1) (.sl (es ++ es2) nn (some st.n)) x ∧ Old M st.h st.n M' (afterApp st (some tk) i.size).h (afterApp st (some tk) i.size).n := by
  have hkill := hs.kill hown
  have hko : Old M st.h st.n (upd M tk none) ((tk, .dead) :: st.h) st.n := Old.kill (by rw [hown]; rfl)
  have hnil : ∀ v, (List.flatMap V.cells ([] : List V))[(0 : Nat)]? = some v → False := by simp
  -- the elements that come
  have c2 := rep_cells h2 hk2
  have c1 := rep_cells h1 hk1
  -- how a call is run
  have run : ∀ x w', (Builtin.append_ #[t, t] o.type #[tev tm a, tev tm b]).run P w = .ok x w' → (execOp (tev tm) o).run P w = .ok (.value x) w' := fun x w' h => run_append_call ho h
  rcases c1 with ⟨e1, rfl⟩ | ⟨b1, o1, cap, olds, e1, l1, q1, one1, r1, nf1, kk1⟩
  · -- nothing stood there, and there was no memory
    have e1 : tev tm a = .slice none 0 0 := by
      rcases e1 with h | ⟨h, _⟩
      · exact h
      · cases h
    have hnn : nn = false := by rw [e1] at h1; cases h1; rfl
    subst hnn
    rcases c2 with ⟨e2, rfl⟩ | ⟨b2, o2, cap2, news, e2, l2, q2, one2, r2, nf2, kk2⟩
    · refine ⟨.slice none 0 0, w, _, run _ _ ?_, (hkill.newTip 0 0 0 i.size (Nat.le_refl _)).1, Tr.cut.trans (hkill.newTip 0 0 0 i.size (Nat.le_refl _)).2, .slNil ?_, hko.trans (Old.new hkill.sim _ _)⟩
      · rcases e2 with e2 | ⟨_, a', e2⟩
        · rw [e1, e2]
          simp [Builtin.append_, run_underlying sp.ty, sizeOf, typeInfo, sp.info, Builtin.lenOf, Builtin.firstCells]
        · rw [e1, e2]
          simp [Builtin.append_, run_underlying sp.ty, sizeOf, typeInfo, sp.info, Builtin.lenOf, Builtin.firstCells, loadCells, loadCellsFrom]
      · intro t' ht'
        cases ht'
        refine ⟨Nat.lt_succ_self _, fun b t' e k hm => ?_⟩
        simp only [upd_same, Option.some.injEq, Plc.tip.injEq] at hm
        omega
    · by_cases hm : es2.length = 0
      · have hes : es2 = [] := List.eq_nil_of_length_eq_zero hm
        subst hes
        refine ⟨.slice none 0 0, w, _, run _ _ ?_, (hkill.newTip 0 0 0 i.size (Nat.le_refl _)).1, Tr.cut.trans (hkill.newTip 0 0 0 i.size (Nat.le_refl _)).2, .slNil ?_, hko.trans (Old.new hkill.sim _ _)⟩
        · rw [e1, e2]
          simp [Builtin.append_, run_underlying sp.ty, sizeOf, typeInfo, sp.info, Builtin.lenOf, Builtin.firstCells, loadCells, loadCellsFrom]
        · intro t' ht'
          cases ht'
          refine ⟨Nat.lt_succ_self _, fun b t' e k hm => ?_⟩
          simp only [upd_same, Option.some.injEq, Plc.tip.injEq] at hm
          omega
      · simp only [List.length_nil, Nat.zero_add] at hfit hfit'
        have hr := run_append_nil (P := P) w t o.type el i z sp.ty sp.info sp.zero ⟨b2, o2, none⟩ es2.length cap2 news l2 q2 (by omega) (by omega) (by omega)
        obtain ⟨M', g1, g2, g3, g4⟩ := grown_row sp hkill (es := []) (es2 := es2) (olds := []) (news := news) (newCap := grownCap w es2.length 0 el) false (by simp) kk2 (by simp) l2 (by simp) one2 (by simp) (fun j v hv => (r2 j v hv).tr Tr.cut (fun j q h => absurd h (Nat.not_lt_zero _)) (Nat.le_refl _)) (by simpa using grownCap_ge w es2.length 0 el)
        simp only [List.length_nil, Nat.zero_add, List.nil_append, Array.empty_append] at g1 g2 g3 g4
        refine ⟨_, _, M', run _ _ (by rw [e1, e2]; exact hr), g1, Tr.cut.trans g2, g3, hko.trans g4⟩
  · -- a row of the state's own
    obtain ⟨bt, tt, et, hMt, hreg⟩ := hs.sim.own tk _ hown
    have htk : tk < st.n := hs.sim.lt tk _ hMt
    have htok : (et ≤ tt ∧ cap = es.length) ∨ (bt = b1 ∧ tt = o1 + es.length * i.size ∧ et = o1 + cap * i.size) := by
      rw [e1] at h1
      cases h1 with
      | sl _ _ _ _ _ ht =>
        rcases (ht tk rfl).2 bt tt et _ hMt with ⟨p1, p2, p3⟩ | ⟨p1, p2, p3, p4⟩
        · exact .inl ⟨p1, p2⟩
        · right; subst p2; exact ⟨p1, p3, p4⟩
    -- in place
    have inplace : ∀ (news : List Value), news.length = es2.length * i.size → (∀ u ∈ news, u.oneCell' = true) → (∀ j v, (es2.flatMap V.cells)[j]? = some v → Rep w M 0 v (news.getD j undef)) → (∀ e ∈ es2, e.cells.length = i.size) →
        es.length + es2.length ≤ cap → (es2.length = 0 ∨ (bt = b1 ∧ tt = o1 + es.length * i.size ∧ et = o1 + cap * i.size)) → (∀ W : World, (Builtin.firstCells i.size es2.length (tev tm b)).run P w = .ok news.toArray w) → (Builtin.lenOf (tev tm b)).run P w = .ok es2.length w →
        ∃ x w' M', (execOp (tev tm) o).run P w = .ok (.value x) w' ∧ StRel (afterApp st (some tk) i.size) tm df w' M' ∧ Tr M w M' w' ∧ Rep w' M' (st.n + 1) (.sl (es ++ es2) nn (some st.n)) x ∧ Old M st.h st.n M' (afterApp st (some tk) i.size).h (afterApp st (some tk) i.size).n := by
      intro news l2 one2 r2 kk2 hroom hstr hf hl
      have hz : es2.length = 0 → news = [] := fun h => List.eq_nil_of_length_eq_zero (by rw [l2, h]; simp)
      have hmul : (es.length + es2.length) * i.size ≤ cap * i.size := Nat.mul_le_mul_right _ hroom
      have hadd : (es.length + es2.length) * i.size = es.length * i.size + es2.length * i.size := Nat.add_mul ..
      have hin : ∀ j, j < news.length → bt = b1 ∧ tt = o1 + es.length * i.size ∧ et = o1 + cap * i.size := fun j hj => by
        rcases hstr with h | h
        · rw [hz h] at hj; simp at hj
        · exact h
      have hcell : ∀ j, j < news.length → (w.cell? ⟨b1, o1 + es.length * i.size + 0 + j, none⟩).isSome = true := fun j hj => by
        obtain ⟨rfl, h2, h3⟩ := hin j hj
        obtain ⟨⟨y, hy⟩, _⟩ := hreg (o1 + es.length * i.size + j) (by omega) (by omega)
        rw [Nat.add_zero, hy]; rfl
      have hfr : ∀ j, j < news.length → w.frozen? ⟨b1, o1 + es.length * i.size + 0 + j, none⟩ = false := fun j hj => by
        obtain ⟨rfl, h2, h3⟩ := hin j hj
        rw [Nat.add_zero]; exact (hreg (o1 + es.length * i.size + j) (by omega) (by omega)).2
      have hst := run_storeCells_cells (P := P) b1 (o1 + es.length * i.size) news 0 w hcell hfr one2
      simp only [Nat.add_zero] at hst hcell hfr
      have hrun : (Builtin.append_ #[t, t] o.type #[tev tm a, tev tm b]).run P w = .ok (.slice (some ⟨b1, o1, none⟩) (es.length + es2.length) cap) (w.setCells b1 (o1 + es.length * i.size) news) := by
        rw [e1]
        simp [Builtin.append_, run_underlying sp.ty, sizeOf, typeInfo, sp.info, hl, hroom, hf w, add_at, hst]
      have hchg : Chg (.tip bt tt et i.size) w (w.setCells b1 (o1 + es.length * i.size) news) := setCells_chg fun j hj => by
        obtain ⟨rfl, h2, h3⟩ := hin j hj
        exact ⟨rfl, by omega, by omega⟩
      have hset := hs.set (id := tk) (o' := .own i.size) hMt (by rw [hown]; simp) hchg (fun _ => ⟨bt, tt, et, rfl, fun o' h1' h2' => by
        obtain ⟨⟨y, hy⟩, hf'⟩ := hreg o' h1' h2'
        refine ⟨?_, (World.frozen?_setCells b1 news _ w _).trans hf'⟩
        by_cases hm : bt = b1 ∧ o1 + es.length * i.size ≤ o' ∧ o' < o1 + es.length * i.size + news.length
        · obtain ⟨rfl, h3', h4'⟩ := hm
          obtain ⟨j, rfl⟩ : ∃ j, o' = o1 + es.length * i.size + j := ⟨o' - (o1 + es.length * i.size), by omega⟩
          exact ⟨_, World.cell?_setCells_in bt news _ w hcell j (by omega)⟩
        · rw [World.cell?_setCells_out b1 news _ w _ (fun hb _ => by simp only at hb; subst hb; simp only; omega)]
          exact ⟨y, hy⟩⟩)
      have hfind : (st.set tk (.own i.size)).h.find tk = .own i.size := by simp only [St.set]; rw [Heap.find_new, if_pos rfl]
      have hmv := hset.1.move (id := tk) (t' := tt + es2.length * i.size) hMt hfind (Nat.le_add_right _ _)
      have hcg := hmv.1.congr (h' := (st.n, .own i.size) :: (tk, .dead) :: st.h) (fun id => by
        simp only [St.set]
        rw [Heap.find_new, Heap.find_new, Heap.find_new, Heap.find_new, Heap.find_new]
        by_cases h1' : st.n = id
        · simp [h1']
        · by_cases h2' : tk = id
          · simp [h1', h2']
          · simp [h1', h2'])
      have hk : ∀ e ∈ es ++ es2, e.cells.length = i.size := fun e he => by
        rcases List.mem_append.1 he with h | h
        · exact kk1 e h
        · exact kk2 e h
      have htr := hset.2.trans hmv.2
      have hnf : ∀ o', foot (upd (upd M tk none) st.n (some (.tip bt (tt + es2.length * i.size) et i.size))) b1 o' → foot (upd M tk none) b1 o' ∨ (bt = b1 ∧ tt + es2.length * i.size ≤ o' ∧ o' < et) := fun o' hf' => by
        rcases foot_upd hf' with h | ⟨q, hq, h⟩
        · exact .inl h
        · cases hq; exact .inr ⟨h.1.symm, h.2⟩
      have hold : Old M st.h st.n (upd (upd M tk none) st.n (some (.tip bt (tt + es2.length * i.size) et i.size))) ((st.n, .own i.size) :: (tk, .dead) :: st.h) (st.n + 1) := hko.trans (Old.new hkill.sim _ _)
      refine ⟨_, _, _, run _ _ hrun, hcg, htr, ?_, hold⟩
      have hlen : (es ++ es2).length = es.length + es2.length := by simp
      rw [← hlen]
      refine .sl (k := i.size) (y := fun m => (olds ++ news).getD m undef) (by omega) hk (fun m hm => ?_) (fun m hm => ?_) (fun m v hv => ?_) ?_
      · rw [hlen, hadd] at hm
        by_cases hmo : m < es.length * i.size
        · have hm' : m < olds.length := by omega
          refine ⟨?_, fun hf' => ?_⟩
          · rw [World.cell?_setCells_out b1 news _ w _ (fun _ _ => by simp only; omega), getD_append, if_pos hm']
            have := q1 m olds[m] (by simp [hm'])
            rw [add_at] at this
            rw [this]; simp [List.getD_eq_getElem?_getD, hm']
          · rcases hnf _ hf' with h | ⟨h, h3, h4⟩
            · obtain ⟨id, q, hq, hfq⟩ := h
              exact nf1 m olds[m] (by simp [hm']) ⟨id, q, upd_cut id q (Nat.lt_succ_self id) hq, hfq⟩
            · rcases htok with ⟨p1, p2⟩ | ⟨p1, p2, p3⟩ <;> omega
        · have hm2 : m - es.length * i.size < news.length := by omega
          obtain ⟨rfl, h2', h3'⟩ := hin _ hm2
          obtain ⟨j, rfl⟩ : ∃ j, m = es.length * i.size + j := ⟨m - es.length * i.size, by omega⟩
          rw [show es.length * i.size + j - es.length * i.size = j by omega] at hm2
          refine ⟨?_, fun hf' => ?_⟩
          · rw [← Nat.add_assoc, World.cell?_setCells_in bt news _ w hcell j hm2, getD_append, if_neg (by omega), show es.length * i.size + j - olds.length = j by omega]
            simp [List.getD_eq_getElem?_getD, hm2]
          · rcases hnf _ hf' with h | ⟨h, h3, h4⟩
            · obtain ⟨id, q, hq, hfq⟩ := h
              have hq' := upd_cut id q (Nat.lt_succ_self id) hq
              have := hs.sim.disj tk id _ q bt _ hMt hq' ⟨rfl, by omega, by omega⟩ hfq
              subst this
              rw [upd_same] at hq; cases hq
            · omega
      · rw [hlen, hadd] at hm
        have hm' : m < (olds ++ news).length := by simp only [List.length_append]; omega
        have : (olds ++ news).getD m undef = (olds ++ news)[m] := by rw [List.getD_eq_getElem?_getD, List.getElem?_eq_getElem hm']; rfl
        simp only [this]
        rcases List.mem_append.1 (List.getElem_mem hm') with h | h
        · exact one1 _ h
        · exact one2 _ h
      · rw [List.flatMap_append] at hv
        have hfl := flat_len kk1
        simp only [getD_append, l1]
        have hcut : ∀ {v x}, Rep w M 0 v x → Rep _ _ 0 v x := fun h => h.tr htr (fun id q hid => absurd hid (Nat.not_lt_zero _)) (Nat.le_refl _)
        split
        · rw [List.getElem?_append_left (by omega)] at hv
          exact hcut (r1 m v hv)
        · rw [List.getElem?_append_right (by omega), hfl] at hv
          exact hcut (r2 _ v hv)
      · intro t' ht'
        cases ht'
        refine ⟨Nat.lt_succ_self _, fun b' t' e' k' hm => ?_⟩
        have hm := (upd_same _ (st.set tk (.own i.size)).n _).symm.trans hm
        simp only [Option.some.injEq, Plc.tip.injEq] at hm
        obtain ⟨rfl, rfl, rfl, rfl⟩ := hm
        rw [hlen]
        rcases htok with ⟨p1, p2⟩ | ⟨p1, p2, p3⟩
        · exact .inl ⟨by omega, by omega, .inl rfl⟩
        · exact .inr ⟨p1, rfl, by rw [hadd]; omega, by omega⟩
    rcases c2 with ⟨e2, rfl⟩ | ⟨b2, o2, cap2, news, e2, l2, q2, one2, r2, nf2, kk2⟩
    · have hcl : es.length ≤ cap := by rw [e1] at h1; cases h1; assumption
      exact inplace [] (by simp) (by simp) (by simp) (by simp) (by simpa using hcl) (.inl rfl) (fun _ => by
        rcases e2 with e2 | ⟨_, a', e2⟩
        · rw [e2]; simp [Builtin.firstCells]
        · rw [e2]; simp [Builtin.firstCells, loadCells, loadCellsFrom]) (by
        rcases e2 with e2 | ⟨_, a', e2⟩ <;> (rw [e2]; simp [Builtin.lenOf]))
    · by_cases hroom : es.length + es2.length ≤ cap
      · refine inplace news l2 one2 r2 kk2 hroom ?_ (fun _ => by rw [e2]; exact run_firstCells_some w i.size es2.length ⟨b2, o2, none⟩ _ _ news l2 q2) (by rw [e2]; simp [Builtin.lenOf])
        rcases htok with ⟨p1, p2⟩ | h
        · exact .inl (by omega)
        · exact .inr h
      · have hr := run_append_grow (P := P) w t o.type el i z sp.ty sp.info sp.zero ⟨b1, o1, none⟩ es.length cap olds l1 q1 ⟨b2, o2, none⟩ es2.length cap2 news l2 q2 (by omega) (by omega) (growslice_fits (by omega) hfit)
        have hcut : ∀ {v x}, Rep w M 0 v x → Rep w (upd M tk none) 0 v x := fun h => h.tr Tr.cut (fun j q h => absurd h (Nat.not_lt_zero _)) (Nat.le_refl _)
        obtain ⟨M', g1, g2, g3, g4⟩ := grown_row sp hkill (es := es) (es2 := es2) (olds := olds) (news := news) (newCap := grownCap w (es.length + es2.length) cap el) nn kk1 kk2 l1 l2 one1 one2 (fun j v hv => hcut (r1 j v hv)) (fun j v hv => hcut (r2 j v hv)) (grownCap_ge w _ cap el)
        exact ⟨_, _, M', run _ _ (by rw [e1, e2]; exact hr), g1, Tr.cut.trans g2, g3, hko.trans g4⟩

def asSl : V → Option (List V × Bool × Option Nat)
  | .sl es nn tok => some (es, nn, tok)
  | .raw (.slice none 0 0) => some ([], false, none)
  | _ => none

theorem asSl_rep {w : World} {M : Mem} {n : Nat} {v : V} {x : Value} {es : List V} {nn : Bool} {tok : Option Nat} (h : Rep w M n v x) (hv : asSl v = some (es, nn, tok)) : Rep w M n (.sl es nn tok) x := by
  unfold asSl at hv
  split at hv
  · simp only [Option.some.injEq, Prod.mk.injEq] at hv; obtain ⟨rfl, rfl, rfl⟩ := hv; exact h
  · simp only [Option.some.injEq, Prod.mk.injEq] at hv; obtain ⟨rfl, rfl, rfl⟩ := hv
    rw [h.raw_inv]; exact .slNil fun t ht => by cases ht
  · cases hv

theorem OpOk.append {P : Program} {o : Oper} {st : St} {t el : TypeId} {i : TypeInfo} {z : Value} {a b : Operand} {es es2 : List V} {nn nn2 : Bool} {tk : Nat} {tok2 : Option Nat}
    (ho : o.op = .call { callee := .builtin .append, args := #[a, b], argTypes := #[t, t] }) (sp : AppSpec P t el i z) (ha : st.opd a = .sl es nn (some tk)) (hb : asSl (st.opd b) = some (es2, nn2, tok2))
    (hown : st.h.find tk = .own i.size) (hk1 : ∀ e, es.head? = some e → e.cells.length = i.size) (hk2 : ∀ e, es2.head? = some e → e.cells.length = i.size)
    (hfit : (es.length + es2.length) * i.bytes ≤ 140737488355328) (hfit' : es.length + es2.length ≤ 140737488355328) :
    OpOk P o st ((afterApp st (some tk) i.size).put o.dst (.sl (es ++ es2) nn (some st.n))) := by
  refine OpOk.value (by intro c hc; simp [ho] at hc) fun tm df w M hs => ?_
  have h1 := hs.opd' a
  rw [ha] at h1
  exact append_core ho sp hown hk1 hk2 hfit hfit' hs h1 (asSl_rep (hs.opd' b) hb)

theorem OpOk.appendNil {P : Program} {o : Oper} {st : St} {t el : TypeId} {i : TypeInfo} {z : Value} {a b : Operand} {es2 : List V} {nn2 : Bool} {tok2 : Option Nat}
    (ho : o.op = .call { callee := .builtin .append, args := #[a, b], argTypes := #[t, t] }) (sp : AppSpec P t el i z) (ha : st.opd a = .raw (.slice none 0 0)) (hb : asSl (st.opd b) = some (es2, nn2, tok2))
    (hk2 : ∀ e, es2.head? = some e → e.cells.length = i.size) (hfit : es2.length * i.bytes ≤ 140737488355328) (hfit' : es2.length ≤ 140737488355328) :
    OpOk P o st ((afterApp (st.new (.own i.size)) (some st.n) i.size).put o.dst (.sl es2 false (some (st.n + 1)))) := by
  refine OpOk.value (by intro c hc; simp [ho] at hc) fun tm df w M hs => ?_
  have h1 := hs.opd' a
  rw [ha] at h1
  obtain ⟨hs1, ht1⟩ := hs.newTip 0 0 0 i.size (Nat.le_refl _)
  have h2 := (asSl_rep (hs.opd' b) hb).tr ht1 (fun id q => upd_old id q) (Nat.le_succ _)
  have h1' : Rep w (upd M st.n (some (.tip 0 0 0 i.size))) (st.new (.own i.size)).n (.sl [] false (some st.n)) (tev tm a) := by
    rw [h1.raw_inv]
    refine .slNil fun t ht => ?_
    cases ht
    refine ⟨Nat.lt_succ_self _, fun b t' e k hm => ?_⟩
    simp only [upd_same, Option.some.injEq, Plc.tip.injEq] at hm
    omega
  obtain ⟨x, w', M', r1, r2, r3, r4, r5⟩ := append_core (es := []) (nn := false) ho sp (st := st.new (.own i.size)) (tk := st.n) (by simp [St.new, Heap.find]) (by simp) hk2 (by simpa using hfit) (by simpa using hfit') hs1 h1' h2
  exact ⟨x, w', M', r1, r2, ht1.trans r3, r4, (Old.new hs.sim _ _).trans r5⟩

end Go.Qx
