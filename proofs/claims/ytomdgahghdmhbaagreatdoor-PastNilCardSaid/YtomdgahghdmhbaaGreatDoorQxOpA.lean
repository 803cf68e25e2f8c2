import Derived.Test.YtomdgahghdmhbaaGreatDoorQxMem
namespace Go.Qx
open Go
set_option linter.unusedVariables false

/-- AN OPERATION, from whatever memory holds the state, comes to the state told. -/
def OpOk (P : Program) (o : Oper) (st st' : St) : Prop :=
  (∀ c, o.op ≠ .defer c) ∧ ∀ tm df w M, StRel st tm df w M → ∃ r x w' M', (execOp (tev tm) o).run P w = .ok r w' ∧ (r = .value x ∨ (r = .skip ∧ x = undef)) ∧ StRel st' (tput tm o.dst x) df w' M' ∧ Tr M w M' w' ∧ Old M st.h st.n M' st'.h st'.n

theorem step_of_run {P : Program} {o : Oper} {tm : Array Value} {w w' : World} {r : Next} {x : Value} (hd : ∀ c, o.op ≠ .defer c) (hr : (execOp (tev tm) o).run P w = .ok r w') (hx : r = .value x ∨ (r = .skip ∧ x = undef))
    {b : Frame} {df : List Deferred} {ops : Array Oper} {i : Nat} {rest : List Nat} {k : List Item} {cs : List Frame} (ho : ops[i]? = some o) (hw : Region.wanted o (yielded ops tm) = true) :
    Steps P (lone (here b tm df (.inRegion ops (i :: rest) :: k)) cs w) (lone (here b (tput tm o.dst x) df (.inRegion ops rest :: k)) cs w') := by
  rcases hx with rfl | ⟨rfl, rfl⟩
  · exact .one (hstep_op_value ho hw hd hr)
  · exact .one (hstep_op_unit ho hw hd hr)

theorem OpOk.steps {P : Program} {o : Oper} {st st' : St} (h : OpOk P o st st') : ∀ tm df w M, StRel st tm df w M → ∃ x w' M', StRel st' (tput tm o.dst x) df w' M' ∧ Tr M w M' w' ∧ Old M st.h st.n M' st'.h st'.n ∧
    ∀ b ops i rest k cs, ops[i]? = some o → Region.wanted o (yielded ops tm) = true →
      Steps P (lone (here b tm df (.inRegion ops (i :: rest) :: k)) cs w) (lone (here b (tput tm o.dst x) df (.inRegion ops rest :: k)) cs w') := by
  intro tm df w M hs
  obtain ⟨r, x, w', M', hr, hx, h1, h2, h3⟩ := h.2 tm df w M hs
  exact ⟨x, w', M', h1, h2, h3, fun b ops i rest k cs ho hw => step_of_run h.1 hr hx ho hw⟩

theorem OpOk.value {P : Program} {o : Oper} {st st₁ : St} {v : V} (hd : ∀ c, o.op ≠ .defer c)
    (h : ∀ tm df w M, StRel st tm df w M → ∃ x w' M', (execOp (tev tm) o).run P w = .ok (.value x) w' ∧ StRel st₁ tm df w' M' ∧ Tr M w M' w' ∧ Rep w' M' st₁.n v x ∧ Old M st.h st.n M' st₁.h st₁.n) :
    OpOk P o st (st₁.put o.dst v) := by
  refine ⟨hd, fun tm df w M hs => ?_⟩
  obtain ⟨x, w', M', hr, hs', ht, hv, hold⟩ := h tm df w M hs
  exact ⟨_, x, w', M', hr, .inl rfl, hs'.put hv o.dst, ht, by cases o.dst <;> exact hold⟩

theorem OpOk.unit {P : Program} {o : Oper} {st st₁ : St} (hd : ∀ c, o.op ≠ .defer c)
    (h : ∀ tm df w M, StRel st tm df w M → ∃ w' M', (execOp (tev tm) o).run P w = .ok .skip w' ∧ StRel st₁ tm df w' M' ∧ Tr M w M' w' ∧ Old M st.h st.n M' st₁.h st₁.n) :
    OpOk P o st (st₁.put o.dst .any) := by
  refine ⟨hd, fun tm df w M hs => ?_⟩
  obtain ⟨w', M', hr, hs', ht, hold⟩ := h tm df w M hs
  exact ⟨_, undef, w', M', hr, .inr ⟨rfl, rfl⟩, hs'.put (.any _) o.dst, ht, by cases o.dst <;> exact hold⟩

/-- An operation that leaves memory alone. -/
theorem OpOk.quiet {P : Program} {o : Oper} {st : St} {v : V} (hd : ∀ c, o.op ≠ .defer c)
    (h : ∀ tm df w M, StRel st tm df w M → ∃ x, (execOp (tev tm) o).run P w = .ok (.value x) w ∧ Rep w M st.n v x) :
    OpOk P o st (st.put o.dst v) :=
  OpOk.value hd fun tm df w M hs => let ⟨x, hr, hv⟩ := h tm df w M hs; ⟨x, w, M, hr, hs, .refl M w, hv, .refl _ _ _⟩

/-- AN OPERATION that leaves memory alone, and comes to v. -/
def OpQ (P : Program) (o : Oper) (st : St) (v : V) : Prop :=
  (∀ c, o.op ≠ .defer c) ∧ ∀ tm df w M, StRel st tm df w M → ∃ x, (execOp (tev tm) o).run P w = .ok (.value x) w ∧ Rep w M st.n v x

/-- One that doesn't look at memory either. -/
def OpS (P : Program) (o : Oper) (st : St) (v : V) : Prop :=
  (∀ c, o.op ≠ .defer c) ∧ ∀ tm df w M, StRel st tm df w M → ∃ x, (∀ w2, (execOp (tev tm) o).run P w2 = .ok (.value x) w2) ∧ Rep w M st.n v x

theorem OpS.q {P : Program} {o : Oper} {st : St} {v : V} (h : OpS P o st v) : OpQ P o st v :=
  ⟨h.1, fun tm df w M hs => let ⟨x, h1, h2⟩ := h.2 tm df w M hs; ⟨x, h1 w, h2⟩⟩
theorem OpQ.ok {P : Program} {o : Oper} {st : St} {v : V} (h : OpQ P o st v) : OpOk P o st (st.put o.dst v) := OpOk.quiet h.1 h.2
theorem OpS.ok {P : Program} {o : Oper} {st : St} {v : V} (h : OpS P o st v) : OpOk P o st (st.put o.dst v) := h.q.ok

/-! ### Operations that reckon with known values alone. -/
def gets (g : Operand → Option Value) : List (Nat × Operand) → Option (List (Nat × Value))
  | [] => some []
  | (i, x) :: r => match g x, gets g r with
    | some a, some l => some ((i, a) :: l)
    | _, _ => none

def getsO (g : Operand → Option Value) : Option Operand → Option (Option Value)
  | none => some none
  | some x => (g x).map some

def getsL (g : Operand → Option Value) : List Operand → Option (List Value)
  | [] => some []
  | x :: r => match g x, getsL g r with
    | some a, some l => some (a :: l)
    | _, _ => none

def semPure (g : Operand → Option Value) (o : Oper) : Option (Sem Value) :=
  match o.op with
  | .binOp op t x y _ => match g x, g y with
    | some a, some b => some (do eqGuard op t x y a b; binOp op t a b)
    | _, _ => none
  | .unOp op _ x => (g x).map (Op.unary op)
  | .convert s d x => (g x).map (convert s d)
  | .field t x f => (g x).map fun a => Instr.field t a f
  | .index t x i => match g x, g i with
    | some a, some b => some (Instr.index t a b)
    | _, _ => none
  | .extract x i => (g x).map fun a => Instr.extract a i
  | .build t ps => (gets g ps.toList).map fun l => Instr.build t l.toArray
  | .makeInterface t x => (g x).map (Instr.makeInterface t)
  | .slice t x lo hi mx => match g x, getsO g lo, getsO g hi, getsO g mx with
    | some a, some l, some h, some m => some (Instr.sliceAt t a l h m)
    | _, _, _, _ => none
  | .lookup t x i ok => match g x, g i with
    | some a, some b => some (Instr.lookup t a b ok)
    | _, _ => none
  | .call { callee := .builtin .len, args, argTypes } => (getsL g args.toList).map fun l => Builtin.len_ argTypes o.type l.toArray
  | .call { callee := .builtin .min, args, argTypes } => (getsL g args.toList).map fun l => Builtin.min_ argTypes o.type l.toArray
  | .call { callee := .builtin .max, args, argTypes } => (getsL g args.toList).map fun l => Builtin.max_ argTypes o.type l.toArray
  | _ => none

theorem gets_map {g : Operand → Option Value} {ρ : Operand → Value} (hg : ∀ x a, g x = some a → ρ x = a) {ps : List (Nat × Operand)} {l : List (Nat × Value)}
    (h : gets g ps = some l) : ps.map (fun (i, x) => (i, ρ x)) = l := by
  induction ps generalizing l with
  | nil => simp [gets] at h; simp [h]
  | cons p r ih =>
    obtain ⟨i, x⟩ := p
    simp only [gets] at h
    split at h
    · rename_i a l' ha hl
      simp only [Option.some.injEq] at h; subst h
      simp [hg x a ha, ih hl]
    · simp at h

theorem getsO_map {g : Operand → Option Value} {ρ : Operand → Value} (hg : ∀ x a, g x = some a → ρ x = a) {r : Option Operand} {l : Option Value}
    (h : getsO g r = some l) : r.map ρ = l := by
  cases r with
  | none => simpa [getsO] using h
  | some x =>
    simp only [getsO, Option.map_eq_some_iff] at h
    obtain ⟨a, ha, rfl⟩ := h
    simp [hg x a ha]

theorem getsL_map {g : Operand → Option Value} {ρ : Operand → Value} (hg : ∀ x a, g x = some a → ρ x = a) {ps : List Operand} {l : List Value}
    (h : getsL g ps = some l) : ps.map ρ = l := by
  induction ps generalizing l with
  | nil => simp [getsL] at h; simp [h]
  | cons x r ih =>
    simp only [getsL] at h
    split at h
    · rename_i a l' ha hl
      simp only [Option.some.injEq] at h; subst h
      simp [hg x a ha, ih hl]
    · simp at h

theorem semPure_exec {g : Operand → Option Value} {ρ : Operand → Value} (hg : ∀ x a, g x = some a → ρ x = a) {o : Oper} {s : Sem Value} (h : semPure g o = some s) :
    execOp ρ o = (do pure (.value (← s))) ∧ ∀ c, o.op ≠ .defer c := by
  obtain ⟨dst, op, type, pos, after, guard⟩ := o
  have arr : ∀ (ps : Array (Nat × Operand)) (l : List (Nat × Value)), gets g ps.toList = some l → (ps.map fun (i, x) => (i, ρ x)) = l.toArray := by
    intro ps l hl
    apply Array.ext'
    rw [Array.toList_map, gets_map hg hl]
  have arrL : ∀ (ps : Array Operand) (l : List Value), getsL g ps.toList = some l → ps.map ρ = l.toArray := by
    intro ps l hl
    apply Array.ext'
    rw [Array.toList_map, getsL_map hg hl]
  unfold semPure at h
  refine ⟨?_, by intro c hc; simp only at hc; subst hc; simp at h⟩
  split at h
  case h_1 =>
    rename_i op' t x y u hop; simp only at hop; subst hop
    split at h
    · rename_i a b ha hb
      simp only [Option.some.injEq] at h; subst h
      simp only [execOp, hg _ _ ha, hg _ _ hb]
    · simp at h
  case h_2 =>
    rename_i hop; simp only at hop; subst hop
    simp only [Option.map_eq_some_iff] at h; obtain ⟨a, ha, rfl⟩ := h
    simp only [execOp, hg _ _ ha]
  case h_3 =>
    rename_i hop; simp only at hop; subst hop
    simp only [Option.map_eq_some_iff] at h; obtain ⟨a, ha, rfl⟩ := h
    simp only [execOp, hg _ _ ha]
  case h_4 =>
    rename_i hop; simp only at hop; subst hop
    simp only [Option.map_eq_some_iff] at h; obtain ⟨a, ha, rfl⟩ := h
    simp only [execOp, hg _ _ ha]
  case h_5 =>
    rename_i hop; simp only at hop; subst hop
    split at h
    · rename_i a b ha hb
      simp only [Option.some.injEq] at h; subst h
      simp only [execOp, hg _ _ ha, hg _ _ hb]
    · simp at h
  case h_6 =>
    rename_i hop; simp only at hop; subst hop
    simp only [Option.map_eq_some_iff] at h; obtain ⟨a, ha, rfl⟩ := h
    simp only [execOp, hg _ _ ha]
  case h_7 =>
    rename_i hop; simp only at hop; subst hop
    simp only [Option.map_eq_some_iff] at h; obtain ⟨a, ha, rfl⟩ := h
    simp only [execOp, arr _ _ ha]
  case h_8 =>
    rename_i hop; simp only at hop; subst hop
    simp only [Option.map_eq_some_iff] at h; obtain ⟨a, ha, rfl⟩ := h
    simp only [execOp, hg _ _ ha]
  case h_9 =>
    rename_i hop; simp only at hop; subst hop
    split at h
    · rename_i a l hh m ha hl hhi hm
      simp only [Option.some.injEq] at h; subst h
      simp only [execOp, hg _ _ ha, getsO_map hg hl, getsO_map hg hhi, getsO_map hg hm]
    · simp at h
  case h_10 =>
    rename_i hop; simp only at hop; subst hop
    split at h
    · rename_i a b ha hb
      simp only [Option.some.injEq] at h; subst h
      simp only [execOp, hg _ _ ha, hg _ _ hb]
    · simp at h
  case h_11 =>
    rename_i hop; simp only at hop; subst hop
    simp only [Option.map_eq_some_iff] at h; obtain ⟨a, ha, rfl⟩ := h
    simp only [execOp, resolve, arrL _ _ ha]
    rfl
  case h_12 =>
    rename_i hop; simp only at hop; subst hop
    simp only [Option.map_eq_some_iff] at h; obtain ⟨a, ha, rfl⟩ := h
    simp only [execOp, resolve, arrL _ _ ha]
    rfl
  case h_13 =>
    rename_i hop; simp only at hop; subst hop
    simp only [Option.map_eq_some_iff] at h; obtain ⟨a, ha, rfl⟩ := h
    simp only [execOp, resolve, arrL _ _ ha]
    rfl
  case h_14 => simp at h

def St.graw (st : St) (x : Operand) : Option Value := (st.opd x).raw?

theorem OpS.pure {P : Program} {o : Oper} {st : St} {s : Sem Value} {v : Value} (h : semPure st.graw o = some s) (hv : pureRun P s = some v) :
    OpS P o st (ofValue v) := by
  refine ⟨?_, fun tm df w M hs => ?_⟩
  · exact (semPure_exec (ρ := fun x => (st.graw x).getD undef) (fun x a hx => by simp [hx]) h).2
  · have hg : ∀ x a, st.graw x = some a → tev tm x = a := fun x a hx => (hs.opd' x).raw?_inv hx
    refine ⟨v, fun w2 => ?_, .ofValue v⟩
    rw [(semPure_exec hg h).1]
    simp [pureRun_run hv w2]

theorem OpS.move {P : Program} {o : Oper} {st : St} {x : Operand} (h : o.op = .move x ∨ o.op = .assign x) : OpS P o st (st.opd x) := by
  refine ⟨by intro c hc; rcases h with h | h <;> simp [h] at hc, fun tm df w M hs => ⟨tev tm x, fun w2 => ?_, hs.opd' x⟩⟩
  rcases h with h | h <;> simp [execOp, h]

theorem OpS.pick {P : Program} {o : Oper} {st : St} {c a b : Operand} {t : Bool} (h : o.op = .pick c a b) (hc : st.opd c = .raw (.bool t)) :
    OpS P o st (cond t (st.opd a) (st.opd b)) := by
  refine ⟨by intro c hc; simp [h] at hc, fun tm df w M hs => ?_⟩
  have h1 := hs.opd' c
  rw [hc] at h1
  have h2 := h1.raw_inv
  cases t
  · exact ⟨tev tm b, fun w2 => by simp [execOp, h, h2, asBool], hs.opd' b⟩
  · exact ⟨tev tm a, fun w2 => by simp [execOp, h, h2, asBool], hs.opd' a⟩

end Go.Qx
