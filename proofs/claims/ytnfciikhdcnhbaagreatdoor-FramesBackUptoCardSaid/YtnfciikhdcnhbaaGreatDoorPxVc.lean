import Derived.Test.YtnfciikhdcnhbaaGreatDoorPxPure
import Derived.Test.YtnfciikhdcnhbaaGreatDoorPxOpH
namespace Go.Px
open Go
set_option linter.unusedVariables false

/-! ### What a region's operations ask, and the state that they come to, as one statement that Lean reckons. -/

def offV (P : Program) (s : TypeId) (f : Nat) : Option Nat :=
  match P.underlying s with
  | some (.struct fs) => match fs[f]? with
    | some fd => match P.info? fd.type with
      | some i => bif i.size == 0 then none else some fd.offset
      | none => none
    | none => none
  | _ => none

def szV (P : Program) (t : TypeId) : Option Nat := (P.info? t).map (·.size)

def elV (P : Program) (t : TypeId) : Option TypeId :=
  match P.underlying t with
  | some (.slice e) => some e
  | _ => none

def appV (P : Program) (t : TypeId) : Option (Nat × Nat) :=
  match P.underlying t with
  | some (.slice el) => match P.info? el with
    | some i => match i.zero with
      | some z => bif z.cells.size == i.size && Nat.blt 0 i.size then some (i.size, i.bytes) else none
      | none => none
    | none => none
  | _ => none

def allLen (k : Nat) (vs : List V) : Bool := vs.all fun v => v.cells.length == k && (stor v).isSome

/-! Steps that Lean reckons at once: the list of temporaries stays one that is written out. -/
def setK : List V → Nat → V → (List V → Prop) → Prop
  | [], _, _, K => K []
  | _ :: xs, 0, v, K => K (v :: xs)
  | x :: xs, d + 1, v, K => setK xs d v fun ys => K (x :: ys)

theorem setK_eq : ∀ (l : List V) (d : Nat) (v : V) (K : List V → Prop), setK l d v K = K (l.set d v)
  | [], _, _, _ => rfl
  | _ :: _, 0, _, _ => rfl
  | x :: xs, d + 1, v, K => by rw [setK, setK_eq xs d v]; rfl

def getK : List V → Nat → (V → Prop) → Prop
  | [], _, K => K .any
  | v :: _, 0, K => K v
  | _ :: vs, i + 1, K => getK vs i K

theorem getK_eq : ∀ (l : List V) (i : Nat) (K : V → Prop), getK l i K = K (lget l i)
  | [], _, _ => rfl
  | _ :: _, 0, _ => rfl
  | _ :: vs, i + 1, K => by rw [getK, getK_eq vs i]; rfl

def putK (st : St) (d : Option Tmp) (v : V) (K : St → Prop) : Prop :=
  match st with
  | ⟨l, h, n, m⟩ => match d with
    | some d => setK l d v fun l' => K ⟨l', h, n, m⟩
    | none => K ⟨l, h, n, m⟩

theorem putK_eq (st : St) (d : Option Tmp) (v : V) (K : St → Prop) : putK st d v K = K (st.put d v) := by
  obtain ⟨l, h, n, m⟩ := st
  cases d with
  | none => rfl
  | some d => simp only [putK, setK_eq]; rfl

def opdK (st : St) (x : Operand) (K : V → Prop) : Prop :=
  match x with
  | .tmp t => match st with
    | ⟨l, _, _, _⟩ => getK l t K
  | .const v => match v with
    | .agg cs => K (ofValue (.agg cs))
    | .tuple cs => K (ofValue (.tuple cs))
    | v => K (.raw v)
  | x => K (st.opd x)

theorem opdK_eq (st : St) (x : Operand) (K : V → Prop) : opdK st x K = K (st.opd x) := by
  cases x with
  | tmp t => obtain ⟨l, h, n, m⟩ := st; simp only [opdK, getK_eq]; rfl
  | const v => cases v <;> rfl
  | _ => rfl

def moveK (st : St) (d : Option Tmp) (x : Operand) (K : St → Prop) : Prop := opdK st x fun v => putK st d v K
theorem moveK_eq (st : St) (d : Option Tmp) (x : Operand) (K : St → Prop) : moveK st d x K = K (st.put d (st.opd x)) := by rw [moveK, opdK_eq, putK_eq]

def newK (st : St) (o : O) (K : St → Prop) : Prop := match st with | ⟨l, h, n, m⟩ => K ⟨l, (n, o) :: h, n + 1, m⟩
theorem newK_eq (st : St) (o : O) (K : St → Prop) : newK st o K = K (st.new o) := rfl
def objK (st : St) (id : Nat) (o : O) (K : St → Prop) : Prop := match st with | ⟨l, h, n, m⟩ => K ⟨l, (id, o) :: h, n, m⟩
def forceL : List V → (List V → Prop) → Prop
  | [], K => K []
  | x :: xs, K => forceL xs fun ys => K (x :: ys)
theorem forceL_eq : ∀ (l : List V) (K : List V → Prop), forceL l K = K l
  | [], _ => rfl
  | x :: xs, K => by rw [forceL, forceL_eq xs]
theorem objK_eq (st : St) (id : Nat) (o : O) (K : St → Prop) : objK st id o K = K (st.set id o) := rfl

def nK (st : St) (K : Nat → Prop) : Prop := match st with | ⟨_, _, n, _⟩ => K n
theorem nK_eq (st : St) (K : Nat → Prop) : nK st K = K st.n := rfl
def hK (st : St) (K : Heap → Prop) : Prop := match st with | ⟨_, h, _, _⟩ => K h
theorem hK_eq (st : St) (K : Heap → Prop) : hK st K = K st.h := rfl
def tK (st : St) (K : List V → Prop) : Prop := match st with | ⟨l, _, _, _⟩ => K l
theorem tK_eq (st : St) (K : List V → Prop) : tK st K = K st.tmps := rfl
def appK (st : St) (tk k : Nat) (K : St → Prop) : Prop := match st with | ⟨l, h, n, m⟩ => K ⟨l, (n, .own k) :: (tk, .dead) :: h, n + 1, m⟩
theorem appK_eq (st : St) (tk k : Nat) (K : St → Prop) : appK st tk k K = K (afterApp st (some tk) k) := rfl
def forceH : Heap → (Heap → Prop) → Prop
  | [], K => K []
  | (i, o) :: r, K => forceH r fun r' => K ((i, o) :: r')
theorem forceH_eq : ∀ (h : Heap) (K : Heap → Prop), forceH h K = K h
  | [], _ => rfl
  | (i, o) :: r, K => by rw [forceH, forceH_eq r]

def vcRest (P : Program) (o : Oper) (st : St) (K : St → Prop) : Prop :=
  match semPure st.graw o with
  | some s => ∃ v, pureRun P s = some v ∧ putK st o.dst (ofValue v) K
  | none => False

def vcLen (P : Program) (o : Oper) (args : List Operand) (ats : List TypeId) (st : St) (K : St → Prop) : Prop :=
  match args, ats with
  | [x], [t] => match st.opd x with
    | .sl es _ _ => (elV P t).isSome = true ∧ putK st o.dst (.raw (.int .i64 (es.length : Int))) K
    | _ => vcRest P o st K
  | _, _ => False

def vcApp (P : Program) (o : Oper) (args : List Operand) (ats : List TypeId) (st : St) (K : St → Prop) : Prop :=
  match args, ats with
  | [a, b], [t, u] => match appV P t with
    | some (k, bytes) => match asSl (st.opd b) with
      | some (es2, _, _) => match st.opd a with
        | .sl es nn (some tk) => match st.h.find tk with
          | .own k' => (t = u ∧ k' = k ∧ (∀ e, es.head? = some e → e.cells.length = k) ∧ (∀ e, es2.head? = some e → e.cells.length = k) ∧
              (es.length + es2.length) * bytes ≤ 140737488355328 ∧ es.length + es2.length ≤ 140737488355328) ∧
              nK st fun id => appK st tk k fun s => putK s o.dst (.sl (es ++ es2) nn (some id)) K
          | _ => False
        | .raw (.slice none 0 0) => (t = u ∧ (∀ e, es2.head? = some e → e.cells.length = k) ∧ es2.length * bytes ≤ 140737488355328 ∧ es2.length ≤ 140737488355328) ∧
            nK st fun id => newK st (.own k) fun s => appK s id k fun s => putK s o.dst (.sl es2 false (some (id + 1))) K
        | _ => False
      | none => False
    | none => False
  | _, _ => False

/-- One operation that is no call of a function: what it asks, and where it leads. -/
def vcOp (P : Program) (o : Oper) (st : St) (K : St → Prop) : Prop :=
  match o.op with
  | .move x | .assign x => moveK st o.dst x K
  | .alloc t => match zeroOf P t with
    | some z => nK st fun id => newK st (.box (rawCells z)) fun s => putK s o.dst (.ptr id 0) K
    | none => False
  | .box _ x => match stor (st.opd x) with
    | some vs => nK st fun id => newK st (.box vs) fun s => putK s o.dst (.ptr id 0) K
    | none => False
  | .load t x => match st.opd x with
    | .ptr id off => match st.h.find id with
      | .box cs => match readV P t (cs.drop off) with
        | some v => putK st o.dst v K
        | none => False
      | _ => False
    | .ref cs => match readV P t cs with
      | some v => putK st o.dst v K
      | none => False
    | _ => False
  | .store t a x => match st.opd a with
    | .ptr id off => match st.h.find id with
      | .box cs => match stor (st.opd x) with
        | some vs => match writeV cs off vs with
          | some cs' => szV P t = some vs.length ∧ forceL cs' fun cs2 => objK st id (.box cs2) fun s => putK s o.dst .any K
          | none => False
        | none => False
      | _ => False
    | _ => False
  | .fieldAddr s x f => match offV P s f with
    | some k => match moved (st.opd x) k with
      | some v => putK st o.dst v K
      | none => False
    | none => False
  | .indexAddr t x ix => match elV P t with
    | some el => match st.opd x with
      | .sl es _ _ => match st.opd ix with
        | .raw (.int _ j) => ∃ e, 0 ≤ j ∧ es[j.toNat]? = some e ∧ szV P el = some e.cells.length ∧ putK st o.dst (.ref e.cells) K
        | _ => False
      | _ => False
    | none => False
  | .slice t x lo hi none => match st.opd x with
    | .sl es nn tok => match elV P t with
      | some el => ∃ l h, (szV P el).isSome = true ∧ boundV st 0 lo = some l ∧ boundV st es.length hi = some h ∧ l ≤ h ∧ h ≤ es.length ∧ (∀ e, es.head? = some e → szV P el = some e.cells.length) ∧
          putK st o.dst (.sl ((es.take h).drop l) nn none) K
      | none => False
    | .raw _ => vcRest P o st K
    | _ => False
  | .extract x i => match st.opd x with
    | .tup vs => match vs[i]? with
      | some v => putK st o.dst v K
      | none => False
    | _ => False
  | .makeFunc f as bs => putK st o.dst (.fn f (as.toList.map st.opd) (bs.toList.map st.opd)) K
  | .nilCheck x => isPlace (st.opd x) = true ∧ moveK st o.dst x K
  | .buildSlice t len ps => match elV P t with
    | some el => match szV P el with
      | some k => match partsV st 0 ps.toList with
        | some vs => (vs.length = len ∧ allLen k vs = true ∧ (vs = [] ∨ (zeroOf P el).map (·.size) = some k) ∧ len * k ≤ 16777216) ∧ nK st fun id => newK st (.own k) fun s => putK s o.dst (.sl vs true (some id)) K
        | none => False
      | none => False
    | none => False
  | .convert s d x => match st.opd x with
    | .sl es _ _ => ∃ ns : List Int, es = ns.map (fun n => .raw (.int .u8 n)) ∧ ((∃ e, P.underlying s = some (.slice e) ∧ P.underlying e = some (.int .u8)) ∧ P.underlying d = some .string) ∧ putK st o.dst (.raw (.string (strOf ns))) K
    | _ => vcRest P o st K
  | .build t ps => match zeroOf P t with
    | some z => match placeV P t with
      | some place => match buildV st place (rawCells z) ps.toList with
        | some cs => forceL cs fun cs2 => putK st o.dst (.agg cs2) K
        | none => False
      | none => False
    | none => False
  | .call c => match c.callee with
    | .builtin .len => vcLen P o c.args.toList c.argTypes.toList st K
    | .builtin .append => vcApp P o c.args.toList c.argTypes.toList st K
    | _ => vcRest P o st K
  | _ => vcRest P o st K

theorem szV_spec {P : Program} {t : TypeId} {k : Nat} (h : szV P t = some k) : ∃ i, P.info? t = some i ∧ i.size = k := by
  simpa [szV] using h
theorem elV_spec {P : Program} {t el : TypeId} (h : elV P t = some el) : P.underlying t = some (.slice el) := by
  unfold elV at h
  split at h
  · rename_i e he; simp only [Option.some.injEq] at h; subst h; exact he
  · cases h
theorem appV_spec {P : Program} {t : TypeId} {k bytes : Nat} (h : appV P t = some (k, bytes)) : ∃ el i z, AppSpec P t el i z ∧ i.size = k ∧ i.bytes = bytes := by
  unfold appV at h
  split at h
  · rename_i el hel
    split at h
    · rename_i i hi
      split at h
      · rename_i z hz
        cases hc : (z.cells.size == i.size && Nat.blt 0 i.size)
        · rw [hc] at h; cases h
        · rw [hc] at h
          simp only [cond_true, Option.some.injEq, Prod.mk.injEq] at h
          simp only [Bool.and_eq_true, beq_iff_eq] at hc
          exact ⟨el, i, z, ⟨hel, hi, hz, hc.1, by have := hc.2; simp [Nat.blt] at this; omega⟩, h.1, h.2⟩
      · cases h
    · cases h
  · cases h

theorem offV_spec {P : Program} {s : TypeId} {f k : Nat} (h : offV P s f = some k) : ∃ fs fd i, P.underlying s = some (.struct fs) ∧ fs[f]? = some fd ∧ P.info? fd.type = some i ∧ i.size ≠ 0 ∧ fd.offset = k := by
  unfold offV at h
  split at h
  · rename_i fs hfs
    split at h
    · rename_i fd hfd
      split at h
      · rename_i i hi
        cases hc : (i.size == 0)
        · rw [hc] at h
          simp only [cond_false, Option.some.injEq] at h
          exact ⟨fs, fd, i, hfs, hfd, hi, by simpa using hc, h⟩
        · rw [hc] at h; cases h
      · cases h
    · cases h
  · cases h

theorem allLen_spec {k : Nat} {vs : List V} (h : allLen k vs = true) : (∀ v ∈ vs, v.cells.length = k) ∧ ∀ v ∈ vs, stor v ≠ none := by
  simp only [allLen, List.all_eq_true, Bool.and_eq_true, beq_iff_eq] at h
  exact ⟨fun v hv => (h v hv).1, fun v hv hn => by have := (h v hv).2; rw [hn] at this; cases this⟩

theorem vcRest_ok {P : Program} {o : Oper} {st : St} {K : St → Prop} (h : vcRest P o st K) : ∃ st', OpOk P o st st' ∧ K st' := by
  unfold vcRest at h
  simp only [moveK_eq, putK_eq, newK_eq, objK_eq, forceL_eq, nK_eq, appK_eq] at h
  split at h
  · rename_i s hs
    obtain ⟨v, hv, hk⟩ := h
    exact ⟨_, OpOk.pure hs hv, hk⟩
  · exact h.elim

theorem vcLen_ok {P : Program} {o : Oper} {st : St} {K : St → Prop} {c : Call} (hop : o.op = .call c) (hc : c.callee = .builtin .len) (h : vcLen P o c.args.toList c.argTypes.toList st K) : ∃ st', OpOk P o st st' ∧ K st' := by
  obtain ⟨callee, args, ats⟩ := c
  simp only at hc h
  subst hc
  unfold vcLen at h
  simp only [moveK_eq, putK_eq, newK_eq, objK_eq, forceL_eq, nK_eq, appK_eq] at h
  split at h
  · rename_i x t ha ht
    split at h
    · rename_i es nn tok hx
      obtain ⟨h1, h2⟩ := h
      obtain ⟨el, hel⟩ := Option.isSome_iff_exists.1 h1
      have : args = #[x] := by apply Array.ext'; simpa using ha
      subst this
      have : ats = #[t] := by apply Array.ext'; simpa using ht
      subst this
      exact ⟨_, OpOk.len hop rfl (elV_spec hel) hx, h2⟩
    · exact vcRest_ok h
  · exact h.elim

theorem vcApp_ok {P : Program} {o : Oper} {st : St} {K : St → Prop} {c : Call} (hop : o.op = .call c) (hc : c.callee = .builtin .append) (h : vcApp P o c.args.toList c.argTypes.toList st K) : ∃ st', OpOk P o st st' ∧ K st' := by
  obtain ⟨callee, args, ats⟩ := c
  simp only at hc h
  subst hc
  unfold vcApp at h
  simp only [moveK_eq, putK_eq, newK_eq, objK_eq, forceL_eq, nK_eq, appK_eq] at h
  split at h
  · rename_i a b t u ha ht
    have : args = #[a, b] := by apply Array.ext'; simpa using ha
    subst this
    have : ats = #[t, u] := by apply Array.ext'; simpa using ht
    subst this
    split at h
    · rename_i k bytes hk
      obtain ⟨el, i, z, sp, rfl, rfl⟩ := appV_spec hk
      split at h
      · rename_i es2 nn2 tok2 hb
        split at h
        · rename_i es nn tk ha
          split at h
          · rename_i k' hk'
            obtain ⟨⟨rfl, rfl, h1, h2, h3, h4⟩, h5⟩ := h
            exact ⟨_, OpOk.append hop sp ha hb hk' h1 h2 h3 h4, h5⟩
          · exact h.elim
        · rename_i ha
          obtain ⟨⟨rfl, h2, h3, h4⟩, h5⟩ := h
          exact ⟨_, OpOk.appendNil hop sp ha hb h2 h3 h4, h5⟩
        · exact h.elim
      · exact h.elim
    · exact h.elim
  · exact h.elim

theorem vcOp_ok {P : Program} {o : Oper} {st : St} {K : St → Prop} (h : vcOp P o st K) : ∃ st', OpOk P o st st' ∧ K st' := by
  unfold vcOp at h
  simp only [moveK_eq, putK_eq, newK_eq, objK_eq, forceL_eq, nK_eq, appK_eq] at h
  split at h
  case h_1 => rename_i x hop; exact ⟨_, OpOk.move (.inl hop), h⟩
  case h_2 => rename_i x hop; exact ⟨_, OpOk.move (.inr hop), h⟩
  case h_3 =>
    rename_i t hop
    split at h
    · rename_i z hz; exact ⟨_, OpOk.alloc hop hz, h⟩
    · exact h.elim
  case h_4 =>
    rename_i t x hop
    split at h
    · rename_i vs hv; exact ⟨_, OpOk.box hop hv, h⟩
    · exact h.elim
  case h_5 =>
    rename_i t x hop
    split at h
    · rename_i id off hx
      split at h
      · rename_i cs hcs
        split at h
        · rename_i v hv; exact ⟨_, OpOk.load hop (.inl ⟨id, off, cs, hx, hcs, hv⟩), h⟩
        · exact h.elim
      · exact h.elim
    · rename_i cs hx
      split at h
      · rename_i v hv; exact ⟨_, OpOk.load hop (.inr ⟨cs, hx, hv⟩), h⟩
      · exact h.elim
    · exact h.elim
  case h_6 =>
    rename_i t a x hop
    split at h
    · rename_i id off ha
      split at h
      · rename_i cs hcs
        split at h
        · rename_i vs hvs
          split at h
          · rename_i cs' hcs'
            obtain ⟨h1, h2⟩ := h
            exact ⟨_, OpOk.store hop ha hcs hvs h1 hcs', h2⟩
          · exact h.elim
        · exact h.elim
      · exact h.elim
    · exact h.elim
  case h_7 =>
    rename_i s x f hop
    split at h
    · rename_i k hk
      split at h
      · rename_i v hv
        obtain ⟨fs, fd, i, h1, h2, h3, h4, rfl⟩ := offV_spec hk
        exact ⟨_, OpOk.fieldAddr hop h1 h2 h3 h4 hv, h⟩
      · exact h.elim
    · exact h.elim
  case h_8 =>
    rename_i t x ix hop
    split at h
    · rename_i el hel
      split at h
      · rename_i es nn tok hx
        split at h
        · rename_i kd j hix
          obtain ⟨e, h1, h2, h3, h4⟩ := h
          obtain ⟨i, hi, hsz⟩ := szV_spec h3
          exact ⟨_, OpOk.indexAddr hop (elV_spec hel) hx hix h1 h2 hi hsz.symm, h4⟩
        · exact h.elim
      · exact h.elim
    · exact h.elim
  case h_9 =>
    rename_i t x lo hi hop
    split at h
    · rename_i es nn tok hx
      split at h
      · rename_i el hel
        obtain ⟨l, hh, h0, h1, h2, h3, h4, h5, h6⟩ := h
        obtain ⟨i, hi⟩ : ∃ i, P.info? el = some i := by simpa [szV, Option.isSome_iff_exists] using h0
        exact ⟨_, OpOk.slice hop (elV_spec hel) hi hx h1 h2 h3 h4 (fun e he => by have := h5 e he; simp [szV, hi] at this; exact this.symm) (.inl rfl), h6⟩
      · exact h.elim
    · exact vcRest_ok h
    · exact h.elim
  case h_10 =>
    rename_i x i hop
    split at h
    · rename_i vs hx
      split at h
      · rename_i v hv; exact ⟨_, OpOk.extract hop hx hv, h⟩
      · exact h.elim
    · exact h.elim
  case h_11 => rename_i f as bs hop; exact ⟨_, OpOk.makeFunc hop, h⟩
  case h_12 => rename_i x hop; exact ⟨_, OpOk.nilCheck hop h.1, h.2⟩
  case h_13 =>
    rename_i t len ps hop
    split at h
    · rename_i el hel
      split at h
      · rename_i k hk
        split at h
        · rename_i vs hvs
          obtain ⟨⟨h1, h2, h3, h4⟩, h5⟩ := h
          obtain ⟨i, hi, rfl⟩ := szV_spec hk
          obtain ⟨a1, a2⟩ := allLen_spec h2
          refine ⟨_, OpOk.buildSlice hop (elV_spec hel) hi hvs h1 a1 a2 ?_ h4, h5⟩
          rcases h3 with h3 | h3
          · exact .inl h3
          · obtain ⟨z, hz1, hz2⟩ := Option.map_eq_some_iff.1 h3; exact .inr ⟨z, hz1, hz2⟩
        · exact h.elim
      · exact h.elim
    · exact h.elim
  case h_14 =>
    rename_i s d x hop
    split at h
    · rename_i es nn tok hx
      obtain ⟨ns, h1, ⟨⟨e, h2, h3⟩, h4⟩, h5⟩ := h
      exact ⟨_, OpOk.bytesString hop h2 h3 h4 hx h1, h5⟩
    · exact vcRest_ok h
  case h_15 =>
    rename_i t ps hop
    split at h
    · rename_i z hz
      split at h
      · rename_i place hp
        split at h
        · rename_i cs hcs
          exact ⟨_, OpOk.build hop hz hp hcs, h⟩
        · exact h.elim
      · exact h.elim
    · exact h.elim
  case h_16 =>
    rename_i c hop
    split at h
    · rename_i hc; exact vcLen_ok hop hc h
    · rename_i hc; exact vcApp_ok hop hc h
    · exact vcRest_ok h
  case h_17 => exact vcRest_ok h

end Go.Px
