import Derived.Test.YtnfciikhdcnhbaaGreatDoorPxDraw
import Derived.Test.YtnfciikhdcnhbaaGreatDoorPxUnwind
namespace Go.Px
open Go
set_option linter.unusedVariables false

def callable (P : Program) (f : FuncId) : Bool :=
  match P.funcs[f]? with
  | some fn => fn.body.isSome && !(fn.name == "runtime.NumGoroutine")
  | none => false

theorem callable_spec {P : Program} {f : FuncId} (h : callable P f = true) : ∃ fn, P.funcs[f]? = some fn ∧ fn.body.isNone = false ∧ (fn.name == "runtime.NumGoroutine") = false := by
  unfold callable at h
  split at h
  · rename_i fn hf
    simp only [Bool.and_eq_true, Bool.not_eq_true'] at h
    exact ⟨fn, hf, by cases hb : fn.body <;> simp_all, h.2⟩
  · cases h

/-- Temporaries whose bool stands there as true or false. -/
def decided (known : List Tmp) (t : Tmp) : Bool :=
  match known with
  | [] => false
  | u :: r => bif u == t then true else decided r t

def St.lit (st : St) (t : Tmp) (b : Bool) : St := { st with tmps := st.tmps.set t (.raw (.bool b)) }

theorem St.lit_eq {st : St} {t : Tmp} {b : Bool} (h : lget st.tmps t = .raw (.bool b)) : st.lit t b = st := by
  rw [lget_eq] at h
  have : st.tmps[t]? = some (.raw (.bool b)) := by
    cases hv : st.tmps[t]? with
    | none => rw [hv] at h; simp at h
    | some v => rw [hv] at h; simp only [Option.getD_some] at h; rw [h]
  obtain ⟨hlt, he⟩ := List.getElem?_eq_some_iff.1 this
  have : st.tmps.set t (.raw (.bool b)) = st.tmps := by rw [← he]; exact List.set_getElem_self hlt
  simp [St.lit, this]

/-- A round's left sides (nothing but a name for AW). -/
def vcRound (P : Program) (as bd : Code) (Q : Ex → St → Prop) (m : Nat) (st : St) : Prop := AW P m as Q st

def memK (st : St) (h' : Heap) (n' : Nat) (K : St → Prop) : Prop := match st with | ⟨l, _, _, m⟩ => forceH h' fun h2 => K ⟨l, h2, n', m⟩
theorem memK_eq (st : St) (h' : Heap) (n' : Nat) (K : St → Prop) : memK st h' n' K = K { st with h := h', n := n' } := by obtain ⟨l, h, n, m⟩ := st; simp only [memK, forceH_eq]
theorem lit_put (st : St) (c : Tmp) (b : Bool) : st.put (some c) (.raw (.bool b)) = st.lit c b := rfl

/-- An operation, calls of functions among them; tests that it leans on are parted. -/
def vcO (P : Program) (o : Oper) (st : St) (known : List Tmp) (K : List Tmp → St → Prop) : Prop :=
  match o.op with
  | .pick (.tmp c) a b => match lget st.tmps c with
    | .raw (.bool t) => match decided known c with
      | true => match t with
        | true => moveK st o.dst a (K known)
        | false => moveK st o.dst b (K known)
      | false => (t = true → putK st (some c) (.raw (.bool true)) fun s => moveK s o.dst a (K (c :: known))) ∧ (t = false → putK st (some c) (.raw (.bool false)) fun s => moveK s o.dst b (K (c :: known)))
    | _ => False
  | .binOp op t x y _ => match st.opd x, st.opd y with
    | .sl es nn _, .raw (.slice none 0 0) => (op = .eql ∨ op = .neq) ∧ (elV P t).isSome = true ∧ ∀ isn : Bool, (isn = true → es = [] ∧ nn = false) → putK st o.dst (.raw (.bool (if op = .eql then isn else !isn))) (K known)
    | .ptr id off, .raw (.pointer none) => (op = .eql ∨ op = .neq) ∧ (∃ e, P.underlying t = some (.pointer e)) ∧ putK st o.dst (.raw (.bool (op == .neq))) (K known)
    | .ref cs, .raw (.pointer none) => (op = .eql ∨ op = .neq) ∧ (∃ e, P.underlying t = some (.pointer e)) ∧ putK st o.dst (.raw (.bool (op == .neq))) (K known)
    | _, _ => vcOp P o st (K known)
  | .call c => match c.callee with
    | .value (.func f) => hK st fun h0 => nK st fun n0 => ∃ R, CallOk P f (c.args.toList.map st.opd) h0 n0 R ∧ callable P f = true ∧ ∀ v h' n', R v h' n' → memK st h' n' fun s => putK s o.dst v (K known)
    | .value (.tmp t) => match lget st.tmps t with
      | .fn (.func f) [] caps => hK st fun h0 => nK st fun n0 => ∃ R, CallOk P f (c.args.toList.map st.opd ++ caps) h0 n0 R ∧ callable P f = true ∧ ∀ v h' n', R v h' n' → memK st h' n' fun s => putK s o.dst v (K known)
      | .yld id => match st.h.find id with
        | .loop fn tm0 ps as bd false false pe D => (c.args.toList.length = ps.length ∧ flat as = true ∧ flat bd = true) ∧
            hK st fun h0 => nK st fun n0 => vcRound P as bd (Ex.thn (fun s1 => s1.marks = [] ∧ s1.h.find id = .loop fn tm0 ps as bd false false pe D ∧
              AW P n0 bd (fun e s2 => s2.marks = [] ∧ s2.h.find id = .loop fn tm0 ps as bd true false pe D ∧
                memK st ((id, .loop fn tm0 ps as bd false (!exOn e) (exPend e) D) :: s2.h) s2.n fun s => putK s o.dst (.raw (.bool (exOn e))) (K known))
              { s1 with h := (id, .loop fn tm0 ps as bd true false pe D) :: s1.h }) (fun _ _ => False)) n0 { tmps := setps tm0 ps (c.args.toList.map st.opd), h := h0, n := n0, marks := [] }
        | _ => False
      | _ => vcOp P o st (K known)
    | _ => vcOp P o st (K known)
  | _ => vcOp P o st (K known)

def exK (st : St) (n0 : Nat) (h' : Heap) (n' : Nat) (K : St → Prop) : Prop := match st with | ⟨l, _, _, m⟩ => forceH h' fun h2 => K ⟨l, (n0 + 1, .dead) :: h2, n', n0 :: m⟩
theorem exK_eq (st : St) (n0 : Nat) (h' : Heap) (n' : Nat) (K : St → Prop) : exK st n0 h' n' K = K { st with h := (n0 + 1, .dead) :: h', n := n', marks := n0 :: st.marks } := by obtain ⟨l, h, n, m⟩ := st; simp only [exK, forceH_eq]

def gd (ops : Array Oper) (j : Nat) : Option Tmp := (ops[j]?).bind (·.dst)

def vcR (P : Program) (ops : Array Oper) : List Nat → List Tmp → (St → Prop) → St → Prop
  | [], _, K, st => K st
  | i :: rest, known, K, st => match ops[i]? with
    | none => False
    | some o => match o.guard with
      | none => vcO P o st known fun kn s => vcR P ops rest kn K s
      | some (j, want) => match gd ops j with
        | none => False
        | some d => match lget st.tmps d with
          | .raw (.bool b) => match decided known d with
            | true => match b == want with
              | true => vcO P o st known fun kn s => vcR P ops rest kn K s
              | false => putK st o.dst .any (vcR P ops rest known K)
            | false => (b = want → putK st (some d) (.raw (.bool want)) fun s => vcO P o s (d :: known) fun kn s => vcR P ops rest kn K s) ∧ (b = !want → putK st (some d) (.raw (.bool (!want))) fun s => putK s o.dst .any (vcR P ops rest (d :: known) K))
          | _ => False

def vcC (P : Program) (m : Nat) : Code → (Ex → St → Prop) → St → Prop
  | .skip, Q, st => Q .normal st
  | .region _ ops false, Q, st => vcR P ops (List.range ops.size) [] (Q .normal) st
  | .region _ ops true, Q, st => vcDraw P ops fun l => vcR P ops l [] (Q .normal) st
  | .seq a b, Q, st => vcC P m a (Ex.thn (vcC P m b Q) Q) st
  | .cond c x y, Q, st => match st.opd c with
    | .raw (.bool b) => (b = true → vcC P m x Q st) ∧ (b = false → vcC P m y Q st)
    | _ => False
  | .block id b, Q, st => vcC P m b (Ex.blk id Q) st
  | .loop b, Q, st => LW P m b Q st
  | .exit id, Q, st => Q (.exit id) st
  | .ret, Q, st => Q .ret st
  | .rangeFunc g ps as bd, Q, st => match st.opd g with
    | .fn (.func f) [] caps => callable P f = true ∧ ∀ own, tK st fun l => hK st fun h0 => nK st fun n0 => CallOk P f (.yld (n0 + 1) :: caps) ((n0 + 1, .loop own l ps.toList as bd false false none n0) :: (n0, .dfr) :: h0) (n0 + 2) fun _ h' n' =>
        ∃ ov pe e, h'.find (n0 + 1) = .loop own l ps.toList as bd false ov pe n0 ∧ codeEx pe = some e ∧ exK st n0 h' n' (Q e)
    | _ => False
  | _, _, _ => False

theorem vcO_ok {P : Program} {ops : Array Oper} {i : Nat} {rest : List Nat} {o : Oper} {st : St} {known : List Tmp} {K : List Tmp → St → Prop} {K2 : St → Prop}
    (ho : ops[i]? = some o) (hw : wantV st ops o = some true) (hK : ∀ kn s, K kn s → RW P ops rest K2 s) (h : vcO P o st known K) : RW P ops (i :: rest) K2 st := by
  have base : vcOp P o st (K known) → RW P ops (i :: rest) K2 st := fun h => by
    obtain ⟨st', h1, h2⟩ := vcOp_ok h
    exact .op ho hw h1 (hK _ _ h2)
  unfold vcO at h
  simp only [moveK_eq, putK_eq, memK_eq, lit_put, hK_eq, nK_eq] at h
  split at h
  · rename_i c a b hop
    split at h
    · rename_i t ht
      have hpk : ∀ t', t = t' → ∀ kn, K kn (st.put o.dst (cond t' (st.opd a) (st.opd b))) → RW P ops (i :: rest) K2 st := by
        intro t' he kn hk; subst he
        exact .op ho hw (OpOk.pick hop ht) (hK _ _ hk)
      split at h
      · cases t
        · exact hpk false rfl _ h
        · exact hpk true rfl _ h
      · cases t
        · have := h.2 rfl; rw [St.lit_eq ht] at this; exact hpk false rfl _ this
        · have := h.1 rfl; rw [St.lit_eq ht] at this; exact hpk true rfl _ this
    · exact h.elim
  · rename_i op t x y u hop
    split at h
    · rename_i es nn tok hx hy
      obtain ⟨h1, h2, h3⟩ := h
      obtain ⟨el, hel⟩ := Option.isSome_iff_exists.1 h2
      exact .eqNil ho hw hop h1 hx hy (elV_spec hel) fun isn hi => hK _ _ (h3 isn hi)
    · rename_i id off hx hy
      obtain ⟨h1, ⟨e, h2⟩, h3⟩ := h
      exact .op ho hw (OpOk.eqNilPtr hop h1 (by rw [hx]; rfl) hy h2) (hK _ _ h3)
    · rename_i cs hx hy
      obtain ⟨h1, ⟨e, h2⟩, h3⟩ := h
      exact .op ho hw (OpOk.eqNilPtr hop h1 (by rw [hx]; rfl) hy h2) (hK _ _ h3)
    · exact base h
  · rename_i c hop
    split at h
    · rename_i f hc
      obtain ⟨R, h1, h2, h3⟩ := h
      obtain ⟨fn, f1, f2, f3⟩ := callable_spec h2
      obtain ⟨callee, args, ats⟩ := c
      simp only at hc; subst hc
      exact .call ho hw hop f1 f2 f3 h1 fun v h' n' hr => hK _ _ (h3 v h' n' hr)
    · rename_i t hc
      obtain ⟨callee, args, ats⟩ := c
      simp only at hc; subst hc
      split at h
      · rename_i f caps hx
        obtain ⟨R, h1, h2, h3⟩ := h
        obtain ⟨fn, f1, f2, f3⟩ := callable_spec h2
        exact .callFn ho hw hop hx f1 f2 f3 h1 fun v h' n' hr => hK _ _ (h3 v h' n' hr)
      · rename_i id hx
        split at h
        · rename_i fn tm0 ps as bd pe D hl
          obtain ⟨⟨h1, h2, h3⟩, h4⟩ := h
          refine RW.yield ho hw hop hx hl h1 h2 h3 (AW.mono h4 fun e s hs => ?_)
          cases e with
          | exit id => exact hs
          | ret => exact hs
          | normal =>
            obtain ⟨a1, a2, a3⟩ := hs
            refine ⟨a1, a2, a3.mono fun e2 s2 hs2 => ?_⟩
            obtain ⟨b1, b2, b3⟩ := hs2
            exact ⟨b1, b2, hK _ _ b3⟩
        · exact h.elim
      · exact base h
    · exact base h
  · exact base h

theorem vcR_ok {P : Program} {ops : Array Oper} {K : St → Prop} : ∀ (l : List Nat) (known : List Tmp) (st : St), vcR P ops l known K st → RW P ops l K st
  | [], known, st, h => .nil h
  | i :: rest, known, st, h => by
    have ih := vcR_ok (P := P) (ops := ops) (K := K) rest
    simp only [vcR, putK_eq, lit_put] at h
    split at h
    · exact h.elim
    · rename_i o ho
      split at h
      · rename_i hg
        exact vcO_ok ho (by simp [wantV, hg]) (fun kn s hk => ih kn s hk) h
      · rename_i j want hg
        split at h
        · exact h.elim
        · rename_i d hd
          split at h
          · rename_i b hb
            have hgv : gv st ops j = some b := by
              simp only [gd] at hd
              simp only [gv, hd, hb]
            have hwv : wantV st ops o = some (b == want) := by simp [wantV, hg, hgv]
            split at h
            · split at h
              · rename_i hbw
                exact vcO_ok ho (by rw [hwv, hbw]) (fun kn s hk => ih kn s hk) h
              · rename_i hbw
                exact .skip ho (by rw [hwv, hbw]) (ih _ _ h)
            · by_cases hbw : b = want
              · have h' := h.1 hbw
                rw [hbw] at hb
                rw [St.lit_eq hb] at h'
                exact vcO_ok ho (by rw [hwv, hbw]; simp) (fun kn s hk => ih kn s hk) h'
              · have hbw' : b = !want := by cases b <;> cases want <;> simp_all
                have h' := h.2 hbw'
                rw [hbw'] at hb
                rw [St.lit_eq hb] at h'
                exact .skip ho (by rw [hwv, hbw']; cases want <;> rfl) (ih _ _ h')
          · exact h.elim

theorem vcC_ok {P : Program} {m : Nat} : ∀ (c : Code) (Q : Ex → St → Prop) (st : St), vcC P m c Q st → AW P m c Q st
  | .skip, Q, st, h => .skip h
  | .region _ ops false, Q, st, h => .region (vcR_ok _ _ _ h)
  | .region _ ops true, Q, st, h => .region_draw fun t => vcR_ok _ _ _ (vcDraw_ok h t)
  | .seq a b, Q, st, h => .seq ((vcC_ok a _ st h).mono fun e s hs => by
      cases e with
      | normal => exact vcC_ok b Q s hs
      | exit id => exact hs
      | ret => exact hs)
  | .cond c x y, Q, st, h => by
    simp only [vcC] at h
    split at h
    · rename_i b hb
      refine .cond hb ?_
      cases b
      · exact vcC_ok y Q st (h.2 rfl)
      · exact vcC_ok x Q st (h.1 rfl)
    · exact h.elim
  | .block id b, Q, st, h => .block (vcC_ok b _ st h)
  | .loop b, Q, st, h => .of_loop h
  | .exit id, Q, st, h => .exit h
  | .ret, Q, st, h => .ret h
  | .rangeFunc g ps as bd, Q, st, h => by
    simp only [vcC] at h
    split at h
    · rename_i f caps hg
      simp only [tK_eq, hK_eq, nK_eq, exK_eq] at h
      obtain ⟨h1, h2⟩ := h
      obtain ⟨fn, f1, f2, f3⟩ := callable_spec h1
      exact .rangeFunc hg f1 f2 f3 h2
    · exact h.elim
  | .scope _, Q, st, h => h.elim
  | .label _, Q, st, h => h.elim
  | .goto _, Q, st, h => h.elim
  | .refuse _, Q, st, h => h.elim

theorem vcL_ok {P : Program} {m : Nat} {c : Code} {Q : Ex → St → Prop} {st : St} (h : vcC P m c (Ex.thn (LW P m c Q) Q) st) : LW P m c Q st := .step (vcC_ok _ _ _ h)

end Go.Px
