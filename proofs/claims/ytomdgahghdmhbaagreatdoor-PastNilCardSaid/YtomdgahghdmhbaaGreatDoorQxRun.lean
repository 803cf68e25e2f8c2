import Derived.Test.YtomdgahghdmhbaaGreatDoorQxAw
namespace Go.Qx
open Go
set_option linter.unusedVariables false

/-- What is left of a region's operations. -/
def RW (P : Program) (ops : Array Oper) (l : List Nat) (K : St → Prop) (st : St) : Prop :=
  ∀ tm df w M, StRel st tm df w M → ∀ b k cs, ∃ st' tm' w' M', K st' ∧ StRel st' tm' df w' M' ∧ Tr M w M' w' ∧ Old M st.h st.n M' st'.h st'.n ∧
    Steps P (lone (here b tm df (.inRegion ops l :: k)) cs w) (lone (here b tm' df (.inRegion ops [] :: k)) cs w')

def gv (st : St) (ops : Array Oper) (j : Nat) : Option (Option Bool) :=
  match (ops[j]?).bind (·.dst) with
  | some d => match lget st.tmps d with
    | .raw (.bool b) => some (some b)
    | .raw (.tuple _) => some none
    | _ => none
  | none => none

theorem tmp_raw {st : St} {tm : Array Value} {df : List Deferred} {w : World} {M : Mem} (hs : StRel st tm df w M) {d : Nat} {v : Value} (hb : lget st.tmps d = .raw v) : tm[d]? = some v := by
  rw [lget_eq] at hb
  cases hv : st.tmps[d]? with
  | none => rw [hv] at hb; simp at hb
  | some u =>
    rw [hv] at hb
    simp only [Option.getD_some] at hb
    subst hb
    have hlt : d < tm.size := by rw [hs.size]; exact (List.getElem?_eq_some_iff.1 hv).1
    have := (hs.tmp d _ hv).raw_inv
    rw [Array.getElem?_eq_getElem hlt]
    simpa [Array.getD_eq_getD_getElem?, hlt] using this

theorem gv_spec {st : St} {tm : Array Value} {df : List Deferred} {w : World} {M : Mem} (hs : StRel st tm df w M) {ops : Array Oper} {j : Nat} {b : Option Bool} (h : gv st ops j = some b) : yielded ops tm j = b := by
  unfold gv at h
  unfold yielded
  split at h
  · rename_i d hd
    split at h
    · rename_i b' hb
      simp only [Option.some.injEq] at h; subst h
      rw [hd, Option.bind_some, tmp_raw hs hb]
    · rename_i b' hb
      simp only [Option.some.injEq] at h; subst h
      rw [hd, Option.bind_some, tmp_raw hs hb]
    · simp at h
  · simp at h

def wantV (st : St) (ops : Array Oper) (o : Oper) : Option Bool :=
  match o.guard with
  | none => some true
  | some (j, want) => match gv st ops j with
    | some (some b) => some (b == want)
    | some none => some false
    | none => none

theorem wantV_spec {st : St} {tm : Array Value} {df : List Deferred} {w : World} {M : Mem} (hs : StRel st tm df w M) {ops : Array Oper} {o : Oper} {b : Bool} (h : wantV st ops o = some b) : Region.wanted o (yielded ops tm) = b := by
  unfold wantV at h
  unfold Region.wanted
  cases hg : o.guard with
  | none => rw [hg] at h; simpa using h
  | some p =>
    obtain ⟨j, want⟩ := p
    rw [hg] at h
    simp only at h
    split at h
    · rename_i b' hb
      simp only [Option.some.injEq] at h; subst h
      simp [gv_spec hs hb]
    · rename_i hb
      simp only [Option.some.injEq] at h; subst h
      simp [gv_spec hs hb]
    · simp at h

/-- What stands where an operation was barred. -/
abbrev nop : V := .raw undef

section
variable {P : Program} {ops : Array Oper} {K K' : St → Prop} {st : St}

theorem RW.mono {l : List Nat} (h : RW P ops l K st) (hk : ∀ s, K s → K' s) : RW P ops l K' st := by
  intro tm df w M hs b k cs
  obtain ⟨st', tm', w', M', q, r⟩ := h tm df w M hs b k cs
  exact ⟨st', tm', w', M', hk _ q, r⟩

theorem RW.nil (h : K st) : RW P ops [] K st := fun tm df w M hs b k cs => ⟨st, tm, w, M, h, hs, .refl M w, .refl _ _ _, .refl P _⟩

theorem RW.op {i : Nat} {rest : List Nat} {o : Oper} {st₁ : St} (ho : ops[i]? = some o) (hw : wantV st ops o = some true) (h : OpOk P o st st₁) (hr : RW P ops rest K st₁) : RW P ops (i :: rest) K st := by
  intro tm df w M hs b k cs
  obtain ⟨x₁, w₁, M₁, h1, h2, h4, h3⟩ := h.steps tm df w M hs
  obtain ⟨st', tm', w', M', q, r1, r2, r4, r3⟩ := hr _ df w₁ M₁ h1 b k cs
  exact ⟨st', tm', w', M', q, r1, h2.trans r2, h4.trans r4, (h3 b ops i rest k cs ho (wantV_spec hs hw)).trans r3⟩

theorem RW.skip {i : Nat} {rest : List Nat} {o : Oper} (ho : ops[i]? = some o) (hw : wantV st ops o = some false) (hr : RW P ops rest K (st.put o.dst nop)) : RW P ops (i :: rest) K st := by
  intro tm df w M hs b k cs
  obtain ⟨st', tm', w', M', q, r1, r2, r4, r3⟩ := hr (tput tm o.dst undef) df w M (hs.put (.raw undef) o.dst) b k cs
  have hp : (st.put o.dst nop).h = st.h ∧ (st.put o.dst nop).n = st.n := by cases o.dst <;> exact ⟨rfl, rfl⟩
  rw [hp.1, hp.2] at r4
  have hstep : step P (lone (here b tm df (.inRegion ops (i :: rest) :: k)) cs w) = _ := hstep_op_skip (by rw [ho]; simp [wantV_spec hs hw])
  rw [ho, Option.bind_some] at hstep
  exact ⟨st', tm', w', M', q, r1, r2, r4, .head hstep r3⟩

/-- Either way of a test on nil-ness. -/
theorem RW.eqNil {i : Nat} {rest : List Nat} {o : Oper} {op : BinOp} {t u e : TypeId} {x y : Operand} {es : List V} {nn : Bool} {tok : Option Nat} (ho : ops[i]? = some o) (hw : wantV st ops o = some true)
    (hop : o.op = .binOp op t x y u) (hop' : op = .eql ∨ op = .neq) (hx : st.opd x = .sl es nn tok) (hy : st.opd y = .raw (.slice none 0 0)) (ht : P.underlying t = some (.slice e))
    (hr : ∀ isn : Bool, (isn = true → es = [] ∧ nn = false) → RW P ops rest K (st.put o.dst (.raw (.bool (if op = .eql then isn else !isn))))) : RW P ops (i :: rest) K st := by
  intro tm df w M hs b k cs
  obtain ⟨isn, h1, h2⟩ := eqNil_run hop hop' hx hy ht hs
  obtain ⟨st', tm', w', M', q, r1, r2, r4, r3⟩ := hr isn h1 _ df w M (hs.put (.raw _) o.dst) b k cs
  have hp : ∀ v, (st.put o.dst v).h = st.h ∧ (st.put o.dst v).n = st.n := by intro v; cases o.dst <;> exact ⟨rfl, rfl⟩
  rw [(hp _).1, (hp _).2] at r4
  exact ⟨st', tm', w', M', q, r1, r2, r4, .head (hstep_op_value ho (wantV_spec hs hw) (by intro c hc; simp [hop] at hc) h2) r3⟩

theorem AW.region {m : Nat} {Q : Ex → St → Prop} {id : Nat} (h : RW P ops (List.range ops.size) (Q .normal) st) : AW P m (.region id ops false) Q st := by
  intro hm tm df w M hs b k cs _
  obtain ⟨st', tm', w', M', q, r1, r2, r4, r3⟩ := h tm df w M hs b k cs
  exact ⟨.normal, st', tm', df, w', M', q, r1, r2, r4.weaken hm, .head hstep_region (r3.trans (.one hstep_region_end))⟩

/-- A region whose order is open: what comes of each order that its edges let. -/
theorem AW.region_draw {m : Nat} {Q : Ex → St → Prop} {id : Nat} (h : ∀ t, RW P ops (Region.schedule (P.follows .mixedOrders) ops t) (Q .normal) st) : AW P m (.region id ops true) Q st := by
  intro hm tm df w M hs b k cs _
  have g : Grow w { w with drawn := w.drawn + 1 } := Grow.drew w
  have hs' : StRel st tm df { w with drawn := w.drawn + 1 } M :=
    ⟨hs.size, fun i v hv => (hs.tmp i v hv).tr (g.tr fun _ _ h => .inl h) (fun _ _ _ h => h) (Nat.le_refl _), hs.sim.grow g, hs.marks⟩
  obtain ⟨st', tm', w', M', q, r1, r2, r4, r3⟩ := h (w.tape w.drawn (.order b.fn id)) tm df _ M hs' b k cs
  exact ⟨.normal, st', tm', df, w', M', q, r1, (g.tr (M := M) fun _ _ h => .inl h).trans r2, r4.weaken hm, .head hstep_region_draw (r3.trans (.one hstep_region_end))⟩
end

/-! ### Calls. -/
/-- Arguments, one by one. -/
def ArgsRep (w : World) (M : Mem) (n : Nat) (args : List V) (xs : Array Value) : Prop :=
  xs.size = args.length ∧ ∀ i v, args[i]? = some v → Rep w M n v (xs.getD i undef)

/-- A CALL: of whatever arguments read so, in whatever memory holds the heap: it returns what R tells. -/
def CallOk (P : Program) (f : FuncId) (args : List V) (h : Heap) (n : Nat) (R : V → Heap → Nat → Prop) : Prop :=
  ∀ w M xs, ArgsRep w M n args xs → Sim w M h n → ∀ cs, ∃ v h' n' x w' M' fr, R v h' n' ∧ Rep w' M' n' v x ∧ Sim w' M' h' n' ∧ Tr M w M' w' ∧ Old M h n M' h' n' ∧
    Steps P (lone (Frame.enter P f xs .normal) cs w) (lone fr cs w') ∧ fr.leaving P w' (.returned x) ∧ fr.fn = f

theorem CallOk.mono {P : Program} {f : FuncId} {args : List V} {h : Heap} {n : Nat} {R R' : V → Heap → Nat → Prop} (hc : CallOk P f args h n R) (hr : ∀ v h' n', R v h' n' → R' v h' n') : CallOk P f args h n R' := by
  intro w M xs ha hs cs
  obtain ⟨v, h', n', x, w', M', fr, q, r⟩ := hc w M xs ha hs cs
  exact ⟨v, h', n', x, w', M', fr, hr _ _ _ q, r⟩

theorem StRel.after {st : St} {tm : Array Value} {df : List Deferred} {w w' : World} {M M' : Mem} {h' : Heap} {n' : Nat} (h : StRel st tm df w M) (ht : Tr M w M' w') (ho : Old M st.h st.n M' h' n') (hs : Sim w' M' h' n') :
    StRel { st with h := h', n := n' } tm df w' M' := h.tr ht ho.old ho.le hs fun id _ hf => by have := ho.pin id (h.sim.pin_lt (by rw [hf]; rfl)) (by rw [hf]; rfl); rw [hf] at this; exact this

/-- The operation comes to a call of function f. -/
theorem call_run {P : Program} {o : Oper} {f : FuncId} {fn : Func} {args : Array Operand} {ats : Array TypeId} (ho : o.op = .call { callee := .value (.func f), args := args, argTypes := ats })
    (hf : P.funcs[f]? = some fn) (hb : fn.body.isNone = false) (hn : (fn.name == "runtime.NumGoroutine") = false) (tm : Array Value) (w : World) :
    (execOp (tev tm) o).run P w = .ok (.enter f (args.map (tev tm))) w := by
  have hn' : ¬ fn.name = "runtime.NumGoroutine" := by simpa using hn
  have hb' : ¬ fn.body = none := by intro h; rw [h] at hb; simp at hb
  simp only [execOp, ho]
  simp [resolve, tev, Deferred.ofValue, invoke, callFunc, hf, hb', hn']

theorem RW.call {P : Program} {ops : Array Oper} {K : St → Prop} {st : St} {i : Nat} {rest : List Nat} {o : Oper} {f : FuncId} {fn : Func} {args : Array Operand} {ats : Array TypeId} {R : V → Heap → Nat → Prop}
    (ho : ops[i]? = some o) (hw : wantV st ops o = some true) (hop : o.op = .call { callee := .value (.func f), args := args, argTypes := ats })
    (hf : P.funcs[f]? = some fn) (hb : fn.body.isNone = false) (hn : (fn.name == "runtime.NumGoroutine") = false)
    (hc : CallOk P f (args.toList.map st.opd) st.h st.n R) (hr : ∀ v h' n', R v h' n' → RW P ops rest K (St.put { st with h := h', n := n' } o.dst v)) : RW P ops (i :: rest) K st := by
  intro tm df w M hs b k cs
  have hargs : ArgsRep w M st.n (args.toList.map st.opd) (args.map (tev tm)) := by
    refine ⟨by simp, fun j v hv => ?_⟩
    simp only [List.getElem?_map, Array.getElem?_toList, Option.map_eq_some_iff] at hv
    obtain ⟨x, hx, rfl⟩ := hv
    simpa [Array.getD_eq_getD_getElem?, hx] using hs.opd' x
  obtain ⟨v, h', n', x, w₁, M₁, fr, q, r1, r2, r3, r4, r5, r6⟩ := hc w M _ hargs hs.sim (here b tm df (.inRegion ops (i :: rest) :: k) :: cs)
  have hst := (hs.after r3 r4 r2).put (v := v) (x := x) r1 o.dst
  obtain ⟨st', tm', w', M', q', t1, t2, t4, t3⟩ := hr v h' n' q _ df w₁ M₁ hst b k cs
  have hp : (St.put { st with h := h', n := n' } o.dst v).h = h' ∧ (St.put { st with h := h', n := n' } o.dst v).n = n' := by cases o.dst <;> exact ⟨rfl, rfl⟩
  rw [hp.1, hp.2] at t4
  have henter := hstep_op_enter (b := b) (k := k) (cs := cs) (df := df) (rest := rest) ho (wantV_spec hs hw) (by intro c hc; simp [hop] at hc) (call_run hop hf hb hn tm w)
  have hleave := step_leave_returned (c := here b tm df (.inRegion ops (i :: rest) :: k)) (cs := cs) r6.1
  rw [here_finish, ho, Option.bind_some] at hleave
  exact ⟨st', tm', w', M', q', t1, r3.trans t2, r4.trans t4, .head henter (r5.trans (.head hleave t3))⟩

/-! ### A function's body. -/
def resV (P : Program) (st : St) : ResultVar → Option V
  | .tmp t => some (lget st.tmps t)
  | .cell a t => match lget st.tmps a with
    | .ptr id off => match st.h.find id with
      | .box cs => readV P t (cs.drop off)
      | _ => none
    | _ => none

def resVs (P : Program) (st : St) : List ResultVar → Option (List V)
  | [] => some []
  | r :: rs => match resV P st r, resVs P st rs with
    | some v, some vs => some (v :: vs)
    | _, _ => none

def tupV : List V → V
  | [v] => v
  | vs => .tup vs

def resSem (tm : Array Value) : ResultVar → Sem Value
  | .tmp t => Pure.pure (tm.getD t undef)
  | .cell a t => do loadVar t (← asAddr (tm.getD a undef))

theorem resV_run {P : Program} {st : St} {tm : Array Value} {df : List Deferred} {w : World} {M : Mem} (hs : StRel st tm df w M) {r : ResultVar} {v : V} (h : resV P st r = some v) :
    ∃ x, (resSem tm r).run P w = .ok x w ∧ Rep w M st.n v x := by
  cases r with
  | tmp t =>
    simp only [resV, Option.some.injEq] at h; subst h
    exact ⟨_, rfl, hs.opd' (.tmp t)⟩
  | cell a t =>
    simp only [resV] at h
    split at h
    · rename_i id off ha
      split at h
      · rename_i cs hcs
        have hra := hs.opd' (.tmp a)
        simp only [St.opd, ha, tev] at hra
        generalize hq : tm.getD a undef = q at hra
        cases hra with
        | @ptr _ _ _ b hid hb =>
          obtain ⟨b', ys, el, fz, hm, hh, hsz, hfr, ho, hr⟩ := hs.sim.box id cs hcs
          obtain rfl := hb b' hm
          obtain ⟨v', hv', hr'⟩ := run_read (P := P) (t := t) (cs := cs.drop off) (b := b') (o := off) (y := fun i => ys.getD (off + i) undef) (w := w) (M := M) (n := st.n)
            (fun i hi => by
              have hi' : off + i < ys.size := by rw [hsz]; simp at hi; omega
              simp [World.cell?, hh, Array.getD_eq_getD_getElem?, hi'])
            (fun i hi => ho _ (by simp at hi; omega))
            (fun i u hu => hr _ u (by rw [List.getElem?_drop] at hu; exact hu)) h
          refine ⟨v', ?_, hr'⟩
          simp only [Instr.loadAt, Instr.sureAddr] at hv'
          show (do loadVar t (← asAddr (tm.getD a undef)) : Sem Value).run P w = _
          rw [hq]
          simpa [asAddr] using hv'
      · simp at h
    · simp at h

theorem resVs_run {P : Program} {st : St} {tm : Array Value} {df : List Deferred} {w : World} {M : Mem} (hs : StRel st tm df w M) : ∀ {rs : List ResultVar} {vs : List V}, resVs P st rs = some vs →
    ∃ xs : List Value, (rs.mapM (resSem tm)).run P w = .ok xs w ∧ xs.length = vs.length ∧ ∀ i v, vs[i]? = some v → Rep w M st.n v (xs.getD i undef)
  | [], vs, h => by
    simp [resVs] at h; subst h
    exact ⟨[], by simp, rfl, fun i v hv => by simp at hv⟩
  | r :: rs, vs, h => by
    simp only [resVs] at h
    split at h
    · rename_i v vs' hv hvs
      simp only [Option.some.injEq] at h; subst h
      obtain ⟨x, hx, hrx⟩ := resV_run hs hv
      obtain ⟨xs, hxs, hl, hrs⟩ := resVs_run hs hvs
      refine ⟨x :: xs, ?_, by simp [hl], fun i u hu => ?_⟩
      · simp only [List.mapM_cons, Sem.run_bind, Sem.run_pure]
        rw [hx]
        simp only [Result.andThen_ok]
        rw [hxs]
        rfl
      · cases i with
        | zero => simp at hu; subst hu; simpa using hrx
        | succ i => simpa using hrs i u (by simpa using hu)
    · simp at h

theorem results_run {P : Program} {fn : Func} {st : St} {tm : Array Value} {df : List Deferred} {w : World} {M : Mem} (hs : StRel st tm df w M) {vs : List V} (h : resVs P st fn.results.toList = some vs) :
    ∃ x, (results fn tm).run P w = .ok x w ∧ Rep w M st.n (tupV vs) x := by
  obtain ⟨xs, hx, hl, hr⟩ := resVs_run hs h
  have hm : (fn.results.mapM (resSem tm)).run P w = .ok xs.toArray w := by
    rw [Array.mapM_eq_mapM_toList]
    simp only [Sem.run_map]
    rw [hx]
    rfl
  have hres : (results fn tm).run P w = .ok (if h : xs.toArray.size = 1 then xs.toArray[0] else .tuple xs.toArray) w := by
    have he : results fn tm = (do let vs ← fn.results.mapM (resSem tm); Pure.pure (if h : vs.size = 1 then vs[0] else .tuple vs)) := by
      unfold results
      congr 1
    rw [he]
    simp only [Sem.run_bind, hm, Result.andThen_ok, Sem.run_pure]
  refine ⟨_, hres, ?_⟩
  cases vs with
  | nil =>
    cases xs with
    | nil => exact .tup rfl (fun i v hv => by simp at hv)
    | cons x xs => simp at hl
  | cons v vs =>
    cases xs with
    | nil => simp at hl
    | cons x xs =>
      cases vs with
      | nil =>
        cases xs with
        | nil => simpa [tupV] using hr 0 v rfl
        | cons x' xs => simp at hl
      | cons v' vs =>
        cases xs with
        | nil => simp at hl
        | cons x' xs =>
          rw [dif_neg (by simp)]
          exact .tup (by simpa using hl) (fun i u hu => by simpa [List.getD_eq_getElem?_getD] using hr i u hu)

/-- How many places a state's marks name. -/
def NoMarks (st : St) : Prop := st.marks = []

def initTmps (args : List V) (k : Nat) : List V := args ++ List.replicate (k - args.length) .any

/-- A FUNCTION, by its body. -/
theorem CallOk.of_body {P : Program} {f : FuncId} {fn : Func} {c : Code} {args : List V} {h : Heap} {n : Nat} {R : V → Heap → Nat → Prop} (hf : P.funcs[f]? = some fn) (hb : fn.body = some c)
    (hw : AW P n c (fun e st => (e = .normal ∨ e = .ret) ∧ st.marks = [] ∧ n ≤ st.n ∧ ∃ vs, resVs P st fn.results.toList = some vs ∧ R (tupV vs) st.h st.n) { tmps := initTmps args fn.ntmps, h := h, n := n, marks := [] }) :
    CallOk P f args h n R := by
  intro w M xs ha hs cs
  obtain ⟨hsz, hrep⟩ := ha
  have henter : Frame.enter P f xs .normal = here { (default : Frame) with fn := f, kind := .normal, roundOf := none } (xs ++ Array.replicate (fn.ntmps - xs.size) undef) [] [.code c] := by
    simp [Frame.enter, here, hf, hb]
  have hst : StRel { tmps := initTmps args fn.ntmps, h := h, n := n, marks := [] } (xs ++ Array.replicate (fn.ntmps - xs.size) undef) [] w M := by
    refine ⟨by simp [initTmps, hsz], fun i v hv => ?_, hs, rfl⟩
    simp only [initTmps] at hv
    by_cases hi : i < args.length
    · rw [List.getElem?_append_left hi] at hv
      have hi' : i < xs.size := by omega
      have := hrep i v hv
      simpa [Array.getD_eq_getD_getElem?, Array.getElem?_append, hi'] using this
    · rw [List.getElem?_append_right (by omega)] at hv
      have : v = .any := by
        have := List.mem_of_getElem? hv
        exact (List.mem_replicate.1 this).2
      subst this
      exact .any _
  obtain ⟨e, st', tm', df', w', M', ⟨he, hm, hn, vs, hvs, hR⟩, hr, ht, hold, harr⟩ := hw (Nat.le_refl _) _ [] w M hst { (default : Frame) with fn := f, kind := .normal, roundOf := none } [] cs (.inl rfl)
  have hdf : df' = [] := by have := hr.marks; rw [hm] at this; exact this
  subst hdf
  obtain ⟨x, hx, hrx⟩ := results_run hr hvs
  have fin : ∀ todo, (step P (lone (here { (default : Frame) with fn := f, kind := .normal, roundOf := none } tm' [] todo) cs w') = .next (lone { here { (default : Frame) with fn := f, kind := .normal, roundOf := none } tm' [] todo with mode := .returning } cs w')) →
      Steps P (lone (here { (default : Frame) with fn := f, kind := .normal, roundOf := none } (xs ++ Array.replicate (fn.ntmps - xs.size) undef) [] [.code c]) cs w) (lone (here { (default : Frame) with fn := f, kind := .normal, roundOf := none } tm' [] todo) cs w') →
      ∃ v h' n' x w' M' fr, R v h' n' ∧ Rep w' M' n' v x ∧ Sim w' M' h' n' ∧ Tr M w M' w' ∧ Old M h n M' h' n' ∧
        Steps P (lone (Frame.enter P f xs .normal) cs w) (lone fr cs w') ∧ fr.leaving P w' (.returned x) ∧ fr.fn = f := fun todo h1 h2 =>
    ⟨tupV vs, st'.h, st'.n, x, w', M', _, hR, hrx, hr.sim, ht, hold, by rw [henter]; exact h2.trans (.one h1), ⟨rfl, rfl, rfl, fn, hf, hx⟩, rfl⟩
  rcases he with rfl | rfl
  · exact fin [] (step_lone_go (by simp [stepG, stepG.exec, here])) harr
  · obtain ⟨k', hk⟩ := harr
    exact fin _ (step_lone_go (by simp [stepG, stepG.exec, here])) hk
end Go.Qx
