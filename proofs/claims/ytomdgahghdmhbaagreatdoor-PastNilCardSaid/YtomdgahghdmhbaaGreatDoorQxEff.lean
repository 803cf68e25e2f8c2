import Derived.Test.YtomdgahghdmhbaaGreatDoorQxSim
import Derived.Test.YtomdgahghdmhbaaGreatDoorQxUnwind
namespace Go.Qx
open Go
set_option linter.unusedVariables false

theorem EffOk.mono {P : Program} {ops : Array Oper} {i : Nat} {o : Oper} {st : St} {K K' : St → Prop} (h : EffOk P ops i o st K) (hk : ∀ s, K s → K' s) : EffOk P ops i o st K' := by
  intro tm df w M hs b rest k cs tm2 ha hw
  obtain ⟨st', x, w', M', h1, h2⟩ := h tm df w M hs b rest k cs tm2 ha hw
  exact ⟨st', x, w', M', hk _ h1, h2⟩

theorem EffOk.op {P : Program} {ops : Array Oper} {i : Nat} {o : Oper} {st st1 : St} {K : St → Prop} (ho : ops[i]? = some o) (hsel : ∀ cs b, o.op ≠ .select cs b) (h : OpOk P o st st1) (hK : K st1) : EffOk P ops i o st K := by
  intro tm df w M hs b rest k cs tm2 ha hw
  obtain ⟨r, x, w', M', hr, hx, h1, h2, h3⟩ := h.2 tm df w M hs
  rw [ha.exec hsel] at hr
  exact ⟨st1, x, w', M', hK, h1, h2, h3, step_of_run h.1 hr hx ho hw⟩

theorem RW.eff {P : Program} {ops : Array Oper} {K : St → Prop} {st : St} {i : Nat} {rest : List Nat} {o : Oper} (ho : ops[i]? = some o) (hw : wantV st ops o = some true) (h : EffOk P ops i o st (RW P ops rest K)) : RW P ops (i :: rest) K st := by
  intro tm df w M hs b k cs
  obtain ⟨st1, x, w1, M1, h1, h2, h3, h4, h5⟩ := h tm df w M hs b rest k cs tm ⟨rfl, fun _ _ => rfl⟩ (wantV_spec hs hw)
  obtain ⟨st', tm', w', M', q, r1, r2, r4, r3⟩ := h1 _ df w1 M1 h2 b k cs
  exact ⟨st', tm', w', M', q, r1, h3.trans r2, h4.trans r4, h5.trans r3⟩

theorem EffOk.call {P : Program} {ops : Array Oper} {K : St → Prop} {st : St} {i : Nat} {o : Oper} {f : FuncId} {fn : Func} {args : Array Operand} {ats : Array TypeId} {R : V → Heap → Nat → Prop}
    (ho : ops[i]? = some o) (hop : o.op = .call { callee := .value (.func f), args := args, argTypes := ats })
    (hf : P.funcs[f]? = some fn) (hb : fn.body.isNone = false) (hn : (fn.name == "runtime.NumGoroutine") = false)
    (hc : CallOk P f (args.toList.map st.opd) st.h st.n R) (hr : ∀ v h' n', R v h' n' → K (St.put { st with h := h', n := n' } o.dst v)) : EffOk P ops i o st K := by
  intro tm df w M hs b rest k cs tm2 ha hw
  have hargs : ArgsRep w M st.n (args.toList.map st.opd) (args.map (tev tm)) := by
    refine ⟨by simp, fun j v hv => ?_⟩
    simp only [List.getElem?_map, Array.getElem?_toList, Option.map_eq_some_iff] at hv
    obtain ⟨x, hx, rfl⟩ := hv
    simpa [Array.getD_eq_getD_getElem?, hx] using hs.opd' x
  have hsame : args.map (tev tm2) = args.map (tev tm) := by
    apply Array.map_congr_left
    intro y hy
    refine (ha.tev y fun t ht => ?_).symm
    simp only [opUses, List.mem_filterMap, hop]
    exact ⟨y, by simp [Op.operands, Call.operands, hy], ht⟩
  obtain ⟨v, h', n', x, w₁, M₁, fr, q, r1, r2, r3, r4, r5, r6⟩ := hc w M _ hargs hs.sim (here b tm2 df (.inRegion ops (i :: rest) :: k) :: cs)
  have hst := (hs.after r3 r4 r2).put (v := v) (x := x) r1 o.dst
  have hp : (St.put { st with h := h', n := n' } o.dst v).h = h' ∧ (St.put { st with h := h', n := n' } o.dst v).n = n' := by cases o.dst <;> exact ⟨rfl, rfl⟩
  have hrun := call_run hop hf hb hn tm2 w
  rw [hsame] at hrun
  have henter := hstep_op_enter (b := b) (k := k) (cs := cs) (df := df) (rest := rest) ho hw (by intro c hc; simp [hop] at hc) hrun
  have hleave := step_leave_returned (c := here b tm2 df (.inRegion ops (i :: rest) :: k)) (cs := cs) r6.1
  rw [here_finish, ho, Option.bind_some] at hleave
  exact ⟨_, x, w₁, M₁, hr v h' n' q, hst, r3, by rw [hp.1, hp.2]; exact r4, .head henter (r5.trans (.one hleave))⟩

theorem EffOk.callFn {P : Program} {ops : Array Oper} {K : St → Prop} {st : St} {i : Nat} {o : Oper} {t : Tmp} {f : FuncId} {fn : Func} {args : Array Operand} {ats : Array TypeId} {caps : List V} {R : V → Heap → Nat → Prop}
    (ho : ops[i]? = some o) (hop : o.op = .call { callee := .value (.tmp t), args := args, argTypes := ats }) (hx : st.opd (.tmp t) = .fn (.func f) [] caps)
    (hf : P.funcs[f]? = some fn) (hb : fn.body.isNone = false) (hn : (fn.name == "runtime.NumGoroutine") = false)
    (hc : CallOk P f (args.toList.map st.opd ++ caps) st.h st.n R) (hr : ∀ v h' n', R v h' n' → K (St.put { st with h := h', n := n' } o.dst v)) : EffOk P ops i o st K := by
  intro tm df w M hs b rest k cs tm2 ha hw
  have hxr := hs.opd' (.tmp t)
  rw [hx] at hxr
  have hmem : ∀ y t', (y = .tmp t ∨ y ∈ args) → opT y = some t' → t' ∈ opUses o := fun y t' hy ht => by
    simp only [opUses, List.mem_filterMap, hop]
    exact ⟨y, by rcases hy with rfl | hy <;> simp [Op.operands, Call.operands, *], ht⟩
  have htt : tev tm2 (.tmp t) = tev tm (.tmp t) := (ha.tev (.tmp t) fun t' ht => hmem _ t' (.inl rfl) ht).symm
  generalize hq : tev tm (.tmp t) = q at hxr
  cases hxr with
  | @fn _ _ _ _ xs ys h1 h2 h3 h4 =>
  have hxs : xs = #[] := by
    apply Array.ext'
    have : xs.toList.length = 0 := by simpa using h1
    simpa using this
  subst hxs
  have hargs : ArgsRep w M st.n (args.toList.map st.opd ++ caps) (args.map (tev tm) ++ ys) := by
    refine ⟨by simp [h2], fun j v hv => ?_⟩
    by_cases hj : j < args.size
    · rw [List.getElem?_append_left (by simpa using hj)] at hv
      simp only [List.getElem?_map, Array.getElem?_toList, Option.map_eq_some_iff] at hv
      obtain ⟨x, hx, rfl⟩ := hv
      have hx' : args[j] = x := by rw [Array.getElem?_eq_getElem hj] at hx; simpa using hx
      have := hs.opd' x
      simpa [Array.getD_eq_getD_getElem?, Array.getElem?_append, hj, hx'] using this
    · rw [List.getElem?_append_right (by simp; omega)] at hv
      have := h4 (j - args.size) v (by simpa using hv)
      simpa [Array.getD_eq_getD_getElem?, Array.getElem?_append, hj] using this
  have hsame : args.map (tev tm2) = args.map (tev tm) := by
    apply Array.map_congr_left
    intro y hy
    exact (ha.tev y fun t' ht => hmem y t' (.inr hy) ht).symm
  obtain ⟨v, h', n', x, w₁, M₁, fr, qq, r1, r2, r3, r4, r5, r6⟩ := hc w M _ hargs hs.sim (here b tm2 df (.inRegion ops (i :: rest) :: k) :: cs)
  have hst := (hs.after r3 r4 r2).put (v := v) (x := x) r1 o.dst
  have hp : (St.put { st with h := h', n := n' } o.dst v).h = h' ∧ (St.put { st with h := h', n := n' } o.dst v).n = n' := by cases o.dst <;> exact ⟨rfl, rfl⟩
  have hrun := closure_run (w := w) hop (htt.trans hq) hf hb hn
  rw [hsame] at hrun
  have henter := hstep_op_enter (b := b) (k := k) (cs := cs) (df := df) (rest := rest) ho hw (by intro c hc; simp [hop] at hc) hrun
  have hleave := step_leave_returned (c := here b tm2 df (.inRegion ops (i :: rest) :: k)) (cs := cs) r6.1
  rw [here_finish, ho, Option.bind_some] at hleave
  exact ⟨_, x, w₁, M₁, hr v h' n' qq, hst, r3, by rw [hp.1, hp.2]; exact r4, .head henter (r5.trans (.one hleave))⟩

/-- `x == nil` of a slice: either way where it may be either. -/
theorem EffOk.eqNil {P : Program} {ops : Array Oper} {K : St → Prop} {st : St} {i : Nat} {o : Oper} {op : BinOp} {t u e : TypeId} {x y : Operand} {es : List V} {nn : Bool} {tok : Option Nat} (ho : ops[i]? = some o)
    (hop : o.op = .binOp op t x y u) (hop' : op = .eql ∨ op = .neq) (hx : st.opd x = .sl es nn tok) (hy : st.opd y = .raw (.slice none 0 0)) (ht : P.underlying t = some (.slice e))
    (hr : ∀ isn : Bool, (isn = true → es = [] ∧ nn = false) → K (st.put o.dst (.raw (.bool (if op = .eql then isn else !isn))))) : EffOk P ops i o st K := by
  intro tm df w M hs b rest k cs tm2 ha hw
  obtain ⟨isn, h1, h2⟩ := eqNil_run hop hop' hx hy ht hs
  rw [ha.exec (by intro cs b h; rw [hop] at h; cases h)] at h2
  exact ⟨_, _, w, M, hr isn h1, hs.put (.raw _) o.dst, .refl M w, by rw [(put_hn ..).1, (put_hn ..).2]; exact .refl _ _ _, step_of_run (by intro c hc; simp [hop] at hc) h2 (.inl rfl) ho hw⟩
end Go.Qx
