import Derived.Test.YtomdgahghdmhbaaGreatDoorQxYield
namespace Go.Qx
open Go
set_option linter.unusedVariables false

/-- A call of a closure that a temporary holds. -/
theorem RW.callFn {P : Program} {ops : Array Oper} {K : St → Prop} {st : St} {i : Nat} {rest : List Nat} {o : Oper} {t : Tmp} {f : FuncId} {fn : Func} {args : Array Operand} {ats : Array TypeId} {caps : List V} {R : V → Heap → Nat → Prop}
    (ho : ops[i]? = some o) (hw : wantV st ops o = some true) (hop : o.op = .call { callee := .value (.tmp t), args := args, argTypes := ats }) (hx : st.opd (.tmp t) = .fn (.func f) [] caps)
    (hf : P.funcs[f]? = some fn) (hb : fn.body.isNone = false) (hn : (fn.name == "runtime.NumGoroutine") = false)
    (hc : CallOk P f (args.toList.map st.opd ++ caps) st.h st.n R) (hr : ∀ v h' n', R v h' n' → RW P ops rest K (St.put { st with h := h', n := n' } o.dst v)) : RW P ops (i :: rest) K st := by
  intro tm df w M hs b k cs
  have hxr := hs.opd' (.tmp t)
  rw [hx] at hxr
  generalize hq : tev tm (.tmp t) = q at hxr
  cases hxr with
  | @fn _ _ _ _ xs ys h1 h2 h3 h4 =>
  have hxs : xs = #[] := by apply Array.ext' ; have : xs.toList.length = 0 := by simpa using h1
                            simpa using this
  subst hxs
  have hargs : ArgsRep w M st.n (args.toList.map st.opd ++ caps) (args.map (tev tm) ++ ys) := by
    refine ⟨by simp [h2], fun j v hv => ?_⟩
    by_cases hj : j < args.size
    · rw [List.getElem?_append_left (by simpa using hj)] at hv
      simp only [List.getElem?_map, Array.getElem?_toList, Option.map_eq_some_iff] at hv
      obtain ⟨x, hx, rfl⟩ := hv
      have hx' : args[j] = x := by rw [Array.getElem?_eq_getElem hj] at hx; simpa using hx
      have := hs.opd' x
      simpa [Array.getD_eq_getD_getElem?, Array.getElem?_append, hj, hx'] using this
    · rw [List.getElem?_append_right (by simp; omega)] at hv
      have := h4 (j - args.size) v (by simpa using hv)
      simpa [Array.getD_eq_getD_getElem?, Array.getElem?_append, hj] using this
  obtain ⟨v, h', n', x, w₁, M₁, fr, q, r1, r2, r3, r4, r5, r6⟩ := hc w M _ hargs hs.sim (here b tm df (.inRegion ops (i :: rest) :: k) :: cs)
  have hst := (hs.after r3 r4 r2).put (v := v) (x := x) r1 o.dst
  obtain ⟨st', tm', w', M', q', t1, t2, t4, t3⟩ := hr v h' n' q _ df w₁ M₁ hst b k cs
  have hp : (St.put { st with h := h', n := n' } o.dst v).h = h' ∧ (St.put { st with h := h', n := n' } o.dst v).n = n' := by cases o.dst <;> exact ⟨rfl, rfl⟩
  rw [hp.1, hp.2] at t4
  have henter := hstep_op_enter (b := b) (k := k) (cs := cs) (df := df) (rest := rest) ho (wantV_spec hs hw) (by intro c hc; simp [hop] at hc) (closure_run (w := w) hop hq hf hb hn)
  have hleave := step_leave_returned (c := here b tm df (.inRegion ops (i :: rest) :: k)) (cs := cs) r6.1
  rw [here_finish, ho, Option.bind_some] at hleave
  exact ⟨st', tm', w', M', q', t1, r3.trans t2, r4.trans t4, .head henter (r5.trans (.head hleave t3))⟩

def codeEx : Option Code → Option Ex
  | none => some .normal
  | some .ret => some .ret
  | some (.exit id) => some (.exit id)
  | _ => none

/-- A LOOP OVER A FUNCTION that a closure gives. -/
theorem AW.rangeFunc {P : Program} {m : Nat} {Q : Ex → St → Prop} {st : St} {g : Operand} {ps : Array Tmp} {as bd : Code} {f : FuncId} {fn : Func} {caps : List V}
    (hg : st.opd g = .fn (.func f) [] caps) (hf : P.funcs[f]? = some fn) (hb : fn.body.isNone = false) (hn : (fn.name == "runtime.NumGoroutine") = false)
    (h : CallOk P f (.yld (st.n + 1) :: caps) ((st.n + 1, .loop 0 st.tmps ps.toList as bd false false none st.n) :: (st.n, .dfr) :: st.h) (st.n + 2) fun _ h' n' =>
      ∃ f1 t1 p1 a1 b1 D1 ov pe e, h'.find (st.n + 1) = .loop f1 t1 p1 a1 b1 false ov pe D1 ∧ codeEx pe = some e ∧ Q e { st with h := (st.n + 1, .dead) :: h', n := n', marks := st.n :: st.marks }) :
    AW P m (.rangeFunc g ps as bd) Q st := by
  intro hm tm df w M hs b k cs hfit
  have hro : b.roundOf = none := by rcases hfit with h | h; exact h; simp [flat] at h
  have hgr := hs.opd' g
  rw [hg] at hgr
  generalize hq : tev tm g = q at hgr
  cases hgr with
  | @fn _ _ _ _ xs ys h1 h2 h3 h4 =>
  have hxs : xs = #[] := by apply Array.ext' ; have : xs.toList.length = 0 := by simpa using h1
                            simpa using this
  subst hxs
  -- the two blocks
  obtain ⟨hst1, t1⟩ := hs.new (Grow.alloc w (.deferred (some []))) (.dfr w.heap.size) .dfr (fun b' o hfo => by
    have hfo : b' = w.heap.size := hfo
    subst hfo; simp) (fun _ => ⟨w.heap.size, rfl, World.alloc_heap_new w _⟩)
  obtain ⟨w1, hw1⟩ : ∃ w1, w.alloc (.deferred (some [])) = w1 := ⟨_, rfl⟩
  have hsz1 : w1.heap.size = w.heap.size + 1 := by rw [← hw1]; exact World.size_alloc _ _
  rw [hw1] at hst1 t1
  obtain ⟨M1, hM1⟩ : ∃ M1, upd M st.n (some (.dfr w.heap.size)) = M1 := ⟨_, rfl⟩
  have oA : Old M st.h st.n M1 ((st.n, .dfr) :: st.h) (st.n + 1) := by rw [← hM1]; exact Old.new hs.sim _ _
  have hM1n : M1 st.n = some (.dfr w.heap.size) := by rw [← hM1, upd_same]
  rw [hM1] at hst1 t1
  obtain ⟨hst2, t2⟩ := hst1.new (Grow.alloc w1 (.loop { state := .ready, pending := none, fn := b.fn, tmps := tm, params := ps, assign := as, body := bd, defers := w.heap.size })) (.loop (w.heap.size + 1))
    (.loop 0 st.tmps ps.toList as bd false false none st.n) (fun b' o hfo => by
    have hfo : b' = w.heap.size + 1 := hfo
    subst hfo; simp [hsz1]) (fun htr => by
    refine ⟨w.heap.size + 1, tm, w.heap.size, .ready, b.fn, rfl, ?_, rfl, hs.size, ?_, fun i v hv => ?_⟩
    · have := World.alloc_heap_new w1 (.loop { state := .ready, pending := none, fn := b.fn, tmps := tm, params := ps, assign := as, body := bd, defers := w.heap.size })
      rw [hsz1] at this; rw [this]
    · rw [upd_other]
      · exact hM1n
      · simp [St.new]
    · exact (hst1.tmp i v hv).tr htr (fun id q => upd_old id q) (Nat.le_succ _))
  obtain ⟨w2, hw2⟩ : ∃ w2, w1.alloc (.loop { state := .ready, pending := none, fn := b.fn, tmps := tm, params := ps, assign := as, body := bd, defers := w.heap.size }) = w2 := ⟨_, rfl⟩
  rw [hw2] at hst2 t2
  have hn1 : (st.new .dfr).n = st.n + 1 := rfl
  rw [hn1] at hst2 t2
  obtain ⟨M2, hM2⟩ : ∃ M2, upd M1 (st.n + 1) (some (.loop (w.heap.size + 1))) = M2 := ⟨_, rfl⟩
  have oB : Old M1 ((st.n, .dfr) :: st.h) (st.n + 1) M2 ((st.n + 1, .loop 0 st.tmps ps.toList as bd false false none st.n) :: (st.n, .dfr) :: st.h) (st.n + 2) := by
    rw [← hM2]; exact Old.new hst1.sim _ _
  have hM2l : M2 (st.n + 1) = some (.loop (w.heap.size + 1)) := by rw [← hM2, upd_same]
  have hM2n : M2 st.n = some (.dfr w.heap.size) := by rw [← hM2, upd_other _ _ (by omega)]; exact hM1n
  rw [hM2] at hst2 t2
  have hrunE : (Instr.enterLoop b.fn tm ps as bd b.roundOf).run P w = .ok (w.heap.size + 1, [{ target := .collected w.heap.size, args := #[] }]) w2 := by
    rw [hro, ← hw2, ← hw1]; exact run_enterLoop_outer _ _ _ _ _
  have hev : ({ tmps := tm, defers := df } : Act).eval g = .func (.func f) #[] ys := by
    rw [← hq]; cases g <;> rfl
  have hres : (resolve ({ tmps := tm, defers := df } : Act).eval (rangeCall g (w.heap.size + 1)) 0).run P w2 = .ok { target := .fn (.func f) ys, args := #[.func (.yield (w.heap.size + 1)) #[] #[]] } w2 := by
    simp only [resolve, hev]
    simp [go_sem]
  have hcf : (callFunc f (#[.func (.yield (w.heap.size + 1)) #[] #[]] ++ ys)).run P w2 = .ok (.enter f (#[.func (.yield (w.heap.size + 1)) #[] #[]] ++ ys)) w2 := by
    have hn' : ¬ fn.name = "runtime.NumGoroutine" := by simpa using hn
    have hb' : ¬ fn.body = none := by intro h; rw [h] at hb; simp at hb
    simp [callFunc, hf, hb', hn']
  have hinv : (invoke (Target.fn (.func f) ys) #[.func (.yield (w.heap.size + 1)) #[] #[]]).run P w2 = .ok (.enter f (#[.func (.yield (w.heap.size + 1)) #[] #[]] ++ ys)) w2 := by
    simp [invoke, go_sem, hcf]
  have henter := stepR_rangeFunc (P := P) (b := b) (a := { tmps := tm, defers := df }) (k := k) (cs := cs) (w := w) hrunE hres hinv
  have hargs : ArgsRep w2 M2 (st.n + 2) (.yld (st.n + 1) :: caps) (#[.func (.yield (w.heap.size + 1)) #[] #[]] ++ ys) := by
    refine ⟨by simp [h2]; omega, fun j v hv => ?_⟩
    cases j with
    | zero =>
      simp only [List.getElem?_cons_zero, Option.some.injEq] at hv
      subst hv
      have hy0 : (#[Value.func (.yield (w.heap.size + 1)) #[] #[]] ++ ys).getD 0 undef = .func (.yield (w.heap.size + 1)) #[] #[] := by simp [Array.getD_eq_getD_getElem?, Array.getElem?_append]
      rw [hy0]
      refine .yld (Nat.lt_succ_self _) fun b' hb' => ?_
      rw [hM2l] at hb'; simpa using hb'.symm
    | succ j =>
      have hv' : caps[j]? = some v := by simpa using hv
      have hr0 := h4 j v hv'
      have hr1 : Rep w2 M2 (st.n + 2) v (ys.getD j undef) := hr0.tr (t1.trans t2) (fun id p hid hp => oA.old id p hid (oB.old id p (by omega) hp)) (by omega)
      simpa [Array.getD_eq_getD_getElem?, Array.getElem?_append] using hr1
  obtain ⟨v, h', n', x, w3, M3, fr, ⟨fA, tA, pA, aA, bA, dA, ov, pe, e, hfl, hce, hQ⟩, r1, r2, t3, o3, s3, hleave⟩ := h w2 M2 _ hargs hst2.sim (b.atR { tmps := tm, defers := { target := .collected w.heap.size, args := #[] } :: df } (.inRangeFunc (w.heap.size + 1) :: k) :: cs)
  obtain ⟨l3, ys3, D3, fo3, hm3, hh3, _, _, _⟩ := r2.loopSet hfl false ov pe
  have hl3 : l3 = w.heap.size + 1 := by
    have := o3.old (st.n + 1) _ (by omega) hm3
    rw [hM2l] at this; simpa using this.symm
  subst hl3
  have hend := run_endLoop (P := P) hh3 (by cases ov <;> simp)
  obtain ⟨w4, hw4⟩ : ∃ w4, w4 = w3.putObj (w.heap.size + 1) (.loop { state := .exhausted, pending := pe, fn := fo3, tmps := ys3, params := pA.toArray, assign := aA, body := bA, defers := D3 }) := ⟨_, rfl⟩
  simp only at hend
  rw [← hw4] at hend
  obtain ⟨hsim4, t4⟩ := r2.loopDead (o := .loop { state := .exhausted, pending := pe, fn := fo3, tmps := ys3, params := pA.toArray, assign := aA, body := bA, defers := D3 }) hm3
  rw [← hw4] at hsim4 t4
  have hA := hst2.after t3 o3 r2
  have hpin := o3.pin st.n (by omega) (by rw [Heap.find_new, if_neg (by omega), Heap.find_new, if_pos rfl]; rfl)
  have hdfr : h'.find st.n = .dfr := by rw [hpin.1, Heap.find_new, if_neg (by omega), Heap.find_new, if_pos rfl]
  have hst4 : StRel { st with h := (st.n + 1, .dead) :: h', n := n', marks := st.n :: st.marks } tm ({ target := .collected w.heap.size, args := #[] } :: df) w4 M3 := by
    refine ⟨hs.size, fun i v hv => (hA.tmp i v hv).tr t4 (fun _ _ _ h => h) (Nat.le_refl _), hsim4, ?_⟩
    refine ⟨by rw [Heap.find_new, if_neg (by omega)]; exact hdfr, w.heap.size, df, by rw [hpin.2]; exact hM2n, rfl, ?_⟩
    refine Marks.mono (M := M3) (h := h') (ms := st.marks) hA.marks fun id _ hid => ⟨?_, rfl⟩
    rw [Heap.find_new, if_neg]
    · exact hid
    · rintro rfl; rw [hfl] at hid; cases hid
  have o4 : Old M3 h' n' M3 ((st.n + 1, .dead) :: h') n' := Old.set _ (by rw [hfl]; rfl)
  have hold : Old M st.h m M3 ((st.n + 1, .dead) :: h') n' := (((oA.trans oB).trans o3).trans o4).weaken hm
  have hback : Steps P (lone (here b tm df (.code (.rangeFunc g ps as bd) :: k)) cs w) (lone (here b tm ({ target := .collected w.heap.size, args := #[] } :: df) ((pe.map Item.code).toList ++ k)) cs w4) := by
    rw [here_atR, here_atR]
    refine .head henter (s3.trans (.head (step_leave_returned hleave.1) ?_))
    rw [finish_atR_inRangeFunc]
    exact .one (stepR_endRangeFunc hend)
  refine ⟨e, _, tm, _, w4, M3, hQ, hst4, ((t1.trans t2).trans t3).trans t4, hold, ?_⟩
  unfold codeEx at hce
  split at hce
  · simp only [Option.some.injEq] at hce; subst hce
    exact hback
  · simp only [Option.some.injEq] at hce; subst hce
    exact ⟨k, hback⟩
  · simp only [Option.some.injEq] at hce; subst hce
    exact ⟨k, rfl, hback⟩
  · cases hce
end Go.Qx
