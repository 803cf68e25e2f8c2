import Derived.Test.YtomdgahghdmhbaaGreatDoorQxRange
namespace Go.Qx
open Go
set_option linter.unusedVariables false

theorem yield_run {P : Program} {o : Oper} {t : Tmp} {args : Array Operand} {ats : Array TypeId} {tm : Array Value} {w : World} {l : Nat} {r : Loop} (hop : o.op = .call { callee := .value (.tmp t), args := args, argTypes := ats })
    (hx : tev tm (.tmp t) = .func (.yield l) #[] #[]) (h : w.heap[l]? = some (.loop r)) (hs : args.size = r.params.size) :
    (execOp (tev tm) o).run P w = .ok (.round l r.fn ((r.params.zip (args.map (tev tm))).foldl (fun tmps (t, a) => tmps.setIfInBounds t a) r.tmps) r.assign r.body) w := by
  have hy := run_yield (P := P) (args := args.map (tev tm)) h (by simpa using hs)
  simp only [execOp, hop]
  simp [resolve, hx, Deferred.ofValue, invoke, hy]

theorem closure_run {P : Program} {o : Oper} {t : Tmp} {args : Array Operand} {ats : Array TypeId} {tm : Array Value} {w : World} {f : FuncId} {fn : Func} {caps : Array Value} (hop : o.op = .call { callee := .value (.tmp t), args := args, argTypes := ats })
    (hx : tev tm (.tmp t) = .func (.func f) #[] caps) (hf : P.funcs[f]? = some fn) (hb : fn.body.isNone = false) (hn : (fn.name == "runtime.NumGoroutine") = false) :
    (execOp (tev tm) o).run P w = .ok (.enter f (args.map (tev tm) ++ caps)) w := by
  have hn' : ¬ fn.name = "runtime.NumGoroutine" := by simpa using hn
  have hb' : ¬ fn.body = none := by intro h; rw [h] at hb; simp at hb
  simp only [execOp, hop]
  simp [resolve, hx, Deferred.ofValue, invoke, callFunc, hf, hb', hn']

def exPend : Ex → Option Code
  | .normal => none
  | .ret => some .ret
  | .exit id => some (.exit id)

def exOn : Ex → Bool
  | .normal => true
  | _ => false

theorem hstep_op_round {P : Program} {b : Frame} {tm : Array Value} {df : List Deferred} {k : List Item} {cs : List Frame} {w : World} {ops : Array Oper} {i : Nat} {rest : List Nat} {o : Oper} {w' : World} {l : Nat} {f : FuncId} {tmps : Array Value} {as bd : Code}
    (ho : ops[i]? = some o) (hw : Region.wanted o (yielded ops tm) = true)
    (hd : ∀ c, o.op ≠ .defer c) (hr : (execOp (tev tm) o).run P w = .ok (.round l f tmps as bd) w') :
    step P (lone (here b tm df (.inRegion ops (i :: rest) :: k)) cs w) =
      .next (lone (Frame.round l f tmps as bd .normal) (here b tm df (.inRegion ops (i :: rest) :: k) :: cs) w') :=
  step_lone_go (by rw [hstepG_op ho hw hd]; simp [stepG.apply, hr, here])

/-- ONE ROUND: yield is called. -/
theorem RW.yield {P : Program} {ops : Array Oper} {K : St → Prop} {st : St} {i : Nat} {rest : List Nat} {o : Oper} {t : Tmp} {args : Array Operand} {ats : Array TypeId} {id : Nat} {fn : FuncId} {tm0 : List V} {ps : List Tmp} {as bd : Code} {pe : Option Code} {D : Nat}
    (ho : ops[i]? = some o) (hw : wantV st ops o = some true) (hop : o.op = .call { callee := .value (.tmp t), args := args, argTypes := ats })
    (hx : st.opd (.tmp t) = .yld id) (hl : st.h.find id = .loop fn tm0 ps as bd false false pe D) (har : args.toList.length = ps.length) (hfa : flat as = true) (hfb : flat bd = true)
    (hr : AW P st.n as (Ex.thn (fun s1 => s1.marks = [] ∧ ∃ f1 t1 p1 a1 b1 e1 D1, s1.h.find id = .loop f1 t1 p1 a1 b1 false false e1 D1 ∧
        AW P st.n bd (fun e s2 => s2.marks = [] ∧ ∃ f2 t2 p2 a2 b2 e2 D2, s2.h.find id = .loop f2 t2 p2 a2 b2 true false e2 D2 ∧
          RW P ops rest K (St.put { st with h := (id, .loop f2 t2 p2 a2 b2 false (!exOn e) (exPend e) D2) :: s2.h, n := s2.n } o.dst (.raw (.bool (exOn e)))))
        { s1 with h := (id, .loop f1 t1 p1 a1 b1 true false e1 D1) :: s1.h }) (fun _ _ => False))
      { tmps := setps tm0 ps (args.toList.map st.opd), h := st.h, n := st.n, marks := [] }) : RW P ops (i :: rest) K st := by
  intro tm df w M hs b k cs
  have hxr := hs.opd' (.tmp t)
  rw [hx] at hxr
  obtain ⟨lb, ys, D0, fo, hm, hh, hsz, hrep, _⟩ := hs.sim.loopSet hl false false pe
  generalize hq : tev tm (.tmp t) = q at hxr
  cases hxr with
  | @yld _ _ b' hid hb' =>
  obtain rfl := hb' lb hm
  -- the round's frame
  have hyr := yield_run (P := P) (w := w) hop hq hh (by simpa using har)
  have hround := hstep_op_round (b := b) (k := k) (cs := cs) (df := df) (rest := rest) ho (wantV_spec hs hw) (by intro c hc; simp [hop] at hc) hyr
  obtain ⟨p1, p2⟩ := setps_rep (w := w) (M := M) (n := st.n) ps (args.toList.map st.opd) (args.toList.map (tev tm)) tm0 ys hsz hrep (by simp) (fun j v hv => by
    simp only [List.getElem?_map, Option.map_eq_some_iff] at hv
    obtain ⟨x, hx, rfl⟩ := hv
    simpa [List.getD_eq_getElem?_getD, hx] using hs.opd' x)
  have hfold : (ps.toArray.zip (args.map (tev tm))).foldl (fun tmps (x : Tmp × Value) => tmps.setIfInBounds x.1 x.2) ys = (ps.zip (args.toList.map (tev tm))).foldl (fun tmps (p : Tmp × Value) => tmps.setIfInBounds p.1 p.2) ys := by
    rw [← Array.foldl_toList]; simp
  have hst0 : StRel { tmps := setps tm0 ps (args.toList.map st.opd), h := st.h, n := st.n, marks := [] } ((ps.zip (args.toList.map (tev tm))).foldl (fun tmps (p : Tmp × Value) => tmps.setIfInBounds p.1 p.2) ys) [] w M :=
    ⟨p1, p2, hs.sim, rfl⟩
  let br : Frame := { (default : Frame) with fn := fo, kind := .normal, roundOf := some lb }
  have hfr : Frame.round lb fo ((ps.zip (args.toList.map (tev tm))).foldl (fun tmps (p : Tmp × Value) => tmps.setIfInBounds p.1 p.2) ys) as bd .normal =
      here br ((ps.zip (args.toList.map (tev tm))).foldl (fun tmps (p : Tmp × Value) => tmps.setIfInBounds p.1 p.2) ys) [] (.code as :: [.beginRound, .code bd]) := by
    simp [Frame.round, here, br]
  obtain ⟨e1, s1, tm1, df1, w1, M1, hq1, r1, t1, o1, a1⟩ := hr (Nat.le_refl _) _ [] w M hst0 br [.beginRound, .code bd] (here b tm df (.inRegion ops (i :: rest) :: k) :: cs) (.inr hfa)
  cases e1 with
  | exit id => exact hq1.elim
  | ret => exact hq1.elim
  | normal =>
    obtain ⟨hm1, fA, tA, pA, aA, bA, eA, dA, hl1, hr2⟩ := hq1
    have hd1 : df1 = [] := by have := r1.marks; rw [hm1] at this; exact this
    subst hd1
    obtain ⟨lb1, ys1, D1, fo1, hm1', hh1, _, _, hsim1, htr1⟩ := r1.sim.loopSet hl1 true false eA
    have hlb : lb1 = lb := by
      have := o1.old id _ hid hm1'
      rw [hm] at this; simpa using this.symm
    subst hlb
    have hbr : (Instr.beginRound lb1).run P w1 = .ok () _ := run_beginRound hh1 rfl
    have hst1 : StRel { s1 with h := (id, .loop fA tA pA aA bA true false eA dA) :: s1.h } tm1 [] (w1.putObj lb1 (.loop { state := .busy, pending := eA, fn := fo1, tmps := ys1, params := pA.toArray, assign := aA, body := bA, defers := D1 })) M1 :=
      ⟨r1.size, fun j v hv => (r1.tmp j v hv).tr htr1 (fun _ _ _ h => h) (Nat.le_refl _), hsim1, by show Marks _ _ s1.marks []; rw [hm1]; rfl⟩
    obtain ⟨e2, s2, tm2, df2, w2, M2, hq2, r2, t2, o2, a2⟩ := hr2 o1.le tm1 [] _ M1 hst1 br [] (here b tm df (.inRegion ops (i :: rest) :: k) :: cs) (.inr hfb)
    obtain ⟨hm2, fB, tB, pB, aB, bB, eB, dB, hl2, hr3⟩ := hq2
    obtain ⟨lb2, ys2, D2, fo2, hm2', hh2, _, _, hsim2, htr2⟩ := r2.sim.loopSet hl2 false (!exOn e2) (exPend e2)
    have hlb2 : lb2 = lb1 := by
      have h1 := o2.old id _ hid hm2'
      rw [hm1'] at h1; simpa using h1.symm
    subst hlb2
    have o12 : Old M st.h st.n M2 ((id, .loop fB tB pB aB bB false (!exOn e2) (exPend e2) dB) :: s2.h) s2.n := by
      have h1 : Old M st.h st.n M1 ((id, .loop fA tA pA aA bA true false eA dA) :: s1.h) s1.n := o1.trans (Old.set _ (by rw [hl1]; rfl))
      exact (h1.trans' o2).trans (Old.set _ (by rw [hl2]; rfl))
    have t12 : Tr M w M2 (w2.putObj lb2 (.loop { state := if (!exOn e2) then .done else if false then .busy else .ready, pending := exPend e2, fn := fo2, tmps := ys2, params := pB.toArray, assign := aB, body := bB, defers := D2 })) := (t1.trans htr1).trans (t2.trans htr2)
    have hend : (Instr.endRound lb2 (exPend e2)).run P w2 = .ok (.bool (exOn e2)) (w2.putObj lb2 (.loop { state := if (!exOn e2) then .done else if false then .busy else .ready, pending := exPend e2, fn := fo2, tmps := ys2, params := pB.toArray, assign := aB, body := bB, defers := D2 })) := by
      have := run_endRound (P := P) (exPend e2) hh2
      rw [this]
      cases e2 <;> rfl
    have hsteps : Steps P (lone (here br tm2 df2 []) (here b tm df (.inRegion ops (i :: rest) :: k) :: cs) w2) (lone (here br tm2 df2 []) (here b tm df (.inRegion ops (i :: rest) :: k) :: cs) w2) := .refl P _
    have hfin : Steps P (lone (here br tm1 [] [.code bd]) (here b tm df (.inRegion ops (i :: rest) :: k) :: cs) (w1.putObj lb2 (.loop { state := .busy, pending := eA, fn := fo1, tmps := ys1, params := pA.toArray, assign := aA, body := bA, defers := D1 })))
        (lone ((here b tm df (.inRegion ops (i :: rest) :: k)).finish (.bool (exOn e2))) cs (w2.putObj lb2 (.loop { state := if (!exOn e2) then .done else if false then .busy else .ready, pending := exPend e2, fn := fo2, tmps := ys2, params := pB.toArray, assign := aB, body := bB, defers := D2 }))) := by
      cases e2 with
      | normal =>
        refine Steps.trans a2 (.one ?_)
        rw [here_atR br]
        exact stepR_round_end rfl rfl hend
      | ret =>
        obtain ⟨k', hs'⟩ := a2
        refine Steps.trans hs' (.one ?_)
        rw [here_atR br]
        exact stepR_round_ret rfl rfl hend
      | exit jd =>
        obtain ⟨k', hk', hs'⟩ := a2
        refine Steps.trans hs' (.one ?_)
        rw [here_atR br]
        exact stepR_round_exit rfl rfl (by rw [hk']; rfl) hend
    have hst3 := (hs.after t12 o12 hsim2).put (v := .raw (.bool (exOn e2))) (x := .bool (exOn e2)) (.raw _) o.dst
    obtain ⟨st', tm', w', M', q', u1, u2, u4, u3⟩ := hr3 _ df _ M2 hst3 b k cs
    have hp : (St.put { st with h := (id, .loop fB tB pB aB bB false (!exOn e2) (exPend e2) dB) :: s2.h, n := s2.n } o.dst (.raw (.bool (exOn e2)))).h = (id, .loop fB tB pB aB bB false (!exOn e2) (exPend e2) dB) :: s2.h ∧
        (St.put { st with h := (id, .loop fB tB pB aB bB false (!exOn e2) (exPend e2) dB) :: s2.h, n := s2.n } o.dst (.raw (.bool (exOn e2)))).n = s2.n := by cases o.dst <;> exact ⟨rfl, rfl⟩
    rw [hp.1, hp.2] at u4
    refine ⟨st', tm', w', M', q', u1, t12.trans u2, o12.trans u4, .head hround ?_⟩
    rw [hfold, hfr]
    refine Steps.trans a1 (.head ?_ (Steps.trans hfin ?_))
    · rw [here_atR, here_atR]; exact stepR_beginRound rfl hbr
    · rw [here_finish, ho, Option.bind_some]; exact u3
end Go.Qx
