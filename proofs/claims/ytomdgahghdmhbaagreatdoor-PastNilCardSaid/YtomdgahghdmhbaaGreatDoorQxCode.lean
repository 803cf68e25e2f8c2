import Derived.Test.YtomdgahghdmhbaaGreatDoorQxRep
namespace Go.Qx
open Go
set_option linter.unusedVariables false

/-- A frame as it goes on: whatever kind of frame it is (a call's own, or a round's). -/
def here (b : Frame) (tm : Array Value) (df : List Deferred) (todo : List Item) : Frame :=
  { b with tmps := tm, defers := df, todo := todo, mode := .run }

def tev (tm : Array Value) : Operand → Value
  | .tmp t => tm.getD t undef
  | .const v => v
  | .global g => .pointer (some ⟨g, 0, none⟩)
  | .func f => .func (.func f) #[] #[]

theorem StRel.opd' {st : St} {tm : Array Value} {df : List Deferred} {w : World} {M : Mem} (h : StRel st tm df w M) (x : Operand) :
    Rep w M st.n (st.opd x) (tev tm x) := by
  have := h.opd x
  cases x <;> exact this

theorem here_eval (b : Frame) (tm : Array Value) (df : List Deferred) (todo : List Item) : (here b tm df todo).eval = tev tm := by
  funext x; cases x <;> rfl

section
variable {P : Program} {b : Frame} {tm : Array Value} {df : List Deferred} {k : List Item} {cs : List Frame} {w : World}

theorem hstep_skip : step P (lone (here b tm df (.code .skip :: k)) cs w) = .next (lone (here b tm df k) cs w) :=
  step_lone_go (by simp [stepG, stepG.exec, here])
theorem hstep_inBlock {id : Nat} : step P (lone (here b tm df (.inBlock id :: k)) cs w) = .next (lone (here b tm df k) cs w) :=
  step_lone_go (by simp [stepG, stepG.exec, here])
theorem hstep_seq {x y : Code} : step P (lone (here b tm df (.code (.seq x y) :: k)) cs w) = .next (lone (here b tm df (.code x :: .code y :: k)) cs w) :=
  step_lone_go (by simp [stepG, stepG.exec, here])
theorem hstep_block {id : Nat} {c : Code} : step P (lone (here b tm df (.code (.block id c) :: k)) cs w) = .next (lone (here b tm df (.code c :: .inBlock id :: k)) cs w) :=
  step_lone_go (by simp [stepG, stepG.exec, here])
theorem hstep_loop {c : Code} : step P (lone (here b tm df (.code (.loop c) :: k)) cs w) = .next (lone (here b tm df (.code c :: .inLoop c :: k)) cs w) :=
  step_lone_go (by simp [stepG, stepG.exec, here])
theorem hstep_inLoop {c : Code} : step P (lone (here b tm df (.inLoop c :: k)) cs w) = .next (lone (here b tm df (.code c :: .inLoop c :: k)) cs w) :=
  step_lone_go (by simp [stepG, stepG.exec, here])
theorem hstep_exit {id : Nat} {k' : List Item} (h : exitTo id k = some k') :
    step P (lone (here b tm df (.code (.exit id) :: k)) cs w) = .next (lone (here b tm df k') cs w) :=
  step_lone_go (by simp [stepG, stepG.exec, here, h])
theorem hstep_cond {c : Operand} {x y : Code} {t : Bool} (h : tev tm c = .bool t) :
    step P (lone (here b tm df (.code (.cond c x y) :: k)) cs w) = .next (lone (here b tm df (.code (if t then x else y) :: k)) cs w) :=
  step_lone_go (by
    have := congrFun (here_eval b tm df (.code (.cond c x y) :: k)) c
    simp only [here] at this
    simp [stepG, stepG.exec, here, this, h])
theorem hstep_region {id : Nat} {ops : Array Oper} :
    step P (lone (here b tm df (.code (.region id ops false) :: k)) cs w) = .next (lone (here b tm df (.inRegion ops (List.range ops.size) :: k)) cs w) :=
  step_lone_go (by simp [stepG, stepG.exec, here])
theorem hstep_region_draw {id : Nat} {ops : Array Oper} :
    step P (lone (here b tm df (.code (.region id ops true) :: k)) cs w) =
      .next (lone (here b tm df (.inRegion ops (Region.schedule (P.follows .mixedOrders) ops (w.tape w.drawn (.order b.fn id))) :: k)) cs { w with drawn := w.drawn + 1 }) :=
  step_lone_go (by simp [stepG, stepG.exec, here, choose, Sem.run, Question.forced, Question.cut])
theorem hstep_region_end {ops : Array Oper} : step P (lone (here b tm df (.inRegion ops [] :: k)) cs w) = .next (lone (here b tm df k) cs w) :=
  step_lone_go (by simp [stepG, stepG.exec, here])

theorem here_finish {ops : Array Oper} {i : Nat} {rest : List Nat} {v : Value} :
    (here b tm df (.inRegion ops (i :: rest) :: k)).finish v = here b (tput tm ((ops[i]?).bind (·.dst)) v) df (.inRegion ops rest :: k) := by
  cases h : (ops[i]?).bind (·.dst) <;> simp [Frame.finish, here, tput, h]

theorem hstep_op_skip {ops : Array Oper} {i : Nat} {rest : List Nat} (h : ((ops[i]?).map (Region.wanted · (yielded ops tm))).getD false = false) :
    step P (lone (here b tm df (.inRegion ops (i :: rest) :: k)) cs w) =
      .next (lone (here b (tput tm ((ops[i]?).bind (·.dst)) undef) df (.inRegion ops rest :: k)) cs w) := by
  rw [← here_finish]
  exact step_lone_go (by
    have h' := h
    simp only [here] at *
    simp [stepG, stepG.exec, h'])

theorem hstepG_op {ops : Array Oper} {i : Nat} {rest : List Nat} {o : Oper} (ho : ops[i]? = some o) (hw : Region.wanted o (yielded ops tm) = true)
    (hd : ∀ c, o.op ≠ .defer c) :
    stepG P true { frame := here b tm df (.inRegion ops (i :: rest) :: k), callers := cs, status := .running, dying := none } w =
      stepG.apply P true (here b tm df (.inRegion ops (i :: rest) :: k)) cs none (execOp (tev tm) o) w := by
  have he := here_eval b tm df (.inRegion ops (i :: rest) :: k)
  simp only [here] at he
  simp only [stepG, stepG.exec, here, ho, Option.map_some, Option.getD_some, hw, if_true]
  simp only [stepG.oper, Frame.oper?, ho]
  rw [he]
  split
  · rename_i hop
    exact absurd hop (hd _)
  · rfl

/-- An operation that comes to a value. -/
theorem hstep_op_value {ops : Array Oper} {i : Nat} {rest : List Nat} {o : Oper} {w' : World} {v : Value} (ho : ops[i]? = some o) (hw : Region.wanted o (yielded ops tm) = true)
    (hd : ∀ c, o.op ≠ .defer c) (hr : (execOp (tev tm) o).run P w = .ok (.value v) w') :
    step P (lone (here b tm df (.inRegion ops (i :: rest) :: k)) cs w) = .next (lone (here b (tput tm o.dst v) df (.inRegion ops rest :: k)) cs w') := by
  have hf := here_finish (b := b) (tm := tm) (df := df) (k := k) (ops := ops) (i := i) (rest := rest) (v := v)
  rw [ho, Option.bind_some] at hf
  rw [← hf]
  exact step_lone_go (by rw [hstepG_op ho hw hd]; simp [stepG.apply, hr])

theorem hstep_op_unit {ops : Array Oper} {i : Nat} {rest : List Nat} {o : Oper} {w' : World} (ho : ops[i]? = some o) (hw : Region.wanted o (yielded ops tm) = true)
    (hd : ∀ c, o.op ≠ .defer c) (hr : (execOp (tev tm) o).run P w = .ok .skip w') :
    step P (lone (here b tm df (.inRegion ops (i :: rest) :: k)) cs w) = .next (lone (here b (tput tm o.dst undef) df (.inRegion ops rest :: k)) cs w') := by
  have hf := here_finish (b := b) (tm := tm) (df := df) (k := k) (ops := ops) (i := i) (rest := rest) (v := undef)
  rw [ho, Option.bind_some] at hf
  rw [← hf]
  exact step_lone_go (by rw [hstepG_op ho hw hd]; simp [stepG.apply, hr])

theorem hstep_op_enter {ops : Array Oper} {i : Nat} {rest : List Nat} {o : Oper} {w' : World} {f : FuncId} {args : Array Value} (ho : ops[i]? = some o) (hw : Region.wanted o (yielded ops tm) = true)
    (hd : ∀ c, o.op ≠ .defer c) (hr : (execOp (tev tm) o).run P w = .ok (.enter f args) w') :
    step P (lone (here b tm df (.inRegion ops (i :: rest) :: k)) cs w) =
      .next (lone (Frame.enter P f args .normal) (here b tm df (.inRegion ops (i :: rest) :: k) :: cs) w') :=
  step_lone_go (by rw [hstepG_op ho hw hd]; simp [stepG.apply, hr, here])
end

end Go.Qx
