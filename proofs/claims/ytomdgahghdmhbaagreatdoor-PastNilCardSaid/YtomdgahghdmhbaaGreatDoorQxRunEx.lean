import Derived.Test.YtomdgahghdmhbaaGreatDoorQxPlan
namespace Go.Qx
open Go
set_option linter.unusedVariables false

/-! ### Functions, run. -/
abbrev CallFn := FuncId → List V → Heap → Nat → Option (V × Heap × Nat)

def CallsOk (P : Program) (call : CallFn) : Prop :=
  ∀ f args h n v h' n', call f args h n = some (v, h', n') → CallOk P f args h n fun a b c => a = v ∧ b = h' ∧ c = n'

def bodyOf (P : Program) (f : FuncId) : Option (Func × Code) :=
  match P.funcs[f]? with
  | some fn => match fn.body with
    | some c => bif fn.name == "runtime.NumGoroutine" then none else some (fn, c)
    | none => none
  | none => none

theorem bodyOf_spec {P : Program} {f : FuncId} {fn : Func} {c : Code} (h : bodyOf P f = some (fn, c)) : P.funcs[f]? = some fn ∧ fn.body = some c ∧ (fn.name == "runtime.NumGoroutine") = false := by
  unfold bodyOf at h
  split at h
  · rename_i fn' hf
    split at h
    · rename_i c' hc
      cases hn : (fn'.name == "runtime.NumGoroutine")
      · rw [hn] at h
        simp only [cond_false, Option.some.injEq, Prod.mk.injEq] at h
        obtain ⟨rfl, rfl⟩ := h
        exact ⟨hf, hc, hn⟩
      · rw [hn] at h; cases h
    · cases h
  · cases h

def callSt (st : St) (o : Oper) (r : Option (V × Heap × Nat)) : Option (List St) :=
  match r with
  | some (v, h', n') => some [St.put { st with h := h', n := n' } o.dst v]
  | none => none

def exStep (P : Program) (call : CallFn) (st : St) (o : Oper) : Option (List St) :=
  match o.op with
  | .call c => match c.callee with
    | .value (.func f) => match bodyOf P f with
      | some _ => callSt st o (call f (c.args.toList.map st.opd) st.h st.n)
      | none => (exPure P st o).map fun v => [st.put o.dst v]
    | .value (.tmp t) => match st.opd (.tmp t) with
      | .fn (.func f) [] caps => match bodyOf P f with
        | some _ => callSt st o (call f (c.args.toList.map st.opd ++ caps) st.h st.n)
        | none => none
      | _ => none
    | _ => (exO P st o).map fun s => [s]
  | .binOp op t x y _ => match st.opd x, st.opd y with
    | .sl es nn _, .raw (.slice none 0 0) => bif (elV P t).isSome then
        (match op with
        | .eql => bif es.isEmpty && !nn then some [st.put o.dst (.raw (.bool true)), st.put o.dst (.raw (.bool false))] else some [st.put o.dst (.raw (.bool false))]
        | .neq => bif es.isEmpty && !nn then some [st.put o.dst (.raw (.bool false)), st.put o.dst (.raw (.bool true))] else some [st.put o.dst (.raw (.bool true))]
        | _ => none) else none
    | _, _ => (exO P st o).map fun s => [s]
  | _ => (exO P st o).map fun s => [s]

theorem exStep_ok {P : Program} {call : CallFn} (hc : CallsOk P call) : StepOk P (exStep P call) := by
  intro st o L h ops i ho
  have op : (exO P st o).map (fun s => [s]) = some L → (∀ cs b, o.op ≠ .select cs b) → EffOk P ops i o st (· ∈ L) := fun h hsel => by
    obtain ⟨s, hs, rfl⟩ := Option.map_eq_some_iff.1 h
    exact EffOk.op ho hsel (exO_ok hs) (by simp)
  have cl : ∀ {r : Option (V × Heap × Nat)}, callSt st o r = some L → ∃ v h' n', r = some (v, h', n') ∧ L = [St.put { st with h := h', n := n' } o.dst v] := fun {r} h => by
    unfold callSt at h
    split at h
    · rename_i v h' n'; cases h; exact ⟨v, h', n', rfl, rfl⟩
    · cases h
  unfold exStep at h
  split at h
  · rename_i c hop
    obtain ⟨callee, args, ats⟩ := c
    simp only at h
    split at h
    · rename_i f
      split at h
      · rename_i p hb
        obtain ⟨fn, c⟩ := p
        obtain ⟨b1, b2, b3⟩ := bodyOf_spec hb
        obtain ⟨v, h', n', hr, rfl⟩ := cl h
        exact EffOk.call ho hop b1 (by rw [b2]; rfl) b3 (hc _ _ _ _ _ _ _ hr) fun a b c ⟨ha, hb, hc⟩ => by subst ha; subst hb; subst hc; simp
      · obtain ⟨v, hv, rfl⟩ := Option.map_eq_some_iff.1 h
        exact EffOk.op ho (by intro cs b hs; rw [hop] at hs; cases hs) (exPure_ok hv).ok (by simp)
    · rename_i t
      split at h
      · rename_i f caps hx
        split at h
        · rename_i p hb
          obtain ⟨fn, c⟩ := p
          obtain ⟨b1, b2, b3⟩ := bodyOf_spec hb
          obtain ⟨v, h', n', hr, rfl⟩ := cl h
          exact EffOk.callFn ho hop hx b1 (by rw [b2]; rfl) b3 (hc _ _ _ _ _ _ _ hr) fun a b c ⟨ha, hb, hc⟩ => by subst ha; subst hb; subst hc; simp
        · cases h
      · cases h
    · exact op h (by intro cs b hs; rw [hop] at hs; cases hs)
  · rename_i op' t x y u hop
    split at h
    · rename_i es nn tok hx hy
      cases he : (elV P t).isSome
      · rw [he] at h; cases h
      · rw [he] at h
        simp only [cond_true] at h
        obtain ⟨el, hel⟩ := Option.isSome_iff_exists.1 he
        have hfalse : (es.isEmpty && !nn) = false → ∀ isn : Bool, (isn = true → es = [] ∧ nn = false) → isn = false := fun hf isn hi => by
          cases isn with
          | false => rfl
          | true => obtain ⟨rfl, rfl⟩ := hi rfl; simp at hf
        split at h
        · refine EffOk.eqNil ho hop (.inl rfl) hx hy (elV_spec hel) fun isn hi => ?_
          cases hb : (es.isEmpty && !nn)
          · rw [hb] at h; cases h; rw [hfalse hb isn hi]; simp
          · rw [hb] at h; cases h; cases isn <;> simp
        · refine EffOk.eqNil ho hop (.inr rfl) hx hy (elV_spec hel) fun isn hi => ?_
          cases hb : (es.isEmpty && !nn)
          · rw [hb] at h; cases h; rw [hfalse hb isn hi]; simp
          · rw [hb] at h; cases h; cases isn <;> simp
        · cases h
    · exact op h (by intro cs b hs; rw [hop] at hs; cases hs)
  · rename_i hn1 hn2
    refine op h (fun cs b hs => ?_)
    obtain ⟨s, hs', _⟩ := Option.map_eq_some_iff.1 h
    unfold exO exQ at hs'
    rw [hs] at hs'
    simp only [exPure, plainOp, hs, Bool.false_and, cond_false, Option.map_none] at hs'
    cases hs'

/-! #### Rounds. -/
def yldOf (st : St) (o : Oper) : Option (Nat × List Operand) :=
  match o.op with
  | .call c => match c.callee with
    | .value (.tmp t) => match st.opd (.tmp t) with
      | .yld id => some (id, c.args.toList)
      | _ => none
    | _ => none
  | _ => none

theorem yldOf_spec {st : St} {o : Oper} {id : Nat} {args : List Operand} (h : yldOf st o = some (id, args)) : ∃ t as ats, o.op = .call { callee := .value (.tmp t), args := as, argTypes := ats } ∧ st.opd (.tmp t) = .yld id ∧ as.toList = args := by
  unfold yldOf at h
  split at h
  · rename_i c hop
    obtain ⟨callee, as, ats⟩ := c
    simp only at h
    split at h
    · rename_i t
      split at h
      · rename_i id' hx
        simp only [Option.some.injEq, Prod.mk.injEq] at h
        obtain ⟨rfl, rfl⟩ := h
        exact ⟨t, as, ats, hop, hx, rfl⟩
      · cases h
    · cases h
  · cases h

def yldEnd (st : St) (o : Oper) (id : Nat) (p : Ex × St) : Option (List St) :=
  match p.2.marks with
  | [] => match p.2.h.find id with
    | .loop f2 t2 p2 a2 b2 true false _ D2 => some [St.put { st with h := (id, .loop f2 t2 p2 a2 b2 false (!exOn p.1) (exPend p.1) D2) :: p.2.h, n := p.2.n } o.dst (.raw (.bool (exOn p.1)))]
    | _ => none
  | _ => none

def yldMid (run : Code → St → Option (List (Ex × St))) (st : St) (o : Oper) (id : Nat) (bd : Code) (p : Ex × St) : Option (List St) :=
  match p.1, p.2.marks with
  | .normal, [] => match p.2.h.find id with
    | .loop f1 t1 p1 a1 b1 false false e1 D1 => match run bd { p.2 with h := (id, .loop f1 t1 p1 a1 b1 true false e1 D1) :: p.2.h } with
      | some L => bindL (yldEnd st o id) L
      | none => none
    | _ => none
  | _, _ => none

def exYield (run : Code → St → Option (List (Ex × St))) (st : St) (o : Oper) (id : Nat) (args : List Operand) : Option (List St) :=
  match st.h.find id with
  | .loop fn tm0 ps as bd false false pe D => bif args.length == ps.length && flat as && flat bd then
      (match run as { tmps := setps tm0 ps (args.map st.opd), h := st.h, n := st.n, marks := [] } with
      | some L => bindL (yldMid run st o id bd) L
      | none => none) else none
  | _ => none

/-- A run of code that comes to one of some ends. -/
def RunOk (P : Program) (run : Code → St → Option (List (Ex × St))) : Prop := ∀ c st L, run c st = some L → ∀ m, AW P m c (fun e s => (e, s) ∈ L) st

theorem exYield_ok {P : Program} {run : Code → St → Option (List (Ex × St))} (hrun : RunOk P run) {st : St} {o : Oper} {id : Nat} {args : List Operand} {L : List St} {ops : Array Oper} {i : Nat} {rest : List Nat} {K : St → Prop}
    (ho : ops[i]? = some o) (hw : wantV st ops o = some true) (hy : yldOf st o = some (id, args)) (h : exYield run st o id args = some L) (hK : ∀ s ∈ L, RW P ops rest K s) : RW P ops (i :: rest) K st := by
  obtain ⟨t, as', ats, hop, hx, rfl⟩ := yldOf_spec hy
  unfold exYield at h
  split at h
  · rename_i fn tm0 ps as bd pe D hl
    cases hc : (as'.toList.length == ps.length && flat as && flat bd)
    · rw [hc] at h; cases h
    · rw [hc] at h
      simp only [cond_true] at h
      simp only [Bool.and_eq_true, beq_iff_eq] at hc
      obtain ⟨⟨c1, c2⟩, c3⟩ := hc
      split at h
      · rename_i L1 h1
        refine RW.yield ho hw hop hx hl c1 c2 c3 (AW.mono (hrun _ _ _ h1 _) fun e s hs => ?_)
        obtain ⟨l2, g1, g2⟩ := bindL_spec h (e, s) hs
        unfold yldMid at g1
        split at g1
        · rename_i he hm
          simp only at he hm; subst he
          split at g1
          · rename_i f1 t1 p1 a1 b1 e1 D1 hl1
            split at g1
            · rename_i L2 h2
              refine ⟨hm, f1, t1, p1, a1, b1, e1, D1, hl1, (hrun _ _ _ h2 _).mono fun e2 s2 hs2 => ?_⟩
              obtain ⟨l3, g3, g4⟩ := bindL_spec g1 (e2, s2) hs2
              unfold yldEnd at g3
              split at g3
              · rename_i hm2
                split at g3
                · rename_i f2 t2 p2 a2 b2 e2' D2 hl2
                  cases g3
                  exact ⟨hm2, f2, t2, p2, a2, b2, e2', D2, hl2, hK _ (g2 _ (g4 _ (by simp)))⟩
                · cases g3
              · cases g3
            · cases g1
          · cases g1
        · cases g1
      · cases h
  · cases h

/-- A region in its written order. -/
def exOps (P : Program) (run : Code → St → Option (List (Ex × St))) (step : St → Oper → Option (List St)) (ops : Array Oper) : List Nat → St → Option (List St)
  | [], st => some [st]
  | i :: r, st => match ops[i]? with
    | some o => match wantV st ops o with
      | some true => match yldOf st o with
        | some (id, args) => match exYield run st o id args with
          | some L => bindL (exOps P run step ops r) L
          | none => none
        | none => match step st o with
          | some L => bindL (exOps P run step ops r) L
          | none => none
      | some false => exOps P run step ops r (st.put o.dst nop)
      | none => none
    | none => none

theorem exOps_ok {P : Program} {run : Code → St → Option (List (Ex × St))} {step : St → Oper → Option (List St)} (hrun : RunOk P run) (hs : StepOk P step) {ops : Array Oper} : ∀ (l : List Nat) (st : St) (L : List St), exOps P run step ops l st = some L → RW P ops l (· ∈ L) st
  | [], st, L, h => by simp only [exOps, Option.some.injEq] at h; subst h; exact .nil (by simp)
  | i :: r, st, L, h => by
    have ih := exOps_ok hrun hs (ops := ops) r
    simp only [exOps] at h
    split at h
    · rename_i o ho
      split at h
      · rename_i hw
        split at h
        · rename_i id args hy
          split at h
          · rename_i L1 h1
            refine exYield_ok hrun ho hw hy h1 fun s hsL => ?_
            obtain ⟨l2, g1, g2⟩ := bindL_spec h s hsL
            exact (ih s l2 g1).mono g2
          · cases h
        · split at h
          · rename_i L1 h1
            refine RW.eff ho hw ((hs st o L1 h1 ops i ho).mono fun s hsL => ?_)
            obtain ⟨l2, g1, g2⟩ := bindL_spec h s hsL
            exact (ih s l2 g1).mono g2
          · cases h
      · rename_i hw; exact .skip ho hw (ih _ _ h)
      · cases h
    · cases h

/-! #### The end of a function. -/
mutual
/-- A value, without the difference between nil and no elements. -/
def V.loose : V → V
  | .raw (.slice none 0 0) => .sl [] false none
  | .sl [] _ _ => .sl [] false none
  | .agg cs => .agg (looseL cs)
  | .tup vs => .tup (looseL vs)
  | v => v
def looseL : List V → List V
  | [] => []
  | v :: r => v.loose :: looseL r
end
theorem looseL_eq (l : List V) : looseL l = l.map V.loose := by
  induction l with
  | nil => simp [looseL]
  | cons a r ih => simp [looseL, ih]
theorem Rep.loose {w : World} {M : Mem} {n : Nat} {v : V} {x : Value} (h : Rep w M n v x) : Rep w M n v.loose x := by
  induction h with
  | raw x =>
    unfold V.loose
    split
    · rename_i he; cases he; exact .slNil fun t h => by cases h
    · rename_i he; cases he
    · rename_i he; cases he
    · rename_i he; cases he
    · exact .raw x
  | slNil ht => simp only [V.loose]; exact .slNil fun t h => by cases h
  | slE a => simp only [V.loose]; exact .slE a
  | @sl n es nn tok b o cap k y hlen hk hc ho hr ht =>
    cases es with
    | nil => simp only [V.loose]; exact .sl hlen hk hc ho hr fun t h => by cases h
    | cons e r => simp only [V.loose]; exact .sl hlen hk hc ho hr ht
  | agg hs ho _ ih =>
    simp only [V.loose, looseL_eq]
    refine .agg (by simpa using hs) (by simpa using ho) fun i u hu => ?_
    rw [List.getElem?_map, Option.map_eq_some_iff] at hu
    obtain ⟨v, hv, rfl⟩ := hu
    exact ih i v hv
  | tup hs _ ih =>
    simp only [V.loose, looseL_eq]
    refine .tup (by simpa using hs) fun i u hu => ?_
    rw [List.getElem?_map, Option.map_eq_some_iff] at hu
    obtain ⟨v, hv, rfl⟩ := hu
    exact ih i v hv
  | any x => exact .any x
  | ref a b c => exact .ref a b c
  | ptr a b => exact .ptr a b
  | fn a b c d => exact .fn a b c d
  | yld a b => exact .yld a b
  | ifc a => exact .ifc a
  | mref a b => exact .mref a b
  | itp a b => exact .itp a b
  | aslNil a b => exact .aslNil a b
  | asl a b c => exact .asl a b c
  | eptr a b => exact .eptr a b

def low (n : Nat) (v : V) (h : Heap) (n' : Nat) : V × Heap × Nat := match lower n v h with
  | some r => r
  | none => (v, h, n')

def exEnd (P : Program) (fn : Func) (n : Nat) (lo : Bool) (p : Ex × St) : Option (V × Heap × Nat) :=
  match p.1 with
  | .exit _ => none
  | _ => bif marksOk n p.2.marks && Nat.ble n p.2.n then
      (match resVs P p.2.unmark fn.results.toList with
      | some vs => some (low n (cond lo (tupV vs).loose (tupV vs)) p.2.unmark.h p.2.unmark.n)
      | none => none) else none

def isFr : O → Bool
  | .fr _ _ => true
  | _ => false

/-- Heaps alike, but for what the frames say. -/
def heapLike : Heap → Heap → Bool
  | [], [] => true
  | (i, o) :: r, (j, p) :: s => Nat.beq i j && ((isFr o && isFr p) || o.beq p) && heapLike r s
  | _, _ => false

theorem heapLike_find : ∀ {a b : Heap}, heapLike a b = true → ∀ id, a.find id = b.find id ∨ (isFr (a.find id) = true ∧ isFr (b.find id) = true)
  | [], b, h, id => by cases b <;> simp [heapLike] at h; exact .inl rfl
  | (i, o) :: r, b, h, id => by
    cases b with
    | nil => simp [heapLike] at h
    | cons p s =>
      obtain ⟨j, p⟩ := p
      simp only [heapLike, Bool.and_eq_true, Bool.or_eq_true] at h
      obtain ⟨⟨h1, h2⟩, h3⟩ := h
      obtain rfl := Nat.eq_of_beq_eq_true h1
      rw [Heap.find_new, Heap.find_new]
      split
      · rcases h2 with h2 | h2
        · exact .inr h2
        · exact .inl (O.beq_ok h2)
      · exact heapLike_find h3 id

/-- The frames, as they were. -/
def fixFr (h : Heap) : Heap → Heap
  | [] => []
  | (i, o) :: r => (i, bif isFr o then h.find i else o) :: fixFr h r
def frOk (h : Heap) (n : Nat) (l : Heap) : Bool := l.all fun p => !isFr p.2 || (isFr (h.find p.1) && Nat.blt p.1 n)

theorem fixFr_find {h : Heap} : ∀ {l : Heap} {id : Nat}, (fixFr h l).find id = bif isFr (l.find id) then h.find id else l.find id
  | [], id => rfl
  | (i, o) :: r, id => by
    simp only [fixFr]
    rw [Heap.find_new, Heap.find_new]
    split
    · rename_i hi; subst hi; rfl
    · exact fixFr_find

theorem frOk_find {h : Heap} {n : Nat} : ∀ {l : Heap}, frOk h n l = true → ∀ id, isFr (l.find id) = true → isFr (h.find id) = true ∧ id < n
  | [], _, id, hf => by cases hf
  | (i, o) :: r, ha, id, hf => by
    simp only [frOk, List.all_cons, Bool.and_eq_true] at ha
    rw [Heap.find_new] at hf
    split at hf
    · rename_i hi; subst hi
      have := ha.1
      simp only [hf, Bool.not_true, Bool.false_or, Bool.and_eq_true] at this
      exact ⟨this.1, blt_spec this.2⟩
    · exact frOk_find (l := r) ha.2 id hf

def endEq (a b : V × Heap × Nat) : Bool := a.1.beq b.1 && heapLike a.2.1 b.2.1 && Nat.beq a.2.2 b.2.2

def exEnds1 (P : Program) (fn : Func) (n : Nat) (lo : Bool) : List (Ex × St) → Option (V × Heap × Nat)
  | [] => none
  | [p] => exEnd P fn n lo p
  | p :: r => match exEnd P fn n lo p, exEnds1 P fn n lo r with
    | some a, some b => bif endEq a b then some b else none
    | _, _ => none

/-- An end like the one told. -/
def Like (a r : V × Heap × Nat) : Prop := a.1 = r.1 ∧ (∀ id, a.2.1.find id = r.2.1.find id ∨ (isFr (a.2.1.find id) = true ∧ isFr (r.2.1.find id) = true)) ∧ a.2.2 = r.2.2

theorem exEnds1_mem {P : Program} {fn : Func} {n : Nat} {lo : Bool} : ∀ {L : List (Ex × St)} {r : V × Heap × Nat}, exEnds1 P fn n lo L = some r → ∀ p ∈ L, ∃ a, exEnd P fn n lo p = some a ∧ Like a r
  | [], r, h, p, hp => by cases hp
  | [q], r, h, p, hp => by simp only [List.mem_singleton] at hp; subst hp; exact ⟨r, h, rfl, fun id => .inl rfl, rfl⟩
  | q :: q' :: L, r, h, p, hp => by
    simp only [exEnds1] at h
    split at h
    · rename_i a b h1 h2
      cases he : endEq a b
      · rw [he] at h; cases h
      · rw [he] at h
        simp only [cond_true, Option.some.injEq] at h; subst h
        rcases List.mem_cons.1 hp with rfl | hp
        · simp only [endEq, Bool.and_eq_true] at he
          exact ⟨a, h1, V.beq_ok he.1.1, heapLike_find he.1.2, Nat.eq_of_beq_eq_true he.2⟩
        · exact exEnds1_mem (L := q' :: L) h2 p hp
    · cases h

def exEnds (P : Program) (fn : Func) (n : Nat) (h : Heap) (L : List (Ex × St)) : Option (V × Heap × Nat) :=
  match exEnds1 P fn n false L with
  | some r => bif frOk h n r.2.1 then some (r.1, fixFr h r.2.1, r.2.2) else none
  | none => match exEnds1 P fn n true L with
    | some r => bif frOk h n r.2.1 then some (r.1, fixFr h r.2.1, r.2.2) else none
    | none => none

theorem call_end1 {P : Program} {f : FuncId} {fn : Func} {c : Code} {args : List V} {h : Heap} {n : Nat} {lo : Bool} {L : List (Ex × St)} {r : V × Heap × Nat} (hf : P.funcs[f]? = some fn) (hb : fn.body = some c)
    (hw : AW P n c (fun e s => (e, s) ∈ L) { tmps := initTmps args fn.ntmps, h := h, n := n, marks := [] }) (he : exEnds1 P fn n lo L = some r) (hfr : frOk h n r.2.1 = true) : CallOk P f args h n fun a b c => a = r.1 ∧ b = fixFr h r.2.1 ∧ c = r.2.2 := by
  have hc : CallOk P f args h n fun a b c => n ≤ c ∧ Like (low n (cond lo a.loose a) b c) r := by
    refine CallOk.of_bodyM hf hb (hw.mono fun e s hs => ?_)
    obtain ⟨q, h1, hlike⟩ := exEnds1_mem he (e, s) hs
    have key : e ≠ .normal → e ≠ .ret → False := fun h2 h3 => by
      cases e with
      | normal => exact h2 rfl
      | ret => exact h3 rfl
      | exit id => simp [exEnd] at h1
    have h2 : (bif marksOk n s.marks && Nat.ble n s.n then
      (match resVs P s.unmark fn.results.toList with
      | some vs => some (low n (cond lo (tupV vs).loose (tupV vs)) s.unmark.h s.unmark.n)
      | none => none) else none) = some q := by
      cases e with
      | normal => exact h1
      | ret => exact h1
      | exit id => simp [exEnd] at h1
    cases hk : (marksOk n s.marks && Nat.ble n s.n)
    · rw [hk] at h2; cases h2
    · rw [hk] at h2
      simp only [cond_true] at h2
      simp only [Bool.and_eq_true] at hk
      refine ⟨by by_cases h3 : e = .normal; exact .inl h3; by_cases h4 : e = .ret; exact .inr h4; exact (key h3 h4).elim, hk.1, ?_⟩
      split at h2
      · rename_i vs hvs
        simp only [Option.some.injEq] at h2
        exact ⟨vs, hvs, Nat.le_of_ble_eq_true hk.2, by rw [h2]; exact hlike⟩
      · cases h2
  intro w M xs ha hs cs
  obtain ⟨v, h', n', x, w', M', fr, ⟨hn, hor⟩, r1, r2, r3, r4, r5, r6⟩ := hc w M xs ha hs cs
  have r1' : Rep w' M' n' (cond lo v.loose v) x := by
    cases lo
    · exact r1
    · exact r1.loose
  obtain ⟨M2, g1, g2, g3, g4⟩ : ∃ M2, Rep w' M2 (low n (cond lo v.loose v) h' n').2.2 (low n (cond lo v.loose v) h' n').1 x ∧ Sim w' M2 (low n (cond lo v.loose v) h' n').2.1 (low n (cond lo v.loose v) h' n').2.2 ∧ Tr M' w' M2 w' ∧
      Old M' h' n M2 (low n (cond lo v.loose v) h' n').2.1 (low n (cond lo v.loose v) h' n').2.2 := by
    unfold low
    split
    · rename_i r' hlow
      exact lower_ok (v2 := r'.1) (h2 := r'.2.1) (n2 := r'.2.2) hlow hn r1' r2
    · exact ⟨M', r1', r2, .refl _ _, (Old.refl _ _ _).weaken hn⟩
  obtain ⟨l1, l2, l3⟩ := hor
  have hold := r4.trans' g4
  have hfind : ∀ id, (fixFr h r.2.1).find id = (low n (cond lo v.loose v) h' n').2.1.find id := by
    intro id
    rw [fixFr_find]
    cases hc2 : isFr (r.2.1.find id)
    · rcases l2 id with h3 | ⟨_, h4⟩
      · simp only [cond_false]; exact h3.symm
      · rw [h4] at hc2; cases hc2
    · simp only [cond_true]
      obtain ⟨p1, p2⟩ := frOk_find hfr id hc2
      refine ((hold.pin id p2 ?_).1).symm
      cases hh : h.find id <;> rw [hh] at p1 <;> first | rfl | cases p1
  refine ⟨r.1, fixFr h r.2.1, r.2.2, x, w', M2, fr, ⟨rfl, rfl, rfl⟩, ?_, ?_, r3.trans g3, ?_, r5, r6⟩
  · rw [← l1, ← l3]; exact g1
  · rw [← l3]; exact g2.congr hfind
  · rw [← l3]; exact hold.congr hfind

theorem call_end {P : Program} {f : FuncId} {fn : Func} {c : Code} {args : List V} {h : Heap} {n : Nat} {L : List (Ex × St)} {r : V × Heap × Nat} (hf : P.funcs[f]? = some fn) (hb : fn.body = some c)
    (hw : AW P n c (fun e s => (e, s) ∈ L) { tmps := initTmps args fn.ntmps, h := h, n := n, marks := [] }) (he : exEnds P fn n h L = some r) : CallOk P f args h n fun a b c => a = r.1 ∧ b = r.2.1 ∧ c = r.2.2 := by
  unfold exEnds at he
  split at he
  · rename_i r' h1
    cases hc : frOk h n r'.2.1
    · rw [hc] at he; cases he
    · rw [hc] at he; cases he; exact call_end1 hf hb hw h1 hc
  · split at he
    · rename_i r' h1
      cases hc : frOk h n r'.2.1
      · rw [hc] at he; cases he
      · rw [hc] at he; cases he; exact call_end1 hf hb hw h1 hc
    · cases he

/-! #### Code. -/
def thnL (next : St → Option (List (Ex × St))) (p : Ex × St) : Option (List (Ex × St)) :=
  match p.1 with
  | .normal => next p.2
  | e => some [(e, p.2)]

def blkL (id : Nat) (p : Ex × St) : Ex × St :=
  match p.1 with
  | .exit j => bif Nat.beq j id then (.normal, p.2) else p
  | _ => p

def rfEnd (n0 : Nat) (st : St) (r : Option (V × Heap × Nat)) : Option (List (Ex × St)) :=
  match r with
  | some (_, h', n') => match h'.find (n0 + 1) with
    | .loop _ _ _ _ _ false _ pe _ => match codeEx pe with
      | some e => some [(e, { st with h := (n0 + 1, .dead) :: h', n := n', marks := n0 :: st.marks })]
      | none => none
    | _ => none
  | none => none

/-! #### What is known of calls. -/
abbrev KTab := List (FuncId × List V × V × Heap × Nat)

def lookT : KTab → FuncId → List V → Option (V × Heap × Nat)
  | [], _, _ => none
  | (g, xs, r) :: t, f, args => bif Nat.beq g f && beqL xs args then some r else lookT t f args

def KTabOk (P : Program) (tab : KTab) : Prop := ∀ e ∈ tab, PureOk P e.1 e.2.1 e.2.2.1 e.2.2.2.1 e.2.2.2.2 ∧ Heap.find e.2.2.2.1 0 = .dead

theorem lookT_mem : ∀ {tab : KTab} {f : FuncId} {args : List V} {r : V × Heap × Nat}, lookT tab f args = some r → (f, args, r) ∈ tab
  | [], f, args, r, h => by cases h
  | (g, xs, r') :: t, f, args, r, h => by
    simp only [lookT] at h
    cases hc : (Nat.beq g f && beqL xs args)
    · rw [hc] at h; exact List.mem_cons_of_mem _ (lookT_mem h)
    · rw [hc] at h
      simp only [cond_true, Option.some.injEq] at h; subst h
      simp only [Bool.and_eq_true] at hc
      rw [Nat.eq_of_beq_eq_true hc.1, beqL_ok hc.2]
      exact List.mem_cons_self ..

def known (tab : KTab) (call : CallFn) : CallFn := fun f args h n =>
  match lookT tab f (args.map V.strip) with
  | some r => bif args.all (fun a => a.strip.closed) then some (r.1.ren (· + n), Heap.shift n r.2.1 ++ h, n + r.2.2) else call f args h n
  | none => call f args h n

theorem known_ok {P : Program} {tab : KTab} (ht : KTabOk P tab) {call : CallFn} (hc : CallsOk P call) : CallsOk P (known tab call) := by
  intro f args h n v h' n' he
  unfold known at he
  split at he
  · rename_i r hr
    cases hcl : args.all (fun a => a.strip.closed)
    · rw [hcl] at he; exact hc _ _ _ _ _ _ _ he
    · rw [hcl] at he
      simp only [cond_true, Option.some.injEq, Prod.mk.injEq] at he
      obtain ⟨rfl, rfl, rfl⟩ := he
      obtain ⟨h1, h2⟩ := ht _ (lookT_mem hr)
      exact PureOk.frame h1 (fun a ha => List.all_eq_true.1 hcl a ha) h2
  · exact hc _ _ _ _ _ _ _ he

def exC (P : Program) (tab : KTab) : Nat → Code → St → Option (List (Ex × St))
  | 0, _, _ => none
  | fuel + 1, c, st =>
    match c with
    | .skip => some [(.normal, st)]
    | .region _ ops false => (exOps P (exC P tab fuel) (exStep P (known tab fun f args h n => match bodyOf P f with
        | some (fn, c) => (exC P tab fuel c { tmps := initTmps args fn.ntmps, h := h, n := n, marks := [] }).bind (exEnds P fn n h)
        | none => none)) ops (List.range ops.size) st).map (·.map fun s => (Ex.normal, s))
    | .region _ ops true => (exDraw P (exStep P (known tab fun f args h n => match bodyOf P f with
        | some (fn, c) => (exC P tab fuel c { tmps := initTmps args fn.ntmps, h := h, n := n, marks := [] }).bind (exEnds P fn n h)
        | none => none)) ops st).map (·.map fun s => (Ex.normal, s))
    | .seq a b => (exC P tab fuel a st).bind (bindL (thnL (exC P tab fuel b)))
    | .cond x a b => match st.opd x with
      | .raw (.bool t) => exC P tab fuel (cond t a b) st
      | _ => none
    | .block id b => (exC P tab fuel b st).map (·.map (blkL id))
    | .loop b => (exC P tab fuel b st).bind (bindL (thnL (exC P tab fuel (.loop b))))
    | .exit id => some [(.exit id, st)]
    | .ret => some [(.ret, st)]
    | .rangeFunc g ps as bd => match st.opd g with
      | .fn (.func f) [] caps => match bodyOf P f with
        | some (fn, c) => rfEnd st.n st ((exC P tab fuel c { tmps := initTmps (.yld (st.n + 1) :: caps) fn.ntmps, h := (st.n + 1, .loop 0 st.tmps ps.toList as bd false false none st.n) :: (st.n, .dfr) :: st.h, n := st.n + 2, marks := [] }).bind (exEnds P fn (st.n + 2) ((st.n + 1, .loop 0 st.tmps ps.toList as bd false false none st.n) :: (st.n, .dfr) :: st.h)))
        | none => none
      | _ => none
    | _ => none

def exF (P : Program) (tab : KTab) (fuel : Nat) (f : FuncId) (args : List V) (h : Heap) (n : Nat) : Option (V × Heap × Nat) :=
  match bodyOf P f with
  | some (fn, c) => (exC P tab fuel c { tmps := initTmps args fn.ntmps, h := h, n := n, marks := [] }).bind (exEnds P fn n h)
  | none => none

theorem exF_ok {P : Program} {tab : KTab} {fuel : Nat} (hrun : RunOk P (exC P tab fuel)) : CallsOk P (exF P tab fuel) := by
  intro f args h n v h' n' he
  unfold exF at he
  split at he
  · rename_i fn c hb
    obtain ⟨b1, b2, b3⟩ := bodyOf_spec hb
    obtain ⟨L, hL, hE⟩ := Option.bind_eq_some_iff.1 he
    exact call_end b1 b2 (hrun _ _ _ hL _) hE
  · cases he

theorem thnL_ok {P : Program} {next : St → Option (List (Ex × St))} {c : Code} {m : Nat} {p : Ex × St} {l L : List (Ex × St)} (hn : ∀ s L, next s = some L → AW P m c (fun e s => (e, s) ∈ L) s) (h : thnL next p = some l) (hl : ∀ q ∈ l, q ∈ L) :
    Ex.thn (AW P m c (fun e s => (e, s) ∈ L)) (fun e s => (e, s) ∈ L) p.1 p.2 := by
  obtain ⟨e, s⟩ := p
  unfold thnL at h
  cases e with
  | normal => exact (hn s l h).mono fun e s hs => hl _ hs
  | exit id => cases h; exact hl _ (by simp)
  | ret => cases h; exact hl _ (by simp)

theorem exC_loop {P : Program} {tab : KTab} {fuel : Nat} {b : Code} {st : St} {L : List (Ex × St)} (ih1 : RunOk P (exC P tab fuel)) (ih2 : ∀ b st L, exC P tab fuel (.loop b) st = some L → ∀ m, LW P m b (fun e s => (e, s) ∈ L) st)
    (h : exC P tab (fuel + 1) (.loop b) st = some L) (m : Nat) : LW P m b (fun e s => (e, s) ∈ L) st := by
  simp only [exC] at h
  obtain ⟨L1, h1, h2⟩ := Option.bind_eq_some_iff.1 h
  refine .step ((ih1 b st L1 h1 m).mono fun e s hs => ?_)
  obtain ⟨l, g1, g2⟩ := bindL_spec h2 (e, s) hs
  unfold thnL at g1
  cases e with
  | normal => exact LW.mono (ih2 b s l g1 m) fun e s hs => g2 _ hs
  | exit id => cases g1; exact g2 _ (by simp)
  | ret => cases g1; exact g2 _ (by simp)

theorem exC_both {P : Program} {tab : KTab} (ht : KTabOk P tab) : ∀ fuel, RunOk P (exC P tab fuel) ∧ ∀ b st L, exC P tab fuel (.loop b) st = some L → ∀ m, LW P m b (fun e s => (e, s) ∈ L) st
  | 0 => ⟨by intro c st L h; simp [exC] at h, by intro b st L h; simp [exC] at h⟩
  | fuel + 1 => by
    obtain ⟨ih, ihl⟩ := exC_both ht fuel
    have hcall : CallsOk P (known tab fun f args h n => match bodyOf P f with
        | some (fn, c) => (exC P tab fuel c { tmps := initTmps args fn.ntmps, h := h, n := n, marks := [] }).bind (exEnds P fn n h)
        | none => none) := known_ok ht (exF_ok ih)
    refine ⟨?_, fun b st L h m => exC_loop ih ihl h m⟩
    intro c st L h m
    have hloop : ∀ b, c = .loop b → AW P m (.loop b) (fun e s => (e, s) ∈ L) st := fun b hb => by subst hb; exact .of_loop (exC_loop ih ihl h m)
    simp only [exC] at h
    split at h
    · cases h; exact .skip (by simp)
    · rename_i id ops
      obtain ⟨L1, h1, rfl⟩ := Option.map_eq_some_iff.1 h
      exact .region ((exOps_ok ih (exStep_ok hcall) _ _ _ h1).mono fun s hs => List.mem_map.2 ⟨s, hs, rfl⟩)
    · rename_i id ops
      obtain ⟨L1, h1, rfl⟩ := Option.map_eq_some_iff.1 h
      exact exDraw_ok (exStep_ok hcall) h1 fun s hs => List.mem_map.2 ⟨s, hs, rfl⟩
    · rename_i a b
      obtain ⟨L1, h1, h2⟩ := Option.bind_eq_some_iff.1 h
      refine .seq ((ih a st L1 h1 m).mono fun e s hs => ?_)
      obtain ⟨l, g1, g2⟩ := bindL_spec h2 (e, s) hs
      exact thnL_ok (p := (e, s)) (fun s L hL => ih b s L hL m) g1 g2
    · rename_i x a b
      split at h
      · rename_i t ht
        refine .cond ht ?_
        cases t
        · exact ih _ _ _ h m
        · exact ih _ _ _ h m
      · cases h
    · rename_i id b
      obtain ⟨L1, h1, rfl⟩ := Option.map_eq_some_iff.1 h
      refine .block ((ih b st L1 h1 m).mono fun e s hs => ?_)
      have hm : blkL id (e, s) ∈ L1.map (blkL id) := List.mem_map.2 ⟨_, hs, rfl⟩
      cases e with
      | normal => exact hm
      | ret => exact hm
      | exit j =>
        simp only [Ex.blk]
        simp only [blkL] at hm
        by_cases hj : j = id
        · subst hj; rw [if_pos rfl]; simpa using hm
        · rw [if_neg hj]
          have : Nat.beq j id = false := by cases hb : Nat.beq j id; rfl; exact absurd (Nat.eq_of_beq_eq_true hb) hj
          rw [this] at hm; exact hm
    · rename_i b; exact hloop b rfl
    · cases h; exact .exit (by simp)
    · cases h; exact .ret (by simp)
    · rename_i g ps as bd
      split at h
      · rename_i f caps hg
        split at h
        · rename_i fn c hb
          obtain ⟨b1, b2, b3⟩ := bodyOf_spec hb
          unfold rfEnd at h
          split at h
          · rename_i v h' n' hr
            split at h
            · rename_i f1 t1 p1 a1 b1' ov pe D1 hl
              split at h
              · rename_i e he
                cases h
                refine .rangeFunc hg b1 (by rw [b2]; rfl) b3 ?_
                have hF : exF P tab fuel f (.yld (st.n + 1) :: caps) ((st.n + 1, .loop 0 st.tmps ps.toList as bd false false none st.n) :: (st.n, .dfr) :: st.h) (st.n + 2) = some (v, h', n') := by
                  unfold exF; rw [hb]; exact hr
                exact (exF_ok ih _ _ _ _ _ _ _ hF).mono fun a b c ⟨ha, hb, hc⟩ => by
                  subst hb; subst hc
                  exact ⟨f1, t1, p1, a1, b1', D1, ov, pe, e, hl, he, by simp⟩
              · cases h
            · cases h
          · cases h
        · cases h
      · cases h
    · cases h

theorem exC_ok {P : Program} {tab : KTab} (ht : KTabOk P tab) (fuel : Nat) : RunOk P (exC P tab fuel) := (exC_both ht fuel).1
theorem exF_call {P : Program} {tab : KTab} (ht : KTabOk P tab) {fuel : Nat} {f : FuncId} {args : List V} {h : Heap} {n : Nat} {r : V × Heap × Nat} (he : exF P tab fuel f args h n = some r) : CallOk P f args h n fun a b c => a = r.1 ∧ b = r.2.1 ∧ c = r.2.2 :=
  exF_ok (exC_ok ht fuel) f args h n r.1 r.2.1 r.2.2 he

theorem KTabOk.nil (P : Program) : KTabOk P [] := by intro e he; cases he

theorem find_behind {o : O} : ∀ (news : Heap) (id : Nat), 0 < id → Heap.find (news ++ [(0, o)]) id = Heap.find news id
  | [], id, hid => by simp only [List.nil_append]; rw [Heap.find_new, if_neg (by omega)]
  | (i, p) :: r, id, hid => by
    simp only [List.cons_append]
    rw [Heap.find_new, Heap.find_new, find_behind r id hid]

/-- One more call is known, by its run. -/
theorem KTabOk.run {P : Program} {tab : KTab} (ht : KTabOk P tab) (fuel : Nat) {f : FuncId} {args : List V} {v : V} {news : Heap} {n0 : Nat} (hz : Heap.find news 0 = .dead)
    (h : ∀ w0 F, exF P tab fuel f args [(0, .fr w0 F)] 1 = some (v, news ++ [(0, .fr w0 F)], n0)) : KTabOk P ((f, args, v, news, n0) :: tab) := by
  intro e he
  rcases List.mem_cons.1 he with rfl | he
  · exact ⟨fun w0 F => (exF_call ht (h w0 F)).mono fun a b c ⟨h1, h2, h3⟩ => ⟨h1, h3, fun id hid => by rw [h2]; exact find_behind news id hid⟩, hz⟩
  · exact ht e he
end Go.Qx
