import Derived.Test.YtomdgahghdmhbaaGreatDoorQxLower
namespace Go.Qx
open Go
set_option linter.unusedVariables false

/-! ### Plans of drawn regions. -/
inductive PT where
  | leaf
  | q (i : Nat) (t : PT)
  | e1 (i : Nat) (R : List Nat) (t : PT)
  | e2 (i : Nat) (R : List Nat) (t : PT) (i2 : Nat) (R2 : List Nat) (t2 : PT)
  | e3 (i : Nat) (R : List Nat) (t : PT) (i2 : Nat) (R2 : List Nat) (t2 : PT) (i3 : Nat) (R3 : List Nat) (t3 : PT)
  | bad
  deriving Inhabited

def ckPT (m : Region.Mode) (ops : Array Oper) : PT → List Nat → Bool
  | .leaf, done => (List.range ops.size).all fun i => done.contains i
  | .q i t, done => ckQ m ops done i && ckPT m ops t (i :: done)
  | .e1 i R t, done => satur m ops done && covers m ops done [i] && ckE m ops done R i && ckPT m ops t (i :: done)
  | .e2 i R t i2 R2 t2, done => satur m ops done && covers m ops done [i, i2] && ckE m ops done R i && ckPT m ops t (i :: done) && ckE m ops done R2 i2 && ckPT m ops t2 (i2 :: done)
  | .e3 i R t i2 R2 t2 i3 R3 t3, done => satur m ops done && covers m ops done [i, i2, i3] && ckE m ops done R i && ckPT m ops t (i :: done) && ckE m ops done R2 i2 && ckPT m ops t2 (i2 :: done) && ckE m ops done R3 i3 && ckPT m ops t3 (i3 :: done)
  | .bad, _ => false

/-- What is looked at again behind an effect. -/
def again (m : Region.Mode) (ops : Array Oper) (i : Nat) : List Nat → List Nat
  | [] => []
  | a :: r => let R := again m ops i r
    bif isQAt ops a && !isPred m ops 3 i a && (isMemAt ops a || R.any fun b => !disj (dstAt ops b).toList (usesAt ops a)) then a :: R else R

def mkPlan (m : Region.Mode) (ops : Array Oper) : Nat → List Nat → PT
  | 0, _ => .leaf
  | fuel + 1, done => match (List.range ops.size).find? fun i => !done.contains i && isQAt ops i && predsIn m ops done i with
    | some i => .q i (mkPlan m ops fuel (i :: done))
    | none => match (List.range ops.size).filter fun i => !done.contains i && !isQAt ops i && predsIn m ops done i with
      | [] => .leaf
      | [i] => .e1 i (again m ops i done) (mkPlan m ops fuel (i :: done))
      | [i, j] => .e2 i (again m ops i done) (mkPlan m ops fuel (i :: done)) j (again m ops j done) (mkPlan m ops fuel (j :: done))
      | [i, j, k] => .e3 i (again m ops i done) (mkPlan m ops fuel (i :: done)) j (again m ops j done) (mkPlan m ops fuel (j :: done)) k (again m ops k done) (mkPlan m ops fuel (k :: done))
      | _ => .bad

/-! ### Running a region's operations. -/
def bindL {α β : Type} (f : α → Option (List β)) : List α → Option (List β)
  | [] => some []
  | a :: r => match f a with
    | some l => match bindL f r with
      | some l2 => some (l ++ l2)
      | none => none
    | none => none

theorem bindL_spec {α β : Type} {f : α → Option (List β)} : ∀ {l : List α} {r : List β}, bindL f l = some r → ∀ a ∈ l, ∃ l2, f a = some l2 ∧ ∀ b ∈ l2, b ∈ r
  | [], r, h, a, ha => by cases ha
  | x :: l, r, h, a, ha => by
    simp only [bindL] at h
    split at h
    · rename_i l1 h1
      split at h
      · rename_i l2 h2
        simp only [Option.some.injEq] at h; subst h
        rcases List.mem_cons.1 ha with rfl | ha
        · exact ⟨l1, h1, fun b hb => List.mem_append_left _ hb⟩
        · obtain ⟨l3, h3, h4⟩ := bindL_spec h2 a ha
          exact ⟨l3, h3, fun b hb => List.mem_append_right _ (h4 b hb)⟩
      · cases h
    · cases h

/-- A step that comes to one of some states. -/
def StepOk (P : Program) (step : St → Oper → Option (List St)) : Prop :=
  ∀ st o L, step st o = some L → ∀ (ops : Array Oper) i, ops[i]? = some o → EffOk P ops i o st (· ∈ L)

def quietB (P : Program) (ops : Array Oper) (o : Oper) (st : St) : Option V :=
  match wantV st ops o with
  | some true => exQ P st o
  | some false => some nop
  | none => none

theorem quietB_ok {P : Program} {ops : Array Oper} {o : Oper} {st : St} {v : V} (h : quietB P ops o st = some v) : Quiet P ops o st v := by
  unfold quietB at h
  split at h
  · rename_i hw; exact .inl ⟨hw, exQ_ok h⟩
  · rename_i hw; cases h; exact .inr ⟨hw, rfl⟩
  · cases h

def stabB (P : Program) (ops : Array Oper) (st : St) (i : Nat) : Bool :=
  match ops[i]? with
  | some o => match o.dst with
    | some d => match quietB P ops o st with
      | some v => v.beq (lget st.tmps d)
      | none => false
    | none => false
  | none => false

theorem stabB_ok {P : Program} {ops : Array Oper} {st : St} {i : Nat} (h : stabB P ops st i = true) : Stab P ops i st := by
  unfold stabB at h
  split at h
  · rename_i o ho
    split at h
    · rename_i d hd
      split at h
      · rename_i v hv
        have := V.beq_ok h
        subst this
        exact ⟨o, d, ho, hd, quietB_ok hv⟩
      · cases h
    · cases h
  · cases h

def effB (P : Program) (step : St → Oper → Option (List St)) (ops : Array Oper) (i : Nat) (st : St) : Option (List St) :=
  match ops[i]? with
  | some o => match wantV st ops o with
    | some true => step st o
    | some false => some [st.put o.dst nop]
    | none => none
  | none => none

theorem effB_ok {P : Program} {step : St → Oper → Option (List St)} (hs : StepOk P step) {ops : Array Oper} {i : Nat} {st : St} {L : List St} (h : effB P step ops i st = some L) : ∃ o, ops[i]? = some o ∧ Eff P ops i o st (· ∈ L) := by
  unfold effB at h
  split at h
  · rename_i o ho
    refine ⟨o, ho, ?_⟩
    split at h
    · rename_i hw; exact .inl ⟨hw, hs st o L h ops i ho⟩
    · rename_i hw; cases h; exact .inr ⟨hw, by simp⟩
    · cases h
  · cases h

/-- A region that draws its order. -/
def exPT (P : Program) (step : St → Oper → Option (List St)) (ops : Array Oper) : PT → St → Option (List St)
  | .leaf, st => some [st]
  | .q i t, st => match ops[i]? with
    | some o => match quietB P ops o st with
      | some v => exPT P step ops t (st.put o.dst v)
      | none => none
    | none => none
  | .e1 i R t, st => match effB P step ops i st with
    | some L => bif L.all (fun s => R.all (stabB P ops s)) then bindL (exPT P step ops t) L else none
    | none => none
  | .e2 i R t i2 R2 t2, st => match effB P step ops i st, effB P step ops i2 st with
    | some L, some L2 => bif L.all (fun s => R.all (stabB P ops s)) && L2.all (fun s => R2.all (stabB P ops s)) then
        (match bindL (exPT P step ops t) L, bindL (exPT P step ops t2) L2 with
        | some r, some r2 => some (r ++ r2)
        | _, _ => none) else none
    | _, _ => none
  | .e3 i R t i2 R2 t2 i3 R3 t3, st => match effB P step ops i st, effB P step ops i2 st, effB P step ops i3 st with
    | some L, some L2, some L3 => bif L.all (fun s => R.all (stabB P ops s)) && L2.all (fun s => R2.all (stabB P ops s)) && L3.all (fun s => R3.all (stabB P ops s)) then
        (match bindL (exPT P step ops t) L, bindL (exPT P step ops t2) L2, bindL (exPT P step ops t3) L3 with
        | some r, some r2, some r3 => some (r ++ (r2 ++ r3))
        | _, _, _ => none) else none
    | _, _, _ => none
  | .bad, _ => none

theorem SimOk.mono {P : Program} {ops : Array Oper} {m : Region.Mode} {done : List Nat} {K K' : St → Prop} {st : St} (h : SimOk P ops m done K st) (hk : ∀ s, K s → K' s) : SimOk P ops m done K' st := by
  intro rest acc L tm tm' df w M hi hl hs hord b k cs
  obtain ⟨st', tmE, w', M', q1, q2⟩ := h rest acc L tm tm' df w M hi hl hs hord b k cs
  exact ⟨st', tmE, w', M', hk _ q1, q2⟩

theorem Eff.mono {P : Program} {ops : Array Oper} {i : Nat} {o : Oper} {st : St} {K K' : St → Prop} (h : Eff P ops i o st K) (hk : ∀ s, K s → K' s) : Eff P ops i o st K' := by
  rcases h with ⟨h1, h2⟩ | ⟨h1, h2⟩
  · exact .inl ⟨h1, h2.mono hk⟩
  · exact .inr ⟨h1, hk _ h2⟩

theorem exPT_ok {P : Program} {step : St → Oper → Option (List St)} (hs : StepOk P step) {ops : Array Oper} {m : Region.Mode} : ∀ (t : PT) (done : List Nat) (st : St) (L : List St), ckPT m ops t done = true → exPT P step ops t st = some L →
    SimOk P ops m done (· ∈ L) st
  | .leaf, done, st, L, hc, h => by
    simp only [exPT, Option.some.injEq] at h; subst h
    exact SimOk.leaf hc (by simp)
  | .q i t, done, st, L, hc, h => by
    simp only [ckPT, Bool.and_eq_true] at hc
    simp only [exPT] at h
    split at h
    · rename_i o ho
      split at h
      · rename_i v hv
        exact SimOk.q hc.1 ho (quietB_ok hv) (exPT_ok hs t _ _ L hc.2 h)
      · cases h
    · cases h
  | .e1 i R t, done, st, L, hc, h => by
    simp only [ckPT, Bool.and_eq_true] at hc
    obtain ⟨⟨⟨c1, c2⟩, c3⟩, c4⟩ := hc
    simp only [exPT] at h
    split at h
    · rename_i L1 h1
      cases hb : L1.all (fun s => R.all (stabB P ops s))
      · rw [hb] at h; cases h
      · rw [hb] at h
        simp only [cond_true] at h
        refine SimOk.node [i] (by simp) c1 c2 fun j hj => ?_
        simp only [List.mem_singleton] at hj; subst hj
        obtain ⟨o, ho, he⟩ := effB_ok hs h1
        refine ⟨o, R, ho, c3, he.mono fun s hsL => ⟨fun r hr => stabB_ok (List.all_eq_true.1 (List.all_eq_true.1 hb s hsL) r hr), ?_⟩⟩
        obtain ⟨l2, h2, h3⟩ := bindL_spec h s hsL
        exact (exPT_ok hs t _ s l2 c4 h2).mono h3
    · cases h
  | .e2 i R t i2 R2 t2, done, st, L, hc, h => by
    simp only [ckPT, Bool.and_eq_true] at hc
    obtain ⟨⟨⟨⟨⟨c1, c2⟩, c3⟩, c4⟩, c5⟩, c6⟩ := hc
    simp only [exPT] at h
    split at h
    · rename_i L1 L2 h1 h2
      cases hb : (L1.all (fun s => R.all (stabB P ops s)) && L2.all (fun s => R2.all (stabB P ops s)))
      · rw [hb] at h; cases h
      · rw [hb] at h
        simp only [cond_true] at h
        simp only [Bool.and_eq_true] at hb
        split at h
        · rename_i r r2 g1 g2
          simp only [Option.some.injEq] at h; subst h
          refine SimOk.node [i, i2] (by simp) c1 c2 fun j hj => ?_
          simp only [List.mem_cons, List.not_mem_nil, or_false] at hj
          rcases hj with rfl | rfl
          · obtain ⟨o, ho, he⟩ := effB_ok hs h1
            refine ⟨o, R, ho, c3, he.mono fun s hsL => ⟨fun r hr => stabB_ok (List.all_eq_true.1 (List.all_eq_true.1 hb.1 s hsL) r hr), ?_⟩⟩
            obtain ⟨l2, h2, h3⟩ := bindL_spec g1 s hsL
            exact (exPT_ok hs t _ s l2 c4 h2).mono fun s' hs' => List.mem_append_left _ (h3 s' hs')
          · obtain ⟨o, ho, he⟩ := effB_ok hs h2
            refine ⟨o, R2, ho, c5, he.mono fun s hsL => ⟨fun r hr => stabB_ok (List.all_eq_true.1 (List.all_eq_true.1 hb.2 s hsL) r hr), ?_⟩⟩
            obtain ⟨l2, h2, h3⟩ := bindL_spec g2 s hsL
            exact (exPT_ok hs t2 _ s l2 c6 h2).mono fun s' hs' => List.mem_append_right _ (h3 s' hs')
        · cases h
    · cases h
  | .e3 i R t i2 R2 t2 i3 R3 t3, done, st, L, hc, h => by
    simp only [ckPT, Bool.and_eq_true] at hc
    obtain ⟨⟨⟨⟨⟨⟨⟨c1, c2⟩, c3⟩, c4⟩, c5⟩, c6⟩, c7⟩, c8⟩ := hc
    simp only [exPT] at h
    split at h
    · rename_i L1 L2 L3 h1 h2 h3
      cases hb : (L1.all (fun s => R.all (stabB P ops s)) && L2.all (fun s => R2.all (stabB P ops s)) && L3.all (fun s => R3.all (stabB P ops s)))
      · rw [hb] at h; cases h
      · rw [hb] at h
        simp only [cond_true] at h
        simp only [Bool.and_eq_true] at hb
        split at h
        · rename_i r r2 r3 g1 g2 g3
          simp only [Option.some.injEq] at h; subst h
          refine SimOk.node [i, i2, i3] (by simp) c1 c2 fun j hj => ?_
          simp only [List.mem_cons, List.not_mem_nil, or_false] at hj
          rcases hj with rfl | rfl | rfl
          · obtain ⟨o, ho, he⟩ := effB_ok hs h1
            refine ⟨o, R, ho, c3, he.mono fun s hsL => ⟨fun r hr => stabB_ok (List.all_eq_true.1 (List.all_eq_true.1 hb.1.1 s hsL) r hr), ?_⟩⟩
            obtain ⟨l2, h2, h3⟩ := bindL_spec g1 s hsL
            exact (exPT_ok hs t _ s l2 c4 h2).mono fun s' hs' => List.mem_append_left _ (h3 s' hs')
          · obtain ⟨o, ho, he⟩ := effB_ok hs h2
            refine ⟨o, R2, ho, c5, he.mono fun s hsL => ⟨fun r hr => stabB_ok (List.all_eq_true.1 (List.all_eq_true.1 hb.1.2 s hsL) r hr), ?_⟩⟩
            obtain ⟨l2, h2, h3⟩ := bindL_spec g2 s hsL
            exact (exPT_ok hs t2 _ s l2 c6 h2).mono fun s' hs' => List.mem_append_right _ (List.mem_append_left _ (h3 s' hs'))
          · obtain ⟨o, ho, he⟩ := effB_ok hs h3
            refine ⟨o, R3, ho, c7, he.mono fun s hsL => ⟨fun r hr => stabB_ok (List.all_eq_true.1 (List.all_eq_true.1 hb.2 s hsL) r hr), ?_⟩⟩
            obtain ⟨l2, h2, h3⟩ := bindL_spec g3 s hsL
            exact (exPT_ok hs t3 _ s l2 c8 h2).mono fun s' hs' => List.mem_append_right _ (List.mem_append_right _ (h3 s' hs'))
        · cases h
    · cases h
  | .bad, done, st, L, hc, h => by cases hc

def exDraw (P : Program) (step : St → Oper → Option (List St)) (ops : Array Oper) (st : St) : Option (List St) :=
  bindL (fun m => bif ckPT m ops (mkPlan m ops ops.size []) [] then exPT P step ops (mkPlan m ops ops.size []) st else none) (modes (P.follows .mixedOrders) ops)

theorem exDraw_ok {P : Program} {step : St → Oper → Option (List St)} (hs : StepOk P step) {ops : Array Oper} {st : St} {L : List St} (h : exDraw P step ops st = some L) {m id : Nat} {Q : Ex → St → Prop} (hQ : ∀ s ∈ L, Q .normal s) : AW P m (.region id ops true) Q st := by
  refine AW.region_plan fun md hmd => ?_
  obtain ⟨l2, h1, h2⟩ := bindL_spec h md hmd
  cases hc : ckPT md ops (mkPlan md ops ops.size []) []
  · rw [hc] at h1; cases h1
  · rw [hc] at h1
    exact (exPT_ok hs _ _ st l2 hc h1).mono fun s hs' => hQ s (h2 s hs')
end Go.Qx
