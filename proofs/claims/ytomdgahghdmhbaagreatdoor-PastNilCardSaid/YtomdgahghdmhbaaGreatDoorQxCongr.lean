import Derived.Test.YtomdgahghdmhbaaGreatDoorQxOpA
namespace Go.Qx
open Go
set_option linter.unusedVariables false

theorem map_pair_congr {ρ ρ' : Operand → Value} {ps : Array (Nat × Operand)} (h : ∀ x ∈ (ps.toList.map (·.2)).toArray, ρ x = ρ' x) : (ps.map fun (i, x) => (i, ρ x)) = ps.map fun (i, x) => (i, ρ' x) := by
  apply Array.map_congr_left
  intro p hp
  obtain ⟨i, x⟩ := p
  have : ρ x = ρ' x := h x (by simp; exact ⟨i, hp⟩)
  simp [this]

theorem map_congr' {ρ ρ' : Operand → Value} {ps : Array Operand} (h : ∀ x ∈ ps, ρ x = ρ' x) : ps.map ρ = ps.map ρ' := Array.map_congr_left h

/-- What an operation comes to hangs on its operands' values alone. -/
theorem execOp_congr {ρ ρ' : Operand → Value} {o : Oper} (hd : ∀ cs b, o.op ≠ .select cs b) (h : ∀ x ∈ o.op.operands, ρ x = ρ' x) : execOp ρ o = execOp ρ' o := by
  obtain ⟨dst, op, type, pos, after, guard⟩ := o
  simp only at h hd
  have arg : ∀ (c : Call), (∀ x ∈ c.operands, ρ x = ρ' x) → c.args.map ρ = c.args.map ρ' := fun c hc => map_congr' fun x hx => hc x (by simp [Call.operands, hx])
  have res : ∀ (c : Call), (∀ x ∈ c.operands, ρ x = ρ' x) → resolve ρ c type = resolve ρ' c type := fun c hc => by
    have ha := arg c hc
    obtain ⟨callee, args, ats⟩ := c
    cases callee with
    | value f =>
      have hf : ρ f = ρ' f := hc f (by simp [Call.operands])
      simp only at ha
      simp only [resolve, hf, ha]
    | invoke r m =>
      have hf : ρ r = ρ' r := hc r (by simp [Call.operands])
      simp only at ha
      simp only [resolve, hf, ha]
    | builtin b =>
      simp only at ha
      simp only [resolve, ha]
  cases op with
  | select cs b => exact absurd rfl (hd cs b)
  | build t ps => simp only [execOp, map_pair_congr (ps := ps) (by simpa [Op.operands] using h)]
  | buildSlice t l ps => simp only [execOp, map_pair_congr (ps := ps) (by simpa [Op.operands] using h)]
  | makeFunc f as bs =>
    have h1 := map_congr' (ρ := ρ) (ρ' := ρ') (ps := as) fun x hx => h x (by simp [Op.operands, hx])
    have h2 := map_congr' (ρ := ρ) (ρ' := ρ') (ps := bs) fun x hx => h x (by simp [Op.operands, hx])
    simp only [execOp, h1, h2]
  | makeMap t r =>
    have : r.map ρ = r.map ρ' := by
      cases r with
      | none => rfl
      | some x => simp [h x (by simp [Op.operands])]
    simp only [execOp, this]
  | slice t x lo hi mx =>
    have hx := h x (by simp [Op.operands])
    have opt : ∀ r : Option Operand, (∀ y ∈ r.toArray, ρ y = ρ' y) → r.map ρ = r.map ρ' := fun r hr => by
      cases r with
      | none => rfl
      | some x => simp [hr x (by simp)]
    have h1 := opt lo fun y hy => h y (by simp [Op.operands] at hy ⊢; simp [hy])
    have h2 := opt hi fun y hy => h y (by simp [Op.operands] at hy ⊢; simp [hy])
    have h3 := opt mx fun y hy => h y (by simp [Op.operands] at hy ⊢; simp [hy])
    simp only [execOp, hx, h1, h2, h3]
  | call c => simp only [execOp, res c (by simpa [Op.operands] using h)]
  | go c => simp only [execOp, res c (by simpa [Op.operands] using h)]
  | defer c => simp only [execOp, res c (by simpa [Op.operands] using h)]
  | _ => simp [Op.operands] at h; simp only [execOp, h]

def opT : Operand → Option Nat
  | .tmp t => some t
  | _ => none

/-- The temporaries that an operation looks at. -/
def opUses (o : Oper) : List Nat := o.op.operands.toList.filterMap opT

structure Agree (tm tm2 : Array Value) (ts : List Nat) : Prop where
  size : tm.size = tm2.size
  at_ : ∀ t ∈ ts, tm[t]? = tm2[t]?

theorem Agree.symm {tm tm2 : Array Value} {ts : List Nat} (h : Agree tm tm2 ts) : Agree tm2 tm ts := ⟨h.size.symm, fun t ht => (h.at_ t ht).symm⟩
theorem Agree.mono {tm tm2 : Array Value} {ts ts' : List Nat} (h : Agree tm tm2 ts) (hs : ∀ t ∈ ts', t ∈ ts) : Agree tm tm2 ts' := ⟨h.size, fun t ht => h.at_ t (hs t ht)⟩
theorem Agree.tev {tm tm2 : Array Value} {ts : List Nat} (h : Agree tm tm2 ts) (x : Operand) (hx : ∀ t, opT x = some t → t ∈ ts) : tev tm x = tev tm2 x := by
  cases x with
  | tmp t => simp only [Qx.tev, Array.getD_eq_getD_getElem?]; rw [h.at_ t (hx t rfl)]
  | _ => rfl
theorem Agree.exec {tm tm2 : Array Value} {o : Oper} (h : Agree tm tm2 (opUses o)) (hd : ∀ cs b, o.op ≠ .select cs b) : execOp (Qx.tev tm) o = execOp (Qx.tev tm2) o :=
  execOp_congr hd fun x hx => h.tev x fun t ht => by
    simp only [opUses, List.mem_filterMap]
    exact ⟨x, by simpa using hx, ht⟩

theorem Agree.put {tm tm2 : Array Value} {ts : List Nat} (h : Agree tm tm2 ts) (d : Option Tmp) (x : Value) : Agree (tput tm d x) (tput tm2 d x) ts := by
  cases d with
  | none => exact h
  | some d =>
    refine ⟨by simp [tput, h.size], fun t ht => ?_⟩
    simp only [tput, Array.getElem?_setIfInBounds, h.size, h.at_ t ht]

theorem size_tput (tm : Array Value) (d : Option Tmp) (x : Value) : (tput tm d x).size = tm.size := by cases d <;> simp [tput]
theorem get_tput {tm : Array Value} {d : Option Tmp} {x : Value} {t : Nat} (h : d ≠ some t) : (tput tm d x)[t]? = tm[t]? := by
  cases d with
  | none => rfl
  | some d =>
    have : d ≠ t := fun hd => h (by rw [hd])
    simp [tput, Array.getElem?_setIfInBounds, this]
theorem tput_comm {tm : Array Value} {d e : Option Tmp} {x y : Value} (h : ∀ t, d = some t → e ≠ some t) : tput (tput tm d x) e y = tput (tput tm e y) d x := by
  cases d with
  | none => rfl
  | some d =>
    cases e with
    | none => rfl
    | some e =>
      have hne : d ≠ e := fun hde => h d rfl (by rw [hde])
      apply Array.ext_getElem?
      intro i
      simp only [tput, Array.getElem?_setIfInBounds, Array.size_setIfInBounds]
      by_cases h1 : e = i <;> by_cases h2 : d = i
      · exact absurd (h2.trans h1.symm) hne
      · simp [h1, h2]
      · simp [h1, h2]
      · simp [h1, h2]
end Go.Qx
