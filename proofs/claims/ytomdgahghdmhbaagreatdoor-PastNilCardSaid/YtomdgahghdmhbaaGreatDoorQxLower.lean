import Derived.Test.YtomdgahghdmhbaaGreatDoorQxExec
import Derived.Test.YtomdgahghdmhbaaGreatDoorQxKeep
namespace Go.Qx
open Go
set_option linter.unusedVariables false

/-! ### Values alike. -/
def valEq1 : Value → Value → Bool
  | .bool a, .bool b => a == b
  | .int k a, .int l b => decide (k = l) && decide (a = b)
  | .string a, .string b => decide (a = b)
  | .pointer none, .pointer none => true
  | .slice none a b, .slice none c d => a == c && b == d
  | .map none, .map none => true
  | .nilFunc, .nilFunc => true
  | .nilIface, .nilIface => true
  | .tuple ⟨[]⟩, .tuple ⟨[]⟩ => true
  | _, _ => false

theorem valEq1_ok {a b : Value} (h : valEq1 a b = true) : a = b := by
  unfold valEq1 at h
  split at h
  · simp at h; rw [h]
  · simp at h; rw [h.1, h.2]
  · simp at h; rw [h]
  · rfl
  · simp at h; rw [h.1, h.2]
  · rfl
  · rfl
  · rfl
  · rfl
  · cases h

def valsEq : List Value → List Value → Bool
  | [], [] => true
  | a :: r, b :: s => valEq1 a b && valsEq r s
  | _, _ => false
theorem valsEq_ok : ∀ {a b : List Value}, valsEq a b = true → a = b
  | [], b, h => by cases b <;> simp [valsEq] at h; rfl
  | a :: r, b, h => by
    cases b <;> simp [valsEq] at h
    rw [valEq1_ok h.1, valsEq_ok h.2]

def valEq : Value → Value → Bool
  | .agg ⟨a⟩, .agg ⟨b⟩ => valsEq a b
  | a, b => valEq1 a b
theorem valEq_ok {a b : Value} (h : valEq a b = true) : a = b := by
  unfold valEq at h
  split at h
  · rw [valsEq_ok h]
  · exact valEq1_ok h

def tokEq : Option Nat → Option Nat → Bool
  | none, none => true
  | some a, some b => Nat.beq a b
  | _, _ => false
theorem tokEq_ok {a b : Option Nat} (h : tokEq a b = true) : a = b := by
  unfold tokEq at h
  split at h
  · rfl
  · rw [Nat.eq_of_beq_eq_true h]
  · cases h

mutual
def V.beq : V → V → Bool
  | .any, .any => true
  | .raw a, .raw b => valEq a b
  | .sl es nn tok, .sl es' nn' tok' => nn == nn' && tokEq tok tok' && beqL es es'
  | .ref cs, .ref cs' => beqL cs cs'
  | .ptr i o, .ptr i' o' => Nat.beq i i' && Nat.beq o o'
  | .agg cs, .agg cs' => beqL cs cs'
  | .tup cs, .tup cs' => beqL cs cs'
  | .mref i, .mref j => Nat.beq i j
  | .itp i, .itp j => Nat.beq i j
  | .yld i, .yld j => Nat.beq i j
  | _, _ => false
def beqL : List V → List V → Bool
  | [], [] => true
  | a :: r, b :: s => a.beq b && beqL r s
  | _, _ => false
end

mutual
theorem V.beq_ok : ∀ {a b : V}, a.beq b = true → a = b
  | .any, b, h => by cases b <;> simp [V.beq] at h; rfl
  | .raw a, b, h => by
    cases b <;> simp [V.beq] at h
    rw [valEq_ok h]
  | .sl es nn tok, b, h => by
    cases b <;> simp [V.beq] at h
    rw [h.1.1, tokEq_ok h.1.2, beqL_ok h.2]
  | .ref cs, b, h => by cases b <;> simp [V.beq] at h; rw [beqL_ok h]
  | .ptr i o, b, h => by
    cases b <;> simp [V.beq] at h
    rw [h.1, h.2]
  | .agg cs, b, h => by cases b <;> simp [V.beq] at h; rw [beqL_ok h]
  | .tup cs, b, h => by cases b <;> simp [V.beq] at h; rw [beqL_ok h]
  | .mref i, b, h => by cases b <;> simp [V.beq] at h; rw [h]
  | .itp i, b, h => by cases b <;> simp [V.beq] at h; rw [h]
  | .fn f as bs, b, h => by cases b <;> simp [V.beq] at h
  | .yld i, b, h => by cases b <;> simp [V.beq] at h; rw [h]
  | .ifc t v, b, h => by cases b <;> simp [V.beq] at h
  | .asl i l, b, h => by cases b <;> simp [V.beq] at h
  | .eptr i l o, b, h => by cases b <;> simp [V.beq] at h
theorem beqL_ok : ∀ {a b : List V}, beqL a b = true → a = b
  | [], b, h => by cases b <;> simp [beqL] at h; rfl
  | a :: r, b, h => by
    cases b <;> simp [beqL] at h
    rw [V.beq_ok h.1, beqL_ok h.2]
end

def entsEq : List (Value × V) → List (Value × V) → Bool
  | [], [] => true
  | (k, v) :: r, (k', v') :: s => valEq k k' && v.beq v' && entsEq r s
  | _, _ => false
theorem entsEq_ok : ∀ {a b : List (Value × V)}, entsEq a b = true → a = b
  | [], b, h => by cases b <;> simp [entsEq] at h; rfl
  | (k, v) :: r, b, h => by
    cases b with
    | nil => simp [entsEq] at h
    | cons p s =>
      obtain ⟨k', v'⟩ := p
      simp [entsEq] at h
      rw [valEq_ok h.1.1, V.beq_ok h.1.2, entsEq_ok h.2]

def O.beq : O → O → Bool
  | .dead, .dead => true
  | .box a, .box b => beqL a b
  | .own a, .own b => Nat.beq a b
  | .dfr, .dfr => true
  | .map a, .map b => entsEq a b
  | _, _ => false
theorem O.beq_ok {a b : O} (h : a.beq b = true) : a = b := by
  unfold O.beq at h
  split at h
  · rfl
  · rw [beqL_ok h]
  · rw [Nat.eq_of_beq_eq_true h]
  · rfl
  · rw [entsEq_ok h]
  · cases h

def heapEq : Heap → Heap → Bool
  | [], [] => true
  | (i, o) :: r, (j, p) :: s => Nat.beq i j && o.beq p && heapEq r s
  | _, _ => false
theorem heapEq_ok : ∀ {a b : Heap}, heapEq a b = true → a = b
  | [], b, h => by cases b <;> simp [heapEq] at h; rfl
  | (i, o) :: r, b, h => by
    cases b with
    | nil => simp [heapEq] at h
    | cons p s =>
      obtain ⟨j, p⟩ := p
      simp [heapEq] at h
      rw [h.1.1, O.beq_ok h.1.2, heapEq_ok h.2]

/-! ### What a call leaves, without what it made for itself. -/
mutual
/-- All places named are in the list's, or under n. -/
def V.under (n : Nat) (T : List Nat) : V → Bool
  | .any | .raw _ | .ref _ => true
  | .sl _ _ tok => match tok with
    | none => true
    | some t => Nat.blt t n || T.contains t
  | .ptr i _ | .mref i | .itp i | .yld i | .asl i _ | .eptr i _ _ => Nat.blt i n || T.contains i
  | .agg cs => underL n T cs
  | .tup cs => underL n T cs
  | .fn _ as bs => underL n T as && underL n T bs
  | .ifc _ v => v.under n T
def underL (n : Nat) (T : List Nat) : List V → Bool
  | [] => true
  | a :: r => a.under n T && underL n T r
end

theorem underL_get {n : Nat} {T : List Nat} : ∀ {l : List V} {i : Nat} {v : V}, underL n T l = true → l[i]? = some v → v.under n T = true
  | [], i, v, h, hv => by simp at hv
  | a :: r, i, v, h, hv => by
    simp only [underL, Bool.and_eq_true] at h
    cases i with
    | zero => simp at hv; subst hv; exact h.1
    | succ i => exact underL_get h.2 (by simpa using hv)

/-- The number of a kept place. -/
def lowId (n : Nat) (T : List Nat) (id : Nat) : Nat := bif Nat.blt id n then id else n + go T id
  where go : List Nat → Nat → Nat
  | [], _ => 0
  | t :: r, id => bif Nat.beq t id then 0 else go r id + 1

theorem low_go {id : Nat} : ∀ {T : List Nat}, id ∈ T → T[lowId.go T id]? = some id ∧ lowId.go T id < T.length
  | [], h => by cases h
  | t :: r, h => by
    by_cases ht : t = id
    · subst ht; simp [lowId.go]
    · have hm : id ∈ r := by rcases List.mem_cons.1 h with h | h; exact absurd h.symm ht; exact h
      obtain ⟨h1, h2⟩ := low_go hm
      have hb : Nat.beq t id = false := by cases hb : Nat.beq t id; rfl; exact absurd (Nat.eq_of_beq_eq_true hb) ht
      simp only [lowId.go, hb, cond_false, List.getElem?_cons_succ, List.length_cons]
      exact ⟨h1, by omega⟩

def lowM (M : Mem) (n : Nat) (T : List Nat) : Mem := fun j => if j < n then M j else match T[j - n]? with | some t => M t | none => none

theorem lowM_id {M : Mem} {n : Nat} {T : List Nat} {id : Nat} (h : id < n ∨ id ∈ T) (hT : ∀ t ∈ T, n ≤ t) : lowM M n T (lowId n T id) = M id ∧ lowId n T id < n + T.length := by
  unfold lowId lowM
  by_cases hn : id < n
  · have hb : Nat.blt id n = true := by simp [Nat.blt]; omega
    simp only [hb, cond_true, hn, if_true]
    exact ⟨trivial, by omega⟩
  · have hb : Nat.blt id n = false := by
      cases hb : Nat.blt id n
      · rfl
      · exact absurd (by simp [Nat.blt] at hb; omega) hn
    have hm : id ∈ T := h.resolve_left hn
    obtain ⟨h1, h2⟩ := low_go hm
    simp only [hb, cond_false]
    rw [if_neg (by omega), show n + lowId.go T id - n = lowId.go T id by omega, h1]
    exact ⟨rfl, by omega⟩

theorem lowM_inv {M : Mem} {n : Nat} {T : List Nat} {j : Nat} {p : Plc} (h : lowM M n T j = some p) : ∃ k, M k = some p ∧ ((k < n ∧ j = k) ∨ (n ≤ j ∧ T[j - n]? = some k)) := by
  unfold lowM at h
  by_cases hn : j < n
  · rw [if_pos hn] at h; exact ⟨j, h, .inl ⟨hn, rfl⟩⟩
  · rw [if_neg hn] at h
    split at h
    · rename_i t ht; exact ⟨t, h, .inr ⟨by omega, ht⟩⟩
    · cases h

theorem lowM_foot {M : Mem} {n : Nat} {T : List Nat} {b o : Nat} (h : foot (lowM M n T) b o) : foot M b o := by
  obtain ⟨j, p, hj, hf⟩ := h
  obtain ⟨k, hk, _⟩ := lowM_inv hj
  exact ⟨k, p, hk, hf⟩

theorem Rep.low {w : World} {M : Mem} {n n' : Nat} {T : List Nat} {v : V} {x : Value} (h : Rep w M n' v x) (hu : v.under n T = true) (hT : ∀ t ∈ T, n ≤ t) : Rep w (lowM M n T) (n + T.length) (v.ren (lowId n T)) x := by
  have hf : ∀ b o, ¬ foot M b o → ¬ foot (lowM M n T) b o := fun b o hn hf => hn (lowM_foot hf)
  have zero : ∀ {v x}, Rep w M 0 v x → Rep w (lowM M n T) 0 v x := fun h => h.mono (fun b o y hy hn => ⟨hy, hf b o hn⟩) (fun id p h => absurd h (Nat.not_lt_zero _)) (Nat.le_refl 0)
  have hid : ∀ {i : Nat}, (Nat.blt i n || T.contains i) = true → lowM M n T (lowId n T i) = M i ∧ lowId n T i < n + T.length := fun h => by
    refine lowM_id ?_ hT
    simp only [Bool.or_eq_true, List.contains_eq_mem, decide_eq_true_eq] at h
    exact h.imp (fun h => by simp [Nat.blt] at h; omega) id
  have tok : ∀ {n2 : Nat} {tok : Option Nat} {Q : Nat → Nat → Nat → Nat → Prop}, (∀ t, tok = some t → (Nat.blt t n || T.contains t) = true) → TokOk M tok n2 Q → TokOk (lowM M n T) (tok.map (lowId n T)) (n + T.length) Q := by
    intro n2 tok Q hb ht t htt
    cases tok with
    | none => cases htt
    | some t0 =>
      simp only [Option.map_some, Option.some.injEq] at htt
      subst htt
      obtain ⟨h1, h2⟩ := hid (hb t0 rfl)
      exact ⟨h2, fun b t' e k hm => (ht t0 rfl).2 b t' e k (by rw [h1] at hm; exact hm)⟩
  induction h with
  | any x => simp only [V.ren]; exact .any x
  | raw x => simp only [V.ren]; exact .raw x
  | slNil ht => simp only [V.ren]; exact .slNil (tok (fun t h => by subst h; simpa [V.under] using hu) ht)
  | slE a => simp only [V.ren]; exact .slE a
  | sl hlen hk hc ho hr ht _ => simp only [V.ren]; exact .sl hlen hk (fun i hi => ⟨(hc i hi).1, hf _ _ (hc i hi).2⟩) ho (fun i v hv => zero (hr i v hv)) (tok (fun t h => by subst h; simpa [V.under] using hu) ht)
  | ref hc ho hr _ => simp only [V.ren]; exact .ref (fun i hi => ⟨(hc i hi).1, hf _ _ (hc i hi).2⟩) ho (fun i v hv => zero (hr i v hv))
  | ptr h0 h => simp only [V.ren]; have := hid (by simpa [V.under] using hu); exact .ptr this.2 fun b' hb => h b' (by rw [this.1] at hb; exact hb)
  | yld h0 h => simp only [V.ren]; have := hid (by simpa [V.under] using hu); exact .yld this.2 fun b' hb => h b' (by rw [this.1] at hb; exact hb)
  | mref h0 h => simp only [V.ren]; have := hid (by simpa [V.under] using hu); exact .mref this.2 fun b' hb => h b' (by rw [this.1] at hb; exact hb)
  | itp h0 h => simp only [V.ren]; have := hid (by simpa [V.under] using hu); exact .itp this.2 fun b' hb => h b' (by rw [this.1] at hb; exact hb)
  | aslNil h0 h => simp only [V.ren]; have := hid (by simpa [V.under] using hu); exact .aslNil this.2 fun b t e k hb => h b t e k (by rw [this.1] at hb; exact hb)
  | asl h0 hl h => simp only [V.ren]; have := hid (by simpa [V.under] using hu); exact .asl this.2 hl fun b t e k hb => h b t e k (by rw [this.1] at hb; exact hb)
  | eptr h0 h => simp only [V.ren]; have := hid (by simpa [V.under] using hu); exact .eptr this.2 fun b t e k hb => h b t e k (by rw [this.1] at hb; exact hb)
  | agg hs ho _ ih =>
    simp only [V.ren]
    refine .agg (by simp [renL_eq, hs]) (by simpa [renL_eq] using ho) fun i u hu' => ?_
    obtain ⟨v, hv, rfl⟩ := renL_get hu'
    exact ih i v hv (underL_get (by simpa [V.under] using hu) hv)
  | tup hs _ ih =>
    simp only [V.ren]
    refine .tup (by simp [renL_eq, hs]) fun i u hu' => ?_
    obtain ⟨v, hv, rfl⟩ := renL_get hu'
    exact ih i v hv (underL_get (by simpa [V.under] using hu) hv)
  | fn hs hs' _ _ ih ih' =>
    simp only [V.under, Bool.and_eq_true] at hu
    simp only [V.ren]
    refine .fn (by simp [renL_eq, hs]) (by simp [renL_eq, hs']) (fun i u hu' => ?_) (fun i u hu' => ?_)
    · obtain ⟨v, hv, rfl⟩ := renL_get hu'
      exact ih i v hv (underL_get hu.1 hv)
    · obtain ⟨v, hv, rfl⟩ := renL_get hu'
      exact ih' i v hv (underL_get hu.2 hv)
  | ifc _ ih => simp only [V.ren]; exact .ifc (ih (by simpa [V.under] using hu))

/-- The heap's objects under n, as they are: what stands behind is left out. -/
def lowH (n : Nat) (h : Heap) : Heap := h.filter fun p => Nat.blt p.1 n

theorem lowH_find {n : Nat} : ∀ {h : Heap} {id : Nat}, id < n → Heap.find (lowH n h) id = Heap.find h id
  | [], id, hid => rfl
  | (i, o) :: h, id, hid => by
    have ih := lowH_find (h := h) hid
    unfold lowH at ih ⊢
    rw [List.filter_cons]
    split
    · rw [Heap.find_new, Heap.find_new, ih]
    · rename_i hi
      rw [Heap.find_new, ih, if_neg]
      rintro rfl
      simp [Nat.blt] at hi
      omega

theorem lowH_none {n : Nat} : ∀ {h : Heap} {id : Nat}, n ≤ id → Heap.find (lowH n h) id = .dead
  | [], id, hid => rfl
  | (i, o) :: h, id, hid => by
    have ih := lowH_none (h := h) hid
    unfold lowH at ih ⊢
    rw [List.filter_cons]
    split
    · rename_i hi
      rw [Heap.find_new, ih, if_neg]
      rintro rfl
      simp [Nat.blt] at hi
      omega
    · exact ih

def O.underT (n : Nat) (T : List Nat) : O → Bool
  | .dead | .own _ | .dfr | .fr _ _ => true
  | .box cs => underL n T cs
  | .loop _ tm _ _ _ _ _ _ df => underL n T tm && Nat.blt df n
  | .map es => es.all fun p => p.2.under n T
  | .mit mid _ _ => Nat.blt mid n
  | .arr _ es => underL n T es
def O.under (n : Nat) (o : O) : Bool := o.underT n []

/-- The fresh tokens that a value names. -/
def freshL (n : Nat) : List Nat → List Nat → Bool
  | _, [] => true
  | seen, t :: r => Nat.ble n t && !seen.contains t && freshL n (t :: seen) r

mutual
def V.toks (n : Nat) : V → List Nat
  | .sl _ _ (some t) => bif Nat.blt t n then [] else [t]
  | .agg cs => toksL n cs
  | .tup cs => toksL n cs
  | .ifc _ v => v.toks n
  | _ => []
def toksL (n : Nat) : List V → List Nat
  | [] => []
  | a :: r => a.toks n ++ toksL n r
end

def ownsOf (h : Heap) : Nat → List Nat → Option Heap
  | _, [] => some []
  | j, t :: r => match h.find t with
    | .own k => (ownsOf h (j + 1) r).map ((j, .own k) :: ·)
    | _ => none

def O.toks (n : Nat) : O → List Nat
  | .box cs => toksL n cs
  | .loop _ tm _ _ _ _ _ _ _ => toksL n tm
  | .map es => es.flatMap fun p => p.2.toks n
  | .arr _ es => toksL n es
  | _ => []

/-- The objects under n, each once. -/
def visH (n : Nat) : List Nat → Heap → Heap
  | _, [] => []
  | seen, (i, o) :: h => bif Nat.blt i n && !seen.contains i then (i, o) :: visH n (i :: seen) h else visH n seen h

def renH (ρ : Nat → Nat) : Heap → Heap
  | [] => []
  | (i, o) :: h => (i, o.renf ρ) :: renH ρ h

def dedup : List Nat → List Nat → List Nat
  | _, [] => []
  | seen, t :: r => bif seen.contains t then dedup seen r else t :: dedup (t :: seen) r

/-- What is left of a call: its value, the old objects, the rows that the value tells. -/
def lower (n : Nat) (v : V) (h : Heap) : Option (V × Heap × Nat) :=
  bif (lowH n h).all (fun p => p.2.under n) then
    (match ownsOf h n (v.toks n) with
    | some os => bif freshL n [] (v.toks n) && v.under n (v.toks n) then some (v.ren (lowId n (v.toks n)), os ++ lowH n h, n + (v.toks n).length) else none
    | none => none)
  else
    let vis := visH n [] h
    let T := dedup [] (v.toks n ++ vis.flatMap fun p => p.2.toks n)
    (match ownsOf h n T with
    | some os => bif freshL n [] T && v.under n T && vis.all (fun p => p.2.underT n T) then some (v.ren (lowId n T), os ++ renH (lowId n T) vis, n + T.length) else none
    | none => none)

theorem blt_spec {i n : Nat} (h : Nat.blt i n = true) : i < n := by simp [Nat.blt] at h; omega

theorem lowId_id {n : Nat} {T : List Nat} {i : Nat} (h : i < n) : lowId n T i = i := by
  have hb : Nat.blt i n = true := by simp [Nat.blt]; omega
  simp [lowId, hb]

mutual
theorem V.ren_low {n : Nat} {T : List Nat} : ∀ (v : V), v.under n [] = true → v.ren (lowId n T) = v
  | .any, _ => by simp [V.ren]
  | .raw a, _ => by simp [V.ren]
  | .ref cs, _ => by simp [V.ren]
  | .sl es nn tok, h => by
    cases tok with
    | none => simp [V.ren]
    | some t => simp only [V.under, List.contains_nil, Bool.or_false] at h; simp [V.ren, lowId_id (blt_spec h)]
  | .ptr i o, h => by simp only [V.under, List.contains_nil, Bool.or_false] at h; simp [V.ren, lowId_id (blt_spec h)]
  | .mref i, h => by simp only [V.under, List.contains_nil, Bool.or_false] at h; simp [V.ren, lowId_id (blt_spec h)]
  | .itp i, h => by simp only [V.under, List.contains_nil, Bool.or_false] at h; simp [V.ren, lowId_id (blt_spec h)]
  | .yld i, h => by simp only [V.under, List.contains_nil, Bool.or_false] at h; simp [V.ren, lowId_id (blt_spec h)]
  | .asl i l, h => by simp only [V.under, List.contains_nil, Bool.or_false] at h; simp [V.ren, lowId_id (blt_spec h)]
  | .eptr i l o, h => by simp only [V.under, List.contains_nil, Bool.or_false] at h; simp [V.ren, lowId_id (blt_spec h)]
  | .agg cs, h => by simp only [V.under] at h; simp [V.ren, renL_low cs h]
  | .tup cs, h => by simp only [V.under] at h; simp [V.ren, renL_low cs h]
  | .fn f as bs, h => by simp only [V.under, Bool.and_eq_true] at h; simp [V.ren, renL_low as h.1, renL_low bs h.2]
  | .ifc t v, h => by simp only [V.under] at h; simp [V.ren, V.ren_low v h]
theorem renL_low {n : Nat} {T : List Nat} : ∀ (l : List V), underL n [] l = true → renL (lowId n T) l = l
  | [], _ => by simp [renL]
  | a :: r, h => by simp only [underL, Bool.and_eq_true] at h; simp [renL, V.ren_low a h.1, renL_low r h.2]
end

theorem renP_low {n : Nat} {T : List Nat} : ∀ (l : List (Value × V)), (l.all fun p => p.2.under n []) = true → renP (lowId n T) l = l
  | [], _ => rfl
  | (k, v) :: r, h => by simp only [List.all_cons, Bool.and_eq_true] at h; simp [renP, V.ren_low v h.1, renP_low r h.2]

theorem O.renf_low {n : Nat} {T : List Nat} (o : O) (h : o.under n = true) : o.renf (lowId n T) = o := by
  cases o <;> simp only [O.under, O.underT, Bool.and_eq_true] at h <;> simp only [O.renf]
  · rw [renL_low _ h]
  · rw [renL_low _ h.1, lowId_id (blt_spec h.2)]
  · rw [renP_low _ h]
  · rw [lowId_id (blt_spec h)]
  · rw [renL_low _ h]

mutual
theorem V.under_mono {n : Nat} {T : List Nat} : ∀ (v : V), v.under n [] = true → v.under n T = true
  | .any, _ => rfl
  | .raw a, _ => rfl
  | .ref cs, _ => rfl
  | .sl es nn tok, h => by
    cases tok with
    | none => rfl
    | some t => simp only [V.under, List.contains_nil, Bool.or_false] at h ⊢; simp [h]
  | .ptr i o, h => by simp only [V.under, List.contains_nil, Bool.or_false] at h ⊢; simp [h]
  | .mref i, h => by simp only [V.under, List.contains_nil, Bool.or_false] at h ⊢; simp [h]
  | .itp i, h => by simp only [V.under, List.contains_nil, Bool.or_false] at h ⊢; simp [h]
  | .yld i, h => by simp only [V.under, List.contains_nil, Bool.or_false] at h ⊢; simp [h]
  | .asl i l, h => by simp only [V.under, List.contains_nil, Bool.or_false] at h ⊢; simp [h]
  | .eptr i l o, h => by simp only [V.under, List.contains_nil, Bool.or_false] at h ⊢; simp [h]
  | .agg cs, h => by simp only [V.under] at h ⊢; exact underL_mono cs h
  | .tup cs, h => by simp only [V.under] at h ⊢; exact underL_mono cs h
  | .fn f as bs, h => by simp only [V.under, Bool.and_eq_true] at h ⊢; exact ⟨underL_mono as h.1, underL_mono bs h.2⟩
  | .ifc t v, h => by simp only [V.under] at h ⊢; exact V.under_mono v h
theorem underL_mono {n : Nat} {T : List Nat} : ∀ (l : List V), underL n [] l = true → underL n T l = true
  | [], _ => rfl
  | a :: r, h => by simp only [underL, Bool.and_eq_true] at h ⊢; exact ⟨V.under_mono a h.1, underL_mono r h.2⟩
end

theorem freshL_spec {n : Nat} : ∀ {T seen : List Nat}, freshL n seen T = true → (∀ t ∈ T, n ≤ t ∧ t ∉ seen) ∧ T.Nodup
  | [], seen, _ => ⟨(fun t h => by cases h), .nil⟩
  | t :: r, seen, h => by
    simp only [freshL, Bool.and_eq_true, Bool.not_eq_true'] at h
    obtain ⟨⟨h1, h2⟩, h3⟩ := h
    obtain ⟨i1, i2⟩ := freshL_spec h3
    refine ⟨fun u hu => ?_, List.nodup_cons.2 ⟨fun hm => (i1 t hm).2 (List.mem_cons_self ..), i2⟩⟩
    rcases List.mem_cons.1 hu with rfl | hu
    · exact ⟨Nat.le_of_ble_eq_true h1, by simpa using h2⟩
    · exact ⟨(i1 u hu).1, fun hs => (i1 u hu).2 (List.mem_cons_of_mem _ hs)⟩

theorem ownsOf_find {h : Heap} : ∀ {T : List Nat} {j : Nat} {os : Heap} (h1 : Heap), ownsOf h j T = some os → (∀ id, j ≤ id → h1.find id = .dead) →
    (∀ id, id < j → Heap.find (os ++ h1) id = h1.find id) ∧ (∀ i t, T[i]? = some t → ∃ k, h.find t = .own k ∧ Heap.find (os ++ h1) (j + i) = .own k) ∧ ∀ id, j + T.length ≤ id → Heap.find (os ++ h1) id = .dead
  | [], j, os, h1, ho, hd => by
    simp only [ownsOf, Option.some.injEq] at ho; subst ho
    exact ⟨fun id hid => rfl, fun i t ht => by simp at ht, fun id hid => hd id (by simpa using hid)⟩
  | t :: r, j, os, h1, ho, hd => by
    simp only [ownsOf] at ho
    split at ho
    · rename_i k hk
      obtain ⟨os', ho', rfl⟩ := Option.map_eq_some_iff.1 ho
      obtain ⟨i1, i2, i3⟩ := ownsOf_find h1 ho' (fun id hid => hd id (by omega))
      refine ⟨fun id hid => ?_, fun i u hu => ?_, fun id hid => ?_⟩
      · rw [List.cons_append, Heap.find_new, if_neg (by omega)]; exact i1 id (by omega)
      · cases i with
        | zero =>
          simp at hu; subst hu
          exact ⟨k, hk, by rw [List.cons_append, Heap.find_new]; simp⟩
        | succ i =>
          obtain ⟨k', h2, h3⟩ := i2 i u (by simpa using hu)
          exact ⟨k', h2, by rw [List.cons_append, Heap.find_new, if_neg (by omega), show j + (i + 1) = j + 1 + i by omega]; exact h3⟩
      · simp only [List.length_cons] at hid
        rw [List.cons_append, Heap.find_new, if_neg (by omega)]; exact i3 id (by omega)
    · cases ho

theorem underL_flat {n : Nat} {T : List Nat} : ∀ (l : List V), underL n T l = true → underL n T (l.flatMap V.cells) = true
  | [], _ => rfl
  | a :: r, ha => by
    simp only [underL, Bool.and_eq_true] at ha
    have happ : ∀ (p q : List V), underL n T p = true → underL n T q = true → underL n T (p ++ q) = true := by
      intro p q hp hq
      induction p with
      | nil => exact hq
      | cons b s ihs => simp only [underL, Bool.and_eq_true, List.cons_append] at hp ⊢; exact ⟨hp.1, ihs hp.2⟩
    refine happ _ _ ?_ (underL_flat r ha.2)
    cases a <;> simp [V.cells, underL] <;> first | exact ha.1 | (simpa [V.under] using ha.1) | (simp [V.under])

theorem ObjOk.low {w : World} {M : Mem} {n n' : Nat} {T : List Nat} {p : Plc} {o : O} (h : ObjOk w M n' p o) (hu : o.underT n T = true) (hT : ∀ t ∈ T, n ≤ t) : ObjOk w (lowM M n T) (n + T.length) p (o.renf (lowId n T)) := by
  cases o with
  | dead => trivial
  | own k => exact h
  | dfr => exact h
  | fr w0 F => exact h
  | box cs =>
    obtain ⟨b, ys, el, fz, rfl, g2, g3, g4, g5, g6⟩ := h
    refine ⟨b, ys, el, fz, rfl, g2, by simp [renL_eq, g3], g4, by simpa [renL_eq] using g5, fun i' u hq => ?_⟩
    obtain ⟨u', hu', rfl⟩ := renL_get hq
    exact (g6 i' u' hu').low (underL_get hu hu') hT
  | loop fn tm ps as bd bu ov pe df =>
    simp only [O.underT, Bool.and_eq_true] at hu
    obtain ⟨b, ys, D, st, fo, rfl, g2, g3, g4, g5, g6⟩ := h
    refine ⟨b, ys, D, st, fo, rfl, g2, g3, by simp [renL_eq, g4], ?_, fun i' u hq => ?_⟩
    · show lowM M n _ (lowId n _ df) = _
      rw [lowId_id (blt_spec hu.2)]; unfold lowM; rw [if_pos (blt_spec hu.2)]; exact g5
    · obtain ⟨u', hu', rfl⟩ := renL_get hq
      exact (g6 i' u' hu').low (underL_get hu.1 hu') hT
  | map es =>
    obtain ⟨b, ents, rfl, g2, g3, g4⟩ := h
    refine ⟨b, ents, rfl, by simpa [renP_eq] using g2, by simpa [renP_eq] using g3, fun i k u hq => ?_⟩
    rw [renP_eq, List.getElem?_map, Option.map_eq_some_iff] at hq
    obtain ⟨⟨k', u'⟩, hu', he⟩ := hq
    simp only [Prod.mk.injEq] at he
    obtain ⟨rfl, rfl⟩ := he
    obtain ⟨y, g5, g6⟩ := g4 i k' u' hu'
    simp only [O.underT, List.all_eq_true] at hu
    exact ⟨y, g5, g6.low (hu _ (List.mem_of_getElem? hu')) hT⟩
  | mit mid len seen =>
    simp only [O.underT] at hu
    obtain ⟨b, m, rfl, g2, g3⟩ := h
    refine ⟨b, m, rfl, ?_, g3⟩
    show lowM M n _ (lowId n _ mid) = _
    rw [lowId_id (blt_spec hu)]; unfold lowM; rw [if_pos (blt_spec hu)]; exact g2
  | arr k es =>
    obtain ⟨b, t, e, y, rfl, g2, g3, g4, g5, g6⟩ := h
    refine ⟨b, t, e, y, rfl, by simpa [renL_eq] using g2, fun u hu' => ?_, g4, by simpa [renL_eq] using g5, fun i u hq => ?_⟩
    · rw [renL_eq, List.mem_map] at hu'
      obtain ⟨u', hu', rfl⟩ := hu'
      simpa [cells_ren] using g3 u' hu'
    · rw [flat_ren] at hq
      obtain ⟨u', hu', rfl⟩ := renL_get hq
      exact (g6 i u' hu').low (underL_get (underL_flat es hu) hu') hT

theorem visH_find {n : Nat} : ∀ {h : Heap} {seen : List Nat} {id : Nat}, id < n → id ∉ seen → Heap.find (visH n seen h) id = Heap.find h id
  | [], seen, id, _, _ => rfl
  | (i, o) :: h, seen, id, hid, hs => by
    simp only [visH]
    cases hc : (Nat.blt i n && !seen.contains i)
    · simp only [cond_false]
      rw [visH_find hid hs, Heap.find_new, if_neg]
      rintro rfl
      have : Nat.blt i n = true := by simp [Nat.blt]; omega
      rw [this] at hc
      simp [hs] at hc
    · simp only [cond_true]
      rw [Heap.find_new, Heap.find_new]
      by_cases hi : i = id
      · rw [if_pos hi, if_pos hi]
      · rw [if_neg hi, if_neg hi]
        exact visH_find hid (by simp only [List.mem_cons, not_or]; exact ⟨fun h => hi h.symm, hs⟩)

theorem visH_none {n : Nat} : ∀ {h : Heap} {seen : List Nat} {id : Nat}, n ≤ id → Heap.find (visH n seen h) id = .dead
  | [], seen, id, _ => rfl
  | (i, o) :: h, seen, id, hid => by
    simp only [visH]
    cases hc : (Nat.blt i n && !seen.contains i)
    · simp only [cond_false]; exact visH_none hid
    · simp only [cond_true]
      simp only [Bool.and_eq_true] at hc
      have := blt_spec hc.1
      rw [Heap.find_new, if_neg (by omega)]
      exact visH_none hid

theorem renH_find {ρ : Nat → Nat} : ∀ {h : Heap} {id : Nat}, Heap.find (renH ρ h) id = (Heap.find h id).renf ρ
  | [], id => rfl
  | (i, o) :: h, id => by
    simp only [renH]
    rw [Heap.find_new, Heap.find_new, renH_find (h := h)]
    split <;> rfl

theorem find_all {f : O → Bool} (hd : f .dead = true) : ∀ (l : Heap), (l.all fun p => f p.2) = true → ∀ id, f (l.find id) = true
  | [], _, id => hd
  | (i, o) :: r, ha, id => by
    simp only [List.all_cons, Bool.and_eq_true] at ha
    rw [Heap.find_new]
    split
    · exact ha.1
    · exact find_all hd r ha.2 id

/-- Either way of lowering. -/
theorem low_core {n : Nat} {v : V} {h hv os : Heap} {T : List Nat} (hos : ownsOf h n T = some os) (c1 : freshL n [] T = true) (c2 : v.under n T = true) (hfind : ∀ id, id < n → hv.find id = (h.find id).renf (lowId n T)) (hnone : ∀ id, n ≤ id → hv.find id = .dead)
    (hund : ∀ id, id < n → (h.find id).underT n T = true) {w : World} {M : Mem} {n' : Nat} {x : Value} (hn : n ≤ n') (hr : Rep w M n' v x) (hs : Sim w M h n') :
    ∃ M2, Rep w M2 (n + T.length) (v.ren (lowId n T)) x ∧ Sim w M2 (os ++ hv) (n + T.length) ∧ Tr M w M2 w ∧ Old M h n M2 (os ++ hv) (n + T.length) := by
  obtain ⟨f1, f2⟩ := freshL_spec c1
  have hT : ∀ t ∈ T, n ≤ t := fun t ht => (f1 t ht).1
  obtain ⟨o1, o2, o3⟩ := ownsOf_find hv hos hnone
  have htr : Tr M w (lowM M n T) w := ⟨(Tr.refl M w).ext, fun b o hf => .inl (lowM_foot hf)⟩
  refine ⟨lowM M n T, hr.low c2 hT, Sim.of_obj ?_ ?_ ?_ ?_, htr, by omega, fun id p hid hp => ?_, fun id hid hpin => ?_⟩
  · intro j p hj
    obtain ⟨k, _, h1 | h1⟩ := lowM_inv hj
    · omega
    · have := (List.getElem?_eq_some_iff.1 h1.2).1; omega
  · intro j p b o hj hf
    obtain ⟨k, hk, _⟩ := lowM_inv hj
    exact hs.inb k p b o hk hf
  · intro i j p q b o hi hj hfi hfj
    obtain ⟨k, hk, h1⟩ := lowM_inv hi
    obtain ⟨k', hk', h2⟩ := lowM_inv hj
    have := hs.disj k k' p q b o hk hk' hfi hfj
    subst this
    rcases h1 with ⟨a1, rfl⟩ | ⟨a1, a2⟩ <;> rcases h2 with ⟨b1, b2⟩ | ⟨b1, b2⟩
    · omega
    · have := hT _ (List.mem_of_getElem? b2); omega
    · have := hT _ (List.mem_of_getElem? a2); omega
    · have hi1 := (List.getElem?_eq_some_iff.1 a2)
      have hj1 := (List.getElem?_eq_some_iff.1 b2)
      obtain ⟨l1, e1⟩ := hi1
      obtain ⟨l2, e2⟩ := hj1
      have := (List.getElem_inj f2).1 (e1.trans e2.symm)
      omega
  · intro id hid
    by_cases hlt : id < n
    · rw [o1 id hlt, hfind id hlt] at hid ⊢
      have hid' : h.find id ≠ .dead := fun hd => by rw [hd] at hid; exact hid rfl
      obtain ⟨p, hp, hok⟩ := hs.obj id hid'
      exact ⟨p, by unfold lowM; rw [if_pos hlt]; exact hp, hok.low (hund id hlt) hT⟩
    · obtain ⟨i, rfl⟩ : ∃ i, id = n + i := ⟨id - n, by omega⟩
      by_cases hi : i < T.length
      · obtain ⟨k, h3, h4⟩ := o2 i _ (List.getElem?_eq_getElem hi)
        rw [h4]
        obtain ⟨b, t, e, hm, hc⟩ := hs.own _ k h3
        refine ⟨.tip b t e k, ?_, b, t, e, rfl, hc⟩
        unfold lowM
        rw [if_neg (by omega), show n + i - n = i by omega, List.getElem?_eq_getElem hi]
        exact hm
      · exact absurd (o3 _ (by omega)) hid
  · unfold lowM at hp; rw [if_pos hid] at hp; exact hp
  · refine ⟨?_, by unfold lowM; rw [if_pos hid]⟩
    rw [o1 id hid, hfind id hid]
    cases hfo : h.find id <;> rw [hfo] at hpin <;> first | rfl | cases hpin

theorem lower_ok {n : Nat} {v v2 : V} {h h2 : Heap} {n2 : Nat} (hl : lower n v h = some (v2, h2, n2)) {w : World} {M : Mem} {n' : Nat} {x : Value} (hn : n ≤ n') (hr : Rep w M n' v x) (hs : Sim w M h n') :
    ∃ M2, Rep w M2 n2 v2 x ∧ Sim w M2 h2 n2 ∧ Tr M w M2 w ∧ Old M h n M2 h2 n2 := by
  unfold lower at hl
  cases hb : (lowH n h).all (fun p => p.2.under n)
  · rw [hb] at hl
    simp only [cond_false] at hl
    split at hl
    · rename_i os hos
      generalize hT : dedup [] (v.toks n ++ (visH n [] h).flatMap fun p => p.2.toks n) = T at hl hos
      cases hc : (freshL n [] T && v.under n T && (visH n [] h).all (fun p => p.2.underT n T))
      · rw [hc] at hl; cases hl
      · rw [hc] at hl
        simp only [cond_true, Option.some.injEq, Prod.mk.injEq] at hl
        obtain ⟨rfl, rfl, rfl⟩ := hl
        simp only [Bool.and_eq_true] at hc
        obtain ⟨⟨c1, c2⟩, c3⟩ := hc
        refine low_core hos c1 c2 (fun id hid => by rw [renH_find, visH_find hid (by simp)]) (fun id hid => by rw [renH_find, visH_none hid]; rfl) (fun id hid => ?_) hn hr hs
        have := find_all (f := fun o => o.underT n T) rfl (visH n [] h) c3 id
        rwa [visH_find hid (by simp)] at this
    · cases hl
  · rw [hb] at hl
    simp only [cond_true] at hl
    have hu : ∀ id, id < n → (h.find id).under n = true := fun id hid => by
      have := find_all (f := fun o => o.under n) rfl (lowH n h) hb id
      rwa [lowH_find hid] at this
    split at hl
    · rename_i os hos
      cases hc : (freshL n [] (v.toks n) && v.under n (v.toks n))
      · rw [hc] at hl; cases hl
      · rw [hc] at hl
        simp only [cond_true, Option.some.injEq, Prod.mk.injEq] at hl
        obtain ⟨rfl, rfl, rfl⟩ := hl
        simp only [Bool.and_eq_true] at hc
        obtain ⟨c1, c2⟩ := hc
        refine low_core hos c1 c2 (fun id hid => by rw [lowH_find hid, O.renf_low _ (hu id hid)]) (fun id hid => lowH_none hid) (fun id hid => ?_) hn hr hs
        have := hu id hid
        cases hfo : h.find id <;> rw [hfo] at this <;> simp only [O.under, O.underT] at this ⊢
        · exact underL_mono _ this
        · simp only [Bool.and_eq_true] at this ⊢; exact ⟨underL_mono _ this.1, this.2⟩
        · simp only [List.all_eq_true] at this ⊢; exact fun p hp => V.under_mono _ (this p hp)
        · exact this
        · exact underL_mono _ this
    · cases hl
end Go.Qx
