import Derived.Test.YtomdgahghdmhbaaGreatDoorQxRun
namespace Go.Qx
open Go
set_option linter.unusedVariables false

mutual
/-- The places' numbers, renamed. -/
def V.ren (ρ : Nat → Nat) : V → V
  | .any => .any
  | .raw v => .raw v
  | .sl es nn tok => .sl es nn (tok.map ρ)
  | .ref cs => .ref cs
  | .ptr id off => .ptr (ρ id) off
  | .agg cs => .agg (renL ρ cs)
  | .tup vs => .tup (renL ρ vs)
  | .fn f as bs => .fn f (renL ρ as) (renL ρ bs)
  | .yld id => .yld (ρ id)
  | .ifc t v => .ifc t (v.ren ρ)
  | .mref id => .mref (ρ id)
  | .itp id => .itp (ρ id)
  | .asl id len => .asl (ρ id) len
  | .eptr id i off => .eptr (ρ id) i off
def renL (ρ : Nat → Nat) : List V → List V
  | [] => []
  | v :: vs => v.ren ρ :: renL ρ vs
end

theorem renL_eq (ρ : Nat → Nat) (l : List V) : renL ρ l = l.map (V.ren ρ) := by
  induction l with
  | nil => simp [renL]
  | cons v vs ih => simp [renL, ih]

theorem renL_get {ρ : Nat → Nat} {l : List V} {i : Nat} {u : V} (h : (renL ρ l)[i]? = some u) : ∃ v : V, l[i]? = some v ∧ u = v.ren ρ := by
  rw [renL_eq, List.getElem?_map, Option.map_eq_some_iff] at h
  obtain ⟨v, hv, rfl⟩ := h
  exact ⟨v, hv, rfl⟩

theorem Rep.ren {w : World} {M M' : Mem} {n n' : Nat} {v : V} {x : Value} (h : Rep w M n v x) (ρ : Nat → Nat) (hf : ∀ b o, ¬ foot M b o → ¬ foot M' b o)
    (hρ : ∀ id, id < n → ρ id < n' ∧ ∀ p, M' (ρ id) = some p → M id = some p) : Rep w M' n' (v.ren ρ) x := by
  have zero : ∀ {v x}, Rep w M 0 v x → Rep w M' 0 v x := fun h => h.mono (fun b o y hy hn => ⟨hy, hf b o hn⟩) (fun id p h => absurd h (Nat.not_lt_zero _)) (Nat.le_refl 0)
  have tok : ∀ {n : Nat} {tok : Option Nat} {Q : Nat → Nat → Nat → Nat → Prop}, (∀ id, id < n → ρ id < n' ∧ ∀ p, M' (ρ id) = some p → M id = some p) → TokOk M tok n Q → TokOk M' (tok.map ρ) n' Q := by
    intro n tok Q hρ ht t htt
    cases tok with
    | none => cases htt
    | some t0 =>
      simp only [Option.map_some, Option.some.injEq] at htt
      subst htt
      obtain ⟨h1, h2⟩ := ht t0 rfl
      exact ⟨(hρ t0 h1).1, fun b t' e k hm => h2 b t' e k ((hρ t0 h1).2 _ hm)⟩
  induction h generalizing n' with
  | any x => simp only [V.ren]; exact .any x
  | raw x => simp only [V.ren]; exact .raw x
  | slNil ht => simp only [V.ren]; exact .slNil (tok hρ ht)
  | slE a => simp only [V.ren]; exact .slE a
  | sl hlen hk hc ho hr ht _ => simp only [V.ren]; exact .sl hlen hk (fun i hi => ⟨(hc i hi).1, hf _ _ (hc i hi).2⟩) ho (fun i v hv => zero (hr i v hv)) (tok hρ ht)
  | ref hc ho hr _ => simp only [V.ren]; exact .ref (fun i hi => ⟨(hc i hi).1, hf _ _ (hc i hi).2⟩) ho (fun i v hv => zero (hr i v hv))
  | ptr hid h => simp only [V.ren]; exact .ptr (hρ _ hid).1 fun b' hb => h b' ((hρ _ hid).2 _ hb)
  | agg hs ho _ ih =>
    simp only [V.ren]
    refine .agg (by simp [renL_eq, hs]) (by simpa [renL_eq] using ho) fun i u hu => ?_
    obtain ⟨v, hv, rfl⟩ := renL_get hu
    exact ih i v hv hρ tok
  | tup hs _ ih =>
    simp only [V.ren]
    refine .tup (by simp [renL_eq, hs]) fun i u hu => ?_
    obtain ⟨v, hv, rfl⟩ := renL_get hu
    exact ih i v hv hρ tok
  | fn hs hs' _ _ ih ih' =>
    simp only [V.ren]
    refine .fn (by simp [renL_eq, hs]) (by simp [renL_eq, hs']) (fun i u hu => ?_) (fun i u hu => ?_)
    · obtain ⟨v, hv, rfl⟩ := renL_get hu
      exact ih i v hv hρ tok
    · obtain ⟨v, hv, rfl⟩ := renL_get hu
      exact ih' i v hv hρ tok
  | yld hid h => simp only [V.ren]; exact .yld (hρ _ hid).1 fun b' hb => h b' ((hρ _ hid).2 _ hb)
  | ifc _ ih => simp only [V.ren]; exact .ifc (ih hρ tok)
  | mref hid h => simp only [V.ren]; exact .mref (hρ _ hid).1 fun b' hb => h b' ((hρ _ hid).2 _ hb)
  | itp hid h => simp only [V.ren]; exact .itp (hρ _ hid).1 fun b' hb => h b' ((hρ _ hid).2 _ hb)
  | aslNil hid h => simp only [V.ren]; exact .aslNil (hρ _ hid).1 fun b t e k hb => h b t e k ((hρ _ hid).2 _ hb)
  | asl hid hl h => simp only [V.ren]; exact .asl (hρ _ hid).1 hl fun b t e k hb => h b t e k ((hρ _ hid).2 _ hb)
  | eptr hid h => simp only [V.ren]; exact .eptr (hρ _ hid).1 fun b t e k hb => h b t e k ((hρ _ hid).2 _ hb)

/-- Nothing of the state's own in it. -/
def V.closed : V → Bool
  | .any | .raw _ | .ref _ => true
  | .sl _ _ tok => tok.isNone
  | .agg cs => closedL cs
  | .tup vs => closedL vs
  | .fn _ as bs => closedL as && closedL bs
  | .ifc _ v => v.closed
  | _ => false
  where closedL : List V → Bool
  | [] => true
  | v :: vs => v.closed && closedL vs

theorem closedL_get {l : List V} (h : V.closed.closedL l = true) {i : Nat} {v : V} (hv : l[i]? = some v) : v.closed = true := by
  induction l generalizing i with
  | nil => simp at hv
  | cons a r ih =>
    simp only [V.closed.closedL, Bool.and_eq_true] at h
    cases i with
    | zero => simp at hv; subst hv; exact h.1
    | succ i => exact ih h.2 (by simpa using hv)

theorem Rep.closed {w : World} {M M' : Mem} {n : Nat} {v : V} {x : Value} (h : Rep w M n v x) (hv : v.closed = true) (hf : ∀ b o, ¬ foot M b o → ¬ foot M' b o) (n' : Nat) : Rep w M' n' v x := by
  have zero : ∀ {v x}, Rep w M 0 v x → Rep w M' 0 v x := fun h => h.mono (fun b o y hy hn => ⟨hy, hf b o hn⟩) (fun id p h => absurd h (Nat.not_lt_zero _)) (Nat.le_refl 0)
  induction h with
  | any x => exact .any x
  | raw x => exact .raw x
  | slNil ht => exact .slNil fun t h => by rw [h] at hv; simp [V.closed] at hv
  | slE a => exact .slE a
  | sl hlen hk hc ho hr ht _ => exact .sl hlen hk (fun i hi => ⟨(hc i hi).1, hf _ _ (hc i hi).2⟩) ho (fun i v hv => zero (hr i v hv)) fun t h => by rw [h] at hv; simp [V.closed] at hv
  | ref hc ho hr _ => exact .ref (fun i hi => ⟨(hc i hi).1, hf _ _ (hc i hi).2⟩) ho (fun i v hv => zero (hr i v hv))
  | ptr => simp [V.closed] at hv
  | agg hs ho _ ih => exact .agg hs ho fun i u hu => ih i u hu (closedL_get (by simpa [V.closed] using hv) hu)
  | tup hs _ ih => exact .tup hs fun i u hu => ih i u hu (closedL_get (by simpa [V.closed] using hv) hu)
  | fn hs hs' _ _ ih ih' =>
    simp only [V.closed, Bool.and_eq_true] at hv
    exact .fn hs hs' (fun i u hu => ih i u hu (closedL_get hv.1 hu)) fun i u hu => ih' i u hu (closedL_get hv.2 hu)
  | yld => simp [V.closed] at hv
  | ifc _ ih => exact .ifc (ih (by simpa [V.closed] using hv))
  | mref => simp [V.closed] at hv
  | itp => simp [V.closed] at hv
  | aslNil => simp [V.closed] at hv
  | asl => simp [V.closed] at hv
  | eptr => simp [V.closed] at hv

/-- An argument as a pure function is handed it: without the room behind it. -/
def V.strip : V → V
  | .sl es nn _ => .sl es nn none
  | v => v

theorem Rep.strip {w : World} {M : Mem} {n : Nat} {v : V} {x : Value} (h : Rep w M n v x) : Rep w M n v.strip x := by
  cases h with
  | slNil ht => exact .slNil fun t h => by cases h
  | slE a => exact .slE a
  | sl hlen hk hc ho hr ht => exact .sl hlen hk hc ho hr fun t h => by cases h
  | any x => exact .any x
  | raw x => exact .raw x
  | ref hc ho hr => exact .ref hc ho hr
  | ptr hid h => exact .ptr hid h
  | agg hs ho hr => exact .agg hs ho hr
  | tup hs hr => exact .tup hs hr
  | fn hs hs' hr hr' => exact .fn hs hs' hr hr'
  | yld hid h => exact .yld hid h
  | ifc h => exact .ifc h
  | mref hid h => exact .mref hid h
  | itp hid h => exact .itp hid h
  | aslNil hid h => exact .aslNil hid h
  | asl hid hl h => exact .asl hid hl h
  | eptr hid h => exact .eptr hid h

def renP (ρ : Nat → Nat) : List (Value × V) → List (Value × V)
  | [] => []
  | (k, v) :: r => (k, v.ren ρ) :: renP ρ r

theorem renP_eq (ρ : Nat → Nat) (l : List (Value × V)) : renP ρ l = l.map fun p => (p.1, p.2.ren ρ) := by
  induction l with
  | nil => rfl
  | cons p r ih => obtain ⟨k, v⟩ := p; simp [renP, ih]

def O.renf (ρ : Nat → Nat) : O → O
  | .box cs => .box (renL ρ cs)
  | .own k => .own k
  | .loop fn tm ps as bd bu ov pe df => .loop fn (renL ρ tm) ps as bd bu ov pe (ρ df)
  | .dfr => .dfr
  | .fr w F => .fr w F
  | .dead => .dead
  | .map es => .map (renP ρ es)
  | .mit mid len seen => .mit (ρ mid) len seen
  | .arr k es => .arr k (renL ρ es)

/-- Other places that an object names. -/
def O.deps : O → List Nat
  | .loop _ _ _ _ _ _ _ _ df => [df]
  | .mit mid _ _ => [mid]
  | _ => []

theorem cells_ren (ρ : Nat → Nat) (v : V) : (v.ren ρ).cells = v.cells.map (V.ren ρ) := by
  cases v <;> simp [V.ren, V.cells, renL_eq]

theorem flat_ren (ρ : Nat → Nat) (es : List V) : (renL ρ es).flatMap V.cells = renL ρ (es.flatMap V.cells) := by
  rw [renL_eq, renL_eq]
  induction es with
  | nil => rfl
  | cons a r ih => simp only [List.map_cons, List.flatMap_cons, List.map_append, ih, cells_ren]

/-- An object, its places named otherwise. -/
theorem ObjOk.renf {w : World} {M M' : Mem} {n n' : Nat} {p : Plc} {o : O} (h : ObjOk w M n p o) (ρ : Nat → Nat) (hR : ∀ v x, Rep w M n v x → Rep w M' n' (v.ren ρ) x)
    (hD : ∀ id D, id ∈ o.deps → (∃ b, D = .dfr b ∨ D = .map b) → M id = some D → M' (ρ id) = some D) : ObjOk w M' n' p (o.renf ρ) := by
  cases o with
  | dead => trivial
  | box cs =>
    obtain ⟨b, ys, el, fz, rfl, h2, h3, h4, h5, h6⟩ := h
    refine ⟨b, ys, el, fz, rfl, h2, by simp [renL_eq, h3], h4, by simpa [renL_eq] using h5, fun i' u hu => ?_⟩
    obtain ⟨u', hu', rfl⟩ := renL_get hu
    exact hR _ _ (h6 i' u' hu')
  | own k => exact h
  | loop fn tm ps as bd bu ov pe df =>
    obtain ⟨b, ys, D, st, fo, rfl, h2, h3, h4, h5, h6⟩ := h
    refine ⟨b, ys, D, st, fo, rfl, h2, h3, by simp [renL_eq, h4], hD df _ (by simp [O.deps]) ⟨_, .inl rfl⟩ h5, fun i' u hu => ?_⟩
    obtain ⟨u', hu', rfl⟩ := renL_get hu
    exact hR _ _ (h6 i' u' hu')
  | dfr => exact h
  | fr w0 F => exact h
  | map es =>
    obtain ⟨b, ents, rfl, h2, h3, h4⟩ := h
    refine ⟨b, ents, rfl, by simpa [renP_eq] using h2, by simpa [renP_eq] using h3, fun i k v hv => ?_⟩
    rw [renP_eq, List.getElem?_map, Option.map_eq_some_iff] at hv
    obtain ⟨⟨k', v'⟩, hv', he⟩ := hv
    simp only [Prod.mk.injEq] at he
    obtain ⟨rfl, rfl⟩ := he
    obtain ⟨x, h5, h6⟩ := h4 i k' v' hv'
    exact ⟨x, h5, hR _ _ h6⟩
  | mit mid len seen =>
    obtain ⟨b, m, rfl, h2, h3⟩ := h
    exact ⟨b, m, rfl, hD mid _ (by simp [O.deps]) ⟨_, .inr rfl⟩ h2, h3⟩
  | arr k es =>
    obtain ⟨b, t, e, y, rfl, h2, h3, h4, h5, h6⟩ := h
    refine ⟨b, t, e, y, rfl, by simpa [renL_eq] using h2, fun v hv => ?_, h4, by simpa [renL_eq] using h5, fun i v hv => ?_⟩
    · rw [renL_eq, List.mem_map] at hv
      obtain ⟨u, hu, rfl⟩ := hv
      simpa [cells_ren] using h3 u hu
    · rw [flat_ren] at hv
      obtain ⟨u, hu, rfl⟩ := renL_get hv
      exact hR _ _ (h6 i u hu)

def O.ren (d : Nat) (o : O) : O :=
  match o with
  | .fr _ _ => .dead
  | o => o.renf (· + d)

def Heap.shift (d : Nat) : Heap → Heap
  | [] => []
  | (i, o) :: h => (i + d, o.ren d) :: Heap.shift d h

theorem find_shift_lt {d id : Nat} (h : id < d) (h0 h1 : Heap) : Heap.find (Heap.shift d h0 ++ h1) id = Heap.find h1 id := by
  induction h0 with
  | nil => rfl
  | cons p r ih =>
    obtain ⟨i, o⟩ := p
    simp only [Heap.shift, List.cons_append]
    rw [Heap.find_new, if_neg (by omega)]; exact ih

theorem find_shift_ge {d id : Nat} (h0 h1 : Heap) (hd : Heap.find h1 (id + d) = .dead) : Heap.find (Heap.shift d h0 ++ h1) (id + d) = (Heap.find h0 id).ren d := by
  induction h0 with
  | nil => simp only [Heap.shift, List.nil_append, hd, Heap.find, O.ren]; rfl
  | cons p r ih =>
    obtain ⟨i, o⟩ := p
    simp only [Heap.shift, List.cons_append]
    rw [Heap.find_new, Heap.find_new]
    by_cases hi : i = id
    · simp [hi]
    · rw [if_neg (by omega), if_neg hi]; exact ih

/-- A PURE FUNCTION: of arguments that are data it returns v, and memory of its own, whatever else there is. -/
def PureOk (P : Program) (f : FuncId) (args : List V) (v : V) (news : Heap) (n0 : Nat) : Prop :=
  ∀ w0 F, CallOk P f args [(0, .fr w0 F)] 1 fun v' h' n' => v' = v ∧ n' = n0 ∧ ∀ id, 0 < id → Heap.find h' id = Heap.find news id

theorem PureOk.frame {P : Program} {f : FuncId} {args : List V} {v : V} {news : Heap} {n0 : Nat} {h : Heap} {n : Nat} (hp : PureOk P f (args.map V.strip) v news n0) (hc : ∀ a ∈ args, a.strip.closed = true) (hz : Heap.find news 0 = .dead) :
    CallOk P f args h n fun v' h' n' => v' = v.ren (· + n) ∧ h' = Heap.shift n news ++ h ∧ n' = n + n0 := by
  intro w M xs ha hs cs
  -- the callee's memory: what the caller holds is the frame
  have hM0 : ∀ id p, (fun id => if id = 0 then some (Plc.fr (foot M)) else none : Mem) id = some p → id = 0 ∧ p = .fr (foot M) := by
    intro id p hid
    by_cases h0 : id = 0
    · subst h0; simp at hid; exact ⟨rfl, hid.symm⟩
    · simp [h0] at hid
  have hfoot0 : ∀ b o, foot (fun id => if id = 0 then some (Plc.fr (foot M)) else none) b o ↔ foot M b o := by
    intro b o
    constructor
    · rintro ⟨id, p, hid, hf⟩; obtain ⟨_, rfl⟩ := hM0 id p hid; exact hf
    · intro hf; exact ⟨0, .fr (foot M), by simp, hf⟩
  have hs0 : Sim w (fun id => if id = 0 then some (Plc.fr (foot M)) else none) [(0, .fr w (foot M))] 1 := by
    refine Sim.of_obj (fun id p hid => by have := (hM0 id p hid).1; omega) (fun id p b o hid hf => ?_) (fun i j p q b o hi hj _ _ => by rw [(hM0 i p hi).1, (hM0 j q hj).1]) (fun id hid => ?_)
    · obtain ⟨_, rfl⟩ := hM0 id p hid
      obtain ⟨id', p', h1, h2⟩ := hf
      exact hs.inb id' p' b o h1 h2
    · have : id = 0 := by
        rw [Heap.find_new] at hid
        by_cases h0 : 0 = id
        · exact h0.symm
        · simp [h0, Heap.find] at hid
      subst this
      exact ⟨.fr (foot M), by simp, rfl, ⟨fun _ _ _ => ⟨rfl, rfl⟩, fun _ _ => rfl⟩⟩
  have hargs : ArgsRep w (fun id => if id = 0 then some (Plc.fr (foot M)) else none) 1 (args.map V.strip) xs := by
    refine ⟨by simpa using ha.1, fun i u hu => ?_⟩
    rw [List.getElem?_map, Option.map_eq_some_iff] at hu
    obtain ⟨a, hai, rfl⟩ := hu
    exact ((ha.2 i a hai).strip).closed (hc a (List.mem_of_getElem? hai)) (fun b o hn hf => hn ((hfoot0 b o).1 hf)) 1
  obtain ⟨v', h', n', x, w', M0', fr, ⟨rfl, rfl, hnews⟩, hrep, hsim, htr, hold, hsteps, hleave⟩ := hp w (foot M) w _ xs hargs hs0 cs
  obtain ⟨hpin1, hpin2⟩ := hold.pin 0 Nat.one_pos rfl
  have hfr0 : Heap.find h' 0 = .fr w (foot M) := hpin1
  have hM0' : M0' 0 = some (.fr (foot M)) := by rw [hpin2]; simp
  obtain ⟨_, hfrok⟩ := hsim.fr 0 w (foot M) hfr0
  have hdead : ∀ id, n ≤ id → h.find id = .dead := fun id hid => by
    cases hf : h.find id with
    | dead => rfl
    | _ =>
      obtain ⟨p, hp', _⟩ := hs.obj id (by rw [hf]; simp)
      have := hs.lt id p hp'
      omega
  -- the caller's memory behind the call
  let M2 : Mem := fun j => if j < n then M j else if j = n then none else M0' (j - n)
  have e1 : ∀ j, j < n → M2 j = M j := fun j hj => by simp [M2, hj]
  have e2 : ∀ j, 0 < j → M2 (j + n) = M0' j := fun j hj => by
    have h1 : ¬ (j + n < n) := by omega
    have h2 : ¬ (j + n = n) := by omega
    show (if j + n < n then M (j + n) else if j + n = n then none else M0' (j + n - n)) = M0' j
    rw [if_neg h1, if_neg h2, Nat.add_sub_cancel]
  have e3 : M2 n = none := by simp [M2]
  have cases2 : ∀ j p, M2 j = some p → (j < n ∧ M j = some p) ∨ ∃ i, 0 < i ∧ j = i + n ∧ M0' i = some p := by
    intro j p hj
    by_cases h1 : j < n
    · rw [e1 j h1] at hj; exact .inl ⟨h1, hj⟩
    · by_cases h2 : j = n
      · subst h2; rw [e3] at hj; cases hj
      · refine .inr ⟨j - n, by omega, by omega, ?_⟩
        rw [← e2 (j - n) (by omega), show j - n + n = j by omega]; exact hj
  have foot2 : ∀ b o, foot M2 b o → foot M0' b o := by
    rintro b o ⟨j, p, hj, hf⟩
    rcases cases2 j p hj with ⟨h1, h2⟩ | ⟨i, h1, rfl, h2⟩
    · exact ⟨0, _, hM0', ⟨j, p, h2, hf⟩⟩
    · exact ⟨i, p, h2, hf⟩
  have htr2 : Tr M w M2 w' := by
    refine ⟨⟨htr.ext.os, htr.ext.tape, htr.ext.output, htr.ext.size, fun b o hb hf => htr.ext.cell b o hb fun hf' => hf ((hfoot0 b o).1 hf'), fun b hb hf => htr.ext.blk b hb fun o hf' => hf o ((hfoot0 b o).1 hf')⟩, fun b o hf => ?_⟩
    rcases htr.fresh b o (foot2 b o hf) with h1 | h1
    · exact .inl ((hfoot0 b o).1 h1)
    · exact .inr h1
  have hold2 : Old M h n M2 (Heap.shift n news ++ h) (n + n') :=
    ⟨Nat.le_add_right _ _, fun id p hid hp' => by rw [← e1 id hid]; exact hp', fun id this hid => by
      exact ⟨find_shift_lt this _ _, e1 id this⟩⟩
  have ren2 : ∀ {u y}, Rep w' M0' n' u y → Rep w' M2 (n + n') (u.ren (· + n)) y := fun hr => hr.ren (· + n) (fun b o hn hf => hn (foot2 b o hf)) fun id hid => ⟨by show id + n < n + n'; omega, fun p hp' => by
    rcases cases2 _ p hp' with ⟨h1, _⟩ | ⟨i, h1, h2, h3⟩
    · exact absurd h1 (by show ¬ (id + n < n); omega)
    · have : i = id := by have h2 : id + n = i + n := h2; omega
      rw [← this]; exact h3⟩
  have hsim2 : Sim w' M2 (Heap.shift n news ++ h) (n + n') := by
    refine Sim.of_obj ?_ ?_ ?_ ?_
    · intro j p hj
      rcases cases2 j p hj with ⟨h1, h2⟩ | ⟨i, h1, rfl, h2⟩
      · omega
      · have := hsim.lt i p h2; omega
    · intro j p b o hj hf
      rcases cases2 j p hj with ⟨h1, h2⟩ | ⟨i, h1, rfl, h2⟩
      · exact Nat.lt_of_lt_of_le (hs.inb j p b o h2 hf) htr.ext.size
      · exact hsim.inb i p b o h2 hf
    · intro i j p q b o hi hj hfi hfj
      rcases cases2 i p hi with ⟨h1, h2⟩ | ⟨i', h1, rfl, h2⟩ <;> rcases cases2 j q hj with ⟨h3, h4⟩ | ⟨j', h3, rfl, h4⟩
      · exact hs.disj i j p q b o h2 h4 hfi hfj
      · have := hsim.disj 0 j' _ q b o hM0' h4 ⟨i, p, h2, hfi⟩ hfj; omega
      · have := hsim.disj i' 0 p _ b o h2 hM0' hfi ⟨j, q, h4, hfj⟩; omega
      · have := hsim.disj i' j' p q b o h2 h4 hfi hfj; omega
    · intro j hj
      by_cases h1 : j < n
      · rw [find_shift_lt h1] at hj ⊢
        obtain ⟨p, hp', hok⟩ := hs.obj j hj
        have hF : ∀ b o, p.foot b o → foot M b o := fun b o hf => ⟨j, p, hp', hf⟩
        exact ⟨p, by rw [e1 j h1]; exact hp', hok.tr htr2 (fun id q hid hq => by rw [← e1 id hid]; exact hq) (fun id D _ hD => by rw [e1 id (hs.lt id _ hD)]; exact hD) (Nat.le_add_right _ _) (fun b o hf => hfrok.cell b o (hF b o hf)) (fun b hb => hfrok.blk b fun o => hF b o (hb o))⟩
      · obtain ⟨i, rfl⟩ : ∃ i, j = i + n := ⟨j - n, by omega⟩
        rw [find_shift_ge _ _ (hdead _ (by omega))] at hj ⊢
        have hi0 : 0 < i := by
          rcases Nat.eq_zero_or_pos i with rfl | h
          · rw [hz] at hj; exact absurd rfl hj
          · exact h
        rw [← hnews i hi0] at hj ⊢
        have hnf : ∀ w1 F1, Heap.find h' i ≠ .fr w1 F1 := fun w1 F1 hf => by rw [hf] at hj; exact hj rfl
        have hnd : Heap.find h' i ≠ .dead := fun hf => by rw [hf] at hj; exact hj rfl
        obtain ⟨p, hp', hok⟩ := hsim.obj i hnd
        refine ⟨p, by rw [e2 i hi0]; exact hp', ?_⟩
        have hren : (Heap.find h' i).ren n = (Heap.find h' i).renf (· + n) := by
          cases hf : Heap.find h' i <;> first | rfl | exact absurd hf (hnf _ _)
        rw [hren]
        refine hok.renf (· + n) (fun v x hr => ren2 hr) fun id D _ hDk hD => ?_
        have hid0 : 0 < id := by
          rcases Nat.eq_zero_or_pos id with rfl | h
          · rw [hM0'] at hD; cases hD; obtain ⟨b, h | h⟩ := hDk <;> cases h
          · exact h
        rw [e2 id hid0]; exact hD
  exact ⟨_, _, _, x, w', M2, fr, ⟨rfl, rfl, rfl⟩, ren2 hrep, hsim2, htr2, hold2, hsteps, hleave⟩

end Go.Qx
