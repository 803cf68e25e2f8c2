import Derived.Test.YtomdgahghdmhbaaGreatDoorQxOpD
namespace Go.Qx
open Go
set_option linter.unusedVariables false

def boundV (st : St) (d : Nat) : Option Operand → Option Nat
  | none => some d
  | some x => match st.opd x with
    | .raw (.int _ j) => bif decide (0 ≤ j) then some j.toNat else none
    | _ => none

theorem boundV_spec {st : St} {tm : Array Value} {df : List Deferred} {w : World} {M : Mem} (hs : StRel st tm df w M) {d l : Nat} {x : Operand} (h : boundV st d (some x) = some l) :
    ∃ k, tev tm x = .int k (l : Int) := by
  simp only [boundV] at h
  split at h
  · rename_i k j hx
    have h2 := hs.opd' x
    rw [hx] at h2
    have h2 := h2.raw_inv
    simp only [cond_eq_ite] at h
    split at h
    · rename_i hj
      have hj : 0 ≤ j := by simpa using hj
      simp only [Option.some.injEq] at h
      exact ⟨k, by rw [h2]; congr 1; omega⟩
    · simp at h
  · simp at h

theorem run_bounds {P : Program} {w : World} {len cap l h : Nat} {lo hi : Option Value} (hlo : (lo = none ∧ l = 0) ∨ ∃ k, lo = some (.int k (l : Int))) (hhi : (hi = none ∧ h = len) ∨ ∃ k, hi = some (.int k (h : Int)))
    (h1 : l ≤ h) (h2 : h ≤ cap) : (Instr.sliceBounds true len cap lo hi none).run P w = .ok (l, h, cap) w := by


  rcases hlo with ⟨rfl, rfl⟩ | ⟨k, rfl⟩ <;> rcases hhi with ⟨rfl, rfl⟩ | ⟨k', rfl⟩ <;>
    simp [Instr.sliceBounds, Instr.sliceBound, asIntOf, h1, h2]

/-- A part of a slice's flat cells. -/
theorem flat_part {es : List V} {k l h : Nat} (hk : ∀ e ∈ es, e.cells.length = k) (hl : l ≤ h) (hh : h ≤ es.length) (i : Nat) (v : V)
    (hv : (((es.take h).drop l).flatMap V.cells)[i]? = some v) : (es.flatMap V.cells)[l * k + i]? = some v := by
  have h1 : es = es.take l ++ ((es.take h).drop l ++ es.drop h) := by
    have e1 : (es.take h).take l = es.take l := by rw [List.take_take, Nat.min_eq_left hl]
    have e2 : es.take l ++ (es.take h).drop l = es.take h := by rw [← e1, List.take_append_drop]
    rw [← List.append_assoc, e2, List.take_append_drop]
  rw [h1, List.flatMap_append, List.flatMap_append]
  have hlen : ((es.take l).flatMap V.cells).length = l * k := by
    rw [flat_len fun e he => hk e (List.mem_of_mem_take he)]; congr 1; simp; omega
  rw [List.getElem?_append_right (by omega), hlen, show l * k + i - l * k = i by omega]
  rw [List.getElem?_append_left]
  · exact hv
  · rcases Nat.lt_or_ge i (((es.take h).drop l).flatMap V.cells).length with h' | h'
    · exact h'
    · simp [List.getElem?_eq_none h'] at hv

/-- `x[lo:hi]`; the room behind goes along where hi is the slice's end. -/
theorem OpS.slice {P : Program} {o : Oper} {st : St} {t el : TypeId} {x : Operand} {lo hi : Option Operand} {es : List V} {nn : Bool} {tok tok' : Option Nat} {l h : Nat} {i : TypeInfo} (ho : o.op = .slice t x lo hi none)
    (hu : P.underlying t = some (.slice el)) (hi' : P.info? el = some i) (hx : st.opd x = .sl es nn tok) (hl : boundV st 0 lo = some l) (hh : boundV st es.length hi = some h)
    (h1 : l ≤ h) (h2 : h ≤ es.length) (hsz : ∀ e, es.head? = some e → e.cells.length = i.size) (htok : tok' = none ∨ (tok' = tok ∧ h = es.length ∧ (es ≠ [] ∨ l = 0))) : OpS P o st (.sl ((es.take h).drop l) nn tok') := by
  refine ⟨by intro c hc; simp [ho] at hc, fun tm df w M hs => ?_⟩
  have hb1 : (lo.map (tev tm) = none ∧ l = 0) ∨ ∃ k, lo.map (tev tm) = some (.int k (l : Int)) := by
    cases lo with
    | none => simp [boundV] at hl; exact .inl ⟨rfl, hl.symm⟩
    | some a => obtain ⟨k, hk⟩ := boundV_spec hs hl; exact .inr ⟨k, by simp [hk]⟩
  have hb2 : (hi.map (tev tm) = none ∧ h = es.length) ∨ ∃ k, hi.map (tev tm) = some (.int k (h : Int)) := by
    cases hi with
    | none => simp [boundV] at hh; exact .inl ⟨rfl, hh.symm⟩
    | some a => obtain ⟨k, hk⟩ := boundV_spec hs hh; exact .inr ⟨k, by simp [hk]⟩
  have h0 := hs.opd' x
  rw [hx] at h0
  generalize hq : tev tm x = q at h0
  cases h0 with
  | slNil ht =>
    have hh0 : h = 0 := by simpa using h2
    subst hh0
    have hl0 : l = 0 := by omega
    subst hl0
    have hr : ∀ w2, (Instr.sliceBounds true 0 0 (lo.map (tev tm)) (hi.map (tev tm)) none).run P w2 = .ok (0, 0, 0) w2 := fun w2 => run_bounds (len := 0) (cap := 0) hb1 hb2 (Nat.le_refl _) (Nat.le_refl _)
    refine ⟨.slice none 0 0, fun w2 => ?_, ?_⟩
    · simp only [execOp, ho, hq]
      simp [Instr.sliceAt, Instr.slice, run_underlying hu, hr, sizeOf, typeInfo, hi']
    · rcases htok with rfl | ⟨rfl, _, _⟩
      · exact .slNil fun t ht => by cases ht
      · exact .slNil ht
  | slE a =>
    have hh0 : h = 0 := by simpa using h2
    subst hh0
    have hl0 : l = 0 := by omega
    subst hl0
    have hr : ∀ w2, (Instr.sliceBounds true 0 0 (lo.map (tev tm)) (hi.map (tev tm)) none).run P w2 = .ok (0, 0, 0) w2 := fun w2 => run_bounds (len := 0) (cap := 0) hb1 hb2 (Nat.le_refl _) (Nat.le_refl _)
    have htn : tok' = none := by rcases htok with rfl | ⟨rfl, _, _⟩ <;> rfl
    subst htn
    refine ⟨.slice (some a) 0 0, fun w2 => ?_, .slE a⟩
    simp only [execOp, ho, hq]
    simp [Instr.sliceAt, Instr.slice, run_underlying hu, hr, sizeOf, typeInfo, hi', Addr.add]
  | @sl _ _ _ _ b oo cap k y hlen hk hc hone hrr ht =>
    have hr := fun w2 => run_bounds (P := P) (w := w2) (len := es.length) (cap := cap) hb1 hb2 h1 (Nat.le_trans h2 hlen)
    have hks : es ≠ [] → i.size = k := by
      intro hne
      cases es with
      | nil => exact absurd rfl hne
      | cons e r => rw [← hsz e rfl]; exact hk e (List.mem_cons_self ..)
    have hlen' : ((es.take h).drop l).length = h - l := by simp; omega
    have hin : ∀ m, m < (h - l) * k → l * k + m < es.length * k := fun m hm => by
      have : h * k ≤ es.length * k := Nat.mul_le_mul_right k h2
      rw [Nat.sub_mul] at hm
      have : l * k ≤ h * k := Nat.mul_le_mul_right k h1
      omega
    -- where the slice's end is the capacity, and the low bound is the end, Go keeps the address
    have key : ∀ oo', (es ≠ [] → oo' = oo + l * k ∨ l = es.length) → (tok' = tok → h = es.length → (oo' = oo + l * k ∨ cap = es.length)) →
        Rep w M st.n (.sl ((es.take h).drop l) nn tok') (.slice (some ⟨b, oo', none⟩) (h - l) (cap - l)) := by
      intro oo' ho1 ho2
      have hcell : ∀ m, m < (h - l) * k → (w.cell? ⟨b, oo' + m, none⟩ = some (y (l * k + m)) ∧ ¬ foot M b (oo' + m)) ∧ (y (l * k + m)).oneCell' = true := fun m hm => by
        have hlt : l < h := by
          rcases Nat.lt_or_ge l h with h' | h'
          · exact h'
          · rw [Nat.sub_eq_zero_of_le h'] at hm; simp at hm
        have hne : es ≠ [] := by rintro rfl; simp at h2; omega
        have : oo' = oo + l * k := by rcases ho1 hne with h' | h' <;> omega
        rw [this, Nat.add_assoc]
        exact ⟨hc _ (hin m hm), hone _ (hin m hm)⟩
      have := Rep.sl (w := w) (M := M) (n := st.n) (es := (es.take h).drop l) (nn := nn) (tok := tok') (b := b) (o := oo') (cap := cap - l) (k := k) (y := fun m => y (l * k + m))
        (by omega) (fun e he => hk e (List.mem_of_mem_take (List.mem_of_mem_drop he))) (fun m hm => (hcell m (by rwa [hlen'] at hm)).1) (fun m hm => (hcell m (by rwa [hlen'] at hm)).2)
        (fun m v hv => hrr _ v (flat_part hk h1 h2 m v hv)) (by
          intro t' htt
          rcases htok with hn | ⟨rfl, hhe, hne⟩
          · rw [hn] at htt; cases htt
          · obtain ⟨hlt, hp⟩ := ht t' htt
            refine ⟨hlt, fun b2 t2 e2 k2 hm => ?_⟩
            rw [hlen']
            subst hhe
            have hnil : (List.drop l (List.take es.length es)) = [] ∨ es ≠ [] := by
              cases es with
              | nil => left; simp
              | cons => right; simp
            rcases hp b2 t2 e2 k2 hm with ⟨p1, p2, p3⟩ | ⟨rfl, rfl, p3, p4⟩
            · exact .inl ⟨p1, by omega, by rcases p3 with h' | h'; exact .inl h'; exact .inr (by subst h'; simp)⟩
            · rcases ho2 rfl rfl with h' | h'
              · right
                refine ⟨rfl, rfl, ?_, ?_⟩
                · rw [p3, h', Nat.add_assoc, ← Nat.add_mul]; congr 2; omega
                · rw [p4, h', Nat.add_assoc, ← Nat.add_mul]; congr 2; omega
              · left
                exact ⟨by rw [p3, p4, h']; exact Nat.le_refl _, by omega, .inl rfl⟩)
      rw [hlen'] at this
      exact this
    by_cases hcl : cap = l
    · refine ⟨.slice (some ⟨b, oo, none⟩) (h - l) (cap - l), fun w2 => ?_, key oo (fun _ => .inr (by omega)) (fun _ _ => .inr (by omega))⟩
      simp only [execOp, ho, hq]
      subst hcl
      simp [Instr.sliceAt, Instr.slice, run_underlying hu, hr, sizeOf, typeInfo, hi']
    · refine ⟨.slice (some ⟨b, oo + l * i.size, none⟩) (h - l) (cap - l), fun w2 => ?_, key _ (fun hne => .inl (by rw [hks hne])) (fun hte hhe => ?_)⟩
      · simp only [execOp, ho, hq]
        simp [Instr.sliceAt, Instr.slice, run_underlying hu, hr, sizeOf, typeInfo, hi', hcl, add_at]
      · left
        rcases htok with hn | ⟨_, _, hne⟩
        · by_cases hes : es = []
          · subst hes
            have : l = 0 := by simp at h2; omega
            subst this; simp
          · rw [hks hes]
        · rcases hne with hne | rfl
          · rw [hks hne]
          · simp

theorem OpS.len {P : Program} {o : Oper} {st : St} {t el : TypeId} {ats : Array TypeId} {x : Operand} {es : List V} {nn : Bool} {tok : Option Nat} (ho : o.op = .call { callee := .builtin .len, args := #[x], argTypes := ats })
    (ht : ats[0]? = some t) (hu : P.underlying t = some (.slice el)) (hx : st.opd x = .sl es nn tok) : OpS P o st (.raw (.int .i64 (es.length : Int))) := by
  refine ⟨by intro c hc; simp [ho] at hc, fun tm df w M hs => ⟨.int .i64 (es.length : Int), fun w2 => ?_, .raw _⟩⟩
  have h0 := hs.opd' x
  rw [hx] at h0
  generalize hq : tev tm x = q at h0
  cases h0 with
  | slNil => simp only [execOp, ho]; simp [resolve, invoke, builtin, Builtin.len_, ht, hq, run_underlying hu, goInt]
  | slE a => simp only [execOp, ho]; simp [resolve, invoke, builtin, Builtin.len_, ht, hq, run_underlying hu, goInt]
  | sl => simp only [execOp, ho]; simp [resolve, invoke, builtin, Builtin.len_, ht, hq, run_underlying hu, goInt]

theorem OpS.extract {P : Program} {o : Oper} {st : St} {x : Operand} {vs : List V} {i : Nat} {v : V} (ho : o.op = .extract x i) (hx : st.opd x = .tup vs) (hv : vs[i]? = some v) :
    OpS P o st v := by
  refine ⟨by intro c hc; simp [ho] at hc, fun tm df w M hs => ?_⟩
  have h0 := hs.opd' x
  rw [hx] at h0
  generalize hq : tev tm x = q at h0
  cases h0 with
  | @tup _ _ ys hsz hr =>
    have hi : i < ys.size := by
      rw [hsz]
      rcases Nat.lt_or_ge i vs.length with h | h
      · exact h
      · simp [List.getElem?_eq_none h] at hv
    have := hr i v hv
    refine ⟨ys.getD i undef, fun w2 => ?_, this⟩
    simp only [execOp, ho, hq]
    simp [Instr.extract, hi]

theorem OpS.makeFunc {P : Program} {o : Oper} {st : St} {f : Fn} {as bs : Array Operand} (ho : o.op = .makeFunc f as bs) :
    OpS P o st (.fn f (as.toList.map st.opd) (bs.toList.map st.opd)) := by
  refine ⟨by intro c hc; simp [ho] at hc, fun tm df w M hs => ⟨.func f (as.map (tev tm)) (bs.map (tev tm)), fun w2 => ?_, .fn (by simp) (by simp) (fun i v hv => ?_) (fun i v hv => ?_)⟩⟩
  · simp only [execOp, ho]; simp [Instr.makeFunc]
  · simp only [List.getElem?_map, Array.getElem?_toList, Option.map_eq_some_iff] at hv
    obtain ⟨x, hx, rfl⟩ := hv
    simpa [Array.getD_eq_getD_getElem?, hx] using hs.opd' x
  · simp only [List.getElem?_map, Array.getElem?_toList, Option.map_eq_some_iff] at hv
    obtain ⟨x, hx, rfl⟩ := hv
    simpa [Array.getD_eq_getD_getElem?, hx] using hs.opd' x

def isPlace : V → Bool
  | .ptr .. | .ref _ => true
  | _ => false

theorem OpS.nilCheck {P : Program} {o : Oper} {st : St} {x : Operand} (ho : o.op = .nilCheck x) (hx : isPlace (st.opd x) = true) : OpS P o st (st.opd x) := by
  refine ⟨by intro c hc; simp [ho] at hc, fun tm df w M hs => ⟨tev tm x, fun w2 => ?_, hs.opd' x⟩⟩
  have h0 := hs.opd' x
  generalize hv : st.opd x = v at h0 hx
  generalize hq : tev tm x = q at h0
  cases h0 <;> first
    | (simp [isPlace] at hx; done)
    | ((simp only [execOp, ho, hq]; rfl))

theorem run_equalIn_ptr {P : Program} (d : Nat) {t e : TypeId} (a : Addr) (w : World) (h : P.underlying t = some (.pointer e)) :
    (Op.equalIn (d + 1) t (.pointer (some a)) (.pointer none)).run P w = .ok false w := by
  simp [Op.equalIn, run_underlying h]

theorem run_equal_ptr {P : Program} {t e : TypeId} (a : Addr) (w : World) (h : P.underlying t = some (.pointer e)) :
    (Op.equal t (.pointer (some a)) (.pointer none)).run P w = .ok false w := run_equalIn_ptr 9999 a w h

theorem run_equalIn_slice {P : Program} (d : Nat) {t e : TypeId} (a : Option Addr) (n c : Nat) (w : World) (h : P.underlying t = some (.slice e)) :
    (Op.equalIn (d + 1) t (.slice a n c) (.slice none 0 0)).run P w = .ok a.isNone w := by
  cases a <;> simp [Op.equalIn, run_underlying h]

theorem run_equal_slice {P : Program} {t e : TypeId} (a : Option Addr) (n c : Nat) (w : World) (h : P.underlying t = some (.slice e)) :
    (Op.equal t (.slice a n c) (.slice none 0 0)).run P w = .ok a.isNone w := run_equalIn_slice 9999 a n c w h

theorem isPlace_inv {w : World} {M : Mem} {n : Nat} {v : V} {x : Value} (h : Rep w M n v x) (hv : isPlace v = true) : ∃ a, x = .pointer (some a) := by
  cases h <;> first
    | exact ⟨_, rfl⟩
    | simp [isPlace] at hv

/-- `x == nil`, `x != nil`, of an address that is none. -/
theorem OpS.eqNilPtr {P : Program} {o : Oper} {st : St} {op : BinOp} {t u e : TypeId} {x y : Operand} (ho : o.op = .binOp op t x y u) (hop : op = .eql ∨ op = .neq)
    (hx : isPlace (st.opd x) = true) (hy : st.opd y = .raw (.pointer none)) (ht : P.underlying t = some (.pointer e)) : OpS P o st (.raw (.bool (op == .neq))) := by
  refine ⟨by intro c hc; simp [ho] at hc, fun tm df w M hs => ⟨.bool (op == .neq), fun w2 => ?_, .raw _⟩⟩
  obtain ⟨a, ha⟩ := isPlace_inv (hs.opd' x) hx
  have h1 := hs.opd' y
  rw [hy] at h1
  have h1 := h1.raw_inv
  have hr := run_equal_ptr a w2 ht
  rcases hop with rfl | rfl <;> simp only [execOp, ho, ha, h1] <;> simp [eqGuard, binOp, hr]

/-- `x == nil`, of a slice: either way where it has no elements. -/
theorem eqNil_run {P : Program} {o : Oper} {st : St} {op : BinOp} {t u e : TypeId} {x y : Operand} {es : List V} {nn : Bool} {tok : Option Nat} (ho : o.op = .binOp op t x y u) (hop : op = .eql ∨ op = .neq)
    (hx : st.opd x = .sl es nn tok) (hy : st.opd y = .raw (.slice none 0 0)) (ht : P.underlying t = some (.slice e)) {tm : Array Value} {df : List Deferred} {w : World} {M : Mem}
    (hs : StRel st tm df w M) : ∃ isn : Bool, (isn = true → es = [] ∧ nn = false) ∧ (execOp (tev tm) o).run P w = .ok (.value (.bool (if op = .eql then isn else !isn))) w := by
  have h0 := hs.opd' x
  rw [hx] at h0
  have h1 := hs.opd' y
  rw [hy] at h1
  have h1 := h1.raw_inv
  generalize hq : tev tm x = q at h0
  cases h0 with
  | slNil =>
    have hr := run_equal_slice none 0 0 w ht
    refine ⟨true, fun _ => ⟨rfl, rfl⟩, ?_⟩
    rcases hop with rfl | rfl <;> simp only [execOp, ho, hq, h1] <;> simp [eqGuard, binOp, hr]
  | slE a =>
    have hr := run_equal_slice (some a) 0 0 w ht
    refine ⟨false, (fun h => by cases h), ?_⟩
    rcases hop with rfl | rfl <;> simp only [execOp, ho, hq, h1] <;> simp [eqGuard, binOp, hr]
  | @sl _ _ _ _ b oo cap =>
    have hr := run_equal_slice (some ⟨b, oo, none⟩) es.length cap w ht
    refine ⟨false, (fun h => by cases h), ?_⟩
    rcases hop with rfl | rfl <;> simp only [execOp, ho, hq, h1] <;> simp [eqGuard, binOp, hr]

theorem OpOk.eqNilSl {P : Program} {o : Oper} {st : St} {op : BinOp} {t u e : TypeId} {x y : Operand} {es : List V} {nn : Bool} {tok : Option Nat} (ho : o.op = .binOp op t x y u) (hop : op = .eql ∨ op = .neq)
    (hx : st.opd x = .sl es nn tok) (hy : st.opd y = .raw (.slice none 0 0)) (ht : P.underlying t = some (.slice e)) (hne : es ≠ [] ∨ nn = true) : OpOk P o st (st.put o.dst (.raw (.bool (op == .neq)))) := by
  refine OpOk.quiet (by intro c hc; simp [ho] at hc) fun tm df w M hs => ?_
  obtain ⟨isn, hi, hr⟩ := eqNil_run ho hop hx hy ht hs
  have : isn = false := by
    cases isn with
    | false => rfl
    | true => obtain ⟨h1, h2⟩ := hi rfl; rcases hne with h | h; exact absurd h1 h; rw [h2] at h; cases h
  subst this
  refine ⟨_, hr, ?_⟩
  rcases hop with rfl | rfl <;> exact .raw _

end Go.Qx
