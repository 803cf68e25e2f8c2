import Derived.Test.YtomdgahghdmhbaaGreatDoorQxOpC
namespace Go.Qx
open Go
set_option linter.unusedVariables false

/-! ### Reading. -/
def headV : List V → Option V
  | c :: _ => some c
  | [] => none

def aggV (P : Program) (t : TypeId) (cs : List V) : Option V :=
  match P.info? t with
  | some i => bif decide (i.size ≤ cs.length) then some (.agg (cs.take i.size)) else none
  | none => none

def readV (P : Program) (t : TypeId) (cs : List V) : Option V :=
  match P.underlying t with
  | none => none
  | some (.struct _) | some (.array _ _) => aggV P t cs
  | some _ => headV cs

theorem run_read {P : Program} {w : World} {M : Mem} {n : Nat} {t : TypeId} {cs : List V} {v : V} {b o : Nat} {y : Nat → Value} (hc : ∀ i, i < cs.length → w.cell? ⟨b, o + i, none⟩ = some (y i))
    (ho : ∀ i, i < cs.length → (y i).oneCell' = true) (hr : ∀ i u, cs[i]? = some u → Rep w M n u (y i)) (h : readV P t cs = some v) :
    ∃ x, (Instr.loadAt t (.pointer (some ⟨b, o, none⟩))).run P w = .ok x w ∧ Rep w M n v x := by
  have agg : ∀ (d : TypeDesc), P.underlying t = some d → (isAgg t).run P w = .ok (match d with | .struct _ | .array _ _ => true | _ => false) w := by
    intro d hd
    simp only [isAgg, Sem.run_bind, run_underlying hd, Result.andThen_ok]
    cases d <;> rfl
  have isg : ∀ (d : TypeDesc), P.underlying t = some d → (match d with | .struct _ | .array _ _ => true | _ => false) = true →
      aggV P t cs = some v →
      ∃ x, (Instr.loadAt t (.pointer (some ⟨b, o, none⟩))).run P w = .ok x w ∧ Rep w M n v x := by
    intro d hd hg h
    unfold aggV at h
    cases hi : P.info? t with
    | none => rw [hi] at h; simp at h
    | some i =>
      rw [hi] at h
      simp only [cond_eq_ite] at h
      split at h
      · rename_i hle
        have hle : i.size ≤ cs.length := by simpa using hle
        simp only [Option.some.injEq] at h; subst h
        have ag := agg d hd
        rw [hg] at ag
        have hl := run_loadCells (P := P) w ⟨b, o, none⟩ i.size y (fun j hj => by rw [add_at]; exact hc j (by omega))
        refine ⟨.agg ((List.range i.size).map y).toArray, ?_, .agg (by simp; omega) (fun j hj => ?_) (fun j u hu => ?_)⟩
        · simp only [Instr.loadAt, Instr.sureAddr, loadVar, Sem.run_bind, Sem.run_pure, Result.andThen_ok, ag, if_true, sizeOf, typeInfo, run_program, hi, hl]
        · have hj' : j < i.size := by simp at hj; omega
          simpa [Array.getD_eq_getD_getElem?, hj'] using ho j (by omega)
        · rw [List.getElem?_take] at hu
          split at hu
          · rename_i hj'
            simpa [Array.getD_eq_getD_getElem?, hj'] using hr j u hu
          · simp at hu
      · simp at h
  have notg : ∀ (d : TypeDesc), P.underlying t = some d → (match d with | .struct _ | .array _ _ => true | _ => false) = false →
      headV cs = some v →
      ∃ x, (Instr.loadAt t (.pointer (some ⟨b, o, none⟩))).run P w = .ok x w ∧ Rep w M n v x := by
    intro d hd hg h
    have ag := agg d hd
    rw [hg] at ag
    cases cs with
    | nil => simp [headV] at h
    | cons c r =>
      simp only [headV, Option.some.injEq] at h; subst h
      have h0 := hc 0 (by simp)
      refine ⟨y 0, ?_, hr 0 _ (by simp)⟩
      simp only [Nat.add_zero] at h0
      simp [Instr.loadAt, Instr.sureAddr, loadVar, ag, h0]
  unfold readV at h
  cases hd : P.underlying t with
  | none => rw [hd] at h; simp at h
  | some d =>
    rw [hd] at h
    cases d <;> first
      | exact isg _ hd rfl h
      | exact notg _ hd rfl h

theorem OpQ.load {P : Program} {o : Oper} {st : St} {t : TypeId} {x : Operand} {v : V} (h : o.op = .load t x)
    (hv : (∃ id off cs, st.opd x = .ptr id off ∧ st.h.find id = .box cs ∧ readV P t (cs.drop off) = some v) ∨
      (∃ cs, st.opd x = .ref cs ∧ readV P t cs = some v)) : OpQ P o st v := by
  refine ⟨by intro c hc; simp [h] at hc, fun tm df w M hs => ?_⟩
  have hx := hs.opd' x
  rcases hv with ⟨id, off, cs, h1, h2, h3⟩ | ⟨cs, h1, h3⟩
  · rw [h1] at hx
    generalize hq : tev tm x = q at hx
    cases hx with
    | @ptr _ _ _ b hid hb =>
      obtain ⟨b', ys, el, fz, hm, hh, hsz, hfr, ho, hr⟩ := hs.sim.box id cs h2
      obtain rfl := hb b' hm
      obtain ⟨v', hv', hr'⟩ := run_read (P := P) (t := t) (cs := cs.drop off) (b := b') (o := off) (y := fun i => ys.getD (off + i) undef) (w := w) (M := M) (n := st.n)
        (fun i hi => by
          have hi' : off + i < ys.size := by rw [hsz]; simp at hi; omega
          simp [World.cell?, hh, Array.getD_eq_getD_getElem?, hi'])
        (fun i hi => ho _ (by simp at hi; omega))
        (fun i u hu => hr _ u (by rw [List.getElem?_drop] at hu; exact hu)) h3
      exact ⟨v', by simp only [execOp, h, hq]; simp [hv'], hr'⟩
  · rw [h1] at hx
    generalize hq : tev tm x = q at hx
    cases hx with
    | @ref _ _ b oo y hc ho hr =>
      obtain ⟨v', hv', hr'⟩ := run_read (P := P) (t := t) (w := w) (M := M) (n := st.n) (fun i hi => (hc i hi).1) ho (fun i u hu => (hr i u hu).up (Nat.zero_le _)) h3
      exact ⟨v', by simp only [execOp, h, hq]; simp [hv'], hr'⟩

/-! ### Writing. -/
def writeV (cs : List V) (off : Nat) (vs : List V) : Option (List V) :=
  bif decide (off + vs.length ≤ cs.length) then some (cs.take off ++ vs ++ cs.drop (off + vs.length)) else none

theorem getElem?_write {cs vs : List V} {off : Nat} (h : off + vs.length ≤ cs.length) (i : Nat) :
    (cs.take off ++ vs ++ cs.drop (off + vs.length))[i]? = if off ≤ i ∧ i < off + vs.length then vs[i - off]? else cs[i]? := by
  have ht : (cs.take off).length = off := by simp; omega
  by_cases h1 : i < off
  · rw [if_neg (by omega), List.append_assoc, List.getElem?_append_left (by omega), List.getElem?_take, if_pos h1]
  · by_cases h2 : i < off + vs.length
    · rw [if_pos (by omega), List.append_assoc, List.getElem?_append_right (by omega), ht, List.getElem?_append_left (by omega)]
    · rw [if_neg (by omega), List.getElem?_append_right (by simp; omega), List.getElem?_drop]
      congr 1
      simp; omega

theorem OpOk.store {P : Program} {o : Oper} {st : St} {t : TypeId} {x a : Operand} {id off : Nat} {cs vs cs' : List V} (h : o.op = .store t a x)
    (ha : st.opd a = .ptr id off) (hf : st.h.find id = .box cs) (hx : stor (st.opd x) = some vs) (ht : (P.info? t).map (·.size) = some vs.length) (hw : writeV cs off vs = some cs') :
    OpOk P o st ((st.set id (.box cs')).put o.dst .any) := by
  refine OpOk.unit (by intro c hc; simp [h] at hc) fun tm df w M hs => ?_
  have hra := hs.opd' a
  rw [ha] at hra
  generalize hq : tev tm a = q at hra
  cases hra with
  | @ptr _ _ _ b hid hb =>
    obtain ⟨b', ys, el, fz, hm, hh, hsz, hfr, ho, hr⟩ := hs.sim.box id cs hf
    obtain rfl := hb b' hm
    obtain ⟨hxs, hxo, hxr⟩ := stor_rep (hs.opd' x) hx
    unfold writeV at hw
    simp only [cond_eq_ite] at hw
    split at hw
    · rename_i hle
      have hle : off + vs.length ≤ cs.length := by simpa using hle
      simp only [Option.some.injEq] at hw; subst hw
      obtain ⟨i, hi, his⟩ := Option.map_eq_some_iff.1 ht
      have hlen : (tev tm x).cells.toList.length = vs.length := by simpa using hxs
      have hrun := run_storeCells_cells (P := P) b' off (tev tm x).cells.toList 0 w
        (fun j hj => by
          have hj' : off + j < ys.size := by rw [hsz]; omega
          simp [World.cell?, hh, hj'])
        (fun j hj => hfr _)
        (fun v hv => by
          obtain ⟨j, hj, rfl⟩ := List.getElem_of_mem hv
          have := hxo j (by omega)
          have hj' : j < (tev tm x).cells.size := by simpa using hj
          simpa [Array.getD_eq_getD_getElem?, hj'] using this)
      obtain ⟨ys', h1, h2, h3⟩ := setCells_blk b' (tev tm x).cells.toList off w ys el fz hh (by rw [hlen, hsz]; exact hle)
      have hchg : Chg (.box b') w (w.setCells b' off (tev tm x).cells.toList) := setCells_chg fun j hj => rfl
      have hset := hs.set (o' := .box (cs.take off ++ vs ++ cs.drop (off + vs.length))) hm (by rw [hf]; simp) hchg (fun htr =>
        ⟨b', ys', el, fz, rfl, h1, by rw [h2, hsz]; simp; omega, fun o => (World.frozen?_setCells b' _ off w _).trans (hfr o), fun i hi => by
          rw [h3 i]
          split
          · rename_i hin
            rw [hlen] at hin
            have := hxo (i - off) (by omega)
            simpa [Array.getD_eq_getD_getElem?, List.getD_eq_getElem?_getD] using this
          · refine ho i ?_
            simp only [List.length_append, List.length_take, List.length_drop] at hi; omega, fun i v hv => by
          rw [getElem?_write hle] at hv
          rw [h3 i]
          rw [hlen]
          split at hv
          · rename_i hin
            rw [if_pos hin]
            have := (hxr (i - off) v hv).tr htr (fun _ _ _ h => h) (Nat.le_refl _)
            simpa [Array.getD_eq_getD_getElem?, List.getD_eq_getElem?_getD] using this
          · rename_i hin
            rw [if_neg hin]
            exact (hr i v hv).tr htr (fun _ _ _ h => h) (Nat.le_refl _)⟩)
      refine ⟨_, M, ?_, hset.1, hset.2, Old.set _ (by rw [hf]; rfl)⟩
      simp only [execOp, h, hq]
      simp only [Nat.add_zero] at hrun
      have : (tev tm x).cells.size = i.size := by rw [hxs, his]
      simp [Instr.storeAt, Instr.sureAddr, storeVar, sizeOf, typeInfo, hi, this, hrun]
    · simp at hw

theorem OpOk.box {P : Program} {o : Oper} {st : St} {t : TypeId} {x : Operand} {vs : List V} (h : o.op = .box t x) (hx : stor (st.opd x) = some vs) :
    OpOk P o st ((st.new (.box vs)).put o.dst (.ptr st.n 0)) := by
  refine OpOk.value (by intro c hc; simp [h] at hc) fun tm df w M hs => ?_
  obtain ⟨hxs, hxo, hxr⟩ := stor_rep (hs.opd' x) hx
  obtain ⟨M', hs', ht, hp, hold⟩ := hs.newBox (cs := vs) (ys := (tev tm x).cells) t hxs hxo hxr
  refine ⟨_, _, M', ?_, hs', ht, hp, hold⟩
  simp only [execOp, h]
  simp [Instr.box, newVar, newRow]

/-! ### Addresses. -/
theorem Rep.ref_drop {w : World} {M : Mem} {n : Nat} {cs : List V} {b o k : Nat} {y : Nat → Value} (hc : ∀ i, i < cs.length → w.cell? ⟨b, o + i, none⟩ = some (y i) ∧ ¬ foot M b (o + i))
    (ho : ∀ i, i < cs.length → (y i).oneCell' = true) (hr : ∀ i v, cs[i]? = some v → Rep w M 0 v (y i)) : Rep w M n (.ref (cs.drop k)) (.pointer (some ⟨b, o + k, none⟩)) :=
  .ref (y := fun i => y (k + i)) (fun i hi => by rw [Nat.add_assoc]; exact hc _ (by simp at hi; omega)) (fun i hi => ho _ (by simp at hi; omega)) (fun i v hv => hr _ v (by rw [List.getElem?_drop] at hv; exact hv))

def moved (v : V) (k : Nat) : Option V :=
  match v with
  | .ptr id off => some (.ptr id (off + k))
  | .ref cs => some (.ref (cs.drop k))
  | _ => none

theorem moved_rep {w : World} {M : Mem} {n : Nat} {v v' : V} {x : Value} {k : Nat} (h : Rep w M n v x) (hm : moved v k = some v') :
    ∃ b o, x = .pointer (some ⟨b, o, none⟩) ∧ Rep w M n v' (.pointer (some ⟨b, o + k, none⟩)) := by
  cases h with
  | @ptr _ id off b hid hb => simp only [moved, Option.some.injEq] at hm; subst hm; exact ⟨b, off, rfl, .ptr hid hb⟩
  | @ref _ cs b o y hc ho hr => simp only [moved, Option.some.injEq] at hm; subst hm; exact ⟨b, o, rfl, Rep.ref_drop hc ho hr⟩
  | _ => simp [moved] at hm

theorem OpS.fieldAddr {P : Program} {o : Oper} {st : St} {s : TypeId} {x : Operand} {f : Nat} {fs : Array Field} {fd : Field} {i : TypeInfo} {v : V} (h : o.op = .fieldAddr s x f)
    (hu : P.underlying s = some (.struct fs)) (hf : fs[f]? = some fd) (hi : P.info? fd.type = some i) (hz : i.size ≠ 0) (hv : moved (st.opd x) fd.offset = some v) :
    OpS P o st v := by
  refine ⟨by intro c hc; simp [h] at hc, fun tm df w M hs => ?_⟩
  obtain ⟨b, oo, hx, hr⟩ := moved_rep (hs.opd' x) hv
  refine ⟨_, fun w2 => ?_, hr⟩
  simp only [execOp, h, hx]
  simp [Instr.fieldAt, run_underlying hu, hf, Instr.sureAddr, fieldPlace, sizeOf, typeInfo, hi, hz, add_at]

theorem flat_get {es : List V} {k i j : Nat} {e v : V} (hk : ∀ e ∈ es, e.cells.length = k) (he : es[i]? = some e) (hv : e.cells[j]? = some v) :
    (es.flatMap V.cells)[i * k + j]? = some v := by
  induction es generalizing i with
  | nil => simp at he
  | cons a r ih =>
    have ha := hk a (List.mem_cons_self ..)
    cases i with
    | zero =>
      simp at he; subst he
      have hj : j < a.cells.length := by
        rcases Nat.lt_or_ge j a.cells.length with h | h
        · exact h
        · simp [List.getElem?_eq_none h] at hv
      simp only [List.flatMap_cons, Nat.zero_mul, Nat.zero_add]
      rw [List.getElem?_append_left hj]; exact hv
    | succ i =>
      simp only [List.getElem?_cons_succ] at he
      have := ih (fun e he => hk e (List.mem_cons_of_mem _ he)) he
      simp only [List.flatMap_cons]
      rw [List.getElem?_append_right (by rw [ha, Nat.succ_mul]; omega), ha, Nat.succ_mul, show i * k + k + j - k = i * k + j by omega]
      exact this

theorem flat_len {es : List V} {k : Nat} (hk : ∀ e ∈ es, e.cells.length = k) : (es.flatMap V.cells).length = es.length * k := by
  induction es with
  | nil => simp
  | cons a r ih =>
    simp only [List.flatMap_cons, List.length_append, List.length_cons, hk a (List.mem_cons_self ..), ih fun e he => hk e (List.mem_cons_of_mem _ he), Nat.succ_mul]
    omega

/-- `&x[i]`, x a slice whose elements are data. -/
theorem OpS.indexAddr {P : Program} {o : Oper} {st : St} {t el : TypeId} {x ix : Operand} {es : List V} {nn : Bool} {tok : Option Nat} {kd : IntKind} {j : Int} {e : V} {i : TypeInfo} (h : o.op = .indexAddr t x ix)
    (hu : P.underlying t = some (.slice el)) (hx : st.opd x = .sl es nn tok) (hix : st.opd ix = .raw (.int kd j)) (hj : 0 ≤ j) (he : es[j.toNat]? = some e)
    (hi : P.info? el = some i) (hz : e.cells.length = i.size) : OpS P o st (.ref e.cells) := by
  refine ⟨by intro c hc; simp [h] at hc, fun tm df w M hs => ?_⟩
  have h1 := hs.opd' x
  rw [hx] at h1
  have h2 := hs.opd' ix
  rw [hix] at h2
  have h2 := h2.raw_inv
  have hlt : j.toNat < es.length := by
    rcases Nat.lt_or_ge j.toNat es.length with h | h
    · exact h
    · simp [List.getElem?_eq_none h] at he
  generalize hq : tev tm x = q at h1
  cases h1 with
  | slNil => simp at hlt
  | slE a => simp at hlt
  | @sl _ _ _ _ b oo cap k y hlen hk hc ho hr htok =>
    have hke : e.cells.length = k := hk e (List.mem_of_getElem? he)
    have hks : i.size = k := by rw [← hz]; exact hke
    have hin : ∀ m, m < k → j.toNat * k + m < es.length * k := fun m hm => by
      have : (j.toNat + 1) * k ≤ es.length * k := Nat.mul_le_mul_right k hlt
      rw [Nat.succ_mul] at this; omega
    refine ⟨.pointer (some ⟨b, oo + j.toNat * k, none⟩), fun w2 => ?_, .ref (y := fun m => y (j.toNat * k + m)) (fun m hm => by rw [Nat.add_assoc]; exact hc _ (hin m (by omega))) (fun m hm => ho _ (hin m (by omega))) (fun m v hv => hr _ v (flat_get hk he hv))⟩
    simp only [execOp, h, hq, h2]
    have hj2 : j < (es.length : Int) := by omega
    simp [Instr.indexAt, asIntOf, run_underlying hu, hj, hj2, sizeOf, typeInfo, hi, hks, add_at]

/-- `&x[i]`, x the address of an array. -/
theorem OpS.indexAddrArr {P : Program} {o : Oper} {st : St} {t el : TypeId} {x ix : Operand} {len : Nat} {kd : IntKind} {j : Int} {i : TypeInfo} {v : V} (h : o.op = .indexAddr t x ix)
    (hu : P.underlying t = some (.array len el)) (hix : st.opd ix = .raw (.int kd j)) (hj : 0 ≤ j) (hj' : j < len)
    (hi : P.info? el = some i) (hv : moved (st.opd x) (j.toNat * i.size) = some v) : OpS P o st v := by
  refine ⟨by intro c hc; simp [h] at hc, fun tm df w M hs => ?_⟩
  obtain ⟨b, oo, hx, hr⟩ := moved_rep (hs.opd' x) hv
  have h2 := hs.opd' ix
  rw [hix] at h2
  have h2 := h2.raw_inv
  refine ⟨_, fun w2 => ?_, hr⟩
  simp only [execOp, h, hx, h2]
  simp [Instr.indexAt, Instr.sureAddr, asIntOf, run_underlying hu, hj, hj', sizeOf, typeInfo, hi, add_at]

end Go.Qx
