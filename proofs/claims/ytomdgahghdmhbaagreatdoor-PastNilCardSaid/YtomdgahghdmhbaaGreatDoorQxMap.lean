import Derived.Test.YtomdgahghdmhbaaGreatDoorQxOpH
import Derived.MapKept
import Derived.Carry
namespace Go.Qx
open Go Go.MapKept
set_option linter.unusedVariables false

/-! ### Maps. -/

theorem chg_obj {w : World} {b : Nat} {o o' : Obj} {p : Plc} (hf : ∀ b' x, p.foot b' x ↔ b' = b) (hb : w.heap[b]? = some o) : Chg p w { w with heap := w.heap.setIfInBounds b o' } := by
  have hh : ∀ b', b' ≠ b → (w.heap.setIfInBounds b o')[b']? = w.heap[b']? := (MapKept.heap_set hb).2
  refine ⟨rfl, rfl, rfl, by simp, fun b' x hn => ?_, fun b' hn => ?_⟩
  · have hne : b' ≠ b := fun h => hn ((hf b' x).2 h)
    simp [World.cell?, World.frozen?, hh b' hne]
  · have hne : b' ≠ b := fun h => hn 0 ((hf b' 0).2 h)
    exact hh b' hne

/-- The first entry whose key is this one. -/
def findV (P : Program) (kt : TypeId) (k : Value) : List (Value × V) → Nat → Option (Option Nat)
  | [], _ => some none
  | (k', _) :: r, i => match pureRun P (Op.equal kt k k') with
    | some true => some (some i)
    | some false => findV P kt k r (i + 1)
    | none => none

theorem sameNow_run {P : Program} {kt : TypeId} {d : TypeDesc} {a b : Value} {c c' : Bool} (hd : P.underlying kt = some d) (h : Instr.sameNow d a b = some c) (hp : pureRun P (Op.equal kt a b) = some c') : c = c' := by
  have hr := fun w => pureRun_run hp w
  have : ∀ w, (Op.equal kt a b).run P w = .ok c w := by
    intro w
    unfold Op.equal Op.maxDepth Op.equalIn
    simp only [Sem.run_bind, run_underlying hd, Result.andThen_ok]
    unfold Instr.sameNow at h
    split at h
    · rename_i k a' k' b'
      split at h
      · rename_i hk; simp only [Option.some.injEq] at h; subst h; simp [hk]
      · cases h
    · simp only [Option.some.injEq] at h; subst h; simp
    · simp only [Option.some.injEq] at h; subst h; simp
    · cases h
  have h2 := this default
  rw [hr default] at h2
  cases h2; rfl

structure MapEnts (es : List (Value × V)) (ents : Array MapEntry) : Prop where
  size : ents.size = es.length
  key : ∀ i k v, es[i]? = some (k, v) → ∃ e : MapEntry, ents[i]? = some e ∧ e.key = k ∧ e.born = i

theorem run_findKey' {P : Program} {kt : TypeId} {d : TypeDesc} {k : Value} (hd : P.underlying kt = some d) (w : World) : ∀ (es : List (Value × V)) (l : List MapEntry) (i : Nat) (r : Option Nat), l.map (·.key) = es.map (·.1) → findV P kt k es i = some r →
    (Instr.findAsking kt k l i).run P w = .ok (r.map fun j => (j, ((l[j - i]?).map (·.val)).getD undef)) w ∧ (∀ a, Instr.findNow d k l i = some a → a = r.map fun j => (j, ((l[j - i]?).map (·.val)).getD undef)) ∧ ∀ j, r = some j → i ≤ j
  | [], l, i, r, hl, h => by
    cases l with
    | cons a b => simp at hl
    | nil => simp only [findV, Option.some.injEq] at h; subst h; exact ⟨by simp [Instr.findAsking], fun a ha => by simpa [Instr.findNow] using ha.symm, fun j hj => by cases hj⟩
  | (k', v) :: es, l, i, r, hl, h => by
    cases l with
    | nil => simp at hl
    | cons e l =>
      simp only [List.map_cons, List.cons.injEq] at hl
      obtain ⟨rfl, hl⟩ := hl
      simp only [findV] at h
      split at h
      · rename_i hp
        simp only [Option.some.injEq] at h; subst h
        refine ⟨?_, fun a ha => ?_, fun j hj => by cases hj; exact Nat.le_refl _⟩
        · simp [Instr.findAsking, pureRun_run hp w]
        · simp only [Instr.findNow] at ha
          split at ha
          · simp only [Option.some.injEq] at ha; subst ha; simp
          · rename_i hs; have := sameNow_run hd hs hp; cases this
          · cases ha
      · rename_i hp
        obtain ⟨h1, h2, h3⟩ := run_findKey' hd w es l (i + 1) r hl h
        have hidx : (r.map fun j => (j, ((l[j - (i + 1)]?).map (·.val)).getD undef)) = r.map fun j => (j, (((e :: l)[j - i]?).map (·.val)).getD undef) := by
          cases r with
          | none => rfl
          | some j => have := h3 j rfl; simp only [Option.map_some]; rw [show j - i = (j - (i + 1)) + 1 by omega]; simp
        refine ⟨?_, fun a ha => ?_, fun j hj => by have := h3 j hj; omega⟩
        · rw [← hidx]; simp [Instr.findAsking, pureRun_run hp w, h1]
        · rw [← hidx]
          simp only [Instr.findNow] at ha
          split at ha
          · rename_i hs; have := sameNow_run hd hs hp; cases this
          · exact h2 a ha
          · cases ha
      · cases h

theorem run_findV {P : Program} {kt : TypeId} {d : TypeDesc} {k : Value} (hd : P.underlying kt = some d) (w : World) {es : List (Value × V)} {ents : Array MapEntry} {r : Option Nat} (he : MapEnts es ents) (h : findV P kt k es 0 = some r) :
    (Instr.findKey kt k ents.toList).run P w = .ok (r.map fun j => (j, ((ents[j]?).map (·.val)).getD undef)) w := by
  have hl : ents.toList.map (·.key) = es.map (·.1) := by
    apply List.ext_getElem?
    intro i
    by_cases hi : i < es.length
    · obtain ⟨e, h1, h2, _⟩ := he.key i es[i].1 es[i].2 (by simp [hi])
      simp [h1, h2, hi]
    · have : ents.size ≤ i := by rw [he.size]; omega
      simp [Nat.not_lt.1 hi, this]
  obtain ⟨h1, h2, _⟩ := run_findKey' hd w es ents.toList 0 r hl h
  simp only [Instr.findKey, Sem.run_bind, run_underlying hd, Result.andThen_ok]
  split
  · rename_i a ha; rw [h2 a ha]; simp
  · rw [h1]; simp

theorem MapEnts.of {w : World} {M : Mem} {n : Nat} {es : List (Value × V)} {ents : Array MapEntry} (h3 : ents.size = es.length) (h4 : ∀ i k v, es[i]? = some (k, v) → ∃ x : Value, ents[i]? = some (⟨k, x, i⟩ : MapEntry) ∧ Rep w M n v x) : MapEnts es ents :=
  ⟨h3, fun i k v hv => let ⟨x, h5, _⟩ := h4 i k v hv; ⟨_, h5, rfl, rfl⟩⟩

/-- A map that is laid, and the state's map value. -/
theorem mref_inv {w : World} {M : Mem} {h : Heap} {n id : Nat} {es : List (Value × V)} {x : Value} (hs : Sim w M h n) (hr : Rep w M n (.mref id) x) (hid : h.find id = .map es) :
    ∃ (b : Nat) (ents : Array MapEntry), x = .map (some b) ∧ M id = some (.map b) ∧ w.heap[b]? = some (.map ents es.length) ∧ ents.size = es.length ∧
    ∀ i k v, es[i]? = some (k, v) → ∃ x : Value, ents[i]? = some (⟨k, x, i⟩ : MapEntry) ∧ Rep w M n v x := by
  obtain ⟨b, ents, hm, hh, h3, h4⟩ := hs.mapAt id es hid
  cases hr with
  | mref _ h => obtain rfl := h b hm; exact ⟨b, ents, rfl, hm, hh, h3, h4⟩

theorem OpOk.makeMap {P : Program} {o : Oper} {st : St} {t : TypeId} (h : o.op = .makeMap t none) : OpOk P o st ((st.new (.map [])).put o.dst (.mref st.n)) := by
  refine OpOk.value (by intro c hc; simp [h] at hc) fun tm df w M hs => ?_
  have := hs.new (Grow.alloc w (.map #[] 0)) (.map w.heap.size) (.map []) (fun b o hb => by cases hb; rw [size_alloc']; omega) (fun ht =>
    ⟨w.heap.size, #[], rfl, by rw [heap_alloc']; rfl, rfl, fun i k v hv => by simp at hv⟩)
  refine ⟨.map (some w.heap.size), _, _, ?_, this.1, this.2, .mref (Nat.lt_succ_self _) fun b' hb => by rw [upd_same] at hb; simpa using hb.symm, Old.new hs.sim _ _⟩
  simp only [execOp, h]
  simp only [Sem.run_bind]; rfl

def mapTy (P : Program) (t : TypeId) : Option (TypeId × TypeId) :=
  match P.underlying t with
  | some (.map k e) => some (k, e)
  | _ => none
theorem mapTy_spec {P : Program} {t k e : TypeId} (h : mapTy P t = some (k, e)) : P.underlying t = some (.map k e) := by
  unfold mapTy at h
  split at h
  · rename_i a b hu; simp only [Option.some.injEq, Prod.mk.injEq] at h; obtain ⟨rfl, rfl⟩ := h; exact hu
  · cases h

def zeroValV (P : Program) (t : TypeId) : Option V :=
  match P.info? t with
  | some i => i.zero.map ofValue
  | none => none

theorem zeroValV_run {P : Program} {t : TypeId} {v : V} (h : zeroValV P t = some v) (w : World) (M : Mem) (n : Nat) : ∃ x, (zeroValue t).run P w = .ok x w ∧ Rep w M n v x := by
  unfold zeroValV at h
  split at h
  · rename_i i hi
    obtain ⟨z, hz, rfl⟩ := Option.map_eq_some_iff.1 h
    exact ⟨z, by simp [zeroValue, typeInfo, hi, hz], .ofValue z⟩
  · cases h

def tupOk (ok : Bool) (v : V) (b : Bool) : V := bif ok then .tup [v, .raw (.bool b)] else v

theorem tupOk_rep {w : World} {M : Mem} {n : Nat} {v : V} {x : Value} (h : Rep w M n v x) (ok b : Bool) : Rep w M n (tupOk ok v b) (if ok then .tuple #[x, .bool b] else x) := by
  cases ok
  · exact h
  · refine .tup rfl fun i u hu => ?_
    match i, hu with
    | 0, hu => simp at hu; subst hu; simpa using h
    | 1, hu => simp at hu; subst hu; exact .raw _
    | i + 2, hu => simp at hu

/-- What a lookup comes to. -/
def lookV (es : List (Value × V)) (z : V) : Option Nat → V × Bool
  | some i => match es[i]? with
    | some (_, v) => (v, true)
    | none => (z, false)
  | none => (z, false)

theorem findV_lt {P : Program} {kt : TypeId} {k : Value} : ∀ {es : List (Value × V)} {i j : Nat}, findV P kt k es i = some (some j) → i ≤ j ∧ j - i < es.length
  | [], i, j, h => by simp [findV] at h
  | (k', v) :: es, i, j, h => by
    simp only [findV] at h
    split at h
    · simp only [Option.some.injEq] at h; subst h; simp
    · have := findV_lt h; simp only [List.length_cons]; omega
    · cases h

theorem OpQ.lookup {P : Program} {o : Oper} {st : St} {t kt et : TypeId} {x ix : Operand} {ok : Bool} {id : Nat} {es : List (Value × V)} {k : Value} {r : Option Nat} {z : V} (h : o.op = .lookup t x ix ok)
    (ht : mapTy P t = some (kt, et)) (hx : st.opd x = .mref id) (hid : st.h.find id = .map es) (hk : (st.opd ix).raw? = some k) (hf : findV P kt k es 0 = some r) (hz : zeroValV P et = some z)
    (hc : pureRun P (Instr.checkKey es.isEmpty 10000 kt k) = some ()) : OpQ P o st (tupOk ok (lookV es z r).1 (lookV es z r).2) := by
  refine ⟨by intro c hc; simp [h] at hc, fun tm df w M hs => ?_⟩
  have hu := mapTy_spec ht
  have hr := hs.opd' x
  rw [hx] at hr
  obtain ⟨b, ents, hb, hm, hh, h3, h4⟩ := mref_inv hs.sim hr hid
  have hkv := (hs.opd' ix).raw?_inv hk
  have hemp : ents.isEmpty = es.isEmpty := by
    simp only [Array.isEmpty, h3]; cases es <;> simp
  have hd : ∃ d, P.underlying kt = some d := by
    have hcc := hc
    unfold Instr.checkKey at hcc
    cases hd : P.underlying kt with
    | some d => exact ⟨d, rfl⟩
    | none =>
      exfalso
      have := pureRun_run hc default
      unfold Instr.checkKey at this
      simp [underlying, hd, Sem.run, Result.andThen, program, stuck] at this
  obtain ⟨d, hd⟩ := hd
  have hfr := run_findV hd w (MapEnts.of h3 h4) hf
  obtain ⟨zx, hz1, hz2⟩ := zeroValV_run hz w M st.n
  have hval : ∃ y c, (match r.map fun j => (j, ((ents[j]?).map fun e : MapEntry => e.val).getD undef) with | some (_, v) => (Pure.pure (v, true) : Sem (Value × Bool)) | none => (do let v ← zeroValue et; Pure.pure (v, false) : Sem (Value × Bool))).run P w = .ok (y, c) w ∧ Rep w M st.n (lookV es z r).1 y ∧ (lookV es z r).2 = c := by
    cases r with
    | none => exact ⟨zx, false, by simp [hz1], hz2, rfl⟩
    | some j =>
      have hlt := findV_lt hf
      simp only [Nat.sub_zero] at hlt
      rcases hv : es[j]'hlt.2 with ⟨kk, vv⟩
      have hes : es[j]? = some (kk, vv) := by rw [List.getElem?_eq_getElem hlt.2, hv]
      obtain ⟨y, h5, h6⟩ := h4 j kk vv hes
      exact ⟨y, true, by simp [h5], by simp only [lookV, hes]; exact h6, by simp only [lookV, hes]⟩
  obtain ⟨y, c, hy1, hy2, hy3⟩ := hval
  refine ⟨if ok then .tuple #[y, .bool c] else y, ?_, by rw [hy3]; exact tupOk_rep hy2 ok c⟩
  have hck := pureRun_run hc w
  simp only [execOp, h, hb, hkv]
  simp only [Instr.lookup, Sem.run_bind, run_underlying hu, Result.andThen_ok, MapKept.run_getObj_map hh, Sem.run_pure, hemp, hck, hfr]
  cases r with
  | none =>
    simp [hz1] at hy1
    obtain ⟨rfl, rfl⟩ := hy1
    simp [hz1]
  | some j =>
    simp at hy1
    obtain ⟨rfl, rfl⟩ := hy1
    simp

/-- The map, one entry written. -/
def setV (es : List (Value × V)) (k : Value) (v : V) : Option Nat → List (Value × V)
  | some i => es.set i (k, v)
  | none => es ++ [(k, v)]

def sameAt (es : List (Value × V)) (k : Value) : Option Nat → Bool
  | some i => match es[i]? with
    | some (k', _) => Instr.sameBits 10000 k' k
    | none => false
  | none => true

theorem checkKey_under {P : Program} {kt : TypeId} {k : Value} {b : Bool} (hc : pureRun P (Instr.checkKey b 10000 kt k) = some ()) : ∃ d, P.underlying kt = some d := by
  cases hd : P.underlying kt with
  | some d => exact ⟨d, rfl⟩
  | none =>
    exfalso
    have := pureRun_run hc default
    unfold Instr.checkKey at this
    simp [underlying, hd, Sem.run, Result.andThen, program, stuck] at this

/-- The map's block, rewritten. -/
theorem map_written {st : St} {tm : Array Value} {df : List Deferred} {w : World} {M : Mem} (hs : StRel st tm df w M) {id b : Nat} {es es' : List (Value × V)} {ents ents' : Array MapEntry} (hid : st.h.find id = .map es)
    (hm : M id = some (.map b)) (hh : w.heap[b]? = some (.map ents es.length)) (h3 : ents'.size = es'.length) (h4 : ∀ i k v, es'[i]? = some (k, v) → ∃ x : Value, ents'[i]? = some (⟨k, x, i⟩ : MapEntry) ∧ Rep w M st.n v x) :
    StRel (st.set id (.map es')) tm df { w with heap := w.heap.setIfInBounds b (.map ents' es'.length) } M ∧ Tr M w M { w with heap := w.heap.setIfInBounds b (.map ents' es'.length) } :=
  hs.set hm (by rw [hid]; simp) (chg_obj (p := .map b) (fun _ _ => Iff.rfl) hh) fun ht =>
    ⟨b, ents', rfl, (MapKept.heap_set hh).1, h3, fun i k v hv => let ⟨x, h5, h6⟩ := h4 i k v hv; ⟨x, h5, h6.tr ht (fun _ _ _ h => h) (Nat.le_refl _)⟩⟩

theorem run_keyStays {P : Program} {a b : Value} (h : Instr.sameBits 10000 a b = true) (w : World) : (Instr.keyThatStays a b).run P w = .ok b w := by
  simp [Instr.keyThatStays, h]

theorem mapUpdate_core {P : Program} {st : St} {tm : Array Value} {df : List Deferred} {w : World} {M : Mem} (hs : StRel st tm df w M) {t kt et : TypeId} {id : Nat} {es : List (Value × V)} {k x y : Value} {r : Option Nat} {v : V}
    (ht : mapTy P t = some (kt, et)) (hx : Rep w M st.n (.mref id) x) (hid : st.h.find id = .map es) (hv : Rep w M st.n v y) (hf : findV P kt k es 0 = some r)
    (hc : pureRun P (Instr.checkKey false 10000 kt k) = some ()) (hsame : sameAt es k r = true) :
    ∃ w', (Instr.mapUpdate t x k y).run P w = .ok () w' ∧ StRel (st.set id (.map (setV es k v r))) tm df w' M ∧ Tr M w M w' := by
  have hu := mapTy_spec ht
  obtain ⟨b, ents, rfl, hm, hh, h3, h4⟩ := mref_inv hs.sim hx hid
  obtain ⟨d, hd⟩ := checkKey_under hc
  have hfr := run_findV hd w (MapEnts.of h3 h4) hf
  have hck := pureRun_run hc w
  cases r with
  | none =>
    have hw := map_written hs (es' := setV es k v none) (ents' := ents.push ⟨k, y, es.length⟩) hid hm hh (by simp [setV, h3]) (fun i k2 v2 hv2 => by
      simp only [setV] at hv2
      rw [List.getElem?_append] at hv2
      split at hv2
      · rename_i hi
        obtain ⟨x, h5, h6⟩ := h4 i k2 v2 hv2
        exact ⟨x, by rw [Array.getElem?_push, if_neg (by omega)]; exact h5, h6⟩
      · rename_i hi
        have : i = es.length := by
          rcases Nat.lt_or_ge (i - es.length) 1 with h | h
          · omega
          · rw [List.getElem?_eq_none (by simpa using h)] at hv2; cases hv2
        subst this
        simp at hv2
        obtain ⟨rfl, rfl⟩ := hv2
        exact ⟨y, by rw [Array.getElem?_push, if_pos h3.symm], hv⟩)
    refine ⟨_, ?_, hw.1, hw.2⟩
    simp only [Instr.mapUpdate, Sem.run_bind, run_underlying hu, Result.andThen_ok, MapKept.run_getObj_map hh, hck, hfr, Option.map_none]
    rw [MapKept.run_setObj_map _ hh]
    simp [setV]
  | some j =>
    have hlt := findV_lt hf
    simp only [Nat.sub_zero] at hlt
    rcases hes' : es[j]'hlt.2 with ⟨k', v'⟩
    have hes : es[j]? = some (k', v') := by rw [List.getElem?_eq_getElem hlt.2, hes']
    simp only [sameAt, hes] at hsame
    obtain ⟨x0, h5, h6⟩ := h4 j k' v' hes
    have hw := map_written hs (es' := setV es k v (some j)) (ents' := ents.modify j fun e => { e with key := k, val := y }) hid hm hh (by simp [setV, h3]) (fun i k2 v2 hv2 => by
      simp only [setV] at hv2
      rw [List.getElem?_set] at hv2
      rw [Array.getElem?_modify]
      by_cases hij : j = i
      · subst hij
        simp only [hlt.2, if_true, Option.some.injEq, Prod.mk.injEq] at hv2 ⊢
        obtain ⟨rfl, rfl⟩ := hv2
        exact ⟨y, by simp [h5], hv⟩
      · simp only [hij, if_false] at hv2 ⊢
        exact h4 i k2 v2 hv2)
    refine ⟨_, ?_, hw.1, hw.2⟩
    simp only [Instr.mapUpdate, Sem.run_bind, run_underlying hu, Result.andThen_ok, MapKept.run_getObj_map hh, hck, hfr, Option.map_some, h5, Option.getD_some, run_keyStays hsame]
    rw [MapKept.run_setObj_map _ hh]
    simp [setV]

theorem OpOk.mapUpdate {P : Program} {o : Oper} {st : St} {t kt et : TypeId} {m kx x : Operand} {id : Nat} {es : List (Value × V)} {k : Value} {r : Option Nat} (h : o.op = .mapUpdate t m kx x ∨ o.op = .insert t m kx x)
    (ht : mapTy P t = some (kt, et)) (hx : st.opd m = .mref id) (hid : st.h.find id = .map es) (hk : (st.opd kx).raw? = some k) (hf : findV P kt k es 0 = some r)
    (hc : pureRun P (Instr.checkKey false 10000 kt k) = some ()) (hsame : sameAt es k r = true) : OpOk P o st ((st.set id (.map (setV es k (st.opd x) r))).put o.dst .any) := by
  refine OpOk.unit (by intro c hc; rcases h with h | h <;> simp [h] at hc) fun tm df w M hs => ?_
  have hr := hs.opd' m
  rw [hx] at hr
  have hkv := (hs.opd' kx).raw?_inv hk
  obtain ⟨w', h1, h2, h3⟩ := mapUpdate_core hs (v := st.opd x) ht hr hid (hs.opd' x) hf hc hsame
  refine ⟨w', M, ?_, h2, h3, Old.set _ (by rw [hid]; rfl)⟩
  rcases h with h | h <;> simp only [execOp, h, hkv] <;> simp [h1]

/-- `m[k]`, to be written: the place is there. -/
theorem OpOk.mapEntry {P : Program} {o : Oper} {st : St} {t kt et : TypeId} {m kx : Operand} {id : Nat} {es : List (Value × V)} {k : Value} {r : Option Nat} {z : V} (h : o.op = .mapEntry t m kx)
    (ht : mapTy P t = some (kt, et)) (hx : st.opd m = .mref id) (hid : st.h.find id = .map es) (hk : (st.opd kx).raw? = some k) (hf : findV P kt k es 0 = some r) (hz : zeroValV P et = some z)
    (hc : pureRun P (Instr.checkKey false 10000 kt k) = some ()) (hsame : sameAt es k r = true) :
    OpOk P o st ((st.set id (.map (setV es k (lookV es z r).1 r))).put o.dst (.tup [(lookV es z r).1, .raw (.int .i64 ((r.getD es.length : Nat) : Int))])) := by
  refine OpOk.value (by intro c hc; simp [h] at hc) fun tm df w M hs => ?_
  have hu := mapTy_spec ht
  have hr := hs.opd' m
  rw [hx] at hr
  have hkv := (hs.opd' kx).raw?_inv hk
  obtain ⟨b, ents, hb, hm, hh, h3, h4⟩ := mref_inv hs.sim hr hid
  obtain ⟨d, hd⟩ := checkKey_under hc
  have hfr := run_findV hd w (MapEnts.of h3 h4) hf
  have hck := pureRun_run hc w
  obtain ⟨zx, hz1, hz2⟩ := zeroValV_run hz w M st.n
  have tupR : ∀ {w' : World} {y : Value} {v : V} (a : Int), Rep w' M st.n v y → Rep w' M st.n (.tup [v, .raw (.int .i64 a)]) (.tuple #[y, .int .i64 a]) := fun a hv => .tup rfl fun i u hu => by
    match i, hu with
    | 0, hu => simp at hu; subst hu; simpa using hv
    | 1, hu => simp at hu; subst hu; exact .raw _
    | i + 2, hu => simp at hu
  cases r with
  | none =>
    have hw := map_written hs (es' := setV es k z none) (ents' := ents.push ⟨k, zx, es.length⟩) hid hm hh (by simp [setV, h3]) (fun i k2 v2 hv2 => by
      simp only [setV] at hv2
      rw [List.getElem?_append] at hv2
      split at hv2
      · rename_i hi
        obtain ⟨x, h5, h6⟩ := h4 i k2 v2 hv2
        exact ⟨x, by rw [Array.getElem?_push, if_neg (by omega)]; exact h5, h6⟩
      · rename_i hi
        have : i = es.length := by
          rcases Nat.lt_or_ge (i - es.length) 1 with h | h
          · omega
          · rw [List.getElem?_eq_none (by simpa using h)] at hv2; cases hv2
        subst this
        simp at hv2
        obtain ⟨rfl, rfl⟩ := hv2
        exact ⟨zx, by rw [Array.getElem?_push, if_pos h3.symm], hz2⟩)
    refine ⟨.tuple #[zx, .int .i64 (es.length : Int)], _, M, ?_, hw.1, hw.2, tupR _ (hz2.tr hw.2 (fun _ _ _ h => h) (Nat.le_refl _)), Old.set _ (by rw [hid]; rfl)⟩
    simp only [execOp, h, hkv, hb]
    simp only [Instr.mapEntry, Sem.run_bind, run_underlying hu, Result.andThen_ok, MapKept.run_getObj_map hh, hck, hfr, Option.map_none, hz1]
    rw [MapKept.run_setObj_map _ hh]
    simp [setV, goInt]
  | some j =>
    have hlt := findV_lt hf
    simp only [Nat.sub_zero] at hlt
    rcases hes' : es[j]'hlt.2 with ⟨k', v'⟩
    have hes : es[j]? = some (k', v') := by rw [List.getElem?_eq_getElem hlt.2, hes']
    simp only [sameAt, hes] at hsame
    obtain ⟨x0, h5, h6⟩ := h4 j k' v' hes
    have hlook : (lookV es z (some j)).1 = v' := by simp [lookV, hes]
    have hw := map_written hs (es' := setV es k v' (some j)) (ents' := ents.modify j fun e => { e with key := k }) hid hm hh (by simp [setV, h3]) (fun i k2 v2 hv2 => by
      simp only [setV] at hv2
      rw [List.getElem?_set] at hv2
      rw [Array.getElem?_modify]
      by_cases hij : j = i
      · subst hij
        simp only [hlt.2, if_true, Option.some.injEq, Prod.mk.injEq] at hv2 ⊢
        obtain ⟨rfl, rfl⟩ := hv2
        exact ⟨x0, by simp [h5], h6⟩
      · simp only [hij, if_false] at hv2 ⊢
        exact h4 i k2 v2 hv2)
    rw [hlook]
    refine ⟨.tuple #[x0, .int .i64 (j : Int)], _, M, ?_, hw.1, hw.2, tupR _ (h6.tr hw.2 (fun _ _ _ h => h) (Nat.le_refl _)), Old.set _ (by rw [hid]; rfl)⟩
    simp only [execOp, h, hkv, hb]
    simp only [Instr.mapEntry, Sem.run_bind, run_underlying hu, Result.andThen_ok, MapKept.run_getObj_map hh, hck, hfr, Option.map_some, h5, Option.getD_some, run_keyStays hsame]
    rw [MapKept.run_setObj_map _ hh]
    simp [setV, goInt]

theorem OpOk.entryStore {P : Program} {o : Oper} {st : St} {t : TypeId} {m sx x : Operand} {id j : Nat} {es : List (Value × V)} {k : Value} {v0 : V} {kd : IntKind} (h : o.op = .entryStore t m sx x)
    (hx : st.opd m = .mref id) (hid : st.h.find id = .map es) (hj : st.opd sx = .raw (.int kd (j : Int))) (hes : es[j]? = some (k, v0)) : OpOk P o st ((st.set id (.map (es.set j (k, st.opd x)))).put o.dst .any) := by
  refine OpOk.unit (by intro c hc; simp [h] at hc) fun tm df w M hs => ?_
  have hr := hs.opd' m
  rw [hx] at hr
  obtain ⟨b, ents, hb, hm, hh, h3, h4⟩ := mref_inv hs.sim hr hid
  have hjv := hs.opd' sx
  rw [hj] at hjv
  have hjv := hjv.raw_inv
  have hlt := (List.getElem?_eq_some_iff.1 hes).1
  obtain ⟨x0, h5, h6⟩ := h4 j k v0 hes
  have hw := map_written hs (es' := es.set j (k, st.opd x)) (ents' := ents.modify j fun e => { e with val := tev tm x }) hid hm hh (by simp [h3]) (fun i k2 v2 hv2 => by
      rw [List.getElem?_set] at hv2
      rw [Array.getElem?_modify]
      by_cases hij : j = i
      · subst hij
        simp only [hlt, if_true, Option.some.injEq, Prod.mk.injEq] at hv2 ⊢
        obtain ⟨rfl, rfl⟩ := hv2
        exact ⟨_, by simp [h5], hs.opd' x⟩
      · simp only [hij, if_false] at hv2 ⊢
        exact h4 i k2 v2 hv2)
  refine ⟨_, M, ?_, hw.1, hw.2, Old.set _ (by rw [hid]; rfl)⟩
  have hfind : ents.findIdx? (fun e : MapEntry => (e.born : Int) == (j : Int)) = some j := by
    rw [Array.findIdx?_eq_some_iff_getElem]
    have hj' : j < ents.size := by omega
    have hej : ents[j] = ⟨k, x0, j⟩ := by have := h5; rw [Array.getElem?_eq_getElem hj'] at this; simpa using this
    refine ⟨hj', by simp [hej], fun i hi => ?_⟩
    have hi' : i < es.length := by omega
    rcases he2 : es[i]'hi' with ⟨k2, v2⟩
    obtain ⟨x2, h7, _⟩ := h4 i k2 v2 (by rw [List.getElem?_eq_getElem hi', he2])
    have : ents[i] = ⟨k2, x2, i⟩ := by rw [Array.getElem?_eq_getElem (by omega)] at h7; simpa using h7
    simp [this]; omega
  simp only [execOp, h, hb, hjv]
  simp only [Instr.entryStore, Sem.run_bind, Result.andThen_ok, MapKept.run_getObj_map hh, asInt, asIntOf, Sem.run_pure, hfind]
  rw [MapKept.run_setObj_map _ hh]
  simp

theorem OpQ.lenMap {P : Program} {o : Oper} {st : St} {t kt et : TypeId} {ats : Array TypeId} {x : Operand} {id : Nat} {es : List (Value × V)} (ho : o.op = .call { callee := .builtin .len, args := #[x], argTypes := ats })
    (ht : ats[0]? = some t) (hu : mapTy P t = some (kt, et)) (hx : st.opd x = .mref id) (hid : st.h.find id = .map es) : OpQ P o st (.raw (.int .i64 (es.length : Int))) := by
  refine ⟨by intro c hc; simp [ho] at hc, fun tm df w M hs => ⟨.int .i64 (es.length : Int), ?_, .raw _⟩⟩
  have hr := hs.opd' x
  rw [hx] at hr
  obtain ⟨b, ents, hb, hm, hh, h3, h4⟩ := mref_inv hs.sim hr hid
  simp only [execOp, ho]
  simp [resolve, invoke, builtin, Builtin.len_, ht, hb, run_underlying (mapTy_spec hu), MapKept.run_getObj_map hh, goInt, h3]

/-! ### A map gone through. -/
theorem OpOk.rangeMap {P : Program} {o : Oper} {st : St} {t kt et : TypeId} {x : Operand} {id : Nat} {es : List (Value × V)} (h : o.op = .range t x) (ht : mapTy P t = some (kt, et)) (hx : st.opd x = .mref id) (hid : st.h.find id = .map es) :
    OpOk P o st ((st.new (.mit id es.length [])).put o.dst (.itp st.n)) := by
  refine OpOk.value (by intro c hc; simp [h] at hc) fun tm df w M hs => ?_
  have hr := hs.opd' x
  rw [hx] at hr
  obtain ⟨b, ents, hb, hm, hh, h3, h4⟩ := mref_inv hs.sim hr hid
  have hlt := hs.sim.lt id _ hm
  have := hs.new (Grow.alloc w (.mapIter (some b) es.length #[] es.length)) (.mit w.heap.size) (.mit id es.length []) (fun b o hb => by cases hb; rw [size_alloc']; omega) (fun ht =>
    ⟨w.heap.size, b, rfl, by rw [upd_other _ _ (by omega)]; exact hm, by rw [heap_alloc']⟩)
  refine ⟨.pointer (some ⟨w.heap.size, 0, none⟩), _, _, ?_, this.1, this.2, .itp (Nat.lt_succ_self _) fun b' hb => by rw [upd_same] at hb; simpa using hb.symm, Old.new hs.sim _ _⟩
  simp only [execOp, h, hb]
  simp only [Instr.range, Sem.run_bind, run_underlying (mapTy_spec ht), Result.andThen_ok, MapKept.run_getObj_map hh, Sem.run_pure]
  rfl
end Go.Qx
