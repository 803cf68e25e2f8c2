import Derived.Test.YtomdgahghdmhbaaGreatDoorQxEff
import Derived.Test.YtomdgahghdmhbaaGreatDoorQxMap
namespace Go.Qx
open Go
set_option linter.unusedVariables false

/-! ### A run that Lean reckons: operations. -/
def offV (P : Program) (s : TypeId) (f : Nat) : Option Nat :=
  match P.underlying s with
  | some (.struct fs) => match fs[f]? with
    | some fd => match P.info? fd.type with
      | some i => bif i.size == 0 then none else some fd.offset
      | none => none
    | none => none
  | _ => none
def szV (P : Program) (t : TypeId) : Option Nat := (P.info? t).map (·.size)
def elV (P : Program) (t : TypeId) : Option TypeId :=
  match P.underlying t with
  | some (.slice e) => some e
  | _ => none
def arrV (P : Program) (t : TypeId) : Option (Nat × TypeId) :=
  match P.underlying t with
  | some (.array n e) => some (n, e)
  | _ => none
def ptrTy (P : Program) (t : TypeId) : Bool :=
  match P.underlying t with
  | some (.pointer _) => true
  | _ => false
def appV (P : Program) (t : TypeId) : Option (Nat × Nat) :=
  match P.underlying t with
  | some (.slice el) => match P.info? el with
    | some i => match i.zero with
      | some z => bif z.cells.size == i.size && Nat.blt 0 i.size then some (i.size, i.bytes) else none
      | none => none
    | none => none
  | _ => none
def allLen (k : Nat) (vs : List V) : Bool := vs.all fun v => v.cells.length == k && (stor v).isSome
def headLen (k : Nat) : List V → Bool
  | [] => true
  | e :: _ => e.cells.length == k

theorem szV_spec {P : Program} {t : TypeId} {k : Nat} (h : szV P t = some k) : ∃ i, P.info? t = some i ∧ i.size = k := by
  simpa [szV] using h
theorem elV_spec {P : Program} {t el : TypeId} (h : elV P t = some el) : P.underlying t = some (.slice el) := by
  unfold elV at h
  split at h
  · rename_i e he; simp only [Option.some.injEq] at h; subst h; exact he
  · cases h
theorem arrV_spec {P : Program} {t el : TypeId} {n : Nat} (h : arrV P t = some (n, el)) : P.underlying t = some (.array n el) := by
  unfold arrV at h
  split at h
  · rename_i a b he; simp only [Option.some.injEq, Prod.mk.injEq] at h; obtain ⟨rfl, rfl⟩ := h; exact he
  · cases h
theorem ptrTy_spec {P : Program} {t : TypeId} (h : ptrTy P t = true) : ∃ e, P.underlying t = some (.pointer e) := by
  unfold ptrTy at h
  split at h
  · rename_i e he; exact ⟨e, he⟩
  · cases h
theorem appV_spec {P : Program} {t : TypeId} {k bytes : Nat} (h : appV P t = some (k, bytes)) : ∃ el i z, AppSpec P t el i z ∧ i.size = k ∧ i.bytes = bytes := by
  unfold appV at h
  split at h
  · rename_i el hel
    split at h
    · rename_i i hi
      split at h
      · rename_i z hz
        cases hc : (z.cells.size == i.size && Nat.blt 0 i.size)
        · rw [hc] at h; cases h
        · rw [hc] at h
          simp only [cond_true, Option.some.injEq, Prod.mk.injEq] at h
          simp only [Bool.and_eq_true, beq_iff_eq] at hc
          exact ⟨el, i, z, ⟨hel, hi, hz, hc.1, by have := hc.2; simp [Nat.blt] at this; omega⟩, h.1, h.2⟩
      · cases h
    · cases h
  · cases h
theorem offV_spec {P : Program} {s : TypeId} {f k : Nat} (h : offV P s f = some k) : ∃ fs fd i, P.underlying s = some (.struct fs) ∧ fs[f]? = some fd ∧ P.info? fd.type = some i ∧ i.size ≠ 0 ∧ fd.offset = k := by
  unfold offV at h
  split at h
  · rename_i fs hfs
    split at h
    · rename_i fd hfd
      split at h
      · rename_i i hi
        cases hc : (i.size == 0)
        · rw [hc] at h
          simp only [cond_false, Option.some.injEq] at h
          exact ⟨fs, fd, i, hfs, hfd, hi, by simpa using hc, h⟩
        · rw [hc] at h; cases h
      · cases h
    · cases h
  · cases h
theorem allLen_spec {k : Nat} {vs : List V} (h : allLen k vs = true) : (∀ v ∈ vs, v.cells.length = k) ∧ ∀ v ∈ vs, stor v ≠ none := by
  simp only [allLen, List.all_eq_true, Bool.and_eq_true, beq_iff_eq] at h
  exact ⟨fun v hv => (h v hv).1, fun v hv hn => by have := (h v hv).2; rw [hn] at this; cases this⟩
theorem headLen_spec {k : Nat} {es : List V} (h : headLen k es = true) : ∀ e, es.head? = some e → e.cells.length = k := by
  intro e he
  cases es with
  | nil => cases he
  | cons a r => simp only [List.head?_cons, Option.some.injEq] at he; subst he; simpa [headLen] using h

def plainOp (o : Oper) : Bool :=
  match o.op with
  | .defer _ | .select _ _ => false
  | _ => true

/-- An operation on values that are known. -/
def exPure (P : Program) (st : St) (o : Oper) : Option V :=
  bif plainOp o && o.op.operands.toList.all fun x => ((st.opd x).raw?).isSome then
    match pureRun P (execOp (fun x => ((st.opd x).raw?).getD undef) o) with
    | some (.value v) => some (ofValue v)
    | _ => none
  else none

theorem exPure_ok {P : Program} {st : St} {o : Oper} {v : V} (h : exPure P st o = some v) : OpS P o st v := by
  unfold exPure at h
  cases hc : (plainOp o && o.op.operands.toList.all fun x => ((st.opd x).raw?).isSome)
  · rw [hc] at h; cases h
  · rw [hc] at h
    simp only [cond_true] at h
    simp only [Bool.and_eq_true, List.all_eq_true] at hc
    obtain ⟨h1, h2⟩ := hc
    split at h
    · rename_i x hx
      simp only [Option.some.injEq] at h; subst h
      refine ⟨(fun c hd => by rw [plainOp, hd] at h1; cases h1), fun tm df w M hs => ⟨x, fun w2 => ?_, .ofValue x⟩⟩
      have he : execOp (tev tm) o = execOp (fun x => ((st.opd x).raw?).getD undef) o := execOp_congr (fun cs b hd => by rw [plainOp, hd] at h1; cases h1) fun y hy => by
        obtain ⟨a, ha⟩ := Option.isSome_iff_exists.1 (h2 y (by simpa using hy))
        rw [(hs.opd' y).raw?_inv ha, ha]; rfl
      rw [he]
      exact pureRun_run hx w2
    · cases h

def bytesOf : List V → Option (List Int)
  | [] => some []
  | .raw (.int .u8 n) :: r => (bytesOf r).map (n :: ·)
  | _ => none
theorem bytesOf_spec : ∀ {es : List V} {ns : List Int}, bytesOf es = some ns → es = ns.map fun n => .raw (.int .u8 n)
  | [], ns, h => by simp [bytesOf] at h; subst h; rfl
  | v :: r, ns, h => by
    unfold bytesOf at h
    split at h
    · rename_i he; cases he
    · rename_i n r' he
      obtain ⟨l, hl, rfl⟩ := Option.map_eq_some_iff.1 h
      cases he
      rw [bytesOf_spec hl]; rfl
    · cases h
def byteTy (P : Program) (s d : TypeId) : Bool :=
  match P.underlying s, P.underlying d with
  | some (.slice e), some .string => match P.underlying e with
    | some (.int .u8) => true
    | _ => false
  | _, _ => false
theorem byteTy_spec {P : Program} {s d : TypeId} (h : byteTy P s d = true) : ∃ e, P.underlying s = some (.slice e) ∧ P.underlying e = some (.int .u8) ∧ P.underlying d = some .string := by
  unfold byteTy at h
  split at h
  · rename_i e h1 h2
    split at h
    · rename_i h3; exact ⟨e, h1, h3, h2⟩
    · cases h
  · cases h

/-- A quiet operation. -/
def exQ (P : Program) (st : St) (o : Oper) : Option V :=
  match o.op with
  | .move x | .assign x => some (st.opd x)
  | .pick c a b => match st.opd c with
    | .raw (.bool t) => some (cond t (st.opd a) (st.opd b))
    | _ => none
  | .load t x => match st.opd x with
    | .ptr id off => match st.h.find id with
      | .box cs => readV P t (cs.drop off)
      | _ => none
    | .ref cs => readV P t cs
    | _ => none
  | .fieldAddr s x f => match offV P s f with
    | some k => moved (st.opd x) k
    | none => none
  | .indexAddr t x ix => match st.opd ix with
    | .raw (.int _ (.ofNat j)) => match st.opd x with
      | .sl es _ _ => match elV P t with
        | some el => match es[j]? with
          | some e => bif szV P el == some e.cells.length then some (.ref e.cells) else none
          | none => none
        | none => none
      | v => match arrV P t with
        | some (len, el) => match szV P el with
          | some k => bif Nat.blt j len then moved v (j * k) else none
          | none => none
        | none => none
    | _ => none
  | .slice t x lo hi none => match st.opd x with
    | .sl es nn tok => match elV P t with
      | some el => match szV P el, boundV st 0 lo, boundV st es.length hi with
        | some k, some l, some h => bif Nat.ble l h && Nat.ble h es.length && headLen k es then some (.sl ((es.take h).drop l) nn none) else none
        | _, _, _ => none
      | none => none
    | _ => exPure P st o
  | .extract x i => match st.opd x with
    | .tup vs => vs[i]?
    | _ => exPure P st o
  | .makeFunc f as bs => some (.fn f (as.toList.map st.opd) (bs.toList.map st.opd))
  | .nilCheck x => bif isPlace (st.opd x) then some (st.opd x) else exPure P st o
  | .build t ps => match zeroOf P t, placeV P t with
    | some z, some place => (buildV st place (rawCells z) ps.toList).map .agg
    | _, _ => none
  | .lookup t x ix ok => match st.opd x with
    | .mref id => match st.h.find id with
      | .map es => match mapTy P t with
        | some (kt, et) => match (st.opd ix).raw?, zeroValV P et with
          | some k, some z => match findV P kt k es 0, pureRun P (Instr.checkKey es.isEmpty 10000 kt k) with
            | some r, some () => some (tupOk ok (lookV es z r).1 (lookV es z r).2)
            | _, _ => none
          | _, _ => none
        | none => none
      | _ => none
    | _ => exPure P st o
  | .convert s d x => match st.opd x with
    | .sl es _ _ => match bytesOf es with
      | some ns => bif byteTy P s d then some (.raw (.string (strOf ns))) else none
      | none => none
    | _ => exPure P st o
  | .binOp op t x y _ => bif isPlace (st.opd x) then match st.opd y with
      | .raw (.pointer none) => bif (op == .eql || op == .neq) && ptrTy P t then some (.raw (.bool (op == .neq))) else none
      | _ => none
    else exPure P st o
  | .call c => match c.callee with
    | .builtin .len => match c.args.toList, c.argTypes.toList with
      | [x], [t] => match st.opd x with
        | .sl es _ _ => bif (elV P t).isSome then some (.raw (.int .i64 (es.length : Int))) else none
        | .mref id => match st.h.find id with
          | .map es => bif (mapTy P t).isSome then some (.raw (.int .i64 (es.length : Int))) else none
          | _ => none
        | _ => exPure P st o
      | _, _ => none
    | _ => exPure P st o
  | _ => exPure P st o

theorem qs {P : Program} {o : Oper} {st : St} {v : V} (h : OpS P o st v) : OpQ P o st v ∧ (isMem o = false → OpS P o st v) := ⟨h.q, fun _ => h⟩

theorem exQ_ok {P : Program} {st : St} {o : Oper} {v : V} (h : exQ P st o = some v) : OpQ P o st v ∧ (isMem o = false → OpS P o st v) := by
  unfold exQ at h
  split at h
  case h_1 => rename_i x hop; cases h; exact qs (.move (.inl hop))
  case h_2 => rename_i x hop; cases h; exact qs (.move (.inr hop))
  case h_3 =>
    rename_i c a b hop
    split at h
    · rename_i t ht; cases h; exact qs (.pick hop ht)
    · cases h
  case h_4 =>
    rename_i t x hop
    have hm : isMem o = false → False := fun hm => by rw [isMem, hop] at hm; cases hm
    split at h
    · rename_i id off hx
      split at h
      · rename_i cs hcs; exact ⟨.load hop (.inl ⟨id, off, cs, hx, hcs, h⟩), fun h => (hm h).elim⟩
      · cases h
    · rename_i cs hx; exact ⟨.load hop (.inr ⟨cs, hx, h⟩), fun h => (hm h).elim⟩
    · cases h
  case h_5 =>
    rename_i s x f hop
    split at h
    · rename_i k hk
      obtain ⟨fs, fd, i, h1, h2, h3, h4, rfl⟩ := offV_spec hk
      exact qs (.fieldAddr hop h1 h2 h3 h4 h)
    · cases h
  case h_6 =>
    rename_i t x ix hop
    split at h
    · rename_i kd j hix
      split at h
      · rename_i es nn tok hx
        split at h
        · rename_i el hel
          split at h
          · rename_i e he
            cases hc : (szV P el == some e.cells.length)
            · rw [hc] at h; cases h
            · rw [hc] at h
              simp only [cond_true, Option.some.injEq] at h; subst h
              obtain ⟨i, hi, hz⟩ := szV_spec (by simpa using hc)
              exact qs (.indexAddr hop (elV_spec hel) hx hix (by simp) (by simpa using he) hi hz.symm)
          · cases h
        · cases h
      · split at h
        · rename_i len el hu
          split at h
          · rename_i k hk
            cases hc : Nat.blt j len
            · rw [hc] at h; cases h
            · rw [hc] at h
              obtain ⟨i, hi, rfl⟩ := szV_spec hk
              have hjl : j < len := by simp [Nat.blt] at hc; omega
              exact qs (.indexAddrArr hop (arrV_spec hu) hix (by simp) (by simpa using hjl) hi (by simpa using h))
          · cases h
        · cases h
    · cases h
  case h_7 =>
    rename_i t x lo hi hop
    split at h
    · rename_i es nn tok hx
      split at h
      · rename_i el hel
        split at h
        · rename_i k l hh hk hl hhh
          cases hc : (Nat.ble l hh && Nat.ble hh es.length && headLen k es)
          · rw [hc] at h; cases h
          · rw [hc] at h
            simp only [cond_true, Option.some.injEq] at h; subst h
            simp only [Bool.and_eq_true] at hc
            obtain ⟨i, hi', rfl⟩ := szV_spec hk
            exact qs (.slice hop (elV_spec hel) hi' hx hl hhh (Nat.le_of_ble_eq_true hc.1.1) (Nat.le_of_ble_eq_true hc.1.2) (headLen_spec hc.2) (.inl rfl))
        · cases h
      · cases h
    · exact qs (exPure_ok h)
  case h_8 =>
    rename_i x i hop
    split at h
    · rename_i vs hx; exact qs (.extract hop hx h)
    · exact qs (exPure_ok h)
  case h_9 => rename_i f as bs hop; cases h; exact qs (.makeFunc hop)
  case h_10 =>
    rename_i x hop
    cases hc : isPlace (st.opd x)
    · rw [hc] at h; exact qs (exPure_ok h)
    · rw [hc] at h; simp only [cond_true, Option.some.injEq] at h; subst h; exact qs (.nilCheck hop hc)
  case h_11 =>
    rename_i t ps hop
    split at h
    · rename_i z place hz hp
      obtain ⟨cs, hcs, rfl⟩ := Option.map_eq_some_iff.1 h
      exact qs (.build hop hz hp hcs)
    · cases h
  case h_12 =>
    rename_i t x ix ok hop
    have hm : isMem o = false → False := fun hm => by rw [isMem, hop] at hm; cases hm
    split at h
    · rename_i id hx
      split at h
      · rename_i es hid
        split at h
        · rename_i kt et ht
          split at h
          · rename_i k z hk hz
            split at h
            · rename_i r hf hc
              simp only [Option.some.injEq] at h; subst h
              exact ⟨.lookup hop ht hx hid hk hf hz hc, fun h => (hm h).elim⟩
            · cases h
          · cases h
        · cases h
      · cases h
    · exact qs (exPure_ok h)
  case h_13 =>
    rename_i s d x hop
    have hm : isMem o = false → False := fun hm => by rw [isMem, hop] at hm; cases hm
    split at h
    · rename_i es nn tok hx
      split at h
      · rename_i ns hns
        cases hc : byteTy P s d
        · rw [hc] at h; cases h
        · rw [hc] at h
          simp only [cond_true, Option.some.injEq] at h; subst h
          obtain ⟨e, h1, h2, h3⟩ := byteTy_spec hc
          exact ⟨.bytesString hop h1 h2 h3 hx (bytesOf_spec hns), fun h => (hm h).elim⟩
      · cases h
    · exact qs (exPure_ok h)
  case h_14 =>
    rename_i op t x y u hop
    cases hc : isPlace (st.opd x)
    · rw [hc] at h; exact qs (exPure_ok h)
    · rw [hc] at h
      simp only [cond_true] at h
      split at h
      · rename_i hy
        cases hd : ((op == .eql || op == .neq) && ptrTy P t)
        · rw [hd] at h; cases h
        · rw [hd] at h
          simp only [cond_true, Option.some.injEq] at h; subst h
          simp only [Bool.and_eq_true, Bool.or_eq_true] at hd
          obtain ⟨e, he⟩ := ptrTy_spec hd.2
          refine qs (.eqNilPtr hop ?_ hc hy he)
          rcases hd.1 with h1 | h1
          · left; cases op <;> first | rfl | (simp at h1) | cases h1
          · right; cases op <;> first | rfl | (simp at h1) | cases h1
      · cases h
  case h_15 =>
    rename_i c hop
    obtain ⟨callee, args, ats⟩ := c
    split at h
    · rename_i hc
      simp only at hc h; subst hc
      split at h
      · rename_i x t ha ht
        have : args = #[x] := by apply Array.ext'; simpa using ha
        subst this
        have : ats = #[t] := by apply Array.ext'; simpa using ht
        subst this
        split at h
        · rename_i es nn tok hx
          cases hc : (elV P t).isSome
          · rw [hc] at h; cases h
          · rw [hc] at h
            simp only [cond_true, Option.some.injEq] at h; subst h
            obtain ⟨el, hel⟩ := Option.isSome_iff_exists.1 hc
            exact qs (.len hop rfl (elV_spec hel) hx)
        · rename_i id hx
          split at h
          · rename_i es hid
            cases hc : (mapTy P t).isSome
            · rw [hc] at h; cases h
            · rw [hc] at h
              simp only [cond_true, Option.some.injEq] at h; subst h
              obtain ⟨⟨kt, et⟩, hel⟩ := Option.isSome_iff_exists.1 hc
              exact ⟨.lenMap hop rfl hel hx hid, fun hm => by rw [isMem, hop] at hm; cases hm⟩
          · cases h
        · exact qs (exPure_ok h)
      · cases h
    · exact qs (exPure_ok h)
  case h_16 => exact qs (exPure_ok h)

/-! ### Effects. -/
def exO (P : Program) (st : St) (o : Oper) : Option St :=
  match o.op with
  | .alloc t => match zeroOf P t with
    | some z => some ((st.new (.box (rawCells z))).put o.dst (.ptr st.n 0))
    | none => none
  | .box _ x => match stor (st.opd x) with
    | some vs => some ((st.new (.box vs)).put o.dst (.ptr st.n 0))
    | none => none
  | .store t a x => match st.opd a with
    | .ptr id off => match st.h.find id with
      | .box cs => match stor (st.opd x) with
        | some vs => match writeV cs off vs with
          | some cs' => bif szV P t == some vs.length then some ((st.set id (.box cs')).put o.dst .any) else none
          | none => none
        | none => none
      | _ => none
    | _ => none
  | .buildSlice t len ps => match elV P t with
    | some el => match szV P el, partsV st 0 ps.toList with
      | some k, some vs => bif vs.length == len && allLen k vs && (vs.isEmpty || (zeroOf P el).map (·.size) == some k) && Nat.ble (len * k) 16777216 then some ((st.new (.own k)).put o.dst (.sl vs true (some st.n))) else none
      | _, _ => none
    | none => none
  | .makeMap _ none => some ((st.new (.map [])).put o.dst (.mref st.n))
  | .mapUpdate t m kx x | .insert t m kx x => match st.opd m with
    | .mref id => match st.h.find id with
      | .map es => match mapTy P t, (st.opd kx).raw? with
        | some (kt, et), some k => match findV P kt k es 0, pureRun P (Instr.checkKey false 10000 kt k) with
          | some r, some () => bif sameAt es k r then some ((st.set id (.map (setV es k (st.opd x) r))).put o.dst .any) else none
          | _, _ => none
        | _, _ => none
      | _ => none
    | _ => none
  | .mapEntry t m kx => match st.opd m with
    | .mref id => match st.h.find id with
      | .map es => match mapTy P t, (st.opd kx).raw? with
        | some (kt, et), some k => match findV P kt k es 0, zeroValV P et, pureRun P (Instr.checkKey false 10000 kt k) with
          | some r, some z, some () => bif sameAt es k r then some ((st.set id (.map (setV es k (lookV es z r).1 r))).put o.dst (.tup [(lookV es z r).1, .raw (.int .i64 ((r.getD es.length : Nat) : Int))])) else none
          | _, _, _ => none
        | _, _ => none
      | _ => none
    | _ => none
  | .entryStore t m sx x => match st.opd m with
    | .mref id => match st.h.find id with
      | .map es => match st.opd sx with
        | .raw (.int _ (.ofNat j)) => match es[j]? with
          | some (k, _) => some ((st.set id (.map (es.set j (k, st.opd x)))).put o.dst .any)
          | none => none
        | _ => none
      | _ => none
    | _ => none
  | .range t x => match st.opd x with
    | .mref id => match st.h.find id with
      | .map es => bif (mapTy P t).isSome then some ((st.new (.mit id es.length [])).put o.dst (.itp st.n)) else none
      | _ => none
    | _ => none
  | .call c => match c.callee with
    | .builtin .append => match c.args.toList, c.argTypes.toList with
      | [a, b], [t, u] => match appV P t with
        | some (k, bytes) => match asSl (st.opd b) with
          | some (es2, _, _) => match st.opd a with
            | .sl es nn (some tk) => match st.h.find tk with
              | .own k' => bif Nat.beq t u && Nat.beq k' k && headLen k es && headLen k es2 && Nat.ble ((es.length + es2.length) * bytes) 140737488355328 && Nat.ble (es.length + es2.length) 140737488355328 then
                  some ((afterApp st (some tk) k).put o.dst (.sl (es ++ es2) nn (some st.n))) else none
              | _ => none
            | .raw (.slice none 0 0) => bif Nat.beq t u && headLen k es2 && Nat.ble (es2.length * bytes) 140737488355328 && Nat.ble es2.length 140737488355328 then
                  some ((afterApp (st.new (.own k)) (some st.n) k).put o.dst (.sl es2 false (some (st.n + 1)))) else none
            | _ => none
          | none => none
        | none => none
      | _, _ => none
    | _ => (exQ P st o).map (st.put o.dst ·)
  | _ => (exQ P st o).map (st.put o.dst ·)

theorem exO_ok {P : Program} {st st' : St} {o : Oper} (h : exO P st o = some st') : OpOk P o st st' := by
  have qq : (exQ P st o).map (st.put o.dst ·) = some st' → OpOk P o st st' := fun h => by
    obtain ⟨v, hv, rfl⟩ := Option.map_eq_some_iff.1 h
    exact (exQ_ok hv).1.ok
  unfold exO at h
  split at h
  case h_1 =>
    rename_i t hop
    split at h
    · rename_i z hz; cases h; exact OpOk.alloc hop hz
    · cases h
  case h_2 =>
    rename_i t x hop
    split at h
    · rename_i vs hv; cases h; exact OpOk.box hop hv
    · cases h
  case h_3 =>
    rename_i t a x hop
    split at h
    · rename_i id off ha
      split at h
      · rename_i cs hcs
        split at h
        · rename_i vs hvs
          split at h
          · rename_i cs' hw
            cases hc : (szV P t == some vs.length)
            · rw [hc] at h; cases h
            · rw [hc] at h
              simp only [cond_true, Option.some.injEq] at h; subst h
              obtain ⟨i, hi, hz⟩ := szV_spec (by simpa using hc)
              exact OpOk.store hop ha hcs hvs (by simpa [szV] using hc) hw
          · cases h
        · cases h
      · cases h
    · cases h
  case h_4 =>
    rename_i t len ps hop
    split at h
    · rename_i el hel
      split at h
      · rename_i k vs hk hvs
        cases hc : (vs.length == len && allLen k vs && (vs.isEmpty || (zeroOf P el).map (·.size) == some k) && Nat.ble (len * k) 16777216)
        · rw [hc] at h; cases h
        · rw [hc] at h
          simp only [cond_true, Option.some.injEq] at h; subst h
          simp only [Bool.and_eq_true, Bool.or_eq_true, beq_iff_eq] at hc
          obtain ⟨⟨⟨c1, c2⟩, c3⟩, c4⟩ := hc
          obtain ⟨i, hi, rfl⟩ := szV_spec hk
          obtain ⟨a1, a2⟩ := allLen_spec c2
          refine OpOk.buildSlice hop (elV_spec hel) hi hvs c1 a1 a2 ?_ (Nat.le_of_ble_eq_true c4)
          rcases c3 with h3 | h3
          · exact .inl (by simpa using h3)
          · obtain ⟨z, hz1, hz2⟩ := Option.map_eq_some_iff.1 h3; exact .inr ⟨z, hz1, hz2⟩
      · cases h
    · cases h
  case h_5 => rename_i t hop; cases h; exact OpOk.makeMap hop
  case h_6 =>
    rename_i t m kx x hop
    split at h
    · rename_i id hx
      split at h
      · rename_i es hid
        split at h
        · rename_i kt et k ht hk
          split at h
          · rename_i r hf hc
            cases hs : sameAt es k r
            · rw [hs] at h; cases h
            · rw [hs] at h; simp only [cond_true, Option.some.injEq] at h; subst h
              exact OpOk.mapUpdate (.inl hop) ht hx hid hk hf hc hs
          · cases h
        · cases h
      · cases h
    · cases h
  case h_7 =>
    rename_i t m kx x hop
    split at h
    · rename_i id hx
      split at h
      · rename_i es hid
        split at h
        · rename_i kt et k ht hk
          split at h
          · rename_i r hf hc
            cases hs : sameAt es k r
            · rw [hs] at h; cases h
            · rw [hs] at h; simp only [cond_true, Option.some.injEq] at h; subst h
              exact OpOk.mapUpdate (.inr hop) ht hx hid hk hf hc hs
          · cases h
        · cases h
      · cases h
    · cases h
  case h_8 =>
    rename_i t m kx hop
    split at h
    · rename_i id hx
      split at h
      · rename_i es hid
        split at h
        · rename_i kt et k ht hk
          split at h
          · rename_i r z hf hz hc
            cases hs : sameAt es k r
            · rw [hs] at h; cases h
            · rw [hs] at h; simp only [cond_true, Option.some.injEq] at h; subst h
              exact OpOk.mapEntry hop ht hx hid hk hf hz hc hs
          · cases h
        · cases h
      · cases h
    · cases h
  case h_9 =>
    rename_i t m sx x hop
    split at h
    · rename_i id hx
      split at h
      · rename_i es hid
        split at h
        · rename_i kd j hj
          split at h
          · rename_i k v0 hes; cases h; exact OpOk.entryStore hop hx hid hj hes
          · cases h
        · cases h
      · cases h
    · cases h
  case h_10 =>
    rename_i t x hop
    split at h
    · rename_i id hx
      split at h
      · rename_i es hid
        cases hc : (mapTy P t).isSome
        · rw [hc] at h; cases h
        · rw [hc] at h; simp only [cond_true, Option.some.injEq] at h; subst h
          obtain ⟨⟨kt, et⟩, ht⟩ := Option.isSome_iff_exists.1 hc
          exact OpOk.rangeMap hop ht hx hid
      · cases h
    · cases h
  case h_11 =>
    rename_i c hop
    obtain ⟨callee, args, ats⟩ := c
    split at h
    · rename_i hc
      simp only at hc h; subst hc
      split at h
      · rename_i a b t u ha ht
        have : args = #[a, b] := by apply Array.ext'; simpa using ha
        subst this
        have : ats = #[t, u] := by apply Array.ext'; simpa using ht
        subst this
        split at h
        · rename_i k bytes hk
          obtain ⟨el, i, z, sp, rfl, rfl⟩ := appV_spec hk
          split at h
          · rename_i es2 nn2 tok2 hb
            split at h
            · rename_i es nn tk ha
              split at h
              · rename_i k' hk'
                cases hcc : (Nat.beq t u && Nat.beq k' i.size && headLen i.size es && headLen i.size es2 && Nat.ble ((es.length + es2.length) * i.bytes) 140737488355328 && Nat.ble (es.length + es2.length) 140737488355328)
                · rw [hcc] at h; cases h
                · rw [hcc] at h
                  simp only [cond_true, Option.some.injEq] at h; subst h
                  simp only [Bool.and_eq_true] at hcc
                  obtain ⟨⟨⟨⟨⟨c1, c2⟩, c3⟩, c4⟩, c5⟩, c6⟩ := hcc
                  obtain rfl := Nat.eq_of_beq_eq_true c1
                  obtain rfl := Nat.eq_of_beq_eq_true c2
                  exact OpOk.append hop sp ha hb hk' (headLen_spec c3) (headLen_spec c4) (Nat.le_of_ble_eq_true c5) (Nat.le_of_ble_eq_true c6)
              · cases h
            · rename_i ha
              cases hcc : (Nat.beq t u && headLen i.size es2 && Nat.ble (es2.length * i.bytes) 140737488355328 && Nat.ble es2.length 140737488355328)
              · rw [hcc] at h; cases h
              · rw [hcc] at h
                simp only [cond_true, Option.some.injEq] at h; subst h
                simp only [Bool.and_eq_true] at hcc
                obtain ⟨⟨⟨c1, c4⟩, c5⟩, c6⟩ := hcc
                obtain rfl := Nat.eq_of_beq_eq_true c1
                exact OpOk.appendNil hop sp ha hb (headLen_spec c4) (Nat.le_of_ble_eq_true c5) (Nat.le_of_ble_eq_true c6)
            · cases h
          · cases h
        · cases h
      · cases h
    · exact qq h
  case h_12 => exact qq h
end Go.Qx
