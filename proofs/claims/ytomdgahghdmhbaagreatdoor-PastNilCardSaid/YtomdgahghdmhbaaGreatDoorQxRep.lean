import Derived.Test.YtomdgahghdmhbaaGreatDoorQxDefs
namespace Go.Qx
open Go
set_option linter.unusedVariables false

inductive Plc where
  | box (b : Nat)
  | tip (b t e k : Nat)
  | loop (b : Nat)
  | dfr (b : Nat)
  | fr (F : Nat → Nat → Prop)
  | map (b : Nat)
  | mit (b : Nat)
  | arr (b t e k : Nat)

def Plc.foot : Plc → Nat → Nat → Prop
  | .box b', b, _ => b = b'
  | .tip b' t e _, b, o => b = b' ∧ t ≤ o ∧ o < e
  | .loop b', b, _ => b = b'
  | .dfr b', b, _ => b = b'
  | .fr F, b, o => F b o
  | .map b', b, _ => b = b'
  | .mit b', b, _ => b = b'
  | .arr b' t e _, b, o => b = b' ∧ t ≤ o ∧ o < e

abbrev Mem := Nat → Option Plc
def foot (M : Mem) (b o : Nat) : Prop := ∃ id p, M id = some p ∧ p.foot b o

def TokOk (M : Mem) (tok : Option Nat) (n : Nat) (P : (b t e k : Nat) → Prop) : Prop :=
  ∀ t, tok = some t → t < n ∧ ∀ b t' e k, M t = some (.tip b t' e k) → P b t' e k

inductive Rep (w : World) (M : Mem) : Nat → V → Value → Prop
  | any {n : Nat} (x : Value) : Rep w M n .any x
  | raw {n : Nat} (x : Value) : Rep w M n (.raw x) x
  | slNil {n : Nat} {tok : Option Nat} (ht : TokOk M tok n fun _ t e _ => e ≤ t) : Rep w M n (.sl [] false tok) (.slice none 0 0)
  | slE {n : Nat} {nn : Bool} (a : Addr) : Rep w M n (.sl [] nn none) (.slice (some a) 0 0)
  | sl {n : Nat} {es : List V} {nn : Bool} {tok : Option Nat} {b o cap k : Nat} {y : Nat → Value} (hlen : es.length ≤ cap)
      (hk : ∀ e ∈ es, e.cells.length = k)
      (hc : ∀ i, i < es.length * k → w.cell? ⟨b, o + i, none⟩ = some (y i) ∧ ¬ foot M b (o + i))
      (ho : ∀ i, i < es.length * k → (y i).oneCell' = true)
      (hr : ∀ i v, (es.flatMap V.cells)[i]? = some v → Rep w M 0 v (y i))
      (ht : TokOk M tok n fun b' t e k' => (e ≤ t ∧ cap = es.length ∧ (k' = k ∨ es = [])) ∨ (b' = b ∧ k' = k ∧ t = o + es.length * k ∧ e = o + cap * k)) :
      Rep w M n (.sl es nn tok) (.slice (some ⟨b, o, none⟩) es.length cap)
  | ref {n : Nat} {cs : List V} {b o : Nat} {y : Nat → Value}
      (hc : ∀ i, i < cs.length → w.cell? ⟨b, o + i, none⟩ = some (y i) ∧ ¬ foot M b (o + i))
      (ho : ∀ i, i < cs.length → (y i).oneCell' = true)
      (hr : ∀ i v, cs[i]? = some v → Rep w M 0 v (y i)) : Rep w M n (.ref cs) (.pointer (some ⟨b, o, none⟩))
  | ptr {n : Nat} {id off b : Nat} (hid : id < n) (h : ∀ b', M id = some (.box b') → b' = b) : Rep w M n (.ptr id off) (.pointer (some ⟨b, off, none⟩))
  | agg {n : Nat} {vs : List V} {ys : Array Value} (hs : ys.size = vs.length) (ho : ∀ i, i < vs.length → (ys.getD i undef).oneCell' = true) (hr : ∀ i v, vs[i]? = some v → Rep w M n v (ys.getD i undef)) :
      Rep w M n (.agg vs) (.agg ys)
  | tup {n : Nat} {vs : List V} {ys : Array Value} (hs : ys.size = vs.length) (hr : ∀ i v, vs[i]? = some v → Rep w M n v (ys.getD i undef)) :
      Rep w M n (.tup vs) (.tuple ys)
  | fn {n : Nat} {f : Fn} {as bs : List V} {xs ys : Array Value} (hs : xs.size = as.length) (hs' : ys.size = bs.length)
      (hr : ∀ i v, as[i]? = some v → Rep w M n v (xs.getD i undef)) (hr' : ∀ i v, bs[i]? = some v → Rep w M n v (ys.getD i undef)) :
      Rep w M n (.fn f as bs) (.func f xs ys)
  | yld {n : Nat} {id b : Nat} (hid : id < n) (h : ∀ b', M id = some (.loop b') → b' = b) : Rep w M n (.yld id) (.func (.yield b) #[] #[])
  | ifc {n : Nat} {t : TypeId} {v : V} {x : Value} (h : Rep w M n v x) : Rep w M n (.ifc t v) (.iface t x)
  | mref {n : Nat} {id b : Nat} (hid : id < n) (h : ∀ b', M id = some (.map b') → b' = b) : Rep w M n (.mref id) (.map (some b))
  | itp {n : Nat} {id b : Nat} (hid : id < n) (h : ∀ b', M id = some (.mit b') → b' = b) : Rep w M n (.itp id) (.pointer (some ⟨b, 0, none⟩))
  | aslNil {n : Nat} {id : Nat} (hid : id < n) (h : ∀ b t e k, M id = some (.arr b t e k) → e ≤ t) : Rep w M n (.asl id 0) (.slice none 0 0)
  | asl {n : Nat} {id len b o cap : Nat} (hid : id < n) (hl : len ≤ cap) (h : ∀ b' t e k, M id = some (.arr b' t e k) → b' = b ∧ o = t ∧ e = o + cap * k) : Rep w M n (.asl id len) (.slice (some ⟨b, o, none⟩) len cap)
  | eptr {n : Nat} {id i off b o : Nat} (hid : id < n) (h : ∀ b' t e k, M id = some (.arr b' t e k) → b' = b ∧ o = t + i * k + off) : Rep w M n (.eptr id i off) (.pointer (some ⟨b, o, none⟩))

theorem TokOk.mono {M M' : Mem} {tok n n'} {P : Nat → Nat → Nat → Nat → Prop} (h : TokOk M tok n P) (hM : ∀ id p, id < n → M' id = some p → M id = some p) (hn : n ≤ n') : TokOk M' tok n' P := by
  intro t ht
  obtain ⟨h1, h2⟩ := h t ht
  exact ⟨Nat.lt_of_lt_of_le h1 hn, fun b t' e k hm => h2 b t' e k (hM _ _ h1 hm)⟩

/-- What a value is read as stays, if what is not the state's own stays. -/
theorem Rep.mono {w w' : World} {M M' : Mem} {n n' : Nat} {v : V} {x : Value} (h : Rep w M n v x)
    (hw : ∀ b o y, w.cell? ⟨b, o, none⟩ = some y → ¬ foot M b o → w'.cell? ⟨b, o, none⟩ = some y ∧ ¬ foot M' b o)
    (hM : ∀ id p, id < n → M' id = some p → M id = some p) (hn : n ≤ n') : Rep w' M' n' v x := by
  induction h generalizing n' with
  | any x => exact .any x
  | raw x => exact .raw x
  | slNil ht => exact .slNil (ht.mono hM hn)
  | slE a => exact .slE a
  | sl hlen hk hc ho _ ht ih => exact .sl hlen hk (fun i hi => hw _ _ _ (hc i hi).1 (hc i hi).2) ho (fun i v hv => ih i v hv (fun id p h => absurd h (Nat.not_lt_zero id)) (Nat.le_refl 0)) (ht.mono hM hn)
  | ref hc ho _ ih => exact .ref (fun i hi => hw _ _ _ (hc i hi).1 (hc i hi).2) ho (fun i v hv => ih i v hv (fun id p h => absurd h (Nat.not_lt_zero id)) (Nat.le_refl 0))
  | ptr hid h => exact .ptr (Nat.lt_of_lt_of_le hid hn) fun b' hb => h b' (hM _ _ hid hb)
  | agg hs ho _ ih => exact .agg hs ho fun i v hv => ih i v hv hM hn
  | tup hs _ ih => exact .tup hs fun i v hv => ih i v hv hM hn
  | fn hs hs' _ _ ih ih' => exact .fn hs hs' (fun i v hv => ih i v hv hM hn) fun i v hv => ih' i v hv hM hn
  | yld hid h => exact .yld (Nat.lt_of_lt_of_le hid hn) fun b' hb => h b' (hM _ _ hid hb)
  | ifc _ ih => exact .ifc (ih hM hn)
  | mref hid h => exact .mref (Nat.lt_of_lt_of_le hid hn) fun b' hb => h b' (hM _ _ hid hb)
  | itp hid h => exact .itp (Nat.lt_of_lt_of_le hid hn) fun b' hb => h b' (hM _ _ hid hb)
  | aslNil hid h => exact .aslNil (Nat.lt_of_lt_of_le hid hn) fun b t e k hb => h b t e k (hM _ _ hid hb)
  | asl hid hl h => exact .asl (Nat.lt_of_lt_of_le hid hn) hl fun b t e k hb => h b t e k (hM _ _ hid hb)
  | eptr hid h => exact .eptr (Nat.lt_of_lt_of_le hid hn) fun b t e k hb => h b t e k (hM _ _ hid hb)

theorem Rep.up {w : World} {M : Mem} {n n' : Nat} {v : V} {x : Value} (h : Rep w M n v x) (hn : n ≤ n') : Rep w M n' v x :=
  h.mono (fun _ _ _ hy hf => ⟨hy, hf⟩) (fun _ _ _ h => h) hn

theorem Rep.raw_inv {w : World} {M : Mem} {n : Nat} {v x : Value} (h : Rep w M n (.raw v) x) : x = v := by cases h; rfl

theorem Rep.one {w : World} {M : Mem} {n : Nat} {v : V} {x : Value} (h : Rep w M n v x) (ho : v.one = true) : x.oneCell' = true := by
  cases h <;> first | rfl | exact ho | simp [V.one] at ho

theorem Rep.ofValue {w : World} {M : Mem} {n : Nat} (x : Value) : Rep w M n (ofValue x) x := by
  cases x with
  | agg cs =>
    simp only [Qx.ofValue]
    cases hall : cs.toList.all Value.oneCell'
    · exact .any _
    refine .agg (by simp) (fun i hi => ?_) (fun i v hv => ?_)
    · have hi' : i < cs.size := by simpa using hi
      have := List.all_eq_true.1 hall cs[i] (by simp)
      simpa [Array.getD_eq_getD_getElem?, hi'] using this
    · simp only [List.getElem?_map, Array.getElem?_toList, Option.map_eq_some_iff] at hv
      obtain ⟨u, hu, rfl⟩ := hv
      simp only [Array.getD_eq_getD_getElem?, hu, Option.getD_some]
      exact .raw u
  | tuple vs =>
    refine .tup (by simp) (fun i v hv => ?_)
    simp only [List.getElem?_map, Array.getElem?_toList, Option.map_eq_some_iff] at hv
    obtain ⟨u, hu, rfl⟩ := hv
    simp only [Array.getD_eq_getD_getElem?, hu, Option.getD_some]
    exact .raw u
  | _ => exact .raw _

theorem rawList_inv {l : List V} {r : List Value} (h : rawList l = some r) : l = r.map .raw := by
  induction l generalizing r with
  | nil => simp [rawList] at h; subst h; rfl
  | cons v vs ih =>
    cases v <;> simp [rawList] at h
    obtain ⟨r', h1, rfl⟩ := h
    simp [ih h1]

theorem Rep.rawArr {w : World} {M : Mem} {n : Nat} {r : List Value} {ys : Array Value} (hs : ys.size = (r.map V.raw).length)
    (hr : ∀ i v, (r.map V.raw)[i]? = some v → Rep w M n v (ys.getD i undef)) : ys = r.toArray := by
  have hs' : ys.size = r.length := by simpa using hs
  apply Array.ext
  · simpa using hs'
  · intro i h1 h2
    have h3 : i < r.length := by simpa using h2
    have := (hr i (.raw r[i]) (by simp [h3])).raw_inv
    simpa [Array.getD_eq_getD_getElem?, h1] using this

theorem Rep.raw?_inv {w : World} {M : Mem} {n : Nat} {v : V} {x a : Value} (h : Rep w M n v x) (hv : v.raw? = some a) : x = a := by
  cases h with
  | raw => simpa [V.raw?] using hv
  | agg hs ho hr =>
    simp only [V.raw?, Option.map_eq_some_iff] at hv
    obtain ⟨l, hl, rfl⟩ := hv
    have := rawList_inv hl; subst this
    rw [Rep.rawArr hs hr]
  | tup hs hr =>
    simp only [V.raw?, Option.map_eq_some_iff] at hv
    obtain ⟨l, hl, rfl⟩ := hv
    have := rawList_inv hl; subst this
    rw [Rep.rawArr hs hr]
  | fn hs hs' hr hr' =>
    simp only [V.raw?] at hv
    split at hv
    · rename_i a b ha hb
      have h1 := rawList_inv ha; have h2 := rawList_inv hb
      subst h1; subst h2
      rw [Rep.rawArr hs hr, Rep.rawArr hs' hr']
      simpa using hv
    · simp at hv
  | @ifc _ t v' x' h =>
    cases v' <;> simp [V.raw?] at hv
    rw [h.raw_inv]; exact hv
  | _ => simp [V.raw?] at hv

/-- What is not in F, and lay there, is as it was. -/
structure Ext (F : Nat → Nat → Prop) (w w' : World) : Prop where
  os : w'.os = w.os
  tape : w'.tape = w.tape
  output : w'.output = w.output
  size : w.heap.size ≤ w'.heap.size
  cell : ∀ b o, b < w.heap.size → ¬ F b o → w'.cell? ⟨b, o, none⟩ = w.cell? ⟨b, o, none⟩ ∧ w'.frozen? ⟨b, o, none⟩ = w.frozen? ⟨b, o, none⟩
  blk : ∀ b, b < w.heap.size → (∀ o, ¬ F b o) → w'.heap[b]? = w.heap[b]?

structure Tr (M : Mem) (w : World) (M' : Mem) (w' : World) : Prop where
  ext : Ext (foot M) w w'
  fresh : ∀ b o, foot M' b o → foot M b o ∨ w.heap.size ≤ b

theorem Tr.refl (M : Mem) (w : World) : Tr M w M w :=
  ⟨⟨rfl, rfl, rfl, Nat.le_refl _, fun _ _ _ _ => ⟨rfl, rfl⟩, fun _ _ _ => rfl⟩, fun _ _ h => .inl h⟩

theorem Tr.trans {M M' M'' : Mem} {w w' w'' : World} (h : Tr M w M' w') (h' : Tr M' w' M'' w'') : Tr M w M'' w'' := by
  have nf : ∀ b o, b < w.heap.size → ¬ foot M b o → ¬ foot M' b o := fun b o hb hf hf' => by
    rcases h.fresh b o hf' with h1 | h1
    · exact hf h1
    · omega
  refine ⟨⟨h'.ext.os.trans h.ext.os, h'.ext.tape.trans h.ext.tape, h'.ext.output.trans h.ext.output, Nat.le_trans h.ext.size h'.ext.size, ?_, ?_⟩, ?_⟩
  · intro b o hb hf
    have h1 := h.ext.cell b o hb hf
    have h2 := h'.ext.cell b o (Nat.lt_of_lt_of_le hb h.ext.size) (nf b o hb hf)
    exact ⟨h2.1.trans h1.1, h2.2.trans h1.2⟩
  · intro b hb hf
    exact (h'.ext.blk b (Nat.lt_of_lt_of_le hb h.ext.size) fun o => nf b o hb (hf o)).trans (h.ext.blk b hb hf)
  · intro b o hf
    rcases h'.fresh b o hf with h1 | h1
    · exact h.fresh b o h1
    · exact .inr (Nat.le_trans h.ext.size h1)

theorem cell?_lt {w : World} {b o : Nat} {y : Value} (h : w.cell? ⟨b, o, none⟩ = some y) : b < w.heap.size := by
  rcases Nat.lt_or_ge b w.heap.size with h1 | h1
  · exact h1
  · simp [World.cell?, Array.getElem?_eq_none h1] at h

/-- Through a step of the state: a value whose places are all old. -/
theorem Rep.tr {w w' : World} {M M' : Mem} {n n' : Nat} {v : V} {x : Value} (h : Rep w M n v x) (ht : Tr M w M' w')
    (hM : ∀ id p, id < n → M' id = some p → M id = some p) (hn : n ≤ n') : Rep w' M' n' v x := by
  refine h.mono (fun b o y hy hf => ?_) hM hn
  have hb := cell?_lt hy
  refine ⟨(ht.ext.cell b o hb hf).1.trans hy, fun hf' => ?_⟩
  rcases ht.fresh b o hf' with h1 | h1
  · exact hf h1
  · omega

/-- The frame: memory of whoever called, as it was. -/
structure FrOk (w w0 : World) (F : Nat → Nat → Prop) : Prop where
  cell : ∀ b o, F b o → w.cell? ⟨b, o, none⟩ = w0.cell? ⟨b, o, none⟩ ∧ w.frozen? ⟨b, o, none⟩ = w0.frozen? ⟨b, o, none⟩
  blk : ∀ b, (∀ o, F b o) → w.heap[b]? = w0.heap[b]?

/-- What an object says of its place. -/
def ObjOk (w : World) (M : Mem) (n : Nat) (p : Plc) : O → Prop
  | .dead => True
  | .box cs => ∃ b ys el fz, p = .box b ∧ w.heap[b]? = some (.cells ys el fz) ∧ ys.size = cs.length ∧
    (∀ o, w.frozen? ⟨b, o, none⟩ = false) ∧ (∀ i, i < cs.length → (ys.getD i undef).oneCell' = true) ∧ ∀ i v, cs[i]? = some v → Rep w M n v (ys.getD i undef)
  | .own k => ∃ b t e, p = .tip b t e k ∧ ∀ o, t ≤ o → o < e → (∃ y, w.cell? ⟨b, o, none⟩ = some y) ∧ w.frozen? ⟨b, o, none⟩ = false
  | .loop _ tm ps as bd bu ov pe df => ∃ b ys D st fo, p = .loop b ∧
    w.heap[b]? = some (.loop ⟨st, pe, fo, ys, ps.toArray, as, bd, D⟩) ∧ (st = if ov then .done else if bu then .busy else .ready) ∧
    ys.size = tm.length ∧ M df = some (.dfr D) ∧ ∀ i v, tm[i]? = some v → Rep w M n v (ys.getD i undef)
  | .dfr => ∃ b, p = .dfr b ∧ w.heap[b]? = some (.deferred (some []))
  | .fr w0 F => p = .fr F ∧ FrOk w w0 F
  | .map es => ∃ (b : Nat) (ents : Array MapEntry), p = .map b ∧ w.heap[b]? = some (.map ents es.length) ∧ ents.size = es.length ∧
    ∀ i k v, es[i]? = some (k, v) → ∃ x : Value, ents[i]? = some (⟨k, x, i⟩ : MapEntry) ∧ Rep w M n v x
  | .mit mid len seen => ∃ (b m : Nat), p = .mit b ∧ M mid = some (.map m) ∧ w.heap[b]? = some (.mapIter (some m) len seen.toArray len)
  | .arr k es => ∃ (b t e : Nat) (y : Nat → Value), p = .arr b t e k ∧ t + es.length * k ≤ e ∧ (∀ v ∈ es, v.cells.length = k) ∧
    (∀ i, t + i < e → w.cell? ⟨b, t + i, none⟩ = some (y i) ∧ w.frozen? ⟨b, t + i, none⟩ = false) ∧ (∀ i, i < es.length * k → (y i).oneCell' = true) ∧
    ∀ i v, (es.flatMap V.cells)[i]? = some v → Rep w M n v (y i)

structure Sim (w : World) (M : Mem) (h : Heap) (n : Nat) : Prop where
  lt : ∀ id p, M id = some p → id < n
  inb : ∀ id p b o, M id = some p → p.foot b o → b < w.heap.size
  disj : ∀ i j p q b o, M i = some p → M j = some q → p.foot b o → q.foot b o → i = j
  obj : ∀ id, h.find id ≠ .dead → ∃ p, M id = some p ∧ ObjOk w M n p (h.find id)

theorem Sim.box {w : World} {M : Mem} {h : Heap} {n : Nat} (hs : Sim w M h n) : ∀ id cs, h.find id = .box cs → ∃ b ys el fz, M id = some (.box b) ∧ w.heap[b]? = some (.cells ys el fz) ∧ ys.size = cs.length ∧
    (∀ o, w.frozen? ⟨b, o, none⟩ = false) ∧ (∀ i, i < cs.length → (ys.getD i undef).oneCell' = true) ∧ ∀ i v, cs[i]? = some v → Rep w M n v (ys.getD i undef) := by
  intro id cs hid
  obtain ⟨p, hp, hok⟩ := hs.obj id (by rw [hid]; simp)
  rw [hid] at hok
  obtain ⟨b, ys, el, fz, rfl, r⟩ := hok
  exact ⟨b, ys, el, fz, hp, r⟩
theorem Sim.own {w : World} {M : Mem} {h : Heap} {n : Nat} (hs : Sim w M h n) : ∀ id k, h.find id = .own k → ∃ b t e, M id = some (.tip b t e k) ∧ ∀ o, t ≤ o → o < e →
    (∃ y, w.cell? ⟨b, o, none⟩ = some y) ∧ w.frozen? ⟨b, o, none⟩ = false := by
  intro id k hid
  obtain ⟨p, hp, hok⟩ := hs.obj id (by rw [hid]; simp)
  rw [hid] at hok
  obtain ⟨b, t, e, rfl, r⟩ := hok
  exact ⟨b, t, e, hp, r⟩
theorem Sim.loop {w : World} {M : Mem} {h : Heap} {n : Nat} (hs : Sim w M h n) : ∀ id fn tm ps as bd bu ov pe df, h.find id = .loop fn tm ps as bd bu ov pe df → ∃ b ys D st fo, M id = some (.loop b) ∧
    w.heap[b]? = some (.loop ⟨st, pe, fo, ys, ps.toArray, as, bd, D⟩) ∧ (st = if ov then .done else if bu then .busy else .ready) ∧
    ys.size = tm.length ∧ M df = some (.dfr D) ∧ ∀ i v, tm[i]? = some v → Rep w M n v (ys.getD i undef) := by
  intro id fn tm ps as bd bu ov pe df hid
  obtain ⟨p, hp, hok⟩ := hs.obj id (by rw [hid]; simp)
  rw [hid] at hok
  obtain ⟨b, ys, D, st, fo, rfl, r⟩ := hok
  exact ⟨b, ys, D, st, fo, hp, r⟩
theorem Sim.dfr {w : World} {M : Mem} {h : Heap} {n : Nat} (hs : Sim w M h n) : ∀ id, h.find id = .dfr → ∃ b, M id = some (.dfr b) ∧ w.heap[b]? = some (.deferred (some [])) := by
  intro id hid
  obtain ⟨p, hp, hok⟩ := hs.obj id (by rw [hid]; simp)
  rw [hid] at hok
  obtain ⟨b, rfl, r⟩ := hok
  exact ⟨b, hp, r⟩
theorem Sim.fr {w : World} {M : Mem} {h : Heap} {n : Nat} (hs : Sim w M h n) : ∀ id w0 F, h.find id = .fr w0 F → M id = some (.fr F) ∧ FrOk w w0 F := by
  intro id w0 F hid
  obtain ⟨p, hp, hok⟩ := hs.obj id (by rw [hid]; simp)
  rw [hid] at hok
  obtain ⟨rfl, r⟩ := hok
  exact ⟨hp, r⟩
theorem Sim.mapAt {w : World} {M : Mem} {h : Heap} {n : Nat} (hs : Sim w M h n) : ∀ id es, h.find id = .map es → ∃ (b : Nat) (ents : Array MapEntry), M id = some (.map b) ∧ w.heap[b]? = some (.map ents es.length) ∧ ents.size = es.length ∧
    ∀ i k v, es[i]? = some (k, v) → ∃ x : Value, ents[i]? = some (⟨k, x, i⟩ : MapEntry) ∧ Rep w M n v x := by
  intro id es hid
  obtain ⟨p, hp, hok⟩ := hs.obj id (by rw [hid]; simp)
  rw [hid] at hok
  obtain ⟨b, ents, rfl, r⟩ := hok
  exact ⟨b, ents, hp, r⟩
theorem Sim.mitAt {w : World} {M : Mem} {h : Heap} {n : Nat} (hs : Sim w M h n) : ∀ id mid len seen, h.find id = .mit mid len seen → ∃ (b m : Nat), M id = some (.mit b) ∧ M mid = some (.map m) ∧ w.heap[b]? = some (.mapIter (some m) len seen.toArray len) := by
  intro id mid len seen hid
  obtain ⟨p, hp, hok⟩ := hs.obj id (by rw [hid]; simp)
  rw [hid] at hok
  obtain ⟨b, m, rfl, r⟩ := hok
  exact ⟨b, m, hp, r⟩
theorem Sim.arrAt {w : World} {M : Mem} {h : Heap} {n : Nat} (hs : Sim w M h n) : ∀ id k es, h.find id = .arr k es → ∃ (b t e : Nat) (y : Nat → Value), M id = some (.arr b t e k) ∧ t + es.length * k ≤ e ∧ (∀ v ∈ es, v.cells.length = k) ∧
    (∀ i, t + i < e → w.cell? ⟨b, t + i, none⟩ = some (y i) ∧ w.frozen? ⟨b, t + i, none⟩ = false) ∧ (∀ i, i < es.length * k → (y i).oneCell' = true) ∧
    ∀ i v, (es.flatMap V.cells)[i]? = some v → Rep w M n v (y i) := by
  intro id k es hid
  obtain ⟨p, hp, hok⟩ := hs.obj id (by rw [hid]; simp)
  rw [hid] at hok
  obtain ⟨b, t, e, y, rfl, r⟩ := hok
  exact ⟨b, t, e, y, hp, r⟩

def Marks (M : Mem) (h : Heap) : List Nat → List Deferred → Prop
  | [], df => df = []
  | id :: ms, df => h.find id = .dfr ∧ ∃ r df', M id = some (.dfr r) ∧ df = { target := .collected r, args := #[] } :: df' ∧ Marks M h ms df'

structure StRel (st : St) (tm : Array Value) (df : List Deferred) (w : World) (M : Mem) : Prop where
  size : tm.size = st.tmps.length
  tmp : ∀ i v, st.tmps[i]? = some v → Rep w M st.n v (tm.getD i undef)
  sim : Sim w M st.h st.n
  marks : Marks M st.h st.marks df


theorem Marks.mono {M M' : Mem} {h h' : Heap} {ms : List Nat} {df : List Deferred} (hm : Marks M h ms df)
    (hk : ∀ id, id ∈ ms → h.find id = .dfr → h'.find id = .dfr ∧ M' id = M id) : Marks M' h' ms df := by
  induction ms generalizing df with
  | nil => exact hm
  | cons id ms ih =>
    obtain ⟨h1, r, df', h2, h3, h4⟩ := hm
    have hk1 := hk id (List.mem_cons_self ..) h1
    exact ⟨hk1.1, r, df', hk1.2.trans h2, h3, ih h4 fun j hj hf => hk j (List.mem_cons_of_mem _ hj) hf⟩

theorem Marks.dfr {M : Mem} {h : Heap} {ms : List Nat} {df : List Deferred} (hm : Marks M h ms df) : ∀ id, id ∈ ms → h.find id = .dfr := by
  induction ms generalizing df with
  | nil => intro id hid; cases hid
  | cons j ms ih =>
    obtain ⟨h1, r, df', h2, h3, h4⟩ := hm
    intro id hid
    rcases List.mem_cons.1 hid with rfl | hid
    · exact h1
    · exact ih h4 id hid

def tput (tm : Array Value) (d : Option Tmp) (x : Value) : Array Value :=
  match d with
  | some d => tm.setIfInBounds d x
  | none => tm

theorem StRel.put {st : St} {tm : Array Value} {df : List Deferred} {w : World} {M : Mem} (h : StRel st tm df w M) {v : V} {x : Value}
    (hr : Rep w M st.n v x) (d : Option Tmp) : StRel (st.put d v) (tput tm d x) df w M := by
  cases d with
  | none => exact h
  | some d =>
    refine ⟨by simp [St.put, tput, h.size], fun i u hu => ?_, h.sim, h.marks⟩
    simp only [St.put, tput] at hu ⊢
    rw [List.getElem?_set] at hu
    by_cases hd : d = i
    · subst hd
      have hlt : d < st.tmps.length := by
        by_cases hlt : d < st.tmps.length
        · exact hlt
        · simp [hlt] at hu
      simp only [hlt, if_true, Option.some.injEq] at hu
      subst hu
      have hlt' : d < tm.size := by rw [h.size]; exact hlt
      simpa [Array.getD_eq_getD_getElem?, Array.getElem?_setIfInBounds, hlt'] using hr
    · simp only [hd, if_false] at hu
      have := h.tmp i u hu
      simpa [Array.getD_eq_getD_getElem?, Array.getElem?_setIfInBounds, hd] using this

/-- The state through a step of its memory. -/
theorem StRel.tr {st : St} {tm : Array Value} {df : List Deferred} {w w' : World} {M M' : Mem} {h' : Heap} {n' : Nat} (h : StRel st tm df w M) (ht : Tr M w M' w')
    (hM : ∀ id p, id < st.n → M' id = some p → M id = some p) (hn : st.n ≤ n') (hs : Sim w' M' h' n')
    (hk : ∀ id, id ∈ st.marks → st.h.find id = .dfr → h'.find id = .dfr ∧ M' id = M id) :
    StRel { st with h := h', n := n' } tm df w' M' :=
  ⟨h.size, fun i v hv => (h.tmp i v hv).tr ht hM hn, hs, h.marks.mono hk⟩

theorem StRel.opd {st : St} {tm : Array Value} {df : List Deferred} {w : World} {M : Mem} (h : StRel st tm df w M) (x : Operand) :
    Rep w M st.n (st.opd x) (match x with | .tmp t => tm.getD t undef | .const v => v | .global g => .pointer (some ⟨g, 0, none⟩) | .func f => .func (.func f) #[] #[]) := by
  cases x with
  | tmp t =>
    simp only [St.opd, lget_eq]
    cases hv : st.tmps[t]? with
    | none => exact .any _
    | some v => exact h.tmp t v hv
  | const v => exact .ofValue v
  | global g => exact .raw _
  | func f => exact .fn rfl rfl (fun i v hv => by simp at hv) (fun i v hv => by simp at hv)

end Go.Qx
