import Derived.Test.YtomdgahghdmhbaaGreatDoorQxOpA
namespace Go.Qx
open Go
set_option linter.unusedVariables false

theorem size_alloc' (w : World) (o : Obj) : (w.alloc o).heap.size = w.heap.size + 1 := by show (w.heap.push o).size = _; simp
theorem heap_alloc' (w : World) (o : Obj) : (w.alloc o).heap[w.heap.size]? = some o := by show (w.heap.push o)[w.heap.size]? = _; simp
theorem frozen_alloc' (w : World) (cs : Array Value) (e : TypeId) (o : Nat) : (w.alloc (.cells cs e)).frozen? ⟨w.heap.size, o, none⟩ = false := by
  simp only [World.frozen?, heap_alloc']
  simp
theorem cell_alloc' (w : World) (cs : Array Value) (e : TypeId) (o : Nat) : (w.alloc (.cells cs e)).cell? ⟨w.heap.size, o, none⟩ = cs[o]? := by
  simp only [World.cell?, heap_alloc']
  simp

/-- A new box. -/
theorem StRel.newBox {st : St} {tm : Array Value} {df : List Deferred} {w : World} {M : Mem} (h : StRel st tm df w M) {cs : List V} {ys : Array Value} (e : TypeId)
    (hs : ys.size = cs.length) (ho : ∀ i, i < cs.length → (ys.getD i undef).oneCell' = true) (hr : ∀ i v, cs[i]? = some v → Rep w M st.n v (ys.getD i undef)) :
    ∃ M', StRel (st.new (.box cs)) tm df (w.alloc (.cells ys e)) M' ∧ Tr M w M' (w.alloc (.cells ys e)) ∧
      Rep (w.alloc (.cells ys e)) M' (st.n + 1) (.ptr st.n 0) (.pointer (some ⟨w.heap.size, 0, none⟩)) ∧ Old M st.h st.n M' (st.new (.box cs)).h (st.new (.box cs)).n := by
  have := h.new (Grow.alloc w (.cells ys e)) (.box w.heap.size) (.box cs) (fun b o hb => by cases hb; rw [size_alloc']; omega) (fun ht =>
    ⟨w.heap.size, ys, e, (0, 0), rfl, heap_alloc' _ _, hs, fun o => frozen_alloc' _ _ _ _, ho, fun i v hv => (hr i v hv).tr ht (fun id q => upd_old id q) (Nat.le_succ _)⟩)
  exact ⟨_, this.1, this.2, .ptr (Nat.lt_succ_self _) fun b' hb => by rw [upd_same] at hb; simpa using hb.symm, Old.new h.sim _ _⟩

def rawCells (ys : Array Value) : List V := ys.toList.map .raw

theorem rawCells_rep {w : World} {M : Mem} {n : Nat} (ys : Array Value) : ∀ i v, (rawCells ys)[i]? = some v → Rep w M n v (ys.getD i undef) := by
  intro i v hv
  simp only [rawCells, List.getElem?_map, Array.getElem?_toList, Option.map_eq_some_iff] at hv
  obtain ⟨u, hu, rfl⟩ := hv
  simp only [Array.getD_eq_getD_getElem?, hu, Option.getD_some]
  exact .raw u

theorem all_one {ys : Array Value} (h : ys.toList.all Value.oneCell' = true) : ∀ i, i < ys.size → (ys.getD i undef).oneCell' = true := by
  intro i hi
  have := List.all_eq_true.1 h ys[i] (by simp)
  simpa [Array.getD_eq_getD_getElem?, hi] using this

def zeroOf (P : Program) (t : TypeId) : Option (Array Value) :=
  match P.info? t with
  | some i => match i.zero with
    | some z => bif z.cells.toList.all Value.oneCell' then some z.cells else none
    | none => none
  | none => none

theorem zeroOf_spec {P : Program} {t : TypeId} {z : Array Value} (h : zeroOf P t = some z) :
    z.toList.all Value.oneCell' = true ∧ ∃ i zv, P.info? t = some i ∧ i.zero = some zv ∧ zv.cells = z := by
  unfold zeroOf at h
  split at h
  · rename_i i hi
    split at h
    · rename_i zv hz
      cases hall : zv.cells.toList.all Value.oneCell' <;> simp [hall] at h
      subst h
      exact ⟨hall, i, zv, hi, hz, rfl⟩
    · simp at h
  · simp at h

theorem OpOk.alloc {P : Program} {o : Oper} {st : St} {t : TypeId} {z : Array Value} (h : o.op = .alloc t) (hz : zeroOf P t = some z) :
    OpOk P o st ((st.new (.box (rawCells z))).put o.dst (.ptr st.n 0)) := by
  obtain ⟨hone, i, zv, hi, hzv, rfl⟩ := zeroOf_spec hz
  refine OpOk.value (by intro c hc; simp [h] at hc) fun tm df w M hs => ?_
  obtain ⟨M', hs', ht, hp, hold⟩ := hs.newBox (cs := rawCells zv.cells) (ys := zv.cells) t (by simp [rawCells]) (fun i hi => all_one hone i (by simpa [rawCells] using hi)) (rawCells_rep _)
  refine ⟨_, _, M', ?_, hs', ht, hp, hold⟩
  simp only [execOp, h]
  simp [Instr.alloc, zeroValue, typeInfo, hi, hzv, newVar, newRow]

/-- The cells of a value that may be stored. -/
def stor (v : V) : Option (List V) :=
  match v with
  | .agg cs => some cs
  | v => bif v.one then some [v] else none

theorem stor_one {v : V} {cs : List V} (hn : ∀ vs, v ≠ .agg vs) (h : stor v = some cs) : v.one = true ∧ cs = [v] := by
  have h' : (bif v.one then some [v] else none) = some cs := by
    rw [← h]; cases v <;> first | rfl | exact absurd rfl (hn _)
  cases h1 : v.one
  · simp [h1] at h'
  · simp [h1] at h'; exact ⟨rfl, h'.symm⟩

theorem stor_rep {w : World} {M : Mem} {n : Nat} {v : V} {x : Value} {cs : List V} (h : Rep w M n v x) (hv : stor v = some cs) :
    x.cells.size = cs.length ∧ (∀ i, i < cs.length → (x.cells.getD i undef).oneCell' = true) ∧ ∀ i u, cs[i]? = some u → Rep w M n u (x.cells.getD i undef) := by
  have gen : ∀ v', v' = v → v'.one = true → cs = [v'] → x.cells.size = cs.length ∧ (∀ i, i < cs.length → (x.cells.getD i undef).oneCell' = true) ∧ ∀ i u, cs[i]? = some u → Rep w M n u (x.cells.getD i undef) := by
    intro v' hv' ho hc
    subst hv'; subst hc
    have h1 := h.one ho
    have hx : x.cells = #[x] := by cases x <;> first | rfl | simp [Value.oneCell'] at h1
    rw [hx]
    refine ⟨rfl, fun i hi => ?_, fun i u hu => ?_⟩
    · have : i = 0 := by simpa using hi
      subst this; simpa using h1
    · cases i with
      | zero => simp at hu; subst hu; simpa using h
      | succ i => simp at hu
  by_cases hagg : ∃ vs, v = .agg vs
  · obtain ⟨vs, rfl⟩ := hagg
    simp only [stor, Option.some.injEq] at hv; subst hv
    cases h with
    | agg hs ho hr => exact ⟨hs, ho, hr⟩
  · obtain ⟨h1, h2⟩ := stor_one (fun vs hvs => hagg ⟨vs, hvs⟩) hv
    exact gen v rfl h1 h2

end Go.Qx
