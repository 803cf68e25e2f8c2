import Derived.Test.YtomdgahghdmhbaaGreatDoorQxRun
import Derived.AtR
import Derived.RangeFuncRecord
import Derived.RangeFuncIn
namespace Go.Qx
open Go
set_option linter.unusedVariables false

theorem here_atR (b : Frame) (tm : Array Value) (df : List Deferred) (todo : List Item) : here b tm df todo = b.atR { tmps := tm, defers := df } todo := by
  simp [here, Frame.atR]

theorem putObj_chg {w : World} {b : Nat} {o : Obj} {p : Plc} (hp : ∀ o', p.foot b o') : Chg p w (w.putObj b o) := by
  have hne : ∀ b' o', ¬ p.foot b' o' → b' ≠ b := fun b' o' h e => h (e ▸ hp o')
  refine ⟨rfl, rfl, rfl, by simp, fun b' o' hf => ?_, fun b' hb => ?_⟩
  · have := World.putObj_heap_other (w := w) (o := o) (hne b' o' hf)
    exact ⟨by simp [World.cell?, this], by simp [World.frozen?, this]⟩
  · exact World.putObj_heap_other (hne b' 0 (hb 0))

/-- A loop's record, turned. -/
theorem Sim.loopSet {w : World} {M : Mem} {h : Heap} {n id : Nat} {fn : FuncId} {tm : List V} {ps : List Tmp} {as bd : Code} {bu ov : Bool} {pe : Option Code} {df : Nat} (hs : Sim w M h n)
    (hf : h.find id = .loop fn tm ps as bd bu ov pe df) (bu' ov' : Bool) (pe' : Option Code) :
    ∃ b ys D fo, M id = some (.loop b) ∧ w.heap[b]? = some (.loop { state := if ov then .done else if bu then .busy else .ready, pending := pe, fn := fo, tmps := ys, params := ps.toArray, assign := as, body := bd, defers := D }) ∧
      ys.size = tm.length ∧ (∀ i v, tm[i]? = some v → Rep w M n v (ys.getD i undef)) ∧
      (Sim (w.putObj b (.loop { state := if ov' then .done else if bu' then .busy else .ready, pending := pe', fn := fo, tmps := ys, params := ps.toArray, assign := as, body := bd, defers := D })) M ((id, .loop fn tm ps as bd bu' ov' pe' df) :: h) n ∧
      Tr M w M (w.putObj b (.loop { state := if ov' then .done else if bu' then .busy else .ready, pending := pe', fn := fo, tmps := ys, params := ps.toArray, assign := as, body := bd, defers := D }))) := by
  obtain ⟨b, ys, D, st, fo, hm, hh, rfl, hsz, hD, hr⟩ := hs.loop id _ _ _ _ _ _ _ _ _ hf
  have hlt : b < w.heap.size := (Array.getElem?_eq_some_iff.1 hh).1
  have c : Chg (.loop b) w (w.putObj b (.loop { state := if ov' then .done else if bu' then .busy else .ready, pending := pe', fn := fo, tmps := ys, params := ps.toArray, assign := as, body := bd, defers := D })) := putObj_chg fun _ => rfl
  refine ⟨b, ys, D, fo, hm, hh, hsz, hr, hs.set hm c fun htr => ?_, c.tr hm⟩
  exact ⟨b, ys, D, _, fo, rfl, World.putObj_heap_same hlt, rfl, hsz, hD, fun i v hv => (hr i v hv).tr htr (fun _ _ _ h => h) (Nat.le_refl _)⟩

/-- A loop's record is done with. -/
theorem Sim.loopDead {w : World} {M : Mem} {h : Heap} {n id b : Nat} {o : Obj} (hs : Sim w M h n) (hm : M id = some (.loop b)) :
    Sim (w.putObj b o) M ((id, .dead) :: h) n ∧ Tr M w M (w.putObj b o) := by
  have c : Chg (.loop b) w (w.putObj b o) := putObj_chg fun _ => rfl
  exact ⟨hs.set hm c fun _ => trivial, c.tr hm⟩

theorem Sim.dfrDead {w : World} {M : Mem} {h : Heap} {n id b : Nat} {o : Obj} (hs : Sim w M h n) (hm : M id = some (.dfr b)) :
    Sim (w.putObj b o) M ((id, .dead) :: h) n ∧ Tr M w M (w.putObj b o) := by
  have c : Chg (.dfr b) w (w.putObj b o) := putObj_chg fun _ => rfl
  exact ⟨hs.set hm c fun _ => trivial, c.tr hm⟩

/-! ### Parameters of a round. -/
def setps : List V → List Tmp → List V → List V
  | tm, p :: ps, v :: vs => setps (tm.set p v) ps vs
  | tm, _, _ => tm

theorem setps_rep {w : World} {M : Mem} {n : Nat} : ∀ (ps : List Tmp) (vs : List V) (xs : List Value) (tm : List V) (ys : Array Value), ys.size = tm.length → (∀ i v, tm[i]? = some v → Rep w M n v (ys.getD i undef)) →
    xs.length = vs.length → (∀ (i : Nat) v, vs[i]? = some v → Rep w M n v (xs.getD i undef)) →
    ((ps.zip xs).foldl (fun tmps (p : Tmp × Value) => tmps.setIfInBounds p.1 p.2) ys).size = (setps tm ps vs).length ∧
    ∀ i v, (setps tm ps vs)[i]? = some v → Rep w M n v (((ps.zip xs).foldl (fun tmps (p : Tmp × Value) => tmps.setIfInBounds p.1 p.2) ys).getD i undef)
  | [], vs, xs, tm, ys, h1, h2, h3, h4 => by
    cases vs <;> exact ⟨h1, h2⟩
  | p :: ps, [], xs, tm, ys, h1, h2, h3, h4 => by
    have : xs = [] := by cases xs with
      | nil => rfl
      | cons a r => simp at h3
    subst this
    exact ⟨h1, h2⟩
  | p :: ps, v :: vs, [], tm, ys, h1, h2, h3, h4 => by simp at h3
  | p :: ps, v :: vs, x :: xs, tm, ys, h1, h2, h3, h4 => by
    simp only [List.zip_cons_cons, List.foldl_cons, setps]
    refine setps_rep ps vs xs (tm.set p v) (ys.setIfInBounds p x) (by simp [h1]) (fun i u hu => ?_) (by simpa using h3) (fun i u hu => by
      have := h4 (i + 1) u (by simpa using hu)
      simpa [List.getD_eq_getElem?_getD] using this)
    rw [List.getElem?_set] at hu
    by_cases hpi : p = i
    · subst hpi
      have hlt : p < tm.length := by
        by_cases hlt : p < tm.length
        · exact hlt
        · simp [hlt] at hu
      simp only [hlt, if_true, Option.some.injEq] at hu
      subst hu
      have hlt' : p < ys.size := by rw [h1]; exact hlt
      have := h4 0 v (by simp)
      simpa [Array.getD_eq_getD_getElem?, hlt', List.getD_eq_getElem?_getD] using this
    · simp only [hpi, if_false] at hu
      have := h2 i u hu
      simpa [Array.getD_eq_getD_getElem?, Array.getElem?_setIfInBounds, hpi] using this
end Go.Qx
