import Derived.Test.YtomdgahghdmhbaaGreatDoorQxOpE
namespace Go.Qx
open Go
set_option linter.unusedVariables false

/-- A new row, told as a slice; what stands behind its elements is its room. -/
theorem StRel.newRow {st : St} {tm : Array Value} {df : List Deferred} {w w1 : World} {M : Mem} (h : StRel st tm df w M) (g : Grow w w1) (hsz1 : w1.heap.size = w.heap.size) {es : List V} {cells : Array Value} {k cap : Nat} (nn : Bool) (e : TypeId)
    (hlen : es.length ≤ cap) (hk : ∀ e ∈ es, e.cells.length = k) (hs : cells.size = cap * k) (ho : ∀ i, i < es.length * k → (cells.getD i undef).oneCell' = true)
    (hr : ∀ i v, (es.flatMap V.cells)[i]? = some v → Rep w M 0 v (cells.getD i undef)) :
    ∃ M', StRel (st.new (.own k)) tm df (w1.alloc (.cells cells e)) M' ∧ Tr M w M' (w1.alloc (.cells cells e)) ∧
      Rep (w1.alloc (.cells cells e)) M' (st.n + 1) (.sl es nn (some st.n)) (.slice (some ⟨w.heap.size, 0, none⟩) es.length cap) ∧ Old M st.h st.n M' (st.new (.own k)).h (st.new (.own k)).n := by
  have hmul : es.length * k ≤ cap * k := Nat.mul_le_mul_right k hlen
  have g2 := g.trans (Grow.alloc w1 (.cells cells e))
  have hsz2 : (w1.alloc (.cells cells e)).heap.size = w.heap.size + 1 := by rw [size_alloc', hsz1]
  have hcell : ∀ i, i < cells.size → (w1.alloc (.cells cells e)).cell? ⟨w.heap.size, i, none⟩ = some (cells.getD i undef) := fun i hi => by
    rw [← hsz1, cell_alloc']; simp [Array.getD_eq_getD_getElem?, hi]
  have hfroz : ∀ i, (w1.alloc (.cells cells e)).frozen? ⟨w.heap.size, i, none⟩ = false := fun i => by rw [← hsz1]; exact frozen_alloc' _ _ _ _
  have := h.new g2 (.tip w.heap.size (es.length * k) (cap * k) k) (.own k) (fun b o hb => by cases hb.1; rw [hsz2]; omega) (fun ht =>
    ⟨w.heap.size, es.length * k, cap * k, rfl, fun o h1 h2 => ⟨⟨_, hcell o (by omega)⟩, hfroz o⟩⟩)
  refine ⟨_, this.1, this.2, .sl (k := k) (y := fun i => cells.getD i undef) hlen hk (fun i hi => ⟨by rw [Nat.zero_add]; exact hcell i (by omega), ?_⟩) ho (fun i v hv => (hr i v hv).tr this.2 (fun id q h => absurd h (Nat.not_lt_zero _)) (Nat.le_refl 0)) ?_, Old.new h.sim _ _⟩
  · intro hf
    rcases foot_upd hf with h1 | ⟨q, hq, h1⟩
    · obtain ⟨id, p, hp, hf'⟩ := h1
      exact absurd (h.sim.inb id p _ _ hp hf') (Nat.lt_irrefl _)
    · cases hq; have := h1.2.1; omega
  · intro t ht
    cases ht
    refine ⟨Nat.lt_succ_self _, fun b t' e' k' hm => ?_⟩
    rw [upd_same] at hm
    simp only [Option.some.injEq, Plc.tip.injEq] at hm
    obtain ⟨rfl, rfl, rfl, rfl⟩ := hm
    exact .inr ⟨rfl, rfl, by omega, by omega⟩

/-! ### A slice written out. -/
/-- The parts, all of them, in their order. -/
def partsV (st : St) : Nat → List (Nat × Operand) → Option (List V)
  | _, [] => some []
  | i, (j, x) :: r => bif i == j then
      match (st.opd x).clean, partsV st (i + 1) r with
      | some v, some vs => some (v :: vs)
      | _, _ => none
    else none

theorem Rep.clean {w : World} {M : Mem} {n : Nat} {v v' : V} {x : Value} (h : Rep w M n v x) (hc : v.clean = some v') : (∀ m, Rep w M m v' x) ∧ v'.cells.length = v.cells.length := by
  induction h generalizing v' with
  | any => simp [V.clean] at hc
  | raw x => simp [V.clean] at hc; subst hc; exact ⟨fun _ => .raw x, rfl⟩
  | slNil ht => simp [V.clean] at hc; subst hc; exact ⟨fun _ => .slNil (fun t ht => by cases ht), rfl⟩
  | slE a => simp [V.clean] at hc; subst hc; exact ⟨fun _ => .slE a, rfl⟩
  | sl hlen hk hc' ho hr ht => simp [V.clean] at hc; subst hc; exact ⟨fun _ => .sl hlen hk hc' ho hr (fun t ht => by cases ht), rfl⟩
  | ref hc' ho hr => simp [V.clean] at hc; subst hc; exact ⟨fun _ => .ref hc' ho hr, rfl⟩
  | ptr => simp [V.clean] at hc
  | @agg _ vs ys hs ho hr ih =>
    simp only [V.clean, Option.map_eq_some_iff] at hc
    obtain ⟨vs', hvs, rfl⟩ := hc
    have key : ∀ (vs vs' : List V), V.clean.cleans vs = some vs' → vs'.length = vs.length ∧ ∀ (i : Nat) (u : V), vs'[i]? = some u → ∃ u0 : V, vs[i]? = some u0 ∧ u0.clean = some u := by
      intro vs
      induction vs with
      | nil => intro vs' h; simp [V.clean.cleans] at h; subst h; simp
      | cons a r ihr =>
        intro vs' h
        simp only [V.clean.cleans] at h
        split at h
        · rename_i a' r' ha hr'
          simp only [Option.some.injEq] at h; subst h
          obtain ⟨h1, h2⟩ := ihr r' hr'
          refine ⟨by simp [h1], fun i u hu => ?_⟩
          cases i with
          | zero => simp at hu; subst hu; exact ⟨a, by simp, ha⟩
          | succ i => simpa using h2 i u (by simpa using hu)
        · simp at h
    obtain ⟨hl, hg⟩ := key vs vs' hvs
    refine ⟨fun m => .agg (by rw [hl]; exact hs) (by rw [hl]; exact ho) (fun i u hu => ?_), by simp [V.cells, hl]⟩
    obtain ⟨u0, hu0, hcu⟩ := hg i u hu
    exact (ih i u0 hu0 hcu).1 m
  | tup => simp [V.clean] at hc
  | fn => simp [V.clean] at hc
  | yld => simp [V.clean] at hc
  | mref => simp [V.clean] at hc
  | itp => simp [V.clean] at hc
  | aslNil => simp [V.clean] at hc
  | asl => simp [V.clean] at hc
  | eptr => simp [V.clean] at hc
  | @ifc _ t v x h ih =>
    simp only [V.clean, Option.map_eq_some_iff] at hc
    obtain ⟨u, hu, rfl⟩ := hc
    exact ⟨fun m => .ifc ((ih hu).1 m), rfl⟩

/-! #### The model's own fill. -/
theorem foldl_set (off : Nat) : ∀ (l : List Value) (s : Nat) (cells : Array Value), off + s + l.length ≤ cells.size →
    ((l.zipIdx s).foldl (fun cs (p : Value × Nat) => cs.setIfInBounds (off + p.2) p.1) cells).size = cells.size ∧
    ∀ m, ((l.zipIdx s).foldl (fun cs (p : Value × Nat) => cs.setIfInBounds (off + p.2) p.1) cells).getD m undef = if off + s ≤ m ∧ m < off + s + l.length then l.getD (m - (off + s)) undef else cells.getD m undef
  | [], s, cells, h => ⟨rfl, fun m => by rw [if_neg (by simp)]; rfl⟩
  | v :: r, s, cells, h => by
    simp only [List.zipIdx_cons, List.foldl_cons, List.length_cons] at h ⊢
    obtain ⟨h1, h2⟩ := foldl_set off r (s + 1) (cells.setIfInBounds (off + s) v) (by simp; omega)
    refine ⟨by rw [h1]; simp, fun m => ?_⟩
    rw [h2 m]
    by_cases hm : m = off + s
    · subst hm
      rw [if_neg (by omega), if_pos (by omega)]
      have : off + s < cells.size := by omega
      simp [Array.getD_eq_getD_getElem?, this]
    · by_cases hin : off + (s + 1) ≤ m ∧ m < off + (s + 1) + r.length
      · rw [if_pos hin, if_pos (by omega)]
        obtain ⟨j, rfl⟩ : ∃ j, m = off + s + 1 + j := ⟨m - (off + s + 1), by omega⟩
        rw [show off + s + 1 + j - (off + (s + 1)) = j by omega, show off + s + 1 + j - (off + s) = j + 1 by omega]
        simp
      · rw [if_neg hin, if_neg (by omega)]
        simp [Array.getD_eq_getD_getElem?, Ne.symm hm]

theorem fill_spec (k : Nat) : ∀ (r : List (Nat × Value)) (i : Nat) (cells : Array Value), (∀ j p, r[j]? = some p → p.1 = i + j ∧ p.2.cells.size = k) → (i + r.length) * k ≤ cells.size →
    ∃ cells', Instr.fill (fun i => some (i * k, k)) cells r = some cells' ∧ cells'.size = cells.size ∧
      ∀ m, cells'.getD m undef = if i * k ≤ m ∧ m < (i + r.length) * k then (r.flatMap fun p => p.2.cells.toList).getD (m - i * k) undef else cells.getD m undef
  | [], i, cells, h, hl => ⟨cells, rfl, rfl, fun m => by rw [if_neg (by simp)]⟩
  | (j, v) :: r, i, cells, h, hl => by
    obtain ⟨h1, h2⟩ := h 0 (j, v) (by simp)
    simp only [Nat.add_zero] at h1 h2
    subst h1
    have hmul : (j + 1) * k ≤ (j + (r.length + 1)) * k := Nat.mul_le_mul_right k (by omega)
    simp only [List.length_cons] at hl
    rw [Nat.succ_mul] at hmul
    have hlen : v.cells.toList.length = k := by simpa using h2
    obtain ⟨f1, f2⟩ := foldl_set (j * k) v.cells.toList 0 cells (by rw [hlen]; omega)
    simp only [Nat.add_zero] at f1 f2
    obtain ⟨cells', g1, g2, g3⟩ := fill_spec k r (j + 1) _ (fun m p hp => by
        have := h (m + 1) p (by simpa using hp)
        exact ⟨by omega, this.2⟩) (by rw [f1]; rw [show j + 1 + r.length = j + (r.length + 1) by omega]; exact hl)
    refine ⟨cells', ?_, g2.trans f1, fun m => ?_⟩
    · simp only [Instr.fill, h2]
      rw [if_neg (by simp; omega)]
      have e : v.cells.zipIdx.foldl (fun cs (p : Value × Nat) => cs.setIfInBounds (j * k + p.2) p.1) cells = (v.cells.toList.zipIdx 0).foldl (fun cs (p : Value × Nat) => cs.setIfInBounds (j * k + p.2) p.1) cells := by
        rw [← Array.foldl_toList]; simp
      rw [← e] at g1
      exact g1
    · rw [g3 m]
      simp only [List.length_cons, List.flatMap_cons]
      rw [show j + 1 + r.length = j + (r.length + 1) by omega]
      by_cases hm : (j + 1) * k ≤ m ∧ m < (j + (r.length + 1)) * k
      · rw [if_pos hm, if_pos ⟨by have := hm.1; rw [Nat.succ_mul] at this; omega, hm.2⟩]
        rw [Nat.succ_mul] at hm ⊢
        simp only [List.getD_eq_getElem?_getD]
        rw [List.getElem?_append_right (by rw [hlen]; omega), hlen]
        congr 2; omega
      · rw [if_neg hm, f2 m, hlen]
        by_cases hm2 : j * k ≤ m ∧ m < j * k + k
        · rw [if_pos hm2, if_pos ⟨hm2.1, by omega⟩]
          simp only [List.getD_eq_getElem?_getD]
          rw [List.getElem?_append_left (by rw [hlen]; omega)]
        · rw [if_neg hm2, if_neg (by rw [Nat.succ_mul] at hm; omega)]

theorem partsV_spec {st : St} {tm : Array Value} {df : List Deferred} {w : World} {M : Mem} (hs : StRel st tm df w M) {k : Nat} : ∀ (r : List (Nat × Operand)) (i : Nat) (vs : List V), partsV st i r = some vs → (∀ v ∈ vs, v.cells.length = k) → (∀ v ∈ vs, stor v ≠ none) →
    vs.length = r.length ∧ (∀ j p, (r.map fun (i, x) => (i, tev tm x))[j]? = some p → p.1 = i + j ∧ p.2.cells.size = k) ∧
    (∀ m, m < vs.length * k → Value.oneCell' (((r.map fun (i, x) => (i, tev tm x)).flatMap fun p => p.2.cells.toList).getD m undef) = true) ∧
    ∀ m u, (vs.flatMap V.cells)[m]? = some u → Rep w M 0 u (((r.map fun (i, x) => (i, tev tm x)).flatMap fun p => p.2.cells.toList).getD m undef)
  | [], i, vs, h, hk, hst => by simp [partsV] at h; subst h; simp
  | (j, x) :: r, i, vs, h, hk, hst => by
    simp only [partsV, cond_eq_ite] at h
    split at h
    · rename_i hij
      have hij : i = j := by simpa using hij
      subst hij
      split at h
      · rename_i v vs' hv hvs
        simp only [Option.some.injEq] at h; subst h
        have hrep := (hs.opd' x).clean hv
        cases hsv : stor v with
        | none => exact absurd hsv (hst v (List.mem_cons_self ..))
        | some cs =>
          obtain ⟨s1, s2, s3⟩ := stor_rep (hrep.1 0) hsv
          have hcs : cs = v.cells := by
            by_cases hagg : ∃ ws, v = .agg ws
            · obtain ⟨ws, rfl⟩ := hagg; simp [stor] at hsv; exact hsv.symm
            · have := (stor_one (fun ws hws => hagg ⟨ws, hws⟩) hsv).2
              rw [this]; cases v <;> first | rfl | exact absurd ⟨_, rfl⟩ hagg
          subst hcs
          have hkv : v.cells.length = k := hk v (List.mem_cons_self ..)
          obtain ⟨i1, i2, i3, i4⟩ := partsV_spec hs r (i + 1) vs' hvs (fun u hu => hk u (List.mem_cons_of_mem _ hu)) (fun u hu => hst u (List.mem_cons_of_mem _ hu))
          have hl : (tev tm x).cells.toList.length = k := by simp [s1, hkv]
          refine ⟨by simp [i1], fun m p hp => ?_, fun m hm => ?_, fun m u hu => ?_⟩
          · cases m with
            | zero => simp at hp; subst hp; exact ⟨rfl, by simp [s1, hkv]⟩
            | succ m =>
              have := i2 m p (by simpa using hp)
              exact ⟨by omega, this.2⟩
          · simp only [List.map_cons, List.flatMap_cons, List.getD_eq_getElem?_getD]
            simp only [List.length_cons, Nat.succ_mul] at hm
            by_cases hmk : m < k
            · rw [List.getElem?_append_left (by omega)]
              have := s2 m (by omega)
              simpa [Array.getD_eq_getD_getElem?] using this
            · rw [List.getElem?_append_right (by omega), hl]
              have := i3 (m - k) (by omega)
              simpa [List.getD_eq_getElem?_getD] using this
          · simp only [List.flatMap_cons] at hu
            simp only [List.map_cons, List.flatMap_cons, List.getD_eq_getElem?_getD]
            by_cases hmk : m < k
            · rw [List.getElem?_append_left (by omega)] at hu
              rw [List.getElem?_append_left (by omega)]
              have := s3 m u hu
              simpa [Array.getD_eq_getD_getElem?] using this
            · rw [List.getElem?_append_right (by omega), hkv] at hu
              rw [List.getElem?_append_right (by omega), hl]
              have := i4 (m - k) u hu
              simpa [List.getD_eq_getElem?_getD] using this
      · simp at h
    · simp at h

theorem OpOk.buildSlice {P : Program} {o : Oper} {st : St} {t el : TypeId} {len : Nat} {ps : Array (Nat × Operand)} {i : TypeInfo} {vs : List V} (ho : o.op = .buildSlice t len ps)
    (hu : P.underlying t = some (.slice el)) (hi : P.info? el = some i) (hps : partsV st 0 ps.toList = some vs) (hlen : vs.length = len) (hk : ∀ v ∈ vs, v.cells.length = i.size) (hst : ∀ v ∈ vs, stor v ≠ none)
    (hz : vs = [] ∨ ∃ z, zeroOf P el = some z ∧ z.size = i.size) (hsmall : len * i.size ≤ 16777216) :
    OpOk P o st ((st.new (.own i.size)).put o.dst (.sl vs true (some st.n))) := by
  refine OpOk.value (by intro c hc; simp [ho] at hc) fun tm df w M hs => ?_
  obtain ⟨p1, p2, p3, p4⟩ := partsV_spec hs ps.toList 0 vs hps hk hst
  have hnl : ps.toList.length = len := by rw [← p1, hlen]
  have key : ∀ (z : Array Value), (len * i.size = 0 ∨ z.size = i.size) → ((len * i.size = 0 ∧ z = #[]) ∨ (len * i.size ≠ 0 ∧ ∃ zv : Value, (zeroValue el).run P w = .ok zv w ∧ zv.cells = z)) →
      ∃ x w' M', (execOp (tev tm) o).run P w = .ok (.value x) w' ∧ StRel (st.new (.own i.size)) tm df w' M' ∧ Tr M w M' w' ∧ Rep w' M' (st.n + 1) (.sl vs true (some st.n)) x ∧ Old M st.h st.n M' (st.new (.own i.size)).h (st.new (.own i.size)).n := by
    intro z hzs hzr
    obtain ⟨cells, f1, f2, f3⟩ := fill_spec i.size (ps.toList.map fun (i, x) => (i, tev tm x)) 0 ((Array.range (len * i.size)).map (z[· % z.size]!)) p2 (by simp [hnl])
    have hcs : cells.size = len * i.size := by rw [f2]; simp
    have hg : ∀ m, m < len * i.size → cells.getD m undef = ((ps.toList.map fun (i, x) => (i, tev tm x)).flatMap fun p => p.2.cells.toList).getD m undef := fun m hm => by
      rw [f3 m, if_pos ⟨by simp, by simp only [Nat.zero_add, List.length_map, hnl]; exact hm⟩]; simp
    obtain ⟨M', h1, h2, h3, h4⟩ := hs.newRow (Grow.refl w) rfl (es := vs) (cells := cells) (k := i.size) (cap := len) true el (by omega) hk hcs (fun m hm => by rw [hg m (by rwa [hlen] at hm)]; exact p3 m hm) (fun m v hv => by
      have hm : m < vs.length * i.size := by
        rw [← flat_len hk]
        rcases Nat.lt_or_ge m (vs.flatMap V.cells).length with h | h
        · exact h
        · simp [List.getElem?_eq_none h] at hv
      rw [hg m (by rwa [hlen] at hm)]; exact p4 m v hv)
    refine ⟨_, _, M', ?_, h1, h2, h3, h4⟩
    have e : (ps.map fun (i, x) => (i, tev tm x)).toList = ps.toList.map fun (i, x) => (i, tev tm x) := by simp
    simp only [execOp, ho]
    simp only [Instr.buildSlice, Sem.run_bind, run_underlying hu, Result.andThen_ok, sizeOf, typeInfo, run_program, hi, Sem.run_pure]
    rw [if_neg (by omega)]
    rw [← e] at f1
    rcases hzr with ⟨h0, rfl⟩ | ⟨h0, zv, hzv, rfl⟩
    · rw [if_pos h0]
      simp only [pure_bind, f1]
      simp [newRow, hlen]
    · rw [if_neg h0]
      simp only [pure_bind, Sem.run_bind, hzv, Result.andThen_ok, f1]
      simp [newRow, hlen]
  rcases hz with hz | ⟨z, hz, hzs⟩
  · subst hz
    have : len = 0 := by simpa using hlen.symm
    subst this
    exact key #[] (.inl (by simp)) (.inl ⟨by simp, rfl⟩)
  · by_cases h0 : len * i.size = 0
    · exact key #[] (.inl h0) (.inl ⟨h0, rfl⟩)
    · obtain ⟨_, i', zv, hi', hzv, rfl⟩ := zeroOf_spec hz
      exact key zv.cells (.inr hzs) (.inr ⟨h0, zv, by simp [zeroValue, typeInfo, hi', hzv], rfl⟩)

end Go.Qx
