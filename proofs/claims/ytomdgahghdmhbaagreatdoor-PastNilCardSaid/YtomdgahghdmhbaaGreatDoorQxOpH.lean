import Derived.Test.YtomdgahghdmhbaaGreatDoorQxOpG
import Derived.Laws.Tables
import Derived.Laws.BytesString
namespace Go.Qx
open Go
set_option linter.unusedVariables false

/-! ### A struct or an array built of parts; bytes turned into a string. -/

def placeV (P : Program) (t : TypeId) : Option (Nat → Option (Nat × Nat)) :=
  match P.underlying t with
  | some (.array _ e) => (P.info? e).map fun ie i => some (i * ie.size, ie.size)
  | some (.struct fields) => (fields.toList.mapM (fun f => (P.info? f.type).map fun i => (f.offset, i.size))).map fun places i => places.toArray[i]?
  | _ => none

def buildV (st : St) (place : Nat → Option (Nat × Nat)) : List V → List (Nat × Operand) → Option (List V)
  | cs, [] => some cs
  | cs, (i, x) :: r => match place i with
    | some (off, size) => match stor (st.opd x) with
      | some vs => bif vs.length == size then (match writeV cs off vs with
        | some cs' => buildV st place cs' r
        | none => none) else none
      | none => none
    | none => none

structure CellsRep (w : World) (M : Mem) (n : Nat) (cs : List V) (ys : Array Value) : Prop where
  size : ys.size = cs.length
  one : ∀ i, i < cs.length → (ys.getD i undef).oneCell' = true
  rep : ∀ i v, cs[i]? = some v → Rep w M n v (ys.getD i undef)

theorem CellsRep.write {w : World} {M : Mem} {n : Nat} {cs vs cs' : List V} {ys zs : Array Value} {off : Nat} (h : CellsRep w M n cs ys) (hz : CellsRep w M n vs zs) (hw : writeV cs off vs = some cs') :
    CellsRep w M n cs' (zs.zipIdx.foldl (fun cs (c, j) => cs.setIfInBounds (off + j) c) ys) := by
  unfold writeV at hw
  cases hd : decide (off + vs.length ≤ cs.length)
  · rw [hd] at hw; cases hw
  · rw [hd] at hw
    simp only [cond_true, Option.some.injEq] at hw
    have hle : off + vs.length ≤ cs.length := by simpa using hd
    have hzl : zs.toList.length = vs.length := by simpa using hz.size
    obtain ⟨f1, f2⟩ := foldl_set off zs.toList 0 ys (by rw [hzl, h.size]; omega)
    have e : zs.zipIdx.foldl (fun cs (p : Value × Nat) => cs.setIfInBounds (off + p.2) p.1) ys = (zs.toList.zipIdx 0).foldl (fun cs (p : Value × Nat) => cs.setIfInBounds (off + p.2) p.1) ys := by
      rw [← Array.foldl_toList]; simp
    simp only [Nat.add_zero] at f1 f2
    have e' : (zs.zipIdx.foldl (fun cs (c, j) => cs.setIfInBounds (off + j) c) ys) = zs.zipIdx.foldl (fun cs (p : Value × Nat) => cs.setIfInBounds (off + p.2) p.1) ys := rfl
    rw [e', e]
    have hlen : cs'.length = cs.length := by rw [← hw]; simp; omega
    have hget : ∀ m, ((zs.toList.zipIdx 0).foldl (fun cs (p : Value × Nat) => cs.setIfInBounds (off + p.2) p.1) ys).getD m undef = if off ≤ m ∧ m < off + vs.length then zs.getD (m - off) undef else ys.getD m undef := by
      intro m
      rw [f2 m, hzl]
      split
      · simp [List.getD_eq_getElem?_getD, Array.getD_eq_getD_getElem?]
      · rfl
    refine ⟨by rw [f1, h.size, hlen], fun i hi => ?_, fun i v hv => ?_⟩
    · rw [hget]
      split
      · exact hz.one _ (by omega)
      · exact h.one _ (by omega)
    · rw [← hw, getElem?_write hle] at hv
      rw [hget]
      split
      · rename_i hc; rw [if_pos hc] at hv; exact hz.rep _ _ hv
      · rename_i hc; rw [if_neg hc] at hv; exact h.rep _ _ hv

theorem stor_cells {w : World} {M : Mem} {n : Nat} {v : V} {x : Value} {cs : List V} (h : Rep w M n v x) (hv : stor v = some cs) : CellsRep w M n cs x.cells :=
  let ⟨a, b, c⟩ := stor_rep h hv; ⟨a, b, c⟩

theorem buildV_spec {st : St} {tm : Array Value} {df : List Deferred} {w : World} {M : Mem} (hs : StRel st tm df w M) {place : Nat → Option (Nat × Nat)} : ∀ (r : List (Nat × Operand)) (cs cs' : List V) (ys : Array Value), CellsRep w M st.n cs ys →
    buildV st place cs r = some cs' → ∃ zs, Instr.fill place ys (r.map fun (i, x) => (i, tev tm x)) = some zs ∧ CellsRep w M st.n cs' zs
  | [], cs, cs', ys, h, hb => by simp only [buildV, Option.some.injEq] at hb; subst hb; exact ⟨ys, rfl, h⟩
  | (i, x) :: r, cs, cs', ys, h, hb => by
    simp only [buildV] at hb
    split at hb
    · rename_i off size hp
      split at hb
      · rename_i vs hvs
        cases hl : (vs.length == size)
        · rw [hl] at hb; cases hb
        · rw [hl] at hb
          simp only [cond_true] at hb
          split at hb
          · rename_i cs1 hw
            have hz := stor_cells (hs.opd' x) hvs
            obtain ⟨zs, f1, f2⟩ := buildV_spec hs r cs1 cs' _ (h.write hz hw) hb
            refine ⟨zs, ?_, f2⟩
            have hl' : vs.length = size := by simpa using hl
            have hle : off + vs.length ≤ cs.length := by
              unfold writeV at hw
              cases hd : decide (off + vs.length ≤ cs.length)
              · rw [hd] at hw; cases hw
              · simpa using hd
            simp only [List.map_cons, Instr.fill, hp]
            rw [if_neg (by simp only [hz.size, h.size, hl']; simp; omega)]
            exact f1
          · cases hb
      · cases hb
    · cases hb

theorem OpS.build {P : Program} {o : Oper} {st : St} {t : TypeId} {ps : Array (Nat × Operand)} {place : Nat → Option (Nat × Nat)} {z : Array Value} {cs : List V} (ho : o.op = .build t ps) (hz : zeroOf P t = some z) (hp : placeV P t = some place)
    (hb : buildV st place (rawCells z) ps.toList = some cs) : OpS P o st (.agg cs) := by
  obtain ⟨hall, it, zv, hit, hzv, rfl⟩ := zeroOf_spec hz
  refine ⟨by intro c hc; simp [ho] at hc, fun tm df w M hs => ?_⟩
  have h0 : CellsRep w M st.n (rawCells zv.cells) zv.cells := ⟨by simp [rawCells], fun i hi => all_one hall i (by simpa [rawCells] using hi), rawCells_rep _⟩
  obtain ⟨ys, f1, f2⟩ := buildV_spec hs ps.toList _ _ _ h0 hb
  refine ⟨.agg ys, fun w2 => ?_, .agg f2.size f2.one f2.rep⟩
  have hbuilt : P.built t ((ps.map fun (i, x) => (i, tev tm x)).toList) = some ys := by
    have e : (ps.map fun (i, x) => (i, tev tm x)).toList = ps.toList.map fun (i, x) => (i, tev tm x) := by simp
    rw [e]
    unfold placeV at hp
    unfold Program.built
    rw [hit]
    cases hu : P.underlying t with
    | none => rw [hu] at hp; cases hp
    | some d =>
      rw [hu] at hp
      cases d <;> try (cases hp; done)
      case array k el =>
        simp only [Option.map_eq_some_iff] at hp
        obtain ⟨ie, hie, rfl⟩ := hp
        simp only [hzv, hie]
        exact f1
      case struct fields =>
        simp only [Option.map_eq_some_iff] at hp
        obtain ⟨places, hpl, rfl⟩ := hp
        simp only [hzv, hpl]
        exact f1
  simp only [execOp, ho]
  simp [run_build w2 t _ ys hbuilt]

def strOf (ns : List Int) : ByteArray := ns.foldl (fun r n => r.push (UInt8.ofNat n.toNat)) ByteArray.empty

theorem flat_bytes (ns : List Int) : (ns.map fun n => V.raw (.int .u8 n)).flatMap V.cells = ns.map fun n => V.raw (.int .u8 n) := by
  induction ns with
  | nil => rfl
  | cons a r ih => simp only [List.map_cons, List.flatMap_cons, ih]; rfl

theorem OpQ.bytesString {P : Program} {o : Oper} {st : St} {s d e : TypeId} {x : Operand} {es : List V} {nn : Bool} {tok : Option Nat} {ns : List Int} (ho : o.op = .convert s d x) (hs : P.underlying s = some (.slice e))
    (he : P.underlying e = some (.int .u8)) (hd : P.underlying d = some .string) (hx : st.opd x = .sl es nn tok) (hn : es = ns.map fun n => .raw (.int .u8 n)) : OpQ P o st (.raw (.string (strOf ns))) := by
  refine ⟨by intro c hc; simp [ho] at hc, fun tm df w M hs' => ⟨.string (strOf ns), ?_, .raw _⟩⟩
  have h0 := hs'.opd' x
  rw [hx] at h0
  generalize hq : tev tm x = q at h0
  have run : ∀ a l c, q = .slice a l c → (Conv.bytesToString (.slice a l c)).run P w = .ok (.string (strOf ns)) w → (execOp (tev tm) o).run P w = .ok (.value (.string (strOf ns))) w := by
    intro a l c hqq hr
    simp only [execOp, ho]
    simp [hq, hqq, run_convert_bytes_string w s d e a l c hs he hd, hr]
  cases h0 with
  | slNil =>
    refine run _ _ _ rfl ?_
    have : ns = [] := by cases ns with
      | nil => rfl
      | cons a r => simp at hn
    subst this
    simp [Conv.bytesToString, strOf]
  | slE a =>
    refine run _ _ _ rfl ?_
    have : ns = [] := by cases ns with
      | nil => rfl
      | cons a r => simp at hn
    subst this
    exact run_bytesToString w a 0 0 [] (by simp [loadCells, loadCellsFrom])
  | @sl _ _ _ _ b o cap k y hlen hk hc ho' hr ht =>
    refine run _ _ _ rfl ?_
    refine run_bytesToString w _ _ _ ns ?_
    have hk1 : es ≠ [] → k = 1 := fun hne => by
      cases es with
      | nil => exact absurd rfl hne
      | cons e0 r =>
        have := hk e0 (List.mem_cons_self ..)
        cases ns with
        | nil => simp at hn
        | cons n0 r' => simp only [List.map_cons, List.cons.injEq] at hn; rw [hn.1] at this; simpa [V.cells] using this.symm
    have hfl : es.flatMap V.cells = es := by
      rw [hn]; exact flat_bytes ns
    have hlenk : es.length * k = es.length := by
      cases es with
      | nil => simp
      | cons e0 r => rw [hk1 (by simp)]; omega
    have hy : ∀ j, j < es.length → ∃ n, ns[j]? = some n ∧ y j = .int .u8 n := fun j hj => by
      have hj' : j < ns.length := by rw [hn] at hj; simpa using hj
      refine ⟨ns[j], by simp [hj'], ?_⟩
      have := hr j (.raw (.int .u8 ns[j])) (by rw [hfl, hn]; simp [hj'])
      exact this.raw_inv
    have hl := run_loadCells (P := P) w ⟨b, o, none⟩ es.length y (fun j hj => by rw [add_at]; exact (hc j (by omega)).1)
    rw [hl]
    congr 1
    apply Array.ext'
    simp only
    apply List.ext_getElem?
    intro j
    by_cases hj : j < es.length
    · obtain ⟨n, h1, h2⟩ := hy j hj
      simp [hj, h1, h2]
    · have : ns.length ≤ j := by rw [hn] at hj; simpa using hj
      simp [hj, this]

end Go.Qx
