import Derived.Test.YtnfciikhdcnhbaaGreatDoorFbLaw0
import Derived.Test.YtnfciikhdcnhbaaGreatDoorRows
import Derived.Deep.Slices
import Derived.ChangeSlices
import Derived.ProofKit
import Derived.DataShut
import Derived.OpenShut
namespace Go.Proofs.YtnfciikhdcnhbaaGreatDoor
open Go Go.Px Go.ChangeShapes Go.WideShapes Go.Deep
set_option linter.unusedVariables false

theorem noFoot (b o : Nat) : ¬ foot (fun _ => none) b o := by rintro ⟨id, p, h, _⟩; cases h
theorem noTok {n : Nat} {Q : Nat → Nat → Nat → Nat → Prop} : TokOk (fun _ => none) none n Q := fun t h => by cases h

theorem bulk_lits {H : Type} (k : IntKind) : ∀ (zs : List Int), Rows.uptoBulkAll (lits (H := H) k zs) = zs.length
  | [] => rfl
  | z :: zs => by
    have := bulk_lits (H := H) k zs
    simp only [lits, List.map_cons, Rows.uptoBulkAll, Rows.uptoBulk, List.length_cons] at this ⊢
    omega

theorem bulk_range {H : Type} (D : Nat → DataW H) (f : Nat → Nat) : ∀ (n : Nat), (∀ i, i < n → f i ≤ Rows.uptoBulk (D i)) → ((List.range n).map f).sum ≤ Rows.uptoBulkAll ((List.range n).map D) := by
  have key : ∀ (l : List Nat), (∀ i ∈ l, f i ≤ Rows.uptoBulk (D i)) → (l.map f).sum ≤ Rows.uptoBulkAll (l.map D) := by
    intro l
    induction l with
    | nil => intro _; simp [Rows.uptoBulkAll]
    | cons a r ih =>
      intro h
      have h1 := h a (List.mem_cons_self ..)
      have h2 := ih fun i hi => h i (List.mem_cons_of_mem _ hi)
      simp only [List.map_cons, List.sum_cons, Rows.uptoBulkAll]
      omega
  exact fun n h => key _ fun i hi => h i (List.mem_range.1 hi)

theorem cells5 : Tryz.prog.cellsOf 5 = 1 := by kernel_rfl
theorem cells24 : Tryz.prog.cellsOf 24 = 1 := by kernel_rfl

theorem byteV_int {z : Int} (h : (Lit.int .u8 z).wf = true) : byteV z.toNat = .raw (.int .u8 z) := by
  have : 0 ≤ z := ((Lit.wf_int_iff .u8 z).1 h).1
  rw [byteV, Int.toNat_of_nonneg this]

theorem row_of {H : Type} {enc : TypeId × Value → H} {W : World} {fuel : Nat} {v : Value} {x : DataW H × List MemPlace} (h : DataW.trod enc Tryz.prog W 0 (fun _ => true) true fuel 24 [v] = some x) :
    ∃ r : List Nat, Rep W (fun _ => none) 0 (rowV r) v ∧ r.length + 1 ≤ Rows.uptoBulk x.1 := by
  rcases open_ints Tryz.underlying24 Tryz.underlying5 cells5 h with ⟨hcs, rfl⟩ | ⟨a, len, cap, zs, hcs, _, hl, hm, hz, rfl, hcell, hwf⟩
  · have : v = .slice none 0 0 := by simpa using hcs
    subst this
    exact ⟨[], .slNil noTok, by simp [Rows.uptoBulk]⟩
  · have : v = .slice (some a) len cap := by simpa using hcs
    subst this
    simp only [if_true] at hz
    refine ⟨(zs.take len).map Int.toNat, ?_, by simp only [Rows.uptoBulk, bulk_lits, List.length_map]; omega⟩
    have hlen : ((zs.take len).map Int.toNat).length = len := by simp; omega
    by_cases h0 : cap = 0
    · have hl0 : len = 0 := by omega
      subst h0; subst hl0
      simp only [List.take_zero, List.map_nil, rowV]
      exact .slE a
    · have hsp := World.cell?_spot (hcell 0 (by omega))
      obtain ⟨b, o, sp⟩ := a
      have hsp : sp = none := by simpa [Addr.add] using hsp
      subst hsp
      have hes : rowV ((zs.take len).map Int.toNat) = .sl ((zs.take len).map fun z => .raw (.int .u8 z)) false none := by
        rw [rowV, List.map_map]
        congr 1
        exact List.map_congr_left fun z hz' => byteV_int (hwf z (List.mem_of_mem_take hz'))
      rw [hes]
      have hl2 : ((zs.take len).map fun z => V.raw (.int .u8 z)).length = len := by simp; omega
      have := Rep.sl (w := W) (M := fun _ => none) (n := 0) (es := (zs.take len).map fun z => V.raw (.int .u8 z)) (nn := false) (tok := none) (b := b) (o := o) (cap := cap) (k := 1) (y := fun i => .int .u8 (zs.getD i 0))
        (by rw [hl2]; exact hl) (fun e he => by obtain ⟨z, _, rfl⟩ := List.mem_map.1 he; rfl)
        (fun i hi => ⟨by have := hcell i (by rw [hl2] at hi; omega); rwa [add_at] at this, noFoot _ _⟩) (fun i _ => rfl)
        (fun i u hu => by
          rw [flat_bytes, List.getElem?_map, Option.map_eq_some_iff] at hu
          obtain ⟨z, hz', rfl⟩ := hu
          rw [List.getElem?_take] at hz'
          split at hz'
          · have : zs.getD i 0 = z := by simp [List.getD_eq_getElem?_getD, hz']
            rw [this]; exact .raw _
          · cases hz') noTok
      rw [hl2] at this
      exact this

theorem rows_of {H : Type} {enc : TypeId × Value → H} {W : World} {fuel : Nat} {v : Value} {x : DataW H × List MemPlace} (h : DataW.trod enc Tryz.prog W 0 (fun _ => true) true fuel 22 [v] = some x) :
    ∃ rows : List (List Nat), Rep W (fun _ => none) 0 (.sl (rows.map rowV) false none) v ∧ rows.length + sumL rows ≤ Rows.uptoBulk x.1 := by
  rcases open_slice1 Tryz.underlying22 cells24 h with ⟨hcs, rfl⟩ | ⟨a, len, cap, m, n, Vv, D, Pl, hcs, _, hl, hm, hmm, rfl, hx⟩
  · have : v = .slice none 0 0 := by simpa using hcs
    subst this
    exact ⟨[], .slNil noTok, by simp [sumL]⟩
  · have : v = .slice (some a) len cap := by simpa using hcs
    subst this
    simp only [if_true] at hmm
    subst hmm
    obtain ⟨r, hr⟩ := choose_lt (α := List Nat) (n := len) (p := fun i r => Rep W (fun _ => none) 0 (rowV r) (Vv i) ∧ r.length + 1 ≤ Rows.uptoBulk (D i)) (fun i hi => row_of (hx i (by omega)).2)
    refine ⟨(List.range len).map r, ?_, ?_⟩
    · by_cases h0 : m = 0
      · have hl0 : len = 0 := by omega
        subst h0; subst hl0
        exact .slE a
      · have hsp := World.cell?_spot (hx 0 (by omega)).1
        obtain ⟨b, o, sp⟩ := a
        have hsp : sp = none := by simpa [Addr.add] using hsp
        subst hsp
        have hl2 : (((List.range len).map r).map rowV).length = len := by simp
        have hfl : (((List.range len).map r).map rowV).flatMap V.cells = ((List.range len).map r).map rowV := by
          generalize (List.range len).map r = rs
          induction rs with
          | nil => rfl
          | cons a t ih => simp only [List.map_cons, List.flatMap_cons, ih]; rfl
        have := Rep.sl (w := W) (M := fun _ => none) (n := 0) (es := ((List.range len).map r).map rowV) (nn := false) (tok := none) (b := b) (o := o) (cap := m) (k := 1) (y := Vv)
          (by rw [hl2]; exact hl) (fun e he => by obtain ⟨z, _, rfl⟩ := List.mem_map.1 he; rfl)
          (fun i hi => ⟨by have := (hx i (by rw [hl2] at hi; omega)).1; rwa [add_at] at this, noFoot _ _⟩)
          (fun i hi => (hr i (by rw [hl2] at hi; omega)).1.one rfl)
          (fun i u hu => by
            rw [hfl, List.getElem?_map, List.getElem?_map, Option.map_eq_some_iff] at hu
            obtain ⟨z, hz', rfl⟩ := hu
            by_cases hi : i < len
            · simp [hi] at hz'
              subst hz'
              exact (hr i hi).1
            · simp [hi] at hz') noTok
        rw [hl2] at this
        exact this
    · have hb := bulk_range D (fun i => (r i).length + 1) len (fun i hi => (hr i hi).2)
      have hs : ∀ l : List Nat, (l.map r).length + sumL (l.map r) = (l.map fun i => (r i).length + 1).sum := by
        intro l
        induction l with
        | nil => rfl
        | cons a t ih => simp only [List.map_cons, sumL, List.length_cons, List.sum_cons] at ih ⊢; omega
      simp only [Rows.uptoBulk]
      rw [hs]
      omega
end Go.Proofs.YtnfciikhdcnhbaaGreatDoor
