import Derived.Test.YtomdgahghdmhbaaGreatDoorPnOk
import Derived.Test.YtomdgahghdmhbaaGreatDoorRows
import Derived.Test.YtomdgahghdmhbaaGreatDoorCards
import Derived.Test.YtomdgahghdmhbaaGreatDoorTie
import Derived.Below
import Derived.Deep.Slices
import Derived.ChangeSlices
import Derived.DataShut
import Derived.WalkKit
import Derived.ProofKit
import Derived.OpenShut
import Derived.Deep.DeepHandedRow
import Derived.Lib.LaidTab
namespace Go.Proofs.YtomdgahghdmhbaaGreatDoor
open Go Go.Qx Go.ChangeShapes Go.WideShapes Go.ChangeAt Go.RowKit Go.Deep
set_option linter.unusedVariables false

theorem noFoot (b o : Nat) : ¬ foot (fun _ => none) b o := by rintro ⟨id, p, h, _⟩; cases h
theorem noTok {n : Nat} {Q : Nat → Nat → Nat → Nat → Prop} : TokOk (fun _ => none) none n Q := fun t h => by cases h

theorem cells5 : Tryz.prog.cellsOf 5 = 1 := by kernel_rfl

theorem flat_bytes' (zs : List Int) : ((zs.map fun z => V.raw (.int .u8 z)).flatMap V.cells) = zs.map fun z => V.raw (.int .u8 z) := by
  induction zs with
  | nil => rfl
  | cons z zs ih => simp only [List.map_cons, List.flatMap_cons, ih]; rfl

theorem bytes_of {H : Type} {enc : TypeId × Value → H} {W : World} {fuel : Nat} {v : Value} {x : DataW H × List MemPlace} (h : DataW.trod enc Tryz.prog W 0 (fun _ => true) true fuel 24 [v] = some x) :
    ∃ zs : List Int, Rep W (fun _ => none) 0 (.sl (zs.map fun z => .raw (.int .u8 z)) false none) v := by
  rcases open_ints Tryz.underlying24 Tryz.underlying5 cells5 h with ⟨hcs, rfl⟩ | ⟨a, len, cap, zs, hcs, _, hl, hm, hz, rfl, hcell, hwf⟩
  · have : v = .slice none 0 0 := by simpa using hcs
    subst this
    exact ⟨[], .slNil noTok⟩
  · have : v = .slice (some a) len cap := by simpa using hcs
    subst this
    simp only [if_true] at hz
    refine ⟨zs.take len, ?_⟩
    have hlen : (zs.take len).length = len := by simp; omega
    by_cases h0 : cap = 0
    · have hl0 : len = 0 := by omega
      subst h0; subst hl0
      simp only [List.take_zero, List.map_nil]
      exact .slE a
    · have hsp := World.cell?_spot (hcell 0 (by omega))
      obtain ⟨b, o, sp⟩ := a
      have hsp : sp = none := by simpa [Addr.add] using hsp
      subst hsp
      have hl2 : ((zs.take len).map fun z => V.raw (.int .u8 z)).length = len := by simp; omega
      have := Rep.sl (w := W) (M := fun _ => none) (n := 0) (es := (zs.take len).map fun z => V.raw (.int .u8 z)) (nn := false) (tok := none) (b := b) (o := o) (cap := cap) (k := 1) (y := fun i => .int .u8 (zs.getD i 0))
        (by rw [hl2]; exact hl) (fun e he => by obtain ⟨z, _, rfl⟩ := List.mem_map.1 he; rfl)
        (fun i hi => ⟨by have := hcell i (by rw [hl2] at hi; omega); rwa [add_at] at this, noFoot _ _⟩) (fun i _ => rfl)
        (fun i u hu => by
          rw [flat_bytes', List.getElem?_map, Option.map_eq_some_iff] at hu
          obtain ⟨z, hz', rfl⟩ := hu
          rw [List.getElem?_take] at hz'
          split at hz'
          · have : zs.getD i 0 = z := by simp [List.getD_eq_getElem?_getD, hz']
            rw [this]; exact .raw _
          · cases hz') noTok
      rw [hl2] at this
      exact this

theorem below_of {W W' : World} {M' : Mem} (h : Tr (fun _ => none) W M' W') : Below W.heap.size W W' :=
  ⟨h.ext.os, h.ext.tape, h.ext.output, h.ext.size, fun k hk => h.ext.blk k hk fun o => noFoot k o⟩

theorem sim_none (W : World) : Sim W (fun _ => none) [] 0 := by
  refine Sim.of_obj (fun _ _ h => by cases h) (fun _ _ _ _ h => by cases h) (fun _ _ _ _ _ _ h => by cases h) (fun id h => absurd rfl h)

theorem walk (W : World) (z : Int) (v1 : Value) (zs : List Int) (h1 : Rep W (fun _ => none) 0 (.sl (zs.map fun z => .raw (.int .u8 z)) false none) v1) :
    Calls Tryz.prog 14 #[.int .i64 z, v1] W fun e w' => e = .returned (.bool true) ∧ Below W.heap.size W w' := by
  intro cs
  have hc := PureOk.frame (h := []) (n := 0) (args := [.raw (.int .i64 z), .sl (zs.map fun z => .raw (.int .u8 z)) false none]) (pn_ok z (zs.map fun z => .raw (.int .u8 z)) false) (fun a ha => by
    simp only [List.mem_cons, List.mem_nil_iff, or_false] at ha
    rcases ha with rfl | rfl <;> rfl) rfl
  have ha : ArgsRep W (fun _ => none) 0 [.raw (.int .i64 z), .sl (zs.map fun z => .raw (.int .u8 z)) false none] #[.int .i64 z, v1] := by
    refine ⟨rfl, fun i v hv => ?_⟩
    match i, hv with
    | 0, hv => simp only [List.getElem?_cons_zero, Option.some.injEq] at hv; subst hv; exact .raw _
    | 1, hv => simp only [List.getElem?_cons_succ, List.getElem?_cons_zero, Option.some.injEq] at hv; subst hv; exact h1
    | i + 2, hv => simp at hv
  obtain ⟨v, h', n', x, w', M', fr, ⟨rfl, _, _⟩, r1, r2, r3, r4, r5, r6⟩ := hc W _ _ ha (sim_none W) cs
  have hx : x = .bool true := r1.raw_inv
  subst hx
  exact ⟨.returned (.bool true), w', fr, ⟨rfl, below_of r3⟩, r5, r6.2, r6.1⟩

theorem own : ownKnob Tryz.prog.godebug = none := by kernel_rfl
theorem laidOut : laidOutB Tryz.prog = true := by kernel_rfl

set_option maxRecDepth 100000 in
theorem contract (H : Type) (enc : TypeId × Value → H) (W : World) (base : Nat) (args : Array Value) (ds gs : List (DataW H)) (before : List MemPlace)
    (hval : ∀ (j : Nat) t v, Tryz.f14.params[j]? = some t → args[j]? = some v → Value.okWide Tryz.prog W .any base t v)
    (hW : DataW.Whole enc Tryz.prog Tryz.f14.params.toList Rows.pastNilSpec.vars false W args.toList ds gs before) :
    Calls Tryz.prog 14 args W fun e W' => ∃ v, e = .returned v ∧ Rows.pastNilSpec.post enc Tryz.prog Tryz.f14 false true false false W args v W' := by
  have hW' := hW
  obtain ⟨p, q, hA0, hV, rfl, hfz, hnd⟩ := hW
  have hA : DataW.TrodAll enc Tryz.prog W 0 (fun _ => true) true Tryz.f14.params.toList args.toList ds p := hA0
  rw [Tryz.params14] at hA hval
  obtain ⟨v0, vs0, d0, ds0, p0, q0, hargs, rfl, rfl, h0, r0⟩ := trodAll_cons hA
  obtain ⟨v1, vs1, d1, ds1, p1, q1, rfl, rfl, rfl, h1, r1⟩ := trodAll_cons r0
  obtain ⟨rfl, rfl, rfl⟩ := trodAll_nil r1
  obtain rfl : args = #[v0, v1] := by cases args; simp_all
  obtain ⟨rfl, rfl⟩ := trodVars_none hV
  have k0 := h0
  have lt0 : ∀ x ∈ p0, x.block < W.heap.size := by obtain ⟨m, hm⟩ := k0; exact DataW.trod_lt m _ _ _ hm
  have k1 := h1
  have lt1 : ∀ x ∈ p1, x.block < W.heap.size := by obtain ⟨m, hm⟩ := k1; exact DataW.trod_lt m _ _ _ hm
  obtain ⟨z, rfl, rfl, rfl, hz⟩ := open_int Tryz.underlying3 (hval 0 3 v0 rfl rfl) h0
  obtain ⟨a1, len1, cap1, rfl⟩ := okWide_slice Tryz.underlying24 (hval 1 24 v1 rfl rfl)
  obtain ⟨f1, hf1⟩ := h1
  obtain ⟨zs, hm⟩ := bytes_of hf1
  clear hA0
  refine (walk W z _ zs hm).mono fun e W' ⟨he, bel⟩ => ?_
  subst he
  refine ⟨_, rfl, _, _, _, [], _, [], hW', trodAll_mk1 (shut_bool Tryz.underlying4 _), (trodAll_cons_mk (Below.trod laidOut (by kernel_rfl) (of_decide_eq_true (by kernel_rfl)) k0 bel lt0) (trodAll_cons_mk (Below.trod laidOut (by kernel_rfl) (of_decide_eq_true (by kernel_rfl)) k1 bel lt1) trodAll_mk0)), rfl, bel.frame _, fun h => by cases h⟩
end Go.Proofs.YtomdgahghdmhbaaGreatDoor
