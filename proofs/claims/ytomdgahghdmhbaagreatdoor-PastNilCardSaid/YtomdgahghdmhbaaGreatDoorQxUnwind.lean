import Derived.Test.YtomdgahghdmhbaaGreatDoorQxLoopFn
import Derived.Test.YtomdgahghdmhbaaGreatDoorQxPure
namespace Go.Qx
open Go
set_option linter.unusedVariables false

def kills : List Nat → Heap → Heap
  | [], h => h
  | id :: ms, h => kills ms ((id, .dead) :: h)

/-- The marks of the loops that a function has run, when it returns. -/
def marksOk (m : Nat) : List Nat → Bool
  | [] => true
  | id :: ms => Nat.ble m id && !ms.contains id && marksOk m ms

def St.unmark (st : St) : St := { st with h := kills st.marks st.h, marks := [] }

theorem unwind_ok {P : Program} {b : Frame} {tm : Array Value} {todo : List Item} {cs : List Frame} {M : Mem} {n m : Nat} : ∀ (ms : List Nat) (df : List Deferred) (w : World) (h : Heap), Sim w M h n → Marks M h ms df → marksOk m ms = true → m ≤ n →
    ∃ w', Sim w' M (kills ms h) n ∧ Tr M w M w' ∧ Old M h m M (kills ms h) n ∧
      Steps P (lone { here b tm df todo with mode := .returning } cs w) (lone { here b tm [] todo with mode := .returning } cs w')
  | [], df, w, h, hs, hm, hk, hle => by
    have : df = [] := hm
    subst this
    exact ⟨w, hs, .refl M w, ⟨hle, fun _ _ _ h => h, fun _ _ _ => ⟨rfl, rfl⟩⟩, .refl P _⟩
  | id :: ms, df, w, h, hs, hm, hk, hle => by
    obtain ⟨h1, r, df', h2, rfl, h3⟩ := hm
    simp only [marksOk, Bool.and_eq_true, Bool.not_eq_true'] at hk
    obtain ⟨⟨k1, k2⟩, k3⟩ := hk
    have k1 : m ≤ id := Nat.le_of_ble_eq_true k1
    have k2 : id ∉ ms := by simpa using k2
    obtain ⟨b', hb', hh⟩ := hs.dfr id h1
    rw [h2] at hb'
    simp only [Option.some.injEq, Plc.dfr.injEq] at hb'
    subst hb'
    obtain ⟨s1, t1⟩ := hs.dfrDead (o := .deferred none) h2
    have hm1 : Marks M ((id, .dead) :: h) ms df' := h3.mono fun j hj hf => ⟨by
      rw [Heap.find_new, if_neg]
      · exact hf
      · rintro rfl; exact k2 hj, rfl⟩
    obtain ⟨w', s2, t2, o2, st2⟩ := unwind_ok ms df' _ _ s1 hm1 k3 hle
    have hstep : step P (lone { here b tm ({ target := .collected r, args := #[] } :: df') todo with mode := .returning } cs w) =
        .next (lone { here b tm df' todo with mode := .returning } cs (w.putObj r (.deferred none))) :=
      step_lone_go (by simp [stepG, unwind, here, Sem.runT_eq, run_takeDeferred hh, GStep.bare_after])
    refine ⟨w', s2, t1.trans t2, ⟨hle, fun _ _ _ h => h, fun j hj hp => ⟨?_, rfl⟩⟩, .head hstep st2⟩
    have := (o2.pin j hj (by rw [Heap.find_new, if_neg (by omega)]; exact hp)).1
    exact this.trans (by rw [Heap.find_new, if_neg (by omega)])

theorem unmark_ok {P : Program} {b : Frame} {tm : Array Value} {todo : List Item} {cs : List Frame} {st : St} {df : List Deferred} {w : World} {M : Mem} {m : Nat} (hs : StRel st tm df w M) (hk : marksOk m st.marks = true) (hle : m ≤ st.n) :
    ∃ w', StRel st.unmark tm [] w' M ∧ Tr M w M w' ∧ Old M st.h m M st.unmark.h st.unmark.n ∧
      Steps P (lone { here b tm df todo with mode := .returning } cs w) (lone { here b tm [] todo with mode := .returning } cs w') := by
  obtain ⟨w', s, t, o, h⟩ := unwind_ok (P := P) (b := b) (tm := tm) (todo := todo) (cs := cs) st.marks df w st.h hs.sim hs.marks hk hle
  exact ⟨w', ⟨hs.size, fun i v hv => (hs.tmp i v hv).tr t (fun _ _ _ h => h) (Nat.le_refl _), s, rfl⟩, t, o, h⟩

theorem CallOk.of_bodyM {P : Program} {f : FuncId} {fn : Func} {c : Code} {args : List V} {h : Heap} {n : Nat} {R : V → Heap → Nat → Prop} (hf : P.funcs[f]? = some fn) (hb : fn.body = some c)
    (hw : AW P n c (fun e st => (e = .normal ∨ e = .ret) ∧ marksOk n st.marks = true ∧ ∃ vs, resVs P st.unmark fn.results.toList = some vs ∧ R (tupV vs) st.unmark.h st.unmark.n) { tmps := initTmps args fn.ntmps, h := h, n := n, marks := [] }) :
    CallOk P f args h n R := by
  intro w M xs ha hs cs
  obtain ⟨hsz, hrep⟩ := ha
  have henter : Frame.enter P f xs .normal = here { (default : Frame) with fn := f, kind := .normal, roundOf := none } (xs ++ Array.replicate (fn.ntmps - xs.size) undef) [] [.code c] := by
    simp [Frame.enter, here, hf, hb]
  have hst : StRel { tmps := initTmps args fn.ntmps, h := h, n := n, marks := [] } (xs ++ Array.replicate (fn.ntmps - xs.size) undef) [] w M := by
    refine ⟨by simp [initTmps, hsz], fun i v hv => ?_, hs, rfl⟩
    simp only [initTmps] at hv
    by_cases hi : i < args.length
    · rw [List.getElem?_append_left hi] at hv
      have hi' : i < xs.size := by omega
      have := hrep i v hv
      simpa [Array.getD_eq_getD_getElem?, Array.getElem?_append, hi'] using this
    · rw [List.getElem?_append_right (by omega)] at hv
      have : v = .any := by
        have := List.mem_of_getElem? hv
        exact (List.mem_replicate.1 this).2
      subst this
      exact .any _
  obtain ⟨e, st', tm', df', w', M', ⟨he, hmk, vs, hvs, hR⟩, hr, ht, hold, harr⟩ := hw (Nat.le_refl _) _ [] w M hst { (default : Frame) with fn := f, kind := .normal, roundOf := none } [] cs (.inl rfl)
  have fin : ∀ todo, (step P (lone (here { (default : Frame) with fn := f, kind := .normal, roundOf := none } tm' df' todo) cs w') = .next (lone { here { (default : Frame) with fn := f, kind := .normal, roundOf := none } tm' df' todo with mode := .returning } cs w')) →
      Steps P (lone (here { (default : Frame) with fn := f, kind := .normal, roundOf := none } (xs ++ Array.replicate (fn.ntmps - xs.size) undef) [] [.code c]) cs w) (lone (here { (default : Frame) with fn := f, kind := .normal, roundOf := none } tm' df' todo) cs w') →
      ∃ v' h' n' x w' M' fr, R v' h' n' ∧ Rep w' M' n' v' x ∧ Sim w' M' h' n' ∧ Tr M w M' w' ∧ Old M h n M' h' n' ∧
        Steps P (lone (Frame.enter P f xs .normal) cs w) (lone fr cs w') ∧ fr.leaving P w' (.returned x) ∧ fr.fn = f := fun todo h1 h2 => by
    obtain ⟨w2, hr2, t2, o2, s2⟩ := unmark_ok (P := P) (b := { (default : Frame) with fn := f, kind := .normal, roundOf := none }) (todo := todo) (cs := cs) hr hmk hold.le
    obtain ⟨x, hx, hrx⟩ := results_run hr2 hvs
    exact ⟨tupV vs, _, _, x, w2, M', _, hR, hrx, hr2.sim, ht.trans t2, hold.trans' o2, by rw [henter]; exact h2.trans (.head h1 s2), ⟨rfl, rfl, rfl, fn, hf, hx⟩, rfl⟩
  rcases he with rfl | rfl
  · exact fin [] (step_lone_go (by simp [stepG, stepG.exec, here])) harr
  · obtain ⟨k', hk⟩ := harr
    exact fin _ (step_lone_go (by simp [stepG, stepG.exec, here])) hk

theorem PureOk.of_bodyM {P : Program} {f : FuncId} {fn : Func} {c : Code} {args : List V} {v : V} {news : Heap} {n0 : Nat} (hf : P.funcs[f]? = some fn) (hb : fn.body = some c)
    (hw : ∀ w0 F, AW P 1 c (fun e st => marksOk 1 st.marks = true ∧ Ends P fn v news n0 e st.unmark) { tmps := initTmps args fn.ntmps, h := [(0, .fr w0 F)], n := 1, marks := [] }) : PureOk P f args v news n0 := by
  intro w0 F w M xs ha hs cs
  obtain ⟨hsz, hrep⟩ := ha
  have henter : Frame.enter P f xs .normal = here { (default : Frame) with fn := f, kind := .normal, roundOf := none } (xs ++ Array.replicate (fn.ntmps - xs.size) undef) [] [.code c] := by
    simp [Frame.enter, here, hf, hb]
  have hst : StRel { tmps := initTmps args fn.ntmps, h := [(0, .fr w0 F)], n := 1, marks := [] } (xs ++ Array.replicate (fn.ntmps - xs.size) undef) [] w M := by
    refine ⟨by simp [initTmps, hsz], fun i v hv => ?_, hs, rfl⟩
    simp only [initTmps] at hv
    by_cases hi : i < args.length
    · rw [List.getElem?_append_left hi] at hv
      have hi' : i < xs.size := by omega
      have := hrep i v hv
      simpa [Array.getD_eq_getD_getElem?, Array.getElem?_append, hi'] using this
    · rw [List.getElem?_append_right (by omega)] at hv
      have : v = .any := by
        have := List.mem_of_getElem? hv
        exact (List.mem_replicate.1 this).2
      subst this
      exact .any _
  obtain ⟨e, st0, tm', df', w', M0, ⟨hmk, he, st', vs, keep, hweak, hm, hvs, hkeep, hv, hn0, hnews⟩, hr0, ht0, hold0, harr⟩ := hw w0 F (Nat.le_refl _) _ [] w M hst { (default : Frame) with fn := f, kind := .normal, roundOf := none } [] cs (.inl rfl)
  have fin : ∀ todo, (step P (lone (here { (default : Frame) with fn := f, kind := .normal, roundOf := none } tm' df' todo) cs w') = .next (lone { here { (default : Frame) with fn := f, kind := .normal, roundOf := none } tm' df' todo with mode := .returning } cs w')) →
      Steps P (lone (here { (default : Frame) with fn := f, kind := .normal, roundOf := none } (xs ++ Array.replicate (fn.ntmps - xs.size) undef) [] [.code c]) cs w) (lone (here { (default : Frame) with fn := f, kind := .normal, roundOf := none } tm' df' todo) cs w') →
      ∃ v' h' n' x w' M' fr, (v' = v ∧ n' = n0 ∧ ∀ id, 0 < id → Heap.find h' id = Heap.find news id) ∧ Rep w' M' n' v' x ∧ Sim w' M' h' n' ∧ Tr M w M' w' ∧ Old M [(0, .fr w0 F)] 1 M' h' n' ∧
        Steps P (lone (Frame.enter P f xs .normal) cs w) (lone fr cs w') ∧ fr.leaving P w' (.returned x) ∧ fr.fn = f := fun todo h1 h2 => by
    obtain ⟨w2, hr2, t2, o2, s2⟩ := unmark_ok (P := P) (b := { (default : Frame) with fn := f, kind := .normal, roundOf := none }) (todo := todo) (cs := cs) hr0 hmk hold0.le
    obtain ⟨M', hr, ht1, hold1⟩ := hweak (by exact hold0.le) _ _ _ _ hr2
    have ht := (ht0.trans t2).trans ht1
    have hold := (hold0.trans' o2).trans' hold1
    have hz : ∃ w0 F, st'.h.find 0 = .fr w0 F := ⟨w0, F, (hold.pin 0 Nat.one_pos rfl).1⟩
    obtain ⟨x, hx, hrx⟩ := results_run hr hvs
    obtain ⟨k1, k2⟩ := hr.sim.keep hkeep hz
    have hold2 := hold.trans' (Old.keep keep)
    have hrx2 := hrx.keep keep
    exact ⟨_, _, _, x, w2, _, _, ⟨rfl, rfl, hnews⟩, by rw [hn0]; exact hv _ _ _ _ hrx2, by rw [hn0]; exact k1, ht.trans k2, by rw [hn0]; exact hold2, by rw [henter]; exact h2.trans (.head h1 s2), ⟨rfl, rfl, rfl, fn, hf, hx⟩, rfl⟩
  rcases he with rfl | rfl
  · exact fin [] (step_lone_go (by simp [stepG, stepG.exec, here])) harr
  · obtain ⟨k', hk⟩ := harr
    exact fin _ (step_lone_go (by simp [stepG, stepG.exec, here])) hk
end Go.Qx
