import Derived.Test.YtomdgahghdmhbaaGreatDoorQxKeep
namespace Go.Qx
open Go
set_option linter.unusedVariables false

theorem Old.keepAt {M : Mem} {h : Heap} {m : Nat} (keep : List Nat) (hm : m ≤ keep.length + 2) (hp : ∀ i, i < m → 0 < i → keep[i - 1]? = some i) : Old M h m (keepM M keep) (keepH h keep) (keep.length + 2) :=
  ⟨hm, fun id p hid hp' => by
    by_cases h0 : id = 0
    · subst h0; exact hp'
    · have := keepM_at (M := M) (hp id hid (by omega))
      rw [Nat.sub_add_cancel (by omega)] at this
      rw [this] at hp'; exact hp', fun id hid hpin => by
    by_cases h0 : id = 0
    · subst h0; exact ⟨by rw [keepH_find]; rfl, rfl⟩
    · have h1 := hp id hid (by omega)
      have := keepM_at (M := M) h1
      rw [Nat.sub_add_cancel (by omega)] at this
      refine ⟨?_, this⟩
      rw [keepH_find, if_neg h0, h1]
      show O.renf (rho keep) (h.find id) = h.find id
      cases ho : h.find id <;> rw [ho] at hpin <;> first | rfl | cases hpin⟩

theorem Old.keep {M : Mem} {h : Heap} (keep : List Nat) : Old M h 1 (keepM M keep) (keepH h keep) (keep.length + 2) := Old.keepAt keep (by omega) (fun i h1 h2 => by omega)

/-- The places under m stay where they are. -/
def stays (m : Nat) (keep : List Nat) : Bool := go m 1 keep
  where go : Nat → Nat → List Nat → Bool
  | 0, _, _ => true
  | 1, _, _ => true
  | m + 2, i, k :: r => k == i && go (m + 1) (i + 1) r
  | _, _, [] => false

theorem stays_go : ∀ {m i : Nat} {keep : List Nat}, stays.go m i keep = true → m ≤ keep.length + 1 ∧ ∀ j, j + 1 < m → keep[j]? = some (i + j)
  | 0, i, keep, h => ⟨by omega, fun j hj => by omega⟩
  | 1, i, keep, h => ⟨by omega, fun j hj => by omega⟩
  | m + 2, i, [], h => by simp [stays.go] at h
  | m + 2, i, k :: r, h => by
    simp only [stays.go, Bool.and_eq_true, beq_iff_eq] at h
    obtain ⟨rfl, h2⟩ := h
    obtain ⟨a, b⟩ := stays_go h2
    refine ⟨by simp; omega, fun j hj => ?_⟩
    cases j with
    | zero => rfl
    | succ j => rw [List.getElem?_cons_succ, b j (by omega)]; congr 1; omega

theorem stays_spec {m : Nat} {keep : List Nat} (h : stays m keep = true) : m ≤ keep.length + 2 ∧ ∀ i, i < m → 0 < i → keep[i - 1]? = some i := by
  obtain ⟨a, b⟩ := stays_go h
  refine ⟨by omega, fun i hi h0 => ?_⟩
  rw [b (i - 1) (by omega)]; congr 1; omega

theorem AW.keep {P : Program} {m : Nat} {c : Code} {Q : Ex → St → Prop} {st : St} (keepT keep : List Nat) (hp : stays m keep = true) (hk : keepOk st.h keep = true) (hz : ∃ w0 F, st.h.find 0 = .fr w0 F) (hm : ∀ m ∈ st.marks, m ∈ keep)
    (h : AW P m c Q (st.keep keepT keep)) : AW P m c Q st :=
  AW.weaken (st' := st.keep keepT keep) (fun _ tm df w M hs => ⟨_, (hs.keep (keepT := keepT) hk hz hm).1, (hs.keep (keepT := keepT) hk hz hm).2, Old.keepAt keep (stays_spec hp).1 (stays_spec hp).2⟩) h

theorem LW.keep {P : Program} {m : Nat} {c : Code} {Q : Ex → St → Prop} {st : St} (keepT keep : List Nat) (hp : stays m keep = true) (hk : keepOk st.h keep = true) (hz : ∃ w0 F, st.h.find 0 = .fr w0 F) (hm : ∀ m ∈ st.marks, m ∈ keep)
    (h : LW P m c Q (st.keep keepT keep)) : LW P m c Q st :=
  LW.weaken (st' := st.keep keepT keep) (fun _ tm df w M hs => ⟨_, (hs.keep (keepT := keepT) hk hz hm).1, (hs.keep (keepT := keepT) hk hz hm).2, Old.keepAt keep (stays_spec hp).1 (stays_spec hp).2⟩) h

/-- What a nil slice is read as: a row without elements, with a token of its own. -/
def St.nilTok (st : St) (t : Nat) (k : Nat) : St :=
  { st with tmps := st.tmps.set t (.sl [] false (some st.n)), h := (st.n, .own k) :: st.h, n := st.n + 1 }

theorem StRel.nilTok {st : St} {tm : Array Value} {df : List Deferred} {w : World} {M : Mem} (hs : StRel st tm df w M) {t : Nat} (ht : st.tmps[t]? = some (.raw (.slice none 0 0))) (k : Nat) :
    ∃ M', StRel (st.nilTok t k) tm df w M' ∧ Tr M w M' w ∧ Old M st.h st.n M' (st.nilTok t k).h (st.nilTok t k).n := by
  obtain ⟨h1, h2⟩ := hs.newTip 0 0 0 k (Nat.le_refl _)
  refine ⟨_, ⟨by simp [St.nilTok, hs.size], fun i u hu => ?_, h1.sim, h1.marks⟩, h2, Old.new hs.sim _ _⟩
  simp only [St.nilTok] at hu
  rw [List.getElem?_set] at hu
  by_cases hti : t = i
  · subst hti
    have hlt := (List.getElem?_eq_some_iff.1 ht).1
    simp only [hlt, if_true, Option.some.injEq] at hu
    subst hu
    rw [(hs.tmp t _ ht).raw_inv]
    refine .slNil fun t' ht' => ?_
    cases ht'
    refine ⟨Nat.lt_succ_self _, fun b t' e k hm => ?_⟩
    simp only [upd_same, Option.some.injEq, Plc.tip.injEq] at hm
    omega
  · simp only [hti, if_false] at hu
    exact h1.tmp i u hu

theorem AW.nilTok {P : Program} {m : Nat} {c : Code} {Q : Ex → St → Prop} {st : St} (t k : Nat) (ht : st.tmps[t]? = some (.raw (.slice none 0 0))) (h : AW P m c Q (st.nilTok t k)) : AW P m c Q st :=
  AW.weaken (st' := st.nilTok t k) (fun hm tm df w M hs => by
    obtain ⟨M', h1, h2, h3⟩ := hs.nilTok ht k
    exact ⟨M', h1, h2, h3.weaken hm⟩) h

theorem LW.nilTok {P : Program} {m : Nat} {c : Code} {Q : Ex → St → Prop} {st : St} (t k : Nat) (ht : st.tmps[t]? = some (.raw (.slice none 0 0))) (h : LW P m c Q (st.nilTok t k)) : LW P m c Q st :=
  LW.weaken (st' := st.nilTok t k) (fun hm tm df w M hs => by
    obtain ⟨M', h1, h2, h3⟩ := hs.nilTok ht k
    exact ⟨M', h1, h2, h3.weaken hm⟩) h

theorem Rep.soft1 {w : World} {M : Mem} {n : Nat} {es : List V} {nn : Bool} {tok : Option Nat} {x : Value} (h : Rep w M n (.sl es nn tok) x) : Rep w M n (.sl es false tok) x := by
  cases h with
  | slNil ht => exact .slNil ht
  | slE a => exact .slE a
  | sl hlen hk hc ho hr ht => exact .sl hlen hk hc ho hr ht

/-- What is read as a, is read as b. -/
def Soft (a b : V) : Prop := ∀ w M n x, Rep w M n a x → Rep w M n b x
theorem Soft.refl (a : V) : Soft a a := fun _ _ _ _ h => h
theorem Soft.sl (es : List V) (nn : Bool) (tok : Option Nat) : Soft (.sl es nn tok) (.sl es false tok) := fun _ _ _ _ h => h.soft1

/-- What holds of a state, holds of another one that says less, or says it otherwise. -/
def Weak (st st' : St) : Prop := 1 ≤ st.n → ∀ tm df w M, StRel st tm df w M → ∃ M', StRel st' tm df w M' ∧ Tr M w M' w ∧ Old M st.h 1 M' st'.h st'.n
theorem Weak.refl (st : St) : Weak st st := fun hm tm df w M hs => ⟨M, hs, .refl M w, (Old.refl _ _ _).weaken hm⟩
theorem Weak.nilTok {st : St} (t k : Nat) (ht : st.tmps[t]? = some (.raw (.slice none 0 0))) : Weak st (st.nilTok t k) := fun hm tm df w M hs => by
  obtain ⟨M', h1, h2, h3⟩ := hs.nilTok ht k
  exact ⟨M', h1, h2, h3.weaken hm⟩

/-- THE END OF A PURE FUNCTION: what it tells, by the places that are kept. -/
structure Ends (P : Program) (fn : Func) (v : V) (news : Heap) (n0 : Nat) (e : Ex) (st : St) : Prop where
  ex : e = .normal ∨ e = .ret
  vs : ∃ st2 vs keep, Weak st st2 ∧ st2.marks = [] ∧ resVs P st2 fn.results.toList = some vs ∧ keepOk st2.h keep = true ∧ Soft ((tupV vs).ren (rho keep)) v ∧ n0 = keep.length + 2 ∧ ∀ id, 0 < id → Heap.find (keepH st2.h keep) id = Heap.find news id

theorem news_ok {h news : Heap} {keep : List Nat} {o : O} (he : keepH h keep = news ++ [(0, o)]) : ∀ id, 0 < id → Heap.find (keepH h keep) id = Heap.find news id := by
  intro id hid
  rw [he]
  clear he
  induction news with
  | nil => simp only [List.nil_append]; rw [Heap.find_new, if_neg (by omega)]
  | cons p r ih =>
    obtain ⟨i, o'⟩ := p
    simp only [List.cons_append]
    rw [Heap.find_new, Heap.find_new, ih]

/-- The end, where nothing is to be said otherwise. -/
theorem Ends.plain {P : Program} {fn : Func} {v : V} {news : Heap} {n0 : Nat} {e : Ex} {st : St} {vs : List V} {o : O} (keep : List Nat) (he : e = .normal ∨ e = .ret) (hm : st.marks = []) (hv : resVs P st fn.results.toList = some vs)
    (hk : keepOk st.h keep = true) (hs : Soft ((tupV vs).ren (rho keep)) v) (hn : n0 = keep.length + 2) (hh : keepH st.h keep = news ++ [(0, o)]) : Ends P fn v news n0 e st :=
  ⟨he, st, vs, keep, .refl st, hm, hv, hk, hs, hn, news_ok hh⟩

theorem Ends.weak {P : Program} {fn : Func} {v : V} {news : Heap} {n0 : Nat} {e : Ex} {st st2 : St} {vs : List V} {o : O} (keep : List Nat) (hw : Weak st st2) (he : e = .normal ∨ e = .ret) (hm : st2.marks = []) (hv : resVs P st2 fn.results.toList = some vs)
    (hk : keepOk st2.h keep = true) (hs : Soft ((tupV vs).ren (rho keep)) v) (hn : n0 = keep.length + 2) (hh : keepH st2.h keep = news ++ [(0, o)]) : Ends P fn v news n0 e st :=
  ⟨he, st2, vs, keep, hw, hm, hv, hk, hs, hn, news_ok hh⟩

theorem PureOk.of_body {P : Program} {f : FuncId} {fn : Func} {c : Code} {args : List V} {v : V} {news : Heap} {n0 : Nat} (hf : P.funcs[f]? = some fn) (hb : fn.body = some c)
    (hw : ∀ w0 F, AW P 1 c (Ends P fn v news n0) { tmps := initTmps args fn.ntmps, h := [(0, .fr w0 F)], n := 1, marks := [] }) : PureOk P f args v news n0 := by
  intro w0 F w M xs ha hs cs
  obtain ⟨hsz, hrep⟩ := ha
  have henter : Frame.enter P f xs .normal = here { (default : Frame) with fn := f, kind := .normal, roundOf := none } (xs ++ Array.replicate (fn.ntmps - xs.size) undef) [] [.code c] := by
    simp [Frame.enter, here, hf, hb]
  have hst : StRel { tmps := initTmps args fn.ntmps, h := [(0, .fr w0 F)], n := 1, marks := [] } (xs ++ Array.replicate (fn.ntmps - xs.size) undef) [] w M := by
    refine ⟨by simp [initTmps, hsz], fun i v hv => ?_, hs, rfl⟩
    simp only [initTmps] at hv
    by_cases hi : i < args.length
    · rw [List.getElem?_append_left hi] at hv
      have hi' : i < xs.size := by omega
      have := hrep i v hv
      simpa [Array.getD_eq_getD_getElem?, Array.getElem?_append, hi'] using this
    · rw [List.getElem?_append_right (by omega)] at hv
      have : v = .any := by
        have := List.mem_of_getElem? hv
        exact (List.mem_replicate.1 this).2
      subst this
      exact .any _
  obtain ⟨e, st0, tm', df', w', M0, ⟨he, st', vs, keep, hweak, hm, hvs, hkeep, hv, hn0, hnews⟩, hr0, ht0, hold0, harr⟩ := hw w0 F (Nat.le_refl _) _ [] w M hst { (default : Frame) with fn := f, kind := .normal, roundOf := none } [] cs (.inl rfl)
  obtain ⟨M', hr, ht1, hold1⟩ := hweak hold0.le _ _ _ _ hr0
  have ht := ht0.trans ht1
  have hold := hold0.trans' hold1
  have hdf : df' = [] := by have := hr.marks; rw [hm] at this; exact this
  subst hdf
  have hz : ∃ w0 F, st'.h.find 0 = .fr w0 F := ⟨w0, F, (hold.pin 0 Nat.one_pos rfl).1⟩
  obtain ⟨x, hx, hrx⟩ := results_run hr hvs
  obtain ⟨k1, k2⟩ := hr.sim.keep hkeep hz
  have hold2 := hold.trans' (Old.keep keep)
  have hrx2 := hrx.keep keep
  have fin : ∀ todo, (step P (lone (here { (default : Frame) with fn := f, kind := .normal, roundOf := none } tm' [] todo) cs w') = .next (lone { here { (default : Frame) with fn := f, kind := .normal, roundOf := none } tm' [] todo with mode := .returning } cs w')) →
      Steps P (lone (here { (default : Frame) with fn := f, kind := .normal, roundOf := none } (xs ++ Array.replicate (fn.ntmps - xs.size) undef) [] [.code c]) cs w) (lone (here { (default : Frame) with fn := f, kind := .normal, roundOf := none } tm' [] todo) cs w') →
      ∃ v' h' n' x w' M' fr, (v' = v ∧ n' = n0 ∧ ∀ id, 0 < id → Heap.find h' id = Heap.find news id) ∧ Rep w' M' n' v' x ∧ Sim w' M' h' n' ∧ Tr M w M' w' ∧ Old M [(0, .fr w0 F)] 1 M' h' n' ∧
        Steps P (lone (Frame.enter P f xs .normal) cs w) (lone fr cs w') ∧ fr.leaving P w' (.returned x) ∧ fr.fn = f := fun todo h1 h2 =>
    ⟨_, _, _, x, w', _, _, ⟨rfl, rfl, hnews⟩, by rw [hn0]; exact hv _ _ _ _ hrx2, by rw [hn0]; exact k1, ht.trans k2, by rw [hn0]; exact hold2, by rw [henter]; exact h2.trans (.one h1), ⟨rfl, rfl, rfl, fn, hf, hx⟩, rfl⟩
  rcases he with rfl | rfl
  · exact fin [] (step_lone_go (by simp [stepG, stepG.exec, here])) harr
  · obtain ⟨k', hk⟩ := harr
    exact fin _ (step_lone_go (by simp [stepG, stepG.exec, here])) hk

end Go.Qx
