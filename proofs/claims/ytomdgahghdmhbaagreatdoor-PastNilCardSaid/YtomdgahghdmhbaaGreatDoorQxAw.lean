import Derived.Test.YtomdgahghdmhbaaGreatDoorQxOpG
namespace Go.Qx
open Go
set_option linter.unusedVariables false

/-- How a piece of code is left. -/
inductive Ex where
  | normal
  | exit (id : Nat)
  | ret
  deriving DecidableEq

/-- The machine comes to the place that an exit means. -/
def Arr (P : Program) (m : Machine) (b : Frame) (k : List Item) (cs : List Frame) : Ex → Array Value → List Deferred → World → Prop
  | .normal, tm, df, w => Steps P m (lone (here b tm df k) cs w)
  | .exit id, tm, df, w => ∃ k', exitTo id k' = exitTo id k ∧ Steps P m (lone (here b tm df (.code (.exit id) :: k')) cs w)
  | .ret, tm, df, w => ∃ k', Steps P m (lone (here b tm df (.code .ret :: k')) cs w)

theorem Arr.of_steps {P : Program} {m m₁ : Machine} {b : Frame} {k : List Item} {cs : List Frame} {e : Ex} {tm : Array Value} {df : List Deferred} {w : World}
    (h : Steps P m m₁) (h' : Arr P m₁ b k cs e tm df w) : Arr P m b k cs e tm df w := by
  cases e with
  | normal => exact h.trans h'
  | exit id => obtain ⟨k', hk, hs⟩ := h'; exact ⟨k', hk, h.trans hs⟩
  | ret => obtain ⟨k', hs⟩ := h'; exact ⟨k', h.trans hs⟩

/-- No loop over a function in it. -/
def flat : Code → Bool
  | .rangeFunc .. => false
  | .seq a b => flat a && flat b
  | .cond _ a b => flat a && flat b
  | .block _ b => flat b
  | .loop b => flat b
  | .scope b => flat b
  | _ => true

/-- A frame that may run the code: a round's frame runs none that loops over a function. -/
def Fits (b : Frame) (c : Code) : Prop := b.roundOf = none ∨ flat c = true

theorem Fits.fst {b : Frame} {x y : Code} (h : Fits b (.seq x y)) : Fits b x := h.imp id fun h => by simp only [flat, Bool.and_eq_true] at h; exact h.1
theorem Fits.snd {b : Frame} {x y : Code} (h : Fits b (.seq x y)) : Fits b y := h.imp id fun h => by simp only [flat, Bool.and_eq_true] at h; exact h.2
theorem Fits.br {b : Frame} {c : Operand} {x y : Code} (h : Fits b (.cond c x y)) (t : Bool) : Fits b (if t then x else y) := h.imp id fun h => by
  simp only [flat, Bool.and_eq_true] at h
  cases t
  · exact h.2
  · exact h.1
theorem Fits.blk {b : Frame} {i : Nat} {x : Code} (h : Fits b (.block i x)) : Fits b x := h
theorem Fits.lp {b : Frame} {x : Code} (h : Fits b (.loop x)) : Fits b x := h

/-- A PIECE OF CODE, run from whatever memory holds the state, comes to an end that Q allows, in a memory that holds the state told there. -/
def AW (P : Program) (m : Nat) (c : Code) (Q : Ex → St → Prop) (st : St) : Prop :=
  m ≤ st.n → ∀ tm df w M, StRel st tm df w M → ∀ b k cs, Fits b c → ∃ e st' tm' df' w' M', Q e st' ∧ StRel st' tm' df' w' M' ∧ Tr M w M' w' ∧ Old M st.h m M' st'.h st'.n ∧
    Arr P (lone (here b tm df (.code c :: k)) cs w) b k cs e tm' df' w'

def Ex.thn (next : St → Prop) (Q : Ex → St → Prop) : Ex → St → Prop
  | .normal, st => next st
  | e, st => Q e st

def Ex.blk (id : Nat) (Q : Ex → St → Prop) : Ex → St → Prop
  | .exit id', st => if id' = id then Q .normal st else Q (.exit id') st
  | e, st => Q e st

section
variable {P : Program} {m : Nat} {Q Q' : Ex → St → Prop} {st : St}

theorem AW.mono {c : Code} (h : AW P m c Q st) (hq : ∀ e s, Q e s → Q' e s) : AW P m c Q' st := by
  intro hm tm df w M hs b k cs hb
  obtain ⟨e, st', tm', df', w', M', q, r⟩ := h hm tm df w M hs b k cs hb
  exact ⟨e, st', tm', df', w', M', hq _ _ q, r⟩

theorem AW.skip (h : Q .normal st) : AW P m .skip Q st :=
  fun hm tm df w M hs b k cs hb => ⟨.normal, st, tm, df, w, M, h, hs, .refl M w, (Old.refl _ _ _).weaken hm, .one hstep_skip⟩
theorem AW.exit {id : Nat} (h : Q (.exit id) st) : AW P m (.exit id) Q st :=
  fun hm tm df w M hs b k cs hb => ⟨.exit id, st, tm, df, w, M, h, hs, .refl M w, (Old.refl _ _ _).weaken hm, k, rfl, .refl P _⟩
theorem AW.ret (h : Q .ret st) : AW P m .ret Q st :=
  fun hm tm df w M hs b k cs hb => ⟨.ret, st, tm, df, w, M, h, hs, .refl M w, (Old.refl _ _ _).weaken hm, k, .refl P _⟩

theorem AW.seq {x y : Code} (h : AW P m x (Ex.thn (AW P m y Q) Q) st) : AW P m (.seq x y) Q st := by
  intro hm tm df w M hs b k cs hb
  obtain ⟨e, st₁, tm₁, df₁, w₁, M₁, hq, hr, ht, hold, ha⟩ := h hm tm df w M hs b (.code y :: k) cs hb.fst
  cases e with
  | normal =>
    obtain ⟨e₂, st₂, tm₂, df₂, w₂, M₂, hq₂, hr₂, ht₂, hold₂, ha₂⟩ := hq hold.le tm₁ df₁ w₁ M₁ hr b k cs hb.snd
    exact ⟨e₂, st₂, tm₂, df₂, w₂, M₂, hq₂, hr₂, ht.trans ht₂, hold.trans' hold₂, ha₂.of_steps (.head hstep_seq ha)⟩
  | exit id =>
    obtain ⟨k', hk, hst⟩ := ha
    exact ⟨_, st₁, tm₁, df₁, w₁, M₁, hq, hr, ht, hold, k', by simpa [exitTo] using hk, .head hstep_seq hst⟩
  | ret =>
    obtain ⟨k', hst⟩ := ha
    exact ⟨_, st₁, tm₁, df₁, w₁, M₁, hq, hr, ht, hold, k', .head hstep_seq hst⟩

theorem AW.cond {c : Operand} {x y : Code} {t : Bool} (hc : st.opd c = .raw (.bool t)) (h : AW P m (if t then x else y) Q st) : AW P m (.cond c x y) Q st := by
  intro hm tm df w M hs b k cs hb
  obtain ⟨e, st', tm', df', w', M', hq, hr, ht, hold, ha⟩ := h hm tm df w M hs b k cs (hb.br t)
  have hv := hs.opd' c
  rw [hc] at hv
  have hv' : tev tm c = .bool t := hv.raw_inv
  exact ⟨e, st', tm', df', w', M', hq, hr, ht, hold, ha.of_steps (.one (hstep_cond hv'))⟩

theorem AW.block {id : Nat} {c : Code} (h : AW P m c (Ex.blk id Q) st) : AW P m (.block id c) Q st := by
  intro hm tm df w M hs b k cs hb
  obtain ⟨e, st', tm', df', w', M', hq, hr, ht, hold, ha⟩ := h hm tm df w M hs b (.inBlock id :: k) cs hb.blk
  cases e with
  | normal => exact ⟨.normal, st', tm', df', w', M', hq, hr, ht, hold, .head hstep_block (Steps.trans ha (.one hstep_inBlock))⟩
  | exit id' =>
    obtain ⟨k', hk, hst⟩ := ha
    by_cases hid : id' = id
    · simp only [Ex.blk, hid, if_true] at hq
      refine ⟨.normal, st', tm', df', w', M', hq, hr, ht, hold, .head hstep_block (Steps.trans hst (.one (hstep_exit ?_)))⟩
      rw [hk]; simp [exitTo, hid]
    · simp only [Ex.blk, hid, if_false] at hq
      refine ⟨.exit id', st', tm', df', w', M', hq, hr, ht, hold, k', ?_, .head hstep_block hst⟩
      have : (id == id') = false := by simp; exact fun h => hid h.symm
      rw [hk]; simp [exitTo, this]
  | ret =>
    obtain ⟨k', hst⟩ := ha
    exact ⟨_, st', tm', df', w', M', hq, hr, ht, hold, k', .head hstep_block hst⟩

/-- At a loop's head. -/
def LW (P : Program) (m : Nat) (c : Code) (Q : Ex → St → Prop) (st : St) : Prop :=
  m ≤ st.n → ∀ tm df w M, StRel st tm df w M → ∀ b k cs, Fits b c → ∃ e st' tm' df' w' M', Q e st' ∧ StRel st' tm' df' w' M' ∧ Tr M w M' w' ∧ Old M st.h m M' st'.h st'.n ∧
    Arr P (lone (here b tm df (.code c :: .inLoop c :: k)) cs w) b k cs e tm' df' w'

theorem LW.mono {c : Code} (h : LW P m c Q st) (hq : ∀ e s, Q e s → Q' e s) : LW P m c Q' st := by
  intro hm tm df w M hs b k cs hb
  obtain ⟨e, st', tm', df', w', M', q, r⟩ := h hm tm df w M hs b k cs hb
  exact ⟨e, st', tm', df', w', M', hq _ _ q, r⟩

theorem AW.of_loop {c : Code} (h : LW P m c Q st) : AW P m (.loop c) Q st := by
  intro hm tm df w M hs b k cs hb
  obtain ⟨e, st', tm', df', w', M', hq, hr, ht, hold, ha⟩ := h hm tm df w M hs b k cs hb.lp
  exact ⟨e, st', tm', df', w', M', hq, hr, ht, hold, ha.of_steps (.one hstep_loop)⟩

theorem LW.step {c : Code} (h : AW P m c (Ex.thn (LW P m c Q) Q) st) : LW P m c Q st := by
  intro hm tm df w M hs b k cs hb
  obtain ⟨e, st₁, tm₁, df₁, w₁, M₁, hq, hr, ht, hold, ha⟩ := h hm tm df w M hs b (.inLoop c :: k) cs hb
  cases e with
  | normal =>
    obtain ⟨e₂, st₂, tm₂, df₂, w₂, M₂, hq₂, hr₂, ht₂, hold₂, ha₂⟩ := hq hold.le tm₁ df₁ w₁ M₁ hr b k cs hb
    exact ⟨e₂, st₂, tm₂, df₂, w₂, M₂, hq₂, hr₂, ht.trans ht₂, hold.trans' hold₂, ha₂.of_steps (Steps.trans ha (.one hstep_inLoop))⟩
  | exit id =>
    obtain ⟨k', hk, hst⟩ := ha
    exact ⟨_, st₁, tm₁, df₁, w₁, M₁, hq, hr, ht, hold, k', by simpa [exitTo] using hk, hst⟩
  | ret =>
    obtain ⟨k', hst⟩ := ha
    exact ⟨_, st₁, tm₁, df₁, w₁, M₁, hq, hr, ht, hold, k', hst⟩

theorem LW.weaken {c : Code} {st' : St} (hw : m ≤ st.n → ∀ tm df w M, StRel st tm df w M → ∃ M', StRel st' tm df w M' ∧ Tr M w M' w ∧ Old M st.h m M' st'.h st'.n) (h : LW P m c Q st') : LW P m c Q st := by
  intro hm tm df w M hs b k cs hb
  obtain ⟨M', hs', ht', hold'⟩ := hw hm tm df w M hs
  obtain ⟨e, st₁, tm₁, df₁, w₁, M₁, hq, hr, ht, hold, ha⟩ := h hold'.le tm df w M' hs' b k cs hb
  exact ⟨e, st₁, tm₁, df₁, w₁, M₁, hq, hr, ht'.trans ht, hold'.trans' hold, ha⟩

/-- What is told of a state may be told of it in another way that says less. -/
theorem AW.weaken {c : Code} {st' : St} (hw : m ≤ st.n → ∀ tm df w M, StRel st tm df w M → ∃ M', StRel st' tm df w M' ∧ Tr M w M' w ∧ Old M st.h m M' st'.h st'.n) (h : AW P m c Q st') : AW P m c Q st := by
  intro hm tm df w M hs b k cs hb
  obtain ⟨M', hs', ht', hold'⟩ := hw hm tm df w M hs
  obtain ⟨e, st₁, tm₁, df₁, w₁, M₁, hq, hr, ht, hold, ha⟩ := h hold'.le tm df w M' hs' b k cs hb
  exact ⟨e, st₁, tm₁, df₁, w₁, M₁, hq, hr, ht'.trans ht, hold'.trans' hold, ha⟩
end
end Go.Qx
