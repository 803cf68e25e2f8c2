import Derived.Test.YtomdgahghdmhbaaGreatDoorQxCongr
import Derived.Test.YtomdgahghdmhbaaGreatDoorQxDraw0
import Derived.Test.YtomdgahghdmhbaaGreatDoorQxRun
namespace Go.Qx
open Go
set_option linter.unusedVariables false

/-! ### Operations that write nothing but their own temporary. -/
def isQ (o : Oper) : Bool :=
  match o.op with
  | .move _ | .pick .. | .build .. | .load .. | .nilCheck _ | .binOp .. | .unOp .. | .convert .. | .makeInterface .. | .makeFunc .. | .slice .. | .fieldAddr .. | .field ..
  | .indexAddr .. | .index .. | .lookup .. | .extract .. => true
  | .call { callee := .builtin .len, .. } | .call { callee := .builtin .min, .. } | .call { callee := .builtin .max, .. } => true
  | _ => false

/-- Those that look at memory. -/
def isMem (o : Oper) : Bool :=
  match o.op with
  | .load .. | .convert .. | .lookup .. => true
  | .call { callee := .builtin .len, .. } => true
  | _ => false

theorem isQ_select {o : Oper} (h : isQ o = true) : ∀ cs b, o.op ≠ .select cs b := by
  intro cs b hc
  unfold isQ at h
  rw [hc] at h
  cases h

def dstAt (ops : Array Oper) (i : Nat) : Option Tmp := (ops[i]?).bind (·.dst)
def guardT (ops : Array Oper) (o : Oper) : List Nat :=
  match o.guard with
  | some (j, _) => (dstAt ops j).toList
  | none => []
def usesAt (ops : Array Oper) (i : Nat) : List Nat :=
  match ops[i]? with
  | some o => opUses o ++ guardT ops o
  | none => []
def isQAt (ops : Array Oper) (i : Nat) : Bool :=
  match ops[i]? with
  | some o => isQ o
  | none => false
def isMemAt (ops : Array Oper) (i : Nat) : Bool :=
  match ops[i]? with
  | some o => isMem o
  | none => false

theorem yielded_congr {ops : Array Oper} {tm tm2 : Array Value} {j : Nat} (h : ∀ t, dstAt ops j = some t → tm[t]? = tm2[t]?) : yielded ops tm j = yielded ops tm2 j := by
  unfold yielded
  cases hd : (ops[j]?).bind (·.dst) with
  | none => simp
  | some t => simp only [Option.bind_some, h t hd]

theorem wanted_congr {ops : Array Oper} {tm tm2 : Array Value} {o : Oper} (h : ∀ t ∈ guardT ops o, tm[t]? = tm2[t]?) : Region.wanted o (yielded ops tm) = Region.wanted o (yielded ops tm2) := by
  unfold Region.wanted
  cases hg : o.guard with
  | none => rfl
  | some p =>
    obtain ⟨j, b⟩ := p
    simp only
    rw [yielded_congr (tm := tm) (tm2 := tm2) (j := j) fun t ht => h t (by simp [guardT, hg, ht])]

/-- What a quiet operation comes to here. -/
def ValAt (P : Program) (ops : Array Oper) (w : World) (tm : Array Value) (i : Nat) (x : Value) : Prop :=
  ∃ o, ops[i]? = some o ∧ isQ o = true ∧ ((Region.wanted o (yielded ops tm) = true ∧ (∀ c, o.op ≠ .defer c) ∧ (execOp (tev tm) o).run P w = .ok (.value x) w ∧
    (isMem o = false → ∀ w2, (execOp (tev tm) o).run P w2 = .ok (.value x) w2)) ∨ (Region.wanted o (yielded ops tm) = false ∧ x = undef))

theorem ValAt.congr {P : Program} {ops : Array Oper} {w : World} {tm tm2 : Array Value} {i : Nat} {x : Value} (h : ValAt P ops w tm i x) (ha : Agree tm tm2 (usesAt ops i)) : ValAt P ops w tm2 i x := by
  obtain ⟨o, ho, hq, h⟩ := h
  have hu : usesAt ops i = opUses o ++ guardT ops o := by simp [usesAt, ho]
  rw [hu] at ha
  have he : execOp (tev tm) o = execOp (tev tm2) o := (ha.mono fun t ht => List.mem_append_left _ ht).exec (isQ_select hq)
  have hw : Region.wanted o (yielded ops tm) = Region.wanted o (yielded ops tm2) := wanted_congr fun t ht => ha.at_ t (List.mem_append_right _ ht)
  rw [he, hw] at h
  exact ⟨o, ho, hq, h⟩

theorem ValAt.step {P : Program} {ops : Array Oper} {w : World} {tm : Array Value} {i : Nat} {x : Value} (h : ValAt P ops w tm i x) (b : Frame) (df : List Deferred) (rest : List Nat) (k : List Item) (cs : List Frame) :
    Steps P (lone (here b tm df (.inRegion ops (i :: rest) :: k)) cs w) (lone (here b (tput tm (dstAt ops i) x) df (.inRegion ops rest :: k)) cs w) := by
  obtain ⟨o, ho, hq, h⟩ := h
  have hd : dstAt ops i = o.dst := by simp [dstAt, ho]
  rw [hd]
  rcases h with ⟨h1, h2, h3, _⟩ | ⟨h1, rfl⟩
  · exact step_of_run h2 h3 (.inl rfl) ho h1
  · have := hstep_op_skip (P := P) (b := b) (df := df) (k := k) (cs := cs) (w := w) (ops := ops) (tm := tm) (i := i) (rest := rest) (by rw [ho]; simpa using h1)
    rw [ho, Option.bind_some] at this
    exact .one this

/-- The temporaries behind operations that are still to run. -/
def Later (P : Program) (ops : Array Oper) (w : World) : List Nat → Array Value → Array Value → Prop
  | [], tm, tm' => tm' = tm
  | i :: L, tm, tm' => ∃ x, ValAt P ops w tm i x ∧ Later P ops w L (tput tm (dstAt ops i) x) tm'

theorem Later.size {P : Program} {ops : Array Oper} {w : World} : ∀ {L : List Nat} {tm tm' : Array Value}, Later P ops w L tm tm' → tm'.size = tm.size
  | [], tm, tm', h => by rw [show tm' = tm from h]
  | i :: L, tm, tm', ⟨x, _, h⟩ => by rw [Later.size h, size_tput]

theorem Later.other {P : Program} {ops : Array Oper} {w : World} {t : Nat} : ∀ {L : List Nat} {tm tm' : Array Value}, Later P ops w L tm tm' → (∀ j ∈ L, dstAt ops j ≠ some t) → tm'[t]? = tm[t]?
  | [], tm, tm', h, _ => by rw [show tm' = tm from h]
  | i :: L, tm, tm', ⟨x, _, h⟩, hn => by rw [Later.other h fun j hj => hn j (List.mem_cons_of_mem _ hj), get_tput (hn i (List.mem_cons_self ..))]

theorem Later.snoc {P : Program} {ops : Array Oper} {w : World} {i : Nat} {x : Value} : ∀ {L : List Nat} {tm tm' : Array Value}, Later P ops w L tm tm' → ValAt P ops w tm' i x → Later P ops w (L ++ [i]) tm (tput tm' (dstAt ops i) x)
  | [], tm, tm', h, hv => by rw [show tm' = tm from h] at hv ⊢; exact ⟨x, hv, rfl⟩
  | j :: L, tm, tm', ⟨y, hy, h⟩, hv => ⟨y, hy, Later.snoc h hv⟩

/-- No operation of the list looks at what itself or a later one writes; no two write one place. -/
def Clean (ops : Array Oper) : List Nat → Prop
  | [] => True
  | i :: L => (∀ t, dstAt ops i = some t → t ∉ usesAt ops i) ∧ (∀ j ∈ L, ∀ t, dstAt ops j = some t → t ∉ usesAt ops i ∧ dstAt ops i ≠ some t) ∧ Clean ops L

theorem Clean.remove {ops : Array Oper} {i : Nat} {B : List Nat} : ∀ {A : List Nat}, Clean ops (A ++ i :: B) → Clean ops (A ++ B)
  | [], h => h.2.2
  | a :: A, h => ⟨h.1, fun j hj => h.2.1 j (by simp at hj ⊢; rcases hj with h | h <;> simp [h]), Clean.remove h.2.2⟩

theorem agree_tput {ops : Array Oper} {tm : Array Value} {d : Option Tmp} {x : Value} {ts : List Nat} (h : ∀ t, d = some t → t ∉ ts) : Agree tm (tput tm d x) ts :=
  ⟨(size_tput ..).symm, fun t ht => (get_tput fun hd => h t hd ht).symm⟩

/-- An operation of the list may run first, if it looks at nothing that those ahead write. -/
theorem Later.remove {P : Program} {ops : Array Oper} {w : World} {i : Nat} {B : List Nat} : ∀ {A : List Nat} {tm tm' : Array Value}, Clean ops (A ++ i :: B) → (∀ a ∈ A, ∀ t, dstAt ops a = some t → t ∉ usesAt ops i) →
    Later P ops w (A ++ i :: B) tm tm' → ∃ x, ValAt P ops w tm i x ∧ Later P ops w (A ++ B) (tput tm (dstAt ops i) x) tm'
  | [], tm, tm', hc, ha, h => h
  | a :: A, tm, tm', hc, ha, ⟨xa, hva, h⟩ => by
    obtain ⟨x, hx, hl⟩ := Later.remove (A := A) hc.2.2 (fun b hb => ha b (List.mem_cons_of_mem _ hb)) h
    have hda := ha a (List.mem_cons_self ..)
    have hdi := hc.2.1 i (by simp)
    refine ⟨x, hx.congr (agree_tput (ops := ops) hda).symm, xa, hva.congr (agree_tput (ops := ops) fun t ht => (hdi t ht).1), ?_⟩
    rw [tput_comm fun t ht h2 => (hdi t ht).2 h2]
    exact hl
end Go.Qx
