import Derived.Test.YtomdgahghdmhbaaGreatDoorQxCode
namespace Go.Qx
open Go
set_option linter.unusedVariables false

theorem Heap.find_new (h : Heap) (n : Nat) (o : O) (id : Nat) : Heap.find ((n, o) :: h) id = if n = id then o else Heap.find h id := by
  simp only [Heap.find]
  by_cases hn : n = id
  · simp [hn]
  · have : (n == id) = false := by simpa using hn
    simp [this, hn]

/-- Old memory is as it was; there may be more. -/
structure Grow (w w' : World) : Prop where
  os : w'.os = w.os
  tape : w'.tape = w.tape
  output : w'.output = w.output
  size : w.heap.size ≤ w'.heap.size
  blk : ∀ b, b < w.heap.size → w'.heap[b]? = w.heap[b]?

theorem Grow.refl (w : World) : Grow w w := ⟨rfl, rfl, rfl, Nat.le_refl _, fun _ _ => rfl⟩
theorem Grow.alloc (w : World) (o : Obj) : Grow w (w.alloc o) :=
  ⟨rfl, rfl, rfl, by show _ ≤ (w.heap.push o).size; simp, fun b hb => by show (w.heap.push o)[b]? = _; rw [Array.getElem?_push, if_neg (by omega)]⟩
theorem Grow.drew (w : World) : Grow w w.drew := ⟨rfl, rfl, rfl, Nat.le_refl _, fun _ _ => rfl⟩
theorem Grow.trans {a b c : World} (h : Grow a b) (k : Grow b c) : Grow a c :=
  ⟨k.os.trans h.os, k.tape.trans h.tape, k.output.trans h.output, Nat.le_trans h.size k.size, fun i hi => (k.blk i (Nat.lt_of_lt_of_le hi h.size)).trans (h.blk i hi)⟩

theorem Grow.cell {w w' : World} (h : Grow w w') {b o : Nat} (hb : b < w.heap.size) : w'.cell? ⟨b, o, none⟩ = w.cell? ⟨b, o, none⟩ := by
  simp [World.cell?, h.blk b hb]
theorem Grow.frozen {w w' : World} (h : Grow w w') {b o : Nat} (hb : b < w.heap.size) : w'.frozen? ⟨b, o, none⟩ = w.frozen? ⟨b, o, none⟩ := by
  simp [World.frozen?, h.blk b hb]

/-- Where memory grows, and the state's own places are some of the old ones and new ones. -/
theorem Grow.tr {w w' : World} {M M' : Mem} (h : Grow w w') (hf : ∀ b o, foot M' b o → foot M b o ∨ w.heap.size ≤ b) : Tr M w M' w' :=
  ⟨⟨h.os, h.tape, h.output, h.size, fun b o hb _ => ⟨h.cell hb, h.frozen hb⟩, fun b hb _ => h.blk b hb⟩, hf⟩

def upd (M : Mem) (n : Nat) (p : Option Plc) : Mem := fun id => if id = n then p else M id

theorem upd_same (M : Mem) (n : Nat) (p : Option Plc) : upd M n p n = p := by simp [upd]
theorem upd_other (M : Mem) {n id : Nat} (p : Option Plc) (h : id ≠ n) : upd M n p id = M id := by simp [upd, h]
theorem upd_old {M : Mem} {n : Nat} {p : Option Plc} : ∀ id q, id < n → upd M n p id = some q → M id = some q := by
  intro id q hid h
  rwa [upd_other M p (by omega)] at h

theorem foot_upd {M : Mem} {n : Nat} {p : Option Plc} {b o : Nat} (h : foot (upd M n p) b o) : foot M b o ∨ ∃ q, p = some q ∧ q.foot b o := by
  obtain ⟨id, q, hq, hf⟩ := h
  by_cases hid : id = n
  · subst hid; rw [upd_same] at hq; exact .inr ⟨q, hq, hf⟩
  · rw [upd_other M p hid] at hq; exact .inl ⟨id, q, hq, hf⟩

theorem Sim.of_obj {w : World} {M : Mem} {h : Heap} {n : Nat} (hlt : ∀ id p, M id = some p → id < n) (hinb : ∀ id p b o, M id = some p → p.foot b o → b < w.heap.size)
    (hdis : ∀ i j p q b o, M i = some p → M j = some q → p.foot b o → q.foot b o → i = j)
    (ho : ∀ id, h.find id ≠ .dead → ∃ p, M id = some p ∧ ObjOk w M n p (h.find id)) : Sim w M h n := ⟨hlt, hinb, hdis, ho⟩

/-- An object through a step that leaves its own place alone. -/
theorem ObjOk.tr {w w' : World} {M M' : Mem} {n n' : Nat} {p : Plc} {o : O} (h : ObjOk w M n p o) (ht : Tr M w M' w')
    (hM : ∀ id p, id < n → M' id = some p → M id = some p) (hD : ∀ id D, (∃ b, D = .dfr b ∨ D = .map b) → M id = some D → M' id = some D) (hn : n ≤ n')
    (hcell : ∀ b o, p.foot b o → w'.cell? ⟨b, o, none⟩ = w.cell? ⟨b, o, none⟩ ∧ w'.frozen? ⟨b, o, none⟩ = w.frozen? ⟨b, o, none⟩)
    (hblk : ∀ b, (∀ o, p.foot b o) → w'.heap[b]? = w.heap[b]?) :
    ObjOk w' M' n' p o := by
  cases o with
  | dead => trivial
  | box cs =>
    obtain ⟨b, ys, el, fz, rfl, hh, hsz, hfr, ho, hr⟩ := h
    have hb := hblk b fun _ => rfl
    exact ⟨b, ys, el, fz, rfl, hb.trans hh, hsz, fun o => by rw [← hfr o]; simp [World.frozen?, hb], ho, fun i v hv => (hr i v hv).tr ht hM hn⟩
  | own k =>
    obtain ⟨b, t, e, rfl, hc⟩ := h
    refine ⟨b, t, e, rfl, fun o h1 h2 => ?_⟩
    have := hcell b o ⟨rfl, h1, h2⟩
    obtain ⟨⟨y, hy⟩, hf⟩ := hc o h1 h2
    exact ⟨⟨y, this.1.trans hy⟩, this.2.trans hf⟩
  | loop fn tm ps as bd bu ov pe df =>
    obtain ⟨b, ys, D, st, fo, rfl, hh, h1, h2, h3, hr⟩ := h
    exact ⟨b, ys, D, st, fo, rfl, (hblk b fun _ => rfl).trans hh, h1, h2, hD _ _ ⟨_, .inl rfl⟩ h3, fun i v hv => (hr i v hv).tr ht hM hn⟩
  | dfr =>
    obtain ⟨b, rfl, hh⟩ := h
    exact ⟨b, rfl, (hblk b fun _ => rfl).trans hh⟩
  | fr w0 F =>
    obtain ⟨rfl, hf⟩ := h
    exact ⟨rfl, fun b o hF => ⟨(hcell b o hF).1.trans (hf.cell b o hF).1, (hcell b o hF).2.trans (hf.cell b o hF).2⟩, fun b hF => (hblk b hF).trans (hf.blk b hF)⟩
  | map es =>
    obtain ⟨b, ents, rfl, hh, hsz, hr⟩ := h
    exact ⟨b, ents, rfl, (hblk b fun _ => rfl).trans hh, hsz, fun i k v hv => let ⟨x, h1, h2⟩ := hr i k v hv; ⟨x, h1, h2.tr ht hM hn⟩⟩
  | mit mid len seen =>
    obtain ⟨b, m, rfl, h1, hh⟩ := h
    exact ⟨b, m, rfl, hD _ _ ⟨_, .inr rfl⟩ h1, (hblk b fun _ => rfl).trans hh⟩
  | arr k es =>
    obtain ⟨b, t, e, y, rfl, h1, h2, h3, h4, h5⟩ := h
    exact ⟨b, t, e, y, rfl, h1, h2, fun i hi => by
      have := hcell b (t + i) ⟨rfl, by omega, hi⟩
      exact ⟨this.1.trans (h3 i hi).1, this.2.trans (h3 i hi).2⟩, h4, fun i v hv => (h5 i v hv).tr ht hM hn⟩

/-- The memory grows; nothing of the state turns. -/
theorem Sim.grow {w w' : World} {M : Mem} {h : Heap} {n : Nat} (hs : Sim w M h n) (g : Grow w w') : Sim w' M h n := by
  have ht : Tr M w M w' := g.tr fun b o hf => .inl hf
  refine ⟨hs.lt, fun id p b o hm hf => Nat.lt_of_lt_of_le (hs.inb id p b o hm hf) g.size, hs.disj, fun id hid => ?_⟩
  obtain ⟨p, hp, hok⟩ := hs.obj id hid
  exact ⟨p, hp, hok.tr ht (fun _ _ _ h => h) (fun _ _ _ h => h) (Nat.le_refl _) (fun b o hf => ⟨g.cell (hs.inb id p b o hp hf), g.frozen (hs.inb id p b o hp hf)⟩) (fun b hf => g.blk b (hs.inb id p b 0 hp (hf 0)))⟩

theorem Sim.none_at {w : World} {M : Mem} {h : Heap} {n : Nat} (hs : Sim w M h n) : M n = none := by
  cases hm : M n with
  | none => rfl
  | some p => exact absurd (hs.lt n p hm) (Nat.lt_irrefl n)

/-- A NEW OBJECT, at a place that no object of the state has. -/
theorem Sim.new {w w' : World} {M : Mem} {h : Heap} {n : Nat} (hs : Sim w M h n) (g : Grow w w') (p : Plc) (o : O)
    (hp : ∀ b o, p.foot b o → w.heap.size ≤ b ∧ b < w'.heap.size)
    (hok : Tr M w (upd M n (some p)) w' → ObjOk w' (upd M n (some p)) (n + 1) p o) :
    Sim w' (upd M n (some p)) ((n, o) :: h) (n + 1) ∧ Tr M w (upd M n (some p)) w' := by
  have ht : Tr M w (upd M n (some p)) w' := g.tr fun b o hf => by
    rcases foot_upd hf with h1 | ⟨q, hq, h1⟩
    · exact .inl h1
    · cases hq; exact .inr (hp b o h1).1
  have hnn := hs.none_at
  refine ⟨Sim.of_obj ?_ ?_ ?_ ?_, ht⟩
  · intro id q hq
    by_cases hid : id = n
    · omega
    · rw [upd_other M _ hid] at hq; have := hs.lt id q hq; omega
  · intro id q b o hq hf
    by_cases hid : id = n
    · subst hid; rw [upd_same] at hq; cases hq; exact (hp b o hf).2
    · rw [upd_other M _ hid] at hq; exact Nat.lt_of_lt_of_le (hs.inb id q b o hq hf) g.size
  · intro i j q r b o hi hj hfi hfj
    by_cases h1 : i = n <;> by_cases h2 : j = n
    · omega
    · subst h1; rw [upd_same] at hi; cases hi
      rw [upd_other M _ h2] at hj
      have := (hp b o hfi).1; have := hs.inb j r b o hj hfj; omega
    · subst h2; rw [upd_same] at hj; cases hj
      rw [upd_other M _ h1] at hi
      have := (hp b o hfj).1; have := hs.inb i q b o hi hfi; omega
    · rw [upd_other M _ h1] at hi; rw [upd_other M _ h2] at hj
      exact hs.disj i j q r b o hi hj hfi hfj
  · intro id hid
    rw [Heap.find_new] at hid ⊢
    by_cases hidn : n = id
    · subst hidn
      simp only [if_true] at hid ⊢
      exact ⟨p, upd_same .., hok ht⟩
    · simp only [hidn, if_false] at hid ⊢
      obtain ⟨q, hq, hqok⟩ := hs.obj id hid
      have hq' : upd M n (some p) id = some q := by rw [upd_other M _ (by omega)]; exact hq
      have hin : ∀ b, (∀ o, q.foot b o) → b < w.heap.size := fun b hb => hs.inb id q b 0 hq (hb 0)
      refine ⟨q, hq', hqok.tr ht (fun id q => upd_old id q) (fun id D _ hD => ?_) (Nat.le_succ _) (fun b o hf => ⟨g.cell (hs.inb id _ b o hq hf), g.frozen (hs.inb id _ b o hq hf)⟩) (fun b hb => g.blk b (hin b hb))⟩
      rw [upd_other M _ (by have := hs.lt id _ hD; omega)]; exact hD

theorem StRel.new {st : St} {tm : Array Value} {df : List Deferred} {w w' : World} {M : Mem} (h : StRel st tm df w M) (g : Grow w w') (p : Plc) (o : O)
    (hp : ∀ b o, p.foot b o → w.heap.size ≤ b ∧ b < w'.heap.size)
    (hok : Tr M w (upd M st.n (some p)) w' → ObjOk w' (upd M st.n (some p)) (st.n + 1) p o) :
    StRel (st.new o) tm df w' (upd M st.n (some p)) ∧ Tr M w (upd M st.n (some p)) w' := by
  obtain ⟨hs, ht⟩ := h.sim.new g p o hp hok
  have hm := h.marks.dfr
  refine ⟨h.tr ht (fun id q => upd_old id q) (Nat.le_succ _) hs fun id hid hf => ?_, ht⟩
  have hlt : id < st.n := by
    obtain ⟨q, hq, _⟩ := h.sim.obj id (by rw [hf]; simp)
    exact h.sim.lt id q hq
  exact ⟨by rw [Heap.find_new, if_neg (by omega)]; exact hf, upd_other M _ (by omega)⟩

/-- What goes from one memory of the state to another one: old places are gone or as they were; loops' marks stay. -/
structure Old (M : Mem) (h : Heap) (n : Nat) (M' : Mem) (h' : Heap) (n' : Nat) : Prop where
  le : n ≤ n'
  old : ∀ id p, id < n → M' id = some p → M id = some p
  pin : ∀ id, id < n → (h.find id).pin = true → h'.find id = h.find id ∧ M' id = M id

theorem Old.refl (M : Mem) (h : Heap) (n : Nat) : Old M h n M h n := ⟨Nat.le_refl _, fun _ _ _ h => h, fun _ _ _ => ⟨rfl, rfl⟩⟩
theorem Old.weaken {M M' : Mem} {h h' : Heap} {m n n' : Nat} (a : Old M h n M' h' n') (hm : m ≤ n) : Old M h m M' h' n' :=
  ⟨Nat.le_trans hm a.le, fun id p hi hp => a.old id p (Nat.lt_of_lt_of_le hi hm) hp, fun id hi hd => a.pin id (Nat.lt_of_lt_of_le hi hm) hd⟩
theorem Old.trans' {M M' M'' : Mem} {h h' h'' : Heap} {n n' n'' : Nat} (a : Old M h n M' h' n') (b : Old M' h' n M'' h'' n'') : Old M h n M'' h'' n'' :=
  ⟨b.le, fun id p hi hp => a.old id p hi (b.old id p hi hp), fun id hi hd => by
    obtain ⟨h1, h2⟩ := a.pin id hi hd
    obtain ⟨h3, h4⟩ := b.pin id hi (by rw [h1]; exact hd)
    exact ⟨h3.trans h1, h4.trans h2⟩⟩
theorem Old.trans {M M' M'' : Mem} {h h' h'' : Heap} {n n' n'' : Nat} (a : Old M h n M' h' n') (b : Old M' h' n' M'' h'' n'') : Old M h n M'' h'' n'' :=
  a.trans' (b.weaken a.le)
theorem Old.congr {M M' : Mem} {h h' h'' : Heap} {n n' : Nat} (a : Old M h n M' h' n') (he : ∀ id, h''.find id = h'.find id) : Old M h n M' h'' n' :=
  ⟨a.le, a.old, fun id hi hd => ⟨(he id).trans (a.pin id hi hd).1, (a.pin id hi hd).2⟩⟩

theorem Sim.pin_lt {w : World} {M : Mem} {h : Heap} {n id : Nat} (hs : Sim w M h n) (hd : (h.find id).pin = true) : id < n := by
  obtain ⟨q, hq, _⟩ := hs.obj id (by intro hc; rw [hc] at hd; cases hd)
  exact hs.lt id q hq

theorem Old.new {w : World} {M : Mem} {h : Heap} {n : Nat} (hs : Sim w M h n) (p : Option Plc) (o : O) : Old M h n (upd M n p) ((n, o) :: h) (n + 1) :=
  ⟨Nat.le_succ _, fun id q => upd_old id q, fun id this hd => by
    exact ⟨by rw [Heap.find_new, if_neg (by omega)], upd_other M _ (by omega)⟩⟩
theorem Old.set {M : Mem} {h : Heap} {n id : Nat} (o : O) (hd : (h.find id).pin = false) : Old M h n M ((id, o) :: h) n :=
  ⟨Nat.le_refl _, fun _ _ _ h => h, fun j _ hj => ⟨by rw [Heap.find_new, if_neg (by rintro rfl; rw [hd] at hj; cases hj)], rfl⟩⟩
theorem Old.kill {M : Mem} {h : Heap} {n id : Nat} (hd : (h.find id).pin = false) : Old M h n (upd M id none) ((id, .dead) :: h) n :=
  ⟨Nat.le_refl _, fun j p _ hp => by
    by_cases hj : j = id
    · subst hj; rw [upd_same] at hp; cases hp
    · rwa [upd_other _ _ hj] at hp, fun j _ hj => by
    have hne : id ≠ j := by rintro rfl; rw [hd] at hj; cases hj
    exact ⟨by rw [Heap.find_new, if_neg hne], upd_other _ _ (Ne.symm hne)⟩⟩

end Go.Qx
