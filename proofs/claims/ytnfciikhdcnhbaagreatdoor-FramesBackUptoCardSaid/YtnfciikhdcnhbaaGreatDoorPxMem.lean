import Derived.Test.YtnfciikhdcnhbaaGreatDoorPxCode
namespace Go.Px
open Go
set_option linter.unusedVariables false

theorem Heap.find_new (h : Heap) (n : Nat) (o : O) (id : Nat) : Heap.find ((n, o) :: h) id = if n = id then o else Heap.find h id := by
  simp only [Heap.find]
  by_cases hn : n = id
  · simp [hn]
  · have : (n == id) = false := by simpa using hn
    simp [this, hn]

/-- Old memory is as it was; there may be more. -/
structure Grow (w w' : World) : Prop where
  os : w'.os = w.os
  tape : w'.tape = w.tape
  output : w'.output = w.output
  size : w.heap.size ≤ w'.heap.size
  blk : ∀ b, b < w.heap.size → w'.heap[b]? = w.heap[b]?

theorem Grow.refl (w : World) : Grow w w := ⟨rfl, rfl, rfl, Nat.le_refl _, fun _ _ => rfl⟩
theorem Grow.alloc (w : World) (o : Obj) : Grow w (w.alloc o) :=
  ⟨rfl, rfl, rfl, by show _ ≤ (w.heap.push o).size; simp, fun b hb => by show (w.heap.push o)[b]? = _; rw [Array.getElem?_push, if_neg (by omega)]⟩
theorem Grow.drew (w : World) : Grow w w.drew := ⟨rfl, rfl, rfl, Nat.le_refl _, fun _ _ => rfl⟩
theorem Grow.trans {a b c : World} (h : Grow a b) (k : Grow b c) : Grow a c :=
  ⟨k.os.trans h.os, k.tape.trans h.tape, k.output.trans h.output, Nat.le_trans h.size k.size, fun i hi => (k.blk i (Nat.lt_of_lt_of_le hi h.size)).trans (h.blk i hi)⟩

theorem Grow.cell {w w' : World} (h : Grow w w') {b o : Nat} (hb : b < w.heap.size) : w'.cell? ⟨b, o, none⟩ = w.cell? ⟨b, o, none⟩ := by
  simp [World.cell?, h.blk b hb]
theorem Grow.frozen {w w' : World} (h : Grow w w') {b o : Nat} (hb : b < w.heap.size) : w'.frozen? ⟨b, o, none⟩ = w.frozen? ⟨b, o, none⟩ := by
  simp [World.frozen?, h.blk b hb]

/-- Where memory grows, and the state's own places are some of the old ones and new ones. -/
theorem Grow.tr {w w' : World} {M M' : Mem} (h : Grow w w') (hf : ∀ b o, foot M' b o → foot M b o ∨ w.heap.size ≤ b) : Tr M w M' w' :=
  ⟨⟨h.os, h.tape, h.output, h.size, fun b o hb _ => ⟨h.cell hb, h.frozen hb⟩, fun b hb _ => h.blk b hb⟩, hf⟩

/-- The memory grows; nothing of the state turns. -/
theorem Sim.grow {w w' : World} {M : Mem} {h : Heap} {n : Nat} (hs : Sim w M h n) (g : Grow w w') : Sim w' M h n := by
  have ht : Tr M w M w' := g.tr fun b o hf => .inl hf
  refine ⟨hs.lt, fun id p b o hm hf => Nat.lt_of_lt_of_le (hs.inb id p b o hm hf) g.size, hs.disj, ?_, ?_, ?_, ?_, ?_⟩
  · intro id cs hid
    obtain ⟨b, ys, el, fz, hm, hh, hsz, hfr, ho, hr⟩ := hs.box id cs hid
    have hb : b < w.heap.size := (Array.getElem?_eq_some_iff.1 hh).1
    exact ⟨b, ys, el, fz, hm, (g.blk b hb).trans hh, hsz, fun o => (g.frozen hb).trans (hfr o), ho, fun i v hv => (hr i v hv).tr ht (fun _ _ _ h => h) (Nat.le_refl _)⟩
  · intro id k hid
    obtain ⟨b, t, e, hm, hc⟩ := hs.own id k hid
    refine ⟨b, t, e, hm, fun o h1 h2 => ?_⟩
    obtain ⟨⟨y, hy⟩, hf⟩ := hc o h1 h2
    have hb := cell?_lt hy
    exact ⟨⟨y, (g.cell hb).trans hy⟩, (g.frozen hb).trans hf⟩
  · intro id fn tm ps as bd bu ov pe df hid
    obtain ⟨b, ys, D, st, hm, hh, h1, h2, h3, hr⟩ := hs.loop id fn tm ps as bd bu ov pe df hid
    exact ⟨b, ys, D, st, hm, (g.blk b (Array.getElem?_eq_some_iff.1 hh).1).trans hh, h1, h2, h3, fun i v hv => (hr i v hv).tr ht (fun _ _ _ h => h) (Nat.le_refl _)⟩
  · intro id hid
    obtain ⟨b, hm, hh⟩ := hs.dfr id hid
    exact ⟨b, hm, (g.blk b (Array.getElem?_eq_some_iff.1 hh).1).trans hh⟩
  · intro id w0 F hid
    obtain ⟨hm, hf⟩ := hs.fr id w0 F hid
    exact ⟨hm, fun b o h => ⟨(g.cell (hs.inb id _ b o hm h)).trans (hf.cell b o h).1, (g.frozen (hs.inb id _ b o hm h)).trans (hf.cell b o h).2⟩, fun b h => (g.blk b (hs.inb id _ b 0 hm (h 0))).trans (hf.blk b h)⟩

def upd (M : Mem) (n : Nat) (p : Option Plc) : Mem := fun id => if id = n then p else M id

theorem upd_same (M : Mem) (n : Nat) (p : Option Plc) : upd M n p n = p := by simp [upd]
theorem upd_other (M : Mem) {n id : Nat} (p : Option Plc) (h : id ≠ n) : upd M n p id = M id := by simp [upd, h]
theorem upd_old {M : Mem} {n : Nat} {p : Option Plc} : ∀ id q, id < n → upd M n p id = some q → M id = some q := by
  intro id q hid h
  rwa [upd_other M p (by omega)] at h

theorem foot_upd {M : Mem} {n : Nat} {p : Option Plc} {b o : Nat} (h : foot (upd M n p) b o) : foot M b o ∨ ∃ q, p = some q ∧ q.foot b o := by
  obtain ⟨id, q, hq, hf⟩ := h
  by_cases hid : id = n
  · subst hid; rw [upd_same] at hq; exact .inr ⟨q, hq, hf⟩
  · rw [upd_other M p hid] at hq; exact .inl ⟨id, q, hq, hf⟩

/-- What an object says of its place. -/
def ObjOk (w : World) (M : Mem) (n : Nat) (p : Plc) : O → Prop
  | .dead => True
  | .box cs => ∃ b ys el fz, p = .box b ∧ w.heap[b]? = some (.cells ys el fz) ∧ ys.size = cs.length ∧
    (∀ o, w.frozen? ⟨b, o, none⟩ = false) ∧ (∀ i, i < cs.length → (ys.getD i undef).oneCell' = true) ∧ ∀ i v, cs[i]? = some v → Rep w M n v (ys.getD i undef)
  | .own k => ∃ b t e, p = .tip b t e k ∧ ∀ o, t ≤ o → o < e → (∃ y, w.cell? ⟨b, o, none⟩ = some y) ∧ w.frozen? ⟨b, o, none⟩ = false
  | .loop fn tm ps as bd bu ov pe df => ∃ b ys D st, p = .loop b ∧
    w.heap[b]? = some (.loop ⟨st, pe, fn, ys, ps.toArray, as, bd, D⟩) ∧ (st = if ov then .done else if bu then .busy else .ready) ∧
    ys.size = tm.length ∧ M df = some (.dfr D) ∧ ∀ i v, tm[i]? = some v → Rep w M n v (ys.getD i undef)
  | .dfr => ∃ b, p = .dfr b ∧ w.heap[b]? = some (.deferred (some []))
  | .fr w0 F => p = .fr F ∧ FrOk w w0 F

theorem Sim.of_obj {w : World} {M : Mem} {h : Heap} {n : Nat} (hlt : ∀ id p, M id = some p → id < n) (hinb : ∀ id p b o, M id = some p → p.foot b o → b < w.heap.size)
    (hdis : ∀ i j p q b o, M i = some p → M j = some q → p.foot b o → q.foot b o → i = j)
    (ho : ∀ id, h.find id ≠ .dead → ∃ p, M id = some p ∧ ObjOk w M n p (h.find id)) : Sim w M h n := by
  refine ⟨hlt, hinb, hdis, ?_, ?_, ?_, ?_, ?_⟩
  · intro id cs hid
    obtain ⟨p, hp, hok⟩ := ho id (by rw [hid]; simp)
    rw [hid] at hok
    obtain ⟨b, ys, el, fz, rfl, r⟩ := hok
    exact ⟨b, ys, el, fz, hp, r⟩
  · intro id k hid
    obtain ⟨p, hp, hok⟩ := ho id (by rw [hid]; simp)
    rw [hid] at hok
    obtain ⟨b, t, e, rfl, r⟩ := hok
    exact ⟨b, t, e, hp, r⟩
  · intro id fn tm ps as bd bu ov pe df hid
    obtain ⟨p, hp, hok⟩ := ho id (by rw [hid]; simp)
    rw [hid] at hok
    obtain ⟨b, ys, D, st, rfl, r⟩ := hok
    exact ⟨b, ys, D, st, hp, r⟩
  · intro id hid
    obtain ⟨p, hp, hok⟩ := ho id (by rw [hid]; simp)
    rw [hid] at hok
    obtain ⟨b, rfl, r⟩ := hok
    exact ⟨b, hp, r⟩
  · intro id w0 F hid
    obtain ⟨p, hp, hok⟩ := ho id (by rw [hid]; simp)
    rw [hid] at hok
    obtain ⟨rfl, r⟩ := hok
    exact ⟨hp, r⟩

theorem Sim.obj {w : World} {M : Mem} {h : Heap} {n : Nat} (hs : Sim w M h n) (id : Nat) (hid : h.find id ≠ .dead) : ∃ p, M id = some p ∧ ObjOk w M n p (h.find id) := by
  cases hf : h.find id with
  | dead => exact absurd hf hid
  | box cs => obtain ⟨b, ys, el, fz, hm, r⟩ := hs.box id cs hf; exact ⟨_, hm, b, ys, el, fz, rfl, r⟩
  | own k => obtain ⟨b, t, e, hm, r⟩ := hs.own id k hf; exact ⟨_, hm, b, t, e, rfl, r⟩
  | loop fn tm ps as bd bu ov pe df => obtain ⟨b, ys, D, st, hm, r⟩ := hs.loop id _ _ _ _ _ _ _ _ _ hf; exact ⟨_, hm, b, ys, D, st, rfl, r⟩
  | dfr => obtain ⟨b, hm, r⟩ := hs.dfr id hf; exact ⟨_, hm, b, rfl, r⟩
  | fr w0 F => obtain ⟨hm, r⟩ := hs.fr id w0 F hf; exact ⟨_, hm, rfl, r⟩

/-- An object through a step that leaves its own place alone. -/
theorem ObjOk.tr {w w' : World} {M M' : Mem} {n n' : Nat} {p : Plc} {o : O} (h : ObjOk w M n p o) (ht : Tr M w M' w')
    (hM : ∀ id p, id < n → M' id = some p → M id = some p) (hD : ∀ id D, M id = some (.dfr D) → M' id = some (.dfr D)) (hn : n ≤ n')
    (hblk : ∀ b, (p = .box b ∨ p = .loop b ∨ p = .dfr b) → w'.heap[b]? = w.heap[b]?)
    (hfr : ∀ F, p = .fr F → (∀ b o, F b o → w'.cell? ⟨b, o, none⟩ = w.cell? ⟨b, o, none⟩ ∧ w'.frozen? ⟨b, o, none⟩ = w.frozen? ⟨b, o, none⟩) ∧ ∀ b, (∀ o, F b o) → w'.heap[b]? = w.heap[b]?)
    (htip : ∀ b t e k, p = .tip b t e k → ∀ o, t ≤ o → o < e → w'.cell? ⟨b, o, none⟩ = w.cell? ⟨b, o, none⟩ ∧ w'.frozen? ⟨b, o, none⟩ = w.frozen? ⟨b, o, none⟩) :
    ObjOk w' M' n' p o := by
  cases o with
  | dead => trivial
  | box cs =>
    obtain ⟨b, ys, el, fz, rfl, hh, hsz, hfr, ho, hr⟩ := h
    have hb := hblk b (.inl rfl)
    exact ⟨b, ys, el, fz, rfl, hb.trans hh, hsz, fun o => by rw [← hfr o]; simp [World.frozen?, hb], ho, fun i v hv => (hr i v hv).tr ht hM hn⟩
  | own k =>
    obtain ⟨b, t, e, rfl, hc⟩ := h
    refine ⟨b, t, e, rfl, fun o h1 h2 => ?_⟩
    have := htip b t e k rfl o h1 h2
    obtain ⟨⟨y, hy⟩, hf⟩ := hc o h1 h2
    exact ⟨⟨y, this.1.trans hy⟩, this.2.trans hf⟩
  | loop fn tm ps as bd bu ov pe df =>
    obtain ⟨b, ys, D, st, rfl, hh, h1, h2, h3, hr⟩ := h
    exact ⟨b, ys, D, st, rfl, (hblk b (.inr (.inl rfl))).trans hh, h1, h2, hD _ _ h3, fun i v hv => (hr i v hv).tr ht hM hn⟩
  | dfr =>
    obtain ⟨b, rfl, hh⟩ := h
    exact ⟨b, rfl, (hblk b (.inr (.inr rfl))).trans hh⟩
  | fr w0 F =>
    obtain ⟨rfl, hf⟩ := h
    obtain ⟨h1, h2⟩ := hfr F rfl
    exact ⟨rfl, fun b o hF => ⟨(h1 b o hF).1.trans (hf.cell b o hF).1, (h1 b o hF).2.trans (hf.cell b o hF).2⟩, fun b hF => (h2 b hF).trans (hf.blk b hF)⟩

theorem Sim.none_at {w : World} {M : Mem} {h : Heap} {n : Nat} (hs : Sim w M h n) : M n = none := by
  cases hm : M n with
  | none => rfl
  | some p => exact absurd (hs.lt n p hm) (Nat.lt_irrefl n)

/-- A NEW OBJECT, at a place that no object of the state has. -/
theorem Sim.new {w w' : World} {M : Mem} {h : Heap} {n : Nat} (hs : Sim w M h n) (g : Grow w w') (p : Plc) (o : O)
    (hp : ∀ b o, p.foot b o → w.heap.size ≤ b ∧ b < w'.heap.size)
    (hok : Tr M w (upd M n (some p)) w' → ObjOk w' (upd M n (some p)) (n + 1) p o) :
    Sim w' (upd M n (some p)) ((n, o) :: h) (n + 1) ∧ Tr M w (upd M n (some p)) w' := by
  have ht : Tr M w (upd M n (some p)) w' := g.tr fun b o hf => by
    rcases foot_upd hf with h1 | ⟨q, hq, h1⟩
    · exact .inl h1
    · cases hq; exact .inr (hp b o h1).1
  have hnn := hs.none_at
  refine ⟨Sim.of_obj ?_ ?_ ?_ ?_, ht⟩
  · intro id q hq
    by_cases hid : id = n
    · omega
    · rw [upd_other M _ hid] at hq; have := hs.lt id q hq; omega
  · intro id q b o hq hf
    by_cases hid : id = n
    · subst hid; rw [upd_same] at hq; cases hq; exact (hp b o hf).2
    · rw [upd_other M _ hid] at hq; exact Nat.lt_of_lt_of_le (hs.inb id q b o hq hf) g.size
  · intro i j q r b o hi hj hfi hfj
    by_cases h1 : i = n <;> by_cases h2 : j = n
    · omega
    · subst h1; rw [upd_same] at hi; cases hi
      rw [upd_other M _ h2] at hj
      have := (hp b o hfi).1; have := hs.inb j r b o hj hfj; omega
    · subst h2; rw [upd_same] at hj; cases hj
      rw [upd_other M _ h1] at hi
      have := (hp b o hfj).1; have := hs.inb i q b o hi hfi; omega
    · rw [upd_other M _ h1] at hi; rw [upd_other M _ h2] at hj
      exact hs.disj i j q r b o hi hj hfi hfj
  · intro id hid
    rw [Heap.find_new] at hid ⊢
    by_cases hidn : n = id
    · subst hidn
      simp only [if_true] at hid ⊢
      exact ⟨p, upd_same .., hok ht⟩
    · simp only [hidn, if_false] at hid ⊢
      obtain ⟨q, hq, hqok⟩ := hs.obj id hid
      have hq' : upd M n (some p) id = some q := by rw [upd_other M _ (by omega)]; exact hq
      have hin : ∀ b, (∀ o, q.foot b o) → b < w.heap.size := fun b hb => hs.inb id q b 0 hq (hb 0)
      refine ⟨q, hq', hqok.tr ht (fun id q => upd_old id q) (fun id D hD => ?_) (Nat.le_succ _) (fun b hb => g.blk b (hin b fun o => ?_)) (fun F hF => ?_) (fun b t e k hb o h1 h2 => ?_)⟩
      · rw [upd_other M _ (by have := hs.lt id _ hD; omega)]; exact hD
      · rcases hb with rfl | rfl | rfl <;> rfl
      · subst hF
        exact ⟨fun b o h => ⟨g.cell (hs.inb id _ b o hq h), g.frozen (hs.inb id _ b o hq h)⟩, fun b h => g.blk b (hs.inb id _ b 0 hq (h 0))⟩
      · subst hb
        have hb : b < w.heap.size := hs.inb id _ b o hq ⟨rfl, h1, h2⟩
        exact ⟨g.cell hb, g.frozen hb⟩

theorem StRel.new {st : St} {tm : Array Value} {df : List Deferred} {w w' : World} {M : Mem} (h : StRel st tm df w M) (g : Grow w w') (p : Plc) (o : O)
    (hp : ∀ b o, p.foot b o → w.heap.size ≤ b ∧ b < w'.heap.size)
    (hok : Tr M w (upd M st.n (some p)) w' → ObjOk w' (upd M st.n (some p)) (st.n + 1) p o) :
    StRel (st.new o) tm df w' (upd M st.n (some p)) ∧ Tr M w (upd M st.n (some p)) w' := by
  obtain ⟨hs, ht⟩ := h.sim.new g p o hp hok
  have hm := h.marks.dfr
  refine ⟨h.tr ht (fun id q => upd_old id q) (Nat.le_succ _) hs fun id hid hf => ?_, ht⟩
  have hlt : id < st.n := by
    obtain ⟨q, hq, _⟩ := h.sim.obj id (by rw [hf]; simp)
    exact h.sim.lt id q hq
  exact ⟨by rw [Heap.find_new, if_neg (by omega)]; exact hf, upd_other M _ (by omega)⟩

/-- What goes from one memory of the state to another one: old places are gone or as they were; loops' marks stay. -/
structure Old (M : Mem) (h : Heap) (n : Nat) (M' : Mem) (h' : Heap) (n' : Nat) : Prop where
  le : n ≤ n'
  old : ∀ id p, id < n → M' id = some p → M id = some p
  pin : ∀ id, id < n → (h.find id).pin = true → h'.find id = h.find id ∧ M' id = M id

theorem Old.refl (M : Mem) (h : Heap) (n : Nat) : Old M h n M h n := ⟨Nat.le_refl _, fun _ _ _ h => h, fun _ _ _ => ⟨rfl, rfl⟩⟩
theorem Old.weaken {M M' : Mem} {h h' : Heap} {m n n' : Nat} (a : Old M h n M' h' n') (hm : m ≤ n) : Old M h m M' h' n' :=
  ⟨Nat.le_trans hm a.le, fun id p hi hp => a.old id p (Nat.lt_of_lt_of_le hi hm) hp, fun id hi hd => a.pin id (Nat.lt_of_lt_of_le hi hm) hd⟩
theorem Old.trans' {M M' M'' : Mem} {h h' h'' : Heap} {n n' n'' : Nat} (a : Old M h n M' h' n') (b : Old M' h' n M'' h'' n'') : Old M h n M'' h'' n'' :=
  ⟨b.le, fun id p hi hp => a.old id p hi (b.old id p hi hp), fun id hi hd => by
    obtain ⟨h1, h2⟩ := a.pin id hi hd
    obtain ⟨h3, h4⟩ := b.pin id hi (by rw [h1]; exact hd)
    exact ⟨h3.trans h1, h4.trans h2⟩⟩
theorem Old.trans {M M' M'' : Mem} {h h' h'' : Heap} {n n' n'' : Nat} (a : Old M h n M' h' n') (b : Old M' h' n' M'' h'' n'') : Old M h n M'' h'' n'' :=
  a.trans' (b.weaken a.le)
theorem Old.congr {M M' : Mem} {h h' h'' : Heap} {n n' : Nat} (a : Old M h n M' h' n') (he : ∀ id, h''.find id = h'.find id) : Old M h n M' h'' n' :=
  ⟨a.le, a.old, fun id hi hd => ⟨(he id).trans (a.pin id hi hd).1, (a.pin id hi hd).2⟩⟩

theorem Sim.pin_lt {w : World} {M : Mem} {h : Heap} {n id : Nat} (hs : Sim w M h n) (hd : (h.find id).pin = true) : id < n := by
  obtain ⟨q, hq, _⟩ := hs.obj id (by intro hc; rw [hc] at hd; cases hd)
  exact hs.lt id q hq

theorem Old.new {w : World} {M : Mem} {h : Heap} {n : Nat} (hs : Sim w M h n) (p : Option Plc) (o : O) : Old M h n (upd M n p) ((n, o) :: h) (n + 1) :=
  ⟨Nat.le_succ _, fun id q => upd_old id q, fun id this hd => by
    exact ⟨by rw [Heap.find_new, if_neg (by omega)], upd_other M _ (by omega)⟩⟩
theorem Old.set {M : Mem} {h : Heap} {n id : Nat} (o : O) (hd : (h.find id).pin = false) : Old M h n M ((id, o) :: h) n :=
  ⟨Nat.le_refl _, fun _ _ _ h => h, fun j _ hj => ⟨by rw [Heap.find_new, if_neg (by rintro rfl; rw [hd] at hj; cases hj)], rfl⟩⟩
theorem Old.kill {M : Mem} {h : Heap} {n id : Nat} (hd : (h.find id).pin = false) : Old M h n (upd M id none) ((id, .dead) :: h) n :=
  ⟨Nat.le_refl _, fun j p _ hp => by
    by_cases hj : j = id
    · subst hj; rw [upd_same] at hp; cases hp
    · rwa [upd_other _ _ hj] at hp, fun j _ hj => by
    have hne : id ≠ j := by rintro rfl; rw [hd] at hj; cases hj
    exact ⟨by rw [Heap.find_new, if_neg hne], upd_other _ _ (Ne.symm hne)⟩⟩

end Go.Px
