import Derived.Calls
import Derived.Laws.OwnMore
import Derived.Laws.IdiomCopy
import Derived.Below
namespace Go.Qx

/-! Values without memory places: what a Go value is as data. -/
inductive V where
  | any
  | raw (v : Value)
  | sl (es : List V) (nn : Bool) (tok : Option Nat)
  | ref (cells : List V)
  | ptr (id off : Nat)
  | agg (cells : List V)
  | tup (vs : List V)
  | fn (f : Fn) (first caps : List V)
  | yld (id : Nat)
  | ifc (t : TypeId) (v : V)
  | mref (id : Nat)
  | itp (id : Nat)
  | asl (id len : Nat)
  | eptr (id i off : Nat)
  deriving Inhabited

def V.cells : V → List V
  | .agg cs => cs
  | v => [v]

/-- What a constant, or an outcome, is as data. -/
def ofValue : Value → V
  | .agg cs => bif cs.toList.all Value.oneCell' then .agg (cs.toList.map .raw) else .any
  | .tuple vs => .tup (vs.toList.map .raw)
  | v => .raw v

/-- A value of one cell, and known. -/
def V.one : V → Bool
  | .raw v => v.oneCell'
  | .any | .agg _ | .tup _ => false
  | _ => true

/-- No place of the state's own heap in it; a token is dropped. -/
def V.clean : V → Option V
  | .raw v => some (.raw v)
  | .sl es nn _ => some (.sl es nn none)
  | .ref cs => some (.ref cs)
  | .ifc t v => (v.clean).map (.ifc t)
  | .agg cs => (cleans cs).map .agg
  | _ => none
  where cleans : List V → Option (List V)
  | [] => some []
  | v :: vs => match v.clean, cleans vs with
    | some a, some b => some (a :: b)
    | _, _ => none

def rawList : List V → Option (List Value)
  | [] => some []
  | .raw v :: vs => (rawList vs).map (v :: ·)
  | _ => none

def V.raw? : V → Option Value
  | .raw v => some v
  | .agg cs => (rawList cs).map fun l => .agg l.toArray
  | .tup cs => (rawList cs).map fun l => .tuple l.toArray
  | .ifc t (.raw v) => some (.iface t v)
  | .fn f as bs => match rawList as, rawList bs with
    | some a, some b => some (.func f a.toArray b.toArray)
    | _, _ => none
  | _ => none

inductive O where
  | dead
  | box (cells : List V)
  | own (k : Nat)
  | loop (fn : FuncId) (tmps : List V) (params : List Tmp) (assign body : Code) (busy : Bool) (over : Bool) (pending : Option Code) (dfr : Nat)
  | dfr
  | fr (w : World) (F : Nat → Nat → Prop)
  | map (es : List (Value × V))
  | mit (mid len : Nat) (seen : List Nat)
  | arr (k : Nat) (es : List V)
  deriving Inhabited

/-- What a call never turns. -/
def O.pin : O → Bool
  | .dfr | .fr .. => true
  | _ => false

abbrev Heap := List (Nat × O)

def Heap.find : Heap → Nat → O
  | [], _ => .dead
  | (i, o) :: h, id => bif i == id then o else Heap.find h id

structure St where
  tmps : List V
  h : Heap
  n : Nat
  marks : List Nat
  deriving Inhabited

def lget : List V → Nat → V
  | [], _ => .any
  | v :: _, 0 => v
  | _ :: vs, i + 1 => lget vs i

def St.put (s : St) (d : Option Tmp) (v : V) : St :=
  match d with
  | some d => { s with tmps := s.tmps.set d v }
  | none => s

def St.opd (s : St) : Operand → V
  | .tmp t => lget s.tmps t
  | .const v => ofValue v
  | .global g => .raw (.pointer (some ⟨g, 0, none⟩))
  | .func f => .fn (.func f) [] []

/-- A new object. -/
def St.new (s : St) (o : O) : St := { s with h := (s.n, o) :: s.h, n := s.n + 1 }
def St.set (s : St) (id : Nat) (o : O) : St := { s with h := (id, o) :: s.h }

def pureRun (P : Program) {α : Type} : Sem α → Option α
  | .pure a => some a
  | .program k => pureRun P (k P)
  | .mark _ k => pureRun P k
  | _ => none

theorem pureRun_run {P : Program} {α : Type} {s : Sem α} {a : α} (h : pureRun P s = some a) (w : World) : s.run P w = .ok a w := by
  induction s with
  | pure b => simp only [pureRun, Option.some.injEq] at h; subst h; rfl
  | program k ih => exact ih P h
  | mark m k ih => exact ih h
  | _ => simp [pureRun] at h

theorem lget_eq (l : List V) (i : Nat) : lget l i = (l[i]?).getD .any := by
  induction l generalizing i with
  | nil => simp [lget]
  | cons v vs ih => cases i <;> simp [lget, ih]

end Go.Qx
