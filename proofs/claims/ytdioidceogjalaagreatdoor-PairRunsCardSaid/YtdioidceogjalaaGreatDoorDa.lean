/- The plain machine: values as data (frozen trees; objects, rows of one's own, maps by number), and how they stand for a world of the model. -/
import Derived.WalkKit
import Derived.Laws.ComplexArith
namespace Go.Dm
set_option linter.unusedVariables false

/-- Frozen data. -/
inductive F where
  | bool (b : Bool)
  | int (k : IntKind) (n : Int)
  | flo (bits : Nat)
  | cpl (re im : Nat)
  | str (s : List UInt8)
  | nils
  | sl (n : Nat) (cs : List F)
  | nilp
  | obj (cs : List F)
  | nilm
  | nilf
  | fn (f : FuncId)
  deriving Inhabited

/-- What a cell, or a temporary of one cell, holds. -/
inductive C where
  | f (x : F)
  | ptr (o off : Nat)
  | pa (o e off : Nat)
  | ep (cs : List F) (off : Nat)
  | rs (o e n : Nat)
  | mp (o : Nat)
  | clo (f : FuncId) (caps : List C)
  | un
  deriving Inhabited

inductive V where
  | c (x : C)
  | a (l : List C)
  | t (l : List V)
  deriving Inhabited

/-- Objects: a block of cells; a row that is one's own (w: its elements may be written; e: its epoch; sz: cells of an element); a map. -/
inductive Ob where
  | cells (l : List C)
  | arr (w : Bool) (e sz : Nat) (l : List F)
  | map (kv : List (List F × List F))
  | bld (T : TypeId) (u : Bool) (x : C)
  | gone
  deriving Inhabited

def Ob.row : Ob → Bool
  | .arr .. => true
  | _ => false

abbrev Fr := List V
abbrev St := List Ob

/-- The ghost: which cells are never written again; each object's block (a row may have none), its capacity. -/
structure G where
  Z : Nat → Nat → Prop
  blk : Nat → Option Nat
  cap : Nat → Nat

mutual
def FRep (g : G) (w : World) : F → Value → Prop
  | .bool b, v => v = .bool b
  | .int k n, v => v = .int k n
  | .flo b, v => v = .float .f64 b
  | .cpl r i, v => v = .complex .f64 r i
  | .str s, v => v = .string ⟨s.toArray⟩
  | .nils, v => v = .slice none 0 0
  | .sl n cs, v => ∃ a cap, v = .slice a n cap ∧ n ≤ cap ∧ cap ≤ maxLen ∧ ((a = none ∧ n = 0 ∧ cs = []) ∨ ∃ b o, a = some ⟨b, o, none⟩ ∧ FRow g w b o cs)
  | .nilp, v => v = .pointer none
  | .obj cs, v => ∃ b, v = .pointer (some ⟨b, 0, none⟩) ∧ FRow g w b 0 cs
  | .nilm, v => v = .map none
  | .nilf, v => v = .nilFunc
  | .fn f, v => v = .func (.func f) #[] #[]
def FRow (g : G) (w : World) (b : Nat) : Nat → List F → Prop
  | _, [] => True
  | o, x :: r => g.Z b o ∧ (∃ u, w.cell? ⟨b, o, none⟩ = some u ∧ FRep g w x u) ∧ FRow g w b (o + 1) r
end

mutual
def CRep (g : G) (w : World) (σ : St) : C → Value → Prop
  | .f x, v => FRep g w x v
  | .ptr o off, v => ∃ b ob, g.blk o = some b ∧ v = .pointer (some ⟨b, off, none⟩) ∧ σ[o]? = some ob ∧ ob.row = false
  | .pa o e off, v => v.oneCell' = true ∧ ∃ ob, σ[o]? = some ob ∧ (match ob with
      | .arr _ e0 _ _ => e ≤ e0 ∧ (e = e0 → ∃ b, g.blk o = some b ∧ v = .pointer (some ⟨b, off, none⟩))
      | .gone => True
      | _ => False)
  | .ep cs off, v => ∃ b o, v = .pointer (some ⟨b, o + off, none⟩) ∧ FRow g w b o cs
  | .rs o e n, v => v.oneCell' = true ∧ ∃ ob, σ[o]? = some ob ∧ (match ob with
      | .arr _ e0 sz l => e ≤ e0 ∧ (e = e0 → v = .slice ((g.blk o).map fun b => ⟨b, 0, none⟩) n (g.cap o) ∧ n * sz = l.length ∧ n ≤ g.cap o)
      | .gone => True
      | _ => False)
  | .mp o, v => ∃ b ob, g.blk o = some b ∧ v = .map (some b) ∧ σ[o]? = some ob ∧ ob.row = false
  | .clo f caps, v => ∃ vs : List Value, v = .func (.func f) #[] vs.toArray ∧ CReps g w σ caps vs
  | .un, _ => True
def CReps (g : G) (w : World) (σ : St) : List C → List Value → Prop
  | [], vs => vs = []
  | c :: r, vs => ∃ v vr, vs = v :: vr ∧ CRep g w σ c v ∧ CReps g w σ r vr
end

mutual
def VRep (g : G) (w : World) (σ : St) : V → Value → Prop
  | .c x, v => CRep g w σ x v
  | .a l, v => ∃ vs : List Value, v = .agg vs.toArray ∧ CReps g w σ l vs
  | .t l, v => ∃ vs : List Value, v = .tuple vs.toArray ∧ VReps g w σ l vs
def VReps (g : G) (w : World) (σ : St) : List V → List Value → Prop
  | [], vs => vs = []
  | c :: r, vs => ∃ v vr, vs = v :: vr ∧ VRep g w σ c v ∧ VReps g w σ r vr
end

/-- Does a frozen value, a cell, stand for one cell? -/
theorem FRep.one {g : G} {w : World} {x : F} {v : Value} (h : FRep g w x v) : v.oneCell' = true := by
  cases x <;> simp only [FRep] at h
  case sl => obtain ⟨a, cap, rfl, _⟩ := h; rfl
  case obj => obtain ⟨b, rfl, _⟩ := h; rfl
  all_goals (subst h; rfl)

theorem cells_one {v : Value} (h : v.oneCell' = true) : v.cells = #[v] := by
  cases v <;> first | rfl | simp [Value.oneCell'] at h

def C.solid : C → Bool
  | .un => false
  | _ => true

theorem CRep.one {g : G} {w : World} {σ : St} {x : C} {v : Value} (hs : x.solid = true) (h : CRep g w σ x v) : v.oneCell' = true := by
  cases x <;> simp only [CRep] at h
  case f x => exact FRep.one h
  case ptr => obtain ⟨b, ob, _, rfl, _⟩ := h; rfl
  case pa => exact h.1
  case ep => obtain ⟨b, o, rfl, _⟩ := h; rfl
  case rs => exact h.1
  case mp => obtain ⟨b, ob, _, rfl, _⟩ := h; rfl
  case clo => obtain ⟨vs, rfl, _⟩ := h; rfl
  case un => cases hs

theorem CReps.one {g : G} {w : World} {σ : St} : ∀ {l : List C} {vs : List Value}, l.all C.solid = true → CReps g w σ l vs → ∀ v ∈ vs, v.oneCell' = true
  | [], vs, _, h => by simp only [CReps] at h; subst h; simp
  | c :: r, vs, hs, h => by
    obtain ⟨v, vr, rfl, h1, h2⟩ := h
    simp only [List.all_cons, Bool.and_eq_true] at hs
    intro x hx
    rcases List.mem_cons.1 hx with rfl | hx
    · exact h1.one hs.1
    · exact CReps.one hs.2 h2 x hx

/-- A row of cells is not frozen by the model's own marks (behind its cells there may be one). -/
def Free (n : Nat) (fz : Nat × Nat) : Prop := fz.1 = fz.2 ∨ n ≤ fz.1

/-- One cell alone is no aggregate. -/
def _root_.Go.Value.keep (v : Value) (n : Nat) : Prop := n = 1 → v.oneCell' = true

def KVRep (g : G) (w : World) (σ : St) : List (List F × List F) → List MapEntry → Prop
  | [], es => es = []
  | (k, v) :: r, es => ∃ e er, es = e :: er ∧ e.key.keep k.length ∧ e.val.keep v.length ∧ (∃ ks, e.key.cells.toList = ks ∧ ks.length = k.length ∧ ∀ i (h : i < k.length) (h' : i < ks.length), FRep g w k[i] ks[i]) ∧
      (∃ vs, e.val.cells.toList = vs ∧ vs.length = v.length ∧ ∀ i (h : i < v.length) (h' : i < vs.length), FRep g w v[i] vs[i]) ∧ KVRep g w σ r er

/-- What a Builder's first cell holds. -/
def selfp (u : Bool) (b : Nat) : Value := .pointer (match u with | true => some ⟨b, 0, none⟩ | false => none)

def ObRep (g : G) (w : World) (σ : St) (i : Nat) : Ob → Prop
  | .cells l => ∃ b vs T fz, g.blk i = some b ∧ w.heap[b]? = some (.cells vs T fz) ∧ Free vs.size fz ∧ CReps g w σ l vs.toList
  | .arr wr e sz l => (g.blk i = none ∧ l = [] ∧ g.cap i = 0) ∨
      ∃ b vs T fz rest, g.blk i = some b ∧ w.heap[b]? = some (.cells vs T fz) ∧ Free vs.size fz ∧ vs.size = g.cap i * sz ∧ g.cap i ≤ maxLen ∧
        (∃ pre, vs.toList = pre ++ rest ∧ pre.length = l.length ∧ ∀ j (h : j < l.length) (h' : j < pre.length), FRep g w l[j] pre[j]) ∧
        (wr = false → ∀ j, j < l.length → g.Z b j) ∧ T = e % 4294967296
  | .map kv => ∃ b es clock, g.blk i = some b ∧ w.heap[b]? = some (.map es clock) ∧ KVRep g w σ kv es.toList
  | .bld T u x => ∃ b v, g.blk i = some b ∧ w.heap[b]? = some (.cells #[selfp u b, v] T (0, 0)) ∧ CRep g w σ x v
  | .gone => True

/-- Which cells are owned: all of an object's; of a row whose elements are frozen those behind them. -/
def Own (g : G) (σ : St) (b o : Nat) : Prop :=
  ∃ i ob, σ[i]? = some ob ∧ g.blk i = some b ∧ (match ob with
    | .gone => False
    | .arr false _ _ l => l.length ≤ o
    | _ => True)

def live : Ob → Bool
  | .gone => false
  | _ => true

structure Rep (g : G) (w : World) (σ : St) : Prop where
  ob : ∀ i ob, σ[i]? = some ob → ObRep g w σ i ob
  inj : ∀ i j a b k, σ[i]? = some a → σ[j]? = some b → live a = true → live b = true → g.blk i = some k → g.blk j = some k → i = j
  apart : ∀ b o, g.Z b o → ¬ Own g σ b o
  inside : ∀ b o, g.Z b o → b < w.heap.size

/-- How an object may turn. -/
def ObTurn (g g' : G) (i : Nat) : Ob → Ob → Prop
  | _, .gone => True
  | .cells _, .cells _ => True
  | .arr _ e sz l, .arr _ e' sz' l' => e < e' ∨ (e' = e ∧ sz' = sz ∧ l'.length = l.length ∧ g'.blk i = g.blk i ∧ g'.cap i = g.cap i)
  | .map _, .map _ => True
  | .bld T _ _, .bld T' _ _ => T = T'
  | _, _ => False

/-- From one state to a later one. -/
structure Turn (g : G) (w : World) (σ : St) (g' : G) (w' : World) (σ' : St) : Prop where
  os : w'.os = w.os
  tape : w'.tape = w.tape
  output : w'.output = w.output
  size : w.heap.size ≤ w'.heap.size
  whole : ∀ b, b < w.heap.size → (∀ o, ¬ Own g σ b o) → w'.heap[b]? = w.heap[b]?
  zs : ∀ b o, g.Z b o → g'.Z b o ∧ w'.cell? ⟨b, o, none⟩ = w.cell? ⟨b, o, none⟩
  znew : ∀ b o, b < w.heap.size → g'.Z b o → g.Z b o ∨ Own g σ b o
  onew : ∀ b o, b < w.heap.size → Own g' σ' b o → Own g σ b o
  turns : ∀ i ob, σ[i]? = some ob → ∃ ob', σ'[i]? = some ob' ∧ ObTurn g g' i ob ob'
  blks : ∀ i ob, σ[i]? = some ob → ob.row = false → g'.blk i = g.blk i
end Go.Dm
