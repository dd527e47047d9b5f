/- Printed by merge2.py: many texts in one. -/
import Derived.WalkKit
import Derived.Laws.ComplexArith
import Derived.DeepKeys3
import Derived.Maps.Keyed
import Derived.Laws.AppendOwn
import Derived.Laws.IdiomStrings
import Derived.Lib.UnsafeStr

namespace Go.Dm
set_option linter.unusedVariables false
inductive F where
  | bool (b : Bool)
  | int (k : IntKind) (n : Int)
  | flo (bits : Nat)
  | cpl (re im : Nat)
  | str (s : List UInt8)
  | nils
  | sl (n : Nat) (cs : List F)
  | nilp
  | obj (cs : List F)
  | nilm
  | nilf
  | fn (f : FuncId)
  deriving Inhabited
inductive C where
  | f (x : F)
  | ptr (o off : Nat)
  | pa (o e off : Nat)
  | ep (cs : List F) (off : Nat)
  | rs (o e n : Nat)
  | mp (o : Nat)
  | clo (f : FuncId) (caps : List C)
  | un
  deriving Inhabited
inductive V where
  | c (x : C)
  | a (l : List C)
  | t (l : List V)
  deriving Inhabited
inductive Ob where
  | cells (l : List C)
  | arr (w : Bool) (e sz : Nat) (l : List F)
  | map (kv : List (List F × List F))
  | bld (T : TypeId) (u : Bool) (x : C)
  | gone
  deriving Inhabited
def Ob.row : Ob → Bool
  | .arr .. => true
  | _ => false
abbrev Fr := List V
abbrev St := List Ob
structure G where
  Z : Nat → Nat → Prop
  blk : Nat → Option Nat
  cap : Nat → Nat
mutual
def FRep (g : G) (w : World) : F → Value → Prop
  | .bool b, v => v = .bool b
  | .int k n, v => v = .int k n
  | .flo b, v => v = .float .f64 b
  | .cpl r i, v => v = .complex .f64 r i
  | .str s, v => v = .string ⟨s.toArray⟩
  | .nils, v => v = .slice none 0 0
  | .sl n cs, v => ∃ a cap, v = .slice a n cap ∧ n ≤ cap ∧ cap ≤ maxLen ∧ (((a = none ∨ cap = 0) ∧ n = 0 ∧ cs = []) ∨ ∃ b o, a = some ⟨b, o, none⟩ ∧ FRow g w b o cs)
  | .nilp, v => v = .pointer none
  | .obj cs, v => ∃ b, v = .pointer (some ⟨b, 0, none⟩) ∧ FRow g w b 0 cs
  | .nilm, v => v = .map none
  | .nilf, v => v = .nilFunc
  | .fn f, v => v = .func (.func f) #[] #[]
def FRow (g : G) (w : World) (b : Nat) : Nat → List F → Prop
  | _, [] => True
  | o, x :: r => g.Z b o ∧ (∃ u, w.cell? ⟨b, o, none⟩ = some u ∧ FRep g w x u) ∧ FRow g w b (o + 1) r
end
mutual
def CRep (g : G) (w : World) (σ : St) : C → Value → Prop
  | .f x, v => FRep g w x v
  | .ptr o off, v => ∃ b ob, g.blk o = some b ∧ v = .pointer (some ⟨b, off, none⟩) ∧ σ[o]? = some ob ∧ ob.row = false
  | .pa o e off, v => v.oneCell' = true ∧ ∃ ob, σ[o]? = some ob ∧ (match ob with
      | .arr _ e0 _ _ => e ≤ e0 ∧ (e = e0 → ∃ b, g.blk o = some b ∧ v = .pointer (some ⟨b, off, none⟩))
      | .gone => True
      | _ => False)
  | .ep cs off, v => ∃ b o, v = .pointer (some ⟨b, o + off, none⟩) ∧ FRow g w b o cs
  | .rs o e n, v => v.oneCell' = true ∧ ∃ ob, σ[o]? = some ob ∧ (match ob with
      | .arr _ e0 sz l => e ≤ e0 ∧ (e = e0 → v = .slice ((g.blk o).map fun b => ⟨b, 0, none⟩) n (g.cap o) ∧ n * sz = l.length ∧ n ≤ g.cap o)
      | .gone => True
      | _ => False)
  | .mp o, v => ∃ b ob, g.blk o = some b ∧ v = .map (some b) ∧ σ[o]? = some ob ∧ ob.row = false
  | .clo f caps, v => ∃ vs : List Value, v = .func (.func f) #[] vs.toArray ∧ CReps g w σ caps vs
  | .un, _ => True
def CReps (g : G) (w : World) (σ : St) : List C → List Value → Prop
  | [], vs => vs = []
  | c :: r, vs => ∃ v vr, vs = v :: vr ∧ CRep g w σ c v ∧ CReps g w σ r vr
end
mutual
def VRep (g : G) (w : World) (σ : St) : V → Value → Prop
  | .c x, v => CRep g w σ x v
  | .a l, v => ∃ vs : List Value, v = .agg vs.toArray ∧ CReps g w σ l vs
  | .t l, v => ∃ vs : List Value, v = .tuple vs.toArray ∧ VReps g w σ l vs
def VReps (g : G) (w : World) (σ : St) : List V → List Value → Prop
  | [], vs => vs = []
  | c :: r, vs => ∃ v vr, vs = v :: vr ∧ VRep g w σ c v ∧ VReps g w σ r vr
end
theorem FRep.one {g : G} {w : World} {x : F} {v : Value} (h : FRep g w x v) : v.oneCell' = true := by
  cases x <;> simp only [FRep] at h
  case sl => obtain ⟨a, cap, rfl, _⟩ := h; rfl
  case obj => obtain ⟨b, rfl, _⟩ := h; rfl
  all_goals (subst h; rfl)
theorem cells_one {v : Value} (h : v.oneCell' = true) : v.cells = #[v] := by
  cases v <;> first | rfl | simp [Value.oneCell'] at h
def C.solid : C → Bool
  | .un => false
  | _ => true
theorem CRep.one {g : G} {w : World} {σ : St} {x : C} {v : Value} (hs : x.solid = true) (h : CRep g w σ x v) : v.oneCell' = true := by
  cases x <;> simp only [CRep] at h
  case f x => exact FRep.one h
  case ptr => obtain ⟨b, ob, _, rfl, _⟩ := h; rfl
  case pa => exact h.1
  case ep => obtain ⟨b, o, rfl, _⟩ := h; rfl
  case rs => exact h.1
  case mp => obtain ⟨b, ob, _, rfl, _⟩ := h; rfl
  case clo => obtain ⟨vs, rfl, _⟩ := h; rfl
  case un => cases hs
theorem CReps.one {g : G} {w : World} {σ : St} : ∀ {l : List C} {vs : List Value}, l.all C.solid = true → CReps g w σ l vs → ∀ v ∈ vs, v.oneCell' = true
  | [], vs, _, h => by simp only [CReps] at h; subst h; simp
  | c :: r, vs, hs, h => by
    obtain ⟨v, vr, rfl, h1, h2⟩ := h
    simp only [List.all_cons, Bool.and_eq_true] at hs
    intro x hx
    rcases List.mem_cons.1 hx with rfl | hx
    · exact h1.one hs.1
    · exact CReps.one hs.2 h2 x hx
def Free (n : Nat) (fz : Nat × Nat) : Prop := fz.1 = fz.2 ∨ n ≤ fz.1
def FreeR (wr : Bool) (e ln n : Nat) (fz : Nat × Nat) : Prop := fz.1 = fz.2 ∨ (e / 4294967296 % 2 = 1 ∧ n ≤ fz.1) ∨ (wr = false ∧ fz.2 ≤ ln)
def FreeAt (fz : Nat × Nat) (o : Nat) : Prop := fz.1 = fz.2 ∨ o < fz.1 ∨ fz.2 ≤ o
theorem Free.at {n o : Nat} {fz : Nat × Nat} (h : Free n fz) (ho : o < n) : FreeAt fz o := h.elim .inl fun h => .inr (.inl (by omega))
theorem FreeR.at {wr : Bool} {e ln n o : Nat} {fz : Nat × Nat} (h : FreeR wr e ln n fz) (h1 : ln ≤ o) (h2 : o < n) : FreeAt fz o := by
  rcases h with h | h | h
  · exact .inl h
  · exact .inr (.inl (by omega))
  · exact .inr (.inr (by omega))
theorem FreeR.free {e ln n : Nat} {fz : Nat × Nat} (h : FreeR true e ln n fz) : Free n fz := by
  rcases h with h | h | h
  · exact .inl h
  · exact .inr h.2
  · cases h.1
theorem FreeR.mono {wr : Bool} {e e' ln ln' n : Nat} {fz : Nat × Nat} (h : FreeR wr e ln n fz) (hp : e' % 8589934592 = e % 8589934592) (hl : wr = false → ln ≤ ln') : FreeR wr e' ln' n fz := by
  rcases h with h | h | h
  · exact .inl h
  · exact .inr (.inl ⟨by omega, h.2⟩)
  · exact .inr (.inr ⟨h.1, by have := hl h.1; omega⟩)
theorem FreeR.frz {e ln n : Nat} {fz : Nat × Nat} (h : FreeR true e ln n fz) : FreeR false e ln n fz := by
  rcases h with h | h | h
  · exact .inl h
  · exact .inr (.inl h)
  · cases h.1
def _root_.Go.Value.keep (v : Value) (n : Nat) : Prop := n = 1 → v.oneCell' = true
def KVRep (g : G) (w : World) (σ : St) : List (List F × List F) → List MapEntry → Prop
  | [], es => es = []
  | (k, v) :: r, es => ∃ e er, es = e :: er ∧ e.key.keep k.length ∧ e.val.keep v.length ∧ (∃ ks, e.key.cells.toList = ks ∧ ks.length = k.length ∧ ∀ i (h : i < k.length) (h' : i < ks.length), FRep g w k[i] ks[i]) ∧
      (∃ vs, e.val.cells.toList = vs ∧ vs.length = v.length ∧ ∀ i (h : i < v.length) (h' : i < vs.length), FRep g w v[i] vs[i]) ∧ KVRep g w σ r er
def selfp (u : Bool) (b : Nat) : Value := .pointer (match u with | true => some ⟨b, 0, none⟩ | false => none)
def ObRep (g : G) (w : World) (σ : St) (i : Nat) : Ob → Prop
  | .cells l => ∃ b vs T fz, g.blk i = some b ∧ w.heap[b]? = some (.cells vs T fz) ∧ Free vs.size fz ∧ CReps g w σ l vs.toList
  | .arr wr e sz l => (g.blk i = none ∧ l = [] ∧ g.cap i = 0) ∨
      ∃ b vs T fz rest, g.blk i = some b ∧ w.heap[b]? = some (.cells vs T fz) ∧ FreeR wr e l.length vs.size fz ∧ vs.size = g.cap i * sz ∧ g.cap i ≤ maxLen ∧
        (∃ pre, vs.toList = pre ++ rest ∧ pre.length = l.length ∧ ∀ j (h : j < l.length) (h' : j < pre.length), FRep g w l[j] pre[j]) ∧
        (wr = false → ∀ j, j < l.length → g.Z b j) ∧ T = e % 4294967296 ∧ (e / 4294967296 % 2 = 0 → g.cap i ≠ 0)
  | .map kv => ∃ b es clock, g.blk i = some b ∧ w.heap[b]? = some (.map es clock) ∧ KVRep g w σ kv es.toList
  | .bld T u x => ∃ b v, g.blk i = some b ∧ w.heap[b]? = some (.cells #[selfp u b, v] T (0, 0)) ∧ CRep g w σ x v
  | .gone => True
def Own (g : G) (σ : St) (b o : Nat) : Prop :=
  ∃ i ob, σ[i]? = some ob ∧ g.blk i = some b ∧ (match ob with
    | .gone => False
    | .arr false _ _ l => l.length ≤ o
    | _ => True)
def live : Ob → Bool
  | .gone => false
  | _ => true
structure Rep (g : G) (w : World) (σ : St) : Prop where
  ob : ∀ i ob, σ[i]? = some ob → ObRep g w σ i ob
  inj : ∀ i j a b k, σ[i]? = some a → σ[j]? = some b → live a = true → live b = true → g.blk i = some k → g.blk j = some k → i = j
  apart : ∀ b o, g.Z b o → ¬ Own g σ b o
  inside : ∀ b o, g.Z b o → b < w.heap.size
def ObTurn (g g' : G) (i : Nat) : Ob → Ob → Prop
  | _, .gone => True
  | .cells _, .cells _ => True
  | .arr _ e sz l, .arr _ e' sz' l' => e < e' ∨ (e' = e ∧ sz' = sz ∧ l'.length = l.length ∧ g'.blk i = g.blk i ∧ g'.cap i = g.cap i)
  | .map _, .map _ => True
  | .bld T _ _, .bld T' _ _ => T = T'
  | _, _ => False
structure Turn (g : G) (w : World) (σ : St) (g' : G) (w' : World) (σ' : St) : Prop where
  os : w'.os = w.os
  tape : w'.tape = w.tape
  output : w'.output = w.output
  size : w.heap.size ≤ w'.heap.size
  whole : ∀ b, b < w.heap.size → (∀ o, ¬ Own g σ b o) → w'.heap[b]? = w.heap[b]?
  zs : ∀ b o, g.Z b o → g'.Z b o ∧ w'.cell? ⟨b, o, none⟩ = w.cell? ⟨b, o, none⟩
  znew : ∀ b o, b < w.heap.size → g'.Z b o → g.Z b o ∨ Own g σ b o
  onew : ∀ b o, b < w.heap.size → Own g' σ' b o → Own g σ b o
  turns : ∀ i ob, σ[i]? = some ob → ∃ ob', σ'[i]? = some ob' ∧ ObTurn g g' i ob ob'
  blks : ∀ i ob, σ[i]? = some ob → ob.row = false → g'.blk i = g.blk i
end Go.Dm
namespace Go.Dm
set_option linter.unusedVariables false
mutual
theorem FRep.turn {g g' : G} {w w' : World} (h : ∀ b o, g.Z b o → g'.Z b o ∧ w'.cell? ⟨b, o, none⟩ = w.cell? ⟨b, o, none⟩) : ∀ (x : F) (v : Value), FRep g w x v → FRep g' w' x v
  | .bool _, _, hx | .int _ _, _, hx | .flo _, _, hx | .cpl _ _, _, hx | .str _, _, hx | .nils, _, hx | .nilp, _, hx | .nilm, _, hx | .nilf, _, hx | .fn _, _, hx => hx
  | .sl n cs, v, hx => by
    obtain ⟨a, cap, rfl, h1, h2, h3⟩ := hx
    refine ⟨a, cap, rfl, h1, h2, ?_⟩
    rcases h3 with h3 | ⟨b, o, rfl, h3⟩
    · exact .inl h3
    · exact .inr ⟨b, o, rfl, FRow.turn h cs b o h3⟩
  | .obj cs, v, hx => by
    obtain ⟨b, rfl, h3⟩ := hx
    exact ⟨b, rfl, FRow.turn h cs b 0 h3⟩
theorem FRow.turn {g g' : G} {w w' : World} (h : ∀ b o, g.Z b o → g'.Z b o ∧ w'.cell? ⟨b, o, none⟩ = w.cell? ⟨b, o, none⟩) : ∀ (cs : List F) (b o : Nat), FRow g w b o cs → FRow g' w' b o cs
  | [], _, _, _ => trivial
  | x :: r, b, o, hx => by
    obtain ⟨hz, ⟨u, hu, hx⟩, hr⟩ := hx
    refine ⟨(h b o hz).1, ⟨u, (h b o hz).2.trans hu, FRep.turn h x u hx⟩, FRow.turn h r b (o + 1) hr⟩
end
theorem Turn.refl (g : G) (w : World) (σ : St) : Turn g w σ g w σ :=
  ⟨rfl, rfl, rfl, Nat.le_refl _, fun _ _ _ => rfl, fun _ _ h => ⟨h, rfl⟩, fun _ _ _ h => .inl h, fun _ _ _ h => h,
    fun i ob h => ⟨ob, h, by cases ob <;> simp [ObTurn]⟩, fun _ _ _ _ => rfl⟩
theorem ObTurn.row {g g' : G} {i : Nat} {a b : Ob} (h : ObTurn g g' i a b) (ha : a.row = false) : b.row = false := by
  cases a <;> cases b <;> simp_all [ObTurn, Ob.row]
theorem Turn.trans {g g' g'' : G} {w w' w'' : World} {σ σ' σ'' : St} (h : Turn g w σ g' w' σ') (k : Turn g' w' σ' g'' w'' σ'') : Turn g w σ g'' w'' σ'' where
  os := k.os.trans h.os
  tape := k.tape.trans h.tape
  output := k.output.trans h.output
  size := Nat.le_trans h.size k.size
  whole b hb hn := (k.whole b (Nat.lt_of_lt_of_le hb h.size) (fun o ho => hn o (h.onew b o hb ho))).trans (h.whole b hb hn)
  zs b o hz := ⟨(k.zs b o (h.zs b o hz).1).1, (k.zs b o (h.zs b o hz).1).2.trans (h.zs b o hz).2⟩
  znew b o hb hz := by
    rcases k.znew b o (Nat.lt_of_lt_of_le hb h.size) hz with h1 | h1
    · exact h.znew b o hb h1
    · exact .inr (h.onew b o hb h1)
  onew b o hb ho := h.onew b o hb (k.onew b o (Nat.lt_of_lt_of_le hb h.size) ho)
  turns i ob ho := by
    obtain ⟨ob', h1, h2⟩ := h.turns i ob ho
    obtain ⟨ob'', h3, h4⟩ := k.turns i ob' h1
    refine ⟨ob'', h3, ?_⟩
    cases ob <;> cases ob' <;> cases ob'' <;> simp_all [ObTurn]
    rcases h2 with h2 | ⟨rfl, rfl, h2a, h2b, h2c⟩ <;> rcases h4 with h4 | ⟨rfl, rfl, h4a, h4b, h4c⟩
    · left; omega
    · left; exact h2
    · left; exact h4
    · right; exact ⟨rfl, rfl, h4a.trans h2a, h4b.trans h2b, h4c.trans h2c⟩
  blks i ob ho hr := by
    obtain ⟨ob', h1, h2⟩ := h.turns i ob ho
    exact (k.blks i ob' h1 (h2.row hr)).trans (h.blks i ob ho hr)
mutual
theorem CRep.turn {g g' : G} {w w' : World} {σ σ' : St} (h : Turn g w σ g' w' σ') : ∀ (x : C) (v : Value), CRep g w σ x v → CRep g' w' σ' x v
  | .f x, v, hx => FRep.turn h.zs x v hx
  | .ptr o off, v, hx => by
    obtain ⟨b, ob, h1, rfl, h2, h3⟩ := hx
    obtain ⟨ob', h4, h5⟩ := h.turns o ob h2
    exact ⟨b, ob', (h.blks o ob h2 h3).trans h1, rfl, h4, h5.row h3⟩
  | .pa o e off, v, hx => by
    obtain ⟨h0, ob, h1, h2⟩ := hx
    obtain ⟨ob', h4, h5⟩ := h.turns o ob h1
    refine ⟨h0, ob', h4, ?_⟩
    cases ob <;> cases ob' <;> simp_all [ObTurn]
    rcases h5 with h5 | ⟨rfl, rfl, h5a, h5b, h5c⟩
    · exact ⟨by omega, fun he => by omega⟩
    · exact ⟨h2.1, fun he => by rw [h5b]; exact h2.2 he⟩
  | .ep cs off, v, hx => by
    obtain ⟨b, o, rfl, h1⟩ := hx
    exact ⟨b, o, rfl, FRow.turn h.zs cs b o h1⟩
  | .rs o e n, v, hx => by
    obtain ⟨h0, ob, h1, h2⟩ := hx
    obtain ⟨ob', h4, h5⟩ := h.turns o ob h1
    refine ⟨h0, ob', h4, ?_⟩
    cases ob <;> cases ob' <;> simp_all [ObTurn]
    rcases h5 with h5 | ⟨rfl, rfl, h5a, h5b, h5c⟩
    · exact ⟨by omega, fun he => by omega⟩
    · exact ⟨h2.1, fun he => by rw [h5b, h5c, h5a]; exact h2.2 he⟩
  | .mp o, v, hx => by
    obtain ⟨b, ob, h1, rfl, h2, h3⟩ := hx
    obtain ⟨ob', h4, h5⟩ := h.turns o ob h2
    exact ⟨b, ob', (h.blks o ob h2 h3).trans h1, rfl, h4, h5.row h3⟩
  | .clo f caps, v, hx => by
    obtain ⟨vs, rfl, h1⟩ := hx
    exact ⟨vs, rfl, CReps.turn h caps vs h1⟩
  | .un, _, _ => trivial
theorem CReps.turn {g g' : G} {w w' : World} {σ σ' : St} (h : Turn g w σ g' w' σ') : ∀ (l : List C) (vs : List Value), CReps g w σ l vs → CReps g' w' σ' l vs
  | [], _, hx => hx
  | c :: r, vs, hx => by
    obtain ⟨v, vr, rfl, h1, h2⟩ := hx
    exact ⟨v, vr, rfl, CRep.turn h c v h1, CReps.turn h r vr h2⟩
end
mutual
theorem VRep.turn {g g' : G} {w w' : World} {σ σ' : St} (h : Turn g w σ g' w' σ') : ∀ (x : V) (v : Value), VRep g w σ x v → VRep g' w' σ' x v
  | .c x, v, hx => CRep.turn h x v hx
  | .a l, v, hx => by obtain ⟨vs, rfl, h1⟩ := hx; exact ⟨vs, rfl, CReps.turn h l vs h1⟩
  | .t l, v, hx => by obtain ⟨vs, rfl, h1⟩ := hx; exact ⟨vs, rfl, VReps.turn h l vs h1⟩
theorem VReps.turn {g g' : G} {w w' : World} {σ σ' : St} (h : Turn g w σ g' w' σ') : ∀ (l : List V) (vs : List Value), VReps g w σ l vs → VReps g' w' σ' l vs
  | [], _, hx => hx
  | c :: r, vs, hx => by
    obtain ⟨v, vr, rfl, h1, h2⟩ := hx
    exact ⟨v, vr, rfl, VRep.turn h c v h1, VReps.turn h r vr h2⟩
end
theorem CReps.length {g : G} {w : World} {σ : St} : ∀ {l : List C} {vs : List Value}, CReps g w σ l vs → vs.length = l.length
  | [], _, h => by simp only [CReps] at h; subst h; rfl
  | c :: r, vs, h => by obtain ⟨v, vr, rfl, _, h2⟩ := h; simp [CReps.length h2]
theorem CReps.get {g : G} {w : World} {σ : St} : ∀ {l : List C} {vs : List Value}, CReps g w σ l vs → ∀ {i : Nat} {c : C}, l[i]? = some c → ∃ v, vs[i]? = some v ∧ CRep g w σ c v
  | [], _, _, i, c, hc => by simp at hc
  | c :: r, vs, h, i, x, hc => by
    obtain ⟨v, vr, rfl, h1, h2⟩ := h
    cases i with
    | zero => simp at hc; subst hc; exact ⟨v, rfl, h1⟩
    | succ i => simp at hc; simpa using CReps.get h2 hc
theorem CReps.set {g : G} {w : World} {σ : St} : ∀ {l : List C} {vs : List Value}, CReps g w σ l vs → ∀ (i : Nat) {c v}, CRep g w σ c v → CReps g w σ (l.set i c) (vs.set i v)
  | [], _, h, i, c, v, hc => by simp only [CReps] at h; subst h; simp [CReps]
  | c :: r, vs, h, i, x, u, hc => by
    obtain ⟨v, vr, rfl, h1, h2⟩ := h
    cases i with
    | zero => exact ⟨u, vr, rfl, hc, h2⟩
    | succ i => exact ⟨v, vr.set i u, rfl, h1, CReps.set h2 i hc⟩
theorem CReps.append {g : G} {w : World} {σ : St} : ∀ {l l' : List C} {vs vs' : List Value}, CReps g w σ l vs → CReps g w σ l' vs' → CReps g w σ (l ++ l') (vs ++ vs')
  | [], l', vs, vs', h, h' => by simp only [CReps] at h; subst h; exact h'
  | c :: r, l', vs, vs', h, h' => by obtain ⟨v, vr, rfl, h1, h2⟩ := h; exact ⟨v, vr ++ vs', rfl, h1, CReps.append h2 h'⟩
theorem CReps.drop {g : G} {w : World} {σ : St} : ∀ {l : List C} {vs : List Value}, CReps g w σ l vs → ∀ (i : Nat), CReps g w σ (l.drop i) (vs.drop i)
  | [], _, h, i => by simp only [CReps] at h; subst h; simp [CReps]
  | c :: r, vs, h, i => by
    obtain ⟨v, vr, rfl, h1, h2⟩ := h
    cases i with
    | zero => exact ⟨v, vr, rfl, h1, h2⟩
    | succ i => exact CReps.drop h2 i
theorem CReps.take {g : G} {w : World} {σ : St} : ∀ {l : List C} {vs : List Value}, CReps g w σ l vs → ∀ (i : Nat), CReps g w σ (l.take i) (vs.take i)
  | [], _, h, i => by simp only [CReps] at h; subst h; simp [CReps]
  | c :: r, vs, h, i => by
    obtain ⟨v, vr, rfl, h1, h2⟩ := h
    cases i with
    | zero => simp [CReps]
    | succ i => exact ⟨v, vr.take i, rfl, h1, CReps.take h2 i⟩
theorem FRow.get {g : G} {w : World} : ∀ {cs : List F} {b o : Nat}, FRow g w b o cs → ∀ {i : Nat} {x : F}, cs[i]? = some x → g.Z b (o + i) ∧ ∃ u, w.cell? ⟨b, o + i, none⟩ = some u ∧ FRep g w x u
  | [], _, _, _, i, x, h => by simp at h
  | y :: r, b, o, hx, i, x, h => by
    obtain ⟨hz, hu, hr⟩ := hx
    cases i with
    | zero => simp at h; subst h; exact ⟨hz, hu⟩
    | succ i =>
      simp at h
      have := FRow.get hr h
      rw [show o + (i + 1) = o + 1 + i from by omega]
      exact this
theorem FRow.drop {g : G} {w : World} : ∀ {cs : List F} {b o : Nat}, FRow g w b o cs → ∀ (i : Nat), FRow g w b (o + i) (cs.drop i)
  | [], _, _, _, i => by simp [FRow]
  | y :: r, b, o, hx, i => by
    obtain ⟨hz, hu, hr⟩ := hx
    cases i with
    | zero => exact ⟨hz, hu, hr⟩
    | succ i => rw [show o + (i + 1) = o + 1 + i from by omega]; exact FRow.drop hr i
theorem FRow.take {g : G} {w : World} : ∀ {cs : List F} {b o : Nat}, FRow g w b o cs → ∀ (i : Nat), FRow g w b o (cs.take i)
  | [], _, _, _, i => by simp [FRow]
  | y :: r, b, o, hx, i => by
    obtain ⟨hz, hu, hr⟩ := hx
    cases i with
    | zero => simp [FRow]
    | succ i => exact ⟨hz, hu, FRow.take hr i⟩
theorem FRow.of {g : G} {w : World} : ∀ {cs : List F} {b o : Nat}, (∀ (i : Nat) (x : F), cs[i]? = some x → g.Z b (o + i) ∧ ∃ u, w.cell? ⟨b, o + i, none⟩ = some u ∧ FRep g w x u) → FRow g w b o cs
  | [], _, _, _ => trivial
  | y :: r, b, o, h => by
    refine ⟨(h 0 y rfl).1, (h 0 y rfl).2, FRow.of fun i x hx => ?_⟩
    have := h (i + 1) x (by simpa using hx)
    rw [show o + (i + 1) = o + 1 + i from by omega] at this
    exact this
end Go.Dm
namespace Go.Dm
set_option linter.unusedVariables false
theorem KVRep.turn {g g' : G} {w w' : World} {σ σ' : St} (h : ∀ b o, g.Z b o → g'.Z b o ∧ w'.cell? ⟨b, o, none⟩ = w.cell? ⟨b, o, none⟩) : ∀ {kv : List (List F × List F)} {es : List MapEntry}, KVRep g w σ kv es → KVRep g' w' σ' kv es
  | [], _, hx => hx
  | (k, v) :: r, es, hx => by
    obtain ⟨e, er, rfl, k1, k2, ⟨ks, h1, h2, h3⟩, ⟨vs, h4, h5, h6⟩, h7⟩ := hx
    exact ⟨e, er, rfl, k1, k2, ⟨ks, h1, h2, fun i a b => FRep.turn h _ _ (h3 i a b)⟩, ⟨vs, h4, h5, fun i a b => FRep.turn h _ _ (h6 i a b)⟩, KVRep.turn h h7⟩
theorem ObRep.keep {g g' : G} {w w' : World} {σ σ' : St} (h : Turn g w σ g' w' σ') {i : Nat} {ob : Ob} (hb : ∀ b, g.blk i = some b → w'.heap[b]? = w.heap[b]?) (hk : g'.blk i = g.blk i) (hc : g'.cap i = g.cap i)
    (ho : ObRep g w σ i ob) : ObRep g' w' σ' i ob := by
  cases ob with
  | cells l =>
    obtain ⟨b, vs, T, fz, h1, h2, h3, h4⟩ := ho
    exact ⟨b, vs, T, fz, hk.trans h1, (hb b h1).trans h2, h3, CReps.turn h l _ h4⟩
  | arr wr e sz l =>
    rcases ho with ⟨h1, h2, h3⟩ | ⟨b, vs, T, fz, rest, h1, h2, h3, h4, h5, ⟨pre, h6, h7, h8⟩, h9⟩
    · exact .inl ⟨hk.trans h1, h2, hc.trans h3⟩
    · exact .inr ⟨b, vs, T, fz, rest, hk.trans h1, (hb b h1).trans h2, h3, by rw [hc]; exact h4, by rw [hc]; exact h5, ⟨pre, h6, h7, fun j a c => FRep.turn h.zs _ _ (h8 j a c)⟩, fun hw j hj => (h.zs b j (h9.1 hw j hj)).1, h9.2.1, by rw [hc]; exact h9.2.2⟩
  | map kv =>
    obtain ⟨b, es, clock, h1, h2, h3⟩ := ho
    exact ⟨b, es, clock, hk.trans h1, (hb b h1).trans h2, KVRep.turn h.zs h3⟩
  | bld T u x =>
    obtain ⟨b, v, h1, h2, h3⟩ := ho
    exact ⟨b, v, hk.trans h1, (hb b h1).trans h2, CRep.turn h _ _ h3⟩
  | gone => trivial
theorem ObRep.inside {g : G} {w : World} {σ : St} {i : Nat} {ob : Ob} (ho : ObRep g w σ i ob) (hl : live ob = true) {b : Nat} (hb : g.blk i = some b) : b < w.heap.size := by
  have lt : ∀ {c : Nat} {x : Obj}, w.heap[c]? = some x → c < w.heap.size := fun h => (Array.getElem?_eq_some_iff.1 h).1
  cases ob with
  | cells l => obtain ⟨c, vs, T, fz, h1, h2, _⟩ := ho; rw [hb] at h1; cases h1; exact lt h2
  | arr wr e sz l =>
    rcases ho with ⟨h1, _, _⟩ | ⟨c, vs, T, fz, rest, h1, h2, _⟩
    · rw [hb] at h1; cases h1
    · rw [hb] at h1; cases h1; exact lt h2
  | map kv => obtain ⟨c, es, clock, h1, h2, _⟩ := ho; rw [hb] at h1; cases h1; exact lt h2
  | bld T u x => obtain ⟨c, v, h1, h2, _⟩ := ho; rw [hb] at h1; cases h1; exact lt h2
  | gone => simp [live] at hl
theorem Own.inside {g : G} {w : World} {σ : St} (hr : Rep g w σ) {b o : Nat} (h : Own g σ b o) : b < w.heap.size := by
  obtain ⟨i, ob, h1, h2, h3⟩ := h
  refine (hr.ob i ob h1).inside ?_ h2
  cases ob <;> simp_all [live]
def G.push (g : G) (i b cap : Nat) : G := { g with blk := fun j => if j = i then some b else g.blk j, cap := fun j => if j = i then cap else g.cap j }
theorem Own.push {g : G} {σ : St} {ob : Ob} {s cap b o : Nat} (h : Own (g.push σ.length s cap) (σ ++ [ob]) b o) : Own g σ b o ∨ b = s := by
  obtain ⟨i, ob', h1, h2, h3⟩ := h
  by_cases hi : i = σ.length
  · subst hi
    right
    simp [G.push] at h2
    exact h2.symm
  · left
    have hlt : i < σ.length := by
      have := (List.getElem?_eq_some_iff.1 h1).1
      simp at this
      omega
    rw [List.getElem?_append_left hlt] at h1
    simp only [G.push, hi, if_false] at h2
    exact ⟨i, ob', h1, h2, h3⟩
theorem heap_push_old {w : World} {O : Obj} {b : Nat} (h : b < w.heap.size) : (w.alloc O).heap[b]? = w.heap[b]? := by
  show (w.heap.push O)[b]? = _
  rw [Array.getElem?_push, if_neg (by omega)]
theorem cell_push_old {w : World} {O : Obj} {b o : Nat} (h : b < w.heap.size) : (w.alloc O).cell? ⟨b, o, none⟩ = w.cell? ⟨b, o, none⟩ := by
  simp [World.cell?, heap_push_old h]
theorem push_turn {g : G} {w : World} {σ : St} (hr : Rep g w σ) (O : Obj) (ob : Ob) (cap : Nat) :
    Turn g w σ (g.push σ.length w.heap.size cap) (w.alloc O) (σ ++ [ob]) where
  os := rfl
  tape := rfl
  output := rfl
  size := by show w.heap.size ≤ (w.heap.push O).size; simp
  whole b hb hn := heap_push_old hb
  zs b o hz := ⟨hz, cell_push_old (hr.inside b o hz)⟩
  znew b o hb hz := .inl hz
  onew b o hb ho := by
    rcases ho.push with h | h
    · exact h
    · omega
  turns i x hx := by
    have hlt : i < σ.length := (List.getElem?_eq_some_iff.1 hx).1
    refine ⟨x, by rw [List.getElem?_append_left hlt]; exact hx, ?_⟩
    have : i ≠ σ.length := by omega
    cases x <;> simp [ObTurn, G.push, this]
  blks i x hx _ := by
    have hlt : i < σ.length := (List.getElem?_eq_some_iff.1 hx).1
    have : i ≠ σ.length := by omega
    simp [G.push, this]
theorem push_rep {g : G} {w : World} {σ : St} (hr : Rep g w σ) (O : Obj) (ob : Ob) (cap : Nat)
    (hob : Turn g w σ (g.push σ.length w.heap.size cap) (w.alloc O) (σ ++ [ob]) → ObRep (g.push σ.length w.heap.size cap) (w.alloc O) (σ ++ [ob]) σ.length ob) :
    Rep (g.push σ.length w.heap.size cap) (w.alloc O) (σ ++ [ob]) where
  ob i x hx := by
    have ht := push_turn hr O ob cap
    by_cases hi : i = σ.length
    · subst hi
      simp at hx
      subst hx
      exact hob ht
    · have hlt : i < σ.length := by
        have := (List.getElem?_eq_some_iff.1 hx).1
        simp at this
        omega
      rw [List.getElem?_append_left hlt] at hx
      have h0 := hr.ob i x hx
      by_cases hl : live x = true
      · exact h0.keep ht (fun b hb => heap_push_old (h0.inside hl hb)) (by simp [G.push, hi]) (by simp [G.push, hi])
      · cases x <;> simp_all [live, ObRep]
  inj i j a b k hi hj la lb hbi hbj := by
    have get : ∀ {m : Nat} {x : Ob}, (σ ++ [ob])[m]? = some x → live x = true → (g.push σ.length w.heap.size cap).blk m = some k → (m = σ.length ∧ k = w.heap.size) ∨ (m < σ.length ∧ σ[m]? = some x ∧ g.blk m = some k ∧ k < w.heap.size) := by
      intro m x hx hl hb
      by_cases hm : m = σ.length
      · left; refine ⟨hm, ?_⟩; simp [G.push, hm] at hb; exact hb.symm
      · right
        have hlt : m < σ.length := by
          have := (List.getElem?_eq_some_iff.1 hx).1
          simp at this
          omega
        rw [List.getElem?_append_left hlt] at hx
        simp only [G.push, hm, if_false] at hb
        exact ⟨hlt, hx, hb, (hr.ob m x hx).inside hl hb⟩
    rcases get hi la hbi with ⟨h1, h2⟩ | ⟨h1, h2, h3, h4⟩ <;> rcases get hj lb hbj with ⟨k1, k2⟩ | ⟨k1, k2, k3, k4⟩
    · omega
    · omega
    · omega
    · exact hr.inj i j a b k h2 k2 la lb h3 k3
  apart b o hz ho := by
    rcases ho.push with h | h
    · exact hr.apart b o hz h
    · have := hr.inside b o hz; omega
  inside b o hz := by
    have := hr.inside b o hz
    show b < (w.heap.push O).size
    simp; omega
theorem heap_push_new {w : World} {O : Obj} : (w.alloc O).heap[w.heap.size]? = some O := by
  show (w.heap.push O)[w.heap.size]? = _
  rw [Array.getElem?_push, if_pos rfl]
theorem new_cells {g : G} {w : World} {σ : St} (hr : Rep g w σ) (T : TypeId) {l : List C} {vs : List Value} (hl : CReps g w σ l vs) :
    ∃ g', Rep g' (w.alloc (.cells vs.toArray T)) (σ ++ [.cells l]) ∧ Turn g w σ g' (w.alloc (.cells vs.toArray T)) (σ ++ [.cells l]) ∧ g'.blk σ.length = some w.heap.size :=
  ⟨g.push σ.length w.heap.size 0, push_rep hr _ _ 0 (fun ht => ⟨w.heap.size, vs.toArray, T, (0, 0), by simp [G.push], heap_push_new, .inl rfl, by simpa using CReps.turn ht l vs hl⟩), push_turn hr _ _ 0, by simp [G.push]⟩
theorem flag_mod {e : Nat} (h : e ≤ 4294967295) : e = (e + 4294967296) % 4294967296 := by omega
theorem par_mod {e e' : Nat} (h : e' % 8589934592 = e % 8589934592) : e % 4294967296 = e' % 4294967296 := by omega
theorem par_odd {e e' : Nat} (h : e' % 8589934592 = e % 8589934592) (k : e' / 4294967296 % 2 = 0) : e / 4294967296 % 2 = 0 := by omega
theorem flag_one {e : Nat} (h : e ≤ 4294967295) : (e + 4294967296) / 4294967296 % 2 = 1 := by omega
theorem flag_odd {e cap : Nat} (h : e ≤ 4294967295) : (e + 4294967296) / 4294967296 % 2 = 0 → cap ≠ 0 := by omega
theorem new_arr {g : G} {w : World} {σ : St} (hr : Rep g w σ) (T : TypeId) (sz cap : Nat) {l : List F} {vs : List Value} (fz : Nat × Nat) (ep : Nat) (hep : T = ep % 4294967296) (hz : ep / 4294967296 % 2 = 0 → cap ≠ 0) (hf : FreeR true ep l.length vs.length fz) (hc : vs.length = cap * sz) (hm : cap ≤ maxLen) (hle : l.length ≤ vs.length)
    (hl : ∀ j (h : j < l.length) (h' : j < vs.length), FRep g w l[j] vs[j]) :
    ∃ g', Rep g' (w.alloc (.cells vs.toArray T fz)) (σ ++ [.arr true ep sz l]) ∧ Turn g w σ g' (w.alloc (.cells vs.toArray T fz)) (σ ++ [.arr true ep sz l]) ∧ g'.blk σ.length = some w.heap.size ∧ g'.cap σ.length = cap := by
  refine ⟨g.push σ.length w.heap.size cap, push_rep hr _ _ cap (fun ht => .inr ⟨w.heap.size, vs.toArray, T, fz, vs.drop l.length, by simp [G.push], heap_push_new, by simpa using hf, by simpa [G.push] using hc, by simpa [G.push] using hm,
    ⟨vs.take l.length, by simp, by simp; omega, fun j h h' => ?_⟩, by simp, hep, by simpa [G.push] using hz⟩), push_turn hr _ _ cap, by simp [G.push], by simp [G.push]⟩
  rw [List.getElem_take]
  exact FRep.turn ht.zs _ _ (hl j h (by omega))
end Go.Dm
namespace Go.Dm
set_option linter.unusedVariables false
def ownAt : Ob → Nat → Prop
  | .gone, _ => False
  | .arr false _ _ l, o => l.length ≤ o
  | _, _ => True
theorem own_iff {g : G} {σ : St} {b o : Nat} : Own g σ b o ↔ ∃ i ob, σ[i]? = some ob ∧ g.blk i = some b ∧ ownAt ob o := by
  constructor
  · rintro ⟨i, ob, h1, h2, h3⟩
    refine ⟨i, ob, h1, h2, ?_⟩
    revert h3
    cases ob with
    | arr wr e sz l => cases wr <;> simp [ownAt]
    | _ => simp [ownAt]
  · rintro ⟨i, ob, h1, h2, h3⟩
    refine ⟨i, ob, h1, h2, ?_⟩
    revert h3
    cases ob with
    | arr wr e sz l => cases wr <;> simp [ownAt]
    | _ => simp [ownAt]
theorem ownAt_far {ob : Ob} (h : live ob = true) : ∃ o, ownAt ob o := by
  cases ob with
  | gone => simp [live] at h
  | arr wr e sz l =>
    cases wr with
    | false => exact ⟨l.length, Nat.le_refl l.length⟩
    | true => exact ⟨0, trivial⟩
  | _ => exact ⟨0, trivial⟩
def _root_.Go.World.at (w : World) (b : Nat) (O : Obj) : World := { w with heap := w.heap.setIfInBounds b O }
theorem at_other {w : World} {b c : Nat} {O : Obj} (h : c ≠ b) : (w.at b O).heap[c]? = w.heap[c]? := by
  show (w.heap.setIfInBounds b O)[c]? = _
  rw [Array.getElem?_setIfInBounds_ne (Ne.symm h)]
theorem at_same {w : World} {b : Nat} {O : Obj} (h : b < w.heap.size) : (w.at b O).heap[b]? = some O := by
  show (w.heap.setIfInBounds b O)[b]? = _
  rw [Array.getElem?_setIfInBounds_self_of_lt h]
theorem cell_at_other {w : World} {b c o : Nat} {O : Obj} (h : c ≠ b) : (w.at b O).cell? ⟨c, o, none⟩ = w.cell? ⟨c, o, none⟩ := by
  simp [World.cell?, at_other h]
theorem lt_of_get {σ : St} {i : Nat} {ob : Ob} (h : σ[i]? = some ob) : i < σ.length := (List.getElem?_eq_some_iff.1 h).1
theorem get_set {σ : St} {i j : Nat} {ob ob' x : Ob} (hi : σ[i]? = some ob) : (σ.set i ob')[j]? = some x ↔ (j = i ∧ x = ob') ∨ (j ≠ i ∧ σ[j]? = some x) := by
  rw [List.getElem?_set]
  have := lt_of_get hi
  by_cases h : i = j
  · subst h; simp [this]; exact eq_comm
  · simp [h, Ne.symm h]
theorem write_turn {g : G} {w : World} {σ : St} (hr : Rep g w σ) {i b : Nat} {ob ob' : Ob} {O O' : Obj} (hi : σ[i]? = some ob) (hb : g.blk i = some b) (hl : live ob = true)
    (hO : w.heap[b]? = some O) (hcell : ∀ o, g.Z b o → (w.at b O').cell? ⟨b, o, none⟩ = w.cell? ⟨b, o, none⟩)
    (ht : ObTurn g g i ob ob') (hown : ∀ o, ownAt ob' o → ownAt ob o) : Turn g w σ g (w.at b O') (σ.set i ob') where
  os := rfl
  tape := rfl
  output := rfl
  size := by show w.heap.size ≤ (w.heap.setIfInBounds b O').size; simp
  whole c hc hn := by
    refine at_other fun e => ?_
    subst e
    obtain ⟨o, ho⟩ := ownAt_far hl
    exact hn o (own_iff.2 ⟨i, ob, hi, hb, ho⟩)
  zs c o hz := by
    refine ⟨hz, ?_⟩
    by_cases e : c = b
    · subst e; exact hcell o hz
    · exact cell_at_other e
  znew c o _ hz := .inl hz
  onew c o _ ho := by
    obtain ⟨j, x, h1, h2, h3⟩ := own_iff.1 ho
    rcases (get_set hi).1 h1 with ⟨rfl, rfl⟩ | ⟨h4, h5⟩
    · exact own_iff.2 ⟨j, ob, hi, h2, hown o h3⟩
    · exact own_iff.2 ⟨j, x, h5, h2, h3⟩
  turns j x hx := by
    by_cases e : j = i
    · subst e
      rw [hi] at hx; cases hx
      exact ⟨ob', (get_set hi).2 (.inl ⟨rfl, rfl⟩), ht⟩
    · exact ⟨x, (get_set hi).2 (.inr ⟨e, hx⟩), by cases x <;> simp [ObTurn]⟩
  blks _ _ _ _ := rfl
theorem write_rep {g : G} {w : World} {σ : St} (hr : Rep g w σ) {i b : Nat} {ob ob' : Ob} {O' : Obj} (hi : σ[i]? = some ob) (hb : g.blk i = some b) (hl : live ob = true)
    (ht : Turn g w σ g (w.at b O') (σ.set i ob')) (hl' : live ob' = true → live ob = true) (hown : ∀ o, ownAt ob' o → ownAt ob o)
    (hob : ObRep g (w.at b O') (σ.set i ob') i ob') : Rep g (w.at b O') (σ.set i ob') where
  ob j x hx := by
    rcases (get_set hi).1 hx with ⟨rfl, rfl⟩ | ⟨h4, h5⟩
    · exact hob
    · by_cases hlx : live x = true
      · exact (hr.ob j x h5).keep ht (fun c hc => at_other fun e => h4 (hr.inj j i x ob c h5 hi hlx hl hc (e ▸ hb))) rfl rfl
      · cases x <;> simp_all [live, ObRep]
  inj j k x y c hj hk lx ly hbj hbk := by
    have get : ∀ {m : Nat} {z : Ob}, (σ.set i ob')[m]? = some z → live z = true → ∃ z', σ[m]? = some z' ∧ live z' = true := by
      intro m z hz lz
      rcases (get_set hi).1 hz with ⟨rfl, rfl⟩ | ⟨h4, h5⟩
      · exact ⟨ob, hi, hl⟩
      · exact ⟨z, h5, lz⟩
    obtain ⟨x', hx', lx'⟩ := get hj lx
    obtain ⟨y', hy', ly'⟩ := get hk ly
    exact hr.inj j k x' y' c hx' hy' lx' ly' hbj hbk
  apart c o hz ho := by
    obtain ⟨j, x, h1, h2, h3⟩ := own_iff.1 ho
    rcases (get_set hi).1 h1 with ⟨rfl, rfl⟩ | ⟨h4, h5⟩
    · exact hr.apart c o hz (own_iff.2 ⟨j, ob, hi, h2, hown o h3⟩)
    · exact hr.apart c o hz (own_iff.2 ⟨j, x, h5, h2, h3⟩)
  inside c o hz := by
    have := hr.inside c o hz
    show c < (w.heap.setIfInBounds b O').size
    simpa using this
theorem write_cells {g : G} {w : World} {σ : St} (hr : Rep g w σ) {i b : Nat} {l l' : List C} {vs : Array Value} {T : TypeId} {fz : Nat × Nat} {vs' : List Value}
    (hi : σ[i]? = some (.cells l)) (hb : g.blk i = some b) (hO : w.heap[b]? = some (.cells vs T fz)) (hf : Free vs.size fz) (hs : vs'.length = vs.size) (hl : CReps g w σ l' vs') :
    Rep g (w.at b (.cells vs'.toArray T fz)) (σ.set i (.cells l')) ∧ Turn g w σ g (w.at b (.cells vs'.toArray T fz)) (σ.set i (.cells l')) := by
  have ht := write_turn (ob' := .cells l') (O' := .cells vs'.toArray T fz) hr hi hb rfl hO
    (fun o hz => (hr.apart b o hz (own_iff.2 ⟨i, _, hi, hb, trivial⟩)).elim) (by simp [ObTurn]) (fun _ _ => trivial)
  have hlt : b < w.heap.size := (Array.getElem?_eq_some_iff.1 hO).1
  exact ⟨write_rep hr hi hb rfl ht (fun _ => rfl) (fun _ _ => trivial) ⟨b, vs'.toArray, T, fz, hb, at_same hlt, by simpa [hs] using hf, by simpa using CReps.turn ht l' vs' hl⟩, ht⟩
theorem write_bld {g : G} {w : World} {σ : St} (hr : Rep g w σ) {i b : Nat} {T : TypeId} {u u' : Bool} {x x' : C} {vs : Array Value} {v' : Value}
    (hi : σ[i]? = some (.bld T u x)) (hb : g.blk i = some b) (hO : w.heap[b]? = some (.cells vs T (0, 0))) (hl : CRep g w σ x' v') :
    Rep g (w.at b (.cells #[selfp u' b, v'] T (0, 0))) (σ.set i (.bld T u' x')) ∧ Turn g w σ g (w.at b (.cells #[selfp u' b, v'] T (0, 0))) (σ.set i (.bld T u' x')) := by
  have ht := write_turn (ob' := .bld T u' x') (O' := .cells #[selfp u' b, v'] T (0, 0)) hr hi hb rfl hO
    (fun o hz => (hr.apart b o hz (own_iff.2 ⟨i, _, hi, hb, trivial⟩)).elim) (by simp [ObTurn]) (fun _ _ => trivial)
  have hlt : b < w.heap.size := (Array.getElem?_eq_some_iff.1 hO).1
  exact ⟨write_rep hr hi hb rfl ht (fun _ => rfl) (fun _ _ => trivial) ⟨b, v', hb, at_same hlt, CRep.turn ht x' v' hl⟩, ht⟩
theorem freeze_arr {g : G} {w : World} {σ : St} (hr : Rep g w σ) {i : Nat} {wr : Bool} {e sz : Nat} {l : List F} (hi : σ[i]? = some (.arr wr e sz l)) :
    ∃ g', Rep g' w (σ.set i (.arr false e sz l)) ∧ Turn g w σ g' w (σ.set i (.arr false e sz l)) ∧ g'.blk = g.blk ∧ g'.cap = g.cap ∧
      (∀ b, g.blk i = some b → FRow g' w b 0 l) := by
  cases wr with
  | false =>
    have e1 : σ.set i (.arr false e sz l) = σ := by
      apply List.ext_getElem?
      intro j
      rw [List.getElem?_set]
      split
      · rename_i h; subst h; rw [if_pos (lt_of_get hi), hi]
      · rfl
    rw [e1]
    refine ⟨g, hr, Turn.refl _ _ _, rfl, rfl, fun b hb => FRow.of fun j x hx => ?_⟩
    rcases hr.ob i _ hi with ⟨h1, _, _⟩ | ⟨c, vs, T, fz, rest, h1, h2, h3, h4, h5, ⟨pre, h6, h7, h8⟩, h9⟩
    · rw [hb] at h1; cases h1
    · rw [hb] at h1; cases h1
      have hj := (List.getElem?_eq_some_iff.1 hx).1
      rw [Nat.zero_add]
      refine ⟨h9.1 rfl j hj, pre[j]'(by omega), ?_, ?_⟩
      · simp only [World.cell?, h2]
        have hp : pre.length = l.length := h7
        simp
        rw [← Array.getElem?_toList, h6, List.getElem?_append_left (by omega)]
        exact List.getElem?_eq_getElem (by omega)
      · have := h8 j hj (by omega)
        rw [(List.getElem?_eq_some_iff.1 hx).2] at this
        exact this
  | true =>
    have hg : ∀ {j : Nat} {x : Ob}, (σ.set i (.arr false e sz l))[j]? = some x ↔ (j = i ∧ x = .arr false e sz l) ∨ (j ≠ i ∧ σ[j]? = some x) := get_set hi
    have hob := hr.ob i _ hi
    -- the cells that are frozen
    let g' : G := { g with Z := fun c o => g.Z c o ∨ (g.blk i = some c ∧ o < l.length) }
    have hown : ∀ c o, Own g' (σ.set i (.arr false e sz l)) c o → Own g σ c o := by
      intro c o ho
      obtain ⟨j, x, h1, h2, h3⟩ := own_iff.1 ho
      rcases hg.1 h1 with ⟨rfl, rfl⟩ | ⟨h4, h5⟩
      · exact own_iff.2 ⟨j, _, hi, h2, trivial⟩
      · exact own_iff.2 ⟨j, x, h5, h2, h3⟩
    have hlt : ∀ c, g.blk i = some c → c < w.heap.size := fun c hc => hob.inside rfl hc
    have ht : Turn g w σ g' w (σ.set i (.arr false e sz l)) :=
      { os := rfl, tape := rfl, output := rfl, size := Nat.le_refl _, whole := fun _ _ _ => rfl, zs := fun c o hz => ⟨.inl hz, rfl⟩,
        znew := fun c o _ hz => hz.imp id fun ⟨h1, h2⟩ => own_iff.2 ⟨i, _, hi, h1, trivial⟩,
        onew := fun c o _ ho => hown c o ho,
        turns := fun j x hx => by
          by_cases h : j = i
          · subst h
            rw [hi] at hx; cases hx
            exact ⟨_, hg.2 (.inl ⟨rfl, rfl⟩), .inr ⟨rfl, rfl, rfl, rfl, rfl⟩⟩
          · exact ⟨x, hg.2 (.inr ⟨h, hx⟩), by cases x <;> simp [ObTurn, g']⟩,
        blks := fun _ _ _ _ => rfl }
    have hrow : ∀ b, g.blk i = some b → FRow g' w b 0 l := fun b hb => FRow.of fun j x hx => by
      rcases hob with ⟨h1, _, _⟩ | ⟨c, vs, T, fz, rest, h1, h2, h3, h4, h5, ⟨pre, h6, h7, h8⟩, h9⟩
      · rw [hb] at h1; cases h1
      · rw [hb] at h1; cases h1
        have hj := (List.getElem?_eq_some_iff.1 hx).1
        rw [Nat.zero_add]
        refine ⟨.inr ⟨hb, hj⟩, pre[j]'(by omega), ?_, ?_⟩
        · simp only [World.cell?, h2]
          simp
          rw [← Array.getElem?_toList, h6, List.getElem?_append_left (by omega)]
          exact List.getElem?_eq_getElem (by omega)
        · have := h8 j hj (by omega)
          rw [(List.getElem?_eq_some_iff.1 hx).2] at this
          exact FRep.turn ht.zs _ _ this
    refine ⟨g', ⟨?_, ?_, ?_, ?_⟩, ht, rfl, rfl, hrow⟩
    · intro j x hx
      rcases hg.1 hx with ⟨rfl, rfl⟩ | ⟨h4, h5⟩
      · rcases hob with h | ⟨c, vs, T, fz, rest, h1, h2, h3, h4, h5, ⟨pre, h6, h7, h8⟩, h9⟩
        · exact .inl h
        · exact .inr ⟨c, vs, T, fz, rest, h1, h2, h3.frz, h4, h5, ⟨pre, h6, h7, fun k a b => FRep.turn ht.zs _ _ (h8 k a b)⟩, fun _ k hk => .inr ⟨h1, hk⟩, h9.2⟩
      · exact (hr.ob j x h5).keep ht (fun _ _ => rfl) rfl rfl
    · intro j k x y c hj hk lx ly hbj hbk
      have get : ∀ {m : Nat} {z : Ob}, (σ.set i (.arr false e sz l))[m]? = some z → live z = true → ∃ z', σ[m]? = some z' ∧ live z' = true := by
        intro m z hz lz
        rcases hg.1 hz with ⟨rfl, rfl⟩ | ⟨h4, h5⟩
        · exact ⟨_, hi, rfl⟩
        · exact ⟨z, h5, lz⟩
      obtain ⟨x', hx', lx'⟩ := get hj lx
      obtain ⟨y', hy', ly'⟩ := get hk ly
      exact hr.inj j k x' y' c hx' hy' lx' ly' hbj hbk
    · intro c o hz ho
      rcases hz with hz | ⟨h1, h2⟩
      · exact hr.apart c o hz (hown c o ho)
      · obtain ⟨j, x, k1, k2, k3⟩ := own_iff.1 ho
        rcases hg.1 k1 with ⟨rfl, rfl⟩ | ⟨k4, k5⟩
        · have k3' : l.length ≤ o := k3
          omega
        · have hlx : live x = true := by cases x <;> simp_all [live, ownAt]
          exact k4 (hr.inj j i x _ c k5 hi hlx rfl k2 h1)
    · intro c o hz
      rcases hz with hz | ⟨h1, _⟩
      · exact hr.inside c o hz
      · exact hlt c h1
end Go.Dm
namespace Go.Dm
set_option linter.unusedVariables false
structure Pr where
  iar : BinOp → IntKind → Int → Int → Int
  icmp : BinOp → Int → Int → Bool
  beq : Bool → Bool → Bool
  bnot : Bool → Bool
  sapp : List UInt8 → List UInt8 → List UInt8
  scmp : BinOp → List UInt8 → List UInt8 → Bool
  slen : List UInt8 → Int
  sget : List UInt8 → Int → Int
  sbytes : List UInt8 → List F
  bytesK : List F → Nat → (List UInt8 → Prop) → Prop
  ssub : List UInt8 → Int → Int → List UInt8
  wrap : IntKind → Int → Int
  ofNat : Nat → Int
  toNat : Int → Nat
  nadd : Nat → Nat → Nat
  nsub : Nat → Nat → Nat
  atp : Int → Nat → Nat
  fadd : Nat → Nat → Option Nat
  fsub : Nat → Nat → Option Nat
  fcmp : BinOp → Nat → Nat → Bool
  fofi : Int → Nat
  foi : Nat → Option Int
  band : Bool → Bool → Bool
  getK : List F → Nat → (F → Prop) → Prop
  cutK : List F → Nat → Nat → (List F → Prop) → Prop
  fput : List F → Nat → List F → List F
  caseK : Int → Nat → (Nat → Prop) → Prop
  fcut : List F → Nat → Nat → List F
  fapp : List F → List F → List F
  flen : List F → Nat
  imin : Int → Int → Int
  imax : Int → Int → Int
  ne0 : Int → Prop
  nn : Int → Prop
  idx : Int → Int → Prop
  rng : Int → Int → Int → Prop
  le : Nat → Nat → Prop
  eqN : Nat → Nat → Prop
  sroom : List UInt8 → List UInt8 → Prop
def barith (op : BinOp) (k : IntKind) (a b : Int) : Int :=
  match op with
  | .add => k.wrap (a + b)
  | .sub => k.wrap (a - b)
  | .mul => k.wrap (a * b)
  | .quo => k.wrap (a.tdiv b)
  | .rem => a.tmod b
  | .and => k.wrap (BitVec.ofInt k.bits a &&& BitVec.ofInt k.bits b).toNat
  | .or => k.wrap (BitVec.ofInt k.bits a ||| BitVec.ofInt k.bits b).toNat
  | .xor => k.wrap (BitVec.ofInt k.bits a ^^^ BitVec.ofInt k.bits b).toNat
  | .andNot => k.wrap (BitVec.ofInt k.bits a &&& ~~~BitVec.ofInt k.bits b).toNat
  | .shl => k.wrap (a * 2 ^ (min b.toNat k.bits))
  | .shr => a.fdiv (2 ^ (min b.toNat k.bits))
  | _ => 0
def bcmp (op : BinOp) (a b : Int) : Bool :=
  match op with
  | .eql => a == b
  | .neq => a != b
  | .lss => decide (a < b)
  | .leq => decide (a ≤ b)
  | .gtr => decide (a > b)
  | .geq => decide (a ≥ b)
  | _ => false
def bscmp (op : BinOp) (a b : List UInt8) : Bool :=
  match op with
  | .eql => a == b
  | .neq => !(a == b)
  | .lss => Op.bytesLess a b
  | .leq => Op.bytesLess a b || a == b
  | .gtr => !(Op.bytesLess a b || a == b)
  | .geq => !Op.bytesLess a b
  | _ => false
def bfcmp (op : BinOp) (a b : Nat) : Bool :=
  match op with
  | .eql => FloatKind.f64.format.order a b == some .eq
  | .neq => FloatKind.f64.format.order a b != some .eq
  | .lss => FloatKind.f64.format.order a b == some .lt
  | .leq => FloatKind.f64.format.order a b == some .lt || FloatKind.f64.format.order a b == some .eq
  | .gtr => FloatKind.f64.format.order a b == some .gt
  | .geq => FloatKind.f64.format.order a b == some .gt || FloatKind.f64.format.order a b == some .eq
  | _ => false
def prims : Pr where
  iar := barith
  icmp := bcmp
  beq a b := a == b
  bnot b := !b
  sapp a b := a ++ b
  scmp := bscmp
  slen s := s.length
  sget s i := (s.getD i.toNat 0).toNat
  sbytes s := s.map fun b => .int .u8 b.toNat
  bytesK l n K := ∃ s : List UInt8, l = s.map (fun b => .int .u8 b.toNat) ∧ s.length = n ∧ K s
  ssub s a b := (s.drop a.toNat).take (b.toNat - a.toNat)
  wrap k n := k.wrap n
  ofNat n := n
  toNat i := i.toNat
  nadd a b := a + b
  nsub a b := a - b
  atp i n := i.toNat * n
  fadd a b := floatBits .add .f64 a b
  fsub a b := floatBits .sub .f64 a b
  fcmp := bfcmp
  fofi n := FloatKind.f64.nearest n
  foi b := floatToIntVal .f64 b .i64
  band a b := a && b
  getK l i K := (match l[i]? with | some x => K x | none => False)
  cutK l i n K := i + n ≤ l.length ∧ K ((l.drop i).take n)
  fput l i r := l.take i ++ r ++ l.drop (i + r.length)
  caseK j n K := 0 ≤ j ∧ j < n ∧ K j.toNat
  fcut l i n := (l.drop i).take n
  fapp a b := a ++ b
  flen l := l.length
  imin a b := if b < a then b else a
  imax a b := if b > a then b else a
  ne0 n := n ≠ 0
  nn n := 0 ≤ n
  idx i n := 0 ≤ i ∧ i < n
  rng a b c := 0 ≤ a ∧ a ≤ b ∧ b ≤ c
  le a b := a ≤ b
  eqN a b := a = b
  sroom a b := a.length + b.length ≤ 9223372036854775807
inductive TD where
  | int (k : IntKind) | bool | str | flo | cpl | slice (e : TypeId) | struct (fs : List (Nat × TypeId)) | array (n : Nat) (e : TypeId) | ptr (e : TypeId) | map (k e : TypeId) | fn | uptr | bld (p s : TypeId) | no
  deriving Inhabited
def TD.isNo : TD → Bool
  | .no => true
  | _ => false
inductive KK where
  | b | i (k : IntKind) | s
  deriving Inhabited
structure TI where
  d : TD
  size : Nat
  bytes : Nat
  zero : List F
  key : List KK := []
  deriving Inhabited
abbrev Tab := TypeId → TI
def TI.agg (i : TI) : Bool :=
  match i.d with
  | .struct _ | .array _ _ | .bld _ _ => true
  | _ => false
def zval : F → Value
  | .bool b => .bool b
  | .int k n => .int k n
  | .flo b => .float .f64 b
  | .cpl a b => .complex .f64 a b
  | .str s => .string ⟨s.toArray⟩
  | .nils => .slice none 0 0
  | .nilp => .pointer none
  | .nilm => .map none
  | .nilf => .nilFunc
  | _ => undef
def plain : F → Bool
  | .bool _ | .int _ _ | .flo _ | .cpl _ _ | .str _ | .nils | .nilp | .nilm | .nilf => true
  | _ => false
def TD.fits (P : Program) (t : TypeId) : TD → Prop
  | .int k => P.underlying t = some (.int k)
  | .bool => P.underlying t = some .bool
  | .str => P.underlying t = some .string
  | .flo => P.underlying t = some (.float .f64)
  | .cpl => P.underlying t = some (.complex .f64)
  | .slice e => P.underlying t = some (.slice e)
  | .struct fs => ∃ fields : Array Field, P.underlying t = some (.struct fields) ∧ fields.toList.map (fun f => (f.offset, f.type)) = fs
  | .array n e => P.underlying t = some (.array n e)
  | .ptr e => P.underlying t = some (.pointer e)
  | .map k e => P.underlying t = some (.map k e)
  | .fn => ∃ a b c, P.underlying t = some (.func a b c)
  | .uptr => P.underlying t = some .unsafePointer
  | .bld a b => ∃ fields : Array Field, P.underlying t = some (.struct fields) ∧ fields.toList.map (fun f => (f.offset, f.type)) = [(0, a), (1, b)] ∧ liesAt P P.depth t (2 / P.cellsOf t) 0 t 1 = true
  | .no => True
def FitK : List KK → List Value → Prop
  | [], [] => True
  | .b :: r, .bool _ :: s => FitK r s
  | .i k :: r, .int k' n :: s => k' = k ∧ (Lit.int k n).wf = true ∧ FitK r s
  | .s :: r, .string t :: s => t.size ≤ maxLen ∧ FitK r s
  | _, _ => False
def wideB (P : Program) (t : TypeId) : Bool := match P.underlying t with | some (.array _ _) | some (.struct _) => true | _ => false
structure KeyOk (P : Program) (t : TypeId) (ks : List KK) : Prop where
  law : WideMaps.KeyLaw P t ∨ wideB P t = false
  lits : wideB P t = true → ∀ vs : List Value, FitK ks vs → ∃ l, keyOf P t (.agg vs.toArray) = some l
  guard : P.eqGuardType P.depth t = false
  eql : wideB P t = true → ∀ (w : World) (us vs : List Value), FitK ks us → FitK ks vs → ∃ r : Bool, (Op.equal t (.agg us.toArray) (.agg vs.toArray)).run P w = .ok r w ∧ (r = true ↔ us = vs)
structure TI.Ok (P : Program) (t : TypeId) (i : TI) : Prop where
  fits : i.d.fits P t
  info : i.d = .no ∨ ∃ j, P.info? t = some j ∧ j.size = i.size ∧ j.bytes = i.bytes ∧ (∃ z, j.zero = some z ∧ z.cells.toList = i.zero.map zval ∧ (i.agg = true → z = .agg z.cells)) ∧ i.zero.all plain = true ∧ i.zero.length = i.size
  keyed : i.key = [] ∨ KeyOk P t i.key
def TabOk (P : Program) (tb : Tab) : Prop := ∀ t, (tb t).Ok P t
def ofConst : Value → V
  | .int k n => .c (.f (.int k n))
  | .bool b => .c (.f (.bool b))
  | .float .f64 b => .c (.f (.flo b))
  | .complex .f64 a b => .c (.f (.cpl a b))
  | .string s => .c (.f (.str s.data.toList))
  | .slice none 0 0 => .c (.f .nils)
  | .pointer none => .c (.f .nilp)
  | .map none => .c (.f .nilm)
  | .nilFunc => .c (.f .nilf)
  | _ => .c .un
def opd (fr : Fr) : Operand → V
  | .tmp t => fr.getD t (.c .un)
  | .const v => ofConst v
  | .func f => .c (.f (.fn f))
  | .global _ => .c .un
def same : IntKind → IntKind → Prop → Prop
  | .i8, .i8, p | .i16, .i16, p | .i32, .i32, p | .i64, .i64, p | .u8, .u8, p | .u16, .u16, p | .u32, .u32, p | .u64, .u64, p => p
  | _, _, _ => False
def vint (T : Pr) (op : BinOp) (j : IntKind) (a b : Int) (k : V → Prop) : Prop :=
  match op with
  | .add | .sub | .mul | .and | .or | .xor | .andNot => k (.c (.f (.int j (T.iar op j a b))))
  | .quo | .rem => T.ne0 b ∧ k (.c (.f (.int j (T.iar op j a b))))
  | .eql | .neq | .lss | .leq | .gtr | .geq => k (.c (.f (.bool (T.icmp op a b))))
  | _ => False
def vbin (T : Pr) (d : TD) (op : BinOp) (x y : V) (k : V → Prop) : Prop :=
  match x, y with
  | .c (.f (.int j a)), .c (.f (.int j' b)) =>
    (match op with
    | .shl | .shr => T.nn b ∧ k (.c (.f (.int j (T.iar op j a b))))
    | _ => same j j' (vint T op j a b k))
  | .c (.f (.bool a)), .c (.f (.bool b)) =>
    (match d, op with
    | .bool, .eql => k (.c (.f (.bool (T.beq a b))))
    | .bool, .neq => k (.c (.f (.bool (T.bnot (T.beq a b)))))
    | _, _ => False)
  | .c (.f (.str a)), .c (.f (.str b)) =>
    (match op with
    | .add => T.sroom a b ∧ k (.c (.f (.str (T.sapp a b))))
    | .eql | .neq | .lss | .leq | .gtr | .geq => k (.c (.f (.bool (T.scmp op a b))))
    | _ => False)
  | .c (.f (.flo a)), .c (.f (.flo b)) =>
    (match op with
    | .eql | .neq | .lss | .leq | .gtr | .geq => k (.c (.f (.bool (T.fcmp op a b))))
    | .add => (match T.fadd a b with | some r => k (.c (.f (.flo r))) | none => False)
    | .sub => (match T.fsub a b with | some r => k (.c (.f (.flo r))) | none => False)
    | _ => False)
  | .c (.f (.cpl a b)), .c (.f (.cpl c d)) =>
    (match op with
    | .add => (match T.fadd a c with | some r => (match T.fadd b d with | some i => k (.c (.f (.cpl r i))) | none => False) | none => False)
    | .sub => (match T.fsub a c with | some r => (match T.fsub b d with | some i => k (.c (.f (.cpl r i))) | none => False) | none => False)
    | .eql => k (.c (.f (.bool (T.band (T.fcmp .eql a c) (T.fcmp .eql b d)))))
    | .neq => k (.c (.f (.bool (T.bnot (T.band (T.fcmp .eql a c) (T.fcmp .eql b d))))))
    | _ => False)
  | _, _ => False
def vun (T : Pr) (op : UnOp) (x : V) (k : V → Prop) : Prop :=
  match op, x with
  | .not, .c (.f (.bool b)) => k (.c (.f (.bool (T.bnot b))))
  | .neg, .c (.f (.int j n)) => k (.c (.f (.int j (T.iar .sub j 0 n))))
  | _, _ => False
def vpick (c a b : V) (k : V → Prop) : Prop :=
  match c with
  | .c (.f (.bool t)) => (match t with | true => k a | false => k b)
  | _ => False
end Go.Dm
namespace Go.Dm
set_option linter.unusedVariables false
def V.cells : V → Option (List C)
  | .c .un => none
  | .c x => some [x]
  | .a l => some l
  | .t _ => none
def V.cap : V → C
  | .c x => x
  | _ => .un
def frz : List C → Option (List F)
  | [] => some []
  | .f x :: r => (match frz r with | some l => some (x :: l) | none => none)
  | _ :: _ => none
def cut (l : List C) (off n : Nat) : Option (List C) :=
  if off + n ≤ l.length then some ((l.drop off).take n) else none
def splice (l : List C) (off : Nat) (r : List C) : Option (List C) :=
  if off + r.length ≤ l.length then some (l.take off ++ r ++ l.drop (off + r.length)) else none
def vload (T : Pr) (agg : Bool) (n : Nat) (x : V) (σ : St) (k : V → Prop) : Prop :=
  match x with
  | .c (.ptr o off) =>
    (match σ[o]? with
    | some (.cells l) =>
      (match agg with
      | true => (match cut l off n with | some r => k (.a r) | none => False)
      | false => (match l[off]? with | some c => k (.c c) | none => False))
    | some (.bld _ u y) =>
      (match agg, off with
      | false, 0 => k (match u with | true => .c (.ptr o 0) | false => .c (.f .nilp))
      | false, 1 => k (.c y)
      | _, _ => False)
    | _ => False)
  | .c (.ep cs off) =>
    (match agg with
    | true => T.cutK cs off n fun r => k (.a (r.map .f))
    | false => T.getK cs off fun x => k (.c (.f x)))
  | .c (.pa o e off) =>
    (match σ[o]? with
    | some (.arr _ e0 _ l) => T.eqN e e0 ∧
      (match agg with
      | true => T.cutK l off n fun r => k (.a (r.map .f))
      | false => T.getK l off fun x => k (.c (.f x)))
    | _ => False)
  | _ => False
def addr : V → V
  | .c (.f (.obj cs)) => .c (.ep cs 0)
  | x => x
def vfrzs (T : Pr) : List C → St → (List F → St → Prop) → Prop
  | [], σ, k => k [] σ
  | .f x :: r, σ, k => vfrzs T r σ fun l σ' => k (x :: l) σ'
  | .rs o e n :: r, σ, k =>
    (match σ[o]? with
    | some (.arr _ e0 sz l) => T.eqN e e0 ∧ vfrzs T r (σ.set o (.arr false e0 sz l)) fun l' σ' => k (.sl n l :: l') σ'
    | _ => False)
  | .ptr o 0 :: r, σ, k =>
    (match σ[o]? with
    | some (.cells cs) =>
      (match frz cs with
      | some fs => vfrzs T r (σ.set o .gone) fun l' σ' => k (.obj fs :: l') σ'
      | none => False)
    | _ => False)
  | _, _, _ => False
def vsoft (T : Pr) : List C → St → (List C → St → Prop) → Prop
  | [], σ, k => k [] σ
  | .rs o e n :: r, σ, k =>
    (match σ[o]? with
    | some (.arr _ e0 sz l) => T.eqN e e0 ∧ vsoft T r (σ.set o (.arr false e0 sz l)) fun l' σ' => k (.f (.sl n l) :: l') σ'
    | _ => False)
  | x :: r, σ, k => vsoft T r σ fun l' σ' => k (x :: l') σ'
def vsofts (T : Pr) : List V → St → (List V → St → Prop) → Prop
  | [], σ, k => k [] σ
  | .c (.rs o e n) :: r, σ, k =>
    (match σ[o]? with
    | some (.arr _ e0 sz l) => T.eqN e e0 ∧ vsofts T r (σ.set o (.arr false e0 sz l)) fun l' σ' => k (.c (.f (.sl n l)) :: l') σ'
    | _ => False)
  | .c x :: r, σ, k => vsofts T r σ fun l' σ' => k (.c x :: l') σ'
  | .a l :: r, σ, k => vsoft T l σ fun l2 σ' => vsofts T r σ' fun l' σ'' => k (.a l2 :: l') σ''
  | .t l :: r, σ, k => vsofts T r σ fun l' σ' => k (.t l :: l') σ'
def C.isRs : C → Bool
  | .rs .. => true
  | _ => false
def V.hasRs : V → Bool
  | .c x => x.isRs
  | .a l => l.any C.isRs
  | .t _ => false
def vstore (T : Pr) (x : V) (v : V) (n : Nat) (σ : St) (k : St → Prop) : Prop :=
  match v.cells with
  | some r => if r.length = n ∧ r.all C.solid = true then
    (match x with
    | .c (.ptr o off) =>
      (match σ[o]? with
      | some (.cells l) => (match splice l off r with | some l' => k (σ.set o (.cells l')) | none => False)
      | some (.bld b u y) =>
        (match off, r with
        | 0, [.ptr o' 0] => (match Nat.beq o' o with | true => k (σ.set o (.bld b true y)) | false => False)
        | 1, [c] => k (σ.set o (.bld b u c))
        | _, _ => False)
      | _ => False)
    | .c (.pa o e off) => vfrzs T r σ fun fs σ' =>
      (match σ'[o]? with
      | some (.arr true e0 sz l) => T.eqN e e0 ∧ T.le (T.nadd off n) (T.flen l) ∧ k (σ'.set o (.arr true e0 sz (T.fput l off fs)))
      | _ => False)
    | _ => False) else False
  | none => False
def vmore (T : Pr) (off : Nat) (fo : Nat) : Nat :=
  match fo with
  | 0 => off
  | m + 1 => T.nadd off (m + 1)
def vfield (T : Pr) (x : V) (fo : Nat) (σ : St) (k : V → Prop) : Prop :=
  match x with
  | .c (.ptr o off) => k (.c (.ptr o (off + fo)))
  | .c (.ep cs off) => k (.c (.ep cs (vmore T off fo)))
  | .c (.pa o e off) =>
    (match σ[o]? with
    | some (.arr _ e0 _ _) => T.eqN e e0 ∧ k (.c (.pa o e (vmore T off fo)))
    | _ => False)
  | _ => False
def vfill (tb : Tab) (fs : List (Nat × TypeId)) (fr : Fr) : List (Nat × Operand) → List C → Option (List C)
  | [], cs => some cs
  | (i, x) :: r, cs =>
    match fs[i]?, (opd fr x).cells with
    | some (off, t), some l => if l.length = (tb t).size then (match splice cs off l with | some cs' => vfill tb fs fr r cs' | none => none) else none
    | _, _ => none
def vfillRow (sz : Nat) (fr : Fr) : List (Nat × Operand) → List C → Option (List C)
  | [], cs => some cs
  | (i, x) :: r, cs =>
    match (opd fr x).cells with
    | some l => if l.length = sz then (match splice cs (i * sz) l with | some cs' => vfillRow sz fr r cs' | none => none) else none
    | none => none
def rep (n : Nat) (l : List C) : List C :=
  match n with
  | 0 => []
  | n + 1 => l ++ rep n l
def vpart (agg : Bool) (l : List C) (off n : Nat) (k : V → Prop) : Prop :=
  match agg with
  | true => (match cut l off n with | some r => k (.a r) | none => False)
  | false => (match l[off]? with | some c => k (.c c) | none => False)
def vindexAddr (T : Pr) (tb : Tab) (t : TypeId) (x : V) (i : V) (σ : St) (k : V → Prop) : Prop :=
  match (tb t).d, x, i with
  | .slice e, .c (.f (.sl n cs)), .c (.f (.int _ j)) =>
    (match (tb e).d with
    | .no => False
    | _ => T.idx j (Int.ofNat n) ∧ k (.c (.ep cs (T.atp j (tb e).size))))
  | .slice e, .c (.rs o ep n), .c (.f (.int _ j)) =>
    (match (tb e).d, σ[o]? with
    | .no, _ => False
    | _, some (.arr _ e0 _ _) => T.eqN ep e0 ∧ T.idx j (Int.ofNat n) ∧ k (.c (.pa o ep (T.atp j (tb e).size)))
    | _, _ => False)
  | .array n e, .c (.ptr o off), .c (.f (.int _ j)) =>
    (match (tb e).d with
    | .no => False
    | _ => T.caseK j n fun i => k (.c (.ptr o (off + i * (tb e).size))))
  | .array n e, .c (.ep cs off), .c (.f (.int _ j)) =>
    (match (tb e).d with
    | .no => False
    | _ => T.caseK j n fun i => k (.c (.ep cs (vmore T off (i * (tb e).size)))))
  | .array n e, .c (.pa o ep off), .c (.f (.int _ j)) =>
    (match (tb e).d, σ[o]? with
    | .no, _ => False
    | _, some (.arr _ e0 _ _) => T.eqN ep e0 ∧ T.caseK j n fun i => k (.c (.pa o ep (vmore T off (i * (tb e).size))))
    | _, _ => False)
  | _, _, _ => False
def vindex (T : Pr) (tb : Tab) (t : TypeId) (x : V) (i : V) (k : V → Prop) : Prop :=
  match (tb t).d, x, i with
  | .str, .c (.f (.str s)), .c (.f (.int _ j)) => T.idx j (T.slen s) ∧ k (.c (.f (.int .u8 (T.sget s j))))
  | .array n e, .a l, .c (.f (.int _ j)) =>
    (match (tb e).d with
    | .no => False
    | _ => T.caseK j n fun i => vpart ((tb e).agg) l (i * (tb e).size) (tb e).size k)
  | _, _, _ => False
def vlen (T : Pr) (d : TD) (x : V) (σ : St) (k : V → Prop) : Prop :=
  match d, x with
  | .str, .c (.f (.str s)) => k (.c (.f (.int .i64 (T.slen s))))
  | .slice _, .c (.f .nils) => k (.c (.f (.int .i64 0)))
  | .slice _, .c (.f (.sl n cs)) => k (.c (.f (.int .i64 (Int.ofNat n))))
  | .slice _, .c (.rs o e n) =>
    (match σ[o]? with
    | some (.arr _ e0 _ _) => T.eqN e e0 ∧ k (.c (.f (.int .i64 (Int.ofNat n))))
    | _ => False)
  | _, _ => False
def vsrc (T : Pr) (d : TD) (sz : Nat) (x : V) (σ : St) (k : Nat → List F → Prop) : Prop :=
  match d, x with
  | .slice _, .c (.f .nils) => k 0 []
  | .slice _, .c (.f (.sl n cs)) => T.eqN (T.flen cs) (T.atp (Int.ofNat n) sz) ∧ k n cs
  | .slice _, .c (.rs o e n) =>
    (match σ[o]? with
    | some (.arr _ e0 s0 l) => T.eqN e e0 ∧ T.eqN sz s0 ∧ k n l
    | _ => False)
  | .str, .c (.f (.str s)) => T.eqN sz 1 ∧ k (T.toNat (T.slen s)) (T.sbytes s)
  | _, _ => False
def vappend (T : Pr) (d : TD) (ty sz bytes : Nat) (x y : V) (σ : St) (k : V → St → Prop) : Prop :=
  vsrc T d sz y σ fun m new =>
  match x with
  | .c (.f .nils) =>
    (match m with
    | 0 => k (.c (.f .nils)) σ
    | _ => T.le (T.atp (Int.ofNat m) bytes) 140737488355328 ∧ T.le m 9223372036854775807 ∧ T.le ty 4294967295 ∧ k (.c (.rs σ.length ty m)) (σ ++ [.arr true ty sz new]))
  | .c (.rs o e n) =>
    (match σ[o]? with
    | some (.arr w e0 s0 l) => T.eqN e e0 ∧ T.eqN sz s0 ∧ T.le (T.atp (Int.ofNat (T.nadd n m)) bytes) 140737488355328 ∧ T.le (T.nadd n m) 9223372036854775807 ∧ T.eqN (e0 % 4294967296) ty ∧
        k (.c (.rs o (e0 + 8589934592) (T.nadd n m))) (σ.set o (.arr w (e0 + 8589934592) sz (T.fapp l new)))
    | _ => False)
  | _ => False
def vslice (T : Pr) (tb : Tab) (t : TypeId) (x : V) (lo hi : Option V) (σ : St) (k : V → St → Prop) : Prop :=
  match (tb t).d, x with
  | .str, .c (.f (.str s)) =>
    (match lo, hi with
    | none, none => k (.c (.f (.str s))) σ
    | some (.c (.f (.int _ a))), none => T.rng 0 a (T.slen s) ∧ k (.c (.f (.str (T.ssub s a (T.slen s))))) σ
    | none, some (.c (.f (.int _ b))) => T.rng 0 b (T.slen s) ∧ k (.c (.f (.str (T.ssub s 0 b)))) σ
    | some (.c (.f (.int _ a))), some (.c (.f (.int _ b))) => T.rng 0 b (T.slen s) ∧ T.rng 0 a b ∧ k (.c (.f (.str (T.ssub s a b)))) σ
    | _, _ => False)
  | .slice e, .c (.f .nils) => if (tb e).d.isNo = true then False else
    (match lo, hi with
    | some (.c (.f (.int _ a))), none => T.rng 0 a 0 ∧ k (.c (.f .nils)) σ
    | none, some (.c (.f (.int _ b))) => T.rng 0 b 0 ∧ k (.c (.f .nils)) σ
    | some (.c (.f (.int _ a))), some (.c (.f (.int _ b))) => T.rng 0 b 0 ∧ T.rng 0 a b ∧ k (.c (.f .nils)) σ
    | none, none => k (.c (.f .nils)) σ
    | _, _ => False)
  | .slice e, .c (.f (.sl n cs)) => if (tb e).d.isNo = true then False else
    (match lo, hi with
    | some (.c (.f (.int _ a))), none => T.rng 0 a (Int.ofNat n) ∧ k (.c (.f (.sl (T.nsub n (T.toNat a)) (T.fcut cs (T.atp a (tb e).size) (T.atp (Int.ofNat (T.nsub n (T.toNat a))) (tb e).size))))) σ
    | none, some (.c (.f (.int _ b))) => T.rng 0 b (Int.ofNat n) ∧ k (.c (.f (.sl (T.toNat b) (T.fcut cs 0 (T.atp b (tb e).size))))) σ
    | some (.c (.f (.int _ a))), some (.c (.f (.int _ b))) => T.rng 0 b (Int.ofNat n) ∧ T.rng 0 a b ∧
        k (.c (.f (.sl (T.nsub (T.toNat b) (T.toNat a)) (T.fcut cs (T.atp a (tb e).size) (T.atp (Int.ofNat (T.nsub (T.toNat b) (T.toNat a))) (tb e).size))))) σ
    | none, none => k (.c (.f (.sl n cs))) σ
    | _, _ => False)
  | .slice e, .c (.rs o ep n) => if (tb e).d.isNo = true then False else
    (match σ[o]?, lo, hi with
    | some (.arr true e0 sz l), none, some (.c (.f (.int _ b))) => T.eqN ep e0 ∧ T.rng 0 b (Int.ofNat n) ∧ k (.c (.rs o (e0 + 8589934592) (T.toNat b))) (σ.set o (.arr true (e0 + 8589934592) sz (T.fcut l 0 (T.atp b sz))))
    | _, _, _ => False)
  | _, _ => False
def ints : List V → Option (List Int)
  | [] => some []
  | .c (.f (.int _ n)) :: r => (match ints r with | some l => some (n :: l) | none => none)
  | _ => none
def vbytes (T : Pr) (x : V) (σ : St) (k : V → Prop) : Prop :=
  match x with
  | .c (.f .nils) => k (.c (.f (.str [])))
  | .c (.f (.sl n cs)) => T.bytesK cs n fun s => k (.c (.f (.str s)))
  | .c (.rs o e n) =>
    (match σ[o]? with
    | some (.arr _ e0 _ l) => T.eqN e e0 ∧ T.bytesK l n fun s => k (.c (.f (.str s)))
    | _ => False)
  | _ => False
def vconv (T : Pr) (tb : Tab) (s d : TypeId) (x : V) (σ : St) (k : V → St → Prop) : Prop :=
  match (tb s).d, (tb d).d, x with
  | .int _, .int j, .c (.f (.int _ n)) => k (.c (.f (.int j (T.wrap j n)))) σ
  | .int _, .flo, .c (.f (.int _ n)) => k (.c (.f (.flo (T.fofi n)))) σ
  | .flo, .int .i64, .c (.f (.flo b)) => (match T.foi b with | some n => k (.c (.f (.int .i64 n))) σ | none => False)
  | .str, .str, .c (.f (.str x)) => k (.c (.f (.str x))) σ
  | .slice e, .str, x => (match (tb e).d with | .int .u8 => vbytes T x σ fun v => k v σ | _ => False)
  | .str, .slice e, .c (.f (.str x)) => (match (tb e).d with | .int .u8 => T.le (T.toNat (T.slen x)) 9223372036854775807 ∧ T.le e 4294967295 ∧ k (.c (.rs σ.length (e + 4294967296) (T.toNat (T.slen x)))) (σ ++ [.arr true (e + 4294967296) 1 (T.sbytes x)]) | _ => False)
  | _, _, _ => False
def vbi (T : Pr) (tb : Tab) (b : Builtin) (argTypes : Array TypeId) (vals : List V) (σ : St) (k : V → St → Prop) : Prop :=
  match b, vals with
  | .len, [x] => (match argTypes.toList with | [t] => vlen T (tb t).d x σ fun v => k v σ | _ => False)
  | .append, [x, y] =>
    (match argTypes.toList with
    | [t, u] =>
      (match (tb t).d with
      | .slice e => (match (tb e).d with | .no => False | _ => vappend T (tb u).d e (tb e).size (tb e).bytes x y σ k)
      | _ => False)
    | _ => False)
  | .min, .c (.f (.int i a)) :: r => (match ints r with | some l => k (.c (.f (.int i (l.foldl T.imin a)))) σ | none => False)
  | .max, .c (.f (.int i a)) :: r => (match ints r with | some l => k (.c (.f (.int i (l.foldl T.imax a)))) σ | none => False)
  | .complex, [.c (.f (.flo a)), .c (.f (.flo b))] => k (.c (.f (.cpl a b))) σ
  | .real, [.c (.f (.cpl a b))] => k (.c (.f (.flo a))) σ
  | .imag, [.c (.f (.cpl a b))] => k (.c (.f (.flo b))) σ
  | _, _ => False
def vop (T : Pr) (tb : Tab) (o : Op) (fr : Fr) (σ : St) (k : V → St → Prop) : Prop :=
  match o with
  | .move x | .assign x => k (opd fr x) σ
  | .pick c a b => vpick (opd fr c) (opd fr a) (opd fr b) fun v => k v σ
  | .binOp op t x y _ => vbin T (tb t).d op (opd fr x) (opd fr y) fun v => k v σ
  | .unOp op _ x => vun T op (opd fr x) fun v => k v σ
  | .alloc t =>
    (match (tb t).d with
    | .no => False
    | _ => k (.c (.ptr σ.length 0)) (σ ++ [.cells ((tb t).zero.map .f)]))
  | .box _ x =>
    (match (opd fr x).cells with
    | some l => k (.c (.ptr σ.length 0)) (σ ++ [.cells l])
    | none => False)
  | .build t parts =>
    (match (tb t).d with
    | .struct fs => if fs.all (fun p => !(tb p.2).d.isNo) = true then (match vfill tb fs fr parts.toList ((tb t).zero.map .f) with | some l => k (.a l) σ | none => False) else False
    | .array _ e => (match vfillRow (tb e).size fr parts.toList ((tb t).zero.map .f) with | some l => (match (tb e).d with | .no => False | _ => k (.a l) σ) | none => False)
    | _ => False)
  | .buildSlice t n parts =>
    (match (tb t).d with
    | .slice e =>
      (match (tb e).d with
      | .no => False
      | _ => if n * (tb e).size ≤ 16777216 ∧ n ≤ 16777216 ∧ e ≤ 4294967295 then
        (match vfillRow (tb e).size fr parts.toList (rep n ((tb e).zero.map .f)) with
        | some l => vfrzs T l σ fun fs σ' => k (.c (.rs σ'.length (e + 4294967296) n)) (σ' ++ [.arr true (e + 4294967296) (tb e).size fs])
        | none => False) else False)
    | _ => False)
  | .load t a =>
    (match (tb t).d with
    | .no => False
    | _ => vload T (tb t).agg (tb t).size (addr (opd fr a)) σ fun v => k v σ)
  | .store t a x =>
    (match (tb t).d with
    | .no => False
    | _ => vstore T (opd fr a) (opd fr x) (tb t).size σ fun σ' => k (.c .un) σ')
  | .nilCheck x =>
    (match opd fr x with
    | .c (.ptr o off) => k (.c (.ptr o off)) σ
    | .c (.f (.obj cs)) => k (.c (.f (.obj cs))) σ
    | .c (.ep cs off) => k (.c (.ep cs off)) σ
    | .c (.pa o e off) =>
      (match σ[o]? with
      | some (.arr _ e0 _ _) => T.eqN e e0 ∧ k (.c (.pa o e off)) σ
      | _ => False)
    | _ => False)
  | .fieldAddr t x i =>
    (match (tb t).d with
    | .struct fs =>
      (match fs[i]? with
      | some (off, u) => (match (tb u).size with | 0 => False | _ => (match (tb u).d with | .no => False | _ => vfield T (addr (opd fr x)) off σ fun v => k v σ))
      | none => False)
    | _ => False)
  | .field t x i =>
    (match (tb t).d, opd fr x with
    | .struct fs, .a l =>
      (match fs[i]? with
      | some (off, u) =>
        (match (tb u).d with
        | .no => False
        | _ =>
          vpart (tb u).agg l off (tb u).size fun v => k v σ)
      | none => False)
    | _, _ => False)
  | .indexAddr t x i => vindexAddr T tb t (addr (opd fr x)) (opd fr i) σ fun v => k v σ
  | .index t x i => vindex T tb t (opd fr x) (opd fr i) fun v => k v σ
  | .slice t x lo hi none => vslice T tb t (opd fr x) (lo.map (opd fr)) (hi.map (opd fr)) σ k
  | .extract x i =>
    (match opd fr x with
    | .t l => (match l[i]? with | some v => k v σ | none => False)
    | _ => False)
  | .makeFunc (.func f) first captured =>
    (match first.toList with
    | [] => k (.c (.clo f (captured.toList.map fun x => (opd fr x).cap))) σ
    | _ => False)
  | .convert s d x => vconv T tb s d (opd fr x) σ k
  | .call { callee := .builtin b, args, argTypes } => vbi T tb b argTypes (args.toList.map (opd fr)) σ k
  | _ => False
end Go.Dm
namespace Go.Dm
set_option linter.unusedVariables false
abbrev Rs (α : Type) := Option (List α)
def nth {α : Type} : List α → Nat → Option α
  | [], _ => none
  | x :: r, n => match n with | 0 => some x | n + 1 => nth r n
def put {α : Type} : List α → Nat → α → List α
  | [], _, _ => []
  | x :: r, n, v => match n with | 0 => v :: r | n + 1 => x :: put r n v
theorem nth_eq {α : Type} : ∀ (l : List α) (i : Nat), nth l i = l[i]?
  | [], i => by simp [nth]
  | x :: r, 0 => rfl
  | x :: r, i + 1 => by simp [nth, nth_eq r i]
theorem put_eq {α : Type} : ∀ (l : List α) (i : Nat) (v : α), put l i v = l.set i v
  | [], i, v => rfl
  | x :: r, 0, v => rfl
  | x :: r, i + 1, v => by simp [put, put_eq r i v]
def vbool (b : Bool) : V := .c (.f (.bool b))
def vint' (j : IntKind) (n : Int) : V := .c (.f (.int j n))
def sameK : IntKind → IntKind → Bool
  | .i8, .i8 | .i16, .i16 | .i32, .i32 | .i64, .i64 | .u8, .u8 | .u16, .u16 | .u32, .u32 | .u64, .u64 => true
  | _, _ => false
def ieq (a b : Int) : Bool :=
  match a, b with
  | .ofNat a, .ofNat b => Nat.beq a b
  | .negSucc a, .negSucc b => Nat.beq a b
  | _, _ => false
def beqS : List UInt8 → List UInt8 → Bool
  | [], [] => true
  | x :: r, y :: s => (match Nat.beq x.toNat y.toNat with | true => beqS r s | false => false)
  | _, _ => false
mutual
def F.eqb : F → F → Bool
  | .bool a, .bool b => (match a, b with | true, true | false, false => true | _, _ => false)
  | .int k a, .int k' b => sameK k k' && ieq a b
  | .flo a, .flo b => Nat.beq a b
  | .cpl a b, .cpl c d => Nat.beq a c && Nat.beq b d
  | .str a, .str b => beqS a b
  | .nils, .nils | .nilp, .nilp | .nilm, .nilm | .nilf, .nilf => true
  | .sl n l, .sl n' l' => Nat.beq n n' && F.eqbs l l'
  | .obj l, .obj l' => F.eqbs l l'
  | .fn a, .fn b => Nat.beq a b
  | _, _ => false
def F.eqbs : List F → List F → Bool
  | [], [] => true
  | x :: r, y :: s => F.eqb x y && F.eqbs r s
  | _, _ => false
end
theorem beq_nat {a b : Nat} (h : Nat.beq a b = true) : a = b := Nat.eq_of_beq_eq_true h
theorem ble_nat {a b : Nat} (h : Nat.ble a b = true) : a ≤ b := by rwa [Nat.ble_eq] at h
theorem blt_nat {a b : Nat} (h : Nat.blt a b = true) : a < b := by unfold Nat.blt at h; rw [Nat.ble_eq] at h; exact h
theorem nbeq_false {a b : Nat} (h : ¬ a = b) : Nat.beq a b = false := by
  cases hb : Nat.beq a b with
  | true => exact absurd (beq_nat hb) h
  | false => rfl
theorem ieq_eq (a b : Int) : ieq a b = (a == b) := by
  cases a <;> cases b <;> simp only [ieq]
  · rename_i a b
    by_cases h : a = b
    · subst h; rw [Nat.beq_refl]; simp
    · rw [nbeq_false h]; symm; rw [beq_eq_false_iff_ne]; intro e; exact h (by injection e)
  · symm; rw [beq_eq_false_iff_ne]; intro e; cases e
  · symm; rw [beq_eq_false_iff_ne]; intro e; cases e
  · rename_i a b
    by_cases h : a = b
    · subst h; rw [Nat.beq_refl]; simp
    · rw [nbeq_false h]; symm; rw [beq_eq_false_iff_ne]; intro e; exact h (by injection e)
theorem beqS_eq : ∀ (a b : List UInt8), beqS a b = (a == b)
  | [], [] => rfl
  | [], y :: s => rfl
  | x :: r, [] => rfl
  | x :: r, y :: s => by
    simp only [beqS]
    by_cases h : x = y
    · subst h
      rw [Nat.beq_refl]
      simp only [beqS_eq r s]
      simp
    · rw [nbeq_false (fun e => h (UInt8.toNat_inj.1 e))]
      simp [h]
theorem sameK_eq {j k : IntKind} (h : sameK j k = true) : j = k := by cases j <;> cases k <;> first | rfl | (simp [sameK] at h)
def xptrEq (x y : V) : Option Bool :=
  match x, y with
  | .c (.f .nilp), .c (.f .nilp) => some true
  | .c (.f .nilp), .c (.f (.obj _)) | .c (.f .nilp), .c (.ptr _ _) | .c (.f .nilp), .c (.ep _ _) => some false
  | .c (.f (.obj _)), .c (.f .nilp) | .c (.ptr _ _), .c (.f .nilp) | .c (.ep _ _), .c (.f .nilp) => some false
  | .c (.ptr a b), .c (.ptr c d) => (match Nat.beq a c && Nat.beq b d with | true => some true | false => none)
  | _, _ => none
def xrowNil (x : V) (σ : St) : Option (Option Bool) :=
  match x with
  | .c (.f .nils) => some (some true)
  | .c (.f (.sl _ [])) => some none
  | .c (.f (.sl _ (_ :: _))) => some (some false)
  | .c (.rs o e n) =>
    (match nth σ o with
    | some (.arr _ e0 _ l) => (match Nat.beq e e0 with | true => (match l with | [] => some none | _ :: _ => some (some false)) | false => none)
    | _ => none)
  | _ => none
def xneg (op : BinOp) (b : Bool) : Option V :=
  match op with
  | .eql => some (vbool b)
  | .neq => some (vbool (!b))
  | _ => none
def repF (n : Nat) (l : List F) : List F :=
  match n with
  | 0 => []
  | n + 1 => l ++ repF n l
def ieq0 (n : Int) : Bool := match n with | .ofNat n => Nat.beq n 0 | .negSucc _ => false
def inK (k : IntKind) (n : Int) : Bool := decide (k.min ≤ n) && decide (n ≤ k.max)
def matchK : List KK → List F → Bool
  | [], [] => true
  | .b :: r, .bool _ :: s => matchK r s
  | .i k :: r, .int k' n :: s => (match sameK k k' && inK k n with | true => matchK r s | false => false)
  | .s :: r, .str t :: s => (match Nat.ble t.length 9223372036854775807 with | true => matchK r s | false => false)
  | _, _ => false
def extraB (tb : Tab) (o : Op) : Bool :=
  match o with
  | .binOp _ t _ _ _ => (match (tb t).d with | .ptr _ | .slice _ | .struct _ | .array _ _ => true | _ => false)
  | .makeSlice .. => true
  | .makeMap .. => true
  | .alloc t => (match (tb t).d with | .bld _ _ => true | _ => false)
  | .fieldAddr t _ _ => (match (tb t).d with | .bld _ _ => true | _ => false)
  | .convert s d _ => (match (tb s).d, (tb d).d with | .ptr _, .uptr => true | .uptr, .ptr _ => true | _, _ => false)
  | .call { callee := .builtin .cap, .. } => true
  | .call { callee := .builtin .unsafeSliceData, .. } => true
  | .call { callee := .builtin .unsafeString, .. } => true
  | .call { callee := .builtin .append, argTypes, .. } => (match argTypes.toList with | [_, u] => (match (tb u).d with | .int _ => true | _ => false) | _ => false)
  | _ => false
def bytesOf : List F → Option (List UInt8)
  | [] => some []
  | .int .u8 (.ofNat n) :: r => (match Nat.blt n 256, bytesOf r with | true, some l => some (UInt8.ofNat n :: l) | _, _ => none)
  | _ => none
def xaggEq (ks : List KK) (op : BinOp) (x y : V) : Option V :=
  match ks, x, y with
  | k :: ks, .a l, .a l' =>
    (match frz l, frz l' with
    | some fs, some fs' =>
      (match matchK (k :: ks) fs && matchK (k :: ks) fs' with
      | true => xneg op (F.eqbs fs fs')
      | false => none)
    | _, _ => none)
  | _, _, _ => none
def xbuiltin (tb : Tab) (b : Builtin) (vals : List V) (ts : List TypeId) (σ : St) : Rs (V × St) :=
  match b, vals, ts with
    | .cap, [.c (.f .nils)], [t] => (match (tb t).d with | .slice _ => some [(vint' .i64 0, σ)] | _ => none)
    | .unsafeSliceData, [.c (.f .nils)], _ => some [(.c (.f .nilp), σ)]
    | .unsafeSliceData, [.c (.rs o e n)], _ =>
      (match nth σ o with
      | some (.arr _ e0 sz (_ :: _)) => (match Nat.beq e e0 && Nat.blt 0 sz with | true => some [(.c (.pa o e 0), σ)] | false => none)
      | some (.arr _ e0 _ []) => (match Nat.beq e e0 && Nat.beq (Nat.mod (Nat.div e 4294967296) 2) 0 with | true => some [(.c (.f .nilp), σ), (.c (.ep [] 0), σ)] | false => none)
      | _ => none)
    | .unsafeString, [.c (.ep _ _), .c (.f (.int .i64 n))], [_, _] => (match ieq0 n with | true => some [(.c (.f (.str [])), σ)] | false => none)
    | .unsafeString, [.c (.f .nilp), .c (.f (.int .i64 n))], [_, _] => (match ieq0 n with | true => some [(.c (.f (.str [])), σ)] | false => none)
    | .unsafeString, [.c (.pa o e 0), .c (.f (.int .i64 (.ofNat n)))], [t, _] =>
      (match (tb t).d, nth σ o with
      | .ptr u, some (.arr _ e0 sz l) =>
        (match (tb u).d, Nat.beq e e0 && Nat.beq n l.length && Nat.beq sz 1 && Nat.beq (Nat.mod e 4294967296) u && Nat.beq (tb u).size 1, bytesOf l with
        | .int .u8, true, some s => some [(.c (.f (.str s)), put σ o (match Nat.beq (Nat.mod (Nat.div e 4294967296) 2) 0 with | true => .arr false e0 sz l | false => .gone))]
        | _, _, _ => none)
      | _, _ => none)
    | .append, [.c (.f .nils), .c (.f (.int .i64 (.ofNat n)))], [t, u] =>
      (match (tb t).d, (tb u).d with
      | .slice e, .int _ =>
        (match (tb e).d.isNo, Nat.blt 0 n && Nat.ble n 16777216 && Nat.ble (n * (tb e).bytes) 16777216 && Nat.ble e 4294967295 with
        | false, true => some [(.c (.rs σ.length e n), σ ++ [.arr true e (tb e).size (repF n (tb e).zero)])]
        | _, _ => none)
      | _, _ => none)
    | _, _, _ => none
def xextra (tb : Tab) (o : Op) (ρ : Operand → V) (σ : St) : Rs (V × St) :=
  match o with
  | .binOp op t x y _ =>
    (match (tb t).d with
    | .ptr e =>
      (match xptrEq (ρ x) (ρ y), (tb e).d.isNo, Nat.blt 0 (tb e).size with
      | some b, false, true => (match xneg op b with | some v => some [(v, σ)] | none => none)
      | _, _, _ => none)
    | .slice _ =>
      (match ρ y with
      | .c (.f .nils) =>
        (match xrowNil (ρ x) σ with
        | some (some b) => (match xneg op b with | some v => some [(v, σ)] | none => none)
        | some none => (match xneg op true, xneg op false with | some v, some u => some [(v, σ), (u, σ)] | _, _ => none)
        | none => none)
      | _ => none)
    | .struct _ | .array _ _ =>
      (match xaggEq (tb t).key op (ρ x) (ρ y) with | some v => some [(v, σ)] | none => none)
    | _ => none)
  | .makeSlice t a b =>
    (match (tb t).d, ρ a, ρ b with
    | .slice e, .c (.f (.int _ (.ofNat n))), .c (.f (.int _ (.ofNat m))) =>
      (match (tb e).d.isNo, Nat.beq n m && Nat.ble n 16777216 && Nat.ble (n * (tb e).bytes) 16777216 && Nat.blt 0 (tb e).size && Nat.ble e 4294967295 with
      | false, true => some [(.c (.rs σ.length (e + 4294967296) n), σ ++ [.arr true (e + 4294967296) (tb e).size (repF n (tb e).zero)])]
      | _, _ => none)
    | _, _, _ => none)
  | .makeMap t r => (match r with | none => some [(.c (.mp σ.length), σ ++ [.map []])] | some _ => none)
  | .alloc t => (match (tb t).d, (tb t).zero with | .bld _ sa, [.nilp, .nils] => (match (tb sa).d with | .slice el => some [(.c (.ptr σ.length 0), σ ++ [.bld t false (.rs (σ.length + 1) el 0), .arr true el 1 []])] | _ => none) | _, _ => none)
  | .fieldAddr t x i =>
    (match (tb t).d, ρ x with
    | .bld a b, .c (.ptr o 0) =>
      (match i with
      | 0 => (match (tb a).d.isNo, Nat.blt 0 (tb a).size with | false, true => some [(.c (.ptr o 0), σ)] | _, _ => none)
      | 1 => (match (tb b).d.isNo, Nat.blt 0 (tb b).size with | false, true => some [(.c (.ptr o 1), σ)] | _, _ => none)
      | _ => none)
    | _, _ => none)
  | .convert s d x =>
    (match ρ x with
    | .c (.ptr o 0) =>
      (match nth σ o with
      | some (.bld T _ _) =>
        (match (tb s).d, (tb d).d with
        | .ptr e, .uptr => (match Nat.beq e T && Nat.blt 0 (tb T).size, (tb T).d with | true, .bld _ _ => some [(.c (.ptr o 0), σ)] | _, _ => none)
        | .uptr, .ptr e => (match Nat.beq e T && Nat.blt 0 (tb T).size, (tb T).d with | true, .bld _ _ => some [(.c (.ptr o 0), σ)] | _, _ => none)
        | _, _ => none)
      | _ => none)
    | _ => none)
  | .call { callee := .builtin b, args, argTypes } => xbuiltin tb b (args.toList.map ρ) argTypes.toList σ
  | _ => none
def vextra (tb : Tab) (o : Op) (fr : Fr) (σ : St) (k : V → St → Prop) : Prop :=
  ∃ l, xextra tb o (opd fr) σ = some l ∧ ∀ p ∈ l, k p.1 p.2
def vop2 (T : Pr) (tb : Tab) (o : Op) (fr : Fr) (σ : St) (k : V → St → Prop) : Prop :=
  match extraB tb o with
  | true => vextra tb o fr σ k
  | false => vop T tb o fr σ k
end Go.Dm
namespace Go.Dm
set_option linter.unusedVariables false
def fval : F → Value
  | .bool b => .bool b
  | .int k n => .int k n
  | .str s => .string ⟨s.toArray⟩
  | _ => undef
def flatF (fk : TypeId → Option (List KK)) (P : Program) : Nat → List Field → Option (List KK)
  | _, [] => some []
  | off, f :: r =>
    match fk f.type with
    | none => none
    | some ks => if f.offset = off ∧ ks.length = P.cellsOf f.type then (match flatF fk P (off + ks.length) r with | some l => some (ks ++ l) | none => none) else none
def repK : Nat → List KK → List KK
  | 0, _ => []
  | n + 1, l => l ++ repK n l
def flatK (P : Program) : Nat → TypeId → Option (List KK)
  | 0, _ => none
  | d + 1, t =>
    match P.underlying t with
    | some .bool => some [.b]
    | some (.int q) => some [.i q]
    | some .string => some [.s]
    | some (.array n e) =>
      (match flatK P d e with
      | some ks => if ks.length = P.cellsOf e ∧ n * ks.length = P.cellsOf t then some (repK n ks) else none
      | none => none)
    | some (.struct fs) =>
      (match flatF (flatK P d) P 0 fs.toList with
      | some ks => if ks.length = P.cellsOf t ∧ (fs.all (·.name != "_")) = true then some ks else none
      | none => none)
    | _ => none
theorem FitK.length : ∀ {ks : List KK} {vs : List Value}, FitK ks vs → vs.length = ks.length
  | [], [], _ => rfl
  | [], v :: s, h => by simp [FitK] at h
  | k :: r, [], h => by cases k <;> simp [FitK] at h
  | k :: r, v :: s, h => by
    have : FitK r s := by cases k <;> cases v <;> simp [FitK] at h <;> first | exact h | exact h.2 | exact h.2.2
    simp [FitK.length this]
theorem FitK.append_iff : ∀ {ks ks' : List KK} {vs : List Value}, FitK (ks ++ ks') vs → FitK ks (vs.take ks.length) ∧ FitK ks' (vs.drop ks.length)
  | [], ks', vs, h => by simp only [List.nil_append] at h; simp [FitK]; exact h
  | k :: r, ks', [], h => by cases k <;> simp [FitK] at h
  | k :: r, ks', v :: s, h => by
    have key : FitK (r ++ ks') s ∧ ∀ {l}, FitK r l → FitK (k :: r) (v :: l) := by
      cases k <;> cases v <;> simp [FitK] at h <;> first
        | exact ⟨h, fun hl => hl⟩
        | exact ⟨h.2, fun hl => ⟨h.1, hl⟩⟩
        | exact ⟨h.2.2, fun hl => ⟨h.1, h.2.1, hl⟩⟩
    obtain ⟨h1, h2⟩ := FitK.append_iff key.1
    exact ⟨by simpa using key.2 h1, by simpa using h2⟩
theorem FitK.rep : ∀ {n : Nat} {ks : List KK} {vs : List Value}, FitK (repK n ks) vs → ∀ i, i < n → FitK ks ((vs.drop (i * ks.length)).take ks.length)
  | 0, ks, vs, h, i, hi => by omega
  | n + 1, ks, vs, h, i, hi => by
    obtain ⟨h1, h2⟩ := FitK.append_iff h
    cases i with
    | zero => simpa using h1
    | succ i =>
      have := FitK.rep h2 i (by omega)
      rw [List.drop_drop] at this
      rw [show (i + 1) * ks.length = ks.length + i * ks.length from by rw [Nat.add_mul]; omega]
      exact this
theorem mapM_some {α β : Type} {f : α → Option β} : ∀ {l : List α}, (∀ x ∈ l, ∃ y, f x = some y) → ∃ ys, l.mapM f = some ys
  | [], _ => ⟨[], rfl⟩
  | x :: r, h => by
    obtain ⟨y, hy⟩ := h x (by simp)
    obtain ⟨ys, hys⟩ := mapM_some (l := r) fun z hz => h z (List.mem_cons_of_mem _ hz)
    exact ⟨y :: ys, by rw [List.mapM_cons, hy, hys]; rfl⟩
theorem repK_len (n : Nat) (ks : List KK) : (repK n ks).length = n * ks.length := by
  induction n with
  | zero => simp [repK]
  | succ n ih => simp [repK, ih, Nat.add_mul, Nat.add_comm]
section
variable {P : Program}
theorem fields_fit {fk : TypeId → Option (List KK)} {vs : List Value} : ∀ {fs : List Field} {off : Nat} {ks : List KK}, flatF fk P off fs = some ks → FitK ks (vs.drop off) →
    ∀ f ∈ fs, ∃ k, fk f.type = some k ∧ FitK k ((vs.drop f.offset).take (P.cellsOf f.type))
  | [], off, ks, h, hf, f, hm => by simp at hm
  | f0 :: r, off, ks, h, hf, f, hm => by
    simp only [flatF] at h
    split at h
    · cases h
    · rename_i k0 hk
      split at h
      · rename_i hc
        split at h
        · rename_i l hl
          cases h
          obtain ⟨h1, h2⟩ := FitK.append_iff hf
          rw [List.drop_drop] at h2
          rcases List.mem_cons.1 hm with rfl | hm
          · exact ⟨k0, hk, by rw [hc.1, ← hc.2]; exact h1⟩
          · exact fields_fit hl h2 f hm
        · cases h
      · cases h
theorem keyLits_of : ∀ (d : Nat) {t : TypeId} {ks : List KK}, flatK P d t = some ks → ∀ (D : Nat), d ≤ D → ∀ (vs : List Value), FitK ks vs → ∃ L, P.keyLits D t vs = some L
  | 0, t, ks, h, D, hD, vs, hf => by simp [flatK] at h
  | d + 1, t, ks, h, 0, hD, vs, hf => by omega
  | d + 1, t, ks, h, D + 1, hD, vs, hf => by
    unfold flatK at h
    unfold Program.keyLits
    split at h
    · rename_i hu
      cases h
      match vs, hf with
      | [.bool y], _ => exact ⟨[.bool y], by simp only [hu]⟩
    · rename_i q hu
      cases h
      match vs, hf with
      | [.int k n], ⟨e, hw, _⟩ => exact ⟨[.int q n], by simp only [hu]; subst e; rw [if_pos ⟨rfl, hw⟩]⟩
    · rename_i hu
      cases h
      match vs, hf with
      | [.string s], ⟨hw, _⟩ => exact ⟨_, by simp only [hu]; rw [if_pos hw]⟩
    · rename_i n e hu
      split at h
      · rename_i k hk
        split at h
        · rename_i hc
          cases h
          simp only [hu]
          have hl := hf.length
          rw [repK_len] at hl
          rw [if_pos (by rw [hl]; exact hc.2)]
          obtain ⟨ys, hys⟩ := mapM_some (f := fun i => P.keyLits D e ((vs.drop (i * P.cellsOf e)).take (P.cellsOf e))) (l := List.range n) fun i hi => by
            have := FitK.rep hf i (List.mem_range.1 hi)
            rw [hc.1] at this
            exact keyLits_of d hk D (by omega) _ this
          exact ⟨ys.flatten, by rw [hys]; rfl⟩
        · cases h
      · cases h
    · rename_i fs hu
      split at h
      · rename_i k hk
        split at h
        · rename_i hc
          cases h
          simp only [hu]
          have hl := hf.length
          rw [if_pos ⟨by rw [hl]; exact hc.1, hc.2⟩]
          obtain ⟨ys, hys⟩ := mapM_some (f := fun f : Field => P.keyLits D f.type ((vs.drop f.offset).take (P.cellsOf f.type))) (l := fs.toList) fun f hm => by
            obtain ⟨kk, h1, h2⟩ := fields_fit hk (vs := vs) (by simpa using hf) f hm
            exact keyLits_of d h1 D (by omega) _ h2
          exact ⟨ys.flatten, by rw [hys]; rfl⟩
        · cases h
      · cases h
    · cases h
def keyB (P : Program) (t : TypeId) (ks : List KK) : Bool :=
  match flatK P 20 t with
  | some l => decide (l.length = ks.length) && (l.zip ks).all (fun p => match p with | (.b, .b) => true | (.i a, .i b) => sameK a b | (.s, .s) => true | _ => false) &&
      decide (20 ≤ P.types.size) && P.keyTypeAt 20 t && P.keyType t && P.tiled 20 t && !P.eqGuardType P.depth t && (!wideB P t || decide (ks.length = P.cellsOf t))
  | none => false
theorem zipK : ∀ {l ks : List KK}, l.length = ks.length → (l.zip ks).all (fun p => match p with | (.b, .b) => true | (.i a, .i b) => sameK a b | (.s, .s) => true | _ => false) = true → l = ks
  | [], [], _, _ => rfl
  | a :: r, y :: s, hl, h => by
    simp only [List.zip_cons_cons, List.all_cons, Bool.and_eq_true] at h
    rw [zipK (by simpa using hl) h.2]
    cases a <;> cases y <;> simp at h <;> first | rfl | (rw [sameK_eq h.1])
  | [], y :: s, hl, _ => by simp at hl
  | a :: r, [], hl, _ => by simp at hl
theorem keyB_ok {t : TypeId} {ks : List KK} (h : keyB P t ks = true) : KeyOk P t ks := by
  unfold keyB at h
  split at h
  · rename_i l hl
    simp only [Bool.and_eq_true, decide_eq_true_eq, Bool.not_eq_true', Bool.or_eq_true] at h
    obtain ⟨⟨⟨⟨⟨⟨⟨h1, h2⟩, h3⟩, h4⟩, h5⟩, h6⟩, h7⟩, h8⟩ := h
    have e := zipK h1 h2
    subst e
    have hlits : wideB P t = true → ∀ vs : List Value, FitK l vs → ∃ k, keyOf P t (.agg vs.toArray) = some k := fun hw vs hf => by
      obtain ⟨L, hL⟩ := keyLits_of 20 hl (P.types.size + 1) (by omega) vs hf
      have hlen := hf.length
      have hc : l.length = P.cellsOf t := by
        rcases h8 with h8 | h8
        · rw [hw] at h8; cases h8
        · exact h8
      unfold keyOf
      unfold wideB at hw
      split at hw
      · rename_i n e hu
        simp only [hu]
        rw [if_pos (by simp [h5, Value.formed, hu, hlen, hc])]
        exact ⟨_, by simp only [Value.cells]; rw [hL]; rfl⟩
      · rename_i fs hu
        simp only [hu]
        rw [if_pos (by simp [h5, Value.formed, hu, hlen, hc])]
        exact ⟨_, by simp only [Value.cells]; rw [hL]; rfl⟩
      · cases hw
    refine ⟨?_, hlits, h7, fun hw w us vs hu hv => ?_⟩
    · cases hw : wideB P t with
      | false => exact .inr rfl
      | true => exact .inl (deep_law (m := 20) (by omega) h4 h6 hw)
    · obtain ⟨a, ha⟩ := hlits hw us hu
      obtain ⟨y, hy⟩ := hlits hw vs hv
      have K := deep_law (m := 20) (by omega) h4 h6 hw
      obtain ⟨r, hr, hiff⟩ := run_equal_deep w (m := 20) (by omega) h4 hw ha hy
      refine ⟨r, hr, hiff.trans ⟨fun e => ?_, fun e => ?_⟩⟩
      · subst e
        have := K.inj ha hy
        simpa using this
      · subst e
        rw [ha] at hy
        exact Option.some.inj hy
  · cases h
end
end Go.Dm
namespace Go.Dm
set_option linter.unusedVariables false
set_option linter.unusedSimpArgs false
def FrRep (g : G) (w : World) (σ : St) (fr : Fr) (tmps : Array Value) : Prop :=
  fr.length = tmps.size ∧ ∀ i, VRep g w σ (fr.getD i (.c .un)) (tmps.getD i undef)
theorem FrRep.turn {g g' : G} {w w' : World} {σ σ' : St} (h : Turn g w σ g' w' σ') {fr : Fr} {tmps : Array Value} (hf : FrRep g w σ fr tmps) : FrRep g' w' σ' fr tmps :=
  ⟨hf.1, fun i => VRep.turn h _ _ (hf.2 i)⟩
theorem ofConst_rep (g : G) (w : World) (σ : St) (v : Value) : VRep g w σ (ofConst v) v := by
  unfold ofConst
  split <;> simp [VRep, CRep, FRep]
theorem opd_rep {g : G} {w : World} {σ : St} {fr : Fr} {a : Act} (hf : FrRep g w σ fr a.tmps) (x : Operand) : VRep g w σ (opd fr x) (a.eval x) := by
  cases x with
  | tmp t => exact hf.2 t
  | const v => exact ofConst_rep g w σ v
  | global i => trivial
  | func f => simp [opd, Act.eval, VRep, CRep, FRep]
def Good (P : Program) (o : Oper) (a : Act) (g : G) (w : World) (σ : St) (k : V → St → Prop) : Prop :=
  ∃ r σ' g' w' v nx, (execOp a.eval o).run P w = .ok nx w' ∧ (nx = .value v ∨ (nx = .skip ∧ v = undef)) ∧ k r σ' ∧ Rep g' w' σ' ∧ Turn g w σ g' w' σ' ∧ VRep g' w' σ' r v
theorem same_iff {j j' : IntKind} {p : Prop} (h : same j j' p) : j = j' ∧ p := by
  cases j <;> cases j' <;> simp_all [same]
section
variable {g : G} {w : World} {σ : St} {v : Value}
theorem rep_int {k : IntKind} {n : Int} (h : VRep g w σ (.c (.f (.int k n))) v) : v = .int k n := h
theorem rep_bool {b : Bool} (h : VRep g w σ (.c (.f (.bool b))) v) : v = .bool b := h
theorem rep_str {s : List UInt8} (h : VRep g w σ (.c (.f (.str s))) v) : v = .string ⟨s.toArray⟩ := h
theorem rep_flo {b : Nat} (h : VRep g w σ (.c (.f (.flo b))) v) : v = .float .f64 b := h
theorem rep_cpl {a b : Nat} (h : VRep g w σ (.c (.f (.cpl a b))) v) : v = .complex .f64 a b := h
end
theorem zval_rep {g : G} {w : World} {x : F} (h : plain x = true) : FRep g w x (zval x) := by
  cases x <;> simp_all [plain, zval, FRep]
theorem run_int {P : Program} {w : World} {op : BinOp} {t : TypeId} {j : IntKind} {a b : Int} (hs : op ≠ .shl ∧ op ≠ .shr) {k : V → Prop} (h : vint prims op j a b k) :
    ∃ x : F, (binOp op t (.int j a) (.int j b)).run P w = .ok (zval x) w ∧ k (.c (.f x)) ∧ plain x = true := by
  cases op <;> simp only [vint] at h <;> try exact h.elim
  case quo =>
    have h0 : b ≠ 0 := h.1
    exact ⟨_, by simp [binOp, Op.intDiv, h0]; rfl, h.2, rfl⟩
  case rem =>
    have h0 : b ≠ 0 := h.1
    exact ⟨_, by simp [binOp, Op.intDiv, h0]; rfl, h.2, rfl⟩
  all_goals exact ⟨_, by simp only [binOp, ne_eq, not_true_eq_false, if_false, Op.intArith, Op.intBits, Op.intCmp]; rfl, h, rfl⟩
theorem run_shift {P : Program} {w : World} {op : BinOp} {t : TypeId} {j j' : IntKind} {a b : Int} (hs : op = .shl ∨ op = .shr) (h : 0 ≤ b) :
    (binOp op t (.int j a) (.int j' b)).run P w = .ok (.int j (barith op j a b)) w := by
  have h' : ¬ b < 0 := by omega
  rcases hs with rfl | rfl <;> simp [binOp, Op.shift, barith, h']
theorem str_size (a : List UInt8) : (ByteArray.mk a.toArray).size = a.length := rfl
section
variable {P : Program} {w : World} {op : BinOp} {t : TypeId} {x y : Operand} {v : Value}
theorem guard_int {k : IntKind} {n : Int} : (eqGuard op t x y (.int k n) v).run P w = .ok () w := by unfold eqGuard; simp
theorem guard_bool {b : Bool} : (eqGuard op t x y (.bool b) v).run P w = .ok () w := by unfold eqGuard; simp
theorem guard_str {b : ByteArray} : (eqGuard op t x y (.string b) v).run P w = .ok () w := by unfold eqGuard; simp
theorem guard_flo {k : FloatKind} {b : Nat} : (eqGuard op t x y (.float k b) v).run P w = .ok () w := by unfold eqGuard; simp
theorem guard_cpl {k : FloatKind} {a b : Nat} : (eqGuard op t x y (.complex k a b) v).run P w = .ok () w := by unfold eqGuard; simp
end
theorem run_fcmp {P : Program} {w : World} {op : BinOp} {t : TypeId} {a b : Nat} (h : op = .eql ∨ op = .neq ∨ op = .lss ∨ op = .leq ∨ op = .gtr ∨ op = .geq) :
    (binOp op t (.float .f64 a) (.float .f64 b)).run P w = .ok (.bool (bfcmp op a b)) w := by
  rcases h with rfl | rfl | rfl | rfl | rfl | rfl
  · rw [binOp_float_cmp_eql]; rfl
  · rw [binOp_float_cmp_neq]; rfl
  · rw [binOp_float_cmp_lss]; rfl
  · rw [binOp_float_cmp_leq]; rfl
  · rw [binOp_float_cmp_gtr]; rfl
  · rw [binOp_float_cmp_geq]; rfl
theorem run_ceq {P : Program} {w : World} {t : TypeId} {a b c d : Nat} :
    (binOp .eql t (.complex .f64 a b) (.complex .f64 c d)).run P w = .ok (.bool (bfcmp .eql a c && bfcmp .eql b d)) w := by
  simp only [binOp, Op.complexOp, Op.Complex.cmp, Op.floatCmp, bfcmp]
  cases hx : (FloatKind.f64.format.order a c == some Ordering.eq) <;> simp [asBool, hx]
theorem run_cne {P : Program} {w : World} {t : TypeId} {a b c d : Nat} :
    (binOp .neq t (.complex .f64 a b) (.complex .f64 c d)).run P w = .ok (.bool (!(bfcmp .eql a c && bfcmp .eql b d))) w := by
  simp only [binOp, Op.complexOp, Op.Complex.cmp, Op.floatCmp, bfcmp]
  cases hx : (FloatKind.f64.format.order a c == some Ordering.eq) <;> simp [asBool, hx]
theorem run_beq {P : Program} {w : World} {t : TypeId} (ht : P.underlying t = some .bool) {a b : Bool} : (binOp .eql t (.bool a) (.bool b)).run P w = .ok (.bool (a == b)) w := by
  have h : (Op.equal t (.bool a) (.bool b)).run P w = .ok (a == b) w := by
    show (Op.equalIn (9999 + 1) t (.bool a) (.bool b)).run P w = _
    rw [Op.equalIn]
    simp [run_underlying ht]
  simp only [binOp, Sem.run_bind, h, Result.andThen, Sem.run_pure]
theorem run_bne {P : Program} {w : World} {t : TypeId} (ht : P.underlying t = some .bool) {a b : Bool} : (binOp .neq t (.bool a) (.bool b)).run P w = .ok (.bool (!(a == b))) w := by
  have h : (Op.equal t (.bool a) (.bool b)).run P w = .ok (a == b) w := by
    show (Op.equalIn (9999 + 1) t (.bool a) (.bool b)).run P w = _
    rw [Op.equalIn]
    simp [run_underlying ht]
  simp only [binOp, Sem.run_bind, h, Result.andThen, Sem.run_pure]
theorem bin_ok {P : Program} {g : G} {w : World} {σ : St} {op : BinOp} {t : TypeId} {d : TD} (hd : d.fits P t) {x y : V} {u v : Value} {X Y : Operand} {k : V → Prop}
    (hx : VRep g w σ x u) (hy : VRep g w σ y v) (h : vbin prims d op x y k) :
    ∃ z : F, (do eqGuard op t X Y u v; binOp op t u v : Sem Value).run P w = .ok (zval z) w ∧ k (.c (.f z)) ∧ plain z = true := by
  unfold vbin at h
  split at h
  · -- ints
    rename_i j a j' b
    have hg := @guard_int P w op t X Y
    have e1 := rep_int hx; have e2 := rep_int hy; subst e1 e2
    by_cases hs : op = .shl ∨ op = .shr
    · rcases hs with rfl | rfl
      · exact ⟨_, by simp only [Sem.run_bind, hg, Result.andThen, run_shift (.inl rfl) h.1]; rfl, h.2, rfl⟩
      · exact ⟨_, by simp only [Sem.run_bind, hg, Result.andThen, run_shift (.inr rfl) h.1]; rfl, h.2, rfl⟩
    · have hs' : op ≠ .shl ∧ op ≠ .shr := ⟨fun e => hs (.inl e), fun e => hs (.inr e)⟩
      have h' : same j j' (vint prims op j a b k) := by
        revert h; cases op <;> simp_all
      obtain ⟨rfl, h2⟩ := same_iff h'
      obtain ⟨z, h3, h4, h5⟩ := run_int (P := P) (w := w) (t := t) hs' h2
      exact ⟨z, by simp only [Sem.run_bind, hg, Result.andThen, h3], h4, h5⟩
  · -- bools
    have hg := @guard_bool P w op t X Y
    have e1 := rep_bool hx; have e2 := rep_bool hy; subst e1 e2
    split at h
    · exact ⟨_, by simp only [Sem.run_bind, hg, Result.andThen, run_beq hd]; rfl, h, rfl⟩
    · exact ⟨_, by simp only [Sem.run_bind, hg, Result.andThen, run_bne hd]; rfl, h, rfl⟩
    · exact h.elim
  · -- texts
    have hg := @guard_str P w op t X Y
    rename_i a b
    have e1 := rep_str hx; have e2 := rep_str hy; subst e1 e2
    split at h
    · have h1 : a.length + b.length ≤ 9223372036854775807 := h.1
      have hn : ¬ ((((ByteArray.mk a.toArray).size + (ByteArray.mk b.toArray).size : Nat) : Int) > IntKind.i64.max) := by
        rw [str_size, str_size, show IntKind.i64.max = 9223372036854775807 from rfl]; omega
      refine ⟨.str (a ++ b), ?_, h.2, rfl⟩
      simp only [Sem.run_bind, hg, Result.andThen, binOp, Op.stringOp]
      rw [if_neg hn, ByteArray.mk_append_mk]
      rfl
    all_goals first
      | exact h.elim
      | exact ⟨_, by simp only [Sem.run_bind, hg, Result.andThen, binOp, Op.stringOp, ByteArray.toList_mk]; rfl, h, rfl⟩
  · have hg := @guard_flo P w op t X Y
    have e1 := rep_flo hx; have e2 := rep_flo hy; subst e1 e2
    split at h
    case h_7 =>
      split at h
      · rename_i r hr
        exact ⟨_, by simp only [Sem.run_bind, hg, Result.andThen, run_float_arith w .add t .f64 _ _ _ hr]; rfl, h, rfl⟩
      · exact h.elim
    case h_8 =>
      split at h
      · rename_i r hr
        exact ⟨_, by simp only [Sem.run_bind, hg, Result.andThen, run_float_arith w .sub t .f64 _ _ _ hr]; rfl, h, rfl⟩
      · exact h.elim
    all_goals first
      | exact h.elim
      | exact ⟨_, by simp only [Sem.run_bind, hg, Result.andThen]; rw [run_fcmp (by simp)]; rfl, h, rfl⟩
  · have hg := @guard_cpl P w op t X Y
    rename_i a b c e
    have e1 := rep_cpl hx; have e2 := rep_cpl hy; subst e1 e2
    split at h
    · split at h
      · rename_i r hr
        split at h
        · rename_i i hi
          have hc : cSumBits .add .f64 a b c e = some (r, i) := by unfold cSumBits; simp only [prims] at hr hi; rw [hr, hi]; rfl
          exact ⟨_, by simp only [Sem.run_bind, hg, Result.andThen, run_complex_sum w .add (.inl rfl) t .f64 _ _ _ _ _ _ hc]; rfl, h, rfl⟩
        · exact h.elim
      · exact h.elim
    · split at h
      · rename_i r hr
        split at h
        · rename_i i hi
          have hc : cSumBits .sub .f64 a b c e = some (r, i) := by unfold cSumBits; simp only [prims] at hr hi; rw [hr, hi]; rfl
          exact ⟨_, by simp only [Sem.run_bind, hg, Result.andThen, run_complex_sum w .sub (.inr rfl) t .f64 _ _ _ _ _ _ hc]; rfl, h, rfl⟩
        · exact h.elim
      · exact h.elim
    · exact ⟨_, by simp only [Sem.run_bind, hg, Result.andThen, run_ceq]; rfl, h, rfl⟩
    · exact ⟨_, by simp only [Sem.run_bind, hg, Result.andThen, run_cne]; rfl, h, rfl⟩
    · exact h.elim
  · exact h.elim
end Go.Dm
namespace Go.Dm
set_option linter.unusedVariables false
set_option linter.unusedSimpArgs false
theorem add_addr (b off i : Nat) : (⟨b, off, none⟩ : Addr).add i = ⟨b, off + i, none⟩ := by
  unfold Addr.add; split
  · rename_i h; subst h; rfl
  · rfl
theorem run_loadFrom {P : Program} {w : World} {b off : Nat} : ∀ (vs : List Value) (i : Nat) (acc : Array Value), (∀ j (h : j < vs.length), w.cell? ⟨b, off + (i + j), none⟩ = some vs[j]) →
    (loadCellsFrom ⟨b, off, none⟩ i vs.length acc).run P w = .ok (acc ++ vs.toArray) w
  | [], i, acc, _ => by simp [loadCellsFrom]
  | v :: r, i, acc, h => by
    have h0 := h 0 (by simp)
    simp only [List.getElem_cons_zero, Nat.add_zero] at h0
    have hr := run_loadFrom (P := P) r (i + 1) (acc.push v) (fun j hj => by
      have := h (j + 1) (by simpa using hj)
      rw [show off + (i + 1 + j) = off + (i + (j + 1)) from by omega]
      simpa using this)
    simp only [List.length_cons, loadCellsFrom, load, add_addr, Sem.run_bind, Sem.run, h0, Result.andThen]
    rw [hr]
    simp
theorem run_loadCells' {P : Program} {w : World} {b off : Nat} (vs : List Value) (h : ∀ j (h : j < vs.length), w.cell? ⟨b, off + j, none⟩ = some vs[j]) :
    (loadCells ⟨b, off, none⟩ vs.length).run P w = .ok vs.toArray w := by
  have := run_loadFrom (P := P) (w := w) (b := b) (off := off) vs 0 #[] (fun j hj => by rw [show off + (0 + j) = off + j from by omega]; exact h j hj)
  simpa [loadCells] using this
section
variable {P : Program} {tb : Tab} {t : TypeId}
theorem run_isAgg (h : (tb t).Ok P t) (hd : (tb t).d ≠ .no) (w : World) : (isAgg t).run P w = .ok (tb t).agg w := by
  have hf := h.fits
  unfold isAgg TI.agg
  cases hx : (tb t).d with
  | no => exact (hd hx).elim
  | struct fs => rw [hx] at hf; obtain ⟨fields, h1, _⟩ := hf; simp [run_underlying h1]
  | bld a b => rw [hx] at hf; obtain ⟨fields, h1, _⟩ := hf; simp [run_underlying h1]
  | fn => rw [hx] at hf; obtain ⟨a, b, c, h1⟩ := hf; simp [run_underlying h1]
  | _ => rw [hx] at hf; simp [run_underlying hf]
theorem run_sizeOf (h : (tb t).Ok P t) (hd : (tb t).d ≠ .no) (w : World) : (sizeOf t).run P w = .ok (tb t).size w := by
  rcases h.info with h0 | ⟨j, h1, h2, _⟩
  · exact (hd h0).elim
  · simp [sizeOf, typeInfo, h1, h2]
theorem run_zero (h : (tb t).Ok P t) (hd : (tb t).d ≠ .no) (w : World) : ∃ z, (zeroValue t).run P w = .ok z w ∧ z.cells.toList = (tb t).zero.map zval := by
  rcases h.info with h0 | ⟨j, h1, h2, h3, ⟨z, h4, h5, h6⟩, _⟩
  · exact (hd h0).elim
  · exact ⟨z, by simp [zeroValue, typeInfo, h1, h4], h5⟩
theorem zero_len (h : (tb t).Ok P t) (hd : (tb t).d ≠ .no) : (tb t).zero.length = (tb t).size := by
  rcases h.info with h0 | ⟨j, h1, h2, h3, h4, h5, h6⟩
  · exact (hd h0).elim
  · exact h6
theorem zero_plain (h : (tb t).Ok P t) (hd : (tb t).d ≠ .no) : (tb t).zero.all plain = true := by
  rcases h.info with h0 | ⟨j, h1, h2, h3, h4, h5, h6⟩
  · exact (hd h0).elim
  · exact h5
end
theorem zero_reps {g : G} {w : World} {σ : St} : ∀ {l : List F}, l.all plain = true → CReps g w σ (l.map .f) (l.map zval)
  | [], _ => rfl
  | x :: r, h => by
    simp only [List.all_cons, Bool.and_eq_true] at h
    exact ⟨zval x, r.map zval, rfl, zval_rep h.1, zero_reps h.2⟩
theorem cell_of {w : World} {b o : Nat} {vs : Array Value} {T : TypeId} {fz : Nat × Nat} (h : w.heap[b]? = some (.cells vs T fz)) : w.cell? ⟨b, o, none⟩ = vs.toList[o]? := by
  simp [World.cell?, h]
theorem cut_spec {l r : List C} {off n : Nat} (h : cut l off n = some r) : off + n ≤ l.length ∧ r = (l.drop off).take n := by
  unfold cut at h
  split at h
  · rename_i h1; cases h; exact ⟨h1, rfl⟩
  · cases h
theorem loadAt_ptr {P : Program} {t : TypeId} {b off : Nat} {w : World} : (Instr.loadAt t (.pointer (some ⟨b, off, none⟩))).run P w = (loadVar t ⟨b, off, none⟩).run P w := by
  simp [Instr.loadAt, Instr.sureAddr]
theorem run_loadVar {P : Program} {tb : Tab} {t : TypeId} (h : (tb t).Ok P t) (hd : (tb t).d ≠ .no) {w : World} {b off : Nat} :
    (∀ v, (tb t).agg = false → w.cell? ⟨b, off, none⟩ = some v → (loadVar t ⟨b, off, none⟩).run P w = .ok v w) ∧
    (∀ vs : List Value, (tb t).agg = true → vs.length = (tb t).size → (∀ j (h : j < vs.length), w.cell? ⟨b, off + j, none⟩ = some vs[j]) → (loadVar t ⟨b, off, none⟩).run P w = .ok (.agg vs.toArray) w) := by
  constructor
  · intro v ha hv
    simp only [loadVar, Sem.run_bind, run_isAgg h hd, Result.andThen, ha, load]
    simp [Sem.run, hv]
  · intro vs ha hl hv
    have := run_loadCells' (P := P) vs hv
    rw [hl] at this
    simp only [loadVar, Sem.run_bind, run_isAgg h hd, Result.andThen, ha, if_true, run_sizeOf h hd, this]
    simp
theorem freps {g : G} {w : World} {σ : St} : ∀ {l : List F} {pre : List Value}, pre.length = l.length → (∀ j (h : j < l.length) (h' : j < pre.length), FRep g w l[j] pre[j]) → CReps g w σ (l.map .f) pre
  | [], [], _, _ => rfl
  | x :: r, v :: vr, hl, h => ⟨v, vr, rfl, h 0 (by simp) (by simp), freps (by simpa using hl) (fun j a b => h (j + 1) (Nat.succ_lt_succ a) (Nat.succ_lt_succ b))⟩
  | [], v :: vr, hl, _ => by simp at hl
  | x :: r, [], hl, _ => by simp at hl
theorem load_ok {P : Program} {tb : Tab} {t : TypeId} (h : (tb t).Ok P t) (hd : (tb t).d ≠ .no) {g : G} {w : World} {σ : St} (hr : Rep g w σ) {x : V} {u : Value} (hx : VRep g w σ x u) {k : V → Prop}
    (hk : vload prims (tb t).agg (tb t).size x σ k) : ∃ r v, (Instr.loadAt t u).run P w = .ok v w ∧ VRep g w σ r v ∧ k r := by
  have frow : ∀ {cs : List F} {b o off : Nat}, FRow g w b o cs → u = .pointer (some ⟨b, o + off, none⟩) →
      ((tb t).agg = true → off + (tb t).size ≤ cs.length → k (.a (((cs.drop off).take (tb t).size).map .f)) → ∃ r v, (Instr.loadAt t u).run P w = .ok v w ∧ VRep g w σ r v ∧ k r) ∧
      (∀ x, (tb t).agg = false → cs[off]? = some x → k (.c (.f x)) → ∃ r v, (Instr.loadAt t u).run P w = .ok v w ∧ VRep g w σ r v ∧ k r) := by
    intro cs b o off hrow hu
    subst hu
    constructor
    · intro ha hle hk'
      have h2 := (hrow.drop off).take (tb t).size
      have hlen : ((cs.drop off).take (tb t).size).length = (tb t).size := by simp; omega
      generalize (cs.drop off).take (tb t).size = fs at *
      -- the values
      have hv : ∃ vs : List Value, vs.length = fs.length ∧ (∀ j (h : j < vs.length), w.cell? ⟨b, o + off + j, none⟩ = some vs[j]) ∧ CReps g w σ (fs.map .f) vs := by
        clear hk' hlen
        generalize o + off = m at h2
        induction fs generalizing m with
        | nil => exact ⟨[], rfl, by simp, rfl⟩
        | cons y r ih =>
          obtain ⟨_, ⟨v, hv, hy⟩, hrr⟩ := h2
          obtain ⟨vs, h3, h4, h5⟩ := ih (m + 1) hrr
          refine ⟨v :: vs, by simp [h3], fun j hj => ?_, v, vs, rfl, hy, h5⟩
          cases j with
          | zero => exact hv
          | succ j =>
            have := h4 j (by simpa using hj)
            rw [show m + (j + 1) = m + 1 + j from by omega]
            simpa using this
      obtain ⟨vs, h3, h4, h5⟩ := hv
      exact ⟨.a (fs.map .f), .agg vs.toArray, by rw [loadAt_ptr]; exact (run_loadVar h hd).2 vs ha (by omega) h4, ⟨vs, rfl, h5⟩, hk'⟩
    · intro y ha hy hk'
      obtain ⟨_, v, hv, hy⟩ := hrow.get hy
      exact ⟨.c (.f y), v, by rw [loadAt_ptr]; exact (run_loadVar h hd).1 v ha hv, hy, hk'⟩
  unfold vload at hk
  split at hk
  · -- an object
    rename_i o off
    obtain ⟨b, ob, h1, rfl, h2, h3⟩ := hx
    split at hk
    · rename_i l hl
      obtain ⟨c, vs, T, fz, k1, k2, k3, k4⟩ := hr.ob o _ hl
      rw [h1] at k1; cases k1
      split at hk
      · rename_i ha
        split at hk
        · rename_i r hc
          obtain ⟨h5, rfl⟩ := cut_spec hc
          have h6 := (k4.drop off).take (tb t).size
          have h7 := h6.length
          refine ⟨.a ((l.drop off).take (tb t).size), .agg ((vs.toList.drop off).take (tb t).size).toArray, ?_, ⟨_, rfl, h6⟩, hk⟩
          rw [loadAt_ptr]
          refine (run_loadVar h hd).2 _ ha (by rw [h7]; simp; omega) (fun j hj => ?_)
          rw [cell_of k2]
          rw [List.getElem_take, List.getElem_drop]
          exact List.getElem?_eq_getElem _
        · exact hk.elim
      · rename_i ha
        split at hk
        · rename_i c hc
          obtain ⟨v, h5, h6⟩ := k4.get hc
          exact ⟨.c c, v, by rw [loadAt_ptr]; exact (run_loadVar h hd).1 v ha ((cell_of k2).trans h5), h6, hk⟩
        · exact hk.elim
    · rename_i T bu y hl
      obtain ⟨c, bv, k1, k2, k3⟩ := hr.ob o _ hl
      rw [h1] at k1; cases k1
      split at hk
      · rename_i ha
        refine ⟨_, selfp bu b, by rw [loadAt_ptr]; exact (run_loadVar h hd).1 _ ha (by rw [cell_of k2]; rfl), ?_, hk⟩
        cases bu with
        | true => exact ⟨b, _, h1, rfl, hl, rfl⟩
        | false => rfl
      · rename_i ha
        exact ⟨.c y, bv, by rw [loadAt_ptr]; exact (run_loadVar h hd).1 _ ha (by rw [cell_of k2]; rfl), k3, hk⟩
      · exact hk.elim
    · exact hk.elim
  · rename_i cs off
    obtain ⟨b, o, hu, hrow⟩ := hx
    have hf := frow hrow hu
    split at hk
    · rename_i ha; exact hf.1 ha hk.1 hk.2
    · rename_i ha
      simp only [prims] at hk
      split at hk
      · rename_i y hy; exact hf.2 y ha hy hk
      · exact hk.elim
  · -- an element of a row of one's own
    rename_i o e off
    obtain ⟨_, ob, h1, h2⟩ := hx
    split at hk
    · rename_i wr e0 sz l hl
      rw [hl] at h1; cases h1
      obtain ⟨h3, h4⟩ := h2
      have he : e = e0 := hk.1
      obtain ⟨b, h5, rfl⟩ := h4 he
      rcases hr.ob o _ hl with ⟨k1, _, _⟩ | ⟨c, vs, T, fz, rest, k1, k2, k3, k4, k5, ⟨pre, k6, k7, k8⟩, k9⟩
      · rw [h5] at k1; cases k1
      · rw [h5] at k1; cases k1
        have hreps : CReps g w σ (l.map .f) pre := freps k7 k8
        have hcell : ∀ j, j < pre.length → w.cell? ⟨b, j, none⟩ = pre[j]? := fun j hj => by rw [cell_of k2, k6, List.getElem?_append_left hj]
        have hk2 := hk.2
        split at hk2
        · rename_i ha
          have hle : off + (tb t).size ≤ l.length := hk2.1
          have hrep := (hreps.drop off).take (tb t).size
          refine ⟨.a (((l.map .f).drop off).take (tb t).size), .agg ((pre.drop off).take (tb t).size).toArray, ?_, ⟨_, rfl, hrep⟩, ?_⟩
          · rw [loadAt_ptr]
            refine (run_loadVar h hd).2 _ ha (by simp; omega) (fun j hj => ?_)
            rw [hcell _ (by simp at hj; omega), List.getElem_take, List.getElem_drop]
            exact List.getElem?_eq_getElem _
          · have := hk2.2
            simpa [prims, List.map_take, List.map_drop] using this
        · rename_i ha
          simp only [prims] at hk2
          split at hk2
          · rename_i y hy
            have hy' : l[off]? = some y := hy
            obtain ⟨v, h6, h7⟩ := hreps.get (i := off) (c := .f y) (by simp [hy'])
            refine ⟨.c (.f y), v, ?_, h7, hk2⟩
            rw [loadAt_ptr]
            exact (run_loadVar h hd).1 v ha ((hcell off (List.getElem?_eq_some_iff.1 h6).1).trans h6)
          · exact hk2.elim
    · exact hk.elim
  · exact hk.elim
end Go.Dm
namespace Go.Dm
set_option linter.unusedVariables false
set_option linter.unusedSimpArgs false
theorem at_eq_setRow {w : World} {b : Nat} {cur cs : Array Value} {T : TypeId} {fz : Nat × Nat} (h : w.heap[b]? = some (.cells cur T fz)) : w.at b (.cells cs T fz) = w.setRow b cs := by
  unfold World.at World.setRow
  congr 1
  apply Array.ext_getElem?
  intro i
  rw [Array.getElem?_setIfInBounds, Array.getElem?_modify]
  by_cases hi : b = i
  · subst hi
    obtain ⟨h1, h2⟩ := Array.getElem?_eq_some_iff.1 h
    simp [h1, h2]
  · simp [hi]
theorem free_not {w : World} {b o : Nat} {cur : Array Value} {T : TypeId} {fz : Nat × Nat} (h : w.heap[b]? = some (.cells cur T fz)) (hf : FreeAt fz o) (ho : o < cur.size) : w.frozen? ⟨b, o, none⟩ = false := by
  simp only [World.frozen?, h]
  rcases hf with hf | hf | hf
  · simp; omega
  · simp; omega
  · simp; omega
theorem run_storeRow {P : Program} (b off : Nat) (T : TypeId) (fz : Nat × Nat) : ∀ (vs : List Value) (i : Nat) (cur : Array Value) (w : World), w.heap[b]? = some (.cells cur T fz) → (∀ o, off ≤ o → o < cur.size → FreeAt fz o) → off + i + vs.length ≤ cur.size → (∀ v ∈ vs, v.oneCell' = true) →
    (storeCells ⟨b, off, none⟩ vs i).run P w = .ok () (w.setRow b (cur.toList.take (off + i) ++ vs ++ cur.toList.drop (off + i + vs.length)).toArray)
  | [], i, cur, w, hg, _, _, _ => by
    simp only [storeCells, List.append_nil, List.length_nil, Nat.add_zero, List.take_append_drop, Array.toArray_toList]
    rw [setRow_self w b cur T fz hg]
    rfl
  | v :: rest, i, cur, w, hg, hf, hl, h1 => by
    have hi : off + i < cur.size := by simp at hl; omega
    have hcell : w.cell? ⟨b, off + i, none⟩ = some cur[off + i] := by simp [World.cell?, hg, hi]
    have hfro : w.frozen? ⟨b, off + i, none⟩ = false := free_not hg (hf _ (by omega) hi) hi
    have hst : (store ((⟨b, off, none⟩ : Addr).add i) v).run P w = .ok () (w.setRow b (cur.setIfInBounds (off + i) v)) := by
      rw [add_addr, run_store P w _ v _ (h1 v (by simp)), hcell]
      simp [hfro, setCell_eq_setRow w b (off + i) cur T fz v hg]
    have ih := run_storeRow (P := P) b off T fz rest (i + 1) (cur.setIfInBounds (off + i) v) (w.setRow b (cur.setIfInBounds (off + i) v)) (setRow_heap w b cur _ T _ hg) (by simpa using hf) (by simp at hl ⊢; omega) (fun x hx => h1 x (by simp [hx]))
    simp only [storeCells, Sem.run_bind, hst, Result.andThen_ok, ih, setRow_setRow]
    congr 3
    have e := list_seg_step cur.toList (off + i) v rest (by simp at hl ⊢; omega)
    simpa [Array.toList_setIfInBounds, Nat.add_assoc] using e
theorem splice_spec {l l' r : List C} {off : Nat} (h : splice l off r = some l') : off + r.length ≤ l.length ∧ l' = l.take off ++ r ++ l.drop (off + r.length) := by
  unfold splice at h
  split at h
  · rename_i h1; cases h; exact ⟨h1, rfl⟩
  · cases h
theorem V.cells_rep {g : G} {w : World} {σ : St} {x : V} {u : Value} {r : List C} (h : x.cells = some r) (hx : VRep g w σ x u) : CReps g w σ r u.cells.toList := by
  unfold V.cells at h
  split at h
  · cases h
  · rename_i x hn
    cases h
    have h1 : u.oneCell' = true := CRep.one (by cases x <;> first | rfl | exact absurd rfl (hn ·)) hx
    rw [cells_one h1]
    exact ⟨u, [], rfl, hx, rfl⟩
  · cases h
    obtain ⟨vs, rfl, h1⟩ := hx
    simpa [Value.cells] using h1
  · cases h
theorem run_storeVar {P : Program} {tb : Tab} {t : TypeId} (h : (tb t).Ok P t) (hd : (tb t).d ≠ .no) {w : World} {b off : Nat} {cur : Array Value} {T : TypeId} {fz : Nat × Nat} (hg : w.heap[b]? = some (.cells cur T fz)) (hf : Free cur.size fz)
    {u : Value} (hs : u.cells.size = (tb t).size) (hl : off + u.cells.size ≤ cur.size) (h1 : ∀ v ∈ u.cells.toList, v.oneCell' = true) :
    (Instr.storeAt t (.pointer (some ⟨b, off, none⟩)) u).run P w = .ok () (w.at b (.cells (cur.toList.take off ++ u.cells.toList ++ cur.toList.drop (off + u.cells.size)).toArray T fz)) := by
  rw [at_eq_setRow hg]
  have := run_storeRow (P := P) b off T fz u.cells.toList 0 cur w hg (fun o _ h => hf.at h) (by simpa using hl) h1
  simp only [Instr.storeAt, Instr.sureAddr, storeVar, Sem.run_bind, Sem.run_pure, Result.andThen, run_sizeOf h hd, hs, ne_eq, not_true_eq_false, if_false]
  rw [Array.length_toList, hs] at this
  simpa using this
theorem freeze_obj {g : G} {w : World} {σ : St} (hr : Rep g w σ) {i : Nat} {cs : List F} (hi : σ[i]? = some (.cells (cs.map .f))) {b : Nat} (hb : g.blk i = some b) :
    ∃ g', Rep g' w (σ.set i .gone) ∧ Turn g w σ g' w (σ.set i .gone) ∧ g'.blk = g.blk ∧ g'.cap = g.cap ∧ FRow g' w b 0 cs := by
  have hg : ∀ {j : Nat} {x : Ob}, (σ.set i .gone)[j]? = some x ↔ (j = i ∧ x = .gone) ∨ (j ≠ i ∧ σ[j]? = some x) := get_set hi
  have hob := hr.ob i _ hi
  let g' : G := { g with Z := fun c o => g.Z c o ∨ (c = b ∧ o < cs.length) }
  have hown : ∀ c o, Own g' (σ.set i .gone) c o → Own g σ c o ∧ c ≠ b := by
    intro c o ho
    obtain ⟨j, x, h1, h2, h3⟩ := own_iff.1 ho
    rcases hg.1 h1 with ⟨rfl, rfl⟩ | ⟨h4, h5⟩
    · exact h3.elim
    · have hlx : live x = true := by cases x <;> simp_all [live, ownAt]
      refine ⟨own_iff.2 ⟨j, x, h5, h2, h3⟩, fun e => h4 (hr.inj j i x _ c h5 hi hlx rfl h2 (e ▸ hb))⟩
  have ht : Turn g w σ g' w (σ.set i .gone) :=
    { os := rfl, tape := rfl, output := rfl, size := Nat.le_refl _, whole := fun _ _ _ => rfl, zs := fun c o hz => ⟨.inl hz, rfl⟩,
      znew := fun c o _ hz => hz.imp id fun ⟨h1, h2⟩ => own_iff.2 ⟨i, _, hi, h1 ▸ hb, trivial⟩,
      onew := fun c o _ ho => (hown c o ho).1,
      turns := fun j x hx => by
        by_cases h : j = i
        · subst h
          rw [hi] at hx; cases hx
          exact ⟨_, hg.2 (.inl ⟨rfl, rfl⟩), by simp [ObTurn]⟩
        · exact ⟨x, hg.2 (.inr ⟨h, hx⟩), by cases x <;> simp [ObTurn, g']⟩,
      blks := fun _ _ _ _ => rfl }
  obtain ⟨c, vs, T, fz, h1, h2, h3, h4⟩ := hob
  rw [hb] at h1; cases h1
  have hlen := h4.length
  simp at hlen
  refine ⟨g', ⟨?_, ?_, ?_, ?_⟩, ht, rfl, rfl, FRow.of fun j x hx => ?_⟩
  · intro j x hx
    rcases hg.1 hx with ⟨rfl, rfl⟩ | ⟨h4, h5⟩
    · trivial
    · exact (hr.ob j x h5).keep ht (fun _ _ => rfl) rfl rfl
  · intro j k x y c hj hk lx ly hbj hbk
    rcases hg.1 hj with ⟨rfl, rfl⟩ | ⟨h4, h5⟩
    · simp [live] at lx
    · rcases hg.1 hk with ⟨rfl, rfl⟩ | ⟨h6, h7⟩
      · simp [live] at ly
      · exact hr.inj j k x y c h5 h7 lx ly hbj hbk
  · intro c o hz ho
    have h5 := hown c o ho
    rcases hz with hz | ⟨h6, _⟩
    · exact hr.apart c o hz h5.1
    · exact h5.2 h6
  · intro c o hz
    rcases hz with hz | ⟨rfl, _⟩
    · exact hr.inside c o hz
    · exact (Array.getElem?_eq_some_iff.1 h2).1
  · rw [Nat.zero_add]
    have hj := (List.getElem?_eq_some_iff.1 hx).1
    obtain ⟨v, h5, h6⟩ := h4.get (i := j) (c := .f x) (by simp [hx])
    exact ⟨.inr ⟨rfl, hj⟩, v, (cell_of h2).trans h5, FRep.turn ht.zs _ _ h6⟩
theorem frz_spec : ∀ {l : List C} {fs : List F}, frz l = some fs → l = fs.map .f
  | [], fs, h => by simp [frz] at h; subst h; rfl
  | c :: r, fs, h => by
    cases c <;> simp only [frz] at h <;> try (exact absurd h (by simp))
    split at h
    · rename_i l hl
      cases h
      rw [frz_spec hl]; rfl
    · cases h
theorem rs_frozen {g g' : G} {w w' : World} {i e n sz : Nat} {l : List F} {v : Value} {wr : Bool} {σ : St} (hr : Rep g w σ) (hi : σ[i]? = some (.arr wr e sz l)) (hv : CRep g w σ (.rs i e n) v)
    (hb : g'.blk = g.blk) (hc : g'.cap = g.cap) (hrow : ∀ b, g.blk i = some b → FRow g' w' b 0 l) : FRep g' w' (.sl n l) v := by
  obtain ⟨_, ob, h1, h2⟩ := hv
  rw [hi] at h1; cases h1
  obtain ⟨_, h3⟩ := h2
  obtain ⟨rfl, h4, h5⟩ := h3 rfl
  refine ⟨_, _, rfl, h5, ?_, ?_⟩
  · rcases hr.ob i _ hi with ⟨_, _, h⟩ | ⟨b, vs, T, fz, rest, k1, k2, k3, k4, k5, _⟩
    · rw [h]; exact Nat.zero_le _
    · exact k5
  · rcases hr.ob i _ hi with ⟨h6, h7, h⟩ | ⟨b, vs, T, fz, rest, k1, k2, k3, k4, k5, _⟩
    · left; subst h7; rw [h] at h5; rw [h6]; simp; omega
    · right; exact ⟨b, 0, by rw [k1]; rfl, hrow b k1⟩
theorem frzs_ok {P : Program} : ∀ (l : List C) {g : G} {w : World} {σ : St} (hr : Rep g w σ) {vs : List Value} (hl : CReps g w σ l vs) {k : List F → St → Prop} (hk : vfrzs prims l σ k),
    ∃ fs σ' g', Rep g' w σ' ∧ Turn g w σ g' w σ' ∧ CReps g' w σ' (fs.map .f) vs ∧ k fs σ'
  | [], g, w, σ, hr, vs, hl, k, hk => ⟨[], σ, g, hr, Turn.refl _ _ _, hl, hk⟩
  | .f x :: r, g, w, σ, hr, vs, hl, k, hk => by
    obtain ⟨v, vr, rfl, h1, h2⟩ := hl
    obtain ⟨fs, σ', g', h3, h4, h5, h6⟩ := frzs_ok (P := P) r hr h2 hk
    exact ⟨x :: fs, σ', g', h3, h4, ⟨v, vr, rfl, FRep.turn h4.zs _ _ h1, h5⟩, h6⟩
  | .rs o e n :: r, g, w, σ, hr, vs, hl, k, hk => by
    obtain ⟨v, vr, rfl, h1, h2⟩ := hl
    simp only [vfrzs] at hk
    split at hk
    · rename_i wr e0 sz l hl
      obtain ⟨he, hk⟩ := hk
      have he' : e = e0 := he
      subst he'
      obtain ⟨g1, k1, k2, k3, k4, k5⟩ := freeze_arr hr hl
      obtain ⟨fs, σ', g', h3, h4, h5, h6⟩ := frzs_ok (P := P) r k1 (CReps.turn k2 _ _ h2) hk
      have hf := rs_frozen (w' := w) hr hl h1 k3 k4 k5
      exact ⟨.sl n l :: fs, σ', g', h3, k2.trans h4, ⟨v, vr, rfl, FRep.turn h4.zs _ _ hf, h5⟩, h6⟩
    · exact hk.elim
  | .ptr o 0 :: r, g, w, σ, hr, vs, hl, k, hk => by
    obtain ⟨v, vr, rfl, h1, h2⟩ := hl
    simp only [vfrzs] at hk
    split at hk
    · rename_i cs hcs
      split at hk
      · rename_i fs hfs
        have := frz_spec hfs
        subst this
        obtain ⟨b, ob, m1, rfl, m2, m3⟩ := h1
        obtain ⟨g1, k1, k2, k3, k4, k5⟩ := freeze_obj hr hcs m1
        obtain ⟨fs', σ', g', h3, h4, h5, h6⟩ := frzs_ok (P := P) r k1 (CReps.turn k2 _ _ h2) hk
        exact ⟨.obj fs :: fs', σ', g', h3, k2.trans h4, ⟨_, vr, rfl, FRep.turn h4.zs _ _ ⟨b, rfl, k5⟩, h5⟩, h6⟩
      · exact hk.elim
    · exact hk.elim
  | .ptr o (m + 1) :: r, g, w, σ, hr, vs, hl, k, hk => hk.elim
  | .pa .. :: r, g, w, σ, hr, vs, hl, k, hk => hk.elim
  | .ep .. :: r, g, w, σ, hr, vs, hl, k, hk => hk.elim
  | .mp .. :: r, g, w, σ, hr, vs, hl, k, hk => hk.elim
  | .clo .. :: r, g, w, σ, hr, vs, hl, k, hk => hk.elim
  | .un :: r, g, w, σ, hr, vs, hl, k, hk => hk.elim
theorem soft_ok : ∀ (l : List C) {g : G} {w : World} {σ : St} (hr : Rep g w σ) {vs : List Value} (hl : CReps g w σ l vs) {k : List C → St → Prop} (hk : vsoft prims l σ k),
    ∃ l' σ' g', Rep g' w σ' ∧ Turn g w σ g' w σ' ∧ CReps g' w σ' l' vs ∧ k l' σ'
  | [], g, w, σ, hr, vs, hl, k, hk => ⟨[], σ, g, hr, Turn.refl _ _ _, hl, hk⟩
  | x :: r, g, w, σ, hr, vs, hl, k, hk => by
    obtain ⟨v, vr, rfl, h1, h2⟩ := hl
    have other : vsoft prims r σ (fun l' σ' => k (x :: l') σ') → ∃ l' σ' g', Rep g' w σ' ∧ Turn g w σ g' w σ' ∧ CReps g' w σ' l' (v :: vr) ∧ k l' σ' := fun hk => by
      obtain ⟨l', σ', g', h3, h4, h5, h6⟩ := soft_ok r hr h2 hk
      exact ⟨x :: l', σ', g', h3, h4, ⟨v, vr, rfl, CRep.turn h4 _ _ h1, h5⟩, h6⟩
    cases x with
    | rs o e n =>
      simp only [vsoft] at hk
      split at hk
      · rename_i wr e0 sz l hl
        obtain ⟨he, hk⟩ := hk
        have he' : e = e0 := he
        subst he'
        obtain ⟨g1, k1, k2, k3, k4, k5⟩ := freeze_arr hr hl
        obtain ⟨l', σ', g', h3, h4, h5, h6⟩ := soft_ok r k1 (CReps.turn k2 _ _ h2) hk
        have hf := rs_frozen (w' := w) hr hl h1 k3 k4 k5
        exact ⟨.f (.sl n l) :: l', σ', g', h3, k2.trans h4, ⟨v, vr, rfl, FRep.turn h4.zs _ _ hf, h5⟩, h6⟩
      · exact hk.elim
    | _ => exact other hk
theorem softs_ok : ∀ (l : List V) {g : G} {w : World} {σ : St} (hr : Rep g w σ) {vs : List Value} (hl : VReps g w σ l vs) {k : List V → St → Prop} (hk : vsofts prims l σ k),
    ∃ l' σ' g', Rep g' w σ' ∧ Turn g w σ g' w σ' ∧ VReps g' w σ' l' vs ∧ k l' σ'
  | [], g, w, σ, hr, vs, hl, k, hk => ⟨[], σ, g, hr, Turn.refl _ _ _, hl, hk⟩
  | x :: r, g, w, σ, hr, vs, hl, k, hk => by
    obtain ⟨v, vr, rfl, h1, h2⟩ := hl
    have other : vsofts prims r σ (fun l' σ' => k (x :: l') σ') → ∃ l' σ' g', Rep g' w σ' ∧ Turn g w σ g' w σ' ∧ VReps g' w σ' l' (v :: vr) ∧ k l' σ' := fun hk => by
      obtain ⟨l', σ', g', h3, h4, h5, h6⟩ := softs_ok r hr h2 hk
      exact ⟨x :: l', σ', g', h3, h4, ⟨v, vr, rfl, VRep.turn h4 _ _ h1, h5⟩, h6⟩
    cases x with
    | t l => exact other hk
    | a l =>
      obtain ⟨cs, rfl, hcs⟩ := h1
      simp only [vsofts] at hk
      obtain ⟨l2, σ1, g1, k1, k2, k3, k4⟩ := soft_ok l hr hcs hk
      obtain ⟨l', σ', g', h3, h4, h5, h6⟩ := softs_ok r k1 (VReps.turn k2 _ _ h2) k4
      exact ⟨.a l2 :: l', σ', g', h3, k2.trans h4, ⟨_, vr, rfl, ⟨cs, rfl, CReps.turn h4 _ _ k3⟩, h5⟩, h6⟩
    | c x =>
      cases x with
      | rs o e n =>
        simp only [vsofts] at hk
        split at hk
        · rename_i wr e0 sz l hl
          obtain ⟨he, hk⟩ := hk
          have he' : e = e0 := he
          subst he'
          obtain ⟨g1, k1, k2, k3, k4, k5⟩ := freeze_arr hr hl
          obtain ⟨l', σ', g', h3, h4, h5, h6⟩ := softs_ok r k1 (VReps.turn k2 _ _ h2) hk
          have hf := rs_frozen (w' := w) hr hl h1 k3 k4 k5
          exact ⟨.c (.f (.sl n l)) :: l', σ', g', h3, k2.trans h4, ⟨v, vr, rfl, FRep.turn h4.zs _ _ hf, h5⟩, h6⟩
        · exact hk.elim
      | _ => exact other hk
theorem soft_none {T : Pr} : ∀ (l : List C) (h : l.any C.isRs = false) (σ : St) (k : List C → St → Prop), vsoft T l σ k = k l σ
  | [], _, _, _ => rfl
  | x :: r, h, σ, k => by
    simp only [List.any_cons, Bool.or_eq_false_iff] at h
    cases x with
    | rs => simp [C.isRs] at h
    | _ => exact soft_none r h.2 σ _
theorem softs_none {T : Pr} : ∀ (l : List V) (h : l.any V.hasRs = false) (σ : St) (k : List V → St → Prop), vsofts T l σ k = k l σ
  | [], _, _, _ => rfl
  | x :: r, h, σ, k => by
    simp only [List.any_cons, Bool.or_eq_false_iff] at h
    cases x with
    | t l => exact softs_none r h.2 σ _
    | a l =>
      simp only [vsofts]
      rw [soft_none l h.1]
      exact softs_none r h.2 σ _
    | c x =>
      cases x with
      | rs => simp [V.hasRs, C.isRs] at h
      | _ => exact softs_none r h.2 σ _
theorem write_arr {g : G} {w : World} {σ : St} (hr : Rep g w σ) {i b : Nat} {e sz : Nat} {l l' : List F} {vs vs' : Array Value} {T : TypeId} {fz : Nat × Nat}
    (hi : σ[i]? = some (.arr true e sz l)) (hb : g.blk i = some b) (hO : w.heap[b]? = some (.cells vs T fz)) (hf : FreeR true e l.length vs.size fz) (hs : vs'.size = vs.size) (hc : vs.size = g.cap i * sz) (hm : g.cap i ≤ maxLen)
    (hlen : l'.length = l.length) {pre rest : List Value} (hv : vs'.toList = pre ++ rest) (hl : CReps g w σ (l'.map .f) pre) :
    Rep g (w.at b (.cells vs' T fz)) (σ.set i (.arr true e sz l')) ∧ Turn g w σ g (w.at b (.cells vs' T fz)) (σ.set i (.arr true e sz l')) := by
  have ht := write_turn (ob' := .arr true e sz l') (O' := .cells vs' T fz) hr hi hb rfl hO
    (fun o hz => (hr.apart b o hz (own_iff.2 ⟨i, _, hi, hb, trivial⟩)).elim) (by right; exact ⟨rfl, rfl, hlen, rfl, rfl⟩) (fun _ _ => trivial)
  have hlt : b < w.heap.size := (Array.getElem?_eq_some_iff.1 hO).1
  have hT : T = e % 4294967296 ∧ (e / 4294967296 % 2 = 0 → g.cap i ≠ 0) := by
    rcases hr.ob i _ hi with ⟨q1, _, _⟩ | ⟨c, vs2, T', fz', rest', q1, q2, _, _, _, _, q9⟩
    · rw [hb] at q1; cases q1
    · rw [hb] at q1; cases q1
      rw [hO] at q2; cases q2
      exact q9.2
  refine ⟨write_rep hr hi hb rfl ht (fun _ => rfl) (fun _ _ => trivial) (.inr ⟨b, vs', T, fz, rest, hb, at_same hlt, by rw [hs, hlen]; exact hf, by rw [hs]; exact hc, hm, ⟨pre, hv, by simpa using hl.length, fun j h h' => ?_⟩, by simp, hT⟩), ht⟩
  obtain ⟨v, h1, h2⟩ := hl.get (i := j) (c := .f l'[j]) (by simp [h])
  rw [List.getElem?_eq_getElem h'] at h1
  cases h1
  exact FRep.turn ht.zs _ _ h2
theorem store_ok {P : Program} {tb : Tab} {t : TypeId} (h : (tb t).Ok P t) (hd : (tb t).d ≠ .no) {g : G} {w : World} {σ : St} (hr : Rep g w σ) {x y : V} {u v : Value} (hx : VRep g w σ x u) (hy : VRep g w σ y v) {k : St → Prop}
    (hk : vstore prims x y (tb t).size σ k) : ∃ σ' g' w', (Instr.storeAt t u v).run P w = .ok () w' ∧ Rep g' w' σ' ∧ Turn g w σ g' w' σ' ∧ k σ' := by
  unfold vstore at hk
  split at hk
  case h_2 => exact hk.elim
  rename_i r hcells
  split at hk
  case isFalse => exact hk.elim
  rename_i hs
  have hv := V.cells_rep hcells hy
  have hone := CReps.one hs.2 hv
  have hlv := hv.length
  simp at hlv
  split at hk
  · rename_i o off
    obtain ⟨b, ob, h1, rfl, h2, h3⟩ := hx
    split at hk
    · rename_i l hl
      split at hk
      · rename_i l' hsp
        obtain ⟨h4, rfl⟩ := splice_spec hsp
        obtain ⟨c, vs, T, fz, k1, k2, k3, k4⟩ := hr.ob o _ hl
        rw [h1] at k1; cases k1
        have hll := k4.length
        simp at hll
        have hrun := run_storeVar (P := P) h hd k2 k3 (u := v) (off := off) (by omega) (by omega) hone
        have hw := write_cells (vs' := vs.toList.take off ++ v.cells.toList ++ vs.toList.drop (off + v.cells.size)) hr hl h1 k2 k3 (by simp; omega)
          (((k4.take off).append hv).append (by rw [hlv]; exact k4.drop _))
        exact ⟨_, _, _, hrun, hw.1, hw.2, hk⟩
      · exact hk.elim
    · rename_i T bu y hl
      obtain ⟨c, bv, k1, k2, k3⟩ := hr.ob o _ hl
      rw [h1] at k1; cases k1
      have hlen := hs.1
      split at hk
      · rename_i o'
        split at hk
        · rename_i ho
          have := Nat.eq_of_beq_eq_true ho
          subst this
          obtain ⟨v1, vr, e1, ⟨b', ob', p1, p2, p3, p4⟩, e2⟩ := hv
          simp only [CReps] at e2
          subst e2 p2
          rw [h1] at p1
          cases p1
          have hsz : v.cells.size = 1 := by rw [← Array.length_toList, e1]; rfl
          have hrun := run_storeVar (P := P) h hd k2 (.inl rfl) (u := v) (off := 0) (by simp at hlen; omega) (by simp; omega) hone
          have hw := write_bld (u' := true) hr hl h1 k2 k3
          refine ⟨σ.set o' (.bld T true y), g, _, hrun, ?_⟩
          have e3 : (List.toArray ((#[selfp bu b, bv] : Array Value).toList.take 0 ++ v.cells.toList ++ (#[selfp bu b, bv] : Array Value).toList.drop (0 + v.cells.size))) = #[.pointer (some ⟨b, 0, none⟩), bv] := by
            rw [e1, hsz]; rfl
          rw [e3]
          exact ⟨hw.1, hw.2, hk⟩
        · exact hk.elim
      · rename_i c1
        obtain ⟨v1, vr, e1, e4, e2⟩ := hv
        simp only [CReps] at e2
        subst e2
        have hsz : v.cells.size = 1 := by rw [← Array.length_toList, e1]; rfl
        have hrun := run_storeVar (P := P) h hd k2 (.inl rfl) (u := v) (off := 1) (by simp at hlen; omega) (by simp; omega) hone
        have hw := write_bld (u' := bu) hr hl h1 k2 e4
        refine ⟨σ.set o (.bld T bu c1), g, _, hrun, ?_⟩
        have e3 : (List.toArray ((#[selfp bu b, bv] : Array Value).toList.take 1 ++ v.cells.toList ++ (#[selfp bu b, bv] : Array Value).toList.drop (1 + v.cells.size))) = #[selfp bu b, v1] := by
          rw [e1, hsz]; rfl
        rw [e3]
        exact ⟨hw.1, hw.2, hk⟩
      · exact hk.elim
    · exact hk.elim
  · rename_i o e off
    obtain ⟨fs, σ1, g1, q1, q2, q3, q4⟩ := frzs_ok (P := P) r hr hv hk
    have hx1 := VRep.turn q2 _ _ hx
    obtain ⟨_, ob, h1, h2⟩ := hx1
    split at q4
    · rename_i e0 sz l hl
      obtain ⟨he, hle, hk4⟩ := q4
      have he' : e = e0 := he
      have hle' : off + (tb t).size ≤ l.length := hle
      rw [hl] at h1; cases h1
      obtain ⟨b, h5, rfl⟩ := h2.2 he'
      rcases q1.ob o _ hl with ⟨k1, _, _⟩ | ⟨c, vs, T, fz, rest, k1, k2, k3, k4, k5, ⟨pre, k6, k7, k8⟩, k9⟩
      · rw [h5] at k1; cases k1
      · rw [h5] at k1; cases k1
        have hreps : CReps g1 w σ1 (l.map .f) pre := freps k7 k8
        have hvl : vs.size = pre.length + rest.length := by rw [← Array.length_toList, k6]; simp
        have hrun := run_storeVar (P := P) h hd k2 k3.free (u := v) (off := off) (by omega) (by omega) hone
        have hfl : fs.length = v.cells.size := by have := q3.length; simp at this; omega
        have hw := write_arr (l' := l.take off ++ fs ++ l.drop (off + fs.length)) (vs' := (vs.toList.take off ++ v.cells.toList ++ vs.toList.drop (off + v.cells.size)).toArray)
          (pre := pre.take off ++ v.cells.toList ++ pre.drop (off + v.cells.size)) (rest := rest) q1 hl h5 k2 k3 (by simp; omega) k4 k5 (by simp; omega)
          (by
            simp only [k6]
            rw [List.take_append_of_le_length (by omega), List.drop_append_of_le_length (by omega)]
            simp [List.append_assoc])
          (by
            simp only [List.map_append, List.map_take, List.map_drop]
            rw [hfl]
            exact ((hreps.take off).append q3).append (hreps.drop _))
        exact ⟨_, _, _, hrun, hw.1, q2.trans hw.2, hk4⟩
    · exact q4.elim
  · exact hk.elim
end Go.Dm
namespace Go.Dm
set_option linter.unusedVariables false
set_option linter.unusedSimpArgs false
theorem not_no {d : TD} (h : d.isNo = false) : d ≠ .no := by rintro rfl; simp [TD.isNo] at h
section
variable {P : Program} {tb : Tab} {t : TypeId} {g : G} {w : World} {σ : St}
theorem new_obj (hr : Rep g w σ) (T : TypeId) {l : List C} {cs : Array Value} (hl : CReps g w σ l cs.toList) :
    ∃ g', Rep g' (w.alloc (.cells cs T)) (σ ++ [.cells l]) ∧ Turn g w σ g' (w.alloc (.cells cs T)) (σ ++ [.cells l]) ∧ CRep g' (w.alloc (.cells cs T)) (σ ++ [.cells l]) (.ptr σ.length 0) (.pointer (some ⟨w.heap.size, 0, none⟩)) := by
  obtain ⟨g', h1, h2, h3⟩ := new_cells hr T hl
  simp only [Array.toArray_toList] at h1 h2
  exact ⟨g', h1, h2, w.heap.size, .cells l, h3, rfl, by simp, rfl⟩
theorem alloc_ok (h : (tb t).Ok P t) (hd : (tb t).d ≠ .no) (hr : Rep g w σ) {k : V → St → Prop} (hk : k (.c (.ptr σ.length 0)) (σ ++ [.cells ((tb t).zero.map .f)])) :
    ∃ r σ' g' w' v, (Instr.alloc t true (.tuple #[])).run P w = .ok v w' ∧ k r σ' ∧ Rep g' w' σ' ∧ Turn g w σ g' w' σ' ∧ VRep g' w' σ' r v := by
  obtain ⟨z, h1, h2⟩ := run_zero (P := P) h hd w
  have hc : CReps g w σ ((tb t).zero.map .f) z.cells.toList := by rw [h2]; exact zero_reps (zero_plain h hd)
  obtain ⟨g', h3, h4, h5⟩ := new_obj hr t hc
  refine ⟨_, _, g', _, _, ?_, hk, h3, h4, h5⟩
  simp only [Instr.alloc, Sem.run_bind, h1, Result.andThen]
  rfl
theorem box_ok (hr : Rep g w σ) {x : V} {u : Value} (hx : VRep g w σ x u) {l : List C} (hl : x.cells = some l) {k : V → St → Prop} (hk : k (.c (.ptr σ.length 0)) (σ ++ [.cells l])) :
    ∃ r σ' g' w' v, (Instr.box t u).run P w = .ok v w' ∧ k r σ' ∧ Rep g' w' σ' ∧ Turn g w σ g' w' σ' ∧ VRep g' w' σ' r v := by
  obtain ⟨g', h3, h4, h5⟩ := new_obj hr t (V.cells_rep hl hx)
  exact ⟨_, _, g', _, _, rfl, hk, h3, h4, h5⟩
theorem fill_cells (off : Nat) : ∀ (vs : List Value) (i : Nat) (cs : Array Value), off + i + vs.length ≤ cs.size →
    ((vs.zipIdx i).foldl (fun cs (p : Value × Nat) => cs.setIfInBounds (off + p.2) p.1) cs).toList = cs.toList.take (off + i) ++ vs ++ cs.toList.drop (off + i + vs.length)
  | [], i, cs, _ => by simp
  | v :: r, i, cs, h => by
    simp only [List.zipIdx_cons, List.foldl_cons]
    rw [fill_cells off r (i + 1) _ (by simp at h ⊢; omega)]
    have e := list_seg_step cs.toList (off + i) v r (by simp at h ⊢; omega)
    simpa [Array.toList_setIfInBounds, Nat.add_assoc] using e
theorem fill_eq {v : Value} {off : Nat} {cs : Array Value} (h : off + v.cells.size ≤ cs.size) :
    (v.cells.zipIdx.foldl (fun cs (x : Value × Nat) => cs.setIfInBounds (off + x.2) x.1) cs).toList = cs.toList.take off ++ v.cells.toList ++ cs.toList.drop (off + v.cells.size) := by
  have := fill_cells off v.cells.toList 0 cs (by simpa using h)
  rw [← Array.foldl_toList, Array.toList_zipIdx]
  simpa using this
theorem fill_ok {fr : Fr} {a : Act} (hf : FrRep g w σ fr a.tmps) {place : Nat → Option (Nat × Nat)} {pl : Nat → Option (Nat × Nat)} :
    ∀ (parts : List (Nat × Operand)) (cs : List C) (vs : Array Value), CReps g w σ cs vs.toList → ∀ {l : List C},
      (∀ (go : List (Nat × Operand) → List C → Option (List C)), (∀ cs, go [] cs = some cs) →
        (∀ i x r cs l, go ((i, x) :: r) cs = some l → ∃ off lx cs', place i = some (off, lx.length) ∧ (opd fr x).cells = some lx ∧ splice cs off lx = some cs' ∧ go r cs' = some l) →
        go parts cs = some l → ∃ vs', Instr.fill place vs (parts.map fun p => (p.1, a.eval p.2)) = some vs' ∧ CReps g w σ l vs'.toList)
  | [], cs, vs, h, l => fun go h0 h1 hg => by
    rw [h0] at hg; cases hg
    exact ⟨vs, rfl, h⟩
  | (i, x) :: r, cs, vs, h, l => fun go h0 h1 hg => by
    obtain ⟨off, lx, cs', h2, h3, h4, h5⟩ := h1 i x r cs l hg
    have hx := V.cells_rep h3 (opd_rep hf x)
    have hxl := hx.length
    simp at hxl
    have hcl := h.length
    simp at hcl
    obtain ⟨h6, rfl⟩ := splice_spec h4
    have e := fill_eq (v := a.eval x) (off := off) (cs := vs) (by omega)
    have hrep : CReps g w σ (cs.take off ++ lx ++ cs.drop (off + lx.length)) ((a.eval x).cells.zipIdx.foldl (fun cs (x : Value × Nat) => cs.setIfInBounds (off + x.2) x.1) vs).toList := by
      rw [e, hxl]
      exact ((h.take off).append hx).append (h.drop _)
    obtain ⟨vs', h7, h8⟩ := fill_ok hf (pl := pl) r _ _ hrep go h0 h1 h5
    refine ⟨vs', ?_, h8⟩
    simp only [List.map_cons, Instr.fill, h2]
    rw [if_neg (by simp; omega)]
    exact h7
theorem mapM_places {fields : List Field} (h : ∀ f ∈ fields, (tb f.type).Ok P f.type ∧ (tb f.type).d ≠ .no) (w : World) :
    (fields.mapM fun f => (do pure (f.offset, ← sizeOf f.type) : Sem (Nat × Nat))).run P w = .ok (fields.map fun f => (f.offset, (tb f.type).size)) w := by
  induction fields with
  | nil => rfl
  | cons f r ih =>
    have hf := h f (by simp)
    have hr := ih fun x hx => h x (by simp [hx])
    simp only [List.mapM_cons, Sem.run_bind, run_sizeOf hf.1 hf.2, Result.andThen, Sem.run_pure, hr, List.map_cons]
theorem run_fields {fs : List (Nat × TypeId)} (hd : (tb t).d = .struct fs) (h : (tb t).Ok P t) : ∃ fields : Array Field, P.underlying t = some (.struct fields) ∧ fields.toList.map (fun f => (f.offset, f.type)) = fs := by
  have := h.fits
  rw [hd] at this
  exact this
theorem build_struct_ok (tok : TabOk P tb) {fs : List (Nat × TypeId)} (hd : (tb t).d = .struct fs) (hall : fs.all (fun p => !(tb p.2).d.isNo) = true) {fr : Fr} {a : Act} (hf : FrRep g w σ fr a.tmps) {parts : Array (Nat × Operand)} {l : List C}
    (hl : vfill tb fs fr parts.toList ((tb t).zero.map .f) = some l) : ∃ v, (Instr.build t (parts.map fun (i, x) => (i, a.eval x))).run P w = .ok v w ∧ VRep g w σ (.a l) v := by
  have h := tok t
  have hd' : (tb t).d ≠ .no := by rw [hd]; simp
  obtain ⟨z, h1, h2⟩ := run_zero (P := P) h hd' w
  obtain ⟨fields, h3, h4⟩ := run_fields hd h
  have hc : CReps g w σ ((tb t).zero.map .f) z.cells.toList := by rw [h2]; exact zero_reps (zero_plain h hd')
  have hm := mapM_places (P := P) (tb := tb) (fields := fields.toList) (fun f hf => ⟨tok _, not_no (by
    have := List.all_eq_true.1 hall (f.offset, f.type) (by rw [← h4]; exact List.mem_map.2 ⟨f, hf, rfl⟩)
    simpa using this)⟩) w
  have hplace : ∀ i : Nat, (fields.toList.map fun f => (f.offset, (tb f.type).size))[i]? = (fs[i]?).map fun p => (p.1, (tb p.2).size) := fun i => by
    rw [← h4]; simp [Function.comp_def]
  obtain ⟨vs', h5, h6⟩ := fill_ok (place := fun i => (fields.toList.map fun f => (f.offset, (tb f.type).size))[i]?) (pl := fun _ => none) hf parts.toList ((tb t).zero.map .f) z.cells hc (l := l)
    (vfill tb fs fr) (fun cs => rfl) (fun i x r cs l hg => by
      simp only [vfill] at hg
      split at hg
      · rename_i off u lx e1 e2
        split at hg
        · rename_i hs
          split at hg
          · rename_i cs' e3
            exact ⟨off, lx, cs', by rw [hplace, e1, hs]; rfl, e2, e3, hg⟩
          · cases hg
        · cases hg
      · cases hg) hl
  refine ⟨.agg vs', ?_, ⟨vs'.toList, by simp, h6⟩⟩
  have hmm : (fields.mapM fun f => (do pure (f.offset, ← sizeOf f.type) : Sem (Nat × Nat))).run P w = .ok (fields.toList.map fun f => (f.offset, (tb f.type).size)).toArray w := by
    rw [Array.mapM_eq_mapM_toList]
    simp only [map_eq_pure_bind, Sem.run_bind, hm, Result.andThen, Sem.run_pure]
  simp only [Instr.build, Sem.run_bind, h1, Result.andThen, run_underlying h3, hmm]
  have e : (parts.map fun (i, x) => (i, a.eval x)).toList = parts.toList.map fun p => (p.1, a.eval p.2) := by simp
  rw [e]
  simp only [List.getElem?_toArray]
  rw [h5]
  rfl
theorem build_array_ok (tok : TabOk P tb) {n : Nat} {e : TypeId} (hd : (tb t).d = .array n e) (he : (tb e).d ≠ .no) {fr : Fr} {a : Act} (hf : FrRep g w σ fr a.tmps) {parts : Array (Nat × Operand)} {l : List C}
    (hl : vfillRow (tb e).size fr parts.toList ((tb t).zero.map .f) = some l) : ∃ v, (Instr.build t (parts.map fun (i, x) => (i, a.eval x))).run P w = .ok v w ∧ VRep g w σ (.a l) v := by
  have h := tok t
  have hd' : (tb t).d ≠ .no := by rw [hd]; simp
  obtain ⟨z, h1, h2⟩ := run_zero (P := P) h hd' w
  have h3 := h.fits
  rw [hd] at h3
  have hc : CReps g w σ ((tb t).zero.map .f) z.cells.toList := by rw [h2]; exact zero_reps (zero_plain h hd')
  obtain ⟨vs', h5, h6⟩ := fill_ok (place := fun i => some (i * (tb e).size, (tb e).size)) (pl := fun _ => none) hf parts.toList ((tb t).zero.map .f) z.cells hc (l := l)
    (vfillRow (tb e).size fr) (fun cs => rfl) (fun i x r cs l hg => by
      simp only [vfillRow] at hg
      split at hg
      · rename_i lx e2
        split at hg
        · rename_i hs
          split at hg
          · rename_i cs' e3
            exact ⟨_, lx, cs', by rw [hs], e2, e3, hg⟩
          · cases hg
        · cases hg
      · cases hg) hl
  refine ⟨.agg vs', ?_, ⟨vs'.toList, by simp, h6⟩⟩
  simp only [Instr.build, Sem.run_bind, h1, Result.andThen, run_underlying h3, run_sizeOf (tok e) he]
  have e : (parts.map fun (i, x) => (i, a.eval x)).toList = parts.toList.map fun p => (p.1, a.eval p.2) := by simp
  rw [e, h5]
  rfl
theorem rep_rep {l : List C} {vs : List Value} (h : CReps g w σ l vs) : ∀ (n : Nat), CReps g w σ (rep n l) ((List.range (n * vs.length)).map fun i => vs[i % vs.length]!)
  | 0 => by simp [rep, CReps]
  | n + 1 => by
    have ih := rep_rep h n
    have e : (List.range ((n + 1) * vs.length)).map (fun i => vs[i % vs.length]!) = vs ++ (List.range (n * vs.length)).map fun i => vs[i % vs.length]! := by
      rw [Nat.add_mul, Nat.one_mul, Nat.add_comm, List.range_add, List.map_append, List.map_map]
      congr 1
      · apply List.ext_getElem (by simp)
        intro i h1 h2
        simp [Nat.mod_eq_of_lt h2, h2]
      · apply List.map_congr_left
        intro i _
        simp [Nat.add_mod_left]
    rw [e]
    exact h.append ih
theorem buildSlice_ok (tok : TabOk P tb) {n : Nat} {e : TypeId} (hd : (tb t).d = .slice e) (he : (tb e).d ≠ .no) (hr : Rep g w σ) {fr : Fr} {a : Act} (hf : FrRep g w σ fr a.tmps) {parts : Array (Nat × Operand)} (hn : n * (tb e).size ≤ 16777216) (hn' : n ≤ maxLen) (hee : e ≤ 4294967295) {l : List C}
    (hl : vfillRow (tb e).size fr parts.toList (rep n ((tb e).zero.map .f)) = some l) {k : V → St → Prop} (hk : vfrzs prims l σ fun fs σ' => k (.c (.rs σ'.length (e + 4294967296) n)) (σ' ++ [.arr true (e + 4294967296) (tb e).size fs])) :
    ∃ r σ' g' w' v, (Instr.buildSlice t n (parts.map fun (i, x) => (i, a.eval x))).run P w = .ok v w' ∧ k r σ' ∧ Rep g' w' σ' ∧ Turn g w σ g' w' σ' ∧ VRep g' w' σ' r v := by
  have h := tok t
  obtain ⟨z, h1, h2⟩ := run_zero (P := P) (tok e) he w
  have h3 := h.fits
  rw [hd] at h3
  have hzl : z.cells.size = (tb e).size := by rw [← Array.length_toList, h2]; simp [zero_len (tok e) he]
  have hc : CReps g w σ ((tb e).zero.map .f) z.cells.toList := by rw [h2]; exact zero_reps (zero_plain (tok e) he)
  let row : Array Value := (Array.range (n * (tb e).size)).map (z.cells[· % z.cells.size]!)
  have hrow : CReps g w σ (rep n ((tb e).zero.map .f)) row.toList := by
    have := rep_rep hc n
    simp only [Array.length_toList, hzl] at this
    have e : row.toList = (List.range (n * (tb e).size)).map fun i => z.cells.toList[i % (tb e).size]! := by
      simp only [row, Array.toList_map, Array.toList_range, hzl]
      apply List.map_congr_left
      intro i _
      rw [getElem!_def, getElem!_def, Array.getElem?_toList]
    rw [e]
    exact this
  obtain ⟨vs', h5, h6⟩ := fill_ok (place := fun i => some (i * (tb e).size, (tb e).size)) (pl := fun _ => none) hf parts.toList (rep n ((tb e).zero.map .f)) row hrow (l := l)
    (vfillRow (tb e).size fr) (fun cs => rfl) (fun i x r cs l hg => by
      simp only [vfillRow] at hg
      split at hg
      · rename_i lx e2
        split at hg
        · rename_i hs
          split at hg
          · rename_i cs' e3
            exact ⟨_, lx, cs', by rw [hs], e2, e3, hg⟩
          · cases hg
        · cases hg
      · cases hg) hl
  have hll : l.length = n * (tb e).size := by
    have hgo : ∀ (parts : List (Nat × Operand)) (cs l : List C), vfillRow (tb e).size fr parts cs = some l → l.length = cs.length := by
      intro parts
      induction parts with
      | nil => intro cs l h; simp only [vfillRow] at h; cases h; rfl
      | cons p r ih =>
        intro cs l h
        obtain ⟨i, x⟩ := p
        simp only [vfillRow] at h
        split at h
        · split at h
          · split at h
            · rename_i cs' e3
              obtain ⟨q1, rfl⟩ := splice_spec e3
              rw [ih _ _ h]
              simp; omega
            · cases h
          · cases h
        · cases h
    rw [hgo _ _ _ hl]
    have := hrow.length
    simp [row] at this
    omega
  have h6l := h6.length
  simp at h6l
  obtain ⟨fs, σ1, g1, q1, q2, q3, q4⟩ := frzs_ok (P := P) l hr h6 hk
  have hfl := q3.length
  simp at hfl
  obtain ⟨g2, p1, p2, p3, p4⟩ := new_arr q1 e (tb e).size n (l := fs) (vs := vs'.toList) (0, 0) (e + 4294967296) (flag_mod hee) (flag_odd hee) (.inl rfl) (by simp; omega) hn' (by simp; omega)
    (fun j a b => by
      obtain ⟨v, r1, r2⟩ := q3.get (i := j) (c := .f fs[j]) (by simp [a])
      rw [List.getElem?_eq_getElem b] at r1
      cases r1
      exact r2)
  simp only [Array.toArray_toList] at p1 p2
  refine ⟨_, _, g2, _, .slice (some ⟨w.heap.size, 0, none⟩) n n, ?_, q4, p1, q2.trans p2, ?_⟩
  · have hnn : ¬ (n * (tb e).size > 2 ^ 24) := by omega
    have ep : (parts.map fun (i, x) => (i, a.eval x)).toList = parts.toList.map fun p => (p.1, a.eval p.2) := by simp
    simp only [Instr.buildSlice, Sem.run_bind, run_underlying h3, Result.andThen, run_sizeOf (tok e) he, hnn, if_false, Sem.run_pure, ep]
    by_cases h0 : n * (tb e).size = 0
    · have hrow' : ∀ f : Nat → Value, (Array.range (n * (tb e).size)).map f = row := fun f => by simp [row, h0]
      rw [if_pos h0]
      simp only [Sem.run_bind, Sem.run_pure, Result.andThen, hrow', h5]
      rfl
    · rw [if_neg h0]
      simp only [Sem.run_bind, Sem.run_pure, Result.andThen, h1]
      change Sem.run P (match Instr.fill (fun i => some (i * (tb e).size, (tb e).size)) row (parts.toList.map fun p => (p.1, a.eval p.2)) with | some cells => _ | _ => _) w = _
      rw [h5]
      rfl
  · refine ⟨rfl, .arr true (e + 4294967296) (tb e).size fs, by simp, Nat.le_refl _, fun _ => ⟨?_, ?_, ?_⟩⟩
    · rw [p3, p4]; rfl
    · omega
    · rw [p4]; exact Nat.le_refl _
end
end Go.Dm
namespace Go.Dm
set_option linter.unusedVariables false
set_option linter.unusedSimpArgs false
section
variable {P : Program} {tb : Tab} {t : TypeId} {g : G} {w : World} {σ : St}
theorem addr_rep {x : V} {v : Value} (h : VRep g w σ x v) : VRep g w σ (addr x) v := by
  unfold addr
  split
  · obtain ⟨b, rfl, h1⟩ := h
    exact ⟨b, 0, rfl, h1⟩
  · exact h
theorem vmore_eq (off fo : Nat) : vmore prims off fo = off + fo := by
  unfold vmore
  split
  · rfl
  · rfl
theorem pa_move (hr : Rep g w σ) {o e off : Nat} {v : Value} (h : CRep g w σ (.pa o e off) v) {wr : Bool} {sz : Nat} {l : List F} (ho : σ[o]? = some (.arr wr e sz l)) (m : Nat) :
    ∃ b, v = .pointer (some ⟨b, off, none⟩) ∧ CRep g w σ (.pa o e (off + m)) (.pointer (some ⟨b, off + m, none⟩)) := by
  obtain ⟨_, ob, h1, h2⟩ := h
  rw [ho] at h1; cases h1
  obtain ⟨b, h3, rfl⟩ := h2.2 rfl
  exact ⟨b, rfl, rfl, _, ho, Nat.le_refl _, fun _ => ⟨b, h3, rfl⟩⟩
theorem run_fieldAt (tok : TabOk P tb) {fs : List (Nat × TypeId)} (hd : (tb t).d = .struct fs) {i off : Nat} {u : TypeId} (hf : fs[i]? = some (off, u)) (hs : (tb u).size ≠ 0) (hu : (tb u).d ≠ .no) (b o : Nat) :
    (Instr.fieldAt t (.pointer (some ⟨b, o, none⟩)) i).run P w = .ok (.pointer (some ⟨b, o + off, none⟩)) w := by
  obtain ⟨fields, h3, h4⟩ := run_fields hd (tok t)
  subst h4
  rw [List.getElem?_map] at hf
  cases hx : fields.toList[i]? with
  | none => rw [hx] at hf; cases hf
  | some f =>
    rw [hx] at hf
    cases hf
    rw [Array.getElem?_toList] at hx
    simp only [Instr.fieldAt, Sem.run_bind, run_underlying h3, Result.andThen, hx, Instr.sureAddr, Sem.run_pure, fieldPlace, run_sizeOf (tok f.type) hu, hs, if_false, add_addr]
theorem fieldAddr_ok (tok : TabOk P tb) (hr : Rep g w σ) {fs : List (Nat × TypeId)} (hd : (tb t).d = .struct fs) {i off : Nat} {u : TypeId} (hf : fs[i]? = some (off, u)) (hs : (tb u).size ≠ 0) (hu : (tb u).d ≠ .no)
    {x : V} {v : Value} (hx : VRep g w σ x v) {k : V → Prop} (hk : vfield prims x off σ k) : ∃ r v', (Instr.fieldAt t v i).run P w = .ok v' w ∧ k r ∧ VRep g w σ r v' := by
  unfold vfield at hk
  split at hk
  · rename_i o p
    obtain ⟨b, ob, h1, rfl, h2, h3⟩ := hx
    exact ⟨_, _, run_fieldAt tok hd hf hs hu b p, hk, ⟨b, ob, h1, rfl, h2, h3⟩⟩
  · rename_i cs p
    obtain ⟨b, o, rfl, h1⟩ := hx
    rw [vmore_eq] at hk
    exact ⟨_, _, run_fieldAt tok hd hf hs hu b (o + p), hk, ⟨b, o, by rw [Nat.add_assoc], h1⟩⟩
  · rename_i o e p
    split at hk
    · rename_i wr e0 sz l ho
      obtain ⟨he, hk⟩ := hk
      have he' : e = e0 := he
      subst he'
      rw [vmore_eq] at hk
      obtain ⟨b, rfl, h1⟩ := pa_move hr hx ho off
      exact ⟨_, _, run_fieldAt tok hd hf hs hu b p, hk, h1⟩
    · exact hk.elim
  · exact hk.elim
theorem run_part (h : (tb t).Ok P t) (hd : (tb t).d ≠ .no) {l : List C} {vs : List Value} (hl : CReps g w σ l vs) {off : Nat} {k : V → Prop} (hk : vpart (tb t).agg l off (tb t).size k) :
    ∃ r v, (part t vs.toArray off).run P w = .ok v w ∧ k r ∧ VRep g w σ r v := by
  unfold vpart at hk
  split at hk
  · rename_i ha
    split at hk
    · rename_i r hc
      obtain ⟨h1, rfl⟩ := cut_spec hc
      refine ⟨_, .agg ((vs.drop off).take (tb t).size).toArray, ?_, hk, ⟨_, rfl, (hl.drop off).take _⟩⟩
      simp only [part, Sem.run_bind, run_isAgg h hd, Result.andThen, ha, if_true, run_sizeOf h hd, Sem.run_pure]
      congr 2
      apply Array.ext'
      simp [List.extract_eq_take_drop]
    · exact hk.elim
  · rename_i ha
    split at hk
    · rename_i c hc
      obtain ⟨v, h1, h2⟩ := hl.get hc
      refine ⟨_, v, ?_, hk, h2⟩
      simp only [part, Sem.run_bind, run_isAgg h hd, Result.andThen, ha]
      simp [h1]
    · exact hk.elim
theorem field_ok (tok : TabOk P tb) {fs : List (Nat × TypeId)} (hd : (tb t).d = .struct fs) {i off : Nat} {u : TypeId} (hf : fs[i]? = some (off, u)) (hu : (tb u).d ≠ .no)
    {l : List C} {v : Value} (hx : VRep g w σ (.a l) v) {k : V → Prop} (hk : vpart (tb u).agg l off (tb u).size k) : ∃ r v', (Instr.field t v i).run P w = .ok v' w ∧ k r ∧ VRep g w σ r v' := by
  obtain ⟨fields, h3, h4⟩ := run_fields hd (tok t)
  subst h4
  obtain ⟨vs, rfl, hl⟩ := hx
  rw [List.getElem?_map] at hf
  cases hx : fields.toList[i]? with
  | none => rw [hx] at hf; cases hf
  | some f =>
    rw [hx] at hf
    cases hf
    rw [Array.getElem?_toList] at hx
    obtain ⟨r, v, h5, h6, h7⟩ := run_part (tok f.type) hu hl hk
    refine ⟨r, v, ?_, h6, h7⟩
    simp only [Instr.field, Sem.run_bind, run_underlying h3, Result.andThen, hx, asAgg, Sem.run_pure, h5]
theorem run_indexRow {e : TypeId} (tok : TabOk P tb) (hd : (tb t).d = .slice e) (he : (tb e).d ≠ .no) {j : Int} {n cap b o : Nat} {kd : IntKind} (hj : 0 ≤ j ∧ j < n) :
    (Instr.indexAt t (.slice (some ⟨b, o, none⟩) n cap) (.int kd j)).run P w = .ok (.pointer (some ⟨b, o + j.toNat * (tb e).size, none⟩)) w := by
  have h3 := (tok t).fits
  rw [hd] at h3
  simp only [Instr.indexAt, asIntOf, Sem.run_bind, Sem.run_pure, Result.andThen, run_underlying h3, if_pos hj, run_sizeOf (tok e) he, add_addr]
theorem run_indexArr {e : TypeId} (tok : TabOk P tb) {n : Nat} (hd : (tb t).d = .array n e) (he : (tb e).d ≠ .no) {j : Int} {b o : Nat} {kd : IntKind} (hj : 0 ≤ j ∧ j < n) :
    (Instr.indexAt t (.pointer (some ⟨b, o, none⟩)) (.int kd j)).run P w = .ok (.pointer (some ⟨b, o + j.toNat * (tb e).size, none⟩)) w := by
  have h3 := (tok t).fits
  rw [hd] at h3
  simp only [Instr.indexAt, asIntOf, Sem.run_bind, Sem.run_pure, Result.andThen, run_underlying h3, if_pos hj, run_sizeOf (tok e) he, add_addr, Instr.sureAddr]
theorem indexAddr_ok (tok : TabOk P tb) (hr : Rep g w σ) {x y : V} {u v : Value} (hx : VRep g w σ x u) (hy : VRep g w σ y v) {k : V → Prop} (hk : vindexAddr prims tb t x y σ k) :
    ∃ r v', (Instr.indexAt t u v).run P w = .ok v' w ∧ k r ∧ VRep g w σ r v' := by
  unfold vindexAddr at hk
  split at hk
  · rename_i e n cs kd j hd
    have hv : v = .int kd j := hy
    subst hv
    have hk' : (tb e).d ≠ .no ∧ (0 ≤ j ∧ j < n) ∧ k (.c (.ep cs (j.toNat * (tb e).size))) := by
      split at hk
      · exact hk.elim
      · rename_i hn; exact ⟨fun h => hn (h ▸ rfl), hk⟩
    obtain ⟨he, hj, hk⟩ := hk'
    obtain ⟨a, cap, rfl, h1, h2, h3⟩ := hx
    rcases h3 with ⟨_, rfl, rfl⟩ | ⟨b, o, rfl, h3⟩
    · omega
    · exact ⟨_, _, run_indexRow tok hd he hj, hk, ⟨b, o, rfl, h3⟩⟩
  · rename_i e o ep n kd j hd
    have hv : v = .int kd j := hy
    subst hv
    have hk' : (tb e).d ≠ .no ∧ ∃ wr sz l, σ[o]? = some (.arr wr ep sz l) ∧ (0 ≤ j ∧ j < n) ∧ k (.c (.pa o ep (j.toNat * (tb e).size))) := by
      split at hk
      · exact hk.elim
      · rename_i ho hn
        rename_i wr e0 sz l
        obtain ⟨h1, h2, h3⟩ := hk
        have h1' : ep = e0 := h1
        subst h1'
        exact ⟨fun h => hn (h ▸ rfl), _, _, _, ho, h2, h3⟩
      · exact hk.elim
    obtain ⟨he, wr, sz, l, ho, hj, hk⟩ := hk'
    obtain ⟨_, ob, h1, h2⟩ := hx
    rw [ho] at h1; cases h1
    obtain ⟨_, h3⟩ := h2
    obtain ⟨rfl, h4, h5⟩ := h3 rfl
    rcases hr.ob o _ ho with ⟨k1, k2, k3⟩ | ⟨c, vs, T, fz, rest, k1, _⟩
    · omega
    · rw [k1]
      refine ⟨_, _, run_indexRow tok hd he hj, hk, ⟨rfl, _, ho, Nat.le_refl _, fun _ => ⟨c, k1, ?_⟩⟩⟩
      simp
  · rename_i n e o off kd j hd
    have hv : v = .int kd j := hy
    subst hv
    have hk' : (tb e).d ≠ .no ∧ 0 ≤ j ∧ j < n ∧ k (.c (.ptr o (off + j.toNat * (tb e).size))) := by
      split at hk
      · exact hk.elim
      · rename_i hn; exact ⟨fun h => hn (h ▸ rfl), hk⟩
    obtain ⟨he, h0, hj, hk⟩ := hk'
    obtain ⟨b, ob, h1, rfl, h2, h3⟩ := hx
    exact ⟨_, _, run_indexArr tok hd he ⟨h0, hj⟩, hk, ⟨b, ob, h1, rfl, h2, h3⟩⟩
  · rename_i n e cs off kd j hd
    have hv : v = .int kd j := hy
    subst hv
    have hk' : (tb e).d ≠ .no ∧ 0 ≤ j ∧ j < n ∧ k (.c (.ep cs (off + j.toNat * (tb e).size))) := by
      split at hk
      · exact hk.elim
      · rename_i hn; rw [← vmore_eq]; exact ⟨fun h => hn (h ▸ rfl), hk⟩
    obtain ⟨he, h0, hj, hk⟩ := hk'
    obtain ⟨b, o, rfl, h1⟩ := hx
    exact ⟨_, _, run_indexArr tok hd he ⟨h0, hj⟩, hk, ⟨b, o, by rw [Nat.add_assoc], h1⟩⟩
  · rename_i n e o ep off kd j hd
    have hv : v = .int kd j := hy
    subst hv
    have hk' : (tb e).d ≠ .no ∧ ∃ wr sz l, σ[o]? = some (.arr wr ep sz l) ∧ 0 ≤ j ∧ j < n ∧ k (.c (.pa o ep (off + j.toNat * (tb e).size))) := by
      split at hk
      · exact hk.elim
      · rename_i ho hn
        rename_i wr e0 sz l
        obtain ⟨h1, h2, h3, h4⟩ := hk
        have h1' : ep = e0 := h1
        subst h1'
        rw [vmore_eq] at h4
        exact ⟨fun h => hn (h ▸ rfl), _, _, _, ho, h2, h3, h4⟩
      · exact hk.elim
    obtain ⟨he, wr, sz, l, ho, h0, hj, hk⟩ := hk'
    obtain ⟨b, rfl, h1⟩ := pa_move hr hx ho (j.toNat * (tb e).size)
    exact ⟨_, _, run_indexArr tok hd he ⟨h0, hj⟩, hk, h1⟩
  · exact hk.elim
theorem index_ok (tok : TabOk P tb) {x y : V} {u v : Value} (hx : VRep g w σ x u) (hy : VRep g w σ y v) {k : V → Prop} (hk : vindex prims tb t x y k) :
    ∃ r v', (Instr.index t u v).run P w = .ok v' w ∧ k r ∧ VRep g w σ r v' := by
  unfold vindex at hk
  split at hk
  · rename_i s kd j hd
    have e1 : v = .int kd j := hy
    have e2 := rep_str hx
    subst e1 e2
    obtain ⟨hj, hk⟩ := hk
    have h3 := (tok t).fits
    rw [hd] at h3
    have hj' : 0 ≤ j ∧ j < s.length := hj
    refine ⟨_, .int .u8 (s.getD j.toNat 0).toNat, ?_, hk, rfl⟩
    have hb : (ByteArray.mk s.toArray)[j.toNat]? = some (s.getD j.toNat 0) := by
      have hlt : j.toNat < s.length := by omega
      have : j.toNat < (ByteArray.mk s.toArray).size := hlt
      rw [getElem?_pos (ByteArray.mk s.toArray) j.toNat this]
      congr 1
      simp [List.getD_eq_getElem?_getD, hlt]
      rfl
    simp only [Instr.index, asIntOf, Sem.run_bind, Sem.run_pure, Result.andThen, run_underlying h3, if_pos hj'.1, hb]
  · rename_i n e l kd j hd
    have e1 : v = .int kd j := hy
    subst e1
    obtain ⟨vs, rfl, hl⟩ := hx
    have h3 := (tok t).fits
    rw [hd] at h3
    have hk' : (tb e).d ≠ .no ∧ (0 ≤ j ∧ j < n) ∧ vpart (tb e).agg l (j.toNat * (tb e).size) (tb e).size k := by
      split at hk
      · exact hk.elim
      · rename_i hn; exact ⟨fun h => hn (h ▸ rfl), ⟨hk.1, hk.2.1⟩, hk.2.2⟩
    obtain ⟨he, hj, hk⟩ := hk'
    obtain ⟨r, v', h5, h6, h7⟩ := run_part (tok e) he hl hk
    refine ⟨r, v', ?_, h6, h7⟩
    simp only [Instr.index, asIntOf, Sem.run_bind, Sem.run_pure, Result.andThen, run_underlying h3, if_pos hj, run_sizeOf (tok e) he, h5]
  · exact hk.elim
theorem len_ok (tok : TabOk P tb) {at' : Array TypeId} {T : TypeId} (h0 : at'[0]? = some t) (hd : (tb t).d = .str ∨ ∃ e, (tb t).d = .slice e) {x : V} {u : Value} (hx : VRep g w σ x u) {k : V → Prop} (hk : vlen prims (tb t).d x σ k) :
    ∃ r v', (Builtin.len_ at' T #[u]).run P w = .ok v' w ∧ k r ∧ VRep g w σ r v' := by
  have h3 := (tok t).fits
  unfold vlen at hk
  split at hk
  · rename_i s hd'
    have e2 := rep_str hx
    subst e2
    rw [hd'] at h3
    exact ⟨_, _, by simp only [Builtin.len_, h0, List.getElem?_toArray, List.getElem?_cons_zero, Sem.run_bind, run_underlying h3, Result.andThen, Sem.run_pure, goInt]; rfl, hk, rfl⟩
  · rename_i e hd'
    have e2 : u = .slice none 0 0 := hx
    subst e2
    rw [hd'] at h3
    exact ⟨_, _, by simp only [Builtin.len_, h0, List.getElem?_toArray, List.getElem?_cons_zero, Sem.run_bind, run_underlying h3, Result.andThen, Sem.run_pure, goInt]; rfl, hk, rfl⟩
  · rename_i e n cs hd'
    obtain ⟨a, cap, rfl, _⟩ := hx
    rw [hd'] at h3
    exact ⟨_, _, by simp only [Builtin.len_, h0, List.getElem?_toArray, List.getElem?_cons_zero, Sem.run_bind, run_underlying h3, Result.andThen, Sem.run_pure, goInt]; rfl, hk, rfl⟩
  · rename_i e o ep n hd'
    obtain ⟨_, ob, h1, h2⟩ := hx
    split at hk
    · rename_i wr e0 sz l ho
      rw [ho] at h1; cases h1
      obtain ⟨rfl, _⟩ := h2.2 hk.1
      rw [hd'] at h3
      exact ⟨_, _, by simp only [Builtin.len_, h0, List.getElem?_toArray, List.getElem?_cons_zero, Sem.run_bind, run_underlying h3, Result.andThen, Sem.run_pure, goInt]; rfl, hk.2, rfl⟩
    · exact hk.elim
  · exact hk.elim
end
end Go.Dm
namespace Go.Dm
set_option linter.unusedVariables false
set_option linter.unusedSimpArgs false
section
variable {P : Program} {tb : Tab} {t : TypeId} {g : G} {w : World} {σ : St}
theorem re_arr (hr : Rep g w σ) {i : Nat} {wr : Bool} {e e' sz : Nat} {l l' : List F} (hi : σ[i]? = some (.arr wr e sz l)) (he : e < e') (hM : e' % 8589934592 = e % 8589934592) (hw : wr = false → l.length ≤ l'.length)
    (hv : (g.blk i = none ∧ l' = [] ∧ g.cap i = 0) ∨ ∃ b vs T fz pre rest, g.blk i = some b ∧ w.heap[b]? = some (.cells vs T fz) ∧ FreeR wr e' l'.length vs.size fz ∧ vs.size = g.cap i * sz ∧ g.cap i ≤ maxLen ∧ vs.toList = pre ++ rest ∧ CReps g w σ (l'.map .f) pre) :
    ∃ g', Rep g' w (σ.set i (.arr wr e' sz l')) ∧ Turn g w σ g' w (σ.set i (.arr wr e' sz l')) ∧ g'.blk = g.blk ∧ g'.cap = g.cap := by
  have hg : ∀ {j : Nat} {x : Ob}, (σ.set i (.arr wr e' sz l'))[j]? = some x ↔ (j = i ∧ x = .arr wr e' sz l') ∨ (j ≠ i ∧ σ[j]? = some x) := get_set hi
  have hob := hr.ob i _ hi
  let g' : G := { g with Z := fun c o => g.Z c o ∨ (wr = false ∧ g.blk i = some c ∧ l.length ≤ o ∧ o < l'.length) }
  have hown : ∀ c o, Own g' (σ.set i (.arr wr e' sz l')) c o → Own g σ c o := by
    intro c o ho
    obtain ⟨j, x, h1, h2, h3⟩ := own_iff.1 ho
    rcases hg.1 h1 with ⟨rfl, rfl⟩ | ⟨h4, h5⟩
    · refine own_iff.2 ⟨j, _, hi, h2, ?_⟩
      cases wr with
      | true => trivial
      | false => exact Nat.le_trans (hw rfl) h3
    · exact own_iff.2 ⟨j, x, h5, h2, h3⟩
  have ht : Turn g w σ g' w (σ.set i (.arr wr e' sz l')) :=
    { os := rfl, tape := rfl, output := rfl, size := Nat.le_refl _, whole := fun _ _ _ => rfl, zs := fun c o hz => ⟨.inl hz, rfl⟩,
      znew := fun c o _ hz => hz.imp id fun ⟨h0, h1, h2, _⟩ => own_iff.2 ⟨i, _, hi, h1, by subst h0; exact h2⟩,
      onew := fun c o _ ho => hown c o ho,
      turns := fun j x hx => by
        by_cases h : j = i
        · subst h
          rw [hi] at hx; cases hx
          exact ⟨_, hg.2 (.inl ⟨rfl, rfl⟩), .inl he⟩
        · exact ⟨x, hg.2 (.inr ⟨h, hx⟩), by cases x <;> simp [ObTurn, g']⟩,
      blks := fun _ _ _ _ => rfl }
  refine ⟨g', ⟨?_, ?_, ?_, ?_⟩, ht, rfl, rfl⟩
  · intro j x hx
    rcases hg.1 hx with ⟨rfl, rfl⟩ | ⟨h4, h5⟩
    · rcases hv with h | ⟨b, vs, T, fz, pre, rest, h1, h2, h3, h4, h5, h6, h7⟩
      · exact .inl h
      · have hl7 := h7.length
        refine .inr ⟨b, vs, T, fz, rest, h1, h2, h3, h4, h5, ⟨pre, h6, by simpa using hl7, fun k a c => ?_⟩, fun h0 k hk => ?_, ?_⟩
        · obtain ⟨v, q1, q2⟩ := h7.get (i := k) (c := .f l'[k]) (by simp [a])
          rw [List.getElem?_eq_getElem c] at q1
          cases q1
          exact FRep.turn ht.zs _ _ q2
        · by_cases hlt : k < l.length
          · left
            subst h0
            rcases hob with ⟨q1, _, _⟩ | ⟨c, vs', T', fz', rest', q1, _, _, _, _, _, q9⟩
            · rw [h1] at q1; cases q1
            · rw [h1] at q1; cases q1
              exact q9.1 rfl k hlt
          · exact .inr ⟨h0, h1, by omega, hk⟩
        · rcases hob with ⟨q1, _, _⟩ | ⟨c, vs', T', fz', rest', q1, q2, _, _, _, _, q9⟩
          · rw [h1] at q1; cases q1
          · rw [h1] at q1; cases q1
            rw [h2] at q2; cases q2
            exact ⟨by rw [q9.2.1]; exact par_mod hM, fun h => q9.2.2 (par_odd hM h)⟩
    · exact (hr.ob j x h5).keep ht (fun _ _ => rfl) rfl rfl
  · intro j k x y c hj hk lx ly hbj hbk
    have get : ∀ {m : Nat} {z : Ob}, (σ.set i (.arr wr e' sz l'))[m]? = some z → live z = true → ∃ z', σ[m]? = some z' ∧ live z' = true := by
      intro m z hz lz
      rcases hg.1 hz with ⟨rfl, rfl⟩ | ⟨h4, h5⟩
      · exact ⟨_, hi, rfl⟩
      · exact ⟨z, h5, lz⟩
    obtain ⟨x', hx', lx'⟩ := get hj lx
    obtain ⟨y', hy', ly'⟩ := get hk ly
    exact hr.inj j k x' y' c hx' hy' lx' ly' hbj hbk
  · intro c o hz ho
    rcases hz with hz | ⟨h0, h1, h2, h3⟩
    · exact hr.apart c o hz (hown c o ho)
    · obtain ⟨j, x, k1, k2, k3⟩ := own_iff.1 ho
      rcases hg.1 k1 with ⟨rfl, rfl⟩ | ⟨k4, k5⟩
      · subst h0
        have k3' : l'.length ≤ o := k3
        omega
      · have hlx : live x = true := by cases x <;> simp_all [live, ownAt]
        exact k4 (hr.inj j i x _ c k5 hi hlx rfl k2 h1)
  · intro c o hz
    rcases hz with hz | ⟨_, h1, _, _⟩
    · exact hr.inside c o hz
    · exact hob.inside rfl h1
theorem tail_arr (hr : Rep g w σ) {i b : Nat} {wr : Bool} {e sz : Nat} {l : List F} (hi : σ[i]? = some (.arr wr e sz l)) (hb : g.blk i = some b) {vs : Array Value} {T : TypeId} {fz : Nat × Nat} (hO : w.heap[b]? = some (.cells vs T fz)) (hf : FreeR wr e l.length vs.size fz)
    (hc : vs.size = g.cap i * sz) (hm : g.cap i ≤ maxLen) {news : List Value} (hfit : l.length + news.length ≤ vs.size) :
    Rep g (w.at b (.cells (vs.toList.take l.length ++ news ++ vs.toList.drop (l.length + news.length)).toArray T fz)) σ ∧
    Turn g w σ g (w.at b (.cells (vs.toList.take l.length ++ news ++ vs.toList.drop (l.length + news.length)).toArray T fz)) σ := by
  have hlt : b < w.heap.size := (Array.getElem?_eq_some_iff.1 hO).1
  have hset : σ.set i (.arr wr e sz l) = σ := by
    apply List.ext_getElem?
    intro j
    rw [List.getElem?_set]
    split
    · rename_i h; subst h; rw [if_pos (lt_of_get hi), hi]
    · rfl
  have hsz : (vs.toList.take l.length ++ news ++ vs.toList.drop (l.length + news.length)).length = vs.size := by simp; omega
  have ht := write_turn (ob' := .arr wr e sz l) (O' := .cells (vs.toList.take l.length ++ news ++ vs.toList.drop (l.length + news.length)).toArray T fz) hr hi hb rfl hO
    (fun o hz => by
      have hno := hr.apart b o hz
      have hlo : o < l.length := by
        rcases Nat.lt_or_ge o l.length with h | h
        · exact h
        · exact (hno (own_iff.2 ⟨i, _, hi, hb, by cases wr with | true => trivial | false => exact h⟩)).elim
      rw [cell_of (at_same hlt), cell_of hO]
      simp only [List.append_assoc]
      rw [List.getElem?_append_left (by simp; omega), List.getElem?_take, if_pos hlo])
    (by right; exact ⟨rfl, rfl, rfl, rfl, rfl⟩) (fun _ h => h)
  have hr' := write_rep (ob' := .arr wr e sz l) hr hi hb rfl ht (fun _ => rfl) (fun _ h => h) (by
    rcases hr.ob i _ hi with ⟨h1, _, _⟩ | ⟨c, vs', T', fz', rest, h1, h2, h3, h4, h5, ⟨pre, h6, h7, h8⟩, h9⟩
    · rw [hb] at h1; cases h1
    · rw [hb] at h1; cases h1
      rw [hO] at h2; cases h2
      refine .inr ⟨b, _, T, fz, news ++ vs.toList.drop (l.length + news.length), hb, at_same hlt, by rw [List.size_toArray, hsz]; exact hf, by rw [List.size_toArray, hsz]; exact hc, hm, ⟨pre, ?_, h7, fun j a c => FRep.turn ht.zs _ _ (h8 j a c)⟩, h9⟩
      have : vs.toList.take l.length = pre := by rw [h6, ← h7]; exact List.take_left
      rw [this]
      simp [List.append_assoc])
  rw [hset] at ht hr'
  exact ⟨hr', ht⟩
theorem drew_rep (hr : Rep g w σ) : Rep g w.drew σ ∧ Turn g w σ g w.drew σ := by
  have ht : Turn g w σ g w.drew σ :=
    ⟨rfl, rfl, rfl, Nat.le_refl _, fun _ _ _ => rfl, fun _ _ h => ⟨h, rfl⟩, fun _ _ _ h => .inl h, fun _ _ _ h => h, fun i ob h => ⟨ob, h, by cases ob <;> simp [ObTurn]⟩, fun _ _ _ _ => rfl⟩
  exact ⟨⟨fun i ob h => (hr.ob i ob h).keep ht (fun _ _ => rfl) rfl rfl, hr.inj, hr.apart, hr.inside⟩, ht⟩
theorem move_arr (hr : Rep g w σ) {i : Nat} {wr : Bool} {e sz : Nat} {l l' : List F} (hi : σ[i]? = some (.arr wr e sz l)) (T : TypeId) {e' : Nat} (he : e < e') (hT : T = e' % 4294967296) (cap : Nat) (hz : e' / 4294967296 % 2 = 0 → cap ≠ 0) {vs : List Value} (hc : vs.length = cap * sz) (hm : cap ≤ maxLen) {pre rest : List Value} (hv : vs = pre ++ rest)
    (hl : CReps g w σ (l'.map .f) pre) :
    ∃ g', Rep g' (w.alloc (.cells vs.toArray T)) (σ.set i (.arr wr e' sz l')) ∧ Turn g w σ g' (w.alloc (.cells vs.toArray T)) (σ.set i (.arr wr e' sz l')) ∧ g'.blk i = some w.heap.size ∧ g'.cap i = cap := by
  have hg : ∀ {j : Nat} {x : Ob}, (σ.set i (.arr wr e' sz l'))[j]? = some x ↔ (j = i ∧ x = .arr wr e' sz l') ∨ (j ≠ i ∧ σ[j]? = some x) := get_set hi
  let g' : G := { Z := fun c o => g.Z c o ∨ (wr = false ∧ c = w.heap.size ∧ o < l'.length), blk := fun j => if j = i then some w.heap.size else g.blk j, cap := fun j => if j = i then cap else g.cap j }
  have hown : ∀ c o, c < w.heap.size → Own g' (σ.set i (.arr wr e' sz l')) c o → Own g σ c o := by
    intro c o hc ho
    obtain ⟨j, x, h1, h2, h3⟩ := own_iff.1 ho
    rcases hg.1 h1 with ⟨rfl, rfl⟩ | ⟨h4, h5⟩
    · simp [g'] at h2; omega
    · exact own_iff.2 ⟨j, x, h5, by simpa [g', h4] using h2, h3⟩
  have ht : Turn g w σ g' (w.alloc (.cells vs.toArray T)) (σ.set i (.arr wr e' sz l')) :=
    { os := rfl, tape := rfl, output := rfl, size := by show w.heap.size ≤ (w.heap.push _).size; simp, whole := fun b hb _ => heap_push_old hb,
      zs := fun c o hz => ⟨.inl hz, cell_push_old (hr.inside c o hz)⟩,
      znew := fun c o hc hz => hz.imp id fun ⟨_, h1, _⟩ => absurd hc (by omega),
      onew := fun c o hc ho => hown c o hc ho,
      turns := fun j x hx => by
        by_cases h : j = i
        · subst h
          rw [hi] at hx; cases hx
          exact ⟨_, hg.2 (.inl ⟨rfl, rfl⟩), .inl he⟩
        · exact ⟨x, hg.2 (.inr ⟨h, hx⟩), by cases x <;> simp [ObTurn, g', h]⟩,
      blks := fun j x hx hrow => by
        by_cases h : j = i
        · subst h
          rw [hi] at hx; cases hx
          simp [Ob.row] at hrow
        · simp [g', h] }
  refine ⟨g', ⟨?_, ?_, ?_, ?_⟩, ht, by simp [g'], by simp [g']⟩
  · intro j x hx
    rcases hg.1 hx with ⟨rfl, rfl⟩ | ⟨h4, h5⟩
    · have hl7 := hl.length
      refine .inr ⟨w.heap.size, vs.toArray, T, (0, 0), rest, by simp [g'], heap_push_new, .inl rfl, by simpa [g'] using hc, by simpa [g'] using hm, ⟨pre, by simpa using hv, by simpa using hl7, fun k a c => ?_⟩, fun h0 k hk => .inr ⟨h0, rfl, hk⟩, hT, by simpa [g'] using hz⟩
      obtain ⟨v, q1, q2⟩ := hl.get (i := k) (c := .f l'[k]) (by simp [a])
      rw [List.getElem?_eq_getElem c] at q1
      cases q1
      exact FRep.turn ht.zs _ _ q2
    · by_cases hl : live x = true
      · exact (hr.ob j x h5).keep ht (fun b hb => heap_push_old ((hr.ob j x h5).inside hl hb)) (by simp [g', h4]) (by simp [g', h4])
      · cases x <;> simp_all [live, ObRep]
  · intro j k x y c hj hk lx ly hbj hbk
    have get : ∀ {m : Nat} {z : Ob}, (σ.set i (.arr wr e' sz l'))[m]? = some z → live z = true → g'.blk m = some c → (m = i ∧ c = w.heap.size) ∨ (m ≠ i ∧ σ[m]? = some z ∧ g.blk m = some c ∧ c < w.heap.size) := by
      intro m z hz lz hb
      rcases hg.1 hz with ⟨rfl, rfl⟩ | ⟨h4, h5⟩
      · left; simp [g'] at hb; exact ⟨rfl, hb.symm⟩
      · right
        simp only [g', h4, if_false] at hb
        exact ⟨h4, h5, hb, (hr.ob m z h5).inside lz hb⟩
    rcases get hj lx hbj with ⟨h1, h2⟩ | ⟨h1, h2, h3, h4⟩ <;> rcases get hk ly hbk with ⟨k1, k2⟩ | ⟨k1, k2, k3, k4⟩
    · omega
    · omega
    · omega
    · exact hr.inj j k x y c h2 k2 lx ly h3 k3
  · intro c o hz ho
    rcases hz with hz | ⟨h0, rfl, h2⟩
    · exact hr.apart c o hz (hown c o (hr.inside c o hz) ho)
    · obtain ⟨j, x, k1, k2, k3⟩ := own_iff.1 ho
      rcases hg.1 k1 with ⟨rfl, rfl⟩ | ⟨k4, k5⟩
      · subst h0
        have k3' : l'.length ≤ o := k3
        omega
      · have hlx : live x = true := by cases x <;> simp_all [live, ownAt]
        simp only [g', k4, if_false] at k2
        have := (hr.ob j x k5).inside hlx k2
        omega
  · intro c o hz
    show c < (w.heap.push _).size
    rw [Array.size_push]
    rcases hz with hz | ⟨_, rfl, _⟩
    · have := hr.inside c o hz; omega
    · omega
theorem frow_vals {cs : List F} {b o : Nat} (h : FRow g w b o cs) : ∃ vs : List Value, vs.length = cs.length ∧ (∀ j v, vs[j]? = some v → w.cell? ⟨b, o + j, none⟩ = some v) ∧ CReps g w σ (cs.map .f) vs := by
  induction cs generalizing o with
  | nil => exact ⟨[], rfl, by simp, rfl⟩
  | cons y r ih =>
    obtain ⟨_, ⟨v, hv, hy⟩, hrr⟩ := h
    obtain ⟨vs, h3, h4, h5⟩ := ih hrr
    refine ⟨v :: vs, by simp [h3], fun j u hj => ?_, v, vs, rfl, hy, h5⟩
    cases j with
    | zero => simp at hj; subst hj; exact hv
    | succ j =>
      rw [show o + (j + 1) = o + 1 + j from by omega]
      exact h4 j u (by simpa using hj)
theorem arr_vals (hr : Rep g w σ) {i : Nat} {wr : Bool} {e sz : Nat} {l : List F} (hi : σ[i]? = some (.arr wr e sz l)) {b : Nat} (hb : g.blk i = some b) :
    ∃ vs : List Value, vs.length = l.length ∧ (∀ j v, vs[j]? = some v → w.cell? ⟨b, j, none⟩ = some v) ∧ CReps g w σ (l.map .f) vs := by
  rcases hr.ob i _ hi with ⟨k1, _, _⟩ | ⟨c, vs, T, fz, rest, k1, k2, k3, k4, k5, ⟨pre, k6, k7, k8⟩, k9⟩
  · rw [hb] at k1; cases k1
  · rw [hb] at k1; cases k1
    refine ⟨pre, k7, fun j v hv => ?_, freps k7 k8⟩
    rw [cell_of k2, k6, List.getElem?_append_left (List.getElem?_eq_some_iff.1 hv).1]
    exact hv
theorem src_ok (tok : TabOk P tb) (hr : Rep g w σ) {u : TypeId} {sz : Nat} {y : V} {v : Value} (hy : VRep g w σ y v) {k : Nat → List F → Prop} (hk : vsrc prims (tb u).d sz y σ k) :
    ∃ m new news, k m new ∧ (Builtin.lenOf v).run P w = .ok m w ∧ (∀ w2, w2 = w ∨ w2 = w.drew → (Builtin.firstCells sz m v).run P w2 = .ok news.toArray w2) ∧ news.length = m * sz ∧ CReps g w σ (new.map .f) news ∧
      ((∃ d, P.underlying u = some (.slice d)) ∨ P.underlying u = some .string) := by
  have h3 := (tok u).fits
  unfold vsrc at hk
  split at hk
  · rename_i e hd
    rw [hd] at h3
    have : v = .slice none 0 0 := hy
    subst this
    exact ⟨0, [], [], hk, rfl, fun w2 _ => by simp [Builtin.firstCells], by simp, rfl, .inl ⟨_, h3⟩⟩
  · rename_i e n cs hd
    rw [hd] at h3
    obtain ⟨hlen, hk⟩ := hk
    have hlen' : cs.length = n * sz := hlen
    obtain ⟨a, cap, rfl, h4, h5, h6⟩ := hy
    rcases h6 with ⟨_, rfl, rfl⟩ | ⟨b, o, rfl, h6⟩
    · cases a with
      | none => exact ⟨0, [], [], hk, rfl, fun w2 _ => by simp [Builtin.firstCells], by simp, rfl, .inl ⟨_, h3⟩⟩
      | some ad => exact ⟨0, [], [], hk, rfl, fun w2 _ => run_firstCells_some w2 sz 0 ad 0 cap [] (by simp) (fun j u hu => by simp at hu), by simp, rfl, .inl ⟨_, h3⟩⟩
    · obtain ⟨vs, q1, q2, q3⟩ := frow_vals (σ := σ) h6
      refine ⟨n, cs, vs, hk, rfl, fun w2 h2 => run_firstCells_some w2 sz n ⟨b, o, none⟩ n cap vs (by omega) (fun j u hu => ?_), by omega, q3, .inl ⟨_, h3⟩⟩
      rw [add_addr]
      rcases h2 with rfl | rfl
      · exact q2 j u hu
      · exact q2 j u hu
  · rename_i e o ep n hd
    rw [hd] at h3
    split at hk
    · rename_i wr e0 s0 l ho
      obtain ⟨he, hs, hk⟩ := hk
      have he' : ep = e0 := he
      have hs' : sz = s0 := hs
      subst he' hs'
      obtain ⟨_, ob, h1, h2⟩ := hy
      rw [ho] at h1; cases h1
      obtain ⟨rfl, h4, h5⟩ := h2.2 rfl
      cases hb : g.blk o with
      | none =>
        rcases hr.ob o _ ho with ⟨k1, k2, k3⟩ | ⟨c, vs, T, fz, rest, k1, _⟩
        · have hn : n = 0 := by omega
          subst hn k2
          exact ⟨0, [], [], hk, rfl, fun w2 _ => by simp [Builtin.firstCells], by simp, rfl, .inl ⟨_, h3⟩⟩
        · rw [hb] at k1; cases k1
      | some b =>
        obtain ⟨vs, q1, q2, q3⟩ := arr_vals hr ho hb
        refine ⟨n, l, vs, hk, rfl, fun w2 h2 => run_firstCells_some w2 sz n ⟨b, 0, none⟩ n _ vs (by omega) (fun j u hu => ?_), by omega, q3, .inl ⟨_, h3⟩⟩
        rw [add_addr, Nat.zero_add]
        rcases h2 with rfl | rfl
        · exact q2 j u hu
        · exact q2 j u hu
    · exact hk.elim
  · rename_i s hd
    rw [hd] at h3
    obtain ⟨hs, hk⟩ := hk
    have hs' : sz = 1 := hs
    subst hs'
    have := rep_str hy
    subst this
    refine ⟨s.length, _, (s.map fun b => Value.int .u8 b.toNat), hk, rfl, fun w2 _ => ?_, by simp, ?_, .inr h3⟩
    · simp only [Builtin.firstCells, Sem.run_pure]
      congr 1
      apply Array.ext'
      have e : ((ByteArray.mk s.toArray).extract 0 s.length).data = s.toArray := by
        rw [ByteArray.data_extract]
        show s.toArray.extract 0 s.length = s.toArray
        simp
      rw [e]
      simp
    · have : ∀ s : List UInt8, CReps g w σ ((s.map fun b => F.int .u8 b.toNat).map .f) (s.map fun b => Value.int .u8 b.toNat) := by
        intro s
        induction s with
        | nil => rfl
        | cons b r ih => exact ⟨_, _, rfl, rfl, ih⟩
      exact this s
  · exact hk.elim
end
end Go.Dm
namespace Go.Dm
set_option linter.unusedVariables false
set_option linter.unusedSimpArgs false
section
variable {P : Program} {tb : Tab} {t : TypeId} {g : G} {w : World} {σ : St}
theorem app_room {u e : TypeId} {i : TypeInfo} (ht : P.underlying t = some (.slice e)) (hu : (∃ d, P.underlying u = some (.slice d)) ∨ P.underlying u = some .string) (hi : P.info? e = some i) {T : TypeId} {v : Value} {m : Nat} {news : List Value}
    (hl : (Builtin.lenOf v).run P w = .ok m w) (hf : (Builtin.firstCells i.size m v).run P w = .ok news.toArray w) (base : Option Addr) (sLen sCap : Nat) (hroom : sLen + m ≤ sCap) :
    (Builtin.append_ #[t, u] T #[.slice base sLen sCap, v]).run P w = (do (match base with | some a => storeCells (a.add (sLen * i.size)) news | none => pure ()); pure (.slice base (sLen + m) sCap) : Sem Value).run P w := by
  rcases hu with ⟨d, h1⟩ | h1 <;> cases base <;> simp [Builtin.append_, run_underlying ht, run_underlying h1, sizeOf, typeInfo, hi, hl, hroom, hf]
theorem app_grow {u e : TypeId} {i : TypeInfo} {z : Value} (ht : P.underlying t = some (.slice e)) (hu : (∃ d, P.underlying u = some (.slice d)) ∨ P.underlying u = some .string) (hi : P.info? e = some i) (hz : i.zero = some z) {T : TypeId} {v : Value} {m : Nat} {olds news : List Value}
    (hl : (Builtin.lenOf v).run P w = .ok m w) (hf : (Builtin.firstCells i.size m v).run P w.drew = .ok news.toArray w.drew) (base : Option Addr) (sLen sCap : Nat) (hfo : (Builtin.firstCells i.size sLen (.slice base sLen sCap)).run P w.drew = .ok olds.toArray w.drew)
    (hg : sCap < sLen + m) (h63 : ((sLen + m : Nat) : Int) ≤ 9223372036854775807) (hfit : Builtin.nextslicecap (sLen + m) sCap * i.bytes ≤ 281474976710656) :
    (Builtin.append_ #[t, u] T #[.slice base sLen sCap, v]).run P w =
      .ok (.slice (some ⟨w.heap.size, 0, none⟩) (sLen + m) (grownCap w (sLen + m) sCap e))
        (w.drew.alloc (.cells (olds ++ news ++ (Builtin.zeroCells z.cells (grownCap w (sLen + m) sCap e - (sLen + m))).toList).toArray e)) := by
  have hn : ¬ (sLen + m ≤ sCap) := by omega
  have h63' : ¬ (9223372036854775807 < ((sLen : Int) + (m : Int))) := by omega
  have h48' : ¬ (281474976710656 < Builtin.nextslicecap (sLen + m) sCap * i.bytes) := by omega
  rcases hu with ⟨d, h1⟩ | h1 <;> simp [Builtin.append_, run_underlying ht, run_underlying h1, sizeOf, typeInfo, zeroValue, hi, hz, hl, hn, h63', h48', Question.forced, hf, hfo, newRow, grownCap]
  all_goals (congr 2; apply Array.ext'; simp)
theorem run_info (h : (tb t).Ok P t) (hd : (tb t).d ≠ .no) : ∃ j z, P.info? t = some j ∧ j.size = (tb t).size ∧ j.bytes = (tb t).bytes ∧ j.zero = some z ∧ z.cells.size = (tb t).size := by
  rcases h.info with h0 | ⟨j, h1, h2, h3, ⟨z, h4, h5, h6⟩, h7, h8⟩
  · exact (hd h0).elim
  · refine ⟨j, z, h1, h2, h3, h4, ?_⟩
    have := congrArg List.length h5
    simp at this
    omega
theorem append_ok (tok : TabOk P tb) (hr : Rep g w σ) {e u : TypeId} (hd : (tb t).d = .slice e) (he : (tb e).d ≠ .no) {x y : V} {xv yv : Value} (hx : VRep g w σ x xv) (hy : VRep g w σ y yv) {T : TypeId} {k : V → St → Prop}
    (hk : vappend prims (tb u).d e (tb e).size (tb e).bytes x y σ k) :
    ∃ r σ' g' w' v', (Builtin.append_ #[t, u] T #[xv, yv]).run P w = .ok v' w' ∧ k r σ' ∧ Rep g' w' σ' ∧ Turn g w σ g' w' σ' ∧ VRep g' w' σ' r v' := by
  obtain ⟨m, new, news, hk, hlen, hfirst, hnl, hnr, hu⟩ := src_ok tok hr hy hk
  have h3 := (tok t).fits
  rw [hd] at h3
  obtain ⟨j, z, hi, hs, hb, hz, hzs⟩ := run_info (tok e) he
  have hnl' := hnr.length
  simp at hnl'
  have hone : ∀ v ∈ news, v.oneCell' = true := CReps.one (by simp [C.solid]) hnr
  split at hk
  · -- none yet
    have : xv = .slice none 0 0 := hx
    subst this
    by_cases hm : m = 0
    · subst hm
      have hn0 : new = [] := List.eq_nil_of_length_eq_zero (by omega)
      subst hn0
      refine ⟨.c (.f .nils), σ, g, w, .slice none 0 0, ?_, hk, hr, Turn.refl _ _ _, rfl⟩
      rw [app_room (P := P) (w := w) h3 hu hi hlen (by rw [hs]; exact hfirst w (.inl rfl)) none 0 0 (by omega)]
      rfl
    · have hk' : prims.le (prims.atp (Int.ofNat m) (tb e).bytes) 140737488355328 ∧ prims.le m 9223372036854775807 ∧ prims.le e 4294967295 ∧ k (.c (.rs σ.length e m)) (σ ++ [.arr true e (tb e).size new]) := by
        revert hk
        cases m with
        | zero => exact absurd rfl hm
        | succ m => exact id
      have hb1 : m * (tb e).bytes ≤ 140737488355328 := hk'.1
      have hb2 : m ≤ 9223372036854775807 := hk'.2.1
      have hb3 : e ≤ 4294967295 := hk'.2.2.1
      have hk := hk'.2.2.2
      have hcap := grownCap_ge w m 0 e
      have hcm : grownCap w m 0 e ≤ maxLen := grownCap_le_maxLen w m 0 e (by simp only [maxLen]; omega)
      obtain ⟨d1, d2⟩ := drew_rep hr
      have hsz : (news ++ (Builtin.zeroCells z.cells (grownCap w m 0 e - m)).toList).length = grownCap w m 0 e * (tb e).size := by
        simp only [List.length_append, Array.length_toList, size_zeroCells, hzs, hnl, ← Nat.add_mul]
        congr 1; omega
      obtain ⟨g', p1, p2, p3, p4⟩ := new_arr d1 e (tb e).size (grownCap w m 0 e) (l := new) (vs := news ++ (Builtin.zeroCells z.cells (grownCap w m 0 e - m)).toList) (0, 0) e (Nat.mod_eq_of_lt (Nat.lt_succ_of_le hb3)).symm (fun _ => by omega) (.inl rfl) hsz hcm (by simp; omega)
        (fun q a b => by
          rw [List.getElem_append_left (by omega)]
          obtain ⟨v, r1, r2⟩ := hnr.get (i := q) (c := .f new[q]) (by simp [a])
          rw [List.getElem?_eq_getElem (by omega)] at r1
          cases r1
          exact FRep.turn d2.zs _ _ r2)
      refine ⟨_, _, g', _, .slice (some ⟨w.heap.size, 0, none⟩) m (grownCap w m 0 e), ?_, hk, p1, d2.trans p2, ⟨rfl, .arr true e (tb e).size new, by simp, Nat.le_refl _, fun _ => ⟨by rw [p3, p4]; rfl, by omega, by rw [p4]; exact hcap⟩⟩⟩
      have := app_grow (P := P) (w := w) (T := T) h3 hu hi hz (olds := []) hlen (by rw [hs]; exact hfirst _ (.inr rfl)) none 0 0 (by simp [Builtin.firstCells]) (by omega) (by omega) (by rw [Nat.zero_add, hb]; exact growslice_fits (by omega) hb1)
      simpa using this
  · rename_i o ep n _
    split at hk
    · rename_i wr e0 s0 l ho
      obtain ⟨q1, q2, q3, q4, q5, hk⟩ := hk
      have hty : e0 % 4294967296 = e := q5
      have he' : ep = e0 := q1
      have hs' : (tb e).size = s0 := q2
      have hb1 : (n + m) * (tb e).bytes ≤ 140737488355328 := q3
      have hb2 : n + m ≤ 9223372036854775807 := q4
      subst he' hs'
      have hx0 := hx
      obtain ⟨_, ob, h1, h2⟩ := hx
      rw [ho] at h1; cases h1
      obtain ⟨rfl, h4, h5⟩ := h2.2 rfl
      by_cases hroom : n + m ≤ g.cap o
      · -- there is room
        have happ := app_room (P := P) (w := w) (T := T) h3 hu hi hlen (by rw [hs]; exact hfirst w (.inl rfl)) ((g.blk o).map fun b => ⟨b, 0, none⟩) n (g.cap o) hroom
        rcases hr.ob o _ ho with ⟨k1, k2, k3⟩ | ⟨b, vs, T', fz, rest, k1, k2, k3, k4, k5, ⟨pre, k6, k7, k8⟩, k9⟩
        · have hm : m = 0 := by omega
          have hn : n = 0 := by omega
          subst hm hn k2
          have hn0 : new = [] := List.eq_nil_of_length_eq_zero (by omega)
          subst hn0
          obtain ⟨g', p1, p2, p3, p4⟩ := re_arr (e' := ep + 8589934592) (l' := []) hr ho (by omega) (by omega) (fun _ => Nat.le_refl _) (.inl ⟨k1, rfl, k3⟩)
          refine ⟨_, _, g', w, .slice none 0 (g.cap o), ?_, hk, p1, p2, ⟨rfl, .arr wr (ep + 8589934592) (tb e).size [], (get_set ho).2 (.inl ⟨rfl, rfl⟩), Nat.le_refl _, fun _ => ⟨by rw [p3, p4, k1]; rfl, by simp [prims], Nat.zero_le _⟩⟩⟩
          rw [happ, k1]; rfl
        · have hfit : l.length + news.length ≤ vs.size := by rw [← h4, hnl, k4, ← Nat.add_mul]; exact Nat.mul_le_mul_right _ hroom
          obtain ⟨t1, t2⟩ := tail_arr (news := news) hr ho k1 k2 k3 k4 k5 hfit
          have hlt : b < w.heap.size := (Array.getElem?_eq_some_iff.1 k2).1
          have hpre : vs.toList.take l.length = pre := by rw [k6, ← k7]; exact List.take_left
          have hsz : (vs.toList.take l.length ++ news ++ vs.toList.drop (l.length + news.length)).length = vs.size := by simp; omega
          obtain ⟨g', p1, p2, p3, p4⟩ := re_arr (e' := ep + 8589934592) (l' := l ++ new) t1 ho (by omega) (by omega) (fun _ => by simp)
            (.inr ⟨b, _, T', fz, pre ++ news, vs.toList.drop (l.length + news.length), k1, at_same hlt, by rw [List.size_toArray, hsz]; exact k3.mono (Nat.add_mod_right _ _) (fun _ => by simp), by rw [List.size_toArray, hsz]; exact k4, k5, by rw [hpre],
              by rw [List.map_append]; exact CReps.turn t2 _ _ ((freps k7 k8).append hnr)⟩)
          refine ⟨_, _, g', _, .slice (some ⟨b, 0, none⟩) (n + m) (g.cap o), ?_, hk, p1, t2.trans p2, ⟨rfl, .arr wr (ep + 8589934592) (tb e).size (l ++ new), (get_set ho).2 (.inl ⟨rfl, rfl⟩), Nat.le_refl _, fun _ => ⟨by rw [p3, p4, k1]; rfl, by simp only [prims, List.length_append]; rw [← h4, ← hnl', hnl, ← Nat.add_mul], by rw [p4]; exact hroom⟩⟩⟩
          rw [happ, k1]
          have hst := run_storeRow (P := P) b (n * j.size) T' fz news 0 vs w k2 (fun o h1 h2 => k3.at (by rw [hs, h4] at h1; exact h1) h2) (by rw [hs, h4]; simpa using hfit) hone
          simp only [Option.map_some, add_addr, Nat.zero_add, Sem.run_bind, hst, Result.andThen, Sem.run_pure, Nat.add_zero]
          rw [hs, h4, at_eq_setRow k2]
      · -- it moves
        have hcap := grownCap_ge w (n + m) (g.cap o) e
        have hcm : grownCap w (n + m) (g.cap o) e ≤ maxLen := grownCap_le_maxLen w (n + m) (g.cap o) e (by simp only [maxLen]; omega)
        obtain ⟨d1, d2⟩ := drew_rep hr
        have hold : ∃ olds : List Value, olds.length = n * (tb e).size ∧ CReps g w σ (l.map .f) olds ∧ (Builtin.firstCells j.size n (.slice ((g.blk o).map fun b => ⟨b, 0, none⟩) n (g.cap o))).run P w.drew = .ok olds.toArray w.drew := by
          cases hbk : g.blk o with
          | none =>
            rcases hr.ob o _ ho with ⟨k1, k2, k3⟩ | ⟨c, vs, T, fz, rest, k1, _⟩
            · subst k2
              have hn : n = 0 := by omega
              subst hn
              exact ⟨[], by simp, rfl, by simp [Builtin.firstCells]⟩
            · rw [hbk] at k1; cases k1
          | some b =>
            obtain ⟨vs, r1, r2, r3⟩ := arr_vals hr ho hbk
            refine ⟨vs, by omega, r3, run_firstCells_some w.drew j.size n ⟨b, 0, none⟩ n _ vs (by rw [hs]; omega) (fun q u hu => ?_)⟩
            rw [add_addr, Nat.zero_add]
            exact r2 q u hu
        obtain ⟨olds, o1, o2, o3⟩ := hold
        have happ := app_grow (P := P) (w := w) (T := T) h3 hu hi hz hlen (by rw [hs]; exact hfirst _ (.inr rfl)) ((g.blk o).map fun b => ⟨b, 0, none⟩) n (g.cap o) o3 (by omega) (by omega) (by rw [hb]; exact growslice_fits (by omega) hb1)
        have hsz : (olds ++ news ++ (Builtin.zeroCells z.cells (grownCap w (n + m) (g.cap o) e - (n + m))).toList).length = grownCap w (n + m) (g.cap o) e * (tb e).size := by
          simp only [List.length_append, Array.length_toList, size_zeroCells, hzs, hnl, o1, ← Nat.add_mul]
          congr 1; omega
        obtain ⟨g', p1, p2, p3, p4⟩ := move_arr (l' := l ++ new) d1 ho e (e' := ep + 8589934592) (by omega) (hty.symm.trans (par_mod (Nat.add_mod_right _ _))) (grownCap w (n + m) (g.cap o) e) (fun _ => by omega) hsz hcm (pre := olds ++ news) rfl (by rw [List.map_append]; exact CReps.turn d2 _ _ (o2.append hnr))
        refine ⟨_, _, g', _, _, happ, hk, p1, d2.trans p2, ⟨rfl, .arr wr (ep + 8589934592) (tb e).size (l ++ new), (get_set ho).2 (.inl ⟨rfl, rfl⟩), Nat.le_refl _, fun _ => ⟨by rw [p3, p4]; rfl, by simp only [prims, List.length_append]; rw [← h4, ← hnl', hnl, ← Nat.add_mul], by rw [p4]; exact hcap⟩⟩⟩
    · exact hk.elim
  · exact hk.elim
end
end Go.Dm
namespace Go.Dm
set_option linter.unusedVariables false
set_option linter.unusedSimpArgs false
section
variable {P : Program} {tb : Tab} {t : TypeId} {g : G} {w : World} {σ : St}
theorem cut_row {cs : List F} {a : Option Addr} {n cap sz lo hi : Nat} (h1 : n ≤ cap) (h3 : ((a = none ∨ cap = 0) ∧ n = 0 ∧ cs = []) ∨ ∃ b o, a = some ⟨b, o, none⟩ ∧ FRow g w b o cs) (hh : hi ≤ n) (hl : lo ≤ hi) (hm : cap ≤ maxLen) :
    FRep g w (.sl (hi - lo) ((cs.drop (lo * sz)).take ((hi - lo) * sz))) (.slice (if cap = lo then a else a.map (·.add (lo * sz))) (hi - lo) (cap - lo)) := by
  refine ⟨_, _, rfl, by omega, by omega, ?_⟩
  rcases h3 with ⟨h, rfl, rfl⟩ | ⟨b, o, rfl, h3⟩
  · left
    refine ⟨?_, by omega, by simp⟩
    rcases h with rfl | rfl
    · exact .inl (by simp)
    · exact .inr (by omega)
  · right
    split
    · refine ⟨b, o, rfl, ?_⟩
      have : hi - lo = 0 := by omega
      rw [this]
      simp [FRow]
    · refine ⟨b, o + lo * sz, by simp [add_addr], (h3.drop _).take _⟩
theorem extract_str {s : List UInt8} {a b : Nat} : (Value.string ((ByteArray.mk s.toArray).extract a b)) = .string ⟨((s.drop a).take (b - a)).toArray⟩ := by
  congr 1
  apply ByteArray.ext
  rw [ByteArray.data_extract]
  apply Array.ext'
  simp [List.extract_eq_take_drop]
theorem slice_ok (tok : TabOk P tb) (hr : Rep g w σ) {x : V} {u : Value} (hx : VRep g w σ x u) {fr : Fr} {a : Act} (hf : FrRep g w σ fr a.tmps) {lo hi : Option Operand} {k : V → St → Prop}
    (hk : vslice prims tb t x (lo.map (opd fr)) (hi.map (opd fr)) σ k) :
    ∃ r σ' g' w' v', (Instr.sliceAt t u (lo.map a.eval) (hi.map a.eval) none).run P w = .ok v' w' ∧ k r σ' ∧ Rep g' w' σ' ∧ Turn g w σ g' w' σ' ∧ VRep g' w' σ' r v' := by
  have h3 := (tok t).fits
  have hopd : ∀ {y : Operand} {kd : IntKind} {j : Int}, opd fr y = .c (.f (.int kd j)) → a.eval y = .int kd j := fun {y kd j} h => by
    have := opd_rep hf y
    rw [h] at this
    exact this
  unfold vslice at hk
  split at hk
  · rename_i s hd
    rw [hd] at h3
    have := rep_str hx
    subst this
    have hsz : (ByteArray.mk s.toArray).size = s.length := rfl
    cases lo with
    | none =>
      cases hi with
      | none =>
        refine ⟨_, σ, g, w, .string ⟨s.toArray⟩, ?_, hk, hr, Turn.refl _ _ _, rfl⟩
        have := @extract_str s 0 s.length
        simp only [List.drop_zero, Nat.sub_zero, List.take_length] at this
        simp [Instr.sliceAt, run_underlying h3, Instr.slice, Instr.sliceBounds, hsz, this]
      | some y =>
        simp only [Option.map_none, Option.map_some] at hk
        cases hy : opd fr y with
        | c c => cases c with
          | f f => cases f with
            | int kd b =>
              rw [hy] at hk
              obtain ⟨hb, hk⟩ := hk
              have hb' : (0:Int) ≤ 0 ∧ 0 ≤ b ∧ b ≤ s.length := hb
              have e := hopd hy
              refine ⟨_, σ, g, w, .string ⟨((s.drop 0).take (b.toNat - 0)).toArray⟩, ?_, hk, hr, Turn.refl _ _ _, ?_⟩
              · have := @extract_str s 0 b.toNat
                simp [Instr.sliceAt, run_underlying h3, Instr.slice, Instr.sliceBounds, Instr.sliceBound, asIntOf, e, hsz, hb'.2] at this ⊢
                exact this
              · simp [prims, VRep, CRep, FRep]
            | _ => rw [hy] at hk; exact hk.elim
          | _ => rw [hy] at hk; exact hk.elim
        | _ => rw [hy] at hk; exact hk.elim
    | some z =>
      simp only [Option.map_some] at hk
      cases hz : opd fr z with
      | c c => cases c with
        | f f => cases f with
          | int kd a' =>
            rw [hz] at hk
            have ez := hopd hz
            cases hi with
            | none =>
              simp only [Option.map_none] at hk
              obtain ⟨hb, hk⟩ := hk
              have hb' : (0:Int) ≤ 0 ∧ 0 ≤ a' ∧ a' ≤ s.length := hb
              refine ⟨_, σ, g, w, .string ⟨((s.drop a'.toNat).take (s.length - a'.toNat)).toArray⟩, ?_, hk, hr, Turn.refl _ _ _, ?_⟩
              · have := @extract_str s a'.toNat s.length
                simp [Instr.sliceAt, run_underlying h3, Instr.slice, Instr.sliceBounds, Instr.sliceBound, asIntOf, ez, hsz, hb'.2] at this ⊢
                exact this
              · simp [prims, VRep, CRep, FRep]
            | some y =>
              simp only [Option.map_some] at hk
              cases hy : opd fr y with
              | c c => cases c with
                | f f => cases f with
                  | int kd b =>
                    rw [hy] at hk
                    obtain ⟨hb, hc, hk⟩ := hk
                    have hb' : (0:Int) ≤ 0 ∧ 0 ≤ b ∧ b ≤ s.length := hb
                    have hc' : (0:Int) ≤ 0 ∧ 0 ≤ a' ∧ a' ≤ b := hc
                    have e := hopd hy
                    have hle : a' ≤ (b.toNat : Int) := by omega
                    refine ⟨_, σ, g, w, .string ⟨((s.drop a'.toNat).take (b.toNat - a'.toNat)).toArray⟩, ?_, hk, hr, Turn.refl _ _ _, ?_⟩
                    · have := @extract_str s a'.toNat b.toNat
                      have hle : a' ≤ max b 0 := by omega
                      simp [Instr.sliceAt, run_underlying h3, Instr.slice, Instr.sliceBounds, Instr.sliceBound, asIntOf, ez, e, hsz, hb'.2, hc'.2.1, hle] at this ⊢
                      exact this
                    · simp [prims, VRep, CRep, FRep]
                  | _ => rw [hy] at hk; exact hk.elim
                | _ => rw [hy] at hk; exact hk.elim
              | _ => rw [hy] at hk; exact hk.elim
          | _ => rw [hz] at hk; cases hi <;> exact hk.elim
        | _ => rw [hz] at hk; cases hi <;> exact hk.elim
      | _ => rw [hz] at hk; cases hi <;> exact hk.elim
  · rename_i e hd
    rw [hd] at h3
    have hu : u = .slice none 0 0 := hx
    subst hu
    cases hed : (tb e).d.isNo with
    | true => simp [hed] at hk
    | false =>
    have he : (tb e).d ≠ .no := not_no hed
    simp only [hed, Bool.false_eq_true, if_false] at hk
    have hs := run_sizeOf (P := P) (tok e) he w
    have zero : ∀ {j : Int}, (0:Int) ≤ 0 ∧ 0 ≤ j ∧ j ≤ 0 → j = 0 := fun h => by omega
    cases lo with
    | none =>
      cases hi with
      | none =>
        refine ⟨_, σ, g, w, .slice none 0 0, ?_, hk, hr, Turn.refl _ _ _, rfl⟩
        simp [Instr.sliceAt, run_underlying h3, Instr.slice, Instr.sliceBounds, hs]
      | some y =>
        simp only [Option.map_none, Option.map_some] at hk
        cases hy : opd fr y with
        | c c => cases c with
          | f f => cases f with
            | int kd b =>
              rw [hy] at hk
              obtain ⟨hb, hk⟩ := hk
              have hb' := zero hb
              have ey := hopd hy
              subst hb'
              refine ⟨_, σ, g, w, .slice none 0 0, ?_, hk, hr, Turn.refl _ _ _, rfl⟩
              simp [Instr.sliceAt, run_underlying h3, Instr.slice, Instr.sliceBounds, Instr.sliceBound, asIntOf, ey, hs]
            | _ => rw [hy] at hk; exact hk.elim
          | _ => rw [hy] at hk; exact hk.elim
        | _ => rw [hy] at hk; exact hk.elim
    | some z =>
      simp only [Option.map_some] at hk
      cases hz : opd fr z with
      | c c => cases c with
        | f f => cases f with
          | int kd a' =>
            rw [hz] at hk
            have ez := hopd hz
            cases hi with
            | none =>
              simp only [Option.map_none] at hk
              obtain ⟨hb, hk⟩ := hk
              have hb' := zero hb
              subst hb'
              refine ⟨_, σ, g, w, .slice none 0 0, ?_, hk, hr, Turn.refl _ _ _, rfl⟩
              simp [Instr.sliceAt, run_underlying h3, Instr.slice, Instr.sliceBounds, Instr.sliceBound, asIntOf, ez, hs]
            | some y =>
              simp only [Option.map_some] at hk
              cases hy : opd fr y with
              | c c => cases c with
                | f f => cases f with
                  | int kd b =>
                    rw [hy] at hk
                    obtain ⟨hb, hc, hk⟩ := hk
                    have hb' := zero hb
                    have hc' : (0:Int) ≤ 0 ∧ 0 ≤ a' ∧ a' ≤ b := hc
                    have ha' : a' = 0 := by omega
                    have ey := hopd hy
                    subst hb' ha'
                    refine ⟨_, σ, g, w, .slice none 0 0, ?_, hk, hr, Turn.refl _ _ _, rfl⟩
                    simp [Instr.sliceAt, run_underlying h3, Instr.slice, Instr.sliceBounds, Instr.sliceBound, asIntOf, ez, ey, hs]
                  | _ => rw [hy] at hk; exact hk.elim
                | _ => rw [hy] at hk; exact hk.elim
              | _ => rw [hy] at hk; exact hk.elim
          | _ => rw [hz] at hk; cases hi <;> exact hk.elim
        | _ => rw [hz] at hk; cases hi <;> exact hk.elim
      | _ => rw [hz] at hk; cases hi <;> exact hk.elim
  · rename_i e n cs hd
    rw [hd] at h3
    have hxx := hx
    obtain ⟨ad, cap, rfl, h4, h5, h6⟩ := hx
    cases hed : (tb e).d.isNo with
    | true => simp [hed] at hk
    | false =>
    have he : (tb e).d ≠ .no := not_no hed
    simp only [hed, Bool.false_eq_true, if_false] at hk
    have hs := run_sizeOf (P := P) (tok e) he w
    cases lo with
    | none =>
      cases hi with
      | none =>
        refine ⟨_, σ, g, w, .slice ad n cap, ?_, hk, hr, Turn.refl _ _ _, hxx⟩
        have : (if cap = 0 then ad else ad.map fun x => x.add 0) = ad := by
          split
          · rfl
          · rename_i hcap
            rcases h6 with ⟨h, _, _⟩ | ⟨b, o, rfl, _⟩
            · rcases h with rfl | h
              · rfl
              · exact absurd h hcap
            · simp [add_addr]
        simp [Instr.sliceAt, run_underlying h3, Instr.slice, Instr.sliceBounds, hs, this]
      | some y =>
        simp only [Option.map_none, Option.map_some] at hk
        cases hy : opd fr y with
        | c c => cases c with
          | f f => cases f with
            | int kd b =>
              rw [hy] at hk
              obtain ⟨hb, hk⟩ := hk
              have hb' : (0:Int) ≤ 0 ∧ 0 ≤ b ∧ b ≤ n := hb
              have ey := hopd hy
              have hc := cut_row (g := g) (w := w) (sz := (tb e).size) (lo := 0) (hi := b.toNat) h4 h6 (by omega) (by omega) h5
              simp only [Nat.zero_mul, List.drop_zero, Nat.sub_zero] at hc
              refine ⟨_, σ, g, w, _, ?_, hk, hr, Turn.refl _ _ _, hc⟩
              have hbc : b ≤ cap := by omega
              simp [Instr.sliceAt, run_underlying h3, Instr.slice, Instr.sliceBounds, Instr.sliceBound, asIntOf, ey, hs, hb'.2.1, hbc]
            | _ => rw [hy] at hk; exact hk.elim
          | _ => rw [hy] at hk; exact hk.elim
        | _ => rw [hy] at hk; exact hk.elim
    | some z =>
      simp only [Option.map_some] at hk
      cases hz : opd fr z with
      | c c => cases c with
        | f f => cases f with
          | int kd a' =>
            rw [hz] at hk
            have ez := hopd hz
            cases hi with
            | none =>
              simp only [Option.map_none] at hk
              obtain ⟨hb, hk⟩ := hk
              have hb' : (0:Int) ≤ 0 ∧ 0 ≤ a' ∧ a' ≤ n := hb
              have hc := cut_row (g := g) (w := w) (sz := (tb e).size) (lo := a'.toNat) (hi := n) h4 h6 (Nat.le_refl _) (by omega) h5
              refine ⟨_, σ, g, w, _, ?_, hk, hr, Turn.refl _ _ _, hc⟩
              simp [Instr.sliceAt, run_underlying h3, Instr.slice, Instr.sliceBounds, Instr.sliceBound, asIntOf, ez, hs, hb'.2]
            | some y =>
              simp only [Option.map_some] at hk
              cases hy : opd fr y with
              | c c => cases c with
                | f f => cases f with
                  | int kd b =>
                    rw [hy] at hk
                    obtain ⟨hb, hc, hk⟩ := hk
                    have hb' : (0:Int) ≤ 0 ∧ 0 ≤ b ∧ b ≤ n := hb
                    have hc' : (0:Int) ≤ 0 ∧ 0 ≤ a' ∧ a' ≤ b := hc
                    have ey := hopd hy
                    have hcc := cut_row (g := g) (w := w) (sz := (tb e).size) (lo := a'.toNat) (hi := b.toNat) h4 h6 (by omega) (by omega) h5
                    refine ⟨_, σ, g, w, _, ?_, hk, hr, Turn.refl _ _ _, hcc⟩
                    have hbc : b ≤ cap := by omega
                    have hle : a' ≤ max b 0 := by omega
                    simp [Instr.sliceAt, run_underlying h3, Instr.slice, Instr.sliceBounds, Instr.sliceBound, asIntOf, ez, ey, hs, hb'.2.1, hbc, hc'.2.1, hle]
                  | _ => rw [hy] at hk; exact hk.elim
                | _ => rw [hy] at hk; exact hk.elim
              | _ => rw [hy] at hk; exact hk.elim
          | _ => rw [hz] at hk; cases hi <;> exact hk.elim
        | _ => rw [hz] at hk; cases hi <;> exact hk.elim
      | _ => rw [hz] at hk; cases hi <;> exact hk.elim
  · rename_i e o ep n hd
    rw [hd] at h3
    cases hed : (tb e).d.isNo with
    | true => simp [hed] at hk
    | false =>
    have he : (tb e).d ≠ .no := not_no hed
    simp only [hed, Bool.false_eq_true, if_false] at hk
    have hs := run_sizeOf (P := P) (tok e) he w
    split at hk
    · rename_i e0 sz l kd b ho hlo hhi
      obtain ⟨q1, q2, hk⟩ := hk
      have he' : ep = e0 := q1
      subst he'
      have hb' : (0:Int) ≤ 0 ∧ 0 ≤ b ∧ b ≤ n := q2
      cases lo with
      | some z => simp at hlo
      | none =>
      cases hi with
      | none => simp at hhi
      | some y =>
      simp only [Option.map_some, Option.some.injEq] at hhi
      have ey := hopd hhi
      obtain ⟨_, ob, h1, h2⟩ := hx
      rw [ho] at h1; cases h1
      obtain ⟨rfl, h4, h5⟩ := h2.2 rfl
      have hlen : (l.take (b.toNat * sz)).length = b.toNat * sz := by
        have : b.toNat * sz ≤ n * sz := Nat.mul_le_mul_right _ (by omega)
        simp; omega
      obtain ⟨g', p1, p2, p3, p4⟩ := re_arr (e' := ep + 8589934592) (l' := l.take (b.toNat * sz)) hr ho (by omega) (by omega) (fun h => by cases h) (by
        rcases hr.ob o _ ho with ⟨k1, k2, k3⟩ | ⟨b', vs, T', fz, rest, k1, k2, k3, k4, k5, ⟨pre, k6, k7, k8⟩, k9⟩
        · left; subst k2; exact ⟨k1, by simp, k3⟩
        · right
          refine ⟨b', vs, T', fz, pre.take (b.toNat * sz), pre.drop (b.toNat * sz) ++ rest, k1, k2, k3.mono (Nat.add_mod_right _ _) (fun h => by cases h), k4, k5, ?_, ?_⟩
          · rw [k6, ← List.append_assoc, List.take_append_drop]
          · rw [List.map_take]; exact (freps k7 k8).take _)
      have hbc : b ≤ g.cap o := by omega
      have hbase : (if g.cap o = 0 then (g.blk o).map (fun b => (⟨b, 0, none⟩ : Addr)) else ((g.blk o).map (fun b => (⟨b, 0, none⟩ : Addr))).map (·.add 0)) = (g.blk o).map (fun b => (⟨b, 0, none⟩ : Addr)) := by
        split
        · rfl
        · cases g.blk o <;> simp [add_addr]
      refine ⟨_, _, g', w, .slice ((g.blk o).map (fun b => (⟨b, 0, none⟩ : Addr))) b.toNat (g.cap o), ?_, hk, p1, p2, ⟨rfl, .arr true (ep + 8589934592) sz (l.take (b.toNat * sz)), (get_set ho).2 (.inl ⟨rfl, rfl⟩), Nat.le_refl _, fun _ => ⟨by rw [p3, p4]; rfl, hlen.symm, by rw [p4]; show b.toNat ≤ _; omega⟩⟩⟩
      simp [Instr.sliceAt, run_underlying h3, Instr.slice, Instr.sliceBounds, Instr.sliceBound, asIntOf, ey, hs, hb'.2.1, hbc]
      simpa using hbase
    · exact hk.elim
  · exact hk.elim
end
end Go.Dm
namespace Go.Dm
set_option linter.unusedVariables false
set_option linter.unusedSimpArgs false
section
variable {P : Program} {tb : Tab} {t : TypeId} {g : G} {w : World} {σ : St}
theorem byte_vals {s : List UInt8} : ∀ {vs : List Value}, CReps g w σ ((s.map fun b => F.int .u8 b.toNat).map .f) vs → vs = s.map fun b => Value.int .u8 b.toNat := by
  induction s with
  | nil => intro vs h; exact h
  | cons b r ih =>
    intro vs h
    obtain ⟨v, vr, rfl, h1, h2⟩ := h
    have : v = .int .u8 b.toNat := h1
    subst this
    rw [ih h2]
    rfl
theorem bytes_ok (tok : TabOk P tb) (hr : Rep g w σ) {s d e : TypeId} (hs : (tb s).d = .slice e) (he : (tb e).d = .int .u8) (hd : (tb d).d = .str) {x : V} {u : Value} (hx : VRep g w σ x u) {k : V → Prop} (hk : vbytes prims x σ k) :
    ∃ r v', (convert s d u).run P w = .ok v' w ∧ k r ∧ VRep g w σ r v' := by
  have h1 := (tok s).fits; rw [hs] at h1
  have h2 := (tok e).fits; rw [he] at h2
  have h3 := (tok d).fits; rw [hd] at h3
  have back : ∀ {ad : Addr} {cap : Nat} {l : List UInt8}, (∀ j (hj : j < l.length), w.cell? (ad.add j) = some (.int .u8 (l[j].toNat : Int))) → (convert s d (.slice (some ad) l.length cap)).run P w = .ok (.string ⟨l.toArray⟩) w :=
    fun {ad cap l} h => run_convert_bytes_back (P := P) w s d e ad cap l h1 h2 h3 h
  have nil : ∀ {n cap : Nat}, (convert s d (.slice none n cap)).run P w = .ok (.string ⟨#[]⟩) w := fun {n cap} => by
    rw [run_convert_bytes_string w s d e none n cap h1 h2 h3]
    rfl
  unfold vbytes at hk
  split at hk
  · have : u = .slice none 0 0 := hx
    subst this
    exact ⟨_, _, nil, hk, rfl⟩
  · rename_i n cs
    obtain ⟨l, rfl, rfl, hk⟩ := hk
    obtain ⟨a, cap, rfl, h4, h5, h6⟩ := hx
    rcases h6 with ⟨_, hl, _⟩ | ⟨b, o, rfl, h6⟩
    · have : l = [] := List.eq_nil_of_length_eq_zero hl
      subst this
      cases a with
      | none => exact ⟨_, _, nil, hk, rfl⟩
      | some ad => exact ⟨_, _, back (l := []) fun j hj => by simp at hj, hk, rfl⟩
    · obtain ⟨vs, q1, q2, q3⟩ := frow_vals (σ := σ) h6
      have := byte_vals q3
      subst this
      exact ⟨_, _, back fun j hj => by rw [add_addr]; exact q2 j _ (by simp [hj]), hk, rfl⟩
  · rename_i o ep n
    split at hk
    · rename_i wr e0 sz l ho
      obtain ⟨q1, hk⟩ := hk
      have he' : ep = e0 := q1
      subst he'
      obtain ⟨bs, rfl, rfl, hk⟩ := hk
      obtain ⟨_, ob, h4, h5⟩ := hx
      rw [ho] at h4; cases h4
      obtain ⟨rfl, h6, h7⟩ := h5.2 rfl
      cases hb : g.blk o with
      | none =>
        rcases hr.ob o _ ho with ⟨k1, k2, k3⟩ | ⟨c, vs, T, fz, rest, k1, _⟩
        · have : bs = [] := List.eq_nil_of_length_eq_zero (by omega)
          subst this
          exact ⟨_, _, nil, hk, rfl⟩
        · rw [hb] at k1; cases k1
      | some b =>
        obtain ⟨vs, r1, r2, r3⟩ := arr_vals hr ho hb
        have := byte_vals r3
        subst this
        exact ⟨_, _, back fun j hj => by rw [add_addr, Nat.zero_add]; exact r2 j _ (by simp [hj]), hk, rfl⟩
    · exact hk.elim
  · exact hk.elim
theorem strbytes_ok (tok : TabOk P tb) (hr : Rep g w σ) {s d e : TypeId} (hs : (tb s).d = .str) (he : (tb e).d = .int .u8) (hd : (tb d).d = .slice e) {x : List UInt8} (hm : x.length ≤ 9223372036854775807) (hee : e ≤ 4294967295) {k : V → St → Prop}
    (hk : k (.c (.rs σ.length (e + 4294967296) x.length)) (σ ++ [.arr true (e + 4294967296) 1 (x.map fun b => .int .u8 b.toNat)])) :
    ∃ r σ' g' w' v', (convert s d (.string ⟨x.toArray⟩)).run P w = .ok v' w' ∧ k r σ' ∧ Rep g' w' σ' ∧ Turn g w σ g' w' σ' ∧ VRep g' w' σ' r v' := by
  have h1 := (tok s).fits; rw [hs] at h1
  have h2 := (tok e).fits; rw [he] at h2
  have h3 := (tok d).fits; rw [hd] at h3
  have hrun := run_bytes_of_string (P := P) w s d e ⟨x.toArray⟩ h1 h3 h2
  have hsz : (ByteArray.mk x.toArray).size = x.length := rfl
  rw [hsz] at hrun
  have hcap := grownCap_ge w x.length 0 e
  have hcm : grownCap w x.length 0 e ≤ maxLen := grownCap_le_maxLen w x.length 0 e (by simp only [maxLen]; omega)
  obtain ⟨d1, d2⟩ := drew_rep hr
  generalize grownCap w x.length 0 e = cap at *
  have hrow : (bytesRow ⟨x.toArray⟩ cap).toList = x.map (fun b => Value.int .u8 b.toNat) ++ List.replicate (cap - x.length) (.int .u8 0) := by
    simp [bytesRow, hsz]
  have hlen : (bytesRow ⟨x.toArray⟩ cap).toList.length = cap := by rw [hrow]; simp; omega
  obtain ⟨g', p1, p2, p3, p4⟩ := new_arr d1 e 1 cap (l := x.map fun b => F.int .u8 b.toNat) (vs := (bytesRow ⟨x.toArray⟩ cap).toList) (cap, cap + 1) (e + 4294967296) (flag_mod hee) (flag_odd hee) (.inr (.inl ⟨flag_one hee, by rw [hlen]; exact Nat.le_refl _⟩)) (by omega) hcm (by rw [hlen]; simpa using hcap)
    (fun j a b => by
      simp only [hrow]
      rw [List.getElem_append_left (by simpa using a)]
      simp [FRep])
  simp only [Array.toArray_toList] at p1 p2
  have hsize : (bytesRow ⟨x.toArray⟩ cap).size = cap := by rw [← Array.length_toList]; exact hlen
  rw [hsize] at hrun
  exact ⟨_, _, g', _, _, hrun, hk, p1, d2.trans p2, ⟨rfl, .arr true (e + 4294967296) 1 (x.map fun b => .int .u8 b.toNat), by simp, Nat.le_refl _, fun _ => ⟨by rw [p3, p4]; rfl, by simp, by rw [p4]; exact hcap⟩⟩⟩
theorem VReps.get : ∀ {l : List V} {vs : List Value}, VReps g w σ l vs → ∀ {i : Nat} {c : V}, l[i]? = some c → ∃ v, vs[i]? = some v ∧ VRep g w σ c v
  | [], _, _, i, c, hc => by simp at hc
  | c :: r, vs, h, i, x, hc => by
    obtain ⟨v, vr, rfl, h1, h2⟩ := h
    cases i with
    | zero => simp at hc; subst hc; exact ⟨v, rfl, h1⟩
    | succ i => simp at hc; simpa using VReps.get h2 hc
theorem caps_rep {fr : Fr} {a : Act} (hf : FrRep g w σ fr a.tmps) : ∀ (l : List Operand), CReps g w σ (l.map fun x => (opd fr x).cap) (l.map a.eval)
  | [] => rfl
  | x :: r => by
    refine ⟨a.eval x, r.map a.eval, rfl, ?_, caps_rep hf r⟩
    have := opd_rep hf x
    show CRep g w σ (opd fr x).cap (a.eval x)
    revert this
    cases opd fr x with
    | c c => exact id
    | a l => exact fun _ => trivial
    | t l => exact fun _ => trivial
theorem fold_min {kd : IntKind} : ∀ {l : List V} {vs : List Value} {ns : List Int}, ints l = some ns → VReps g w σ l vs → ∀ (n : Int),
    (vs.foldlM Builtin.min2 (.int kd n)).run P w = .ok (.int kd (ns.foldl prims.imin n)) w
  | [], vs, ns, h, hv, n => by simp only [VReps] at hv; subst hv; simp only [ints] at h; cases h; rfl
  | x :: r, vs, ns, h, hv, n => by
    obtain ⟨v, vr, rfl, h1, h2⟩ := hv
    unfold ints at h
    split at h
    · rename_i e; cases e
    · rename_i kd' m r' e
      cases e
      split at h
      · rename_i l hl
        cases h
        have hv : v = .int kd' m := h1
        subst hv
        simp only [List.foldlM_cons, Builtin.min2, Sem.run_bind, Sem.run_pure, Result.andThen]
        exact fold_min hl h2 _
      · cases h
    · cases h
theorem fold_max {kd : IntKind} : ∀ {l : List V} {vs : List Value} {ns : List Int}, ints l = some ns → VReps g w σ l vs → ∀ (n : Int),
    (vs.foldlM Builtin.max2 (.int kd n)).run P w = .ok (.int kd (ns.foldl prims.imax n)) w
  | [], vs, ns, h, hv, n => by simp only [VReps] at hv; subst hv; simp only [ints] at h; cases h; rfl
  | x :: r, vs, ns, h, hv, n => by
    obtain ⟨v, vr, rfl, h1, h2⟩ := hv
    unfold ints at h
    split at h
    · rename_i e; cases e
    · rename_i kd' m r' e
      cases e
      split at h
      · rename_i l hl
        cases h
        have hv : v = .int kd' m := h1
        subst hv
        simp only [List.foldlM_cons, Builtin.max2, Sem.run_bind, Sem.run_pure, Result.andThen]
        exact fold_max hl h2 _
      · cases h
    · cases h
theorem opds_rep {fr : Fr} {a : Act} (hf : FrRep g w σ fr a.tmps) : ∀ (l : List Operand), VReps g w σ (l.map (opd fr)) (l.map a.eval)
  | [] => rfl
  | x :: r => ⟨a.eval x, r.map a.eval, rfl, opd_rep hf x, opds_rep hf r⟩
theorem good_same {o : Oper} {a : Act} {k : V → St → Prop} (hr : Rep g w σ) (h : ∃ r v, (execOp a.eval o).run P w = .ok (.value v) w ∧ k r σ ∧ VRep g w σ r v) : Good P o a g w σ k := by
  obtain ⟨r, v, h1, h2, h3⟩ := h
  exact ⟨r, σ, g, w, v, _, h1, .inl rfl, h2, hr, Turn.refl _ _ _, h3⟩
theorem good_turn {o : Oper} {a : Act} {k : V → St → Prop} {s : Sem Value} (hs : execOp a.eval o = (do pure (.value (← s)) : Sem Next)) (h : ∃ r σ' g' w' v', s.run P w = .ok v' w' ∧ k r σ' ∧ Rep g' w' σ' ∧ Turn g w σ g' w' σ' ∧ VRep g' w' σ' r v') : Good P o a g w σ k := by
  obtain ⟨r, σ', g', w', v', h1, h2, h3, h4, h5⟩ := h
  exact ⟨r, σ', g', w', v', _, by rw [hs]; simp only [Sem.run_bind, h1, Result.andThen, Sem.run_pure], .inl rfl, h2, h3, h4, h5⟩
theorem good_still {o : Oper} {a : Act} {k : V → St → Prop} (hr : Rep g w σ) {s : Sem Value} (hs : execOp a.eval o = (do pure (.value (← s)) : Sem Next)) (h : ∃ r v', s.run P w = .ok v' w ∧ k r σ ∧ VRep g w σ r v') : Good P o a g w σ k := by
  obtain ⟨r, v', h1, h2, h3⟩ := h
  exact good_turn hs ⟨r, σ, g, w, v', h1, h2, hr, Turn.refl _ _ _, h3⟩
theorem convert_ok (tok : TabOk P tb) (hr : Rep g w σ) {s d : TypeId} {x : V} {u : Value} (hx : VRep g w σ x u) {k : V → St → Prop} (hk : vconv prims tb s d x σ k) :
    ∃ r σ' g' w' v', (convert s d u).run P w = .ok v' w' ∧ k r σ' ∧ Rep g' w' σ' ∧ Turn g w σ g' w' σ' ∧ VRep g' w' σ' r v' := by
  have still : ∀ {r v'}, (convert s d u).run P w = .ok v' w → k r σ → VRep g w σ r v' → ∃ r σ' g' w' v', (convert s d u).run P w = .ok v' w' ∧ k r σ' ∧ Rep g' w' σ' ∧ Turn g w σ g' w' σ' ∧ VRep g' w' σ' r v' :=
    fun {r v'} h1 h2 h3 => ⟨r, σ, g, w, v', h1, h2, hr, Turn.refl _ _ _, h3⟩
  have h1 := (tok s).fits
  have h2 := (tok d).fits
  unfold vconv at hk
  split at hk
  · rename_i k1 k2 k3 n hs hd
    have e1 : u = .int k3 n := hx
    subst e1
    rw [hs] at h1; rw [hd] at h2
    exact still (by simp [convert, run_underlying h1, run_underlying h2, Conv.intToInt]; rfl) hk rfl
  · rename_i k1 k3 n hs hd
    have e1 : u = .int k3 n := hx
    subst e1
    rw [hs] at h1; rw [hd] at h2
    exact still (run_convert_int_float w s d k3 .f64 n (by rw [h1]; rfl) h2) hk rfl
  · rename_i b hs hd
    have e1 := rep_flo hx
    subst e1
    rw [hs] at h1; rw [hd] at h2
    split at hk
    · rename_i n hn
      exact still (run_convert_float_int (P := P) w s d .f64 .i64 b n (by rw [h1]; rfl) h2 hn) hk rfl
    · exact hk.elim
  · rename_i x hs hd
    have e1 := rep_str hx
    subst e1
    rw [hs] at h1; rw [hd] at h2
    exact still (by simp [convert, run_underlying h1, run_underlying h2]) hk rfl
  · rename_i e x hs hd
    split at hk
    · rename_i he
      obtain ⟨r, v', q1, q2, q3⟩ := bytes_ok tok hr hs he hd hx hk
      exact still q1 q2 q3
    · exact hk.elim
  · rename_i e x hs hd
    have e1 := rep_str hx
    subst e1
    split at hk
    · rename_i he
      obtain ⟨hm, hee, hk⟩ := hk
      exact strbytes_ok tok hr hs he hd hm hee hk
    · exact hk.elim
  · exact hk.elim
end
end Go.Dm
namespace Go.Dm
set_option linter.unusedVariables false
set_option linter.unusedSimpArgs false
section
variable {P : Program} {tb : Tab} {g : G} {w : World} {σ : St}
theorem un_ok {op : UnOp} {x : V} {u : Value} (hx : VRep g w σ x u) {k : V → Prop} (hk : vun prims op x k) : ∃ r v, (Op.unary op u).run P w = .ok v w ∧ k r ∧ VRep g w σ r v := by
  unfold vun at hk
  split at hk
  · rename_i b
    have := rep_bool hx
    subst this
    exact ⟨_, _, rfl, hk, rfl⟩
  · rename_i j n
    have := rep_int hx
    subst this
    exact ⟨_, .int j (j.wrap (0 - n)), by simp [Op.unary, Op.intArith], hk, rfl⟩
  · exact hk.elim
theorem pick_ok {c a b : V} {u v x : Value} (hc : VRep g w σ c u) (ha : VRep g w σ a v) (hb : VRep g w σ b x) {k : V → Prop} (hk : vpick c a b k) :
    ∃ r y, (do pure (Next.value (if ← asBool u then v else x)) : Sem Next).run P w = .ok (.value y) w ∧ k r ∧ VRep g w σ r y := by
  obtain ⟨t, rfl, hk⟩ : ∃ t, c = .c (.f (.bool t)) ∧ (match t with | true => k a | false => k b) := by
    unfold vpick at hk
    split at hk
    · exact ⟨_, rfl, hk⟩
    · exact hk.elim
  have := rep_bool hc
  subst this
  cases t with
  | true => exact ⟨a, v, rfl, hk, ha⟩
  | false => exact ⟨b, x, rfl, hk, hb⟩
theorem no_of {t : TypeId} {p : Prop} (h : match (tb t).d with | .no => False | _ => p) : (tb t).d ≠ .no ∧ p := by
  split at h
  · exact h.elim
  · rename_i hn; exact ⟨fun e => hn e, h⟩
theorem call_run {o : Oper} {b : Builtin} {args : Array Operand} {at' : Array TypeId} {a : Act} (ho : o.op = .call { callee := .builtin b, args, argTypes := at' }) :
    (execOp a.eval o).run P w = (builtin b at' o.type (args.map fun | .const _ => true | _ => false) (args.map a.eval)).run P w := by
  unfold execOp
  simp only [ho, resolve, invoke, Sem.run_bind, Sem.run_pure, Result.andThen]
  rfl
theorem vop_ok (tok : TabOk P tb) (hr : Rep g w σ) {o : Oper} {a : Act} {fr : Fr} (hf : FrRep g w σ fr a.tmps) {k : V → St → Prop} (hk : vop prims tb o.op fr σ k) : Good P o a g w σ k := by
  have opr := fun x => opd_rep hf x
  generalize hop : o.op = op at hk
  cases op with
  | move x => exact good_same hr ⟨_, _, by simp only [execOp, hop, Sem.run_pure], hk, opr x⟩
  | assign x => exact good_same hr ⟨_, _, by simp only [execOp, hop, Sem.run_pure], hk, opr x⟩
  | pick c x y =>
    obtain ⟨r, v, h1, h2, h3⟩ := pick_ok (P := P) (k := fun v => k v σ) (opr c) (opr x) (opr y) hk
    exact good_same hr ⟨r, v, by simp only [execOp, hop]; exact h1, h2, h3⟩
  | alloc t =>
    obtain ⟨h1, h2⟩ := no_of hk
    exact good_turn (by simp only [execOp, hop]) (alloc_ok (tok t) h1 hr h2)
  | box t x =>
    simp only [vop] at hk
    split at hk
    · rename_i l hl
      exact good_turn (by simp only [execOp, hop]) (box_ok (t := t) hr (opr x) hl hk)
    · exact hk.elim
  | build t parts =>
    simp only [vop] at hk
    split at hk
    · rename_i fs hd
      split at hk
      · rename_i hall
        split at hk
        · rename_i l hl
          obtain ⟨v, h1, h2⟩ := build_struct_ok tok hd hall hf hl
          exact good_still hr (by simp only [execOp, hop]) ⟨_, v, h1, hk, h2⟩
        · exact hk.elim
      · exact hk.elim
    · rename_i n e hd
      split at hk
      · rename_i l hl
        obtain ⟨he, hk⟩ := no_of hk
        obtain ⟨v, h1, h2⟩ := build_array_ok tok hd he hf hl
        exact good_still hr (by simp only [execOp, hop]) ⟨_, v, h1, hk, h2⟩
      · exact hk.elim
    · exact hk.elim
  | buildSlice t n parts =>
    simp only [vop] at hk
    split at hk
    · rename_i e hd
      obtain ⟨he, hk⟩ := no_of hk
      split at hk
      · rename_i hn
        split at hk
        · rename_i l hl
          exact good_turn (by simp only [execOp, hop]) (buildSlice_ok tok hd he hr hf hn.1 (by simp only [maxLen]; omega) hn.2.2 hl hk)
        · exact hk.elim
      · exact hk.elim
    · exact hk.elim
  | load t x =>
    obtain ⟨h1, h2⟩ := no_of hk
    obtain ⟨r, v, h3, h4, h5⟩ := load_ok (tok t) h1 hr (addr_rep (opr x)) h2
    exact good_still hr (by simp only [execOp, hop]) ⟨r, v, h3, h5, h4⟩
  | store t x y =>
    obtain ⟨h1, h2⟩ := no_of hk
    obtain ⟨σ', g', w', h3, h4, h5, h6⟩ := store_ok (P := P) (tok t) h1 hr (opr x) (opr y) h2
    refine ⟨_, σ', g', w', undef, .skip, ?_, .inr ⟨rfl, rfl⟩, h6, h4, h5, trivial⟩
    simp only [execOp, hop, Sem.run_bind, h3, Result.andThen, Sem.run_pure]
  | nilCheck x =>
    simp only [vop] at hk
    have hx := opr x
    split at hk
    · rename_i p off e
      rw [e] at hx
      obtain ⟨b, ob, h1, h2, h3, h4⟩ := hx
      refine good_same hr ⟨_, _, ?_, hk, ⟨b, ob, h1, rfl, h3, h4⟩⟩
      simp only [execOp, hop, h2, Sem.run_pure]
    · rename_i cs e
      rw [e] at hx
      obtain ⟨b, h1, h2⟩ := hx
      refine good_same hr ⟨_, _, ?_, hk, ⟨b, rfl, h2⟩⟩
      simp only [execOp, hop, h1, Sem.run_pure]
    · rename_i cs off e
      rw [e] at hx
      obtain ⟨b, p, h1, h2⟩ := hx
      refine good_same hr ⟨_, _, ?_, hk, ⟨b, p, rfl, h2⟩⟩
      simp only [execOp, hop, h1, Sem.run_pure]
    · rename_i p ep off e
      rw [e] at hx
      split at hk
      · rename_i wr e0 sz l ho
        obtain ⟨q1, hk⟩ := hk
        have he' : ep = e0 := q1
        subst he'
        obtain ⟨b, h1, h2⟩ := pa_move hr hx ho 0
        refine good_same hr ⟨_, _, ?_, hk, h2⟩
        simp only [execOp, hop, h1, Sem.run_pure, Nat.add_zero]
      · exact hk.elim
    · exact hk.elim
  | binOp op t x y p =>
    obtain ⟨z, h1, h2, h3⟩ := bin_ok (P := P) (w := w) (k := fun v => k v σ) (tok t).fits (X := x) (Y := y) (opr x) (opr y) hk
    exact good_still hr (by simp only [execOp, hop]) ⟨.c (.f z), _, h1, h2, zval_rep h3⟩
  | unOp op t x =>
    obtain ⟨r, v, h1, h2, h3⟩ := un_ok (P := P) (k := fun v => k v σ) (opr x) hk
    exact good_still hr (by simp only [execOp, hop]) ⟨r, v, h1, h2, h3⟩
  | convert s d x => exact good_turn (by simp only [execOp, hop]) (convert_ok tok hr (opr x) hk)
  | slice t x lo hi mx =>
    cases mx with
    | some m => exact hk.elim
    | none => exact good_turn (by simp only [execOp, hop]; rfl) (slice_ok tok hr (opr x) hf hk)
  | fieldAddr t x i =>
    simp only [vop] at hk
    split at hk
    · rename_i fs hd
      split at hk
      · rename_i off u hfs
        split at hk
        · exact hk.elim
        · rename_i hs
          obtain ⟨hu, hk⟩ := no_of hk
          obtain ⟨r, v, h1, h2, h3⟩ := fieldAddr_ok tok hr hd hfs (fun e => hs e) hu (addr_rep (opr x)) hk
          exact good_still hr (by simp only [execOp, hop]) ⟨r, v, h1, h2, h3⟩
      · exact hk.elim
    · exact hk.elim
  | field t x i =>
    simp only [vop] at hk
    split at hk
    · rename_i fs l hd hx
      split at hk
      · rename_i off u hfs
        obtain ⟨hu, hk⟩ := no_of hk
        have hx' := opr x
        rw [hx] at hx'
        exact good_still hr (by simp only [execOp, hop]) (field_ok tok hd hfs hu hx' hk)
      · exact hk.elim
    · exact hk.elim
  | indexAddr t x i => exact good_still hr (by simp only [execOp, hop]) (indexAddr_ok tok hr (addr_rep (opr x)) (opr i) hk)
  | index t x i => exact good_still hr (by simp only [execOp, hop]) (index_ok tok (opr x) (opr i) hk)
  | extract x i =>
    simp only [vop] at hk
    split at hk
    · rename_i l hx
      split at hk
      · rename_i v hv
        have hx' := opr x
        rw [hx] at hx'
        obtain ⟨vs, h1, h2⟩ := hx'
        obtain ⟨y, h3, h4⟩ := h2.get hv
        refine good_same hr ⟨_, y, ?_, hk, h4⟩
        simp only [execOp, hop, h1, Instr.extract, List.getElem?_toArray, h3, Sem.run_bind, Sem.run_pure, Result.andThen]
      · exact hk.elim
    · exact hk.elim
  | makeFunc fn first captured =>
    cases fn with
    | func f =>
      simp only [vop] at hk
      split at hk
      · rename_i hfst
        refine good_same hr ⟨_, _, ?_, hk, ⟨captured.toList.map a.eval, rfl, caps_rep hf _⟩⟩
        have : first = #[] := by cases first; simp_all
        simp only [execOp, hop, Instr.makeFunc, Sem.run_bind, Sem.run_pure, Result.andThen, this]
        have e : captured.map a.eval = (captured.toList.map a.eval).toArray := by apply Array.ext'; rw [Array.toList_map]
        rw [e, Array.map_empty]
      · exact hk.elim
    | _ => exact hk.elim
  | call c =>
    obtain ⟨callee, args, at'⟩ := c
    cases callee with
    | builtin b =>
      have hargs := opds_rep hf args.toList
      have hrun := call_run (P := P) (w := w) (a := a) hop
      have hat : args.map a.eval = (args.toList.map a.eval).toArray := by apply Array.ext'; rw [Array.toList_map]
      rw [hat] at hrun
      simp only [vop, vbi] at hk
      generalize args.toList.map a.eval = vs at hargs hrun
      split at hk
      · rename_i x e1
        rw [e1] at hargs
        obtain ⟨v, vr, rfl, h1, h2⟩ := hargs
        simp only [VReps] at h2; subst h2
        split at hk
        · rename_i t ht
          have hat' : at'[0]? = some t := by rw [← Array.getElem?_toList, ht]; rfl
          obtain ⟨r, v', q1, q2, q3⟩ := len_ok (T := o.type) tok hat' (by
            unfold vlen at hk
            revert hk
            split
            · rename_i hd; intro _; exact .inl hd
            · rename_i e hd; intro _; exact .inr ⟨e, hd⟩
            · rename_i e _ _ hd; intro _; exact .inr ⟨e, hd⟩
            · rename_i e _ _ _ hd; intro _; exact .inr ⟨e, hd⟩
            · exact False.elim) h1 hk
          exact good_same hr ⟨r, v', by rw [hrun]; simp only [builtin, Sem.run_bind, q1, Result.andThen, Sem.run_pure], q2, q3⟩
        · exact hk.elim
      · rename_i x y e1
        rw [e1] at hargs
        obtain ⟨v, vr, rfl, h1, u, vr', rfl, h2, h3⟩ := hargs
        simp only [VReps] at h3; subst h3
        split at hk
        · rename_i t u' ht
          have hat' : at' = #[t, u'] := by apply Array.ext'; simpa using ht
          subst hat'
          split at hk
          · rename_i e hd
            obtain ⟨he, hk⟩ := no_of hk
            obtain ⟨r, σ', g', w', v', q1, q2, q3, q4, q5⟩ := append_ok (T := o.type) tok hr hd he h1 h2 hk
            exact ⟨r, σ', g', w', v', _, by rw [hrun]; simp only [builtin, Sem.run_bind, q1, Result.andThen, Sem.run_pure], .inl rfl, q2, q3, q4, q5⟩
          · exact hk.elim
        · exact hk.elim
      · rename_i i n r e1
        rw [e1] at hargs
        obtain ⟨v, vr, rfl, h1, h2⟩ := hargs
        have := rep_int h1
        subst this
        split at hk
        · rename_i l hl
          have q := fold_min (P := P) (w := w) (kd := i) hl h2 n
          exact good_same hr ⟨_, _, by rw [hrun]; simp only [builtin, Builtin.min_, List.toList_toArray, Sem.run_bind, q, Result.andThen, Sem.run_pure], hk, rfl⟩
        · exact hk.elim
      · rename_i i n r e1
        rw [e1] at hargs
        obtain ⟨v, vr, rfl, h1, h2⟩ := hargs
        have := rep_int h1
        subst this
        split at hk
        · rename_i l hl
          have q := fold_max (P := P) (w := w) (kd := i) hl h2 n
          exact good_same hr ⟨_, _, by rw [hrun]; simp only [builtin, Builtin.max_, List.toList_toArray, Sem.run_bind, q, Result.andThen, Sem.run_pure], hk, rfl⟩
        · exact hk.elim
      · rename_i x y e1
        rw [e1] at hargs
        obtain ⟨v, vr, rfl, h1, u, vr', rfl, h2, h3⟩ := hargs
        simp only [VReps] at h3; subst h3
        have e2 := rep_flo h1
        have e3 := rep_flo h2
        subst e2 e3
        exact good_same hr ⟨_, _, by rw [hrun]; rfl, hk, rfl⟩
      · rename_i x y e1
        rw [e1] at hargs
        obtain ⟨v, vr, rfl, h1, h2⟩ := hargs
        simp only [VReps] at h2; subst h2
        have e2 := rep_cpl h1
        subst e2
        exact good_same hr ⟨_, _, by rw [hrun]; rfl, hk, rfl⟩
      · rename_i x y e1
        rw [e1] at hargs
        obtain ⟨v, vr, rfl, h1, h2⟩ := hargs
        simp only [VReps] at h2; subst h2
        have e2 := rep_cpl h1
        subst e2
        exact good_same hr ⟨_, _, by rw [hrun]; rfl, hk, rfl⟩
      · exact hk.elim
    | _ => exact hk.elim
  | _ => exact hk.elim
end
end Go.Dm
namespace Go.Dm
set_option linter.unusedVariables false
set_option linter.unusedSimpArgs false
section
variable {P : Program} {tb : Tab} {g : G} {w : World} {σ : St}
theorem rep_repF {l : List F} : ∀ (n : Nat), rep n (l.map .f) = (repF n l).map .f
  | 0 => rfl
  | n + 1 => by simp [rep, repF, rep_repF n]
theorem repF_len {l : List F} : ∀ (n : Nat), (repF n l).length = n * l.length
  | 0 => by simp [repF]
  | n + 1 => by simp [repF, repF_len n, Nat.add_mul, Nat.add_comm]
theorem sameK_iff {j k : IntKind} : sameK j k = true ↔ j = k := by cases j <;> cases k <;> simp [sameK]
theorem matchK_fit : ∀ {ks : List KK} {fs : List F} {vs : List Value}, matchK ks fs = true → CReps g w σ (fs.map .f) vs → FitK ks vs ∧ vs = fs.map fval
  | [], [], vs, _, h => by simp only [List.map_nil, CReps] at h; subst h; exact ⟨trivial, rfl⟩
  | [], f :: s, vs, hm, h => by simp [matchK] at hm
  | k :: r, [], vs, hm, h => by cases k <;> simp [matchK] at hm
  | k :: r, f :: s, vs, hm, h => by
    obtain ⟨v, vr, rfl, h1, h2⟩ := h
    have h1 : FRep g w f v := h1
    cases k <;> cases f <;> simp only [matchK, Bool.false_eq_true] at hm
    · obtain ⟨q1, q2⟩ := matchK_fit hm h2
      have e : v = .bool _ := h1
      subst e q2
      exact ⟨q1, rfl⟩
    · split at hm
      · rename_i hc
        simp only [Bool.and_eq_true] at hc
        obtain ⟨q1, q2⟩ := matchK_fit hm h2
        have e : v = .int _ _ := h1
        have e2 := sameK_iff.1 hc.1
        subst e q2 e2
        exact ⟨⟨rfl, hc.2, q1⟩, rfl⟩
      · cases hm
    · split at hm
      · rename_i hc
        obtain ⟨q1, q2⟩ := matchK_fit hm h2
        have e : v = .string _ := h1
        subst e q2
        exact ⟨⟨by have := ble_nat hc; simpa [maxLen, ByteArray.size] using this, q1⟩, rfl⟩
      · cases hm
theorem eqbs_iff : ∀ {ks : List KK} {fs fs' : List F}, matchK ks fs = true → matchK ks fs' = true → (F.eqbs fs fs' = true ↔ fs.map fval = fs'.map fval)
  | [], [], [], _, _ => by simp [F.eqbs]
  | [], f :: s, _, hm, _ => by simp [matchK] at hm
  | [], [], f :: s, _, hm => by simp [matchK] at hm
  | k :: r, [], _, hm, _ => by cases k <;> simp [matchK] at hm
  | k :: r, f :: s, [], _, hm => by cases k <;> simp [matchK] at hm
  | k :: r, f :: s, f' :: s', hm, hm' => by
    have key : matchK r s = true ∧ matchK r s' = true ∧ (F.eqb f f' = true ↔ fval f = fval f') := by
      cases k <;> cases f <;> simp only [matchK, Bool.false_eq_true] at hm <;> cases f' <;> simp only [matchK, Bool.false_eq_true] at hm'
      · rename_i a b
        refine ⟨hm, hm', ?_⟩
        cases a <;> cases b <;> simp [F.eqb, fval]
      · split at hm
        · split at hm'
          · refine ⟨hm, hm', ?_⟩
            simp only [F.eqb, Bool.and_eq_true, sameK_iff, ieq_eq, fval, beq_iff_eq, Value.int.injEq]
          · cases hm'
        · cases hm
      · split at hm
        · split at hm'
          · refine ⟨hm, hm', ?_⟩
            simp only [F.eqb, beqS_eq, fval, beq_iff_eq, Value.string.injEq, ByteArray.mk.injEq]
            exact ⟨fun e => by rw [e], fun e => by simpa using congrArg Array.toList e⟩
          · cases hm'
        · cases hm
    simp only [F.eqbs, Bool.and_eq_true, key.2.2, eqbs_iff key.1 key.2.1, List.map_cons, List.cons.injEq]
def negB (op : BinOp) (b : Bool) : Bool := match op with | .neq => !b | _ => b
theorem zneg {op : BinOp} {b : Bool} {v : V} (h : xneg op b = some v) : (op = .eql ∧ v = vbool b) ∨ (op = .neq ∧ v = vbool (!b)) := by
  cases op <;> simp [xneg] at h <;> simp [h]
theorem guard_agg {op : BinOp} {t : TypeId} {x y : Operand} {a b : Array Value} (h : P.eqGuardType P.depth t = false) : (eqGuard op t x y (.agg a) (.agg b)).run P w = .ok () w := by
  unfold eqGuard
  cases op <;> simp [h]
theorem agg_eq (tok : TabOk P tb) (hr : Rep g w σ) {o : Oper} {a : Act} {fr : Fr} (opr : ∀ x, VRep g w σ (opd fr x) (a.eval x)) {bop : BinOp} {t : TypeId} {x y : Operand} {ty : TypeId} (hop : o.op = .binOp bop t x y ty)
    (hw : wideB P t = true) {v : V} (hv : xaggEq (tb t).key bop (opd fr x) (opd fr y) = some v) {k : V → St → Prop} (hk : k v σ) : Good P o a g w σ k := by
  unfold xaggEq at hv
  split at hv
  · rename_i kk ks l l' hkey hx hy
    have ex := opr x
    have ey := opr y
    rw [hx] at ex
    rw [hy] at ey
    obtain ⟨us, e1, h1⟩ := ex
    obtain ⟨vs, e2, h2⟩ := ey
    split at hv
    · rename_i fs fs' hf hf'
      rw [frz_spec hf] at h1
      rw [frz_spec hf'] at h2
      split at hv
      · rename_i hm
        simp only [Bool.and_eq_true] at hm
        obtain ⟨q1, q2⟩ := matchK_fit hm.1 h1
        obtain ⟨q3, q4⟩ := matchK_fit hm.2 h2
        have ko : KeyOk P t (kk :: ks) := by
          rcases (tok t).keyed with h | h
          · rw [hkey] at h; cases h
          · rw [hkey] at h; exact h
        obtain ⟨r, hr1, hr2⟩ := ko.eql hw w us vs q1 q3
        have hrb : r = F.eqbs fs fs' := by
          rw [Bool.eq_iff_iff, hr2, eqbs_iff hm.1 hm.2, q2, q4]
        subst hrb
        refine good_still hr (s := do eqGuard bop t x y (a.eval x) (a.eval y); binOp bop t (a.eval x) (a.eval y)) (by simp only [execOp, hop]) ⟨v, .bool (negB bop (F.eqbs fs fs')), ?_, hk, ?_⟩
        · rw [e1, e2]
          simp only [Sem.run_bind, guard_agg ko.guard, Result.andThen]
          rcases zneg hv with ⟨rfl, rfl⟩ | ⟨rfl, rfl⟩
          · simp only [binOp, Sem.run_bind, hr1, Result.andThen, Sem.run_pure, negB]
          · simp only [binOp, Sem.run_bind, hr1, Result.andThen, Sem.run_pure, negB]
        · rcases zneg hv with ⟨rfl, rfl⟩ | ⟨rfl, rfl⟩ <;> rfl
      · cases hv
    · cases hv
  · cases hv
theorem new_map (hr : Rep g w σ) : ∃ g', Rep g' (w.alloc (.map #[] 0)) (σ ++ [.map []]) ∧ Turn g w σ g' (w.alloc (.map #[] 0)) (σ ++ [.map []]) ∧ VRep g' (w.alloc (.map #[] 0)) (σ ++ [.map []]) (.c (.mp σ.length)) (.map (some w.heap.size)) :=
  ⟨g.push σ.length w.heap.size 0, push_rep hr _ _ 0 (fun _ => ⟨w.heap.size, #[], 0, by simp [G.push], heap_push_new, rfl⟩), push_turn hr _ _ 0,
    ⟨w.heap.size, .map [], by simp [G.push], rfl, by simp, rfl⟩⟩
theorem nil_bld {g : G} {w : World} {σ : St} {o ep sz BT : Nat} {u : Bool} (hr : Rep g w σ) (ho : σ[o]? = some (.bld BT u (.f .nils))) :
    ∃ g', Rep g' w ((σ ++ [Ob.arr true ep sz []]).set o (Ob.bld BT u (.rs σ.length ep 0))) ∧ Turn g w σ g' w ((σ ++ [Ob.arr true ep sz []]).set o (Ob.bld BT u (.rs σ.length ep 0))) ∧ g'.blk o = g.blk o := by
  let g' : G := ⟨g.Z, fun i => if i = σ.length then none else g.blk i, fun i => if i = σ.length then 0 else g.cap i⟩
  have hb : ∀ i, i < σ.length → g'.blk i = g.blk i := fun i hi => if_neg (Nat.ne_of_lt hi)
  have hc : ∀ i, i < σ.length → g'.cap i = g.cap i := fun i hi => if_neg (Nat.ne_of_lt hi)
  have hn : g'.blk σ.length = none := if_pos rfl
  have hlt : o < σ.length := (List.getElem?_eq_some_iff.1 ho).1
  generalize hσ' : (σ ++ [Ob.arr true ep sz []]).set o (Ob.bld BT u (C.rs σ.length ep 0)) = σ'
  have go : σ'[o]? = some (.bld BT u (.rs σ.length ep 0)) := by rw [← hσ', List.getElem?_set_self (by simp; omega)]
  have gn : σ'[σ.length]? = some (Ob.arr true ep sz []) := by rw [← hσ', List.getElem?_set_ne (by omega), List.getElem?_append_right (Nat.le_refl _), Nat.sub_self]; rfl
  have gi : ∀ i, i ≠ o → i < σ.length → σ'[i]? = σ[i]? := fun i h1 h2 => by rw [← hσ', List.getElem?_set_ne (fun h => h1 h.symm), List.getElem?_append_left h2]
  have gl : σ'.length = σ.length + 1 := by rw [← hσ']; simp
  have back : ∀ i ob, σ'[i]? = some ob → i ≠ σ.length → ∃ ob0, σ[i]? = some ob0 ∧ (ob0 = ob ∨ (i = o ∧ ob0 = .bld BT u (.f .nils) ∧ ob = .bld BT u (.rs σ.length ep 0))) := fun i ob h hi => by
    have h1 := (List.getElem?_eq_some_iff.1 h).1
    by_cases he : i = o
    · subst he
      rw [go] at h
      cases h
      exact ⟨_, ho, .inr ⟨rfl, rfl, rfl⟩⟩
    · rw [gi i he (by omega)] at h
      exact ⟨ob, h, .inl rfl⟩
  have hown : ∀ b k, Own g' σ' b k → Own g σ b k := by
    rintro b k ⟨i, ob, h1, h2, h3⟩
    have hi : i ≠ σ.length := fun h => by subst h; rw [hn] at h2; cases h2
    have h5 := (List.getElem?_eq_some_iff.1 h1).1
    obtain ⟨ob0, h6, h7⟩ := back i ob h1 hi
    refine ⟨i, ob0, h6, by rw [← hb i (by omega)]; exact h2, ?_⟩
    rcases h7 with rfl | ⟨_, rfl, _⟩
    · exact h3
    · trivial
  have T : Turn g w σ g' w σ' :=
    { os := rfl, tape := rfl, output := rfl, size := Nat.le_refl _, whole := fun _ _ _ => rfl, zs := fun b o hz => ⟨hz, rfl⟩, znew := fun b o _ hz => .inl hz, onew := fun b o _ h => hown b o h,
      turns := fun i ob h => by
        have hi := (List.getElem?_eq_some_iff.1 h).1
        by_cases he : i = o
        · subst he
          rw [ho] at h
          cases h
          exact ⟨_, go, by simp [ObTurn]⟩
        · exact ⟨ob, by rw [gi i he hi]; exact h, by cases ob <;> simp [ObTurn, hb i hi, hc i hi]⟩
      blks := fun i ob h _ => hb i (List.getElem?_eq_some_iff.1 h).1 }
  refine ⟨g', ⟨fun i ob h => ?_, fun i k a b q h1 h2 h3 h4 h5 h6 => ?_, fun b k hz hk => hr.apart b k hz (hown b k hk), hr.inside⟩, T, hb _ hlt⟩
  · have hi := (List.getElem?_eq_some_iff.1 h).1
    by_cases he : i = σ.length
    · subst he
      rw [gn] at h
      cases h
      exact .inl ⟨hn, rfl, if_pos rfl⟩
    · have hi : i < σ.length := by omega
      obtain ⟨ob0, h6, h7⟩ := back i ob h he
      have hk := (hr.ob i ob0 h6).keep T (fun _ _ => rfl) (hb i hi) (hc i hi)
      rcases h7 with rfl | ⟨rfl, rfl, rfl⟩
      · exact hk
      · obtain ⟨b, v, k1, k2, k4⟩ := hr.ob _ _ h6
        have hv0 : v = .slice none 0 0 := k4
        refine ⟨b, v, by rw [hb _ hi]; exact k1, k2, ?_⟩
        rw [hv0]
        refine ⟨rfl, .arr true ep sz [], gn, Nat.le_refl _, fun _ => ⟨?_, by simp, Nat.zero_le _⟩⟩
        rw [hn, show g'.cap σ.length = 0 from if_pos rfl]
        rfl
  · have n1 : i ≠ σ.length := fun e => by subst e; rw [hn] at h5; cases h5
    have n2 : k ≠ σ.length := fun e => by subst e; rw [hn] at h6; cases h6
    obtain ⟨a0, p1, p2⟩ := back i a h1 n1
    obtain ⟨b0, p3, p4⟩ := back k b h2 n2
    have l1 := (List.getElem?_eq_some_iff.1 p1).1
    have l2 := (List.getElem?_eq_some_iff.1 p3).1
    refine hr.inj i k a0 b0 q p1 p3 ?_ ?_ (by rw [← hb i l1]; exact h5) (by rw [← hb k l2]; exact h6)
    · rcases p2 with rfl | ⟨_, rfl, _⟩
      · exact h3
      · rfl
    · rcases p4 with rfl | ⟨_, rfl, _⟩
      · exact h4
      · rfl
theorem new_bld (tok : TabOk P tb) (hr : Rep g w σ) {t pa sa : TypeId} (ep : Nat) (hd : (tb t).d = .bld pa sa) (hz : (tb t).zero = [.nilp, .nils]) :
    ∃ g' w' v, (Instr.alloc t true (.tuple #[])).run P w = .ok v w' ∧ Rep g' w' (σ ++ [.bld t false (.rs (σ.length + 1) ep 0), .arr true ep 1 []]) ∧ Turn g w σ g' w' (σ ++ [.bld t false (.rs (σ.length + 1) ep 0), .arr true ep 1 []]) ∧ VRep g' w' (σ ++ [.bld t false (.rs (σ.length + 1) ep 0), .arr true ep 1 []]) (.c (.ptr σ.length 0)) v := by
  obtain ⟨z, h1, h2⟩ := run_zero (P := P) (tok t) (by rw [hd]; simp) w
  rw [hz] at h2
  have hc : z.cells = #[.pointer none, .slice none 0 0] := by apply Array.ext'; rw [h2]; rfl
  have r1 : Rep (g.push σ.length w.heap.size 0) (w.alloc (.cells z.cells t)) (σ ++ [.bld t false (.f .nils)]) := push_rep hr _ _ 0 (fun ht => ⟨w.heap.size, .slice none 0 0, by simp [G.push], by rw [hc]; exact heap_push_new, rfl⟩)
  have t1 := push_turn hr (.cells z.cells t) (.bld t false (.f .nils)) 0
  obtain ⟨g', r2, t2, hb⟩ := nil_bld (o := σ.length) (ep := ep) (sz := 1) r1 (by rw [List.getElem?_append_right (Nat.le_refl _), Nat.sub_self]; rfl)
  have hs : (σ ++ [Ob.bld t false (.f .nils)] ++ [Ob.arr true ep 1 []]).set σ.length (Ob.bld t false (.rs (σ ++ [Ob.bld t false (.f .nils)]).length ep 0)) = σ ++ [.bld t false (.rs (σ.length + 1) ep 0), .arr true ep 1 []] := by simp
  rw [hs] at r2 t2
  refine ⟨g', w.alloc (.cells z.cells t), .pointer (some ⟨w.heap.size, 0, none⟩), ?_, r2, t1.trans t2, ⟨w.heap.size, .bld t false (.rs (σ.length + 1) ep 0), by rw [hb]; simp [G.push], rfl, by simp, rfl⟩⟩
  simp only [Instr.alloc, Sem.run_bind, h1, Result.andThen]
  rfl
theorem bytesOf_ok : ∀ {l : List F} {s : List UInt8}, bytesOf l = some s → l = s.map fun b => F.int .u8 b.toNat
  | [], s, h => by simp only [bytesOf] at h; cases h; rfl
  | x :: r, s, h => by
    unfold bytesOf at h
    split at h
    · rename_i e; cases e
    · rename_i n r' e
      cases e
      split at h
      · rename_i l h1 h2
        cases h
        have := blt_nat h1
        simp only [List.map_cons, ← bytesOf_ok h2]
        congr 2
        simp
        omega
      · cases h
    · cases h
theorem forget_row (hr : Rep g w σ) {i : Nat} {wr : Bool} {e sz : Nat} {l : List F} (hi : σ[i]? = some (.arr wr e sz l)) {b : Nat} (hb : g.blk i = some b) (n : Nat) :
    Rep g (w.freeze ⟨b, 0, none⟩ n) (σ.set i .gone) ∧ Turn g w σ g (w.freeze ⟨b, 0, none⟩ n) (σ.set i .gone) := by
  rcases hr.ob i _ hi with ⟨h1, _, _⟩ | ⟨c, vs, T, fz, rest, h1, h2, _⟩
  · rw [hb] at h1; cases h1
  · rw [hb] at h1; cases h1
    have hlt : b < w.heap.size := (Array.getElem?_eq_some_iff.1 h2).1
    have hw : ∃ fz', w.freeze ⟨b, 0, none⟩ n = w.at b (.cells vs T fz') := by
      unfold World.freeze
      split
      · refine ⟨fz, ?_⟩
        unfold World.at
        have : w.heap.setIfInBounds b (.cells vs T fz) = w.heap := by
          apply Array.ext_getElem?
          intro j
          by_cases hj : b = j
          · subst hj; rw [Array.getElem?_setIfInBounds_self_of_lt hlt, h2]
          · rw [Array.getElem?_setIfInBounds_ne hj]
        rw [this]
      · refine ⟨if fz.1 == fz.2 then (0, 0 + n) else (min fz.1 0, max fz.2 (0 + n)), ?_⟩
        unfold World.at
        congr 1
        apply Array.ext_getElem?
        intro j
        rw [Array.getElem?_modify]
        by_cases hj : b = j
        · subst hj; rw [Array.getElem?_setIfInBounds_self_of_lt hlt, if_pos rfl, h2]; rfl
        · rw [Array.getElem?_setIfInBounds_ne hj, if_neg hj]
    obtain ⟨fz', hw⟩ := hw
    rw [hw]
    have ht := write_turn (ob' := .gone) (O' := .cells vs T fz') hr hi hb rfl h2 (fun o _ => by simp [World.cell?, at_same hlt, h2]) trivial (fun _ h => h.elim)
    exact ⟨write_rep hr hi hb rfl ht (fun h => by cases h) (fun _ h => h.elim) trivial, ht⟩
theorem string_row (hr : Rep g w σ) {i : Nat} {wr : Bool} {e sz : Nat} {l : List F} (hi : σ[i]? = some (.arr wr e sz l)) {b : Nat} (hb : g.blk i = some b) (hz : e / 4294967296 % 2 = 0) {n : Nat} (hn : n ≤ l.length) :
    ∃ g', Rep g' (w.freeze ⟨b, 0, none⟩ n) (σ.set i (.arr false e sz l)) ∧ Turn g w σ g' (w.freeze ⟨b, 0, none⟩ n) (σ.set i (.arr false e sz l)) := by
  obtain ⟨g1, r1, t1, hblk, hcap, _⟩ := freeze_arr hr hi
  have hi1 : (σ.set i (.arr false e sz l))[i]? = some (.arr false e sz l) := (get_set hi).2 (.inl ⟨rfl, rfl⟩)
  generalize hs : σ.set i (.arr false e sz l) = σ1 at *
  have hset : σ1.set i (.arr false e sz l) = σ1 := by rw [← hs, List.set_set]
  have hb1 : g1.blk i = some b := by rw [hblk]; exact hb
  rcases r1.ob i _ hi1 with ⟨h1, _, _⟩ | ⟨c, vs, T, fz, rest, h1, h2, h3, h4⟩
  · rw [hb1] at h1; cases h1
  · rw [hb1] at h1; cases h1
    have hlt : b < w.heap.size := (Array.getElem?_eq_some_iff.1 h2).1
    have hw : ∃ fz', FreeR false e l.length vs.size fz' ∧ w.freeze ⟨b, 0, none⟩ n = w.at b (.cells vs T fz') := by
      unfold World.freeze
      split
      · refine ⟨fz, h3, ?_⟩
        unfold World.at
        have : w.heap.setIfInBounds b (.cells vs T fz) = w.heap := by
          apply Array.ext_getElem?
          intro j
          by_cases hj : b = j
          · subst hj; rw [Array.getElem?_setIfInBounds_self_of_lt hlt, h2]
          · rw [Array.getElem?_setIfInBounds_ne hj]
        rw [this]
      · refine ⟨if fz.1 == fz.2 then (0, 0 + n) else (min fz.1 0, max fz.2 (0 + n)), ?_, ?_⟩
        · split
          · exact .inr (.inr ⟨rfl, by simpa using hn⟩)
          · rename_i hne
            rcases h3 with h | h | h
            · exact absurd (by simpa using h) hne
            · omega
            · refine .inr (.inr ⟨rfl, ?_⟩)
              simp only
              have := h.2
              omega
        · unfold World.at
          congr 1
          apply Array.ext_getElem?
          intro j
          rw [Array.getElem?_modify]
          by_cases hj : b = j
          · subst hj; rw [Array.getElem?_setIfInBounds_self_of_lt hlt, if_pos rfl, h2]; rfl
          · rw [Array.getElem?_setIfInBounds_ne hj, if_neg hj]
    obtain ⟨fz', hf', hw⟩ := hw
    rw [hw]
    have ht := write_turn (ob' := .arr false e sz l) (O' := .cells vs T fz') r1 hi1 hb1 rfl h2 (fun o _ => by simp [World.cell?, at_same hlt, h2]) (.inr ⟨rfl, rfl, rfl, rfl, rfl⟩) (fun _ h => h)
    have hr2 := write_rep r1 hi1 hb1 rfl ht (fun _ => rfl) (fun _ h => h) (by
      obtain ⟨k4, k5, ⟨pre, k6, k7, k8⟩, k9⟩ := h4
      exact .inr ⟨b, vs, T, fz', rest, hb1, at_same hlt, hf', k4, k5, ⟨pre, k6, k7, fun j a c => FRep.turn ht.zs _ _ (k8 j a c)⟩, k9⟩)
    rw [hset] at ht hr2
    exact ⟨g1, hr2, t1.trans ht⟩
theorem app_zeros {t u e : TypeId} {i : TypeInfo} {z : Value} {q : IntKind} (ht : P.underlying t = some (.slice e)) (hu : P.underlying u = some (.int q)) (hi : P.info? e = some i) (hz : i.zero = some z) {T : TypeId} {n : Nat} (h0 : 0 < n) (h1 : n ≤ 16777216) (h2 : n * i.bytes ≤ 16777216) :
    (Builtin.append_ #[t, u] T #[.slice none 0 0, .int .i64 n]).run P w =
      .ok (.slice (some ⟨w.heap.size, 0, none⟩) n (grownCap w n 0 e))
        (w.drew.alloc (.cells ((if n * i.size = 0 then [] else (Builtin.zeroCells z.cells n).toList) ++ (Builtin.zeroCells z.cells (grownCap w n 0 e - n)).toList).toArray e)) := by
  have hfit : Builtin.nextslicecap n 0 * i.bytes ≤ 281474976710656 := growslice_fits (by omega) (by omega)
  have hwrap : IntKind.i64.wrap (n : Int) = n := by
    simp [IntKind.wrap, IntKind.signed, IntKind.bits, IntKind.min, IntKind.max]
    omega
  have h48 : ¬ ((281474976710656 : Int) < (n : Int) * (i.bytes : Int)) := by
    have : ((n * i.bytes : Nat) : Int) ≤ 16777216 := by omega
    rw [Int.natCast_mul] at this
    omega
  have h48' : ¬ (281474976710656 < Builtin.nextslicecap n 0 * i.bytes) := by omega
  have hn : ¬ (n ≤ 0) := by omega
  have h63 : ¬ ((9223372036854775807 : Int) < (n : Int)) := by omega
  have hneg : ¬ ((n : Int) < 0) := by omega
  have hnz : ¬ (n = 0) := by omega
  by_cases hs : n * i.size = 0
  · simp [Builtin.append_, run_underlying ht, run_underlying hu, sizeOf, typeInfo, zeroValue, hi, hz, hwrap, hneg, h48, h48', hn, h63, Question.forced, newRow, grownCap, asInt, asIntOf, Builtin.firstCells, hs, hnz]
  · simp [Builtin.append_, run_underlying ht, run_underlying hu, sizeOf, typeInfo, zeroValue, hi, hz, hwrap, hneg, h48, h48', hn, h63, Question.forced, newRow, grownCap, asInt, asIntOf, Builtin.firstCells, hs, hnz]
    congr 2; apply Array.ext'; simp
theorem zeroCells_rep {z : Value} {zs : List F} {n m : Nat} (h : z.cells.toList = zs.map zval) (hp : zs.all plain = true) : CReps g w σ ((repF n zs).map .f) (Builtin.zeroCells z.cells n).toList := by
  have hc : CReps g w σ (zs.map .f) z.cells.toList := by rw [h]; exact zero_reps hp
  have := rep_rep hc n
  rw [rep_repF] at this
  have e : (Builtin.zeroCells z.cells n).toList = (List.range (n * z.cells.toList.length)).map fun i => z.cells.toList[i % z.cells.toList.length]! := by
    unfold Builtin.zeroCells
    simp only [Array.toList_map, Array.toList_range, Array.length_toList]
    apply List.map_congr_left
    intro i _
    rw [getElem!_def, getElem!_def, Array.getElem?_toList]
  rw [e]
  exact this
theorem bi_ok (tok : TabOk P tb) (hr : Rep g w σ) {b : Builtin} {ts : Array TypeId} {ty : TypeId} {cs : Array Bool} {vals : List V} {vs : List Value} (hv : VReps g w σ vals vs) {l : List (V × St)} (hl : xbuiltin tb b vals ts.toList σ = some l) {k : V → St → Prop} (hk : ∀ p ∈ l, k p.1 p.2) :
    ∃ r σ' g' w' v, (builtin b ts ty cs vs.toArray).run P w = .ok (.value v) w' ∧ k r σ' ∧ Rep g' w' σ' ∧ Turn g w σ g' w' σ' ∧ VRep g' w' σ' r v := by
  have still : ∀ {r : V} {v : Value}, (builtin b ts ty cs vs.toArray).run P w = .ok (.value v) w → k r σ → VRep g w σ r v → ∃ r σ' g' w' v, (builtin b ts ty cs vs.toArray).run P w = .ok (.value v) w' ∧ k r σ' ∧ Rep g' w' σ' ∧ Turn g w σ g' w' σ' ∧ VRep g' w' σ' r v :=
    fun {r v} a b c => ⟨r, σ, g, w, v, a, b, hr, Turn.refl _ _ _, c⟩
  have one_ : ∀ {x : V}, vals = [x] → ∃ v, vs = [v] ∧ VRep g w σ x v := fun {x} e => by
    rw [e] at hv
    obtain ⟨v, vr, rfl, h1, h2⟩ := hv
    simp only [VReps] at h2; subst h2
    exact ⟨v, rfl, h1⟩
  have two_ : ∀ {x y : V}, vals = [x, y] → ∃ v u, vs = [v, u] ∧ VRep g w σ x v ∧ VRep g w σ y u := fun {x y} e => by
    rw [e] at hv
    obtain ⟨v, vr, rfl, h1, u, vr', rfl, h2, h3⟩ := hv
    simp only [VReps] at h3; subst h3
    exact ⟨v, u, rfl, h1, h2⟩
  unfold xbuiltin at hl
  split at hl
  · -- cap
    rename_i t ets
    obtain ⟨v, rfl, h1⟩ := one_ rfl
    have : v = .slice none 0 0 := h1
    subst this
    split at hl
    · rename_i e hd
      cases hl
      have ht := (tok t).fits
      rw [hd] at ht
      have ets' : ts = #[t] := by apply Array.ext'; simpa using ets
      subst ets'
      refine still ?_ (hk _ (List.mem_singleton.2 rfl)) rfl
      simp [builtin, Builtin.cap_, run_underlying ht, goInt]
    · cases hl
  · obtain ⟨v, rfl, h1⟩ := one_ rfl
    have : v = .slice none 0 0 := h1
    subst this
    cases hl
    exact still (by rfl) (hk _ (List.mem_singleton.2 rfl)) rfl
  · rename_i o e n
    obtain ⟨v, rfl, h1⟩ := one_ rfl
    simp only [nth_eq] at hl
    split at hl
    · rename_i wr e0 sz x xs ho
      split at hl
      · rename_i hc
        simp only [Bool.and_eq_true] at hc
        have he := beq_nat hc.1
        have hz := blt_nat hc.2
        subst he
        cases hl
        obtain ⟨_, ob, h2, h3⟩ := h1
        rw [ho] at h2; cases h2
        obtain ⟨rfl, h4, h5⟩ := h3.2 rfl
        rcases hr.ob o _ ho with ⟨_, k2, _⟩ | ⟨b, vs', T, fz, rest, k1, _⟩
        · cases k2
        · have hcap : g.cap o ≠ 0 := by
            intro h0
            have : n = 0 := by omega
            subst this
            simp at h4
          refine still (v := .pointer (some ⟨b, 0, none⟩)) ?_ (hk _ (List.mem_singleton.2 rfl)) ⟨rfl, _, ho, Nat.le_refl _, fun _ => ⟨b, k1, rfl⟩⟩
          have := Lib.run_unsafeSliceData_row (P := P) (w := w) ts ty ⟨b, 0, none⟩ n (g.cap o) hcap
          simp only [builtin, k1, Option.map_some, Sem.run_bind, Result.andThen, this, Sem.run_pure]
      · cases hl
    · rename_i wr e0 sz ho
      split at hl
      · rename_i hc
        simp only [Bool.and_eq_true] at hc
        have he := beq_nat hc.1
        have hz : e / 4294967296 % 2 = 0 := beq_nat hc.2
        subst he
        cases hl
        obtain ⟨_, ob, h2, h3⟩ := h1
        rw [ho] at h2; cases h2
        obtain ⟨rfl, h4, h5⟩ := h3.2 rfl
        rcases hr.ob o _ ho with ⟨k2, _, _⟩ | ⟨b, vs', T, fz, rest, k1, _, _, _, _, _, _, _, k9⟩
        · refine still (v := .pointer none) ?_ (hk _ (List.mem_cons_self ..)) rfl
          have := Lib.run_unsafeSliceData_nil (P := P) (w := w) ts ty n (g.cap o)
          simp only [builtin, k2, Option.map_none, Sem.run_bind, Result.andThen, this, Sem.run_pure]
        · refine still (v := .pointer (some ⟨b, 0, none⟩)) ?_ (hk _ (List.mem_cons_of_mem _ (List.mem_singleton.2 rfl))) ⟨b, 0, by simp, trivial⟩
          have := Lib.run_unsafeSliceData_row (P := P) (w := w) ts ty ⟨b, 0, none⟩ n (g.cap o) (k9 hz)
          simp only [builtin, k1, Option.map_some, Sem.run_bind, Result.andThen, this, Sem.run_pure]
      · cases hl
    · cases hl
  · rename_i cs0 off n t u ets
    obtain ⟨v, u', rfl, h1, h2⟩ := two_ rfl
    obtain ⟨b, o, h1, _⟩ := (h1 : ∃ b o, v = .pointer (some ⟨b, o + off, none⟩) ∧ _)
    have h2 : u' = .int .i64 n := h2
    subst h1 h2
    split at hl
    · rename_i h0
      cases hl
      have hn : n = 0 := by
        unfold ieq0 at h0
        split at h0
        · have := beq_nat h0; subst this; rfl
        · cases h0
      subst hn
      have ets' : ts = #[t, u] := by apply Array.ext'; simpa using ets
      subst ets'
      refine still (v := .string .empty) ?_ (hk _ (List.mem_singleton.2 rfl)) rfl
      have := Lib.run_unsafeString_none (P := P) (w := w) t u ty (some ⟨b, o + off, none⟩)
      simp only [builtin, Sem.run_bind, Result.andThen, this, Sem.run_pure]
    · cases hl
  · rename_i n t u ets
    obtain ⟨v, u', rfl, h1, h2⟩ := two_ rfl
    have h1 : v = .pointer none := h1
    have h2 : u' = .int .i64 n := h2
    subst h1 h2
    split at hl
    · rename_i h0
      cases hl
      have hn : n = 0 := by
        unfold ieq0 at h0
        split at h0
        · have := beq_nat h0; subst this; rfl
        · cases h0
      subst hn
      have ets' : ts = #[t, u] := by apply Array.ext'; simpa using ets
      subst ets'
      refine still (v := .string .empty) ?_ (hk _ (List.mem_singleton.2 rfl)) rfl
      have := Lib.run_unsafeString_none (P := P) (w := w) t u ty none
      simp only [builtin, Sem.run_bind, Result.andThen, this, Sem.run_pure]
    · cases hl
  · rename_i o e n t u ets
    obtain ⟨v, u', rfl, h1, h2⟩ := two_ rfl
    have h2 : u' = .int .i64 (n : Nat) := h2
    subst h2
    simp only [nth_eq, put_eq] at hl
    split at hl
    · rename_i ue wr e0 sz row hd ho
      split at hl
      · rename_i s hdu hc hs
        simp only [Bool.and_eq_true] at hc
        obtain ⟨⟨⟨⟨c1, c2⟩, c3⟩, c4⟩, c5⟩ := hc
        have c5 := beq_nat c5
        have c1 := beq_nat c1
        have c2 := beq_nat c2
        have c3 := beq_nat c3
        have c4 := beq_nat c4
        subst c1 c2 c3
        cases hl
        have hrow := bytesOf_ok hs
        subst hrow
        have ets' : ts = #[t, u] := by apply Array.ext'; simpa using ets
        subst ets'
        obtain ⟨_, ob, q1, q2⟩ := h1
        rw [ho] at q1; cases q1
        obtain ⟨b, k1, rfl⟩ := q2.2 rfl
        have hp := (tok t).fits
        rw [hd] at hp
        obtain ⟨j, z, i1, i2, i3, i4, i5⟩ := run_info (tok ue) (by rw [hdu]; simp)
        have hfu := (tok ue).fits
        rw [hdu] at hfu
        rcases hr.ob o _ ho with ⟨q1, _, _⟩ | ⟨c, vs', T, fz, rest, q1, q2, q3, q4, q5, ⟨pre, q6, q7, q8⟩, q9, q10, q11⟩
        · rw [k1] at q1; cases q1
        · rw [k1] at q1; cases q1
          have hT : T = ue := by rw [q10]; exact c4
          subst hT
          obtain ⟨g2, r1, r2⟩ : ∃ g2, Rep g2 (w.freeze ⟨b, 0, none⟩ s.length) (σ.set o (match Nat.beq (Nat.mod (Nat.div e 4294967296) 2) 0 with | true => .arr false e 1 (s.map fun b => F.int .u8 b.toNat) | false => .gone)) ∧ Turn g w σ g2 (w.freeze ⟨b, 0, none⟩ s.length) (σ.set o (match Nat.beq (Nat.mod (Nat.div e 4294967296) 2) 0 with | true => .arr false e 1 (s.map fun b => F.int .u8 b.toNat) | false => .gone)) := by
            cases hz : Nat.beq (Nat.mod (Nat.div e 4294967296) 2) 0 with
            | true => exact string_row hr ho k1 (beq_nat hz) (by simp)
            | false => exact ⟨g, forget_row hr ho k1 (s.length)⟩
          have hsz1 : P.cellsOf T = 1 := by
            simp [Program.cellsOf, i1, i2, c5]
          by_cases h0 : s = []
          · subst h0
            refine ⟨_, _, g2, _, .string .empty, ?_, hk _ (List.mem_singleton.2 rfl), r1, r2, rfl⟩
            have := Lib.run_unsafeString_none (P := P) (w := w) t u ty (some ⟨b, 0, none⟩)
            have hfz : w.freeze ⟨b, 0, none⟩ ([] : List UInt8).length = w := by simp [World.freeze]
            rw [hfz]
            simp only [builtin, List.map_nil, List.length_nil, Sem.run_bind, Result.andThen]
            erw [this]
            rfl
          · obtain ⟨vs2, a1, a2, a3⟩ := arr_vals hr ho k1
            have hb := byte_vals a3
            subst hb
            have hsh : w.shape? b = some (T, vs'.size) := by simp [World.shape?, q2]
            have hn : s.length ≤ vs'.size := by
              have := congrArg List.length q6
              simp at this q7
              omega
            have h63 : s.length ≤ 9223372036854775807 := by
              simp only [maxLen] at q5
              omega
            refine ⟨_, _, g2, _, .string ⟨s.toArray⟩, ?_, hk _ (List.mem_singleton.2 rfl), r1, r2, rfl⟩
            have := Lib.run_unsafeString_row (P := P) (w := w) t u ty T hp hsz1 b vs'.size hsh s h0 hn h63 (fun j x hx => by
              rw [add_addr, Nat.zero_add]
              exact a2 j _ (by simp [hx]))
            simp only [builtin, List.length_map, Sem.run_bind, Result.andThen, this, Sem.run_pure]
      · cases hl
    · cases hl
  · rename_i n t u ets
    obtain ⟨v, u', rfl, h1, h2⟩ := two_ rfl
    have h1 : v = .slice none 0 0 := h1
    have h2 : u' = .int .i64 (n : Nat) := h2
    subst h1 h2
    split at hl
    · rename_i e q hd hdu
      split at hl
      · rename_i he hc
        simp only [Bool.and_eq_true] at hc
        obtain ⟨⟨⟨c1, c2⟩, c3⟩, c4⟩ := hc
        have c1 := blt_nat c1
        have c2 := ble_nat c2
        have c3 := ble_nat c3
        have c4 := ble_nat c4
        cases hl
        have ets' : ts = #[t, u] := by apply Array.ext'; simpa using ets
        subst ets'
        have ht := (tok t).fits
        rw [hd] at ht
        have hu := (tok u).fits
        rw [hdu] at hu
        obtain ⟨j, z, i1, i2, i3, i4, i5⟩ := run_info (tok e) (not_no he)
        obtain ⟨z', q6, q7⟩ := run_zero (P := P) (tok e) (not_no he) w
        have ez : z' = z := by
          have hh : (zeroValue e).run P w = .ok z w := by simp [zeroValue, typeInfo, i1, i4]
          rw [hh] at q6
          cases q6
          rfl
        subst ez
        have hzl := zero_len (tok e) (not_no he)
        have hrun := app_zeros (P := P) (w := w) (T := ty) ht hu i1 i4 c1 c2 (by rw [i3]; exact c3)
        have hcap := grownCap_ge w n 0 e
        have hcm : grownCap w n 0 e ≤ maxLen := grownCap_le_maxLen w n 0 e (by simp only [maxLen]; omega)
        obtain ⟨d1, d2⟩ := drew_rep hr
        have hcells : (if n * j.size = 0 then [] else (Builtin.zeroCells z'.cells n).toList) = (Builtin.zeroCells z'.cells n).toList := by
          split
          · rename_i h0
            symm
            apply List.eq_nil_of_length_eq_zero
            rw [Array.length_toList, size_zeroCells, i5, ← i2]
            exact h0
          · rfl
        rw [hcells] at hrun
        have hcr := zeroCells_rep (g := g) (w := w) (σ := σ) (n := n) (m := 0) q7 (zero_plain (tok e) (not_no he))
        have hfl : (repF n (tb e).zero).length = n * (tb e).size := by rw [repF_len, hzl]
        have hzc : (Builtin.zeroCells z'.cells n).toList.length = n * (tb e).size := by rw [Array.length_toList, size_zeroCells, i5]
        obtain ⟨g2, p1, p2, p3, p4⟩ := new_arr d1 e (tb e).size (grownCap w n 0 e) (l := repF n (tb e).zero) (vs := (Builtin.zeroCells z'.cells n).toList ++ (Builtin.zeroCells z'.cells (grownCap w n 0 e - n)).toList) (0, 0) e (Nat.mod_eq_of_lt (Nat.lt_succ_of_le c4)).symm (fun _ => by omega) (.inl rfl)
          (by rw [List.length_append, hzc, Array.length_toList, size_zeroCells, i5, ← Nat.add_mul]; congr 1; omega) hcm (by rw [List.length_append, hzc, hfl]; omega)
          (fun q a b => by
            have ha : q < (Builtin.zeroCells z'.cells n).toList.length := by rw [hzc, ← hfl]; exact a
            rw [List.getElem_append_left ha]
            obtain ⟨v, r1, r2⟩ := hcr.get (i := q) (c := .f (repF n (tb e).zero)[q]) (by simp [a])
            rw [List.getElem?_eq_getElem ha] at r1
            cases r1
            exact FRep.turn d2.zs _ _ r2)
        refine ⟨_, _, g2, _, .slice (some ⟨w.heap.size, 0, none⟩) n (grownCap w n 0 e), ?_, hk _ (List.mem_singleton.2 rfl), p1, d2.trans p2, ⟨rfl, .arr true e (tb e).size (repF n (tb e).zero), by simp, Nat.le_refl _, fun _ => ⟨by rw [p3, p4]; rfl, hfl.symm, by rw [p4]; exact hcap⟩⟩⟩
        simp only [builtin, Sem.run_bind, Result.andThen]
        erw [hrun]
        rfl
      · cases hl
    · cases hl
  · cases hl
end
end Go.Dm
