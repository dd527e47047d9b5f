/- Printed by merge2.py: many texts in one. -/
import Derived.Test.YtpoegfkajdbplaaMb
import Derived.IntWalk

namespace Go.Dm.Sx
open Go.Dm
set_option linter.unusedVariables false
set_option linter.unusedSimpArgs false
structure Cx (U : Uni) where
  ρ : Rho U
  β : Nat → Nat
  S : SSt
  σ : St
variable {U : Uni}
def Cx.ι (c : Cx U) : Inf := inf c.ρ c.S
def Cx.vr (c : Cx U) : SV → V → Prop := VR c.ρ c.β c.ι
def Cx.cr (c : Cx U) : SC → Dm.C → Prop := CR c.ρ c.β c.ι
def Cx.crs (c : Cx U) : List SC → List Dm.C → Prop := CRs c.ρ c.β c.ι
def Cx.push (c : Cx U) (d : Dyn U.B) : Cx U := { c with ρ := c.ρ ++ [d] }
structure Ok (c : Cx U) (e : SE) : Prop where
  tys : e.tys = c.ρ.map Dyn.t
  kn : ∀ p ∈ e.kn, p.1.den? c.ρ = some ⟨.bool, p.2⟩
  ne : ∀ x ∈ e.ne, ∃ d, x.den? c.ρ = some d ∧ lenOf d ≠ 0
  len : c.S.length = c.σ.length
  st : ∀ o so, c.S[o]? = some so → ∃ ob, c.σ[o]? = some ob ∧ OR c.ρ c.β c.ι o so ob
def Le (c c' : Cx U) : Prop := Later c.ρ c.β c.ι c'.ρ c'.β c'.ι
section
variable {c c' c'' : Cx U} {e : SE}
theorem Le.refl (c : Cx U) : Le c c := Later.refl _ _ _
theorem Le.trans (h : Le c c') (k : Le c' c'') : Le c c'' := Later.trans h k
theorem Le.vr (h : Le c c') {x : SV} {v : V} (hv : c.vr x v) : c'.vr x v := VR.later h hv
theorem Le.cr (h : Le c c') {x : SC} {v : Dm.C} (hv : c.cr x v) : c'.cr x v := CR.later h hv
theorem Le.crs (h : Le c c') {x : List SC} {v : List Dm.C} (hv : c.crs x v) : c'.crs x v := CRs.later h hv
theorem Le.den (h : Le c c') {x : Tm} {d : Dyn U.B} (hx : x.den? c.ρ = some d) : x.den? c'.ρ = some d := h.1 x d hx
theorem later_push (ρ : Rho U) (β : Nat → Nat) (S : SSt) (r : Rho U) : Later ρ β (inf ρ S) (ρ ++ r) β (inf (ρ ++ r) S) := by
  refine ⟨fun x d h => Tm.den_app h r, fun o kc len h => ⟨rfl, kc, len, ?_, .inr ⟨rfl, rfl⟩⟩⟩
  unfold inf at h ⊢
  split at h
  · rename_i w k ty sz t x ho
    split at h
    · rename_i d hd
      rw [Tm.den_app hd r]
      exact h
    · cases h
  · cases h
theorem Le.push (c : Cx U) (d : Dyn U.B) : Le c (c.push d) := later_push c.ρ c.β c.S [d]
theorem Ok.push (ok : Ok c e) (d : Dyn U.B) : Ok (c.push d) (e.push d.t) where
  tys := by simp [SE.push, Cx.push, ok.tys]
  kn p hp := Tm.den_app (ok.kn p hp) _
  ne x hx := let ⟨d', h1, h2⟩ := ok.ne x hx; ⟨d', Tm.den_app h1 _, h2⟩
  len := ok.len
  st o so ho := let ⟨ob, h1, h2⟩ := ok.st o so ho; ⟨ob, h1, h2.later (Le.push c d) rfl⟩
theorem Ok.n (ok : Ok c e) : e.n = c.ρ.length := by simp [SE.n, ok.tys]
theorem Ok.new (ok : Ok c e) (d : Dyn U.B) : e.new.den? (c.push d).ρ = some d := by
  simp [SE.new, Tm.den?, Cx.push, ok.n]
theorem Ok.kn' (ok : Ok c e) {x : Tm} {b : Bool} (hx : x.den? c.ρ = some ⟨.bool, b⟩) : Ok c { e with kn := (x, b) :: e.kn } where
  tys := ok.tys
  kn p hp := by rcases List.mem_cons.1 hp with rfl | hp; exact hx; exact ok.kn p hp
  ne := ok.ne
  len := ok.len
  st := ok.st
theorem Ok.ne' (ok : Ok c e) {x : Tm} {d : Dyn U.B} (hx : x.den? c.ρ = some d) (hl : lenOf d ≠ 0) : Ok c { e with ne := x :: e.ne } where
  tys := ok.tys
  kn := ok.kn
  ne y hy := by rcases List.mem_cons.1 hy with rfl | hy; exact ⟨d, hx, hl⟩; exact ok.ne y hy
  len := ok.len
  st := ok.st
theorem Ok.ty (ok : Ok c e) {i : Nat} {t : Ty} (h : nth e.tys i = some t) : ∃ d : Dyn U.B, c.ρ[i]? = some d ∧ d.t = t := by
  rw [nth_eq, ok.tys, List.getElem?_map] at h
  cases hi : c.ρ[i]? with
  | none => simp [hi] at h
  | some d => simp [hi] at h; exact ⟨d, rfl, h⟩
theorem Ok.get (ok : Ok c e) {o : Nat} {so : SOb} (h : nth c.S o = some so) : ∃ ob, c.σ[o]? = some ob ∧ OR c.ρ c.β c.ι o so ob := ok.st o so (by rwa [nth_eq] at h)
variable {ρ : Rho U} {β : Nat → Nat} {ι : Inf}
theorem V_c {x : SC} {v : V} (hs : x ≠ .un) (h : VR ρ β ι (.c x) v) : ∃ y, v = .c y ∧ CR ρ β ι x y := by
  cases x <;> first | exact absurd rfl hs | (simp only [VR] at h; exact h)
theorem vd {t : Ty} {a : Tm} {v : V} (h : VR ρ β ι (.c (.d t a)) v) : ∃ f d, v = .c (.f f) ∧ a.den? ρ = some d ∧ d.t = t ∧ FD U f d := by
  obtain ⟨y, rfl, h0⟩ := V_c (by simp) h
  simp only [CR] at h0
  obtain ⟨f, d, rfl, h1⟩ := h0
  exact ⟨f, d, rfl, h1⟩
theorem vd_of {t : Ty} {a : Tm} {f : F} {d : Dyn U.B} (h1 : a.den? ρ = some d) (h2 : d.t = t) (h3 : FD U f d) : VR ρ β ι (.c (.d t a)) (.c (.f f)) :=
  VR.c (by simp only [CR]; exact ⟨f, d, rfl, h1, h2, h3⟩)
theorem FD.int {f : F} {k : IntKind} {n : Int} (h : FD U f ⟨.int k, n⟩) : f = .int k n := by
  cases f <;> simp only [FD] at h <;> first
    | (obtain ⟨t, h⟩ := h; cases h; done)
    | (obtain ⟨t, xs, h, _⟩ := h; cases h; done)
    | (rcases h with ⟨t, x, h, _⟩ | ⟨t, x, h, _⟩ <;> cases h; done)
    | cases h
  rfl
theorem FD.bool {f : F} {b : Bool} (h : FD U f ⟨.bool, b⟩) : f = .bool b := by
  cases f <;> simp only [FD] at h <;> first
    | (obtain ⟨t, h⟩ := h; cases h; done)
    | (obtain ⟨t, xs, h, _⟩ := h; cases h; done)
    | (rcases h with ⟨t, x, h, _⟩ | ⟨t, x, h, _⟩ <;> cases h; done)
    | cases h
  rfl
theorem FD.str {f : F} {b : List UInt8} (h : FD U f ⟨.str, b⟩) : f = .str b := by
  cases f <;> simp only [FD] at h <;> first
    | (obtain ⟨t, h⟩ := h; cases h; done)
    | (obtain ⟨t, xs, h, _⟩ := h; cases h; done)
    | (rcases h with ⟨t, x, h, _⟩ | ⟨t, x, h, _⟩ <;> cases h; done)
    | cases h
  rfl
theorem FD.flo {f : F} {b : Nat} (h : FD U f ⟨.flo, b⟩) : f = .flo b := by
  cases f <;> simp only [FD] at h <;> first
    | (obtain ⟨t, h⟩ := h; cases h; done)
    | (obtain ⟨t, xs, h, _⟩ := h; cases h; done)
    | (rcases h with ⟨t, x, h, _⟩ | ⟨t, x, h, _⟩ <;> cases h; done)
    | cases h
  rfl
theorem FD.cpl {f : F} {b : Nat × Nat} (h : FD U f ⟨.cpl, b⟩) : f = .cpl b.1 b.2 := by
  cases f <;> simp only [FD] at h <;> first
    | (obtain ⟨t, h⟩ := h; cases h; done)
    | (obtain ⟨t, xs, h, _⟩ := h; cases h; done)
    | (rcases h with ⟨t, x, h, _⟩ | ⟨t, x, h, _⟩ <;> cases h; done)
    | cases h
  rfl
theorem FD.list {f : F} {t : Ty} {xs : List (T U.B t)} (h : FD U f ⟨.list t, xs⟩) : (f = .nils ∧ xs = []) ∨ ∃ fs, f = .sl xs.length fs ∧ FDs U fs (flat U xs) := by
  cases f <;> simp only [FD] at h <;> first
    | (rcases h with ⟨t, x, h, _⟩ | ⟨t, x, h, _⟩ <;> cases h; done)
    | (cases h; done)
    | skip
  · obtain ⟨t, h⟩ := h; cases h; exact .inl ⟨rfl, rfl⟩
  · obtain ⟨t, xs, h, rfl, h2⟩ := h; cases h; exact .inr ⟨_, rfl, h2⟩
  · obtain ⟨t, h⟩ := h; cases h
theorem FD.ptr {f : F} {t : Ty} {x : T U.B t} (h : FD U f ⟨.ptr t, x⟩) : ∃ fs, f = .obj fs ∧ FDs U fs (cells U ⟨t, x⟩) := by
  cases f <;> simp only [FD] at h <;> first
    | (obtain ⟨t, h⟩ := h; cases h; done)
    | (obtain ⟨t, xs, h, _⟩ := h; cases h; done)
    | (cases h; done)
    | skip
  rcases h with ⟨t, x, h, _⟩ | ⟨t, x, h, h2⟩
  · cases h
  · cases h; exact ⟨_, rfl, h2⟩
theorem FD.opt {f : F} {t : Ty} {x : Option (T U.B t)} (h : FD U f ⟨.opt t, x⟩) : (f = .nilp ∧ x = none) ∨ ∃ y fs, f = .obj fs ∧ x = some y ∧ FDs U fs (cells U ⟨t, y⟩) := by
  cases f <;> simp only [FD] at h <;> first
    | (obtain ⟨t, xs, h, _⟩ := h; cases h; done)
    | (cases h; done)
    | skip
  · obtain ⟨t, h⟩ := h; cases h
  · obtain ⟨t, h⟩ := h; cases h; exact .inl ⟨rfl, rfl⟩
  · rcases h with ⟨t, x, h, h2⟩ | ⟨t, x, h, _⟩
    · cases h; exact .inr ⟨_, _, rfl, rfl, h2⟩
    · cases h
theorem vr_int {k : IntKind} {a : Tm} {v : V} (h : VR ρ β ι (.c (.d (.int k) a)) v) : ∃ n : Int, v = .c (.f (.int k n)) ∧ a.den? ρ = some ⟨.int k, n⟩ := by
  obtain ⟨f, ⟨t, n⟩, rfl, h1, rfl, h3⟩ := vd h
  exact ⟨n, by rw [FD.int h3], h1⟩
theorem vr_bool {a : Tm} {v : V} (h : VR ρ β ι (.c (.d .bool a)) v) : ∃ n : Bool, v = .c (.f (.bool n)) ∧ a.den? ρ = some ⟨.bool, n⟩ := by
  obtain ⟨f, ⟨t, n⟩, rfl, h1, rfl, h3⟩ := vd h
  exact ⟨n, by rw [FD.bool h3], h1⟩
theorem vr_str {a : Tm} {v : V} (h : VR ρ β ι (.c (.d .str a)) v) : ∃ n : List UInt8, v = .c (.f (.str n)) ∧ a.den? ρ = some ⟨.str, n⟩ := by
  obtain ⟨f, ⟨t, n⟩, rfl, h1, rfl, h3⟩ := vd h
  exact ⟨n, by rw [FD.str h3], h1⟩
theorem vr_flo {a : Tm} {v : V} (h : VR ρ β ι (.c (.d .flo a)) v) : ∃ n : Nat, v = .c (.f (.flo n)) ∧ a.den? ρ = some ⟨.flo, n⟩ := by
  obtain ⟨f, ⟨t, n⟩, rfl, h1, rfl, h3⟩ := vd h
  exact ⟨n, by rw [FD.flo h3], h1⟩
theorem vr_cpl {a : Tm} {v : V} (h : VR ρ β ι (.c (.d .cpl a)) v) : ∃ n : Nat × Nat, v = .c (.f (.cpl n.1 n.2)) ∧ a.den? ρ = some ⟨.cpl, n⟩ := by
  obtain ⟨f, ⟨t, n⟩, rfl, h1, rfl, h3⟩ := vd h
  exact ⟨n, by rw [FD.cpl h3], h1⟩
theorem vr_list {t : Ty} {a : Tm} {v : V} (h : VR ρ β ι (.c (.d (.list t) a)) v) : ∃ xs : List (T U.B t), a.den? ρ = some ⟨.list t, xs⟩ ∧ ((v = .c (.f .nils) ∧ xs = []) ∨ ∃ fs, v = .c (.f (.sl xs.length fs)) ∧ FDs U fs (flat U xs)) := by
  obtain ⟨f, ⟨t, n⟩, rfl, h1, rfl, h3⟩ := vd h
  refine ⟨n, h1, ?_⟩
  rcases FD.list h3 with ⟨rfl, h4⟩ | ⟨fs, rfl, h4⟩
  · exact .inl ⟨rfl, h4⟩
  · exact .inr ⟨fs, rfl, h4⟩
theorem den_int {x : Tm} {k : IntKind} {n : Int} (h : x.den? ρ = some ⟨.int k, n⟩) : (x.den ρ).int = n := by rw [Tm.den_of h]; rfl
theorem den_bool {x : Tm} {n : Bool} (h : x.den? ρ = some ⟨.bool, n⟩) : (x.den ρ).bool = n := by rw [Tm.den_of h]; rfl
theorem den_str {x : Tm} {n : List UInt8} (h : x.den? ρ = some ⟨.str, n⟩) : (x.den ρ).str = n := by rw [Tm.den_of h]; rfl
theorem den_flo {x : Tm} {n : Nat} (h : x.den? ρ = some ⟨.flo, n⟩) : (x.den ρ).flo = n := by rw [Tm.den_of h]; rfl
theorem den_cpl {x : Tm} {n : Nat × Nat} (h : x.den? ρ = some ⟨.cpl, n⟩) : (x.den ρ).cpl = n := by rw [Tm.den_of h]; rfl
theorem den_as {x : Tm} {t : Ty} {n : T U.B t} (h : x.den? ρ = some ⟨t, n⟩) : (x.den ρ).as t = n := by rw [Tm.den_of h, as_self]
theorem at_flo {r : Rho U} {i : Nat} {x : Nat} (h : r[i]? = some ⟨.flo, x⟩) : ((Tm.at i).den r).flo = x := den_flo (x := .at i) h
theorem at_bool {r : Rho U} {i : Nat} {x : Bool} (h : r[i]? = some ⟨.bool, x⟩) : ((Tm.at i).den r).bool = x := den_bool (x := .at i) h
variable {Sp : List (FSpec U)} {Post : List (Dyn U.B) → Prop} {Go : Nat → List (Dyn U.B) → Prop}
def Foll (Sp : List (FSpec U)) (Post : List (Dyn U.B) → Prop) (Go : Nat → List (Dyn U.B) → Prop) (c : Cx U) (k : SE → SV → Tr) (K : V → Prop) : Prop :=
  ∀ (c' : Cx U) e' sv v, Le c c' → c'.S = c.S → c'.σ = c.σ → Ok c' e' → c'.vr sv v → TDen Sp Post Go (k e' sv) c'.ρ → K v
theorem Foll.now {k : SE → SV → Tr} {K : V → Prop} (h : Foll Sp Post Go c k K) (ok : Ok c e) {sv : SV} {v : V} (hv : c.vr sv v) (hd : TDen Sp Post Go (k e sv) c.ρ) : K v :=
  h c e sv v (Le.refl c) rfl rfl ok hv hd
theorem Foll.new {k : SE → SV → Tr} {K : V → Prop} (h : Foll Sp Post Go c k K) (ok : Ok c e) (d : Dyn U.B) {sv : SV} {v : V} (hv : (c.push d).vr sv v) (hd : TDen Sp Post Go (k (e.push d.t) sv) (c.ρ ++ [d])) : K v :=
  h (c.push d) _ sv v (Le.push c d) rfl rfl (ok.push d) hv hd
theorem Foll.later {k : SE → SV → Tr} {K : V → Prop} (h : Foll Sp Post Go c k K) (hl : Le c c') (hS : c'.S = c.S) (hσ : c'.σ = c.σ) : Foll Sp Post Go c' k K :=
  fun c'' e' sv v h1 h2 h3 => h c'' e' sv v (hl.trans h1) (h2.trans hS) (h3.trans hσ)
theorem Foll.atom {k : SE → SV → Tr} {K : V → Prop} (h : Foll Sp Post Go c k K) (ok : Ok c e) (d : Dyn U.B) {f : F} (hf : FD U f d) (hd : TDen Sp Post Go (k (e.push d.t) (.c (.d d.t e.new))) (c.ρ ++ [d])) : K (.c (.f f)) :=
  h.new ok d (vd_of (ok.new d) rfl hf) hd
theorem bin_ok (ok : Ok c e) {d : TD} {op : BinOp} {x y : SV} {v w : V} (hx : c.vr x v) (hy : c.vr y w) {k : SE → SV → Tr} {K : V → Prop} (hk : Foll Sp Post Go c k K)
    (h : TDen Sp Post Go (binS e d op x y k) c.ρ) : wbin qprims d op v w K := by
  unfold binS at h
  split at h
  · rename_i j a j' b
    obtain ⟨m, rfl, ha⟩ := vr_int hx
    obtain ⟨n, rfl, hb⟩ := vr_int hy
    unfold wbin
    simp only
    split at h
    · rename_i hs
      simp only [hs]
      obtain ⟨h1, h2⟩ := h
      rw [den_int hb] at h1
      have h3 := h2 _ (by rw [den_int ha, den_int hb])
      exact ⟨.inr (.inr ⟨hs, h1⟩), hk.atom ok ⟨.int j, barith op j m n⟩ rfl h3⟩
    · rename_i hs
      simp only [hs]
      split at h
      · exact h.elim
      · rename_i hjj
        have := sameK_eq hjj
        subst this
        have self : ∀ {p : Prop}, p → same j j p := fun hp => by cases j <;> exact hp
        refine self ?_
        split at h
        · rename_i hc
          simp only [hc]
          refine ⟨hc, ?_⟩
          split at h
          · rename_i k1 m' k2 n'
            simp only [Tm.den?, Option.some.injEq, Dyn.mk.injEq] at ha hb
            obtain ⟨e1, e2⟩ := ha
            obtain ⟨e3, e4⟩ := hb
            cases e1; cases e3
            have e2 := eq_of_heq e2; have e4 := eq_of_heq e4
            subst e2 e4
            exact hk.now ok (vd_of (d := ⟨.bool, bcmp op m' n'⟩) rfl rfl rfl) h
          · have h3 := h _ rfl
            rw [den_int ha, den_int hb] at h3
            exact hk.atom ok ⟨.bool, bcmp op m n⟩ rfl h3
        · rename_i hc
          simp only [hc]
          split at h
          · rename_i hd
            obtain ⟨h1, h2⟩ := h
            rw [den_int hb] at h1
            have h3 := h2 _ (by rw [den_int ha, den_int hb])
            exact ⟨.inr (.inl ⟨hd, h1⟩), hk.atom ok ⟨.int j, barith op j m n⟩ rfl h3⟩
          · split at h
            · exact h.elim
            · rename_i hd ha'
              refine ⟨.inl ha', ?_⟩
              split at h
              · rename_i k1 m' k2 n'
                simp only [Tm.den?, Option.some.injEq, Dyn.mk.injEq] at ha hb
                obtain ⟨e1, e2⟩ := ha
                obtain ⟨e3, e4⟩ := hb
                cases e1; cases e3
                have e2 := eq_of_heq e2; have e4 := eq_of_heq e4
                subst e2 e4
                exact hk.now ok (vd_of (d := ⟨.int _, barith op _ m' n'⟩) rfl rfl rfl) h
              · split at h
                · rename_i h64
                  obtain ⟨⟨h1, h2⟩, h3⟩ := h _ rfl
                  rw [den_int ha, den_int hb] at h1 h2 h3
                  have he : barith op j m n = exI op m n := by
                    unfold isX64 at h64
                    have hw : ∀ z : Int, -9223372036854775808 ≤ z → z ≤ 9223372036854775807 → IntKind.wrap .i64 z = z := fun z q1 q2 => IntWalk.i64_in z ⟨q1, q2⟩
                    split at h64 <;> first
                      | (cases h64; done)
                      | exact hw _ h1 h2
                  rw [he]
                  exact hk.atom ok ⟨.int j, exI op m n⟩ rfl (by
                    have hj : j = .i64 := by unfold isX64 at h64; split at h64 <;> first | rfl | cases h64
                    subst hj; exact h3)
                · have h3 := h _ rfl
                  rw [den_int ha, den_int hb] at h3
                  exact hk.atom ok ⟨.int j, barith op j m n⟩ rfl h3
  · rename_i a b
    obtain ⟨m, rfl, ha⟩ := vr_bool hx
    obtain ⟨n, rfl, hb⟩ := vr_bool hy
    unfold wbin vbin
    simp only
    split at h
    · have h3 := h _ rfl
      rw [den_bool ha, den_bool hb] at h3
      exact hk.atom ok ⟨.bool, m == n⟩ rfl h3
    · have h3 := h _ rfl
      rw [den_bool ha, den_bool hb] at h3
      exact hk.atom ok ⟨.bool, !(m == n)⟩ rfl h3
    · exact h.elim
  · rename_i a b
    obtain ⟨m, rfl, ha⟩ := vr_str hx
    obtain ⟨n, rfl, hb⟩ := vr_str hy
    unfold wbin
    simp only
    split at h
    · rename_i hc
      simp only [hc]
      refine ⟨hc, ?_⟩
      split at h
      · rename_i m' n'
        simp only [Tm.den?, Option.some.injEq, Dyn.mk.injEq] at ha hb
        have e2 := eq_of_heq ha.2; have e4 := eq_of_heq hb.2
        subst e2 e4
        exact hk.now ok (vd_of (d := ⟨.bool, bscmp op m' n'⟩) rfl rfl rfl) h
      · have h3 := h _ rfl
        rw [den_str ha, den_str hb] at h3
        exact hk.atom ok ⟨.bool, bscmp op m n⟩ rfl h3
    · rename_i hc
      simp only [hc]
      split at h
      · obtain ⟨h1, h3⟩ := h _ rfl
        rw [den_str ha, den_str hb] at h1 h3
        exact ⟨by simpa using h1, hk.atom ok ⟨.str, m ++ n⟩ rfl h3⟩
      · exact h.elim
  · rename_i a b
    obtain ⟨m, rfl, ha⟩ := vr_flo hx
    obtain ⟨n, rfl, hb⟩ := vr_flo hy
    unfold wbin
    simp only
    split at h
    · rename_i hc
      simp only [hc]
      have h3 := h _ rfl
      rw [den_flo ha, den_flo hb] at h3
      exact ⟨hc, hk.atom ok ⟨.bool, bfcmp op m n⟩ rfl h3⟩
    · rename_i hc
      simp only [hc]
      split at h
      · obtain ⟨r, h1, h3⟩ := h
        rw [den_flo ha, den_flo hb] at h1
        show match floatBits .add .f64 m n with | some r => K (.c (.f (.flo r))) | none => False
        rw [h1]
        exact hk.atom ok ⟨.flo, r⟩ rfl h3
      · obtain ⟨r, h1, h3⟩ := h
        rw [den_flo ha, den_flo hb] at h1
        show match floatBits .sub .f64 m n with | some r => K (.c (.f (.flo r))) | none => False
        rw [h1]
        exact hk.atom ok ⟨.flo, r⟩ rfl h3
      · exact h.elim
  · rename_i a b
    obtain ⟨m, rfl, ha⟩ := vr_cpl hx
    obtain ⟨n, rfl, hb⟩ := vr_cpl hy
    unfold wbin
    simp only
    split at h
    · have h1 := h _ rfl
      have h2 := h1 _ rfl
      obtain ⟨r, e1, h3⟩ := h2
      have h4 := h3 _ rfl
      have h5 := h4 _ rfl
      obtain ⟨i, e2, h6⟩ := h5
      have h7 := h6 _ rfl
      have a1 := den_cpl ha
      have b1 := fun r => den_cpl (Tm.den_app hb r)
      have a2 := fun r => den_cpl (Tm.den_app ha r)
      simp only [List.append_assoc, List.cons_append, List.nil_append, a1, b1, a2] at e1 e2 h7
      rw [at_flo (x := m.1) (by simp [ok.n]), at_flo (x := n.1) (by simp [ok.n])] at e1
      rw [at_flo (x := m.2) (by simp [ok.n]), at_flo (x := n.2) (by simp [ok.n])] at e2
      rw [at_flo (x := r) (by simp [ok.n]), at_flo (x := i) (by simp [ok.n])] at h7
      show match floatBits .add .f64 m.1 n.1 with | some r => (match floatBits .add .f64 m.2 n.2 with | some i => K (.c (.f (.cpl r i))) | none => False) | none => False
      rw [e1]
      simp only
      rw [e2]
      let c6 := (((((c.push ⟨.flo, m.1⟩).push ⟨.flo, n.1⟩).push ⟨.flo, r⟩).push ⟨.flo, m.2⟩).push ⟨.flo, n.2⟩).push ⟨.flo, i⟩
      have ok6 : Ok c6 _ := (((((ok.push ⟨.flo, m.1⟩).push ⟨.flo, n.1⟩).push ⟨.flo, r⟩).push ⟨.flo, m.2⟩).push ⟨.flo, n.2⟩).push ⟨.flo, i⟩
      have le6 : Le c c6 := later_push c.ρ c.β c.S [⟨.flo, m.1⟩] |>.trans (later_push _ c.β c.S [⟨.flo, n.1⟩]) |>.trans (later_push _ c.β c.S [⟨.flo, r⟩]) |>.trans (later_push _ c.β c.S [⟨.flo, m.2⟩]) |>.trans (later_push _ c.β c.S [⟨.flo, n.2⟩]) |>.trans (later_push _ c.β c.S [⟨.flo, i⟩])
      exact (hk.later le6 rfl rfl).new ok6 ⟨.cpl, (r, i)⟩ (sv := .c (.d .cpl (.at (e.n + 6)))) (vd_of (by simp [Tm.den?, Cx.push, c6, ok.n]) rfl rfl) (by simpa [c6, Cx.push] using h7)
    · have h1 := h _ rfl
      have h2 := h1 _ rfl
      obtain ⟨r, e1, h3⟩ := h2
      have h4 := h3 _ rfl
      have h5 := h4 _ rfl
      obtain ⟨i, e2, h6⟩ := h5
      have h7 := h6 _ rfl
      have a1 := den_cpl ha
      have b1 := fun r => den_cpl (Tm.den_app hb r)
      have a2 := fun r => den_cpl (Tm.den_app ha r)
      simp only [List.append_assoc, List.cons_append, List.nil_append, a1, b1, a2] at e1 e2 h7
      rw [at_flo (x := m.1) (by simp [ok.n]), at_flo (x := n.1) (by simp [ok.n])] at e1
      rw [at_flo (x := m.2) (by simp [ok.n]), at_flo (x := n.2) (by simp [ok.n])] at e2
      rw [at_flo (x := r) (by simp [ok.n]), at_flo (x := i) (by simp [ok.n])] at h7
      show match floatBits .sub .f64 m.1 n.1 with | some r => (match floatBits .sub .f64 m.2 n.2 with | some i => K (.c (.f (.cpl r i))) | none => False) | none => False
      rw [e1]
      simp only
      rw [e2]
      let c6 := (((((c.push ⟨.flo, m.1⟩).push ⟨.flo, n.1⟩).push ⟨.flo, r⟩).push ⟨.flo, m.2⟩).push ⟨.flo, n.2⟩).push ⟨.flo, i⟩
      have ok6 : Ok c6 _ := (((((ok.push ⟨.flo, m.1⟩).push ⟨.flo, n.1⟩).push ⟨.flo, r⟩).push ⟨.flo, m.2⟩).push ⟨.flo, n.2⟩).push ⟨.flo, i⟩
      have le6 : Le c c6 := later_push c.ρ c.β c.S [⟨.flo, m.1⟩] |>.trans (later_push _ c.β c.S [⟨.flo, n.1⟩]) |>.trans (later_push _ c.β c.S [⟨.flo, r⟩]) |>.trans (later_push _ c.β c.S [⟨.flo, m.2⟩]) |>.trans (later_push _ c.β c.S [⟨.flo, n.2⟩]) |>.trans (later_push _ c.β c.S [⟨.flo, i⟩])
      exact (hk.later le6 rfl rfl).new ok6 ⟨.cpl, (r, i)⟩ (sv := .c (.d .cpl (.at (e.n + 6)))) (vd_of (by simp [Tm.den?, Cx.push, c6, ok.n]) rfl rfl) (by simpa [c6, Cx.push] using h7)
    · have h1 := h _ rfl
      have h2 := h1 _ rfl
      have h3 := h2 _ rfl
      have h4 := h3 _ rfl
      have h5 := h4 _ rfl
      have h6 := h5 _ rfl
      have h7 := h6 _ rfl
      have a1 := den_cpl ha
      have b1 := fun r => den_cpl (Tm.den_app hb r)
      have a2 := fun r => den_cpl (Tm.den_app ha r)
      simp only [List.append_assoc, List.cons_append, List.nil_append, a1, b1, a2] at h7
      rw [at_flo (i := e.n) (x := m.1) (by simp [ok.n]), at_flo (i := e.n + 1) (x := n.1) (by simp [ok.n])] at h7
      rw [at_flo (i := e.n + 3) (x := m.2) (by simp [ok.n]), at_flo (i := e.n + 4) (x := n.2) (by simp [ok.n])] at h7
      generalize hx' : bfcmp .eql m.1 n.1 = x at h7
      generalize hy' : bfcmp .eql m.2 n.2 = y at h7
      rw [at_bool (i := e.n + 2) (x := x) (by simp [ok.n]), at_bool (i := e.n + 5) (x := y) (by simp [ok.n])] at h7
      refine ⟨rfl, rfl, ?_⟩
      rw [hx', hy']
      let c6 := (((((c.push ⟨.flo, m.1⟩).push ⟨.flo, n.1⟩).push ⟨.bool, x⟩).push ⟨.flo, m.2⟩).push ⟨.flo, n.2⟩).push ⟨.bool, y⟩
      have ok6 : Ok c6 _ := (((((ok.push ⟨.flo, m.1⟩).push ⟨.flo, n.1⟩).push ⟨.bool, x⟩).push ⟨.flo, m.2⟩).push ⟨.flo, n.2⟩).push ⟨.bool, y⟩
      have le6 : Le c c6 := later_push c.ρ c.β c.S [⟨.flo, m.1⟩] |>.trans (later_push _ c.β c.S [⟨.flo, n.1⟩]) |>.trans (later_push _ c.β c.S [⟨.bool, x⟩]) |>.trans (later_push _ c.β c.S [⟨.flo, m.2⟩]) |>.trans (later_push _ c.β c.S [⟨.flo, n.2⟩]) |>.trans (later_push _ c.β c.S [⟨.bool, y⟩])
      exact (hk.later le6 rfl rfl).new ok6 ⟨.bool, x && y⟩ (sv := vb (.at (e.n + 6))) (vd_of (by simp [Tm.den?, Cx.push, c6, ok.n]) rfl rfl) (by simpa [c6, Cx.push] using h7)
    · have h1 := h _ rfl
      have h2 := h1 _ rfl
      have h3 := h2 _ rfl
      have h4 := h3 _ rfl
      have h5 := h4 _ rfl
      have h6 := h5 _ rfl
      have h7 := h6 _ rfl
      have a1 := den_cpl ha
      have b1 := fun r => den_cpl (Tm.den_app hb r)
      have a2 := fun r => den_cpl (Tm.den_app ha r)
      simp only [List.append_assoc, List.cons_append, List.nil_append, a1, b1, a2] at h7
      rw [at_flo (i := e.n) (x := m.1) (by simp [ok.n]), at_flo (i := e.n + 1) (x := n.1) (by simp [ok.n])] at h7
      rw [at_flo (i := e.n + 3) (x := m.2) (by simp [ok.n]), at_flo (i := e.n + 4) (x := n.2) (by simp [ok.n])] at h7
      generalize hx' : bfcmp .eql m.1 n.1 = x at h7
      generalize hy' : bfcmp .eql m.2 n.2 = y at h7
      rw [at_bool (i := e.n + 2) (x := x) (by simp [ok.n]), at_bool (i := e.n + 5) (x := y) (by simp [ok.n])] at h7
      refine ⟨rfl, rfl, ?_⟩
      rw [hx', hy']
      let c6 := (((((c.push ⟨.flo, m.1⟩).push ⟨.flo, n.1⟩).push ⟨.bool, x⟩).push ⟨.flo, m.2⟩).push ⟨.flo, n.2⟩).push ⟨.bool, y⟩
      have ok6 : Ok c6 _ := (((((ok.push ⟨.flo, m.1⟩).push ⟨.flo, n.1⟩).push ⟨.bool, x⟩).push ⟨.flo, m.2⟩).push ⟨.flo, n.2⟩).push ⟨.bool, y⟩
      have le6 : Le c c6 := later_push c.ρ c.β c.S [⟨.flo, m.1⟩] |>.trans (later_push _ c.β c.S [⟨.flo, n.1⟩]) |>.trans (later_push _ c.β c.S [⟨.bool, x⟩]) |>.trans (later_push _ c.β c.S [⟨.flo, m.2⟩]) |>.trans (later_push _ c.β c.S [⟨.flo, n.2⟩]) |>.trans (later_push _ c.β c.S [⟨.bool, y⟩])
      have h8 := h7 _ rfl
      rw [at_bool (x := x && y) (by simp [ok.n])] at h8
      have ok7 := ok6.push ⟨.bool, x && y⟩
      exact ((hk.later le6 rfl rfl).later (Le.push c6 ⟨.bool, x && y⟩) rfl rfl).new ok7 ⟨.bool, !(x && y)⟩ (sv := vb (SE.new _)) (vd_of (ok7.new _) rfl rfl) (by simpa [c6, Cx.push] using h8)
    · exact h.elim
  · exact h.elim
theorem fact_ok (ok : Ok c e) {x : Tm} {t b : Bool} (hx : x.den? c.ρ = some ⟨.bool, t⟩) (h : e.fact x = some b) : t = b := by
  have key : ∀ l : List (Tm × Bool), (∀ p ∈ l, p.1.den? c.ρ = some ⟨.bool, p.2⟩) → factL x l = some b → t = b := by
    intro l
    induction l with
    | nil => intro _ h; simp [factL] at h
    | cons p r ih =>
      obtain ⟨y, b'⟩ := p
      intro hl h
      simp only [factL] at h
      split at h
      · rename_i he
        cases h
        have := hl (y, b) (List.mem_cons_self ..)
        rw [← Tm.eqb_ok he, hx] at this
        simpa using this
      · exact ih (fun p hp => hl p (List.mem_cons_of_mem _ hp)) h
  unfold SE.fact at h
  split at h
  · simp only [Tm.den?, Option.some.injEq] at hx
    cases h
    simpa using hx.symm
  · exact key _ ok.kn h
theorem br_ok (ok : Ok c e) {x : Tm} {t : Bool} (hx : x.den? c.ρ = some ⟨.bool, t⟩) {a b : SE → Tr} (h : TDen Sp Post Go (brK e x a b) c.ρ) :
    ∃ e', Ok c e' ∧ TDen Sp Post Go (bif t then a e' else b e') c.ρ := by
  unfold brK at h
  split at h
  · rename_i hf
    have := fact_ok ok hx hf
    subst this
    exact ⟨e, ok, h⟩
  · rename_i hf
    have := fact_ok ok hx hf
    subst this
    exact ⟨e, ok, h⟩
  · obtain ⟨h1, h2⟩ := h
    rw [den_bool hx] at h1 h2
    cases t with
    | true => exact ⟨_, ok.kn' hx, h1 rfl⟩
    | false => exact ⟨_, ok.kn' hx, h2 rfl⟩
theorem atom_ok (ok : Ok c e) {x : Tm} {t : Ty} {d : Dyn U.B} (hx : x.den? c.ρ = some d) (ht : d.t = t) {k : SE → Nat → Tr} (h : TDen Sp Post Go (atomK e t x k) c.ρ) :
    ∃ c' e' i, Le c c' ∧ c'.S = c.S ∧ c'.σ = c.σ ∧ Ok c' e' ∧ c'.ρ[i]? = some d ∧ TDen Sp Post Go (k e' i) c'.ρ := by
  unfold atomK at h
  split at h
  · exact ⟨c, e, _, Le.refl c, rfl, rfl, ok, hx, h⟩
  · subst ht
    have h1 := h _ rfl
    rw [den_as (n := d.v) hx] at h1
    exact ⟨c.push d, _, e.n, Le.push c d, rfl, rfl, ok.push d, by simp [Cx.push, ok.n], h1⟩
theorem un_ok (ok : Ok c e) {op : UnOp} {x : SV} {v : V} (hx : c.vr x v) {k : SE → SV → Tr} {K : V → Prop} (hk : Foll Sp Post Go c k K)
    (h : TDen Sp Post Go (unS e op x k) c.ρ) : vun prims op v K := by
  unfold unS at h
  split at h
  · rename_i a
    obtain ⟨m, rfl, ha⟩ := vr_bool hx
    show K (.c (.f (.bool (!m))))
    split at h
    · rename_i b hf
      rw [fact_ok ok ha hf]
      exact hk.now ok (vd_of (d := ⟨.bool, !b⟩) rfl rfl rfl) h
    · have h1 := h _ rfl
      rw [den_bool ha] at h1
      exact hk.atom ok ⟨.bool, !m⟩ rfl h1
  · rename_i j a
    obtain ⟨m, rfl, ha⟩ := vr_int hx
    show K (.c (.f (.int j (barith .sub j 0 m))))
    split at h
    · rename_i k0 n
      simp only [Tm.den?, Option.some.injEq, Dyn.mk.injEq] at ha
      obtain ⟨e1, e2⟩ := ha
      cases e1
      have e2 := eq_of_heq e2
      subst e2
      exact hk.now ok (vd_of (d := ⟨.int _, barith .sub _ 0 n⟩) rfl rfl rfl) h
    · have h1 := h _ rfl
      rw [den_int ha] at h1
      exact hk.atom ok ⟨.int j, barith .sub j 0 m⟩ rfl h1
  · exact h.elim
theorem pick_ok (ok : Ok c e) {x a b : SV} {v va vb : V} (hx : c.vr x v) (ha : c.vr a va) (hb : c.vr b vb) {k : SE → SV → Tr} {K : V → Prop} (hk : Foll Sp Post Go c k K)
    (h : TDen Sp Post Go (pickS e x a b k) c.ρ) : vpick v va vb K := by
  unfold pickS at h
  split at h
  · obtain ⟨m, rfl, hm⟩ := vr_bool hx
    obtain ⟨e', ok', h'⟩ := br_ok ok hm h
    cases m with
    | true => exact hk.now ok' ha h'
    | false => exact hk.now ok' hb h'
  · exact h.elim
theorem cut_ok {l r : List SC} {l' : List Dm.C} (hl : c.crs l l') {off n : Nat} (h : cutS l off n = some r) : ∃ r', cut l' off n = some r' ∧ c.crs r r' := by
  unfold cutS at h
  split at h
  · rename_i hb
    cases h
    have := CRs.len hl
    refine ⟨_, by unfold cut; rw [if_pos (by rw [this]; exact ble_nat hb)], (hl.drop off).take n⟩
  · cases h
theorem part_ok (ok : Ok c e) {agg : Bool} {l : List SC} {l' : List Dm.C} (hl : c.crs l l') {off n : Nat} {k : SE → SV → Tr} {K : V → Prop} (hk : Foll Sp Post Go c k K)
    (h : TDen Sp Post Go (partS agg l off n (k e)) c.ρ) : vpart agg l' off n K := by
  unfold partS at h
  unfold vpart
  cases agg with
  | true =>
    simp only at h ⊢
    split at h
    · rename_i r hr
      obtain ⟨r', h1, h2⟩ := cut_ok hl hr
      rw [h1]
      exact hk.now ok (by simp only [Cx.vr, VR]; exact ⟨r', rfl, h2⟩) h
    · exact h.elim
  | false =>
    simp only at h ⊢
    split at h
    · rename_i x hx
      rw [nth_eq] at hx
      obtain ⟨y, h1, h2⟩ := CRs.get hl hx
      rw [h1]
      exact hk.now ok (VR.c h2) h
    · exact h.elim
theorem cellOf_ok (ok : Ok c e) {i j : Nat} {d d' : Dyn U.B} (hi : c.ρ[i]? = some d) (hj : (pcells U d)[j]? = some d') {f : F} (hf : FD U f d') : c.cr (cellOf U.lay e i j) (.f f) := by
  have ht : nth e.tys i = some d.t := by rw [nth_eq, ok.tys, List.getElem?_map, hi]; rfl
  have base : ∀ {n : Nat} {x : U.B n}, (cells U ⟨.base n, x⟩)[j]? = some d' → ∃ t, nth (U.lay n) j = some t ∧ d'.t = t := by
    intro n x h
    simp only [cells, List.getElem?_map] at h
    cases hr : (List.range (U.lay n).length)[j]? with
    | none => simp [hr] at h
    | some k =>
      obtain ⟨h1, h2⟩ := List.getElem?_eq_some_iff.1 hr
      simp at h1 h2
      subst h2
      simp only [hr, Option.map_some, Option.some.injEq] at h
      subst h
      have h3 : (U.lay n)[j]? = some (U.lay n)[j] := List.getElem?_eq_getElem h1
      exact ⟨_, by rw [nth_eq]; exact h3, U.acc_t n x j _ h3⟩
  have one : ∀ {d0 : Dyn U.B}, [d0][j]? = some d' → j = 0 ∧ d' = d0 := by
    intro d0 h
    cases j with
    | zero => simp at h; exact ⟨rfl, h.symm⟩
    | succ j => simp at h
  have fld : (Tm.fld i j).den? c.ρ = some d' := by simp only [Tm.den?, hi, hj]
  have at' : ∀ {t : Ty}, j = 0 → d' = d → d.t = t → CR c.ρ c.β c.ι (.d t (.at i)) (.f f) := fun _ h1 h2 => by
    simp only [CR]; exact ⟨f, d, rfl, hi, h2, by rw [← h1]; exact hf⟩
  have fl' : ∀ {t : Ty}, d'.t = t → CR c.ρ c.β c.ι (.d t (.fld i j)) (.f f) := fun h2 => by
    simp only [CR]; exact ⟨f, d', rfl, fld, h2, hf⟩
  obtain ⟨t, x⟩ := d
  unfold cellOf
  rw [ht]
  cases t with
  | base n =>
    obtain ⟨t, h1, h2⟩ := base hj
    simp only [h1]
    exact fl' h2
  | ptr t =>
    simp only
    cases t with
    | base n =>
      obtain ⟨t, h1, h2⟩ := base hj
      simp only [tyCell, h1]
      exact fl' h2
    | _ =>
      obtain ⟨rfl, rfl⟩ := one hj
      simp only [tyCell]
      exact fl' rfl
  | opt t => simp only [Cx.cr, CR]
  | _ =>
    obtain ⟨rfl, e'⟩ := one hj
    exact at' rfl e' rfl
theorem span_ok (ok : Ok c e) {i : Nat} {d : Dyn U.B} (hi : c.ρ[i]? = some d) {j : Nat} (hj : j < spanOf U.lay e i) : ∃ d', (pcells U d)[j]? = some d' := by
  have ht : nth e.tys i = some d.t := by rw [nth_eq, ok.tys, List.getElem?_map, hi]; rfl
  have key : spanOf U.lay e i ≤ (pcells U d).length := by
    unfold spanOf
    rw [ht]
    obtain ⟨t, x⟩ := d
    cases t <;> simp only [pcells, cells_len] <;> first
      | exact Nat.le_refl _
      | exact Nat.zero_le _
      | (rename_i t; cases t <;> exact Nat.le_refl _)
      | simp [cells]
  exact ⟨_, List.getElem?_eq_getElem (by omega)⟩
theorem cellsFrom_ok (ok : Ok c e) {i : Nat} {d : Dyn U.B} (hi : c.ρ[i]? = some d) : ∀ (n j : Nat) {r : List F}, r.length = n → (∀ m, m < n → ∃ d' f, (pcells U d)[j + m]? = some d' ∧ r[m]? = some f ∧ FD U f d') →
    c.crs (cellsFrom U.lay e i j n) (r.map .f)
  | 0, j, r, hr, h => by
    have : r = [] := List.eq_nil_of_length_eq_zero hr
    subst this
    simp only [cellsFrom, Cx.crs, CRs, List.map_nil]
  | n + 1, j, r, hr, h => by
    match r, hr, h with
    | f0 :: r, hr, h =>
      simp only [cellsFrom, Cx.crs, CRs, List.map_cons]
      obtain ⟨d', f, h1, h2, h3⟩ := h 0 (by omega)
      simp at h2
      subst h2
      refine ⟨_, _, rfl, cellOf_ok ok hi h1 h3, cellsFrom_ok ok hi n (j + 1) (by simpa using hr) fun m hm => ?_⟩
      obtain ⟨d', f, h1, h2, h3⟩ := h (m + 1) (by omega)
      exact ⟨d', f, by rw [show j + 1 + m = j + (m + 1) from by omega]; exact h1, by simpa using h2, h3⟩
theorem vr_el {x : Tm} {j : Nat} {v : V} (h : VR ρ β ι (.c (.el x j)) v) : ∃ cs off, ∃ d : Dyn U.B, v = .c (.ep cs off) ∧ x.den? ρ = some d ∧ j ≤ off ∧ ∀ m d', (pcells U d)[m]? = some d' → ∃ f, cs[off - j + m]? = some f ∧ FD U f d' := by
  obtain ⟨y, rfl, h0⟩ := V_c (by simp) h
  simp only [CR] at h0
  obtain ⟨cs, off, d, rfl, h1⟩ := h0
  exact ⟨cs, off, d, rfl, h1⟩
theorem vr_pa {o kk sz j : Nat} {i : Tm} {v : V} (h : VR ρ β ι (.c (.pa o kk sz i j)) v) : ∃ kd, ∃ n : Int, ∃ p, i.den? ρ = some ⟨.int kd, n⟩ ∧ 0 ≤ n ∧ ι o = some p ∧ v = .c (.pa o (β o + kk * 4294967296) (n.toNat * sz + j)) := by
  obtain ⟨y, rfl, h0⟩ := V_c (by simp) h
  simp only [CR] at h0
  obtain ⟨kd, n, p, h1, h2, h3, rfl⟩ := h0
  exact ⟨kd, n, p, h1, h2, h3, rfl⟩
theorem vr_ptr {o off : Nat} {v : V} (h : VR ρ β ι (.c (.ptr o off)) v) : v = .c (.ptr o off) := by
  obtain ⟨y, rfl, h0⟩ := V_c (by simp) h
  simp only [CR] at h0
  rw [h0]
theorem vr_rs {o kk : Nat} {v : V} (h : VR ρ β ι (.c (.rs o kk)) v) : ∃ n kc len, v = .c (.rs o (β o + kk * 4294967296) n) ∧ ι o = some (kc, len) ∧ kk ≤ kc ∧ (kk = kc → n = len) := by
  obtain ⟨y, rfl, h0⟩ := V_c (by simp) h
  simp only [CR] at h0
  obtain ⟨n, kc, len, rfl, h1⟩ := h0
  exact ⟨n, kc, len, rfl, h1⟩
theorem arr_at (ok : Ok c e) {o : Nat} {w : Bool} {k' ty sz : Nat} {t : Ty} {x : Tm} (h : nth c.S o = some (.arr w k' ty sz t x)) :
    ∃ xs : List (T U.B t), ∃ fs, x.den? c.ρ = some ⟨.list t, xs⟩ ∧ c.σ[o]? = some (.arr w (c.β o + k' * 4294967296) sz fs) ∧ sz = width U t ∧ c.β o % 4294967296 = ty ∧ FDs U fs (flat U xs) ∧ c.ι o = some (k', xs.length) := by
  obtain ⟨ob, h1, d, fs, h2, h3, rfl, h4, h5, h6⟩ := ok.get h
  obtain ⟨t', xs⟩ := d
  simp only at h3
  subst h3
  refine ⟨xs, fs, h2, h1, h4, h5, h6, ?_⟩
  rw [nth_eq] at h
  simp only [Cx.ι, inf, h, h2, lenOf]
theorem addr_ok (ok : Ok c e) {x : SV} {v : V} (hx : c.vr x v) {k : SE → SV → Tr} {K : V → Prop} (hk : Foll Sp Post Go c k K) (h : TDen Sp Post Go (addrS e x k) c.ρ) : K (addr v) := by
  have el : ∀ {t : Ty} {y : T U.B t} {fs : List F}, FDs U fs (cells U ⟨t, y⟩) → ∀ m d', (pcells U ⟨.ptr t, y⟩)[m]? = some d' → ∃ f, fs[0 - 0 + m]? = some f ∧ FD U f d' := by
    intro t y fs hfs m d' hm
    rw [Nat.sub_self, Nat.zero_add]
    exact hfs.get hm
  unfold addrS at h
  split at h
  · rename_i t a
    obtain ⟨f, ⟨t', y⟩, rfl, h1, rfl, h3⟩ := vd hx
    obtain ⟨fs, rfl, h4⟩ := FD.ptr h3
    obtain ⟨c', e', i, q1, q2, q3, q4, q5, q6⟩ := atom_ok ok h1 rfl h
    refine hk c' e' _ _ q1 q2 q3 q4 ?_ q6
    refine VR.c ?_
    simp only [CR]
    exact ⟨fs, 0, _, rfl, q5, Nat.le_refl _, el h4⟩
  · rename_i t a
    obtain ⟨f, ⟨t', y⟩, rfl, h1, rfl, h3⟩ := vd hx
    obtain ⟨z, h4, h5⟩ := h
    rw [den_as h1] at h4
    rcases FD.opt h3 with ⟨rfl, rfl⟩ | ⟨z', fs, rfl, rfl, h6⟩
    · cases h4
    · cases h4
      refine hk.new ok ⟨.ptr t, z⟩ (VR.c ?_) h5
      simp only [CR]
      exact ⟨fs, 0, _, rfl, ok.new _, Nat.le_refl _, el h6⟩
  · rename_i hn1 hn2
    refine hk.now ok ?_ h
    have same : ∀ {y : V}, (∀ cs, y ≠ .c (.f (.obj cs))) → addr y = y := fun {y} hy => by
      unfold addr
      split
      · exact absurd rfl (hy _)
      · rfl
    cases x with
    | c x =>
      cases x with
      | un => exact VR.un
      | d t a =>
        have hx' := hx
        obtain ⟨f, ⟨t', y⟩, rfl, h1, rfl, h3⟩ := vd hx
        rw [same]
        · exact hx'
        · rintro cs e1
          cases e1
          simp only [FD] at h3
          rcases h3 with ⟨t, x, h3, _⟩ | ⟨t, x, h3, _⟩
          · cases h3; exact hn2 _ _ rfl
          · cases h3; exact hn1 _ _ rfl
      | _ =>
        have hx' := hx
        obtain ⟨y, rfl, h0⟩ := V_c (by simp) hx
        rw [same]
        · exact hx'
        · rintro cs e1
          cases e1
          simp only [CR] at h0
          first
            | (cases h0; done)
            | (obtain ⟨_, h0, _⟩ := h0; cases h0; done)
            | (obtain ⟨_, _, _, _, _, _, h0⟩ := h0; cases h0; done)
            | (obtain ⟨_, _, _, h0, _⟩ := h0; cases h0; done)
    | a l =>
      have hx' := hx
      simp only [Cx.vr, VR] at hx
      obtain ⟨l', rfl, _⟩ := hx
      exact hx'
    | t l =>
      have hx' := hx
      simp only [Cx.vr, VR] at hx
      obtain ⟨l', rfl, _⟩ := hx
      exact hx'
end
end Go.Dm.Sx
namespace Go.Dm.Sx
open Go.Dm
set_option linter.unusedVariables false
set_option linter.unusedSimpArgs false
variable {U : Uni} {c c' c'' : Cx U} {e : SE} {Sp : List (FSpec U)} {Post : List (Dyn U.B) → Prop} {Go : Nat → List (Dyn U.B) → Prop}
theorem fresh_ok (ok : Ok c e) {o kk : Nat} (h : freshS c.S o kk = true) : ∃ w ty sz t x, nth c.S o = some (.arr w kk ty sz t x) := by
  unfold freshS at h
  split at h
  · rename_i w k' ty sz t x ho
    rw [beq_nat h]
    exact ⟨w, ty, sz, t, x, ho⟩
  · cases h
theorem field_ok (ok : Ok c e) {x : SV} {v : V} (hx : c.vr x v) {fo : Nat} {k : SE → SV → Tr} {K : V → Prop} (hk : Foll Sp Post Go c k K)
    (h : TDen Sp Post Go (fieldS x fo c.S (k e)) c.ρ) : vfield prims v fo c.σ K := by
  have more : ∀ off, vmore prims off fo = off + fo := fun off => by cases fo <;> rfl
  unfold fieldS at h
  split at h
  · cases vr_ptr hx
    exact hk.now ok (VR.c (by simp only [CR])) h
  · obtain ⟨cs, off, d, rfl, h1, h2, h3⟩ := vr_el hx
    unfold vfield
    simp only
    rw [more]
    refine hk.now ok (VR.c ?_) h
    simp only [CR]
    exact ⟨cs, off + fo, d, rfl, h1, by omega, fun m d' hm => by rw [Nat.add_sub_add_right]; exact h3 m d' hm⟩
  · split at h
    · rename_i hf
      obtain ⟨kd, n, p, h1, h2, h3, rfl⟩ := vr_pa hx
      obtain ⟨w, ty, sz, t, x, ho⟩ := fresh_ok ok hf
      obtain ⟨xs, fs, q1, q2, q3, q4, q5, q6⟩ := arr_at ok ho
      unfold vfield
      simp only [q2, more]
      refine ⟨rfl, hk.now ok (VR.c ?_) h⟩
      simp only [CR]
      exact ⟨kd, n, p, h1, h2, h3, by rw [Nat.add_assoc]⟩
    · exact h.elim
  · exact h.elim
theorem load_ok (ok : Ok c e) {agg : Bool} {n : Nat} {x : SV} {v : V} (hx : c.vr x v) {k : SE → SV → Tr} {K : V → Prop} (hk : Foll Sp Post Go c k K)
    (h : TDen Sp Post Go (loadS U.lay e agg n x c.S k) c.ρ) : vload prims agg n v c.σ K := by
  unfold loadS at h
  split at h
  · rename_i o off
    cases vr_ptr hx
    split at h
    · rename_i l ho
      obtain ⟨ob, h1, l', rfl, h2⟩ := ok.get ho
      unfold vload
      simp only [h1]
      have := part_ok ok h2 hk h
      unfold vpart at this
      exact this
    · rename_i T u y ho
      obtain ⟨ob, h1, y', rfl, h2⟩ := ok.get ho
      unfold vload
      simp only [h1]
      split at h
      · cases u with
        | true => exact hk.now ok (VR.c (by simp only [CR])) h
        | false => exact hk.now ok (VR.c (by simp only [CR])) h
      · exact hk.now ok (VR.c h2) h
      · exact h.elim
    · exact h.elim
  · rename_i i j
    obtain ⟨cs, off, d, rfl, h1, h2, h3⟩ := vr_el hx
    have h1 : c.ρ[i]? = some d := h1
    unfold vload
    simp only
    cases agg with
    | true =>
      simp only at h ⊢
      split at h
      · rename_i hb hn
        have hb := ble_nat hb
        have hn := blt_nat hn
        have get : ∀ m, m < n → ∃ d' f, (pcells U d)[j + m]? = some d' ∧ cs[off + m]? = some f ∧ FD U f d' := fun m hm => by
          obtain ⟨d', h4⟩ := span_ok ok h1 (j := j + m) (by omega)
          obtain ⟨f, h5, h6⟩ := h3 _ _ h4
          exact ⟨d', f, h4, by rw [show off + m = off - j + (j + m) from by omega]; exact h5, h6⟩
        have hlen : off + n ≤ cs.length := by
          obtain ⟨d', f, _, h5, _⟩ := get (n - 1) (by omega)
          have := (List.getElem?_eq_some_iff.1 h5).1
          omega
        refine ⟨hlen, hk.now ok ?_ h⟩
        simp only [Cx.vr, VR]
        refine ⟨_, rfl, cellsFrom_ok ok h1 n j (by rw [List.length_take, List.length_drop]; omega) fun m hm => ?_⟩
        obtain ⟨d', f, h4, h5, h6⟩ := get m hm
        exact ⟨d', f, h4, by rw [List.getElem?_take, if_pos hm, List.getElem?_drop]; exact h5, h6⟩
      · exact h.elim
    | false =>
      simp only at h ⊢
      split at h
      · rename_i hb
        obtain ⟨d', h4⟩ := span_ok ok h1 (blt_nat hb)
        obtain ⟨f, h5, h6⟩ := h3 _ _ h4
        rw [show off - j + j = off from by omega] at h5
        show match cs[off]? with | some x => K (.c (.f x)) | none => False
        rw [h5]
        exact hk.now ok (VR.c (cellOf_ok ok h1 h4 h6)) h
      · exact h.elim
  · rename_i o kk sz i j
    obtain ⟨kd, n0, p, h1, h2, h3, rfl⟩ := vr_pa hx
    split at h
    · rename_i w k' ty sz' t x ho
      obtain ⟨xs, fs, q1, q2, q3, q4, q5, q6⟩ := arr_at ok ho
      split at h
      · rename_i hk' hsz
        have e1 := beq_nat hk'
        have e2 := beq_nat hsz
        subst e1 e2
        unfold vload
        simp only [q2]
        refine ⟨rfl, ?_⟩
        have den1 := den_as (t := .list t) q1
        have idx : ∀ {r : Tr}, TDen Sp Post Go (.lget t x i r) c.ρ → ∃ y, xs[n0.toNat]? = some y ∧ TDen Sp Post Go r (c.ρ ++ [⟨t, y⟩]) := by
          intro r hr
          obtain ⟨⟨_, hr1⟩, hr2⟩ := hr
          rw [den1, den_int h1] at hr1 hr2
          have : n0.toNat < xs.length := by omega
          exact ⟨_, List.getElem?_eq_getElem this, hr2 _ (List.getElem?_eq_getElem this)⟩
        split at h
        · rename_i b
          have wb : width U (.base b) = (U.lay b).length := rfl
          split at h
          · split at h
            · rename_i hb hn
              have hb := ble_nat hb
              have hn := blt_nat hn
              obtain ⟨y, h4, h5⟩ := idx h
              have hi : (c.push ⟨.base b, y⟩).ρ[e.n]? = some ⟨.base b, y⟩ := by simp [Cx.push, ok.n]
              have get : ∀ m, m < n → ∃ d' f, (cells U ⟨.base b, y⟩)[j + m]? = some d' ∧ fs[n0.toNat * sz + j + m]? = some f ∧ FD U f d' := fun m hm => by
                have h6 : (cells U ⟨.base b, y⟩)[j + m]? = some ((cells U ⟨.base b, y⟩)[j + m]'(by rw [cells_len, wb]; omega)) := List.getElem?_eq_getElem _
                have h7 := flat_get (U := U) h4 (j := j + m) (by rw [wb]; omega)
                rw [h6] at h7
                obtain ⟨f, h8, h9⟩ := q5.get h7
                exact ⟨_, f, h6, by rw [q3, Nat.add_assoc]; exact h8, h9⟩
              have hlen : n0.toNat * sz + j + n ≤ fs.length := by
                obtain ⟨d', f, _, h5, _⟩ := get (n - 1) (by omega)
                have := (List.getElem?_eq_some_iff.1 h5).1
                omega
              refine ⟨hlen, hk.new ok ⟨.base b, y⟩ ?_ h5⟩
              simp only [Cx.vr, VR]
              refine ⟨_, rfl, cellsFrom_ok (ok.push _) hi n j (by rw [List.length_take, List.length_drop]; omega) fun m hm => ?_⟩
              obtain ⟨d', f, h4, h5, h6⟩ := get m hm
              exact ⟨d', f, h4, by rw [List.getElem?_take, if_pos hm, List.getElem?_drop]; exact h5, h6⟩
            · exact h.elim
          · split at h
            · rename_i hb
              have hb := blt_nat hb
              obtain ⟨y, h4, h5⟩ := idx h
              have hi : (c.push ⟨.base b, y⟩).ρ[e.n]? = some ⟨.base b, y⟩ := by simp [Cx.push, ok.n]
              have h6 : (cells U ⟨.base b, y⟩)[j]? = some ((cells U ⟨.base b, y⟩)[j]'(by rw [cells_len, wb]; omega)) := List.getElem?_eq_getElem _
              have h7 := flat_get (U := U) h4 (j := j) (by rw [wb]; omega)
              rw [h6] at h7
              obtain ⟨f, h8, h9⟩ := q5.get h7
              show match fs[n0.toNat * sz + j]? with | some x => K (.c (.f x)) | none => False
              rw [q3, h8]
              exact hk.new ok ⟨.base b, y⟩ (VR.c (cellOf_ok (ok.push _) hi h6 h9)) h5
            · exact h.elim
        · rename_i hnb
          split at h
          · obtain ⟨y, h4, h5⟩ := idx h
            have wb : width U t = 1 := by cases t <;> first | rfl | exact (hnb _ rfl).elim
            have h6 : (cells U ⟨t, y⟩)[0]? = some ⟨t, y⟩ := by cases t <;> first | rfl | exact (hnb _ rfl).elim
            have h7 := flat_get (U := U) h4 (j := 0) (by rw [wb]; omega)
            rw [h6] at h7
            obtain ⟨f, h8, h9⟩ := q5.get h7
            show match fs[n0.toNat * sz + 0]? with | some x => K (.c (.f x)) | none => False
            rw [q3, h8]
            exact hk.atom ok ⟨t, y⟩ h9 h5
          · exact h.elim
      · exact h.elim
    · exact h.elim
  · exact h.elim
def NilV (v : V) (σ : St) (K : V → Prop) : Prop :=
  match v with
  | .c (.ptr o off) => K (.c (.ptr o off))
  | .c (.f (.obj cs)) => K (.c (.f (.obj cs)))
  | .c (.ep cs off) => K (.c (.ep cs off))
  | .c (.pa o e off) => (match σ[o]? with | some (.arr _ e0 _ _) => prims.eqN e e0 ∧ K (.c (.pa o e off)) | _ => False)
  | _ => False
theorem nilc_ok (ok : Ok c e) {x : SV} {v : V} (hx : c.vr x v) {k : SE → SV → Tr} {K : V → Prop} (hk : Foll Sp Post Go c k K)
    (h : TDen Sp Post Go (nilcS e x c.S k) c.ρ) :
    NilV v c.σ K := by
  unfold nilcS at h
  split at h
  · have hx' := hx
    cases vr_ptr hx
    exact hk.now ok hx' h
  · have hx' := hx
    obtain ⟨cs, off, d, rfl, h1, h2, h3⟩ := vr_el hx
    exact hk.now ok hx' h
  · have hx' := hx
    obtain ⟨f, ⟨t', y⟩, rfl, h1, rfl, h3⟩ := vd hx
    obtain ⟨fs, rfl, h4⟩ := FD.ptr h3
    exact hk.now ok hx' h
  · obtain ⟨f, ⟨t', y⟩, rfl, h1, rfl, h3⟩ := vd hx
    obtain ⟨z, h4, h5⟩ := h
    rw [den_as h1] at h4
    rcases FD.opt h3 with ⟨rfl, rfl⟩ | ⟨z', fs, rfl, rfl, h6⟩
    · cases h4
    · cases h4
      exact hk.atom ok ⟨.ptr _, z⟩ (f := .obj fs) (by simp only [FD]; exact .inr ⟨_, z, rfl, h6⟩) h5
  · split at h
    · rename_i hf
      have hx' := hx
      obtain ⟨kd, n, p, h1, h2, h3, rfl⟩ := vr_pa hx
      obtain ⟨w, ty, sz, t, x, ho⟩ := fresh_ok ok hf
      obtain ⟨xs, fs, q1, q2, q3, q4, q5, q6⟩ := arr_at ok ho
      simp only [NilV, q2]
      exact ⟨rfl, hk.now ok hx' h⟩
    · exact h.elim
  · exact h.elim
theorem wid_eq (t : Ty) : wid U.lay t = width U t := by cases t <;> rfl
theorem ixr_ok (ok : Ok c e) {sz : Nat} {x i : SV} {v vi : V} (hx : c.vr x v) (hi : c.vr i vi) {k : SE → SV → Tr} {K : V → Prop} (hk : Foll Sp Post Go c k K)
    (h : TDen Sp Post Go (ixrS U.lay e sz x i c.S k) c.ρ) : ixrow prims sz v vi c.σ K := by
  unfold ixrS at h
  split at h
  · rename_i t l kd a
    obtain ⟨n, rfl, hn⟩ := vr_int hi
    obtain ⟨xs, h1, h2⟩ := vr_list hx
    split at h
    · rename_i hsz hp
      have e1 := beq_nat hsz
      rw [wid_eq] at e1
      subst e1
      obtain ⟨⟨hr0, hr1⟩, hr2⟩ := h
      rw [den_as h1, den_int hn] at hr1 hr2
      rw [den_int hn] at hr0
      have hlt : n.toNat < xs.length := by omega
      have hy := List.getElem?_eq_getElem hlt
      have h5 := hr2 _ hy
      rcases h2 with ⟨rfl, rfl⟩ | ⟨fs, rfl, h2⟩
      · simp at hlt
      · unfold ixrow
        refine ⟨⟨hr0, hr1⟩, hk.new ok ⟨t, xs[n.toNat]⟩ (VR.c ?_) h5⟩
        simp only [CR]
        refine ⟨fs, n.toNat * width U t, _, rfl, ok.new _, Nat.zero_le _, fun m d' hm => ?_⟩
        have hpc : pcells U ⟨t, xs[n.toNat]⟩ = cells U ⟨t, xs[n.toNat]⟩ := by
          generalize xs[n.toNat] = y
          cases t <;> first | rfl | (simp [plainElem] at hp)
        rw [hpc] at hm
        have hml : m < width U t := by
          have := (List.getElem?_eq_some_iff.1 hm).1
          rwa [cells_len] at this
        rw [Nat.sub_zero]
        exact h2.get (by rw [flat_get hy hml]; exact hm)
    · exact h.elim
  · rename_i o kk kd a
    obtain ⟨n, rfl, hn⟩ := vr_int hi
    obtain ⟨n', kc, len, rfl, h1, h2, h3⟩ := vr_rs hx
    split at h
    · rename_i w k' ty sz' t l ho
      obtain ⟨xs, fs, q1, q2, q3, q4, q5, q6⟩ := arr_at ok ho
      split at h
      · rename_i hk' hsz
        have e1 := beq_nat hk'
        have e2 := beq_nat hsz
        subst e1 e2
        obtain ⟨⟨hr0, hr1⟩, hr2⟩ := h
        rw [den_as q1, den_int hn] at hr1
        rw [den_int hn] at hr0
        have h1' : c.ι o = some (kc, len) := h1
        rw [q6] at h1'
        cases h1'
        have := h3 rfl
        subst this
        unfold ixrow
        simp only [q2]
        refine ⟨rfl, ⟨hr0, hr1⟩, hk.now ok (VR.c ?_) hr2⟩
        simp only [CR]
        exact ⟨kd, n, _, hn, hr0, q6, rfl⟩
      · exact h.elim
    · exact h.elim
  · exact h.elim
theorem cases_ok {a : Tm} {k0 : IntKind} {n : Int} (ha : a.den? c.ρ = some ⟨.int k0, n⟩) {k : Nat → Tr} : ∀ (m s : Nat), TDen Sp Post Go (casesS a k s m) c.ρ → ∀ j : Nat, n = j → s ≤ j → j < s + m → TDen Sp Post Go (k j) c.ρ
  | 0, s, _, j, _, h1, h2 => by omega
  | m + 1, s, h, j, hj, h1, h2 => by
    obtain ⟨h3, h4⟩ := h
    by_cases hs : s = j
    · subst hs
      exact h3 (by rw [den_int ha]; exact hj)
    · exact cases_ok ha m (s + 1) h4 j hj (by omega) (by omega)
theorem case_ok {a : Tm} {k0 : IntKind} {n : Int} (ha : a.den? c.ρ = some ⟨.int k0, n⟩) {m : Nat} {k : Nat → Tr} (h : TDen Sp Post Go (caseS a m k) c.ρ) : (0 ≤ n ∧ n < m) ∧ TDen Sp Post Go (k n.toNat) c.ρ := by
  unfold caseS at h
  split at h
  · rename_i k1 j
    simp only [Tm.den?, Option.some.injEq, Dyn.mk.injEq] at ha
    obtain ⟨e1, e2⟩ := ha
    cases e1
    have e2 := eq_of_heq e2
    subst e2
    split at h
    · rename_i hb
      have := blt_nat hb
      exact ⟨⟨Int.natCast_nonneg j, Int.ofNat_lt.2 this⟩, h⟩
    · exact h.elim
  · obtain ⟨⟨h1, h2⟩, h3⟩ := h
    rw [den_int ha] at h1 h2
    exact ⟨⟨h1, h2⟩, cases_ok ha m 0 h3 n.toNat (by omega) (by omega) (by omega)⟩
theorem ixa_ok (ok : Ok c e) {n sz : Nat} {x i : SV} {v vi : V} (hx : c.vr x v) (hi : c.vr i vi) {k : SE → SV → Tr} {K : V → Prop} (hk : Foll Sp Post Go c k K)
    (h : TDen Sp Post Go (ixaS n sz x i c.S (k e)) c.ρ) : ixarr prims n sz v vi c.σ K := by
  unfold ixaS at h
  split at h
  · rename_i kd a
    obtain ⟨m, rfl, hm⟩ := vr_int hi
    obtain ⟨⟨h1, h2⟩, h3⟩ := case_ok hm h
    have h4 := field_ok ok hx hk h3
    unfold vfield at h4
    unfold ixarr
    split at h4
    · exact ⟨h1, h2, h4⟩
    · exact ⟨h1, h2, h4⟩
    · split at h4
      · rename_i ho
        simp only [ho]
        exact ⟨h4.1, h1, h2, h4.2⟩
      · exact h4.elim
    · exact h4.elim
  · exact h.elim
theorem chr_ok (ok : Ok c e) {x i : SV} {v vi : V} (hx : c.vr x v) (hi : c.vr i vi) {k : SE → SV → Tr} {K : V → Prop} (hk : Foll Sp Post Go c k K)
    (h : TDen Sp Post Go (chrS e x i k) c.ρ) : ixchr prims v vi K := by
  unfold chrS at h
  split at h
  · rename_i s kd a
    obtain ⟨l, rfl, hl⟩ := vr_str hx
    obtain ⟨n, rfl, hn⟩ := vr_int hi
    unfold ixchr
    split at h
    · rename_i l' k1 j
      simp only [Tm.den?, Option.some.injEq, Dyn.mk.injEq] at hl hn
      obtain ⟨e1, e2⟩ := hn
      cases e1
      have e2 := eq_of_heq e2
      have e3 := eq_of_heq hl.2
      subst e2 e3
      split at h
      · rename_i b hb
        rw [nth_eq] at hb
        have hj := (List.getElem?_eq_some_iff.1 hb).1
        refine ⟨⟨Int.natCast_nonneg j, Int.ofNat_lt.2 hj⟩, ?_⟩
        refine hk.now ok (vd_of (d := ⟨.int .u8, Int.ofNat b.toNat⟩) rfl rfl ?_) h
        simp only [FD]
        congr 1
        show Int.ofNat b.toNat = (((l'.getD j 0).toNat : Nat) : Int)
        simp [List.getD_eq_getElem?_getD, hb]
      · exact h.elim
    · obtain ⟨⟨h1, h2⟩, h3⟩ := h
      rw [den_int hn, den_str hl] at h2 h3
      rw [den_int hn] at h1
      have h4 := h3 _ rfl
      exact ⟨⟨h1, h2⟩, hk.atom ok ⟨.int .u8, ((l.getD n.toNat 0).toNat : Int)⟩ (f := .int .u8 ((l.getD n.toNat 0).toNat : Int)) rfl h4⟩
  · exact h.elim
theorem len_ok (ok : Ok c e) {d : TD} {x : SV} {v : V} (hx : c.vr x v) {k : SE → SV → Tr} {K : V → Prop} (hk : Foll Sp Post Go c k K)
    (h : TDen Sp Post Go (lenS e d x c.S k) c.ρ) : vlen prims d v c.σ K := by
  unfold lenS at h
  split at h
  · rename_i s
    obtain ⟨l, rfl, hl⟩ := vr_str hx
    unfold vlen
    split at h
    · rename_i l'
      simp only [Tm.den?, Option.some.injEq, Dyn.mk.injEq] at hl
      have e3 := eq_of_heq hl.2
      subst e3
      exact hk.now ok (vd_of (d := ⟨.int .i64, Int.ofNat l'.length⟩) rfl rfl rfl) h
    · have h4 := h _ rfl
      rw [den_str hl] at h4
      exact hk.atom ok ⟨.int .i64, (l.length : Int)⟩ (f := .int .i64 (l.length : Int)) rfl h4
  · obtain ⟨y, rfl, h0⟩ := V_c (by simp) hx
    simp only [CR] at h0
    subst h0
    exact hk.now ok (vd_of (d := ⟨.int .i64, (0 : Int)⟩) (f := .int .i64 0) rfl rfl rfl) h
  · rename_i t l
    obtain ⟨xs, h1, h2⟩ := vr_list hx
    have h4 := h _ rfl
    rw [den_as h1] at h4
    rcases h2 with ⟨rfl, rfl⟩ | ⟨fs, rfl, h2⟩
    · exact hk.atom ok ⟨.int .i64, (0 : Int)⟩ (f := .int .i64 0) rfl h4
    · exact hk.atom ok ⟨.int .i64, (xs.length : Int)⟩ (f := .int .i64 (xs.length : Int)) rfl h4
  · rename_i o kk
    obtain ⟨n', kc, len, rfl, h1, h2, h3⟩ := vr_rs hx
    split at h
    · rename_i w k' ty sz' t l ho
      obtain ⟨xs, fs, q1, q2, q3, q4, q5, q6⟩ := arr_at ok ho
      split at h
      · rename_i hk'
        have e1 := beq_nat hk'
        subst e1
        have h1' : c.ι o = some (kc, len) := h1
        rw [q6] at h1'
        cases h1'
        have := h3 rfl
        subst this
        unfold vlen
        simp only [q2]
        have h4 := h _ rfl
        rw [den_as q1] at h4
        exact ⟨rfl, hk.atom ok ⟨.int .i64, (xs.length : Int)⟩ (f := .int .i64 (xs.length : Int)) rfl h4⟩
      · exact h.elim
    · exact h.elim
  · exact h.elim
end Go.Dm.Sx
namespace Go.Dm.Sx
open Go.Dm
set_option linter.unusedVariables false
set_option linter.unusedSimpArgs false
def tmK (e : SE) (t : Ty) (x : SC) (k : SE → Tm → Tr) : Tr :=
  match x with
  | .d t' a =>
    (match Ty.eqb t' t with
    | true => k e a
    | false =>
      (match t, t' with
      | .opt u, .ptr u' => (match Ty.eqb u u' with | true => .some u a (k (e.push (.opt u)) e.new) | false => .fail)
      | _, _ => .fail))
  | .nil => (match t with | .list u => k e (.nil u) | _ => .fail)
  | .nilp => (match t with | .opt u => k e (.none u) | _ => .fail)
  | _ => .fail
def tmsK (e : SE) (ts : List Ty) (xs : List SC) (k : SE → List Tm → Tr) : Tr :=
  match ts, xs with
  | [], [] => k e []
  | t :: ts, x :: xs => tmK e t x fun e a => tmsK e ts xs fun e l => k e (a :: l)
  | _, _ => .fail
def etaB (i : Nat) : Nat → List SC → Bool
  | _, [] => true
  | j, x :: r => (match x with
    | .d _ (.fld i' j') => (match Nat.beq i' i, Nat.beq j' j with | true, true => etaB i (j + 1) r | _, _ => false)
    | _ => false)
def eta? (e : SE) (b : Nat) (n : Nat) (xs : List SC) : Option Nat :=
  match xs with
  | .d _ (.fld i _) :: _ =>
    (match nth e.tys i with
    | .some (.base b') => (match Nat.beq b' b, Nat.beq xs.length n, etaB i 0 xs with | true, true, true => .some i | _, _, _ => .none)
    | _ => .none)
  | _ => .none
def dataK (lay : Nat → List Ty) (e : SE) (t : Ty) (xs : List SC) (k : SE → Tm → Tr) : Tr :=
  match t with
  | .base b =>
    (match eta? e b (lay b).length xs with
    | .some i => k e (.at i)
    | .none => tmsK e (lay b) xs fun e l => .mk b l (k (e.push (.base b)) e.new))
  | t => (match xs with | [x] => tmK e t x k | _ => .fail)
def keepC : SC → Bool
  | .d _ _ | .nil | .nilp | .nilm | .nilf | .fn _ => true
  | _ => false
def frzS : List SC → SSt → Option (List SC × SSt)
  | [], S => .some ([], S)
  | x :: r, S =>
    match x with
    | .rs o kk =>
      (match nth S o with
      | .some (.arr w k' ty sz t a) =>
        (match Nat.beq kk k' with
        | true => (match frzS r (S.set o (.arr false k' ty sz t a)) with | .some (l, S') => .some (.d (.list t) a :: l, S') | .none => .none)
        | false => .none)
      | _ => .none)
    | x => (match keepC x with | true => (match frzS r S with | .some (l, S') => .some (x :: l, S') | .none => .none) | false => .none)
def SV.cells : SV → Option (List SC)
  | .c .un => .none
  | .c x => .some [x]
  | .a l => .some l
  | .t _ => .none
def SC.solid : SC → Bool
  | .un => false
  | _ => true
def spliceS (l : List SC) (off : Nat) (r : List SC) : Option (List SC) :=
  match Nat.ble (off + r.length) l.length with | true => .some (l.take off ++ r ++ l.drop (off + r.length)) | false => .none
def boxS (e : SE) (x : SV) (S : SSt) (k : K1) : Tr :=
  match x.cells with
  | .some l => k e (.c (.ptr S.length 0)) (S ++ [.cells l])
  | .none => .fail
def storeS (lay : Nat → List Ty) (e : SE) (n : Nat) (a x : SV) (S : SSt) (k : K1) : Tr :=
  match x.cells with
  | .none => .fail
  | .some r =>
    match Nat.beq r.length n, r.all SC.solid with
    | true, true =>
      (match a with
      | .c (.ptr o off) =>
        (match nth S o with
        | .some (.cells l) => (match spliceS l off r with | .some l' => k e (.c .un) (S.set o (.cells l')) | .none => .fail)
        | .some (.bld T u y) =>
          (match off, r with
          | 0, [.ptr o' 0] => (match Nat.beq o' o with | true => k e (.c .un) (S.set o (.bld T true y)) | false => .fail)
          | 1, [z] => k e (.c .un) (S.set o (.bld T u z))
          | _, _ => .fail)
        | _ => .fail)
      | .c (.pa o kk sz i j) =>
        (match frzS r S with
        | .none => .fail
        | .some (r', S') =>
          match nth S' o with
          | .some (.arr true k' ty sz' t l) =>
            (match Nat.beq kk k', Nat.beq sz sz' with
            | true, true =>
              (match Nat.beq j 0, Nat.beq n sz with
              | true, true => dataK lay e t r' fun e y => .lset t l i y (k (e.push (.list t)) (.c .un) (S'.set o (.arr true k' ty sz t (.at e.n))))
              | _, _ =>
                (match t with
                | .base b =>
                  .lget t l i (match spliceS (cellsFrom lay (e.push t) e.n 0 (lay b).length) j r' with
                    | .some q => dataK lay (e.push t) t q fun e y => .lset t l i y (k (e.push (.list t)) (.c .un) (S'.set o (.arr true k' ty sz t (.at e.n))))
                    | .none => .fail)
                | _ => .fail))
            | _, _ => .fail)
          | _ => .fail)
      | _ => .fail)
    | _, _ => .fail
def appMain (lay : Nat → List Ty) (e : SE) (ty sz bytes : Nat) (x : SV) (t : Ty) (l : Tm) (S : SSt) (k : K1) : Tr :=
  match x with
  | .c .nil =>
    (match Nat.beq sz (wid lay t), Nat.ble ty 4294967295 with
    | true, true =>
      (match memT l e.ne with
      | true => .lnew t bytes l (k e (.c (.rs S.length 0)) (S ++ [.arr true 0 ty sz t l]))
      | false => .lnil t l (k e (.c .nil) S) (.lnew t bytes l (k { e with ne := l :: e.ne } (.c (.rs S.length 0)) (S ++ [.arr true 0 ty sz t l]))))
    | _, _ => .fail)
  | .c (.rs o kk) =>
    (match nth S o with
    | .some (.arr w k' ty' sz' t' l') =>
      (match Nat.beq kk k', Nat.beq ty' ty, Nat.beq sz' sz, Ty.eqb t' t with
      | true, true, true, true => .lapp t bytes l' l (k (e.push (.list t)) (.c (.rs o (k' + 1))) (S.set o (.arr w (k' + 1) ty sz t e.new)))
      | _, _, _, _ => .fail)
    | _ => .fail)
  | _ => .fail
def appS (lay : Nat → List Ty) (e : SE) (d : TD) (ty sz bytes : Nat) (x y : SV) (S : SSt) (k : K1) : Tr :=
  match d, y with
  | .slice _, .c .nil => (match x with | .c .nil => k e (.c .nil) S | .c (.rs o kk) => (match nth S o with | .some (.arr _ _ _ _ t _) => appMain lay e ty sz bytes x t (.nil t) S k | _ => .fail) | _ => .fail)
  | .slice _, .c (.d (.list t) l) => (match Nat.beq sz (wid lay t) with | true => appMain lay e ty sz bytes x t l S k | false => .fail)
  | .slice _, .c (.rs o kk) =>
    (match nth S o with
    | .some (.arr w k' ty' sz' t l) => (match Nat.beq kk k', Nat.beq sz sz' with | true, true => appMain lay e ty sz bytes x t l S k | _, _ => .fail)
    | _ => .fail)
  | .str, .c (.d .str s) => (match Nat.beq sz 1 with | true => .sbytes s (appMain lay (e.push (.list (.int .u8))) ty sz bytes x (.int .u8) e.new S k) | false => .fail)
  | _, _ => .fail
def optS : Option SV → Option (Option Tm)
  | .none => .some .none
  | .some (.c (.d (.int _) a)) => .some (.some a)
  | _ => .none
def zeroT : Option Tm → Bool
  | .none => true
  | .some (.int _ n) => ieq0 n
  | _ => false
def slcS (lay : Nat → List Ty) (e : SE) (d : TD) (sz : Nat) (x : SV) (lo hi : Option SV) (S : SSt) (k : K1) : Tr :=
  match optS lo, optS hi with
  | .some a, .some b =>
    (match d, x with
    | .str, .c (.d .str s) => .ssub s a b (k (e.push .str) (.c (.d .str e.new)) S)
    | .slice _, .c (.d (.list t) l) => (match Nat.beq sz (wid lay t) with | true => .lsub t l a b (k (e.push (.list t)) (.c (.d (.list t) e.new)) S) | false => .fail)
    | .slice _, .c .nil => (match zeroT a, zeroT b with | true, true => k e (.c .nil) S | _, _ => .fail)
    | .slice _, .c (.rs o kk) =>
      (match nth S o, a, b with
      | .some (.arr true k' ty sz' t l), .none, .some b =>
        (match Nat.beq kk k' with
        | true => .lsub t l .none (.some b) (k (e.push (.list t)) (.c (.rs o (k' + 1))) (S.set o (.arr true (k' + 1) ty sz' t e.new)))
        | false => .fail)
      | _, _, _ => .fail)
    | _, _ => .fail)
  | _, _ => .fail
def fillS (ρ : Operand → SV) : List (Nat × Nat × Operand) → List SC → Option (List SC)
  | [], cs => .some cs
  | (off, n, x) :: r, cs =>
    match (ρ x).cells with
    | .some l => (match Nat.beq l.length n with | true => (match spliceS cs off l with | .some cs' => fillS ρ r cs' | .none => .none) | false => .none)
    | .none => .none
def fillRowS (sz : Nat) (ρ : Operand → SV) : List (Nat × Operand) → List SC → Option (List SC)
  | [], cs => .some cs
  | (i, x) :: r, cs =>
    match (ρ x).cells with
    | .some l => (match Nat.beq l.length sz with | true => (match spliceS cs (i * sz) l with | .some cs' => fillRowS sz ρ r cs' | .none => .none) | false => .none)
    | .none => .none
def repS (n : Nat) (l : List SC) : List SC :=
  match n with
  | 0 => []
  | n + 1 => l ++ repS n l
def elemsK (lay : Nat → List Ty) (t : Ty) (sz : Nat) (k : SE → List Tm → Tr) : Nat → SE → List SC → (List Tm → List Tm) → Tr
  | 0, e, _, acc => k e (acc [])
  | n + 1, e, xs, acc => dataK lay e t (xs.take sz) fun e y => elemsK lay t sz k n e (xs.drop sz) fun l => acc (y :: l)
def neIf (n : Nat) (e : SE) (x : Tm) : SE := match n with | 0 => e | _ => { e with ne := x :: e.ne }
def bslS (lay : Nat → List Ty) (tyO : Nat → Option Ty) (e : SE) (n ty sz : Nat) (z : List F) (ρ : Operand → SV) (parts : List (Nat × Operand)) (S : SSt) (k : K1) : Tr :=
  match fillRowS sz ρ parts (repS n (z.map ofF)) with
  | .none => .fail
  | .some l =>
    match frzS l S, tyO ty with
    | .some (l', S'), .some t =>
      (match Nat.beq sz (wid lay t), Nat.beq l'.length (n * sz), Nat.ble ty 4294967295 with
      | true, true, true =>
        elemsK lay t sz (fun e ys => .lmk t ys (k (neIf n (e.push (.list t)) e.new) (.c (.rs S'.length 0)) (S' ++ [.arr true 0 ty sz t e.new]))) n e l' id
      | _, _, _ => .fail)
    | _, _ => .fail
end Go.Dm.Sx
namespace Go.Dm.Sx
open Go.Dm
set_option linter.unusedVariables false
set_option linter.unusedSimpArgs false
variable {U : Uni} {c c' c'' : Cx U} {e : SE} {Sp : List (FSpec U)} {Post : List (Dyn U.B) → Prop} {Go : Nat → List (Dyn U.B) → Prop}
def FollS (Sp : List (FSpec U)) (Post : List (Dyn U.B) → Prop) (Go : Nat → List (Dyn U.B) → Prop) (c : Cx U) (k : K1) (K : V → St → Prop) : Prop :=
  ∀ (c' : Cx U) e' sv v, Le c c' → Ok c' e' → c'.vr sv v → TDen Sp Post Go (k e' sv c'.S) c'.ρ → K v c'.σ
theorem FollS.foll {k : K1} {K : V → St → Prop} (h : FollS Sp Post Go c k K) : Foll Sp Post Go c (fun e sv => k e sv c.S) fun v => K v c.σ := by
  intro c' e' sv v h1 h2 h3 h4 h5 h6
  simp only at h6
  rw [← h2] at h6
  rw [← h3]
  exact h c' e' sv v h1 h4 h5 h6
theorem FollS.later {k : K1} {K : V → St → Prop} (h : FollS Sp Post Go c k K) (hl : Le c c') : FollS Sp Post Go c' k K :=
  fun c'' e' sv v h1 => h c'' e' sv v (hl.trans h1)
def Cx.add (c : Cx U) (ty : Nat) (so : SOb) (ob : Ob) : Cx U := ⟨c.ρ, fun o => if o = c.S.length then ty else c.β o, c.S ++ [so], c.σ ++ [ob]⟩
def Cx.set (c : Cx U) (o : Nat) (so : SOb) (ob : Ob) : Cx U := ⟨c.ρ, c.β, c.S.set o so, c.σ.set o ob⟩
theorem inf_lt {ρ : Rho U} {S : SSt} {o : Nat} {p : Nat × Nat} (h : inf ρ S o = some p) : o < S.length := by
  unfold inf at h
  split at h
  · rename_i ho; exact (List.getElem?_eq_some_iff.1 ho).1
  · cases h
theorem Le.add (ty : Nat) (so : SOb) (ob : Ob) : Le c (c.add ty so ob) := by
  refine ⟨fun _ _ h => h, fun o kc len h => ?_⟩
  have hl := inf_lt h
  refine ⟨if_neg (Nat.ne_of_lt hl), kc, len, ?_, .inr ⟨rfl, rfl⟩⟩
  have h' : inf c.ρ c.S o = some (kc, len) := h
  show inf c.ρ (c.S ++ [so]) o = _
  unfold inf at h' ⊢
  rw [List.getElem?_append_left hl]
  exact h'
theorem Ok.add (ok : Ok c e) {ty : Nat} {so : SOb} {ob : Ob} (h : OR (c.add ty so ob).ρ (c.add ty so ob).β (c.add ty so ob).ι c.S.length so ob) : Ok (c.add ty so ob) e where
  tys := ok.tys
  kn := ok.kn
  ne := ok.ne
  len := by simp [Cx.add, ok.len]
  st o so' ho := by
    simp only [Cx.add] at ho ⊢
    by_cases hl : o < c.S.length
    · rw [List.getElem?_append_left hl] at ho
      obtain ⟨ob', h1, h2⟩ := ok.st o so' ho
      exact ⟨ob', by rw [List.getElem?_append_left (by rw [← ok.len]; exact hl)]; exact h1, h2.later (Le.add ty so ob) (if_neg (Nat.ne_of_lt hl))⟩
    · rw [List.getElem?_append_right (by omega)] at ho
      have : o = c.S.length := by
        rcases Nat.lt_or_ge (o - c.S.length) 1 with h | h
        · omega
        · rw [List.getElem?_eq_none (by simpa using h)] at ho; cases ho
      subst this
      rw [Nat.sub_self] at ho
      simp at ho
      subst ho
      exact ⟨ob, by rw [ok.len, List.getElem?_append_right (Nat.le_refl _), Nat.sub_self]; rfl, h⟩
theorem Le.set {o : Nat} {so : SOb} {ob : Ob} (h : ∀ kc len, c.ι o = some (kc, len) → ∃ kc' len', inf c.ρ (c.S.set o so) o = some (kc', len') ∧ (kc < kc' ∨ (kc' = kc ∧ len' = len))) : Le c (c.set o so ob) := by
  refine ⟨fun _ _ h => h, fun o' kc len h' => ⟨rfl, ?_⟩⟩
  by_cases ho : o = o'
  · subst ho
    exact h kc len h'
  · refine ⟨kc, len, ?_, .inr ⟨rfl, rfl⟩⟩
    have h2 : inf c.ρ c.S o' = some (kc, len) := h'
    show inf c.ρ (c.S.set o so) o' = _
    unfold inf at h2 ⊢
    rw [List.getElem?_set_ne ho]
    exact h2
theorem Ok.set (ok : Ok c e) {o : Nat} {so : SOb} {ob : Ob} (hl : Le c (c.set o so ob)) (h : OR (c.set o so ob).ρ (c.set o so ob).β (c.set o so ob).ι o so ob) : Ok (c.set o so ob) e where
  tys := ok.tys
  kn := ok.kn
  ne := ok.ne
  len := by simp [Cx.set, ok.len]
  st o' so' ho := by
    simp only [Cx.set] at ho ⊢
    by_cases hoo : o = o'
    · subst hoo
      have hlt : o < c.S.length := by
        have := (List.getElem?_eq_some_iff.1 ho).1
        simpa using this
      rw [List.getElem?_set_self hlt] at ho
      cases ho
      exact ⟨ob, by rw [List.getElem?_set_self (by rw [← ok.len]; exact hlt)], h⟩
    · rw [List.getElem?_set_ne hoo] at ho
      obtain ⟨ob', h1, h2⟩ := ok.st o' so' ho
      exact ⟨ob', by rw [List.getElem?_set_ne hoo]; exact h1, h2.later hl rfl⟩
theorem no_inf {o : Nat} {so : SOb} (h : nth c.S o = some so) (hs : ∀ w k ty sz t x, so ≠ .arr w k ty sz t x) : c.ι o = none := by
  rw [nth_eq] at h
  simp only [Cx.ι, inf, h]
  cases so <;> first | rfl | exact absurd rfl (hs _ _ _ _ _ _)
theorem tm_ok (ok : Ok c e) {t : Ty} {x : SC} {y : Dm.C} (hx : c.cr x y) {k : SE → Tm → Tr} (h : TDen Sp Post Go (tmK e t x k) c.ρ) :
    ∃ c' e' a d f, Le c c' ∧ c'.S = c.S ∧ c'.σ = c.σ ∧ Ok c' e' ∧ y = .f f ∧ a.den? c'.ρ = some d ∧ d.t = t ∧ FD U f d ∧ TDen Sp Post Go (k e' a) c'.ρ := by
  unfold tmK at h
  split at h
  · rename_i t' a
    simp only [Cx.cr, CR] at hx
    obtain ⟨f, d, rfl, h1, h2, h3⟩ := hx
    split at h
    · rename_i ht
      have := Ty.eqb_ok ht
      subst this
      exact ⟨c, e, a, d, f, Le.refl c, rfl, rfl, ok, rfl, h1, h2, h3, h⟩
    · split at h
      · rename_i u u'
        split at h
        · rename_i hu
          have := (Ty.eqb_ok hu).symm
          subst this
          obtain ⟨t0, v⟩ := d
          simp only at h2
          subst h2
          obtain ⟨fs, rfl, h4⟩ := FD.ptr h3
          have h5 := h _ rfl
          rw [den_as h1] at h5
          refine ⟨c.push ⟨.opt u, some v⟩, _, e.new, ⟨.opt u, some v⟩, _, Le.push c _, rfl, rfl, ok.push _, rfl, ok.new _, rfl, ?_, h5⟩
          simp only [FD]
          exact .inl ⟨u, v, rfl, h4⟩
        · exact h.elim
      · exact h.elim
  · simp only [Cx.cr, CR] at hx
    subst hx
    split at h
    · rename_i u
      exact ⟨c, e, .nil u, ⟨.list u, []⟩, .nils, Le.refl c, rfl, rfl, ok, rfl, rfl, rfl, by simp only [FD]; exact ⟨_, rfl⟩, h⟩
    · exact h.elim
  · simp only [Cx.cr, CR] at hx
    subst hx
    split at h
    · rename_i u
      exact ⟨c, e, .none u, ⟨.opt u, none⟩, .nilp, Le.refl c, rfl, rfl, ok, rfl, rfl, rfl, by simp only [FD]; exact ⟨_, rfl⟩, h⟩
    · exact h.elim
  · exact h.elim
theorem tms_ok : ∀ (ts : List Ty) {c : Cx U} {e : SE} (ok : Ok c e) {xs : List SC} {ys : List Dm.C} (hx : c.crs xs ys) {k : SE → List Tm → Tr} (h : TDen Sp Post Go (tmsK e ts xs k) c.ρ),
    ∃ c' e' l ds fs, Le c c' ∧ c'.S = c.S ∧ c'.σ = c.σ ∧ Ok c' e' ∧ ys = List.map C.f fs ∧ l.map (Tm.den? c'.ρ) = List.map Option.some ds ∧ ds.map Dyn.t = ts ∧ FDs U fs ds ∧ TDen Sp Post Go (k e' l) c'.ρ
  | [], c, e, ok, [], ys, hx, k, h => by
    simp only [Cx.crs, CRs] at hx
    subst hx
    exact ⟨c, e, [], [], [], Le.refl c, rfl, rfl, ok, rfl, rfl, rfl, rfl, h⟩
  | t :: ts, c, e, ok, x :: xs, ys, hx, k, h => by
    simp only [Cx.crs, CRs] at hx
    obtain ⟨y, ys', rfl, h1, h2⟩ := hx
    obtain ⟨c1, e1, a, d, f, q1, q2, q3, q4, rfl, q6, q7, q8, q9⟩ := tm_ok ok h1 h
    obtain ⟨c2, e2, l, ds, fs, p1, p2, p3, p4, rfl, p6, p7, p8, p9⟩ := tms_ok ts q4 (q1.crs h2) q9
    refine ⟨c2, e2, a :: l, d :: ds, f :: fs, q1.trans p1, p2.trans q2, p3.trans q3, p4, rfl, ?_, ?_, ⟨d, ds, rfl, q8, p8⟩, p9⟩
    · simp only [List.map_cons, p6, p1.den q6]
    · simp only [List.map_cons, p7, q7]
  | [], c, e, ok, x :: xs, ys, hx, k, h => h.elim
  | t :: ts, c, e, ok, [], ys, hx, k, h => h.elim
theorem eta_ok {i b : Nat} {y : U.B b} (hi : c.ρ[i]? = some ⟨.base b, y⟩) : ∀ (j : Nat) {xs : List SC} {ys : List Dm.C}, c.crs xs ys → etaB i j xs = true → ∃ fs, ys = List.map C.f fs ∧ fs.length = xs.length ∧ ∀ m, m < xs.length → ∃ f d, fs[m]? = some f ∧ (cells U ⟨.base b, y⟩)[j + m]? = some d ∧ FD U f d
  | j, [], ys, hx, h => by
    simp only [Cx.crs, CRs] at hx
    subst hx
    exact ⟨[], rfl, rfl, fun m hm => by simp at hm⟩
  | j, x :: r, ys, hx, h => by
    simp only [Cx.crs, CRs] at hx
    obtain ⟨y', ys', rfl, h1, h2⟩ := hx
    simp only [etaB] at h
    split at h
    · rename_i t i' j'
      split at h
      · rename_i hi' hj'
        have e1 := beq_nat hi'
        have e2 := beq_nat hj'
        subst e1 e2
        simp only [CR] at h1
        obtain ⟨f, d, rfl, q1, q2, q3⟩ := h1
        simp only [Tm.den?, hi] at q1
        obtain ⟨fs, rfl, h3, h4⟩ := eta_ok hi (j' + 1) h2 h
        refine ⟨f :: fs, rfl, by simp [h3], fun m hm => ?_⟩
        cases m with
        | zero => exact ⟨f, d, rfl, q1, q3⟩
        | succ m =>
          obtain ⟨f', d', p1, p2, p3⟩ := h4 m (by simpa using hm)
          exact ⟨f', d', by simpa using p1, by rw [show j' + (m + 1) = j' + 1 + m from by omega]; exact p2, p3⟩
      · cases h
    · cases h
theorem cells_bd {b : Nat} {ds : List (Dyn U.B)} (h : ds.map Dyn.t = U.lay b) : cells U ⟨.base b, U.bd b ds⟩ = ds := by
  apply List.ext_getElem?
  intro j
  have hl : ds.length = (U.lay b).length := by rw [← h]; simp
  by_cases hj : j < ds.length
  · have h1 : ds[j]? = some ds[j] := List.getElem?_eq_getElem hj
    have h2 := U.bd_acc b ds h j _ h1
    simp only [cells, List.getElem?_map]
    rw [List.getElem?_eq_getElem (by simp; omega), h1]
    simp [h2]
  · rw [List.getElem?_eq_none (by rw [cells_len]; show (U.lay b).length ≤ j; omega), List.getElem?_eq_none (by omega)]
theorem data_ok (ok : Ok c e) {t : Ty} {xs : List SC} {ys : List Dm.C} (hx : c.crs xs ys) {k : SE → Tm → Tr} (h : TDen Sp Post Go (dataK U.lay e t xs k) c.ρ) :
    ∃ c' e' a d fs, Le c c' ∧ c'.S = c.S ∧ c'.σ = c.σ ∧ Ok c' e' ∧ ys = List.map C.f fs ∧ a.den? c'.ρ = some d ∧ d.t = t ∧ FDs U fs (cells U d) ∧ TDen Sp Post Go (k e' a) c'.ρ := by
  unfold dataK at h
  split at h
  · rename_i b
    split at h
    · rename_i i hi
      unfold eta? at hi
      split at hi
      · rename_i t0 i0 j0 r
        split at hi
        · rename_i b' hb
          split at hi
          · rename_i e1 e2 e3
            cases hi
            have q1 := beq_nat e1
            have q2 := beq_nat e2
            subst q1
            obtain ⟨d, h1, h2⟩ := ok.ty hb
            obtain ⟨t, y⟩ := d
            simp only at h2
            subst h2
            obtain ⟨fs, rfl, h3, h4⟩ := eta_ok h1 0 hx e3
            refine ⟨c, e, .at i, ⟨.base b', y⟩, fs, Le.refl c, rfl, rfl, ok, rfl, h1, rfl, FDs.of_get ?_ fun j d hj => ?_, h⟩
            · rw [h3, cells_len, q2]; rfl
            · have hlt : j < (List.length (SC.d t0 (Tm.fld i j0) :: r)) := by
                have := (List.getElem?_eq_some_iff.1 hj).1
                rw [cells_len] at this
                rw [q2]
                exact this
              obtain ⟨f, d', p1, p2, p3⟩ := h4 j hlt
              rw [Nat.zero_add, hj] at p2
              cases p2
              exact ⟨f, p1, p3⟩
          · cases hi
        · cases hi
      · cases hi
    · obtain ⟨c1, e1, l, ds, fs, q1, q2, q3, q4, rfl, q6, q7, q8, q9⟩ := tms_ok _ ok hx h
      have h5 := q9 _ rfl
      have hl : (l.map fun y => y.den c1.ρ) = ds := by
        clear h5 q9 h q7 q8
        induction l generalizing ds with
        | nil => cases ds with | nil => rfl | cons d ds => simp at q6
        | cons a l ih =>
          cases ds with
          | nil => simp at q6
          | cons d ds =>
            simp only [List.map_cons, List.cons.injEq] at q6 ⊢
            exact ⟨Tm.den_of q6.1, ih _ q6.2⟩
      rw [hl] at h5
      exact ⟨c1.push ⟨.base b, U.bd b ds⟩, _, e1.new, ⟨.base b, U.bd b ds⟩, fs, q1.trans (Le.push c1 _), q2, q3, q4.push _, rfl, q4.new _, rfl, by rw [cells_bd q7]; exact q8, h5⟩
  · rename_i hnb
    split at h
    · rename_i x
      simp only [Cx.crs, CRs] at hx
      obtain ⟨y, l', rfl, h1, rfl⟩ := hx
      obtain ⟨c1, e1, a, d, f, q1, q2, q3, q4, rfl, q6, q7, q8, q9⟩ := tm_ok ok h1 h
      refine ⟨c1, e1, a, d, [f], q1, q2, q3, q4, rfl, q6, q7, ?_, q9⟩
      have : cells U d = [d] := by
        obtain ⟨t0, v⟩ := d
        simp only at q7
        subst q7
        cases t0 <;> first | rfl | exact (hnb _ rfl).elim
      rw [this]
      exact ⟨d, [], rfl, q8, rfl⟩
    · exact h.elim
theorem Le.frz (ok : Ok c e) {o : Nat} {w : Bool} {k' ty sz : Nat} {t : Ty} {x : Tm} {ob : Ob} (h : nth c.S o = some (.arr w k' ty sz t x)) (w' : Bool) : Le c (c.set o (.arr w' k' ty sz t x) ob) := by
  obtain ⟨xs, fs, q1, q2, q3, q4, q5, q6⟩ := arr_at ok h
  refine Le.set fun kc len hi => ⟨kc, len, ?_, .inr ⟨rfl, rfl⟩⟩
  have hlt : o < c.S.length := inf_lt hi
  have hi' : inf c.ρ c.S o = some (kc, len) := hi
  rw [nth_eq] at h
  simp only [inf, h] at hi'
  simp only [inf, List.getElem?_set_self hlt]
  exact hi'
theorem Ok.frz (ok : Ok c e) {o : Nat} {w : Bool} {k' ty sz : Nat} {t : Ty} {x : Tm} {xs : List (T U.B t)} {fs : List F} (h : nth c.S o = some (.arr w k' ty sz t x)) (w' : Bool)
    (q1 : x.den? c.ρ = some ⟨.list t, xs⟩) (q3 : sz = width U t) (q4 : c.β o % 4294967296 = ty) (q5 : FDs U fs (flat U xs)) : Ok (c.set o (.arr w' k' ty sz t x) (.arr w' (c.β o + k' * 4294967296) sz fs)) e :=
  ok.set (Le.frz ok h w') ⟨_, fs, q1, rfl, rfl, q3, q4, q5⟩
theorem frz_ok : ∀ (xs : List SC) {c : Cx U} {e : SE} (ok : Ok c e) {ys : List Dm.C} (hx : c.crs xs ys) {xs' : List SC} {S' : SSt} (h : frzS xs c.S = some (xs', S')),
    ∃ c' fs, Le c c' ∧ c'.S = S' ∧ c'.ρ = c.ρ ∧ Ok c' e ∧ c'.crs xs' (List.map C.f fs) ∧ ∀ K : List F → St → Prop, K fs c'.σ → vfrzs prims ys c.σ K
  | [], c, e, ok, ys, hx, xs', S', h => by
    simp only [Cx.crs, CRs] at hx
    subst hx
    simp only [frzS, Option.some.injEq, Prod.mk.injEq] at h
    obtain ⟨rfl, rfl⟩ := h
    exact ⟨c, [], Le.refl c, rfl, rfl, ok, by simp only [Cx.crs, CRs, List.map_nil], fun K hK => hK⟩
  | x :: r, c, e, ok, ys, hx, xs', S', h => by
    simp only [Cx.crs, CRs] at hx
    obtain ⟨y, ys', rfl, h1, h2⟩ := hx
    simp only [frzS] at h
    split at h
    · rename_i o kk
      split at h
      · rename_i w k' ty sz t a ho
        split at h
        · rename_i hk
          have e1 := beq_nat hk
          subst e1
          obtain ⟨zs, gs, q1, q2, q3, q4, q5, q6⟩ := arr_at ok ho
          simp only [CR] at h1
          obtain ⟨n, kc, len, rfl, p2, p3, p4⟩ := h1
          have p2' : c.ι o = some (kc, len) := p2
          rw [q6] at p2'
          cases p2'
          have := p4 rfl
          subst this
          split at h
          · rename_i l S2 hr
            cases h
            have hle := Le.frz (ob := .arr false (c.β o + kk * 4294967296) sz gs) ok ho false
            obtain ⟨c2, fs, r1, r2, r3, r4, r5, r6⟩ := frz_ok r (Ok.frz ok ho false q1 q3 q4 q5) (hle.crs h2) hr
            refine ⟨c2, .sl zs.length gs :: fs, hle.trans r1, r2, r3, r4, ?_, fun K hK => ?_⟩
            · simp only [Cx.crs, CRs, List.map_cons]
              refine ⟨_, _, rfl, ?_, r5⟩
              simp only [CR]
              exact ⟨_, ⟨.list t, zs⟩, rfl, by rw [r3]; exact q1, rfl, by simp only [FD]; exact ⟨t, zs, rfl, rfl, q5⟩⟩
            · simp only [vfrzs, q2]
              exact ⟨rfl, r6 (fun l σ => K (.sl zs.length gs :: l) σ) hK⟩
          · cases h
        · cases h
      · cases h
    · rename_i hnr
      split at h
      · rename_i hkeep
        split at h
        · rename_i l S2 hr
          cases h
          obtain ⟨c2, fs, r1, r2, r3, r4, r5, r6⟩ := frz_ok r ok h2 hr
          have hf : ∃ f, y = .f f := by
            cases x <;> simp only [keepC] at hkeep <;> first
              | (cases hkeep; done)
              | (simp only [CR] at h1; first | exact ⟨_, h1⟩ | (obtain ⟨f, d, h1, _⟩ := h1; exact ⟨f, h1⟩))
          obtain ⟨f, rfl⟩ := hf
          refine ⟨c2, f :: fs, r1, r2, r3, r4, ?_, fun K hK => ?_⟩
          · simp only [Cx.crs, CRs, List.map_cons]
            exact ⟨_, _, rfl, r1.cr h1, r5⟩
          · simp only [vfrzs]
            exact r6 (fun l σ => K (f :: l) σ) hK
        · cases h
      · cases h
end Go.Dm.Sx
namespace Go.Dm.Sx
open Go.Dm
set_option linter.unusedVariables false
set_option linter.unusedSimpArgs false
variable {U : Uni} {c c' c'' : Cx U} {e : SE} {Sp : List (FSpec U)} {Post : List (Dyn U.B) → Prop} {Go : Nat → List (Dyn U.B) → Prop}
theorem ofF_ok {ρ : Rho U} {β : Nat → Nat} {ι : Inf} (f : F) : CR ρ β ι (ofF f) (.f f) := by
  cases f <;> simp only [ofF, CR] <;> first
    | trivial
    | exact ⟨_, _, rfl, rfl, rfl, rfl⟩
theorem ofFs_ok {ρ : Rho U} {β : Nat → Nat} {ι : Inf} : ∀ (l : List F), CRs ρ β ι (l.map ofF) (l.map C.f)
  | [] => by simp only [List.map_nil, CRs]
  | f :: r => by simp only [List.map_cons, CRs]; exact ⟨_, _, rfl, ofF_ok f, ofFs_ok r⟩
theorem add_cells (ok : Ok c e) {l : List SC} {l' : List Dm.C} (hl : c.crs l l') {k : K1} {K : V → St → Prop} (hk : FollS Sp Post Go c k K)
    (h : TDen Sp Post Go (k e (.c (.ptr c.S.length 0)) (c.S ++ [.cells l])) c.ρ) : K (.c (.ptr c.σ.length 0)) (c.σ ++ [.cells l']) := by
  have hle : Le c (c.add 0 (.cells l) (.cells l')) := Le.add _ _ _
  exact hk (c.add 0 (.cells l) (.cells l')) e _ _ hle (ok.add ⟨l', rfl, hle.crs hl⟩) (VR.c (by simp only [CR, ok.len])) h
theorem alloc_ok (ok : Ok c e) {z : List F} {k : K1} {K : V → St → Prop} (hk : FollS Sp Post Go c k K)
    (h : TDen Sp Post Go (k e (.c (.ptr c.S.length 0)) (c.S ++ [.cells (z.map ofF)])) c.ρ) : K (.c (.ptr c.σ.length 0)) (c.σ ++ [.cells (z.map .f)]) :=
  add_cells ok (ofFs_ok z) hk h
theorem cells_of {x : SV} {v : V} (hx : c.vr x v) {l : List SC} (h : x.cells = some l) : ∃ l', v.cells = some l' ∧ c.crs l l' := by
  cases x with
  | c x =>
    cases x <;> simp only [SV.cells, Option.some.injEq] at h <;> first
      | (cases h; done)
      | (subst h
         obtain ⟨y, rfl, h0⟩ := V_c (by simp) hx
         refine ⟨[y], ?_, by simp only [Cx.crs, CRs]; exact ⟨y, [], rfl, h0, rfl⟩⟩
         cases y <;> first | rfl | (simp only [CR] at h0; first | (cases h0; done) | (obtain ⟨_, h0, _⟩ := h0; cases h0; done) | (obtain ⟨_, _, h0, _⟩ := h0; cases h0; done) | (obtain ⟨_, _, _, h0, _⟩ := h0; cases h0; done) | (obtain ⟨_, _, _, _, _, _, h0⟩ := h0; cases h0; done)))
  | a l0 =>
    simp only [SV.cells, Option.some.injEq] at h
    subst h
    simp only [Cx.vr, VR] at hx
    obtain ⟨l', rfl, h1⟩ := hx
    exact ⟨l', rfl, h1⟩
  | t l0 => simp [SV.cells] at h
theorem box_ok (ok : Ok c e) {x : SV} {v : V} (hx : c.vr x v) {k : K1} {K : V → St → Prop} (hk : FollS Sp Post Go c k K)
    (h : TDen Sp Post Go (boxS e x c.S k) c.ρ) : match v.cells with | some l => K (.c (.ptr c.σ.length 0)) (c.σ ++ [.cells l]) | none => False := by
  unfold boxS at h
  split at h
  · rename_i l hl
    obtain ⟨l', h1, h2⟩ := cells_of hx hl
    rw [h1]
    exact add_cells ok h2 hk h
  · exact h.elim
theorem solid_of {ρ : Rho U} {β : Nat → Nat} {ι : Inf} {x : SC} {y : Dm.C} (h : CR ρ β ι x y) (hs : x.solid = true) : y.solid = true := by
  cases y <;> first
    | rfl
    | (cases x <;> simp only [CR] at h <;> first
      | (cases hs; done)
      | (cases h; done)
      | (obtain ⟨_, h, _⟩ := h; cases h; done)
      | (obtain ⟨_, _, h, _⟩ := h; cases h; done)
      | (obtain ⟨_, _, _, h, _⟩ := h; cases h; done)
      | (obtain ⟨_, _, _, _, _, _, h⟩ := h; cases h; done))
theorem solids_of {ρ : Rho U} {β : Nat → Nat} {ι : Inf} : ∀ {l : List SC} {l' : List Dm.C}, CRs ρ β ι l l' → l.all SC.solid = true → l'.all C.solid = true
  | [], l', h, _ => by simp only [CRs] at h; subst h; rfl
  | x :: r, l', h, hs => by
    simp only [CRs] at h
    obtain ⟨y, l0, rfl, h1, h2⟩ := h
    simp only [List.all_cons, Bool.and_eq_true] at hs ⊢
    exact ⟨solid_of h1 hs.1, solids_of h2 hs.2⟩
theorem splice_ok {ρ : Rho U} {β : Nat → Nat} {ι : Inf} {l r q : List SC} {l' r' : List Dm.C} (hl : CRs ρ β ι l l') (hr : CRs ρ β ι r r') {off : Nat} (h : spliceS l off r = some q) : ∃ q', splice l' off r' = some q' ∧ CRs ρ β ι q q' := by
  unfold spliceS at h
  split at h
  · rename_i hb
    cases h
    refine ⟨_, by unfold splice; rw [if_pos (by rw [hl.len, hr.len]; exact ble_nat hb)], ?_⟩
    rw [hr.len]
    exact ((hl.take off).append hr).append (hl.drop _)
  · cases h
theorem set_cells (ok : Ok c e) {o : Nat} {so : SOb} (ho : nth c.S o = some so) (hs : ∀ w k ty sz t x, so ≠ .arr w k ty sz t x) {so' : SOb} {ob' : Ob} (h : ∀ ρ β ι, Later c.ρ c.β c.ι ρ β ι → OR ρ β ι o so' ob') :
    Le c (c.set o so' ob') ∧ Ok (c.set o so' ob') e := by
  have hle : Le c (c.set o so' ob') := Le.set fun kc len hi => by rw [no_inf ho hs] at hi; cases hi
  exact ⟨hle, ok.set hle (h _ _ _ hle)⟩
theorem set_arr (ok : Ok c e) {o : Nat} {w : Bool} {k' ty sz : Nat} {t : Ty} {x : Tm} (ho : nth c.S o = some (.arr w k' ty sz t x)) {xs : List (T U.B t)} (hx : x.den? c.ρ = some ⟨.list t, xs⟩)
    {k2 : Nat} {x2 : Tm} {ys : List (T U.B t)} {fs : List F} (w2 : Bool) (hx2 : x2.den? c.ρ = some ⟨.list t, ys⟩) (hk : k' < k2 ∨ (k2 = k' ∧ ys.length = xs.length)) (hf : FDs U fs (flat U ys)) :
    Le c (c.set o (.arr w2 k2 ty sz t x2) (.arr w2 (c.β o + k2 * 4294967296) sz fs)) ∧ Ok (c.set o (.arr w2 k2 ty sz t x2) (.arr w2 (c.β o + k2 * 4294967296) sz fs)) e := by
  obtain ⟨xs', fs', q1, q2, q3, q4, q5, q6⟩ := arr_at ok ho
  rw [hx] at q1
  simp only [Option.some.injEq, Dyn.mk.injEq, heq_eq_eq, true_and] at q1
  subst q1
  have hle : Le c (c.set o (.arr w2 k2 ty sz t x2) (.arr w2 (c.β o + k2 * 4294967296) sz fs)) := Le.set fun kc len hi => by
    have hlt : o < c.S.length := inf_lt hi
    rw [q6] at hi
    cases hi
    refine ⟨k2, ys.length, ?_, hk⟩
    simp only [inf, List.getElem?_set_self hlt, hx2, lenOf]
  exact ⟨hle, ok.set hle ⟨_, fs, hx2, rfl, rfl, q3, q4, hf⟩⟩
theorem fput_row {t : Ty} {xs : List (T U.B t)} {fs gs : List F} {y : T U.B t} {i : Nat} (hf : FDs U fs (flat U xs)) (hg : FDs U gs (cells U ⟨t, y⟩)) (hi : i < xs.length) :
    FDs U (prims.fput fs (i * width U t) gs) (flat U (xs.set i y)) := by
  show FDs U (fs.take (i * width U t) ++ gs ++ fs.drop (i * width U t + gs.length)) _
  have hgl : gs.length = width U t := by rw [hg.len, cells_len]
  have e1 : xs.set i y = xs.take i ++ y :: xs.drop (i + 1) := by
    rw [List.set_eq_take_append_cons_drop, if_pos hi]
  rw [e1, flat_app, flat_cons, ← flat_take, ← flat_drop, hgl, List.append_assoc]
  refine (hf.take _).append (hg.append ?_)
  have := hf.drop ((i + 1) * width U t)
  rwa [show i * width U t + width U t = (i + 1) * width U t from by rw [Nat.add_mul, Nat.one_mul]]
theorem frz_len : ∀ (xs : List SC) {S S' : SSt} {ys : List SC}, frzS xs S = some (ys, S') → ys.length = xs.length
  | [], S, S', ys, h => by simp only [frzS, Option.some.injEq, Prod.mk.injEq] at h; rw [← h.1]
  | x :: r, S, S', ys, h => by
    simp only [frzS] at h
    split at h
    · split at h
      · split at h
        · split at h
          · rename_i l S2 hr
            cases h
            simp [frz_len r hr]
          · cases h
        · cases h
      · cases h
    · split at h
      · split at h
        · rename_i l S2 hr
          cases h
          simp [frz_len r hr]
        · cases h
      · cases h
theorem fput_part {fs gs : List F} {p sz j n : Nat} (hg : gs.length = n) (hj : j + n ≤ sz) (hp : p + sz ≤ fs.length) :
    prims.fput fs p (((fs.drop p).take sz).take j ++ gs ++ ((fs.drop p).take sz).drop (j + n)) = prims.fput fs (p + j) gs := by
  show fs.take p ++ (((fs.drop p).take sz).take j ++ gs ++ ((fs.drop p).take sz).drop (j + n)) ++ fs.drop (p + (((fs.drop p).take sz).take j ++ gs ++ ((fs.drop p).take sz).drop (j + n)).length) = fs.take (p + j) ++ gs ++ fs.drop (p + j + gs.length)
  have h1 : (((fs.drop p).take sz).take j ++ gs ++ ((fs.drop p).take sz).drop (j + n)).length = sz := by
    simp only [List.length_append, List.length_take, List.length_drop, hg]; omega
  rw [h1, List.take_take, Nat.min_eq_left (by omega), List.take_add, hg]
  simp only [List.append_assoc]
  congr 2
  rw [List.drop_take, List.drop_drop, ← List.append_assoc]
  have h2 : fs.drop (p + j + n) = (fs.drop (p + (j + n))).take (sz - (j + n)) ++ fs.drop (p + sz) := by
    rw [show p + sz = p + (j + n) + (sz - (j + n)) from by omega, ← List.drop_drop (i := sz - (j + n)), List.take_append_drop, Nat.add_assoc]
  rw [h2, List.append_assoc]
theorem store_ok (ok : Ok c e) {n : Nat} {a x : SV} {va v : V} (ha : c.vr a va) (hx : c.vr x v) {k : K1} {K : V → St → Prop} (hk : FollS Sp Post Go c k K)
    (h : TDen Sp Post Go (storeS U.lay e n a x c.S k) c.ρ) : vstore prims va v n c.σ fun σ => K (.c .un) σ := by
  unfold storeS at h
  split at h
  · exact h.elim
  · rename_i r hr
    obtain ⟨r', hr1, hr2⟩ := cells_of hx hr
    split at h
    · rename_i hlen hsol
      have hlen := beq_nat hlen
      unfold vstore
      rw [hr1]
      simp only
      rw [if_pos ⟨by rw [hr2.len]; exact hlen, solids_of hr2 hsol⟩]
      split at h
      · rename_i o off
        cases vr_ptr ha
        split at h
        · rename_i l ho
          obtain ⟨ob, h1, l', rfl, h2⟩ := ok.get ho
          simp only [h1]
          split at h
          · rename_i q hq
            obtain ⟨q', h3, h4⟩ := splice_ok h2 hr2 hq
            rw [h3]
            obtain ⟨g1, g2⟩ := set_cells (so' := .cells q) (ob' := .cells q') ok ho (by simp) fun ρ β ι hl => ⟨q', rfl, CRs.later hl h4⟩
            exact hk _ e _ (.c .un) g1 g2 VR.un h
          · exact h.elim
        · rename_i T u y ho
          obtain ⟨ob, h1, y', rfl, h2⟩ := ok.get ho
          simp only [h1]
          split at h
          · rename_i o'
            split at h
            · rename_i hb
              simp only [Cx.crs, CRs, CR] at hr2
              obtain ⟨c0, l0, rfl, rfl, rfl⟩ := hr2
              simp only [hb]
              obtain ⟨g1, g2⟩ := set_cells (so' := .bld T true y) (ob' := .bld T true y') ok ho (by simp) fun ρ β ι hl => ⟨y', rfl, CR.later hl h2⟩
              exact hk _ e _ (.c .un) g1 g2 VR.un h
            · exact h.elim
          · simp only [Cx.crs, CRs] at hr2
            obtain ⟨c0, l0, rfl, h3, rfl⟩ := hr2
            obtain ⟨g1, g2⟩ := set_cells (so' := .bld T u _) (ob' := .bld T u c0) ok ho (by simp) fun ρ β ι hl => ⟨c0, rfl, CR.later hl h3⟩
            exact hk _ e _ (.c .un) g1 g2 VR.un h
          · exact h.elim
        · exact h.elim
      · rename_i o kk sz i j
        obtain ⟨kd, n0, p, h1, h2, h3, rfl⟩ := vr_pa ha
        simp only
        split at h
        · exact h.elim
        · rename_i r2 S2 hfr
          obtain ⟨c2, gs, g1, rfl, g3, ok2, g5, g6⟩ := frz_ok r ok hr2 hfr
          refine g6 _ ?_
          split at h
          · rename_i k' ty sz' t l ho
            obtain ⟨xs, fs, q1, q2, q3, q4, q5, q6⟩ := arr_at ok2 ho
            have h1' := g1.den h1
            have hβ : c2.β o = c.β o := by obtain ⟨a1, a2⟩ := p; exact (g1.2 o a1 a2 h3).1
            rw [← g3] at h
            split at h
            · rename_i hkk hsz
              have e1 := beq_nat hkk
              have e2 := beq_nat hsz
              subst e1 e2
              simp only [q2]
              have hgl : gs.length = n := by
                have := frz_len r hfr
                have h5 := g5.len
                rw [List.length_map] at h5
                omega
              have hfl : fs.length = xs.length * sz := by rw [q5.len, flat_len, q3]
              -- the end
              have fin : ∀ {c3 : Cx U} {e3 : SE} {y : Tm} {d : Dyn U.B} {hs : List F}, Le c2 c3 → c3.S = c2.S → c3.σ = c2.σ → Ok c3 e3 → y.den? c3.ρ = some d → d.t = t → FDs U hs (cells U d) →
                  prims.fput fs (n0.toNat * sz) hs = prims.fput fs (n0.toNat * sz + j) gs → n0.toNat * sz + j + n ≤ fs.length →
                  TDen Sp Post Go (.lset t l i y (k (e3.push (.list t)) (.c .un) (c2.S.set o (.arr true kk ty sz t (.at e3.n))))) c3.ρ →
                  prims.eqN (c.β o + kk * 4294967296) (c2.β o + kk * 4294967296) ∧ prims.le (prims.nadd (n0.toNat * sz + j) n) (prims.flen fs) ∧ K (.c .un) (c2.σ.set o (.arr true (c2.β o + kk * 4294967296) sz (prims.fput fs (n0.toNat * sz + j) gs))) := by
                intro c3 e3 y d hs hle hS hσ ok3 hy hd hhs heq hlen hD
                refine ⟨by rw [hβ]; rfl, hlen, ?_⟩
                obtain ⟨⟨b1, b2⟩, b3⟩ := hD
                rw [den_as (t := .list t) (hle.den q1), den_int (hle.den h1')] at b2 b3
                obtain ⟨t0, y0⟩ := d
                simp only at hd
                subst hd
                rw [den_as hy] at b3
                have b4 := b3 _ rfl
                rw [← heq]
                have hlt : n0.toNat < xs.length := by omega
                let c4 := c3.push ⟨.list t0, xs.set n0.toNat y0⟩
                have ok4 : Ok c4 (e3.push (.list t0)) := ok3.push _
                have ho4 : nth c4.S o = some (.arr true kk ty sz t0 l) := by show nth c3.S o = _; rw [hS]; exact ho
                have hl4 : l.den? c4.ρ = some ⟨.list t0, xs⟩ := (Le.push c3 _).den (hle.den q1)
                obtain ⟨s1, s2⟩ := set_arr ok4 ho4 hl4 (k2 := kk) (x2 := .at e3.n) (ys := xs.set n0.toNat y0) true (ok3.new _) (.inr ⟨rfl, by simp⟩) (by have := fput_row q5 hhs hlt; rwa [← q3] at this)
                have hβ3 : c4.β o = c2.β o := by
                  have := hle.2 o _ _ q6
                  exact this.1
                rw [hβ3] at s1 s2
                have := hk _ _ (.c .un) (.c .un) (g1.trans (hle.trans ((Le.push c3 _).trans s1))) s2 VR.un (by
                  show TDen Sp Post Go (k (e3.push (.list t0)) (.c .un) (c3.S.set o _)) _
                  rw [hS]; exact b4)
                have e5 : c4.σ = c2.σ := hσ
                simpa [Cx.set, e5] using this
              have row : n0.toNat < xs.length → n0.toNat * sz + sz ≤ fs.length := fun hlt => by
                rw [hfl]
                have := Nat.mul_le_mul_right sz (Nat.succ_le_of_lt hlt)
                rwa [Nat.succ_mul] at this
              split at h
              · rename_i hj hn
                have hj0 := beq_nat hj
                have hn0 := beq_nat hn
                obtain ⟨c3, e3, y, d, hs, r1, r2', r3, r4, r5, r6, r7, r8, r9⟩ := data_ok ok2 g5 h
                have : hs = gs := (List.map_inj_right (fun _ _ hh => by cases hh; rfl)).1 r5.symm
                subst this
                have hR9 := r9
                obtain ⟨⟨b1, b2⟩, _⟩ := hR9
                rw [den_as (t := .list t) (r1.den q1), den_int (r1.den h1')] at b2
                rw [den_int (r1.den h1')] at b1
                exact fin r1 r2' r3 r4 r6 r7 r8 (by rw [hj0, Nat.add_zero]) (by rw [hj0, hn0, Nat.add_zero]; exact row (by omega)) r9
              · split at h
                · rename_i b
                  obtain ⟨⟨b1, b2⟩, b3⟩ := h
                  rw [den_as (t := .list (.base b)) q1, den_int h1'] at b2 b3
                  rw [den_int h1'] at b1
                  have hlt : n0.toNat < xs.length := by omega
                  have hy := List.getElem?_eq_getElem hlt
                  generalize xs[n0.toNat] = y at hy
                  have b4 := b3 y hy
                  split at b4
                  · rename_i q hq
                    have okp := ok2.push (⟨.base b, y⟩ : Dyn U.B)
                    have hi : (c2.push ⟨.base b, y⟩).ρ[e.n]? = some ⟨.base b, y⟩ := by simp [Cx.push, ok2.n]
                    have wb : width U (.base b) = (U.lay b).length := rfl
                    have hr := row hlt
                    have hcf : (c2.push ⟨.base b, y⟩).crs (cellsFrom U.lay (e.push (.base b)) e.n 0 (U.lay b).length) (List.map C.f ((fs.drop (n0.toNat * sz)).take sz)) := by
                      refine cellsFrom_ok okp hi _ 0 (by rw [List.length_take, List.length_drop, ← wb, ← q3]; omega) fun m hm => ?_
                      have h6 : (cells U ⟨.base b, y⟩)[m]? = some ((cells U ⟨.base b, y⟩)[m]'(by rw [cells_len]; exact hm)) := List.getElem?_eq_getElem _
                      have h7 := flat_get (U := U) hy (j := m) hm
                      rw [h6] at h7
                      obtain ⟨f, h8, h9⟩ := q5.get h7
                      refine ⟨_, f, by rw [Nat.zero_add]; exact h6, ?_, h9⟩
                      rw [List.getElem?_take, if_pos (by rw [q3]; exact hm), List.getElem?_drop]
                      rw [q3]; exact h8
                    obtain ⟨q', s1, s2⟩ := splice_ok hcf ((Le.push c2 _).crs g5) hq
                    obtain ⟨c3, e3, z, d, hs, r1, r2', r3, r4, r5, r6, r7, r8, r9⟩ := data_ok okp s2 b4
                    have hjn : j + n ≤ sz := by
                      unfold splice at s1
                      split at s1
                      · rename_i hh
                        simp only [List.length_map, List.length_take, List.length_drop, hgl] at hh
                        omega
                      · cases s1
                    have hhs : hs = ((fs.drop (n0.toNat * sz)).take sz).take j ++ gs ++ ((fs.drop (n0.toNat * sz)).take sz).drop (j + n) := by
                      unfold splice at s1
                      split at s1
                      · cases s1
                        rw [List.length_map, hgl, ← List.map_take, ← List.map_drop, ← List.map_append, ← List.map_append] at r5
                        exact ((List.map_inj_right (fun _ _ hh => by cases hh; rfl)).1 r5).symm
                      · cases s1
                    exact fin ((Le.push c2 _).trans r1) r2' r3 r4 r6 r7 r8 (by rw [hhs]; exact fput_part hgl hjn (by omega)) (by omega) r9
                  · exact b4.elim
                · exact h.elim
            · exact h.elim
          · exact h.elim
      · exact h.elim
    · exact h.elim
end Go.Dm.Sx
namespace Go.Dm.Sx
open Go.Dm
set_option linter.unusedVariables false
set_option linter.unusedSimpArgs false
variable {U : Uni} {c c' c'' : Cx U} {e : SE} {Sp : List (FSpec U)} {Post : List (Dyn U.B) → Prop} {Go : Nat → List (Dyn U.B) → Prop}
theorem add_arr (ok : Ok c e) {ty sz : Nat} {t : Ty} {l : Tm} {xs : List (T U.B t)} {fs : List F} (hl : l.den? c.ρ = some ⟨.list t, xs⟩) (hf : FDs U fs (flat U xs)) (hsz : sz = width U t) (hty : ty ≤ 4294967295) :
    Le c (c.add ty (.arr true 0 ty sz t l) (.arr true ty sz fs)) ∧ Ok (c.add ty (.arr true 0 ty sz t l) (.arr true ty sz fs)) e ∧ (c.add ty (.arr true 0 ty sz t l) (.arr true ty sz fs)).vr (.c (.rs c.S.length 0)) (.c (.rs c.σ.length ty xs.length)) := by
  have hle : Le c (c.add ty (.arr true 0 ty sz t l) (.arr true ty sz fs)) := Le.add _ _ _
  have hβ : (c.add ty (.arr true 0 ty sz t l) (.arr true ty sz fs)).β c.S.length = ty := if_pos rfl
  refine ⟨hle, ok.add ⟨_, fs, hl, rfl, ?_, hsz, ?_, hf⟩, VR.c ?_⟩
  · rw [hβ]; simp
  · rw [hβ]; omega
  · simp only [CR]
    rw [hβ]
    refine ⟨xs.length, 0, xs.length, by rw [ok.len]; simp, ?_, Nat.le_refl _, fun _ => rfl⟩
    show inf c.ρ (c.S ++ [.arr true 0 ty sz t l]) c.S.length = _
    simp [inf, hl, lenOf]
theorem mem_ok (ok : Ok c e) {x : Tm} (h : memT x e.ne = true) : ∃ d, x.den? c.ρ = some d ∧ lenOf d ≠ 0 := by
  have key : ∀ l : List Tm, (∀ x ∈ l, ∃ d, x.den? c.ρ = some d ∧ lenOf d ≠ 0) → memT x l = true → ∃ d, x.den? c.ρ = some d ∧ lenOf d ≠ 0 := by
    intro l
    induction l with
    | nil => intro _ h; simp [memT] at h
    | cons y r ih =>
      intro hl h
      simp only [memT] at h
      split at h
      · rename_i he
        rw [Tm.eqb_ok he]
        exact hl y (List.mem_cons_self ..)
      · exact ih (fun z hz => hl z (List.mem_cons_of_mem _ hz)) h
  exact key _ ok.ne h
def AppV (c : Cx U) (ty sz bytes : Nat) (v : V) (m : Nat) (new : List F) (K : V → St → Prop) : Prop :=
  match v with
  | .c (.f .nils) =>
    (match m with
    | 0 => K (.c (.f .nils)) c.σ
    | m + 1 => qprims.new (m + 1) new bytes ty (K (.c (.rs c.σ.length ty (m + 1))) (c.σ ++ [.arr true ty sz new])))
  | .c (.rs o e n) =>
    (match c.σ[o]? with
    | some (.arr w e0 s0 l) => qprims.eqN e e0 (qprims.eqN sz s0 (qprims.eqN (e0 % 4294967296) ty (qprims.app n l m new bytes fun n' l' => K (.c (.rs o (e0 + 4294967296) n')) (c.σ.set o (.arr w (e0 + 4294967296) sz l')))))
    | _ => False)
  | _ => False
theorem appMain_ok (ok : Ok c e) {ty sz bytes : Nat} {x : SV} {v : V} {t : Ty} {l : Tm} {xs : List (T U.B t)} {fs : List F} (hl : l.den? c.ρ = some ⟨.list t, xs⟩) (hf : FDs U fs (flat U xs)) (hx : c.vr x v)
    {k : K1} {K : V → St → Prop} (hk : FollS Sp Post Go c k K) (h : TDen Sp Post Go (appMain U.lay e ty sz bytes x t l c.S k) c.ρ) : AppV c ty sz bytes v xs.length fs K := by
  unfold appMain at h
  split at h
  · obtain ⟨y, rfl, h0⟩ := V_c (by simp) hx
    simp only [CR] at h0
    subst h0
    unfold AppV
    simp only
    split at h
    · rename_i hsz hty
      have hsz := beq_nat hsz
      rw [wid_eq] at hsz
      have hty := ble_nat hty
      obtain ⟨g1, g2, g3⟩ := add_arr ok hl hf hsz hty
      have big : xs ≠ [] → ∀ e', Ok c e' → TDen Sp Post Go (.lnew t bytes l (k e' (.c (.rs c.S.length 0)) (c.S ++ [.arr true 0 ty sz t l]))) c.ρ → (match xs.length with
          | 0 => K (.c (.f .nils)) c.σ
          | m + 1 => qprims.new (m + 1) fs bytes ty (K (.c (.rs c.σ.length ty (m + 1))) (c.σ ++ [.arr true ty sz fs]))) := by
        intro hne e' ok' hD
        obtain ⟨h1, h2, h3⟩ := hD
        rw [den_as hl] at h1 h2
        obtain ⟨g1, g2, g3⟩ := add_arr ok' hl hf hsz hty
        have h4 := hk _ e' _ _ g1 g2 g3 h3
        cases hm : xs.length with
        | zero => exact absurd (List.eq_nil_of_length_eq_zero hm) hne
        | succ m => rw [hm] at h1 h2 h4; exact ⟨h1, h2, hty, h4⟩
      split at h
      · rename_i hm
        obtain ⟨d, h1, h2⟩ := mem_ok ok hm
        rw [hl] at h1
        cases h1
        exact big (fun hh => h2 (by simp [lenOf, hh])) e ok h
      · obtain ⟨h1, h2⟩ := h
        rw [den_as hl] at h1 h2
        by_cases hxs : xs = []
        · subst hxs
          exact hk c e _ _ (Le.refl c) ok (VR.c (by simp only [CR])) (h1 rfl)
        · exact big hxs _ (ok.ne' hl (by simpa [lenOf] using hxs)) (h2 hxs)
    · exact h.elim
  · rename_i o kk
    obtain ⟨n', kc, len, rfl, p1, p2, p3⟩ := vr_rs hx
    split at h
    · rename_i w k' ty' sz' t' l' ho
      obtain ⟨ys, gs, q1, q2, q3, q4, q5, q6⟩ := arr_at ok ho
      split at h
      · rename_i e1 e2 e3 e4
        have e1 := beq_nat e1
        have e2 := beq_nat e2
        have e3 := beq_nat e3
        have e4 := Ty.eqb_ok e4
        subst e1 e2 e3 e4
        have p1' : c.ι o = some (kc, len) := p1
        rw [q6] at p1'
        cases p1'
        have := p3 rfl
        subst this
        obtain ⟨h1, h2, h3⟩ := h _ rfl
        rw [den_as (t := .list t') q1, den_as (t := .list t') hl] at h1 h2 h3
        unfold AppV
        simp only [q2]
        refine ⟨rfl, rfl, by rw [Nat.add_mul_mod_self_right]; exact q4, by simpa using h1, by simpa using h2, ?_⟩
        let c2 := c.push ⟨.list t', ys ++ xs⟩
        have ok2 : Ok c2 (e.push (.list t')) := ok.push _
        have ho2 : nth c2.S o = some (.arr w kk ty' sz' t' l') := ho
        obtain ⟨s1, s2⟩ := set_arr ok2 ho2 ((Le.push c _).den q1) (k2 := kk + 1) (x2 := e.new) (ys := ys ++ xs) w (ok.new _) (.inl (Nat.lt_succ_self _)) (by rw [flat_app]; exact q5.append hf)
        have s3 := hk _ _ (.c (.rs o (kk + 1))) (.c (.rs o (c.β o + kk * 4294967296 + 4294967296) (ys.length + xs.length))) ((Le.push c _).trans s1) s2 (VR.c ?_) h3
        · have e5 : c.β o + (kk + 1) * 4294967296 = c.β o + kk * 4294967296 + 4294967296 := by omega
          simpa [Cx.set, c2, Cx.push, e5] using s3
        · simp only [CR]
          refine ⟨_, kk + 1, ys.length + xs.length, by show C.rs o _ _ = C.rs o (c.β o + _) _; congr 1; omega, ?_, Nat.le_refl _, fun _ => rfl⟩
          have hlt : o < c2.S.length := by rw [nth_eq] at ho2; exact (List.getElem?_eq_some_iff.1 ho2).1
          show inf c2.ρ (c2.S.set o _) o = _
          simp only [inf, List.getElem?_set_self hlt, ok.new, c2, lenOf, List.length_append]
      · exact h.elim
    · exact h.elim
  · exact h.elim
theorem app_ok (ok : Ok c e) {d : TD} {ty sz bytes : Nat} {x y : SV} {v w : V} (hx : c.vr x v) (hy : c.vr y w) {k : K1} {K : V → St → Prop} (hk : FollS Sp Post Go c k K)
    (h : TDen Sp Post Go (appS U.lay e d ty sz bytes x y c.S k) c.ρ) : wappend qprims d ty sz bytes v w c.σ K := by
  unfold appS at h
  split at h
  · obtain ⟨y', rfl, h0⟩ := V_c (by simp) hy
    simp only [CR] at h0
    subst h0
    split at h
    · obtain ⟨x', rfl, h0⟩ := V_c (by simp) hx
      simp only [CR] at h0
      subst h0
      exact hk c e _ _ (Le.refl c) ok (VR.c (by simp only [CR])) h
    · split at h
      · rename_i t _ ho
        have := appMain_ok (xs := ([] : List (T U.B t))) (fs := []) ok rfl rfl hx hk h
        exact this
      · exact h.elim
    · exact h.elim
  · rename_i t l
    split at h
    · rename_i hsz
      have hsz := beq_nat hsz
      rw [wid_eq] at hsz
      obtain ⟨xs, h1, h2⟩ := vr_list hy
      rcases h2 with ⟨rfl, rfl⟩ | ⟨fs, rfl, h2⟩
      · exact appMain_ok (fs := []) ok h1 rfl hx hk h
      · exact ⟨by rw [h2.len, flat_len, hsz], appMain_ok ok h1 h2 hx hk h⟩
    · exact h.elim
  · rename_i o kk
    obtain ⟨n', kc, len, rfl, p1, p2, p3⟩ := vr_rs hy
    split at h
    · rename_i w k' ty' sz' t' l' ho
      obtain ⟨ys, gs, q1, q2, q3, q4, q5, q6⟩ := arr_at ok ho
      split at h
      · rename_i e1 e2
        have e1 := beq_nat e1
        have e2 := beq_nat e2
        subst e1 e2
        have p1' : c.ι o = some (kc, len) := p1
        rw [q6] at p1'
        cases p1'
        have := p3 rfl
        subst this
        unfold wappend wsrc
        simp only [q2]
        exact ⟨rfl, rfl, appMain_ok ok q1 q5 hx hk h⟩
      · exact h.elim
    · exact h.elim
  · rename_i s
    obtain ⟨l, rfl, hl⟩ := vr_str hy
    split at h
    · rename_i hsz
      have hsz := beq_nat hsz
      have h1 := h _ rfl
      rw [den_str hl] at h1
      have hrow : FDs U (l.map fun b => F.int .u8 (b.toNat : Int)) (flat U (t := .int .u8) (l.map fun b => (b.toNat : Int))) := by
        clear h h1 hl hy
        induction l with
        | nil => rfl
        | cons b r ih => exact ⟨⟨.int .u8, (b.toNat : Int)⟩, _, rfl, rfl, ih⟩
      have h2 := appMain_ok (c := c.push ⟨.list (.int .u8), l.map fun b => (b.toNat : Int)⟩) (e := e.push (.list (.int .u8))) (ok.push _) (ok.new _) hrow ((Le.push c _).vr hx) (hk.later (Le.push c _)) h1
      refine ⟨hsz, ?_⟩
      have e3 : (prims.toNat (prims.slen l)) = (l.map fun b => (b.toNat : Int)).length := by
        show (l.length : Int).toNat = _
        simp
      rw [e3]
      exact h2
    · exact h.elim
  · exact h.elim
theorem ieq0_eq {n : Int} (h : ieq0 n = true) : n = 0 := by
  cases n with
  | ofNat n => have := beq_nat h; subst this; rfl
  | negSucc n => cases h
theorem optS_ok {lo : Option SV} {vlo : Option V} (hlo : (lo = none ∧ vlo = none) ∨ ∃ x v, lo = some x ∧ vlo = some v ∧ c.vr x v) {a : Option Tm} (h : optS lo = some a) :
    (a = none ∧ vlo = none ∧ iOf vlo = some none) ∨ ∃ kd x, ∃ n : Int, a = some x ∧ vlo = some (.c (.f (.int kd n))) ∧ iOf vlo = some (some n) ∧ x.den? c.ρ = some ⟨.int kd, n⟩ := by
  unfold optS at h
  split at h
  · cases h
    rcases hlo with ⟨_, rfl⟩ | ⟨x, v, h1, _⟩
    · exact .inl ⟨rfl, rfl, rfl⟩
    · cases h1
  · rename_i kd x
    cases h
    rcases hlo with ⟨h1, _⟩ | ⟨y, v, h1, rfl, h2⟩
    · cases h1
    · cases h1
      obtain ⟨n, rfl, hn⟩ := vr_int h2
      exact .inr ⟨kd, x, n, rfl, rfl, rfl, hn⟩
  · cases h
theorem slc_ok (ok : Ok c e) {d : TD} {sz : Nat} {x : SV} {v : V} (hx : c.vr x v) {lo hi : Option SV} {vlo vhi : Option V} (hlo : (lo = none ∧ vlo = none) ∨ ∃ x v, lo = some x ∧ vlo = some v ∧ c.vr x v)
    (hhi : (hi = none ∧ vhi = none) ∨ ∃ x v, hi = some x ∧ vhi = some v ∧ c.vr x v) {k : K1} {K : V → St → Prop} (hk : FollS Sp Post Go c k K)
    (h : TDen Sp Post Go (slcS U.lay e d sz x lo hi c.S k) c.ρ) : wslice qprims d sz v vlo vhi c.σ K := by
  unfold slcS at h
  split at h
  · rename_i a b ha hb
    obtain ⟨ia, hia, oa⟩ : ∃ ia, iOf vlo = some ia ∧ ∀ dflt, optI c.ρ dflt a = ia.getD dflt := by
      rcases optS_ok hlo ha with ⟨rfl, _, h1⟩ | ⟨kd, y, n, rfl, _, h1, h2⟩
      · exact ⟨_, h1, fun _ => rfl⟩
      · exact ⟨_, h1, fun _ => by simp only [optI, den_int h2, Option.getD_some]⟩
    obtain ⟨ib, hib, ob⟩ : ∃ ib, iOf vhi = some ib ∧ ∀ dflt, optI c.ρ dflt b = ib.getD dflt := by
      rcases optS_ok hhi hb with ⟨rfl, _, h1⟩ | ⟨kd, y, n, rfl, _, h1, h2⟩
      · exact ⟨_, h1, fun _ => rfl⟩
      · exact ⟨_, h1, fun _ => by simp only [optI, den_int h2, Option.getD_some]⟩
    split at h
    · rename_i s
      obtain ⟨l, rfl, hl⟩ := vr_str hx
      obtain ⟨h1, h2⟩ := h
      rw [den_str hl, oa, ob] at h1 h2
      have h3 := h2 _ rfl
      unfold wslice
      rw [hia, hib]
      exact ⟨h1, hk (c.push ⟨.str, _⟩) _ _ _ (Le.push c _) (ok.push _) (vd_of (ok.new _) rfl rfl) h3⟩
    · rename_i e' t l
      obtain ⟨xs, q1, q2⟩ := vr_list hx
      split at h
      · rename_i hsz
        have hsz := beq_nat hsz
        rw [wid_eq] at hsz
        subst hsz
        obtain ⟨h1, h2⟩ := h
        rw [den_as q1, oa, ob] at h1 h2
        rcases q2 with ⟨rfl, rfl⟩ | ⟨fs, rfl, q2⟩
        · -- no row at all
          have h3 := h2 _ rfl
          have h4 := hk (c.push ⟨.list t, _⟩) _ _ (.c (.f .nils)) (Le.push c _) (ok.push _) (vd_of (ok.new _) rfl (by
            simp only [FD]
            exact ⟨t, by simp⟩)) h3
          simp only [List.length_nil] at h1
          rcases optS_ok hlo ha with ⟨rfl, rfl, g1⟩ | ⟨kd, y, n, rfl, rfl, g1, _⟩ <;> rcases optS_ok hhi hb with ⟨rfl, rfl, g2⟩ | ⟨kd', y', n', rfl, rfl, g2, _⟩ <;>
            (rw [hia] at g1; cases g1; rw [hib] at g2; cases g2; simp only [Option.getD_none, Option.getD_some] at h1)
          · exact h4
          · exact ⟨⟨Int.le_refl _, by omega, by simpa using h1.2.2⟩, h4⟩
          · exact ⟨⟨Int.le_refl _, by omega, by simpa using h1.2.1⟩, h4⟩
          · exact ⟨⟨Int.le_refl _, by omega, by simpa using h1.2.2⟩, ⟨Int.le_refl _, h1.1, h1.2.1⟩, h4⟩
        · unfold wslice
          rw [hia, hib]
          have fin : ∀ (p q : Nat), p + q ≤ xs.length → FDs U ((fs.drop (p * width U t)).take (q * width U t)) (flat U ((xs.drop p).take q)) := fun p q _ => by
            rw [← flat_take, ← flat_drop]
            exact (q2.drop _).take _
          simp only
          have gen : (0 ≤ ia.getD 0 ∧ ia.getD 0 ≤ ib.getD xs.length ∧ ib.getD xs.length ≤ xs.length) ∧ K (.c (.f (.sl ((ib.getD xs.length).toNat - (ia.getD 0).toNat) ((fs.drop ((ia.getD 0).toNat * width U t)).take (((ib.getD xs.length).toNat - (ia.getD 0).toNat) * width U t))))) c.σ := by
            have h3 := h2 _ rfl
            refine ⟨h1, hk (c.push ⟨.list t, _⟩) _ _ _ (Le.push c _) (ok.push _) (vd_of (ok.new _) rfl ?_) h3⟩
            simp only [FD]
            refine ⟨t, _, rfl, ?_, fin _ _ ?_⟩
            · rw [List.length_take, List.length_drop]; omega
            · omega
          cases ia with
          | none =>
            cases ib with
            | none =>
              have h3 := h2 _ rfl
              simp only [Option.getD_none] at h3
              refine hk (c.push ⟨.list t, _⟩) _ _ (.c (.f (.sl xs.length fs))) (Le.push c _) (ok.push _) (vd_of (ok.new _) rfl ?_) h3
              simp only [FD]
              exact ⟨t, _, rfl, by simp, by simpa using q2⟩
            | some n => exact gen
          | some m => cases ib <;> exact gen
      · exact h.elim
    · obtain ⟨y, rfl, h0⟩ := V_c (by simp) hx
      simp only [CR] at h0
      subst h0
      have zero : ∀ {z : Option Tm}, zeroT z = true → (∀ dflt, optI c.ρ dflt z = 0 ∨ z = none) := fun {z} hz dflt => by
        unfold zeroT at hz
        split at hz
        · exact .inr rfl
        · left
          rw [ieq0_eq hz]
          rfl
        · cases hz
      split at h
      · rename_i ha' hb'
        have h4 := hk c e _ _ (Le.refl c) ok (VR.c (ρ := c.ρ) (β := c.β) (ι := c.ι) (x := .nil) (c := .f .nils) (by simp only [CR])) h
        rcases optS_ok hlo ha with ⟨rfl, rfl, g1⟩ | ⟨kd, y, n, rfl, rfl, g1, g3⟩ <;> rcases optS_ok hhi hb with ⟨rfl, rfl, g2⟩ | ⟨kd', y', n', rfl, rfl, g2, g4⟩
        · exact h4
        · have : n' = 0 := by
            rcases zero hb' 0 with hh | hh
            · rwa [optI, den_int g4] at hh
            · cases hh
          subst this
          exact ⟨⟨Int.le_refl _, Int.le_refl _, Int.le_refl _⟩, h4⟩
        · have : n = 0 := by
            rcases zero ha' 0 with hh | hh
            · rwa [optI, den_int g3] at hh
            · cases hh
          subst this
          exact ⟨⟨Int.le_refl _, Int.le_refl _, Int.le_refl _⟩, h4⟩
        · have h5 : n = 0 := by
            rcases zero ha' 0 with hh | hh
            · rwa [optI, den_int g3] at hh
            · cases hh
          have h6 : n' = 0 := by
            rcases zero hb' 0 with hh | hh
            · rwa [optI, den_int g4] at hh
            · cases hh
          subst h5 h6
          exact ⟨⟨Int.le_refl _, Int.le_refl _, Int.le_refl _⟩, ⟨Int.le_refl _, Int.le_refl _, Int.le_refl _⟩, h4⟩
      · exact h.elim
    · rename_i o kk
      obtain ⟨n', kc, len, rfl, p1, p2, p3⟩ := vr_rs hx
      split at h
      · rename_i k' ty sz' t l b' ho
        obtain ⟨ys, gs, q1, q2, q3, q4, q5, q6⟩ := arr_at ok ho
        split at h
        · rename_i e1
          have e1 := beq_nat e1
          subst e1
          have p1' : c.ι o = some (kc, len) := p1
          rw [q6] at p1'
          cases p1'
          have := p3 rfl
          subst this
          rcases optS_ok hlo ha with ⟨_, rfl, g1⟩ | ⟨kd, y, n, h0, _⟩
          rotate_left
          · cases h0
          rcases optS_ok hhi hb with ⟨h0, _⟩ | ⟨kd', y', n, h0, rfl, g2, g4⟩
          · cases h0
          cases h0
          obtain ⟨h1, h2⟩ := h
          have h3 := h2 _ rfl
          simp only [optI, den_int g4] at h1 h3
          rw [den_as (t := .list t) q1] at h1 h3
          simp only [List.drop_zero, Int.toNat_zero, Nat.sub_zero] at h3
          show wslice qprims (.slice _) sz (.c (.rs o (c.β o + kk * 4294967296) ys.length)) none (some (.c (.f (.int kd' n)))) c.σ K
          unfold wslice sslice
          simp only [iOf, q2]
          refine ⟨rfl, ⟨Int.le_refl _, h1.2.1, h1.2.2⟩, ?_⟩
          let c2 := c.push ⟨.list t, ys.take n.toNat⟩
          have ok2 : Ok c2 (e.push (.list t)) := ok.push _
          have ho2 : nth c2.S o = some (.arr true kk ty sz' t l) := ho
          have hrow : FDs U (prims.fcut gs 0 (prims.atp n sz')) (flat U (ys.take n.toNat)) := by
            show FDs U ((gs.drop 0).take (n.toNat * sz')) _
            rw [← flat_take, q3]
            exact q5.take _
          obtain ⟨s1, s2⟩ := set_arr ok2 ho2 ((Le.push c _).den q1) (k2 := kk + 1) (x2 := e.new) (ys := ys.take n.toNat) true (ok.new _) (.inl (Nat.lt_succ_self _)) hrow
          have s3 := hk _ _ (.c (.rs o (kk + 1))) (.c (.rs o (c.β o + kk * 4294967296 + 4294967296) n.toNat)) ((Le.push c _).trans s1) s2 (VR.c ?_) h3
          · have e5 : c.β o + (kk + 1) * 4294967296 = c.β o + kk * 4294967296 + 4294967296 := by omega
            have e6 : prims.toNat n = n.toNat := rfl
            simpa [Cx.set, c2, Cx.push, e5, e6] using s3
          · simp only [CR]
            refine ⟨_, kk + 1, (ys.take n.toNat).length, by show C.rs o _ _ = C.rs o (c.β o + _) _; congr 1; omega, ?_, Nat.le_refl _, fun _ => by rw [List.length_take]; omega⟩
            have hlt : o < c2.S.length := by rw [nth_eq] at ho2; exact (List.getElem?_eq_some_iff.1 ho2).1
            show inf c2.ρ (c2.S.set o _) o = _
            simp only [inf, List.getElem?_set_self hlt, ok.new, c2, lenOf]
        · exact h.elim
      · exact h.elim
    · exact h.elim
  · exact h.elim
end Go.Dm.Sx
namespace Go.Dm.Sx
open Go.Dm
set_option linter.unusedVariables false
set_option linter.unusedSimpArgs false
variable {U : Uni} {c c' c'' : Cx U} {e : SE} {Sp : List (FSpec U)} {Post : List (Dyn U.B) → Prop} {Go : Nat → List (Dyn U.B) → Prop}
theorem fill_ok {ρS : Operand → SV} {ρV : Operand → V} (hρ : ∀ x, c.vr (ρS x) (ρV x)) : ∀ (parts : List (Nat × Nat × Operand)) {cs l : List SC} {cs' : List Dm.C}, c.crs cs cs' → fillS ρS parts cs = some l → ∃ l', sfill ρV parts cs' = some l' ∧ c.crs l l'
  | [], cs, l, cs', hc, h => by simp only [fillS, Option.some.injEq] at h; subst h; exact ⟨cs', rfl, hc⟩
  | (off, n, x) :: r, cs, l, cs', hc, h => by
    simp only [fillS] at h
    split at h
    · rename_i xl hx
      obtain ⟨xl', h1, h2⟩ := cells_of (hρ x) hx
      split at h
      · rename_i hn
        split at h
        · rename_i q hq
          obtain ⟨q', h3, h4⟩ := splice_ok hc h2 hq
          obtain ⟨l', h5, h6⟩ := fill_ok hρ r h4 h
          refine ⟨l', ?_, h6⟩
          simp only [sfill, h1]
          rw [if_pos (by rw [h2.len]; exact beq_nat hn), h3]
          exact h5
        · cases h
      · cases h
    · cases h
theorem fillRow_ok {sz : Nat} {ρS : Operand → SV} {ρV : Operand → V} (hρ : ∀ x, c.vr (ρS x) (ρV x)) : ∀ (parts : List (Nat × Operand)) {cs l : List SC} {cs' : List Dm.C}, c.crs cs cs' → fillRowS sz ρS parts cs = some l → ∃ l', sfillRow sz ρV parts cs' = some l' ∧ c.crs l l'
  | [], cs, l, cs', hc, h => by simp only [fillRowS, Option.some.injEq] at h; subst h; exact ⟨cs', rfl, hc⟩
  | (i, x) :: r, cs, l, cs', hc, h => by
    simp only [fillRowS] at h
    split at h
    · rename_i xl hx
      obtain ⟨xl', h1, h2⟩ := cells_of (hρ x) hx
      split at h
      · rename_i hn
        split at h
        · rename_i q hq
          obtain ⟨q', h3, h4⟩ := splice_ok hc h2 hq
          obtain ⟨l', h5, h6⟩ := fillRow_ok hρ r h4 h
          refine ⟨l', ?_, h6⟩
          simp only [sfillRow, h1]
          rw [if_pos (by rw [h2.len]; exact beq_nat hn), h3]
          exact h5
        · cases h
      · cases h
    · cases h
theorem rep_ok {l : List SC} {l' : List Dm.C} (h : c.crs l l') : ∀ n, c.crs (repS n l) (rep n l')
  | 0 => by simp only [repS, rep, Cx.crs, CRs]
  | n + 1 => CRs.append h (rep_ok h n)
theorem crs_map {ρ : Rho U} {β : Nat → Nat} {ι : Inf} {xs : List SC} {fs gs : List F} (h : List.map C.f fs = List.map C.f gs) : fs = gs :=
  (List.map_inj_right (fun _ _ hh => by cases hh; rfl)).1 h
theorem elems_ok {t : Ty} {sz : Nat} (hsz : sz = width U t) {k : SE → List Tm → Tr} : ∀ (n : Nat) {c : Cx U} {e : SE} (ok : Ok c e) {xs : List SC} {fs : List F} (hx : c.crs xs (List.map C.f fs)) (hl : xs.length = n * sz) {acc : List Tm → List Tm}
    (h : TDen Sp Post Go (elemsK U.lay t sz k n e xs acc) c.ρ),
    ∃ c' e' l, ∃ ys : List (T U.B t), Le c c' ∧ c'.S = c.S ∧ c'.σ = c.σ ∧ Ok c' e' ∧ ys.length = n ∧ l.map (Tm.den? c'.ρ) = ys.map (fun y => some ⟨t, y⟩) ∧ FDs U fs (flat U ys) ∧ TDen Sp Post Go (k e' (acc l)) c'.ρ
  | 0, c, e, ok, xs, fs, hx, hl, acc, h => by
    have : xs = [] := List.eq_nil_of_length_eq_zero (by simpa using hl)
    subst this
    simp only [Cx.crs, CRs, List.map_eq_nil_iff] at hx
    subst hx
    exact ⟨c, e, [], [], Le.refl c, rfl, rfl, ok, rfl, rfl, rfl, h⟩
  | n + 1, c, e, ok, xs, fs, hx, hl, acc, h => by
    simp only [elemsK] at h
    have h1 := CRs.take sz hx
    rw [← List.map_take] at h1
    obtain ⟨c1, e1, y, d, gs, q1, q2, q3, q4, q5, q6, q7, q8, q9⟩ := data_ok ok h1 h
    have hg := crs_map (ρ := c.ρ) (β := c.β) (ι := c.ι) (xs := xs) q5
    have h2 := CRs.drop sz (q1.crs hx)
    rw [← List.map_drop] at h2
    obtain ⟨c2, e2, l, ys, p1, p2, p3, p4, p5, p6, p7, p8⟩ := elems_ok hsz n q4 h2 (by rw [List.length_drop, hl, Nat.add_mul]; omega) q9
    obtain ⟨t0, y0⟩ := d
    simp only at q7
    subst q7
    refine ⟨c2, e2, y :: l, y0 :: ys, q1.trans p1, p2.trans q2, p3.trans q3, p4, by simp [p5], ?_, ?_, p8⟩
    · simp only [List.map_cons, p6, p1.den q6]
    · rw [flat_cons]
      have := q8.append p7
      rwa [← hg, List.take_append_drop] at this
theorem bsl_ok (ok : Ok c e) {tyO : Nat → Option Ty} {n ty sz : Nat} {z : List F} {ρS : Operand → SV} {ρV : Operand → V} (hρ : ∀ x, c.vr (ρS x) (ρV x)) {parts : List (Nat × Operand)} {k : K1} {K : V → St → Prop} (hk : FollS Sp Post Go c k K)
    (h : TDen Sp Post Go (bslS U.lay tyO e n ty sz z ρS parts c.S k) c.ρ) :
    match sfillRow sz ρV parts (rep n (z.map .f)) with
    | some l => vfrzs prims l c.σ fun fs σ' => K (.c (.rs σ'.length ty n)) (σ' ++ [.arr true ty sz fs])
    | none => False := by
  unfold bslS at h
  split at h
  · exact h.elim
  · rename_i l hl
    obtain ⟨l', h1, h2⟩ := fillRow_ok hρ parts (rep_ok (ofFs_ok z) n) hl
    rw [h1]
    simp only
    split at h
    · rename_i xs S' t hfr hty
      obtain ⟨c2, gs, g1, rfl, g3, ok2, g5, g6⟩ := frz_ok l ok h2 hfr
      refine g6 _ ?_
      split at h
      · rename_i e1 e2 e3
        have e1 := beq_nat e1
        have e2 := beq_nat e2
        have e3 := ble_nat e3
        rw [wid_eq] at e1
        rw [← g3] at h
        obtain ⟨c3, e', l3, ys, p1, p2, p3, p4, p5, p6, p7, p8⟩ := elems_ok e1 n ok2 g5 e2 h
        have h5 := p8 _ rfl
        have hys : (l3.map fun y => (y.den c3.ρ).as t) = ys := by
          clear h5 p8 p7 p5
          induction l3 generalizing ys with
          | nil => cases ys with | nil => rfl | cons d ds => simp at p6
          | cons a l ih =>
            cases ys with
            | nil => simp at p6
            | cons d ds =>
              simp only [List.map_cons, List.cons.injEq] at p6 ⊢
              exact ⟨den_as p6.1, ih _ p6.2⟩
        simp only [id] at h5
        rw [hys, ← p2] at h5
        have okp := p4.push (⟨.list t, ys⟩ : Dyn U.B)
        have okq : Ok (c3.push ⟨.list t, ys⟩) (neIf n (e'.push (.list t)) e'.new) := by
          cases n with
          | zero => exact okp
          | succ n => exact okp.ne' (p4.new _) (by simp [lenOf, p5])
        obtain ⟨s1, s2, s3⟩ := add_arr okq (ty := ty) (sz := sz) (p4.new ⟨.list t, ys⟩) p7 e1 e3
        have h6 := hk _ _ _ _ (g1.trans (p1.trans ((Le.push c3 _).trans s1))) s2 s3 h5
        have e4 : (c3.push ⟨.list t, ys⟩).σ = c2.σ := p3
        have e5 : ((c3.push ⟨.list t, ys⟩).add ty (.arr true 0 ty sz t e'.new) (.arr true ty sz gs)).σ = c2.σ ++ [.arr true ty sz gs] := by rw [← e4]; rfl
        rw [p5, e4, e5] at h6
        exact h6
      · exact h.elim
    · exact h.elim
end Go.Dm.Sx
namespace Go.Dm.Sx
open Go.Dm
set_option linter.unusedVariables false
set_option linter.unusedSimpArgs false
variable {U : Uni}
def DV (U : Uni) (d : Dyn U.B) (v : V) : Prop :=
  match d.t with
  | .base _ => ∃ fs, v = .a (List.map C.f fs) ∧ FDs U fs (cells U d)
  | _ => ∃ f, v = .c (.f f) ∧ FD U f d
def ArgsR (U : Uni) : List In → List (Dyn U.B) → List V → Prop
  | [], ds, vs => ds = [] ∧ vs = []
  | .ty t :: r, ds, vs => ∃ d ds' v vs', ds = d :: ds' ∧ vs = v :: vs' ∧ d.t = t ∧ DV U d v ∧ ArgsR U r ds' vs'
  | .fnc f :: r, ds, vs => ∃ vs', vs = .c (.f (.fn f)) :: vs' ∧ ArgsR U r ds vs'
  | .clo f ts :: r, ds, vs => ∃ d1 ds' fs vs', ds = d1 ++ ds' ∧ vs = .c (.clo f (List.map C.f fs)) :: vs' ∧ d1.map Dyn.t = ts ∧ FDs U fs d1 ∧ ArgsR U r ds' vs'
  | .st b obs :: r, ds, vs => ∃ d ds', ds = d :: ds' ∧ d.t = .base b ∧ ArgsR U r ds' vs
  | .ptr o off :: r, ds, vs => ∃ vs', vs = .c (.ptr o off) :: vs' ∧ ArgsR U r ds vs'
  | .cloP f l :: r, ds, vs => ∃ vs', vs = .c (.clo f (l.map fun p => C.ptr p.1 p.2)) :: vs' ∧ ArgsR U r ds vs'
def ICR (U : Uni) (E : Nat → Nat) (d : Dyn U.B) : IC → Dm.C → Prop
  | .d j, c => ∃ f d', (cells U d)[j]? = some d' ∧ c = .f f ∧ FD U f d'
  | .row o j, c => ∃ d', (cells U d)[j]? = some d' ∧ c = .rs o (E o) (lenOf d')
  | .ptr o off, c => c = .ptr o off
  | .mp o, c => c = .mp o
def ICRs (U : Uni) (E : Nat → Nat) (d : Dyn U.B) : List IC → List Dm.C → Prop
  | [], l => l = []
  | x :: r, l => ∃ c l', l = c :: l' ∧ ICR U E d x c ∧ ICRs U E d r l'
def IOR (U : Uni) (E : Nat → Nat) (d : Dyn U.B) (o : Nat) : IO → Ob → Prop
  | .cells l, ob => ∃ l', ob = .cells l' ∧ ICRs U E d l l'
  | .row w ty sz t j, ob => ∃ d' fs, (cells U d)[j]? = some d' ∧ d'.t = .list t ∧ ob = .arr w (E o) sz fs ∧ FDs U fs (rowOf d') ∧ E o % 4294967296 = ty ∧ sz = width U t
def StR (U : Uni) (E : Nat → Nat) (d : Dyn U.B) (obs : List IO) (σ : St) : Prop := ∀ o io, obs[o]? = some io → ∃ ob, σ[o]? = some ob ∧ IOR U E d o io ob
def DVs (U : Uni) : List (Dyn U.B) → List V → Prop
  | [], vs => vs = []
  | d :: ds, vs => ∃ v vs', vs = v :: vs' ∧ DV U d v ∧ DVs U ds vs'
def oneV (l : List V) : V := match l with | [v] => v | l => .t l
def ResR (U : Uni) (ds : List (Dyn U.B)) (r : V) : Prop := ∃ vs, DVs U ds vs ∧ r = oneV vs
def FStill (P : Program) (s : FSpec U) : Prop :=
  ∀ (x : HL U (insTys s.sig.ins)) (vs : List V), ArgsR U s.sig.ins (HL.dyn _ x) vs → s.pre x → ∀ σ, CallAt P s.sig.f vs σ fun r σ' => ResR U (s.fn x) r ∧ σ' = σ
def FTurn (P : Program) (s : FSpec U) (obs : List IO) : Prop :=
  ∀ (x : HL U (insTys s.sig.ins)) (vs : List V) (E : Nat → Nat) (σ : St) (d : Dyn U.B) (ds : List (Dyn U.B)), ArgsR U s.sig.ins (HL.dyn _ x) vs → HL.dyn _ x = d :: ds → StR U E d obs σ → σ.length = obs.length → s.pre x →
    CallAt P s.sig.f vs σ fun r σ' => ∃ E' d' rs, s.fn x = d' :: rs ∧ ResR U rs r ∧ StR U E' d' obs σ'
def FGood (P : Program) (s : FSpec U) : Prop := match stOf s.sig.ins with | none => FStill P s | some p => FTurn P s p.2
theorem FGood.still {P : Program} {s : FSpec U} (h : FGood P s) (hs : stOf s.sig.ins = none) : FStill P s := by
  unfold FGood at h
  rw [hs] at h
  exact h
theorem dyn_of : ∀ {ts : List Ty} {ds : List (Dyn U.B)}, ds.map Dyn.t = ts → HL.dyn ts (HL.of ts ds) = ds
  | [], [], _ => rfl
  | [], d :: ds, h => by simp at h
  | t :: ts, [], h => by simp at h
  | t :: ts, d :: ds, h => by
    simp only [List.map_cons, List.cons.injEq] at h
    simp only [HL.of, HL.dyn]
    rw [dyn_of h.2, as_eta h.1]
theorem dyn_t : ∀ (ts : List Ty) (x : HL U ts), (HL.dyn ts x).map Dyn.t = ts
  | [], _ => rfl
  | t :: ts, (x, xs) => by simp [HL.dyn, dyn_t ts xs]
def snapS (S : SSt) (x : SC) : Option SC :=
  match x with
  | .rs o kk =>
    (match nth S o with
    | .some (.arr w k' ty sz t a) => (match Nat.beq kk k' with | true => .some (.d (.list t) a) | false => .none)
    | _ => .none)
  | x => (match keepC x with | true => .some x | false => .none)
def snapL (S : SSt) : List SC → Option (List SC)
  | [] => .some []
  | x :: r => (match snapS S x with | .some y => (match snapL S r with | .some l => .some (y :: l) | .none => .none) | .none => .none)
def cellArgK (lay : Nat → List Ty) (e : SE) (S : SSt) (t : Ty) (x : SC) (k : SE → Tm → Tr) : Tr :=
  match x with
  | .ptr o off =>
    (match t, off with
    | .ptr t', 0 =>
      (match nth S o with
      | .some (.cells l) =>
        (match snapL S l, Nat.ble l.length 90 with
        | .some l', true => dataK lay e t' l' fun e y => .toPtr t' y (k (e.push (.ptr t')) e.new)
        | _, _ => .fail)
      | _ => .fail)
    | _, _ => .fail)
  | x => (match snapS S x with | .some x' => tmK e t x' k | .none => .fail)
def capsK (lay : Nat → List Ty) (S : SSt) (k : SE → List Tm → Tr) : List Ty → List SC → SE → (List Tm → List Tm) → Tr
  | [], [], e, acc => k e (acc [])
  | t :: ts, x :: xs, e, acc => cellArgK lay e S t x fun e y => capsK lay S k ts xs e fun l => acc (y :: l)
  | _, _, _, _ => .fail
def argsK (lay : Nat → List Ty) (S : SSt) : List In → List SV → SE → (SE → List Tm → Tr) → Tr
  | [], [], e, k => k e []
  | .ty t :: ins, v :: vs, e, k =>
    (match t with
    | .base b =>
      (match v with
      | .a l => (match snapL S l, Nat.ble l.length 90 with | .some l', true => dataK lay e (.base b) l' fun e y => argsK lay S ins vs e fun e l => k e (y :: l) | _, _ => .fail)
      | _ => .fail)
    | t => (match v with | .c x => cellArgK lay e S t x fun e y => argsK lay S ins vs e fun e l => k e (y :: l) | _ => .fail))
  | .fnc f :: ins, .c (.fn g) :: vs, e, k => (match Nat.beq f g with | true => argsK lay S ins vs e k | false => .fail)
  | .clo f ts :: ins, .c (.clo g caps) :: vs, e, k =>
    (match Nat.beq f g, Nat.ble caps.length 90 with
    | true, true => capsK lay S (fun e l1 => argsK lay S ins vs e fun e l2 => k e (l1 ++ l2)) ts caps e id
    | _, _ => .fail)
  | _, _, _, _ => .fail
def dataV : SV → Bool
  | .c x => keepC x
  | .a l => l.all keepC
  | .t _ => false
def bareT : Ty → Bool
  | .int _ | .bool | .str | .flo | .cpl => true
  | _ => false
def frzV (v : SV) (S : SSt) : Option (SV × SSt) :=
  match v with
  | .c x => (match frzS [x] S with | .some ([y], S') => .some (.c y, S') | _ => .none)
  | .a l => (match frzS l S, Nat.ble l.length 90 with | .some (l', S'), true => .some (.a l', S') | _, _ => .none)
  | .t _ => .none
def frzVs : List SV → SSt → Option (List SV × SSt)
  | [], S => .some ([], S)
  | v :: r, S => (match frzV v S with | .some (y, S') => (match frzVs r S' with | .some (l, S'') => .some (y :: l, S'') | .none => .none) | .none => .none)
def resV (lay : Nat → List Ty) (e : SE) (i : Nat) (t : Ty) : SV :=
  match t with
  | .base b => .a (cellsFrom lay e i 0 (lay b).length)
  | t => .c (.d t (.at i))
def resVs (lay : Nat → List Ty) (e : SE) : Nat → List Ty → List SV
  | _, [] => []
  | i, t :: ts => resV lay e i t :: resVs lay e (i + 1) ts
def SE.pushes (e : SE) (ts : List Ty) : SE := { e with tys := e.tys ++ ts }
def oneOf (l : List SV) : SV := match l with | [v] => v | l => .t l
def callSpec (lay : Nat → List Ty) (sg : Sig) (i : Nat) (args : List SV) (e : SE) (S : SSt) (k : K1) : Tr :=
  match args.all dataV || sg.outs.all bareT with
  | true => argsK lay S sg.ins args e fun e l => .call i l (k (e.pushes sg.outs) (oneOf (resVs lay (e.pushes sg.outs) e.n sg.outs)) S)
  | false =>
    match frzVs args S with
    | .none => .fail
    | .some (args', S') => argsK lay S' sg.ins args' e fun e l => .call i l (k (e.pushes sg.outs) (oneOf (resVs lay (e.pushes sg.outs) e.n sg.outs)) S')
variable {c c' c'' : Cx U} {e : SE} {Sp : List (FSpec U)} {Post : List (Dyn U.B) → Prop} {Go : Nat → List (Dyn U.B) → Prop}
theorem keep_f {ρ : Rho U} {β : Nat → Nat} {ι : Inf} {x : SC} {y : Dm.C} (hk : keepC x = true) (h : CR ρ β ι x y) : ∃ f, y = .f f := by
  cases x <;> simp only [keepC] at hk <;> first
    | (cases hk; done)
    | (simp only [CR] at h; first | exact ⟨_, h⟩ | (obtain ⟨f, d, h1, _⟩ := h; exact ⟨f, h1⟩))
theorem snapC_rs (n : Nat) {σ : St} {o E m sz : Nat} {w : Bool} {gs : List F} (h : σ[o]? = some (.arr w E sz gs)) : snapC n σ (.rs o E m) = some (.f (.sl m gs)) := by
  simp only [snapC, nth_eq, h, Nat.beq_refl]
theorem snap_ok (ok : Ok c e) {x x' : SC} {y : Dm.C} (hx : c.cr x y) (h : snapS c.S x = some x') : ∃ f, (∀ n, snapC n c.σ y = some (.f f)) ∧ c.cr x' (.f f) ∧ (keepC x = true → y = .f f) := by
  unfold snapS at h
  split at h
  · rename_i o kk
    split at h
    · rename_i w k' ty sz t a ho
      split at h
      · rename_i e1
        cases h
        have e1 := beq_nat e1
        subst e1
        obtain ⟨ys, gs, q1, q2, q3, q4, q5, q6⟩ := arr_at ok ho
        simp only [Cx.cr, CR] at hx
        obtain ⟨n, kc, len, rfl, p1, p2, p3⟩ := hx
        have p1' : c.ι o = some (kc, len) := p1
        rw [q6] at p1'
        cases p1'
        have := p3 rfl
        subst this
        refine ⟨.sl ys.length gs, fun n => ?_, ?_, fun h => by cases h⟩
        · exact snapC_rs n q2
        · simp only [Cx.cr, CR]
          exact ⟨_, ⟨.list t, ys⟩, rfl, q1, rfl, by simp only [FD]; exact ⟨t, ys, rfl, rfl, q5⟩⟩
      · cases h
    · cases h
  · split at h
    · rename_i hk
      cases h
      obtain ⟨f, rfl⟩ := keep_f hk hx
      exact ⟨f, fun n => by cases n <;> simp only [snapC], hx, fun _ => rfl⟩
    · cases h
theorem snaps_ok (ok : Ok c e) : ∀ {xs xs' : List SC} {ys : List Dm.C}, c.crs xs ys → snapL c.S xs = some xs' → ∃ fs, (∀ n, xs.length < n → snapCs n c.σ ys = some (List.map C.f fs)) ∧ c.crs xs' (List.map C.f fs) ∧ (xs.all keepC = true → ys = List.map C.f fs)
  | [], xs', ys, hx, h => by
    simp only [snapL, Option.some.injEq] at h
    subst h
    simp only [Cx.crs, CRs] at hx
    subst hx
    exact ⟨[], fun n _ => by cases n <;> simp [snapCs], by simp only [Cx.crs, CRs, List.map_nil], fun _ => rfl⟩
  | x :: r, xs', ys, hx, h => by
    simp only [snapL] at h
    simp only [Cx.crs, CRs] at hx
    obtain ⟨y, ys', rfl, h1, h2⟩ := hx
    split at h
    · rename_i x' hx'
      split at h
      · rename_i l hl
        cases h
        obtain ⟨f, q1, q2, q3⟩ := snap_ok ok h1 hx'
        obtain ⟨fs, p1, p2, p3⟩ := snaps_ok ok h2 hl
        refine ⟨f :: fs, fun n hn => ?_, ?_, fun hk => ?_⟩
        · cases n with
          | zero => simp at hn
          | succ n =>
            simp only [snapCs, q1, p1 n (by simpa using hn)]
            rfl
        · simp only [Cx.crs, CRs, List.map_cons]
          exact ⟨_, _, rfl, q2, p2⟩
        · simp only [List.all_cons, Bool.and_eq_true] at hk
          rw [q3 hk.1, p3 hk.2]; rfl
      · cases h
    · cases h
theorem frz_map (fs : List F) : frz (List.map C.f fs) = some fs := by
  induction fs with
  | nil => rfl
  | cons f r ih => simp [frz, ih]
theorem cellArg_ok (ok : Ok c e) {t : Ty} {x : SC} {y : Dm.C} (hx : c.cr x y) {k : SE → Tm → Tr} (h : TDen Sp Post Go (cellArgK U.lay e c.S t x k) c.ρ) :
    ∃ c' e' a d f, Le c c' ∧ c'.S = c.S ∧ c'.σ = c.σ ∧ Ok c' e' ∧ (∀ n, 100 < n → snapC n c.σ y = some (.f f)) ∧ (keepC x = true → y = .f f) ∧ a.den? c'.ρ = some d ∧ d.t = t ∧ FD U f d ∧ TDen Sp Post Go (k e' a) c'.ρ := by
  unfold cellArgK at h
  split at h
  · rename_i o off
    split at h
    · rename_i t'
      split at h
      · rename_i l ho
        split at h
        · rename_i l' hl hb
          have hb := ble_nat hb
          obtain ⟨ob, h1, l0, rfl, h2⟩ := ok.get ho
          obtain ⟨fs, q1, q2, _⟩ := snaps_ok ok h2 hl
          obtain ⟨c1, e1, a, d, gs, p1, p2, p3, p4, p5, p6, p7, p8, p9⟩ := data_ok ok q2 h
          have := crs_map (ρ := c.ρ) (β := c.β) (ι := c.ι) (xs := l') p5
          subst this
          simp only [Cx.cr, CR] at hx
          subst hx
          obtain ⟨t0, v⟩ := d
          simp only at p7
          subst p7
          have h5 := p9 _ rfl
          rw [den_as p6] at h5
          refine ⟨c1.push ⟨.ptr t0, v⟩, _, _, ⟨.ptr t0, v⟩, .obj fs, p1.trans (Le.push c1 _), p2, p3, p4.push _, fun n hn => ?_, (by intro hk; cases hk), p4.new _, rfl, ?_, h5⟩
          · cases n with
            | zero => omega
            | succ n => simp only [snapC, nth_eq, h1, q1 n (by omega), frz_map]
          · simp only [FD]
            exact .inr ⟨t0, v, rfl, p8⟩
        · exact h.elim
      · exact h.elim
    · exact h.elim
  · split at h
    · rename_i x' hx'
      obtain ⟨f, q1, q2, q3⟩ := snap_ok ok hx hx'
      obtain ⟨c1, e1, a, d, f', p1, p2, p3, p4, p5, p6, p7, p8, p9⟩ := tm_ok ok q2 h
      cases p5
      exact ⟨c1, e1, a, d, f, p1, p2, p3, p4, fun n _ => q1 n, q3, p6, p7, p8, p9⟩
    · exact h.elim
theorem caps_ok {k : SE → List Tm → Tr} : ∀ {ts : List Ty} {xs : List SC} {c : Cx U} {e : SE} (ok : Ok c e) {ys : List Dm.C} (hx : c.crs xs ys) {acc : List Tm → List Tm} (h : TDen Sp Post Go (capsK U.lay c.S k ts xs e acc) c.ρ),
    ∃ c' e' l ds fs, Le c c' ∧ c'.S = c.S ∧ c'.σ = c.σ ∧ Ok c' e' ∧ (∀ n, 100 + xs.length < n → snapCs n c.σ ys = some (List.map C.f fs)) ∧ l.map (Tm.den? c'.ρ) = List.map Option.some ds ∧ ds.map Dyn.t = ts ∧ FDs U fs ds ∧ TDen Sp Post Go (k e' (acc l)) c'.ρ
  | [], [], c, e, ok, ys, hx, acc, h => by
    simp only [Cx.crs, CRs] at hx
    subst hx
    exact ⟨c, e, [], [], [], Le.refl c, rfl, rfl, ok, fun n _ => by cases n <;> simp [snapCs], rfl, rfl, rfl, h⟩
  | t :: ts, x :: xs, c, e, ok, ys, hx, acc, h => by
    simp only [Cx.crs, CRs] at hx
    obtain ⟨y, ys', rfl, h1, h2⟩ := hx
    obtain ⟨c1, e1, a, d, f, q1, q2, q3, q4, q5, _, q7, q8, q9, q10⟩ := cellArg_ok ok h1 h
    rw [← q2] at q10
    obtain ⟨c2, e2, l, ds, fs, p1, p2, p3, p4, p5, p6, p7, p8, p9⟩ := caps_ok q4 (q1.crs h2) q10
    refine ⟨c2, e2, a :: l, d :: ds, f :: fs, q1.trans p1, p2.trans q2, p3.trans q3, p4, fun n hn => ?_, ?_, ?_, ⟨d, ds, rfl, q9, p8⟩, p9⟩
    · cases n with
      | zero => omega
      | succ n =>
        rw [q3] at p5
        simp only [List.length_cons] at hn
        simp only [snapCs, q5 n (by omega), p5 n (by omega)]
        rfl
    · simp only [List.map_cons, p6, p1.den q7]
    · simp only [List.map_cons, p7, q8]
  | [], x :: xs, c, e, ok, ys, hx, acc, h => h.elim
  | t :: ts, [], c, e, ok, ys, hx, acc, h => h.elim
end Go.Dm.Sx
namespace Go.Dm.Sx
open Go.Dm
set_option linter.unusedVariables false
set_option linter.unusedSimpArgs false
variable {U : Uni} {c c' c'' : Cx U} {e : SE} {Sp : List (FSpec U)} {Post : List (Dyn U.B) → Prop} {Go : Nat → List (Dyn U.B) → Prop} {P : Program}
theorem frees_map (fs : List F) : C.frees (List.map C.f fs) = true := by
  induction fs with
  | nil => rfl
  | cons f r ih => simp [C.frees, C.free, ih]
theorem den_map {ρ : Rho U} : ∀ {l : List Tm} {ds : List (Dyn U.B)}, l.map (Tm.den? ρ) = List.map Option.some ds → (l.map fun y => y.den ρ) = ds
  | [], [], _ => rfl
  | [], d :: ds, h => by simp at h
  | a :: l, [], h => by simp at h
  | a :: l, d :: ds, h => by
    simp only [List.map_cons, List.cons.injEq] at h ⊢
    exact ⟨Tm.den_of h.1, den_map h.2⟩
def Cx.vrs (c : Cx U) : List SV → List V → Prop := VRs c.ρ c.β c.ι
theorem Le.vrs (h : Le c c') {x : List SV} {v : List V} (hv : c.vrs x v) : c'.vrs x v := VRs.later h hv
theorem den_le (h : Le c c') {l : List Tm} {ds : List (Dyn U.B)} (hl : l.map (Tm.den? c.ρ) = List.map Option.some ds) : l.map (Tm.den? c'.ρ) = List.map Option.some ds := by
  induction l generalizing ds with
  | nil => cases ds with | nil => rfl | cons d ds => simp at hl
  | cons a l ih =>
    cases ds with
    | nil => simp at hl
    | cons d ds =>
      simp only [List.map_cons, List.cons.injEq] at hl ⊢
      exact ⟨h.den hl.1, ih hl.2⟩
theorem args_ok : ∀ (ins : List In) {args : List SV} {c : Cx U} {e : SE} (ok : Ok c e) {vs : List V} (hv : c.vrs args vs) {k : SE → List Tm → Tr} (h : TDen Sp Post Go (argsK U.lay c.S ins args e k) c.ρ),
    ∃ c' e' l ds vs', Le c c' ∧ c'.S = c.S ∧ c'.σ = c.σ ∧ Ok c' e' ∧ snapVs c.σ vs = some vs' ∧ (args.all dataV = true → vs' = vs) ∧ V.frees vs' = true ∧ l.map (Tm.den? c'.ρ) = List.map Option.some ds ∧ ds.map Dyn.t = insTys ins ∧ ArgsR U ins ds vs' ∧ TDen Sp Post Go (k e' l) c'.ρ
  | [], args, c, e, ok, vs, hv, k, h => by
    cases args with
    | nil =>
      simp only [Cx.vrs, VRs] at hv
      subst hv
      exact ⟨c, e, [], [], [], Le.refl c, rfl, rfl, ok, rfl, fun _ => rfl, rfl, rfl, rfl, ⟨rfl, rfl⟩, h⟩
    | cons v vs => exact h.elim
  | .ty t :: ins, args, c, e, ok, vs, hv, k, h => by
    cases args with
    | nil => exact h.elim
    | cons a args =>
      simp only [Cx.vrs, VRs] at hv
      obtain ⟨v, vr, rfl, h1, h2⟩ := hv
      simp only [argsK] at h
      split at h
      · rename_i b
        split at h
        · rename_i l
          split at h
          · rename_i l' hl hb
            have hb := ble_nat hb
            simp only [VR] at h1
            obtain ⟨ys, rfl, h1⟩ := h1
            obtain ⟨fs, q1, q2, q3⟩ := snaps_ok ok h1 hl
            obtain ⟨c1, e1, y, d, gs, p1, p2, p3, p4, p5, p6, p7, p8, p9⟩ := data_ok ok q2 h
            have := crs_map (ρ := c.ρ) (β := c.β) (ι := c.ι) (xs := l') p5
            subst this
            rw [← p2] at p9
            obtain ⟨c2, e2, tl, ds, vs', r1, r2, r3, r4, r5, r6, r7, r8, r9, r10, r11⟩ := args_ok ins p4 (p1.vrs h2) p9
            refine ⟨c2, e2, y :: tl, d :: ds, .a (List.map C.f fs) :: vs', p1.trans r1, r2.trans p2, r3.trans p3, r4, ?_, fun hk => ?_, ?_, ?_, ?_, ?_, r11⟩
            · rw [p3] at r5
              simp only [snapVs, snapV, q1 1000 (by omega), r5]
            · simp only [List.all_cons, Bool.and_eq_true, dataV] at hk
              rw [r6 hk.2, q3 hk.1]
            · simp only [V.frees, V.free, frees_map, r7]
            · simp only [List.map_cons, r8, r1.den p6]
            · simp only [List.map_cons, r9, p7, insTys, In.tys, List.cons_append, List.nil_append]
            · refine ⟨d, ds, _, vs', rfl, rfl, p7, ?_, r10⟩
              unfold DV
              rw [p7]
              exact ⟨fs, rfl, p8⟩
          · exact h.elim
        · exact h.elim
      · rename_i hnb
        split at h
        · rename_i x
          by_cases hun : x = .un
          · subst hun
            exact h.elim
          obtain ⟨y0, rfl, h1'⟩ := V_c hun h1
          obtain ⟨c1, e1, y, d, f, p1, p2, p3, p4, p5, p5', p6, p7, p8, p9⟩ := cellArg_ok ok h1' h
          rw [← p2] at p9
          obtain ⟨c2, e2, tl, ds, vs', r1, r2, r3, r4, r5, r6, r7, r8, r9, r10, r11⟩ := args_ok ins p4 (p1.vrs h2) p9
          refine ⟨c2, e2, y :: tl, d :: ds, .c (.f f) :: vs', p1.trans r1, r2.trans p2, r3.trans p3, r4, ?_, fun hk => ?_, ?_, ?_, ?_, ?_, r11⟩
          · rw [p3] at r5
            simp only [snapVs, snapV, p5 1000 (by omega), r5]
          · simp only [List.all_cons, Bool.and_eq_true, dataV] at hk
            rw [r6 hk.2, p5' hk.1]
          · simp only [V.frees, V.free, C.free, r7]
          · simp only [List.map_cons, r8, r1.den p6]
          · simp only [List.map_cons, r9, p7, insTys, In.tys, List.cons_append, List.nil_append]
          · refine ⟨d, ds, _, vs', rfl, rfl, p7, ?_, r10⟩
            unfold DV
            rw [p7]
            cases t <;> first | exact ⟨f, rfl, p8⟩ | exact (hnb _ rfl).elim
        · exact h.elim
  | .fnc f :: ins, args, c, e, ok, vs, hv, k, h => by
    cases args with
    | nil => exact h.elim
    | cons a args =>
      simp only [Cx.vrs, VRs] at hv
      obtain ⟨v, vr, rfl, h1, h2⟩ := hv
      cases a with
      | a l => exact h.elim
      | t l => exact h.elim
      | c x =>
        cases x with
        | fn g =>
          simp only [argsK] at h
          split at h
          · rename_i hb
            have := beq_nat hb
            subst this
            obtain ⟨y0, rfl, h0⟩ := V_c (by simp) h1
            simp only [CR] at h0
            subst h0
            obtain ⟨c2, e2, tl, ds, vs', r1, r2, r3, r4, r5, r6, r7, r8, r9, r10, r11⟩ := args_ok ins ok h2 h
            refine ⟨c2, e2, tl, ds, .c (.f (.fn f)) :: vs', r1, r2, r3, r4, ?_, fun hk => ?_, ?_, r8, ?_, ⟨vs', rfl, r10⟩, r11⟩
            · simp only [snapVs, snapV, snapC, r5]
            · simp only [List.all_cons, Bool.and_eq_true, dataV] at hk
              rw [r6 hk.2]
            · simp only [V.frees, V.free, C.free, r7]
            · simp only [r9, insTys, In.tys, List.nil_append]
          · exact h.elim
        | _ => exact h.elim
  | .clo f ts :: ins, args, c, e, ok, vs, hv, k, h => by
    cases args with
    | nil => exact h.elim
    | cons a args =>
      simp only [Cx.vrs, VRs] at hv
      obtain ⟨v, vr, rfl, h1, h2⟩ := hv
      cases a with
      | a l => exact h.elim
      | t l => exact h.elim
      | c x =>
        cases x with
        | clo g caps =>
          simp only [argsK] at h
          split at h
          · rename_i hb hb2
            have := beq_nat hb
            subst this
            have hb2 := ble_nat hb2
            obtain ⟨y0, rfl, h0⟩ := V_c (by simp) h1
            simp only [CR] at h0
            obtain ⟨l0, rfl, h0⟩ := h0
            obtain ⟨c1, e1, l1, d1, fs, p1, p2, p3, p4, p5, p6, p7, p8, p9⟩ := caps_ok ok h0 h
            simp only [id] at p9
            rw [← p2] at p9
            obtain ⟨c2, e2, tl, ds, vs', r1, r2, r3, r4, r5, r6, r7, r8, r9, r10, r11⟩ := args_ok ins p4 (p1.vrs h2) p9
            refine ⟨c2, e2, l1 ++ tl, d1 ++ ds, .c (.clo f (List.map C.f fs)) :: vs', p1.trans r1, r2.trans p2, r3.trans p3, r4, ?_, fun hk => ?_, ?_, ?_, ?_, ⟨d1, ds, fs, vs', rfl, rfl, p7, p8, r10⟩, r11⟩
            · rw [p3] at r5
              have := p5 999 (by omega)
              simp only [snapVs, snapV, snapC, this, r5]
            · simp only [List.all_cons, Bool.and_eq_true, dataV, keepC] at hk
              cases hk.1
            · simp only [V.frees, V.free, C.free, frees_map, r7]
            · rw [List.map_append, List.map_append, r8, den_le r1 p6]
            · rw [List.map_append, r9, p7]
              rfl
          · exact h.elim
        | _ => exact h.elim
  | .st b obs :: ins, args, c, e, ok, vs, hv, k, h => by cases args <;> exact h.elim
  | .ptr o off :: ins, args, c, e, ok, vs, hv, k, h => by cases args <;> exact h.elim
  | .cloP f l :: ins, args, c, e, ok, vs, hv, k, h => by cases args <;> exact h.elim
theorem call_lookP {f : FuncId} {args args' : List V} {σ : St} (hs : snapVs σ args = some args') {k : V → Prop} (h : CallAt P f args' [] fun r _ => k r) (hb : ∀ r, k r → r.bare = true) : CallAt P f args σ fun r σ' => k r ∧ σ' = σ := by
  intro g w vs hr hv
  have hend : ∀ v w', CallEnd (ghost0 w) w [] (fun r _ => k r) v w' → CallEnd g w σ (fun r σ' => k r ∧ σ' = σ) v w' := by
    rintro v w' ⟨r, σ1, g1, h1, h2, h3, h4⟩
    obtain ⟨t1, t2⟩ := turn_of_below hr (below_of_turn h3)
    exact ⟨r, σ, g, ⟨h1, rfl⟩, t1, t2, bareV (hb r h1) h4⟩
  rcases h (ghost0 w) w vs (rep0 w) (snapVs_ok hr hs hv) with ⟨v, w', h1, h2⟩ | ⟨h1, h2⟩
  · exact .inl ⟨v, w', h1, hend v w' h2⟩
  · exact .inr ⟨h1, h2.mono fun e w' ⟨v, h3, h4⟩ => ⟨v, h3, hend v w' h4⟩⟩
theorem call_ghost {f : FuncId} {args l : List V} {σ σ' : St} (hst : ∀ g w vs, Rep g w σ → VReps g w σ args vs → ∃ g1, Rep g1 w σ' ∧ Turn g w σ g1 w σ' ∧ VReps g1 w σ' l vs) {k : V → St → Prop} (h : CallAt P f l σ' k) : CallAt P f args σ k := by
  intro g w vs hr hv
  obtain ⟨g1, r1, t1, v1⟩ := hst g w vs hr hv
  have hend : ∀ v w', CallEnd g1 w σ' k v w' → CallEnd g w σ k v w' := fun v w' ⟨r, σ2, g2, h1, h2, h3, h4⟩ => ⟨r, σ2, g2, h1, h2, t1.trans h3, h4⟩
  rcases h g1 w vs r1 v1 with ⟨v, w', h1, h2⟩ | ⟨h1, h2⟩
  · exact .inl ⟨v, w', h1, hend v w' h2⟩
  · exact .inr ⟨h1, h2.mono fun e w' ⟨v, h3, h4⟩ => ⟨v, h3, hend v w' h4⟩⟩
theorem FD.bare {f : F} {d : Dyn U.B} (hb : bareT d.t = true) (h : FD U f d) : f.bare = true := by
  cases f <;> simp only [FD] at h <;> first
    | rfl
    | (exfalso; rcases h with h | h <;> (obtain ⟨t, x, rfl, _⟩ := h; cases hb; done))
    | (exfalso; obtain ⟨t, xs, rfl, _⟩ := h; cases hb; done)
theorem DV.bare {d : Dyn U.B} {v : V} (hb : bareT d.t = true) (h : DV U d v) : v.bare = true := by
  unfold DV at h
  split at h
  · rename_i n hd
    rw [hd] at hb; cases hb
  · obtain ⟨f, rfl, h⟩ := h
    exact h.bare hb
theorem DVs.bare : ∀ {ds : List (Dyn U.B)} {vs : List V}, (∀ d ∈ ds, bareT d.t = true) → DVs U ds vs → V.bares vs = true
  | [], vs, _, h => by simp only [DVs] at h; subst h; rfl
  | d :: ds, vs, hb, h => by
    obtain ⟨v, vr, rfl, h1, h2⟩ := h
    simp only [V.bares, h1.bare (hb d (List.mem_cons_self ..))]
    exact DVs.bare (fun d' hd => hb d' (List.mem_cons_of_mem _ hd)) h2
theorem ResR.bare {ds : List (Dyn U.B)} {r : V} (hb : ∀ d ∈ ds, bareT d.t = true) (h : ResR U ds r) : r.bare = true := by
  obtain ⟨vs, h1, rfl⟩ := h
  have := h1.bare hb
  unfold oneV
  split
  · rename_i v
    simp only [V.bares] at this
    split at this
    · assumption
    · cases this
  · exact this
theorem later_pushes (ok : Ok c e) (ds : List (Dyn U.B)) : Le c { c with ρ := c.ρ ++ ds } ∧ Ok { c with ρ := c.ρ ++ ds } (e.pushes (ds.map Dyn.t)) := by
  have hle : Le c { c with ρ := c.ρ ++ ds } := later_push c.ρ c.β c.S ds
  refine ⟨hle, ⟨by simp [SE.pushes, ok.tys], fun p hp => Tm.den_app (ok.kn p hp) _, fun x hx => ?_, ok.len, fun o so ho => ?_⟩⟩
  · obtain ⟨d', h1, h2⟩ := ok.ne x hx
    exact ⟨d', Tm.den_app h1 _, h2⟩
  · obtain ⟨ob, h1, h2⟩ := ok.st o so ho
    exact ⟨ob, h1, h2.later hle rfl⟩
theorem resV_ok (ok : Ok c e) {i : Nat} {d : Dyn U.B} (hi : c.ρ[i]? = some d) {v : V} (h : DV U d v) : c.vr (resV U.lay e i d.t) v := by
  obtain ⟨t, x⟩ := d
  cases t with
  | base b =>
    obtain ⟨fs, rfl, h⟩ := h
    simp only [resV, Cx.vr, VR]
    refine ⟨_, rfl, cellsFrom_ok ok hi _ 0 (by rw [h.len, cells_len]; rfl) fun m hm => ?_⟩
    have h1 : (cells U ⟨.base b, x⟩)[m]? = some ((cells U ⟨.base b, x⟩)[m]'(by rw [cells_len]; exact hm)) := List.getElem?_eq_getElem _
    obtain ⟨f, h2, h3⟩ := h.get h1
    exact ⟨_, f, by rw [Nat.zero_add]; exact h1, h2, h3⟩
  | _ =>
    obtain ⟨f, rfl, h⟩ := h
    exact vd_of (a := .at i) hi rfl h
theorem resVs_ok (ok : Ok c e) : ∀ {ds : List (Dyn U.B)} {i : Nat} {vs : List V}, (∀ j d, ds[j]? = some d → c.ρ[i + j]? = some d) → DVs U ds vs → c.vrs (resVs U.lay e i (ds.map Dyn.t)) vs
  | [], i, vs, _, h => by simp only [DVs] at h; subst h; simp only [resVs, List.map_nil, Cx.vrs, VRs]
  | d :: ds, i, vs, hi, h => by
    obtain ⟨v, vr, rfl, h1, h2⟩ := h
    simp only [resVs, List.map_cons, Cx.vrs, VRs]
    refine ⟨v, vr, rfl, resV_ok ok (by simpa using hi 0 d rfl) h1, resVs_ok ok (fun j d' hj => ?_) h2⟩
    have := hi (j + 1) d' (by simpa using hj)
    rwa [show i + (j + 1) = i + 1 + j from by omega] at this
theorem oneOf_ok {l : List SV} {vs : List V} (h : c.vrs l vs) : c.vr (oneOf l) (oneV vs) := by
  match l, vs, h with
  | [], vs, h => simp only [Cx.vrs, VRs] at h; subst h; simp only [oneOf, Cx.vr, VR]; exact ⟨[], rfl, by simp only [VRs]⟩
  | [x], vs, h =>
    simp only [Cx.vrs, VRs] at h
    obtain ⟨v, vr, rfl, h1, rfl⟩ := h
    exact h1
  | x :: y :: r, vs, h =>
    have h0 := h
    simp only [Cx.vrs, VRs] at h
    obtain ⟨v, vr, rfl, h1, u, vr', rfl, h2, h3⟩ := h
    simp only [oneOf, Cx.vr, VR]
    exact ⟨_, rfl, h0⟩
theorem spec_end (ok : Ok c e) {outs : List Ty} {ds : List (Dyn U.B)} (hd : ds.map Dyn.t = outs) {k : K1} {K : V → St → Prop} (hk : FollS Sp Post Go c k K) (h : TDen Sp Post Go (k (e.pushes outs) (oneOf (resVs U.lay (e.pushes outs) e.n outs)) c.S) (c.ρ ++ ds)) {r : V} (hr : ResR U ds r) : K r c.σ := by
  subst hd
  obtain ⟨g1, g2⟩ := later_pushes ok ds
  obtain ⟨vs, h1, rfl⟩ := hr
  refine hk { c with ρ := c.ρ ++ ds } _ _ _ g1 g2 (oneOf_ok (resVs_ok g2 (fun j d hj => ?_) h1)) h
  show (c.ρ ++ ds)[e.n + j]? = some d
  rw [ok.n, List.getElem?_append_right (by omega), Nat.add_sub_cancel_left]
  exact hj
theorem hard_of : ∀ {ys : List Dm.C} {σ : St} {K : List F → St → Prop}, (∀ y ∈ ys, (∃ f, y = .f f) ∨ ∃ o e n, y = .rs o e n) → vfrzs prims ys σ K → ∃ fs σ', K fs σ' ∧ ∀ n, ys.length < n → hardCs n ys σ = some (List.map C.f fs, σ')
  | [], σ, K, _, h => ⟨[], σ, h, fun n _ => by cases n <;> simp [hardCs]⟩
  | y :: r, σ, K, hy, h => by
    rcases hy y (List.mem_cons_self ..) with ⟨f, rfl⟩ | ⟨o, ep, n, rfl⟩
    · simp only [vfrzs] at h
      obtain ⟨fs, σ', h1, h2⟩ := hard_of (fun y hy' => hy y (List.mem_cons_of_mem _ hy')) h
      refine ⟨f :: fs, σ', h1, fun n hn => ?_⟩
      cases n with
      | zero => simp at hn
      | succ n => simp only [hardCs, hardC, h2 n (by simpa using hn), List.map_cons]
    · simp only [vfrzs] at h
      split at h
      · rename_i w e0 sz l ho
        obtain ⟨he, h⟩ := h
        have he : ep = e0 := he
        subst he
        obtain ⟨fs, σ', h1, h2⟩ := hard_of (fun y hy' => hy y (List.mem_cons_of_mem _ hy')) h
        refine ⟨.sl n l :: fs, σ', h1, fun m hn => ?_⟩
        cases m with
        | zero => simp at hn
        | succ m =>
          have h3 := h2 m (by simpa using hn)
          simp only [hardCs, hardC, nth_eq, ho, Nat.beq_refl, put_eq, h3, List.map_cons]
      · exact h.elim
theorem frz_kinds : ∀ (xs : List SC) {S S' : SSt} {ys : List SC} {c : Cx U} {zs : List Dm.C}, c.crs xs zs → frzS xs S = some (ys, S') → (∀ y ∈ zs, (∃ f, y = .f f) ∨ ∃ o e n, y = .rs o e n) ∧ ys.all keepC = true
  | [], S, S', ys, c, zs, hx, h => by
    simp only [Cx.crs, CRs] at hx
    subst hx
    simp only [frzS, Option.some.injEq, Prod.mk.injEq] at h
    rw [← h.1]
    exact ⟨fun y hy => (by cases hy), rfl⟩
  | x :: r, S, S', ys, c, zs, hx, h => by
    simp only [Cx.crs, CRs] at hx
    obtain ⟨z, zr, rfl, h1, h2⟩ := hx
    simp only [frzS] at h
    split at h
    · split at h
      · split at h
        · split at h
          · rename_i l S2 hr
            cases h
            obtain ⟨q1, q2⟩ := frz_kinds (c := c) r h2 hr
            simp only [CR] at h1
            obtain ⟨n, kc, len, rfl, _⟩ := h1
            refine ⟨fun y hy => ?_, by simp [keepC, q2]⟩
            rcases List.mem_cons.1 hy with rfl | hy
            · exact .inr ⟨_, _, _, rfl⟩
            · exact q1 y hy
          · cases h
        · cases h
      · cases h
    · split at h
      · rename_i hk
        split at h
        · rename_i l S2 hr
          cases h
          obtain ⟨q1, q2⟩ := frz_kinds (c := c) r h2 hr
          obtain ⟨f, rfl⟩ := keep_f hk h1
          refine ⟨fun y hy => ?_, by simp [hk, q2]⟩
          rcases List.mem_cons.1 hy with rfl | hy
          · exact .inl ⟨f, rfl⟩
          · exact q1 y hy
        · cases h
      · cases h
theorem frzV_ok (ok : Ok c e) {x x' : SV} {v : V} (hx : c.vr x v) {S' : SSt} (h : frzV x c.S = some (x', S')) : ∃ c' v', Le c c' ∧ c'.S = S' ∧ c'.ρ = c.ρ ∧ Ok c' e ∧ c'.vr x' v' ∧ hardV v c.σ = some (v', c'.σ) ∧ dataV x' = true := by
  unfold frzV at h
  split at h
  · rename_i x
    split at h
    · rename_i y S2 hf
      cases h
      by_cases hun : x = .un
      · subst hun
        simp [frzS, keepC] at hf
      obtain ⟨y0, rfl, h1⟩ := V_c hun hx
      have hcs : c.crs [x] [y0] := by simp only [Cx.crs, CRs]; exact ⟨y0, [], rfl, h1, rfl⟩
      obtain ⟨c2, fs, r1, r2, r3, r4, r5, r6⟩ := frz_ok [x] ok hcs hf
      obtain ⟨q1, q2⟩ := frz_kinds (c := c) [x] hcs hf
      obtain ⟨fs', σ', ⟨rfl, rfl⟩, h3⟩ := hard_of (K := fun l s => l = fs ∧ s = c2.σ) q1 (r6 _ ⟨rfl, rfl⟩)
      have h4 := h3 1000 (by simp)
      have hl := r5.len
      match fs', hl, r5, h4 with
      | [f], hl, r5, h4 =>
        simp only [Cx.crs, CRs, List.map_cons, List.map_nil, List.cons.injEq] at r5
        obtain ⟨_, _, ⟨rfl, rfl⟩, r5, _⟩ := r5
        refine ⟨c2, .c (.f f), r1, r2, r3, r4, VR.c r5, ?_, by simpa [dataV] using q2⟩
        rcases q1 y0 (by simp) with ⟨g, rfl⟩ | ⟨o, ep, n, rfl⟩
        · simp only [hardCs, hardC, List.map_cons, List.map_nil, Option.some.injEq, Prod.mk.injEq, List.cons.injEq, and_true] at h4
          simp only [hardV, hardC, h4.1, h4.2]
        · have h5 : hardC 999 (.rs o ep n) c.σ = hardC 1000 (.rs o ep n) c.σ := by simp only [hardC]
          simp only [hardCs, h5] at h4
          simp only [hardV]
          generalize hardC 1000 (.rs o ep n) c.σ = z at h4
          cases z with
          | none => cases h4
          | some p =>
            obtain ⟨y', σ2⟩ := p
            simp only [Option.some.injEq, Prod.mk.injEq, List.map_cons, List.map_nil, List.cons.injEq, and_true] at h4
            simp only [h4.1, h4.2]
    · cases h
  · rename_i l
    split at h
    · rename_i l' S2 hf hb
      cases h
      have hb := ble_nat hb
      simp only [Cx.vr, VR] at hx
      obtain ⟨ys, rfl, h1⟩ := hx
      obtain ⟨c2, fs, r1, r2, r3, r4, r5, r6⟩ := frz_ok l ok h1 hf
      obtain ⟨q1, q2⟩ := frz_kinds (c := c) l h1 hf
      obtain ⟨fs', σ', ⟨rfl, rfl⟩, h3⟩ := hard_of (K := fun l s => l = fs ∧ s = c2.σ) q1 (r6 _ ⟨rfl, rfl⟩)
      have := h1.len
      refine ⟨c2, .a (List.map C.f fs'), r1, r2, r3, r4, by simp only [Cx.vr, VR]; exact ⟨_, rfl, r5⟩, ?_, q2⟩
      simp only [hardV, h3 1000 (by omega)]
    · cases h
  · cases h
theorem frzVs_ok : ∀ (xs : List SV) {c : Cx U} {e : SE} (ok : Ok c e) {xs' : List SV} {vs : List V} (hx : c.vrs xs vs) {S' : SSt} (h : frzVs xs c.S = some (xs', S')), ∃ c' vs', Le c c' ∧ c'.S = S' ∧ c'.ρ = c.ρ ∧ Ok c' e ∧ c'.vrs xs' vs' ∧ hardVs vs c.σ = some (vs', c'.σ) ∧ xs'.all dataV = true
  | [], c, e, ok, xs', vs, hx, S', h => by
    simp only [frzVs, Option.some.injEq, Prod.mk.injEq] at h
    obtain ⟨rfl, rfl⟩ := h
    simp only [Cx.vrs, VRs] at hx
    subst hx
    exact ⟨c, [], Le.refl c, rfl, rfl, ok, by simp only [Cx.vrs, VRs], rfl, rfl⟩
  | x :: r, c, e, ok, xs', vs, hx, S', h => by
    simp only [Cx.vrs, VRs] at hx
    obtain ⟨v, vr, rfl, h1, h2⟩ := hx
    simp only [frzVs] at h
    split at h
    · rename_i y S2 hy
      split at h
      · rename_i l S3 hl
        cases h
        obtain ⟨c1, v1, q1, q2, q3, q4, q5, q6, q7⟩ := frzV_ok ok h1 hy
        subst q2
        obtain ⟨c2, vs2, p1, p2, p3, p4, p5, p6, p7⟩ := frzVs_ok r q4 (q1.vrs h2) hl
        refine ⟨c2, v1 :: vs2, q1.trans p1, p2, p3.trans q3, p4, ?_, ?_, ?_⟩
        · simp only [Cx.vrs, VRs]
          exact ⟨v1, vs2, rfl, p1.vr q5, p5⟩
        · simp only [hardVs, q6, p6]
        · simp only [List.all_cons, q7, p7, Bool.and_self]
      · cases h
    · cases h
theorem call_ok (ok : Ok c e) {s : FSpec U} (hs : FStill P s) {i : Nat} (hi : Sp[i]? = some s) {args : List SV} {vs : List V} (hv : c.vrs args vs) {k : K1} {K : V → St → Prop} (hk : FollS Sp Post Go c k K)
    (h : TDen Sp Post Go (callSpec U.lay s.sig i args e c.S k) c.ρ) : CallAt P s.sig.f vs c.σ K := by
  have main : ∀ {c : Cx U} {e : SE} {args : List SV} {vs : List V}, Ok c e → c.vrs args vs → FollS Sp Post Go c k K → (args.all dataV = true ∨ s.sig.outs.all bareT = true) →
      TDen Sp Post Go (argsK U.lay c.S s.sig.ins args e fun e l => .call i l (k (e.pushes s.sig.outs) (oneOf (resVs U.lay (e.pushes s.sig.outs) e.n s.sig.outs)) c.S)) c.ρ → CallAt P s.sig.f vs c.σ K := by
    intro c e args vs ok hv hk hor h
    obtain ⟨c1, e1, l, ds, vs', q1, q2, q3, q4, q5, q6, q7, q8, q9, q10, q11⟩ := args_ok s.sig.ins ok hv h
    simp only [TDen, hi] at q11
    obtain ⟨p1, p2⟩ := q11
    rw [den_map q8] at p1 p2
    have hx : HL.dyn _ (HL.of (insTys s.sig.ins) ds) = ds := dyn_of q9
    have p3 := p2
    have hg := hs (HL.of _ ds) vs' (by rw [hx]; exact q10) p1
    have fin : ∀ {r : V}, ResR U (s.fn (HL.of _ ds)) r → K r c.σ := fun {r} hr => by
      rw [← q2] at p3
      rw [← q3]
      exact spec_end q4 (s.ty _) (hk.later q1) p3 hr
    by_cases hd : args.all dataV = true
    · have := q6 hd
      subst this
      exact (hg c.σ).mono fun r σ' ⟨h1, h2⟩ => by subst h2; exact fin h1
    · have hb := hor.resolve_left hd
      refine (call_lookP q5 ((hg []).mono fun r σ' h => h.1) fun r hr => hr.bare fun d hd => ?_).mono fun r σ' ⟨h1, h2⟩ => by subst h2; exact fin h1
      have : d.t ∈ (s.fn (HL.of _ ds)).map Dyn.t := List.mem_map_of_mem hd
      rw [s.ty] at this
      exact List.all_eq_true.1 hb _ this
  unfold callSpec at h
  split at h
  · rename_i hor
    rw [Bool.or_eq_true] at hor
    exact main ok hv hk hor h
  · split at h
    · exact h.elim
    · rename_i args' S' hf
      obtain ⟨c2, vs2, p1, p2, p3, p4, p5, p6, p7⟩ := frzVs_ok args ok hv hf
      subst p2
      rw [← p3] at h
      exact call_ghost (fun g w us hr hu => hardVs_ok hr p6 hu) (main p4 p5 (hk.later p1) (.inl p7) h)
end Go.Dm.Sx
namespace Go.Dm.Sx
open Go.Dm
set_option linter.unusedVariables false
set_option linter.unusedSimpArgs false
structure SEnv where
  tb : Tab
  lay : Nat → List Ty
  tyO : Nat → Option Ty
  sigs : List Sig
  bodies : Nat → Option YFun
  same : Nat → Bool
def capS : SV → SC
  | .c x => x
  | _ => .un
def rowK (x : SV) (S : SSt) (k : Ty → Tm → Tr) : Tr :=
  match x with
  | .c (.d (.list t) l) => k t l
  | .c (.rs o kk) => (match nth S o with | .some (.arr _ k' _ _ t l) => (match Nat.beq kk k' with | true => k t l | false => .fail) | _ => .fail)
  | _ => .fail
def negS (op : BinOp) (b : Bool) : Option Bool :=
  match op with
  | .eql => .some b
  | .neq => .some (!b)
  | _ => .none
def convS (X : SEnv) (e : SE) (s d : TypeId) (x : SV) (S : SSt) (k : K1) : Tr :=
  match (X.tb s).d, (X.tb d).d with
  | .int _, .int j =>
    (match x with
    | .c (.d (.int _) a) => (match a with | .int _ n => k e (vi j (.int j (j.wrap n))) S | a => .wrap j a (k (e.push (.int j)) (vi j e.new) S))
    | _ => .fail)
  | .int _, .flo => (match x with | .c (.d (.int _) a) => .fofi a (k (e.push .flo) (.c (.d .flo e.new)) S) | _ => .fail)
  | .flo, .int .i64 => (match x with | .c (.d .flo a) => .foi a (k (e.push (.int .i64)) (vi .i64 e.new) S) | _ => .fail)
  | .str, .str => (match x with | .c (.d .str a) => k e (.c (.d .str a)) S | _ => .fail)
  | .slice el, .str =>
    (match (X.tb el).d, x with
    | .int .u8, .c .nil => k e (.c (.d .str (.str []))) S
    | .int .u8, x => rowK x S fun t l => (match t with | .int .u8 => .sof l (k (e.push .str) (.c (.d .str e.new)) S) | _ => .fail)
    | _, _ => .fail)
  | .str, .slice el =>
    (match (X.tb el).d, x, Nat.ble el 4294967295 with
    | .int .u8, .c (.d .str s), true => .sbytes s (.lnew (.int .u8) 0 e.new (k (e.push (.list (.int .u8))) (.c (.rs S.length 0)) (S ++ [.arr true 0 el 1 (.int .u8) e.new])))
    | _, _, _ => .fail)
  | _, _ => .fail
def nilEqS (X : SEnv) (e : SE) (op : BinOp) (x y : SV) (S : SSt) (k : K1) : Tr :=
  match y, negS op true, negS op false with
  | .c .nil, .some bt, .some bf =>
    (match x with
    | .c .nil => k e (vb (.bool bt)) S
    | x => rowK x S fun t l =>
      (match wid X.lay t with
      | 0 => .fail
      | _ => (match memT l e.ne with
        | true => k e (vb (.bool bf)) S
        | false => .lnil t l (.both (k e (vb (.bool bt)) S) (k e (vb (.bool bf)) S)) (k { e with ne := l :: e.ne } (vb (.bool bf)) S))))
  | _, _, _ => .fail
def ptrEqS (X : SEnv) (e : SE) (el : TypeId) (op : BinOp) (x y : SV) (S : SSt) (k : K1) : Tr :=
  match (X.tb el).d.isNo, Nat.blt 0 (X.tb el).size, negS op true, negS op false with
  | false, true, .some bt, .some bf =>
    (match x, y with
    | .c .nilp, .c .nilp => k e (vb (.bool bt)) S
    | .c (.ptr _ _), .c .nilp => k e (vb (.bool bf)) S
    | .c .nilp, .c (.ptr _ _) => k e (vb (.bool bf)) S
    | .c (.d (.ptr _) _), .c .nilp => k e (vb (.bool bf)) S
    | .c (.d (.opt t) a), .c .nilp =>
      .isnil t a ((match bt with | true => k (e.push .bool) (vb e.new) S | false => .bnot e.new (k ((e.push .bool).push .bool) (vb (.at (e.n + 1))) S)))
    | .c (.ptr o i), .c (.ptr o' i') => (match Nat.beq o o', Nat.beq i i' with | true, true => k e (vb (.bool bt)) S | _, _ => .fail)
    | _, _ => .fail)
  | _, _, _, _ => .fail
def allB : List KK → List SC → List SC → Bool
  | [], [], [] => true
  | .b :: ks, .d .bool _ :: l, .d .bool _ :: m => allB ks l m
  | _, _, _ => false
def aggK (bt bf : Bool) (k : SE → Tm → Tr) : List SC → List SC → SE → Tr
  | .d _ a :: l, .d _ b :: m, e => .beq false a b (.br e.new (aggK bt bf k l m (e.push .bool)) (k (e.push .bool) (.bool bf)))
  | _, _, e => k e (.bool bt)
def aggEqS (X : SEnv) (e : SE) (t : TypeId) (op : BinOp) (x y : SV) (S : SSt) (k : K1) : Tr :=
  match (X.tb t).key, x, y, negS op true, negS op false with
  | kk :: ks, .a l, .a m, .some bt, .some bf => (match allB (kk :: ks) l m with | true => aggK bt bf (fun e x => k e (vb x) S) l m e | false => .fail)
  | _, _, _, _, _ => .fail
def makeS (X : SEnv) (e : SE) (t : TypeId) (a b : SV) (S : SSt) (k : K1) : Tr :=
  match (X.tb t).d, a, b with
  | .slice el, .c (.d (.int _) n), .c (.d (.int _) m) =>
    (match X.tyO el, (X.tb el).d.isNo, Tm.eqb n m, Nat.blt 0 (X.tb el).size, Nat.ble el 4294967295 with
    | .some t, false, true, true, true =>
      (match Nat.beq (X.tb el).size (wid X.lay t) with
      | true => dataK X.lay e t ((X.tb el).zero.map ofF) fun e z => .lrep t (X.tb el).bytes n z (k (e.push (.list t)) (.c (.rs S.length 0)) (S ++ [.arr true 0 el (X.tb el).size t e.new]))
      | false => .fail)
    | _, _, _, _, _ => .fail)
  | _, _, _ => .fail
def growS (X : SEnv) (e : SE) (t u : TypeId) (a b : SV) (S : SSt) (k : K1) : Tr :=
  match (X.tb t).d, (X.tb u).d, a, b with
  | .slice el, .int _, .c .nil, .c (.d (.int .i64) n) =>
    (match X.tyO el, (X.tb el).d.isNo, Nat.ble el 4294967295 with
    | .some t, false, true =>
      (match Nat.beq (X.tb el).size (wid X.lay t) with
      | true => .ne0 n (dataK X.lay e t ((X.tb el).zero.map ofF) fun e z => .lrep t (X.tb el).bytes n z (k (e.push (.list t)) (.c (.rs S.length 0)) (S ++ [.arr true 0 el (X.tb el).size t e.new])))
      | false => .fail)
    | _, _, _ => .fail)
  | _, _, _, _ => .fail
def rawS (X : SEnv) (e : SE) (o : Op) (ρ : Operand → SV) (S : SSt) (k : K1) : Tr :=
  match o with
  | .convert s d x => convS X e s d (ρ x) S k
  | .binOp op t x y _ =>
    (match (X.tb t).d with
    | .slice _ => nilEqS X e op (ρ x) (ρ y) S k
    | .ptr el => ptrEqS X e el op (ρ x) (ρ y) S k
    | .struct _ => aggEqS X e t op (ρ x) (ρ y) S k
    | _ => .fail)
  | .makeSlice t a b => makeS X e t (ρ a) (ρ b) S k
  | .makeFunc (.func f) first captured => (match first.toList with | [] => k e (.c (.clo f (captured.toList.map fun x => capS (ρ x)))) S | _ => .fail)
  | .call { callee := .builtin .cap, args, argTypes } =>
    (match args.toList, argTypes.toList with
    | [x], [t] => (match (X.tb t).d, ρ x with | .slice _, .c .nil => k e (vi .i64 (.int .i64 0)) S | _, _ => .fail)
    | _, _ => .fail)
  | .call { callee := .builtin .append, args, argTypes } => (match args.toList, argTypes.toList with | [x, y], [t, u] => growS X e t u (ρ x) (ρ y) S k | _, _ => .fail)
  | _ => .fail
def mnxS (mx : Bool) (j : IntKind) (S : SSt) (k : SE → Tm → Tr) : SE → Tm → List SV → Tr
  | e, a, [] => k e a
  | e, a, .c (.d (.int _) b) :: r =>
    (match a, b with
    | .int _ m, .int _ n => mnxS mx j S k e (.int j (mnxI mx m n)) r
    | a, b => .mnx mx j a b (mnxS mx j S k (e.push (.int j)) e.new r))
  | _, _, _ => .fail
def biS (e : SE) (b : Builtin) (args : List SV) (S : SSt) (k : K1) : Tr :=
  match b, args with
  | .min, .c (.d (.int j) a) :: r => mnxS false j S (fun e x => k e (vi j x) S) e a r
  | .max, .c (.d (.int j) a) :: r => mnxS true j S (fun e x => k e (vi j x) S) e a r
  | .complex, [.c (.d .flo a), .c (.d .flo b)] => .cx a b (k (e.push .cpl) (.c (.d .cpl e.new)) S)
  | .real, [.c (.d .cpl a)] => .re a (k (e.push .flo) (.c (.d .flo e.new)) S)
  | .imag, [.c (.d .cpl a)] => .im a (k (e.push .flo) (.c (.d .flo e.new)) S)
  | _, _ => .fail
abbrev CallS := Nat → List SV → SE → SSt → K1 → Tr
def sop (X : SEnv) (call : CallS) (s : SOp) (e : SE) (A : SA) (S : SSt) (k : K1) : Tr :=
  match s with
  | .mv x => k e (opS A x) S
  | .pick c a b => pickS e (opS A c) (opS A a) (opS A b) fun e v => k e v S
  | .bin d op x y => binS e d op (opS A x) (opS A y) fun e v => k e v S
  | .un op x => unS e op (opS A x) fun e v => k e v S
  | .alloc z => k e (.c (.ptr S.length 0)) (S ++ [.cells (z.map ofF)])
  | .box x => boxS e (opS A x) S k
  | .load agg n x => addrS e (opS A x) fun e x => loadS X.lay e agg n x S fun e v => k e v S
  | .store n a x => storeS X.lay e n (opS A a) (opS A x) S k
  | .call x args =>
    (match opS A x with
    | .c (.fn f) => call f (args.map (opS A)) e S k
    | .c (.clo f caps) => call f (args.map (opS A) ++ caps.map .c) e S k
    | _ => .fail)
  | .fa off x => addrS e (opS A x) fun e x => fieldS x off S fun v => k e v S
  | .fld agg off n x => (match opS A x with | .a l => partS agg l off n fun v => k e v S | _ => .fail)
  | .ixr sz x i => ixrS X.lay e sz (opS A x) (opS A i) S fun e v => k e v S
  | .ixa n sz x i => addrS e (opS A x) fun e x => ixaS n sz x (opS A i) S fun v => k e v S
  | .chr x i => chrS e (opS A x) (opS A i) fun e v => k e v S
  | .len d x => lenS e d (opS A x) S fun e v => k e v S
  | .app d ty sz bytes x y => appS X.lay e d ty sz bytes (opS A x) (opS A y) S k
  | .slc d sz x lo hi => slcS X.lay e d sz (opS A x) (lo.map (opS A)) (hi.map (opS A)) S k
  | .ext x i => (match opS A x with | .t l => (match nth l i with | .some v => k e v S | .none => .fail) | _ => .fail)
  | .nilc x => nilcS e (opS A x) S fun e v => k e v S
  | .bi b ts args => biS e b (args.map (opS A)) S k
  | .bld z parts => (match fillS (opS A) parts (z.map ofF) with | .some l => k e (.a l) S | .none => .fail)
  | .bsl n ty sz z parts => bslS X.lay X.tyO e n ty sz z (opS A) parts S k
  | .raw o => rawS X e o (opS A) S k
variable {U : Uni} {c c' c'' : Cx U} {e : SE} {Sp : List (FSpec U)} {Post : List (Dyn U.B) → Prop} {Go : Nat → List (Dyn U.B) → Prop} {P : Program}
def CallSOk (P : Program) (Sp : List (FSpec U)) (Post : List (Dyn U.B) → Prop) (Go : Nat → List (Dyn U.B) → Prop) (call : CallS) : Prop :=
  ∀ (c : Cx U) (e : SE) (f : Nat) (args : List SV) (vs : List V) (k : K1) (K : V → St → Prop), Ok c e → c.vrs args vs → FollS Sp Post Go c k K → TDen Sp Post Go (call f args e c.S k) c.ρ → CallAt P f vs c.σ K
def FrR (c : Cx U) (A : SA) (A' : AF) : Prop := ∀ i, c.vr (lkS A i) (lk A' i)
theorem ofV_ok {ρ : Rho U} {β : Nat → Nat} {ι : Inf} (v : V) : VR ρ β ι (ofV v) v := by
  unfold ofV
  split
  · exact VR.c (ofF_ok _)
  · exact VR.un
theorem op_ok {A : SA} {A' : AF} (h : FrR c A A') (x : Operand) : c.vr (opS A x) (opA A' x) := by
  cases x with
  | tmp t => exact h t
  | const v => exact ofV_ok _
  | func f => exact VR.c (by simp only [CR])
  | global g => exact VR.un
theorem ops_ok {A : SA} {A' : AF} (h : FrR c A A') : ∀ (l : List Operand), c.vrs (l.map (opS A)) (l.map (opA A'))
  | [] => by simp only [List.map_nil, Cx.vrs, VRs]
  | x :: r => by simp only [List.map_cons, Cx.vrs, VRs]; exact ⟨_, _, rfl, op_ok h x, ops_ok h r⟩
theorem row_ok (ok : Ok c e) {x : SV} {v : V} (hx : c.vr x v) {k : Ty → Tm → Tr} (h : TDen Sp Post Go (rowK x c.S k) c.ρ) :
    ∃ t l, ∃ xs : List (T U.B t), l.den? c.ρ = some ⟨.list t, xs⟩ ∧ TDen Sp Post Go (k t l) c.ρ ∧ ((v = .c (.f .nils) ∧ xs = []) ∨ (∃ fs, v = .c (.f (.sl xs.length fs)) ∧ FDs U fs (flat U xs)) ∨
      ∃ o ep w sz fs, v = .c (.rs o ep xs.length) ∧ c.σ[o]? = some (.arr w ep sz fs) ∧ FDs U fs (flat U xs)) := by
  unfold rowK at h
  split at h
  · rename_i t l
    obtain ⟨xs, h1, h2⟩ := vr_list hx
    refine ⟨t, l, xs, h1, h, ?_⟩
    rcases h2 with h2 | h2
    · exact .inl h2
    · exact .inr (.inl h2)
  · rename_i o kk
    obtain ⟨n', kc, len, rfl, p1, p2, p3⟩ := vr_rs hx
    split at h
    · rename_i w k' ty' sz' t l ho
      obtain ⟨ys, gs, q1, q2, q3, q4, q5, q6⟩ := arr_at ok ho
      split at h
      · rename_i e1
        have e1 := beq_nat e1
        subst e1
        have p1' : c.ι o = some (kc, len) := p1
        rw [q6] at p1'
        cases p1'
        have := p3 rfl
        subst this
        exact ⟨_, _, ys, q1, h, .inr (.inr ⟨_, _, _, _, gs, rfl, q2, q5⟩)⟩
      · exact h.elim
    · exact h.elim
  · exact h.elim
theorem u8_row {xs : List Int} {fs : List F} (h : FDs U fs (flat U (t := .int .u8) xs)) : fs = xs.map (F.int .u8) := by
  induction xs generalizing fs with
  | nil => simpa [flat, FDs.len] using List.eq_nil_of_length_eq_zero (by rw [h.len]; rfl)
  | cons x r ih =>
    cases fs with
    | nil => have := h.len; simp [flat, cells] at this
    | cons f fs =>
      obtain ⟨d, l', e1, e2, e3⟩ := h
      cases e1
      rw [FD.int e2, ih e3]
      rfl
theorem imin_eq : prims.imin = mnxI false := by
  funext a b
  show (if b < a then b else a) = min a b
  simp only [Int.min_def]; split <;> split <;> omega
theorem imax_eq : prims.imax = mnxI true := by
  funext a b
  show (if b > a then b else a) = max a b
  simp only [Int.max_def]; split <;> split <;> omega
theorem mnx_ok {mx : Bool} {j : IntKind} {k : SE → Tm → Tr} {S : SSt} : ∀ {args : List SV} {c : Cx U} {e : SE} {a : Tm} {n : Int} {vs : List V}, Ok c e → a.den? c.ρ = some ⟨.int j, n⟩ → c.vrs args vs → TDen Sp Post Go (mnxS mx j S k e a args) c.ρ →
    ∃ c' e' x l, Le c c' ∧ c'.S = c.S ∧ c'.σ = c.σ ∧ Ok c' e' ∧ ints vs = some l ∧ x.den? c'.ρ = some ⟨.int j, l.foldl (mnxI mx) n⟩ ∧ TDen Sp Post Go (k e' x) c'.ρ
  | [], c, e, a, n, vs, ok, ha, hv, h => by
    simp only [Cx.vrs, VRs] at hv
    subst hv
    exact ⟨c, e, a, [], Le.refl c, rfl, rfl, ok, rfl, ha, h⟩
  | x :: r, c, e, a, n, vs, ok, ha, hv, h => by
    simp only [Cx.vrs, VRs] at hv
    obtain ⟨v, vr, rfl, h1, h2⟩ := hv
    cases x with
    | a l => exact h.elim
    | t l => exact h.elim
    | c x =>
      cases x with
      | d t b =>
        cases t with
        | int j' =>
          obtain ⟨m, rfl, hm⟩ := vr_int h1
          simp only [mnxS] at h
          split at h
          · rename_i k1 m' k2 n'
            simp only [Tm.den?, Option.some.injEq, Dyn.mk.injEq] at ha hm
            obtain ⟨e1, e2⟩ := ha
            obtain ⟨e3, e4⟩ := hm
            cases e1; cases e3
            have e2 := eq_of_heq e2; have e4 := eq_of_heq e4
            subst e2 e4
            obtain ⟨c', e', x, l, q1, q2, q3, q4, q5, q6, q7⟩ := mnx_ok (a := .int _ (mnxI mx m' n')) (n := mnxI mx m' n') ok rfl h2 h
            exact ⟨c', e', x, n' :: l, q1, q2, q3, q4, by simp only [ints, q5], by rw [List.foldl_cons]; exact q6, q7⟩
          · have h3 := h _ rfl
            rw [den_int ha, den_int hm] at h3
            obtain ⟨c', e', x, l, q1, q2, q3, q4, q5, q6, q7⟩ := mnx_ok (ok.push ⟨.int j, mnxI mx n m⟩) (ok.new _) ((Le.push c _).vrs h2) h3
            exact ⟨c', e', x, m :: l, (Le.push c _).trans q1, q2, q3, q4, by simp only [ints, q5], by rw [List.foldl_cons]; exact q6, q7⟩
        | _ => exact h.elim
      | _ => exact h.elim
theorem bi_ok (ok : Ok c e) {tb : Tab} {ts : Array TypeId} {b : Builtin} {args : List SV} {vs : List V} (hv : c.vrs args vs) {k : K1} {K : V → St → Prop} (hk : FollS Sp Post Go c k K) (h : TDen Sp Post Go (biS e b args c.S k) c.ρ) : vbi prims tb b ts vs c.σ K := by
  unfold biS at h
  split at h
  · rename_i j a r
    simp only [Cx.vrs, VRs] at hv
    obtain ⟨v, vr, rfl, h1, h2⟩ := hv
    obtain ⟨n, rfl, hn⟩ := vr_int h1
    obtain ⟨c', e', x, l, q1, q2, q3, q4, q5, q6, q7⟩ := mnx_ok ok hn h2 h
    rw [← q2] at q7
    simp only [vbi, q5, imin_eq, imax_eq]
    rw [← q3]
    exact hk c' e' _ _ q1 q4 (vd_of (f := .int j _) q6 rfl rfl) q7
  · rename_i j a r
    simp only [Cx.vrs, VRs] at hv
    obtain ⟨v, vr, rfl, h1, h2⟩ := hv
    obtain ⟨n, rfl, hn⟩ := vr_int h1
    obtain ⟨c', e', x, l, q1, q2, q3, q4, q5, q6, q7⟩ := mnx_ok ok hn h2 h
    rw [← q2] at q7
    simp only [vbi, q5, imin_eq, imax_eq]
    rw [← q3]
    exact hk c' e' _ _ q1 q4 (vd_of (f := .int j _) q6 rfl rfl) q7
  · rename_i a b
    simp only [Cx.vrs, VRs] at hv
    obtain ⟨v, vr, rfl, h1, u, ur, rfl, h2, rfl⟩ := hv
    obtain ⟨m, rfl, hm⟩ := vr_flo h1
    obtain ⟨n, rfl, hn⟩ := vr_flo h2
    have h3 := h _ rfl
    rw [den_flo hm, den_flo hn] at h3
    exact hk (c.push ⟨.cpl, (m, n)⟩) _ _ _ (Le.push c _) (ok.push _) (vd_of (f := .cpl m n) (ok.new _) rfl rfl) h3
  · rename_i a
    simp only [Cx.vrs, VRs] at hv
    obtain ⟨v, vr, rfl, h1, rfl⟩ := hv
    obtain ⟨m, rfl, hm⟩ := vr_cpl h1
    have h3 := h _ rfl
    rw [den_cpl hm] at h3
    exact hk (c.push ⟨.flo, m.1⟩) _ _ _ (Le.push c _) (ok.push _) (vd_of (f := .flo m.1) (ok.new _) rfl rfl) h3
  · rename_i a
    simp only [Cx.vrs, VRs] at hv
    obtain ⟨v, vr, rfl, h1, rfl⟩ := hv
    obtain ⟨m, rfl, hm⟩ := vr_cpl h1
    have h3 := h _ rfl
    rw [den_cpl hm] at h3
    exact hk (c.push ⟨.flo, m.2⟩) _ _ _ (Le.push c _) (ok.push _) (vd_of (f := .flo m.2) (ok.new _) rfl rfl) h3
  · exact h.elim
end Go.Dm.Sx
namespace Go.Dm.Sx
open Go.Dm
set_option linter.unusedVariables false
set_option linter.unusedSimpArgs false
variable {U : Uni} {c c' c'' : Cx U} {e : SE} {Sp : List (FSpec U)} {Post : List (Dyn U.B) → Prop} {Go : Nat → List (Dyn U.B) → Prop} {P : Program} {X : SEnv}
theorem bytes_row (n : List UInt8) : FDs U (n.map fun b => F.int .u8 (b.toNat : Int)) (flat U (t := .int .u8) (n.map fun b => (b.toNat : Int))) := by
  induction n with
  | nil => rfl
  | cons b r ih => exact ⟨⟨.int .u8, (b.toNat : Int)⟩, _, rfl, rfl, ih⟩
theorem conv_ok (ok : Ok c e) {s d : TypeId} {o : Operand} {x : SV} {v : V} (hx : c.vr x v) {k : K1} {K : V → St → Prop} (hk : FollS Sp Post Go c k K) (h : TDen Sp Post Go (convS X e s d x c.S k) c.ρ) :
    extraB X.tb (.convert s d o) = false ∧ vconv prims X.tb s d v c.σ K := by
  unfold convS at h
  split at h
  · rename_i j0 j hs hd
    refine ⟨by simp only [extraB, hs, hd], ?_⟩
    unfold vconv
    split at h
    · rename_i j1 a
      obtain ⟨n, rfl, hn⟩ := vr_int hx
      simp only [hs, hd]
      split at h
      · rename_i k0 n'
        simp only [Tm.den?, Option.some.injEq, Dyn.mk.injEq] at hn
        obtain ⟨e1, e2⟩ := hn
        cases e1
        have e2 := eq_of_heq e2
        subst e2
        exact hk c e _ _ (Le.refl c) ok (vd_of (d := ⟨.int j, j.wrap n'⟩) (f := .int j (j.wrap n')) rfl rfl rfl) h
      · have h3 := h _ rfl
        rw [den_int hn] at h3
        exact hk (c.push ⟨.int j, j.wrap n⟩) _ _ _ (Le.push c _) (ok.push _) (vd_of (f := .int j (j.wrap n)) (ok.new _) rfl rfl) h3
    · exact h.elim
  · rename_i j0 hs hd
    refine ⟨by simp only [extraB, hs, hd], ?_⟩
    unfold vconv
    split at h
    · rename_i j1 a
      obtain ⟨n, rfl, hn⟩ := vr_int hx
      simp only [hs, hd]
      have h3 := h _ rfl
      rw [den_int hn] at h3
      exact hk (c.push ⟨.flo, FloatKind.f64.nearest n⟩) _ _ _ (Le.push c _) (ok.push _) (vd_of (f := .flo (FloatKind.f64.nearest n)) (ok.new _) rfl rfl) h3
    · exact h.elim
  · rename_i hs hd
    refine ⟨by simp only [extraB, hs, hd], ?_⟩
    unfold vconv
    split at h
    · rename_i a
      obtain ⟨n, rfl, hn⟩ := vr_flo hx
      simp only [hs, hd]
      obtain ⟨r, h3, h4⟩ := h
      rw [den_flo hn] at h3
      show match floatToIntVal .f64 n .i64 with | some n => K (.c (.f (.int .i64 n))) c.σ | none => False
      rw [h3]
      exact hk (c.push ⟨.int .i64, r⟩) _ _ _ (Le.push c _) (ok.push _) (vd_of (f := .int .i64 r) (ok.new _) rfl rfl) h4
    · exact h.elim
  · rename_i hs hd
    refine ⟨by simp only [extraB, hs, hd], ?_⟩
    unfold vconv
    split at h
    · rename_i a
      have hx' := hx
      obtain ⟨n, rfl, hn⟩ := vr_str hx
      simp only [hs, hd]
      exact hk c e _ _ (Le.refl c) ok hx' h
    · exact h.elim
  · rename_i el hs hd
    refine ⟨by simp only [extraB, hs, hd], ?_⟩
    unfold vconv
    split at h
    · rename_i hel
      obtain ⟨y, rfl, h0⟩ := V_c (by simp) hx
      simp only [CR] at h0
      subst h0
      simp only [hs, hd, hel]
      exact hk c e _ _ (Le.refl c) ok (vd_of (d := ⟨.str, []⟩) (f := .str []) rfl rfl rfl) h
    · rename_i hel _
      obtain ⟨t, l, xs, h1, h2, h3⟩ := row_ok ok hx h
      simp only [hs, hd, hel]
      split at h2
      · obtain ⟨z, h4, h5⟩ := h2
        rw [den_as (t := .list (.int .u8)) h1] at h4
        subst h4
        have done : K (.c (.f (.str z))) c.σ := hk (c.push ⟨.str, z⟩) _ _ _ (Le.push c _) (ok.push _) (vd_of (f := .str z) (ok.new _) rfl rfl) h5
        have row : ∀ {fs : List F}, FDs U fs (flat U (t := .int .u8) (z.map fun b => (b.toNat : Int))) → prims.bytesK fs (z.map fun b => (b.toNat : Int)).length fun s => K (.c (.f (.str s))) c.σ := fun {fs} hf => by
          refine ⟨z, ?_, by simp, done⟩
          rw [u8_row hf, List.map_map]; rfl
        rcases h3 with ⟨rfl, h4⟩ | ⟨fs, rfl, h4⟩ | ⟨o, ep, w, sz, fs, rfl, h4, h5⟩
        · have : z = [] := by simpa using h4
          subst this
          exact done
        · exact row h4
        · simp only [vbytes, h4]
          exact ⟨rfl, row h5⟩
      · exact h2.elim
    · exact h.elim
  · rename_i el hs hd
    refine ⟨by simp only [extraB, hs, hd], ?_⟩
    unfold vconv
    split at h
    · rename_i a hel hb
      obtain ⟨n, rfl, hn⟩ := vr_str hx
      simp only [hs, hd, hel]
      have h3 := h _ rfl
      rw [den_str hn] at h3
      obtain ⟨_, h4, h5⟩ := h3
      have okp := ok.push (⟨.list (.int .u8), n.map fun b => (b.toNat : Int)⟩ : Dyn U.B)
      have hrow := bytes_row (U := U) n
      obtain ⟨s1, s2, s3⟩ := add_arr okp (ty := el) (sz := 1) (ok.new _) hrow rfl (ble_nat hb)
      have e4 : e.new.den? (c.ρ ++ [(⟨.list (.int .u8), n.map fun b => (b.toNat : Int)⟩ : Dyn U.B)]) = some ⟨.list (.int .u8), n.map fun b => (b.toNat : Int)⟩ := ok.new _
      rw [den_as e4] at h4
      have h6 := hk _ _ _ _ ((Le.push c _).trans s1) s2 s3 h5
      have e5 : prims.toNat (prims.slen n) = (n.map fun b => (b.toNat : Int)).length := by show (n.length : Int).toNat = _; simp
      refine ⟨by rw [e5]; exact h4, ble_nat hb, ?_⟩
      rw [e5]
      exact h6
    · exact h.elim
  · exact h.elim
theorem neg_ok {op : BinOp} {b r : Bool} (h : negS op b = some r) : xneg op b = some (vbool r) := by
  unfold negS at h
  unfold xneg
  split at h <;> first | (cases h; rfl) | cases h
theorem nilEq_ok (ok : Ok c e) {op : BinOp} {x y : SV} {v w : V} (hx : c.vr x v) (hy : c.vr y w) {k : K1} {K : V → St → Prop} (hk : FollS Sp Post Go c k K) (hX : X.lay = U.lay) (h : TDen Sp Post Go (nilEqS X e op x y c.S k) c.ρ) :
    ∃ l, (match w with
      | .c (.f .nils) =>
        (match xrowNil v c.σ with
        | some (some b) => (match xneg op b with | some v => some [(v, c.σ)] | none => none)
        | some none => (match xneg op true, xneg op false with | some v, some u => some [(v, c.σ), (u, c.σ)] | _, _ => none)
        | none => none)
      | _ => none) = some l ∧ ∀ p ∈ l, K p.1 p.2 := by
  unfold nilEqS at h
  split at h
  · rename_i bt bf hbt hbf
    obtain ⟨y, rfl, h0⟩ := V_c (by simp) hy
    simp only [CR] at h0
    subst h0
    have lit : ∀ {e'} (ok' : Ok c e') (b : Bool), TDen Sp Post Go (k e' (vb (.bool b)) c.S) c.ρ → K (vbool b) c.σ := fun ok' b hb => hk c _ _ _ (Le.refl c) ok' (vd_of (d := ⟨.bool, b⟩) (f := .bool b) rfl rfl rfl) hb
    split at h
    · obtain ⟨y, rfl, h0⟩ := V_c (by simp) hx
      simp only [CR] at h0
      subst h0
      simp only [xrowNil, neg_ok hbt]
      exact ⟨_, rfl, fun p hp => by rw [List.mem_singleton.1 hp]; exact lit ok bt h⟩
    · obtain ⟨t, l, xs, h1, h2, h3⟩ := row_ok ok hx h
      split at h2
      · exact h2.elim
      · rename_i hw
        have hwid : 0 < width U t := by
          rw [← wid_eq, ← hX]
          exact Nat.pos_of_ne_zero hw
        have nonempty : ∀ {fs : List F}, FDs U fs (flat U xs) → xs ≠ [] → ∃ f fs', fs = f :: fs' := fun {fs} hf hne => by
          have := hf.len
          rw [flat_len] at this
          cases fs with
          | cons f fs' => exact ⟨f, fs', rfl⟩
          | nil =>
            have h5 : 0 < xs.length := List.length_pos_iff.2 hne
            have := Nat.mul_pos h5 hwid
            simp at *
            omega
        have empty : ∀ {fs : List F}, FDs U fs (flat U xs) → xs = [] → fs = [] := fun {fs} hf hne => by
          subst hne
          exact List.eq_nil_of_length_eq_zero (by rw [hf.len]; rfl)
        have no : ∀ {e'}, Ok c e' → xs ≠ [] → TDen Sp Post Go (k e' (vb (.bool bf)) c.S) c.ρ → ∃ l, (match xrowNil v c.σ with
            | some (some b) => (match xneg op b with | some v => some [(v, c.σ)] | none => none)
            | some none => (match xneg op true, xneg op false with | some v, some u => some [(v, c.σ), (u, c.σ)] | _, _ => none)
            | none => none) = some l ∧ ∀ p ∈ l, K p.1 p.2 := fun {e'} ok' hne hD => by
          have : xrowNil v c.σ = some (some false) := by
            rcases h3 with ⟨rfl, h4⟩ | ⟨fs, rfl, h4⟩ | ⟨o, ep, w, sz, fs, rfl, h4, h5⟩
            · exact absurd h4 hne
            · obtain ⟨f, fs', rfl⟩ := nonempty h4 hne; rfl
            · obtain ⟨f, fs', rfl⟩ := nonempty h5 hne
              simp only [xrowNil, nth_eq, h4, Nat.beq_refl]
          rw [this]
          simp only [neg_ok hbf]
          exact ⟨_, rfl, fun p hp => by rw [List.mem_singleton.1 hp]; exact lit ok' bf hD⟩
        split at h2
        · rename_i hm
          obtain ⟨d, g1, g2⟩ := mem_ok ok hm
          rw [h1] at g1
          cases g1
          exact no ok (fun hh => g2 (by simp [lenOf, hh])) h2
        · obtain ⟨g1, g2⟩ := h2
          rw [den_as h1] at g1 g2
          by_cases hxs : xs = []
          · obtain ⟨g3, g4⟩ := g1 hxs
            rcases h3 with ⟨rfl, h4⟩ | ⟨fs, rfl, h4⟩ | ⟨o, ep, w, sz, fs, rfl, h4, h5⟩
            · simp only [xrowNil, neg_ok hbt]
              exact ⟨_, rfl, fun p hp => by rw [List.mem_singleton.1 hp]; exact lit ok bt g3⟩
            · have := empty h4 hxs
              subst this
              simp only [xrowNil, neg_ok hbt, neg_ok hbf]
              refine ⟨_, rfl, fun p hp => ?_⟩
              simp only [List.mem_cons, List.not_mem_nil, or_false] at hp
              rcases hp with rfl | rfl
              · exact lit ok bt g3
              · exact lit ok bf g4
            · have := empty h5 hxs
              subst this
              simp only [xrowNil, nth_eq, h4, Nat.beq_refl, neg_ok hbt, neg_ok hbf]
              refine ⟨_, rfl, fun p hp => ?_⟩
              simp only [List.mem_cons, List.not_mem_nil, or_false] at hp
              rcases hp with rfl | rfl
              · exact lit ok bt g3
              · exact lit ok bf g4
          · exact no (ok.ne' h1 (by simpa [lenOf] using hxs)) hxs (g2 hxs)
  · exact h.elim
theorem ptrEq_ok (ok : Ok c e) {el : TypeId} {op : BinOp} {x y : SV} {v w : V} (hx : c.vr x v) (hy : c.vr y w) {k : K1} {K : V → St → Prop} (hk : FollS Sp Post Go c k K) (h : TDen Sp Post Go (ptrEqS X e el op x y c.S k) c.ρ) :
    ∃ l, (match xptrEq v w, (X.tb el).d.isNo, Nat.blt 0 (X.tb el).size with
      | some b, false, true => (match xneg op b with | some v => some [(v, c.σ)] | none => none)
      | _, _, _ => none) = some l ∧ ∀ p ∈ l, K p.1 p.2 := by
  unfold ptrEqS at h
  split at h
  · rename_i bt bf hn hs hbt hbf
    rw [hn, hs]
    have lit : ∀ (b r : Bool), xptrEq v w = some b → negS op b = some r → TDen Sp Post Go (k e (vb (.bool r)) c.S) c.ρ → ∃ l, (match xptrEq v w, false, true with
      | some b, false, true => (match xneg op b with | some v => some [(v, c.σ)] | none => none)
      | _, _, _ => none) = some l ∧ ∀ p ∈ l, K p.1 p.2 := fun b r h1 h2 h3 => by
      rw [h1]
      simp only [neg_ok h2]
      exact ⟨_, rfl, fun p hp => by rw [List.mem_singleton.1 hp]; exact hk c e _ _ (Le.refl c) ok (vd_of (d := ⟨.bool, r⟩) (f := .bool r) rfl rfl rfl) h3⟩
    split at h
    · obtain ⟨y1, rfl, h1⟩ := V_c (by simp) hx
      obtain ⟨y2, rfl, h2⟩ := V_c (by simp) hy
      simp only [CR] at h1 h2
      subst h1 h2
      exact lit true bt rfl hbt h
    · cases vr_ptr hx
      obtain ⟨y2, rfl, h2⟩ := V_c (by simp) hy
      simp only [CR] at h2
      subst h2
      exact lit false bf rfl hbf h
    · cases vr_ptr hy
      obtain ⟨y2, rfl, h2⟩ := V_c (by simp) hx
      simp only [CR] at h2
      subst h2
      exact lit false bf rfl hbf h
    · obtain ⟨f, ⟨t', z⟩, rfl, h1, rfl, h3⟩ := vd hx
      obtain ⟨fs, rfl, h4⟩ := FD.ptr h3
      obtain ⟨y2, rfl, h2⟩ := V_c (by simp) hy
      simp only [CR] at h2
      subst h2
      exact lit false bf rfl hbf h
    · rename_i t a
      obtain ⟨f, ⟨t', z⟩, rfl, h1, rfl, h3⟩ := vd hx
      obtain ⟨y2, rfl, h2⟩ := V_c (by simp) hy
      simp only [CR] at h2
      subst h2
      have h5 := h _ rfl
      rw [den_as h1] at h5
      have hb : ∀ b : Bool, negS op b = some (match bt with | true => b | false => !b) := fun b => by
        unfold negS at hbt ⊢
        cases op <;> simp at hbt ⊢ <;> cases bt <;> simp_all
      have hp : xptrEq (.c (.f f)) (.c (.f .nilp)) = some z.isNone := by
        rcases FD.opt h3 with ⟨rfl, rfl⟩ | ⟨y, fs, rfl, rfl, _⟩ <;> rfl
      rw [hp]
      simp only [neg_ok (hb _)]
      refine ⟨_, rfl, fun p hp => ?_⟩
      rw [List.mem_singleton.1 hp]
      cases bt with
      | true => exact hk (c.push ⟨.bool, z.isNone⟩) _ _ _ (Le.push c _) (ok.push _) (vd_of (f := .bool z.isNone) (ok.new _) rfl rfl) h5
      | false =>
        have h6 := h5 _ rfl
        rw [show ((e.new.den (c.ρ ++ [(⟨.bool, z.isNone⟩ : Dyn U.B)])).bool) = z.isNone from den_bool (ok.new ⟨.bool, z.isNone⟩)] at h6
        have ok1 := ok.push (⟨.bool, z.isNone⟩ : Dyn U.B)
        exact hk ((c.push ⟨.bool, z.isNone⟩).push ⟨.bool, !z.isNone⟩) _ _ _ ((Le.push c _).trans (Le.push _ _)) (ok1.push _) (vd_of (f := .bool (!z.isNone)) (by simp [Tm.den?, Cx.push, ok.n]) rfl rfl) h6
    · rename_i o i o' i'
      split at h
      · rename_i e1 e2
        cases vr_ptr hx
        cases vr_ptr hy
        have e1 := beq_nat e1
        have e2 := beq_nat e2
        subst e1 e2
        exact lit true bt (by simp [xptrEq, Nat.beq_refl]) hbt h
      · exact h.elim
    · exact h.elim
  · exact h.elim
theorem repF_row {t : Ty} {z : T U.B t} {fs : List F} (h : FDs U fs (cells U ⟨t, z⟩)) : ∀ n, FDs U (repF n fs) (flat U (List.replicate n z))
  | 0 => rfl
  | n + 1 => by
    rw [List.replicate_succ, flat_cons]
    exact h.append (repF_row h n)
theorem make_ok (ok : Ok c e) {t : TypeId} {a b : SV} {va vb : V} (ha : c.vr a va) (hb : c.vr b vb) {k : K1} {K : V → St → Prop} (hk : FollS Sp Post Go c k K) (hX : X.lay = U.lay) (h : TDen Sp Post Go (makeS X e t a b c.S k) c.ρ) :
    ∃ l, (match (X.tb t).d, va, vb with
      | .slice e, .c (.f (.int _ (.ofNat n))), .c (.f (.int _ (.ofNat m))) =>
        (match (X.tb e).d.isNo, Nat.beq n m && Nat.ble n 16777216 && Nat.ble (n * (X.tb e).bytes) 16777216 && Nat.blt 0 (X.tb e).size && Nat.ble e 4294967295 with
        | false, true => some [(.c (.rs c.σ.length e n), c.σ ++ [.arr true e (X.tb e).size (repF n (X.tb e).zero)])]
        | _, _ => none)
      | _, _, _ => none) = some l ∧ ∀ p ∈ l, K p.1 p.2 := by
  unfold makeS at h
  split at h
  · rename_i el kd n kd' m hd
    split at h
    · rename_i t ht hno hnm hsz hel
      have e1 := Tm.eqb_ok hnm
      subst e1
      split at h
      · rename_i hw
        have hw := beq_nat hw
        rw [hX] at hw h
        rw [wid_eq] at hw
        obtain ⟨i, rfl, hi⟩ := vr_int ha
        obtain ⟨j, rfl, hj⟩ := vr_int hb
        rw [hi] at hj
        simp only [Option.some.injEq, Dyn.mk.injEq] at hj
        obtain ⟨e2, e3⟩ := hj
        cases e2
        have e3 := eq_of_heq e3
        subst e3
        obtain ⟨c1, e1, z, d, fs, q1, q2, q3, q4, q5, q6, q7, q8, q9⟩ := data_ok ok (ofFs_ok (X.tb el).zero) h
        have hz := crs_map (ρ := c.ρ) (β := c.β) (ι := c.ι) (xs := []) q5
        obtain ⟨t0, zv⟩ := d
        simp only at q7
        subst q7
        obtain ⟨⟨h1, h2, h3⟩, h4⟩ := q9
        rw [den_int (q1.den hi)] at h1 h2 h3 h4
        rw [den_as q6] at h4
        have h5 := h4 _ rfl
        obtain ⟨n0, rfl⟩ : ∃ n0 : Nat, i = n0 := ⟨i.toNat, by omega⟩
        simp only [hd]
        have hc : (Nat.beq n0 n0 && Nat.ble n0 16777216 && Nat.ble (n0 * (X.tb el).bytes) 16777216 && Nat.blt 0 (X.tb el).size && Nat.ble el 4294967295) = true := by
          rw [Nat.beq_refl, hsz, hel]
          have a1 : Nat.ble n0 16777216 = true := by rw [Nat.ble_eq]; omega
          have a2 : Nat.ble (n0 * (X.tb el).bytes) 16777216 = true := by rw [Nat.ble_eq]; exact Int.ofNat_le.1 (by rw [Int.natCast_mul]; exact h3)
          rw [a1, a2]; rfl
        simp only [hno, hc]
        refine ⟨_, rfl, fun p hp => ?_⟩
        rw [List.mem_singleton.1 hp]
        simp only [Int.toNat_natCast] at h5
        have okp := q4.push (⟨.list t0, List.replicate n0 zv⟩ : Dyn U.B)
        obtain ⟨s1, s2, s3⟩ := add_arr okp (ty := el) (sz := (X.tb el).size) (q4.new _) (repF_row q8 n0) hw (ble_nat hel)
        rw [← q2] at h5
        have h6 := hk _ _ _ _ (q1.trans ((Le.push c1 _).trans s1)) s2 s3 h5
        have e4 : (c1.push ⟨.list t0, List.replicate n0 zv⟩).σ = c.σ := q3
        have e5 : ((c1.push ⟨.list t0, List.replicate n0 zv⟩).add el (.arr true 0 el (X.tb el).size t0 e1.new) (.arr true el (X.tb el).size (repF n0 fs))).σ = c.σ ++ [.arr true el (X.tb el).size (repF n0 fs)] := by rw [← e4]; rfl
        rw [e4, e5, List.length_replicate] at h6
        rw [hz]
        exact h6
      · exact h.elim
    · exact h.elim
  · exact h.elim
theorem grow_ok (ok : Ok c e) {t u : TypeId} {a b : SV} {va vb : V} (ha : c.vr a va) (hb : c.vr b vb) {k : K1} {K : V → St → Prop} (hk : FollS Sp Post Go c k K) (hX : X.lay = U.lay) (h : TDen Sp Post Go (growS X e t u a b c.S k) c.ρ) :
    (∃ k, (X.tb u).d = .int k) ∧ ∃ l, xbuiltin X.tb .append [va, vb] [t, u] c.σ = some l ∧ ∀ p ∈ l, K p.1 p.2 := by
  unfold growS at h
  split at h
  · rename_i el kd n hd hu
    split at h
    · rename_i t0 ht hno hel
      split at h
      · rename_i hw
        have hw := beq_nat hw
        rw [hX] at hw h
        rw [wid_eq] at hw
        obtain ⟨y0, rfl, hn0⟩ := V_c (by simp) ha
        simp only [CR] at hn0
        subst hn0
        obtain ⟨i, rfl, hi⟩ := vr_int hb
        obtain ⟨hne, h⟩ := h
        rw [den_int hi] at hne
        obtain ⟨c1, e1, z, d, fs, q1, q2, q3, q4, q5, q6, q7, q8, q9⟩ := data_ok ok (ofFs_ok (X.tb el).zero) h
        have hz := crs_map (ρ := c.ρ) (β := c.β) (ι := c.ι) (xs := []) q5
        obtain ⟨t1, zv⟩ := d
        simp only at q7
        subst q7
        obtain ⟨⟨h1, h2, h3⟩, h4⟩ := q9
        rw [den_int (q1.den hi)] at h1 h2 h3 h4
        rw [den_as q6] at h4
        have h5 := h4 _ rfl
        obtain ⟨n0, rfl⟩ : ∃ n0 : Nat, i = n0 := ⟨i.toNat, by omega⟩
        have hc : (Nat.blt 0 n0 && Nat.ble n0 16777216 && Nat.ble (n0 * (X.tb el).bytes) 16777216 && Nat.ble el 4294967295) = true := by
          rw [hel]
          have a0 : Nat.blt 0 n0 = true := blt_true (by omega)
          have a1 : Nat.ble n0 16777216 = true := by rw [Nat.ble_eq]; omega
          have a2 : Nat.ble (n0 * (X.tb el).bytes) 16777216 = true := by rw [Nat.ble_eq]; exact Int.ofNat_le.1 (by rw [Int.natCast_mul]; exact h3)
          rw [a0, a1, a2]; rfl
        refine ⟨⟨_, hu⟩, ?_⟩
        show ∃ l, (match (X.tb t).d, (X.tb u).d with
          | .slice e, .int _ =>
            (match (X.tb e).d.isNo, Nat.blt 0 n0 && Nat.ble n0 16777216 && Nat.ble (n0 * (X.tb e).bytes) 16777216 && Nat.ble e 4294967295 with
            | false, true => some [(V.c (.rs c.σ.length e n0), c.σ ++ [Ob.arr true e (X.tb e).size (repF n0 (X.tb e).zero)])]
            | _, _ => none)
          | _, _ => none) = some l ∧ ∀ p ∈ l, K p.1 p.2
        simp only [hd, hu, hno, hc]
        refine ⟨_, rfl, fun p hp => ?_⟩
        rw [List.mem_singleton.1 hp]
        simp only [Int.toNat_natCast] at h5
        have okp := q4.push (⟨.list t1, List.replicate n0 zv⟩ : Dyn U.B)
        obtain ⟨s1, s2, s3⟩ := add_arr okp (ty := el) (sz := (X.tb el).size) (q4.new _) (repF_row q8 n0) hw (ble_nat hel)
        rw [← q2] at h5
        have h6 := hk _ _ _ _ (q1.trans ((Le.push c1 _).trans s1)) s2 s3 h5
        have e4 : (c1.push ⟨.list t1, List.replicate n0 zv⟩).σ = c.σ := q3
        have e5 : ((c1.push ⟨.list t1, List.replicate n0 zv⟩).add el (.arr true 0 el (X.tb el).size t1 e1.new) (.arr true el (X.tb el).size (repF n0 fs))).σ = c.σ ++ [.arr true el (X.tb el).size (repF n0 fs)] := by rw [← e4]; rfl
        rw [e4, e5, List.length_replicate] at h6
        rw [hz]
        exact h6
      · exact h.elim
    · exact h.elim
  · exact h.elim
theorem crs_cap {ρ : Rho U} {β : Nat → Nat} {ι : Inf} {ρS : Operand → SV} {ρV : Operand → V} (hρ : ∀ x, VR ρ β ι (ρS x) (ρV x)) : ∀ (l : List Operand), CRs ρ β ι (l.map fun x => capS (ρS x)) (l.map fun x => (ρV x).cap)
  | [] => by simp only [List.map_nil, CRs]
  | x :: r => by
    simp only [List.map_cons, CRs]
    refine ⟨_, _, rfl, ?_, crs_cap hρ r⟩
    have h := hρ x
    cases hx : ρS x with
    | c y =>
      rw [hx] at h
      by_cases hun : y = .un
      · subst hun; simp only [capS, CR]
      · obtain ⟨z, e1, h1⟩ := V_c hun h
        rw [e1]
        exact h1
    | a l => simp only [capS, CR]
    | t l => simp only [capS, CR]
theorem allB_frz : ∀ {ks : List KK} {l m : List SC} {l' m' : List Dm.C} {ρ : Rho U} {β : Nat → Nat} {ι : Nat → Option (Nat × Nat)}, allB ks l m = true → CRs ρ β ι l l' → CRs ρ β ι m m' →
    ∃ fs fs', frz l' = some fs ∧ frz m' = some fs' ∧ matchK ks fs = true ∧ matchK ks fs' = true
  | [], l, m, l', m', ρ, β, ι, h, hl, hm => by
    cases l <;> cases m <;> simp only [allB] at h <;> first | cases h | skip
    simp only [CRs] at hl hm
    subst hl hm
    exact ⟨[], [], rfl, rfl, rfl, rfl⟩
  | k :: ks, l, m, l', m', ρ, β, ι, h, hl, hm => by
    unfold allB at h
    split at h
    · rename_i h0; cases h0
    · rename_i ks' a l0 b m0 h0
      cases h0
      simp only [CRs] at hl hm
      obtain ⟨x, xr, rfl, h1, h2⟩ := hl
      obtain ⟨y, yr, rfl, h3, h4⟩ := hm
      simp only [CR] at h1 h3
      obtain ⟨f, ⟨t, n⟩, rfl, d1, rfl, d2⟩ := h1
      obtain ⟨f', ⟨t', n'⟩, rfl, d3, rfl, d4⟩ := h3
      cases FD.bool d2
      cases FD.bool d4
      obtain ⟨fs, fs', q1, q2, q3, q4⟩ := allB_frz h h2 h4
      exact ⟨.bool n :: fs, .bool n' :: fs', by simp only [frz, q1], by simp only [frz, q2], q3, q4⟩
    · cases h
theorem aggK_ok {bt bf : Bool} {k : K1} {K : V → St → Prop} : ∀ {ks : List KK} {l m : List SC} {l' m' : List Dm.C} {c : Cx U} {e : SE}, Ok c e → allB ks l m = true → CRs c.ρ c.β c.ι l l' → CRs c.ρ c.β c.ι m m' → FollS Sp Post Go c k K →
    TDen Sp Post Go (aggK bt bf (fun e x => k e (vb x) c.S) l m e) c.ρ → ∃ fs fs', frz l' = some fs ∧ frz m' = some fs' ∧ matchK ks fs = true ∧ matchK ks fs' = true ∧ K (vbool (match F.eqbs fs fs' with | true => bt | false => bf)) c.σ
  | [], l, m, l', m', c, e, ok, h, hl, hm, hk, hD => by
    cases l <;> cases m <;> simp only [allB] at h <;> first | cases h | skip
    simp only [CRs] at hl hm
    subst hl hm
    exact ⟨[], [], rfl, rfl, rfl, rfl, hk c e _ _ (Le.refl c) ok (vd_of (d := ⟨.bool, bt⟩) (f := .bool bt) rfl rfl rfl) hD⟩
  | kk :: ks, l, m, l', m', c, e, ok, h, hl, hm, hk, hD => by
    have hsh := allB_frz h hl hm
    unfold allB at h
    split at h
    · rename_i h0; cases h0
    · rename_i ks' a l0 b m0 h0
      cases h0
      simp only [CRs] at hl hm
      obtain ⟨x, xr, rfl, h1, h2⟩ := hl
      obtain ⟨y, yr, rfl, h3, h4⟩ := hm
      simp only [CR] at h1 h3
      obtain ⟨f, ⟨t, n⟩, rfl, d1, rfl, d2⟩ := h1
      obtain ⟨f', ⟨t', n'⟩, rfl, d3, rfl, d4⟩ := h3
      cases FD.bool d2
      cases FD.bool d4
      have h5 := hD _ rfl
      simp only at h5
      rw [den_bool d1, den_bool d3] at h5
      obtain ⟨h6, h7⟩ := h5
      let c2 := c.push ⟨.bool, n == n'⟩
      have ok2 : Ok c2 (e.push .bool) := ok.push _
      have hx : (e.new.den (c.ρ ++ [⟨.bool, n == n'⟩])).bool = (n == n') := den_bool (ok.new _)
      rw [hx] at h6 h7
      have e1 : F.eqb (.bool n) (.bool n') = (n == n') := by cases n <;> cases n' <;> rfl
      cases hn : (n == n') with
      | true =>
        rw [hn] at e1
        obtain ⟨fs, fs', q1, q2, q3, q4, q5⟩ := aggK_ok (c := c2) (e := e.push .bool) ok2 h (CRs.later (Le.push c _) h2) (CRs.later (Le.push c _) h4) (hk.later (Le.push c _)) (h6 hn)
        refine ⟨.bool n :: fs, .bool n' :: fs', by simp only [frz, q1], by simp only [frz, q2], q3, q4, ?_⟩
        show K (vbool (match F.eqb (.bool n) (.bool n') && F.eqbs fs fs' with | true => bt | false => bf)) c.σ
        rw [e1, Bool.true_and]
        exact q5
      | false =>
        rw [hn] at e1
        obtain ⟨fs, fs', q1, q2, q3, q4⟩ := allB_frz h h2 h4
        refine ⟨.bool n :: fs, .bool n' :: fs', by simp only [frz, q1], by simp only [frz, q2], q3, q4, ?_⟩
        show K (vbool (match F.eqb (.bool n) (.bool n') && F.eqbs fs fs' with | true => bt | false => bf)) c.σ
        rw [e1, Bool.false_and]
        exact hk c2 _ _ _ (Le.push c _) ok2 (vd_of (d := ⟨.bool, bf⟩) (f := .bool bf) rfl rfl rfl) (h7 hn)
    · cases h
theorem aggEq_ok (ok : Ok c e) {t : TypeId} {op : BinOp} {x y : SV} {v w : V} (hx : c.vr x v) (hy : c.vr y w) {k : K1} {K : V → St → Prop} (hk : FollS Sp Post Go c k K) (h : TDen Sp Post Go (aggEqS X e t op x y c.S k) c.ρ) :
    ∃ l, (match xaggEq (X.tb t).key op v w with | some v => some [(v, c.σ)] | none => none) = some l ∧ ∀ p ∈ l, K p.1 p.2 := by
  unfold aggEqS at h
  split at h
  · rename_i kk ks l m bt bf hkey hbt hbf
    split at h
    · rename_i hall
      obtain ⟨l', rfl, h1⟩ := (show ∃ l', v = .a l' ∧ CRs c.ρ c.β c.ι l l' by simpa only [Cx.vr, VR] using hx)
      obtain ⟨m', rfl, h2⟩ := (show ∃ l', w = .a l' ∧ CRs c.ρ c.β c.ι m l' by simpa only [Cx.vr, VR] using hy)
      obtain ⟨fs, fs', q1, q2, q3, q4, q5⟩ := aggK_ok ok hall h1 h2 hk h
      rw [hkey]
      simp only [xaggEq, q1, q2, q3, q4, Bool.and_self]
      cases hE : F.eqbs fs fs' with
      | true =>
        rw [hE] at q5
        simp only [neg_ok hbt]
        exact ⟨_, rfl, fun p hp => by rw [List.mem_singleton.1 hp]; exact q5⟩
      | false =>
        rw [hE] at q5
        simp only [neg_ok hbf]
        exact ⟨_, rfl, fun p hp => by rw [List.mem_singleton.1 hp]; exact q5⟩
    · exact h.elim
  · exact h.elim
theorem raw_ok (ok : Ok c e) {m : Nat} {A : SA} {A' : AF} (hA : inA m A') (hf : FrR c A A') {o : Op} {pf : FuncId → Bool} {k : K1} {K : V → St → Prop} (hk : FollS Sp Post Go c k K) (hX : X.lay = U.lay) (h : TDen Sp Post Go (rawS X e o (opS A) c.S k) c.ρ) :
    vdo (mx P) pf X.tb o (toFr m A') c.σ K := by
  have eo : opd (toFr m A') = opA A' := funext (toFr_opd hA)
  unfold rawS at h
  split at h
  · rename_i s d x
    obtain ⟨h1, h2⟩ := conv_ok (o := x) ok (op_ok hf x) hk h
    simp only [vdo, vop2, h1, vop, eo]
    exact h2
  · rename_i op t x y p
    split at h
    · rename_i el hd
      have := nilEq_ok ok (op_ok hf x) (op_ok hf y) hk hX h
      simp only [vdo, vop2, extraB, hd, vextra, xextra, eo]
      exact this
    · rename_i el hd
      have := ptrEq_ok ok (op_ok hf x) (op_ok hf y) hk h
      simp only [vdo, vop2, extraB, hd, vextra, xextra, eo]
      exact this
    · rename_i nn hd
      have := aggEq_ok ok (op_ok hf x) (op_ok hf y) hk h
      simp only [vdo, vop2, extraB, hd, vextra, xextra, eo]
      exact this
    · exact h.elim
  · rename_i t a b
    have := make_ok ok (op_ok hf a) (op_ok hf b) hk hX h
    simp only [vdo, vop2, extraB, vextra, xextra, eo]
    exact this
  · rename_i f first captured
    split at h
    · rename_i hfirst
      simp only [vdo, vop2, extraB, vop, hfirst, eo]
      refine hk c e _ _ (Le.refl c) ok (VR.c ?_) h
      simp only [CR]
      exact ⟨_, rfl, crs_cap (op_ok hf) _⟩
    · exact h.elim
  · rename_i args argTypes
    split at h
    · rename_i x t h1 h2
      split at h
      · rename_i el hd hx
        have h3 := op_ok hf x
        rw [hx] at h3
        obtain ⟨y, e1, h4⟩ := V_c (by simp) h3
        simp only [CR] at h4
        subst h4
        simp only [vdo, vop2, extraB, vextra, xextra, h1, h2, List.map_cons, List.map_nil, eo, e1, xbuiltin, hd]
        refine ⟨_, rfl, fun p hp => ?_⟩
        rw [List.mem_singleton.1 hp]
        exact hk c e _ _ (Le.refl c) ok (vd_of (d := ⟨.int .i64, (0 : Int)⟩) (f := .int .i64 0) rfl rfl rfl) h
      · exact h.elim
    · exact h.elim
  · rename_i args argTypes
    split at h
    · rename_i x y t u h1 h2
      obtain ⟨⟨kk, hu⟩, hl⟩ := grow_ok ok (op_ok hf x) (op_ok hf y) hk hX h
      simp only [vdo, vop2, extraB, h2, hu, vextra, xextra, h1, List.map_cons, List.map_nil, eo]
      exact hl
    · exact h.elim
  · exact h.elim
theorem vrs_app : ∀ {l m : List SV} {l' m' : List V}, c.vrs l l' → c.vrs m m' → c.vrs (l ++ m) (l' ++ m')
  | [], m, l', m', h, k => by simp only [Cx.vrs, VRs] at h; subst h; exact k
  | x :: r, m, l', m', h, k => by
    simp only [Cx.vrs, VRs] at h
    obtain ⟨v, vr, rfl, h1, h2⟩ := h
    simp only [List.cons_append, Cx.vrs, VRs]
    exact ⟨v, vr ++ m', rfl, h1, vrs_app h2 k⟩
theorem vrs_caps : ∀ {l : List SC} {l' : List Dm.C}, CRs c.ρ c.β c.ι l l' → c.vrs (l.map SV.c) (l'.map V.c)
  | [], l', h => by simp only [CRs] at h; subst h; simp only [List.map_nil, Cx.vrs, VRs]
  | x :: r, l', h => by
    simp only [CRs] at h
    obtain ⟨y, l0, rfl, h1, h2⟩ := h
    simp only [List.map_cons, Cx.vrs, VRs]
    exact ⟨_, _, rfl, VR.c h1, vrs_caps h2⟩
theorem sop_ok {call : CallS} (hcall : CallSOk (U := U) P Sp Post Go call) (hX : X.lay = U.lay) (ok : Ok c e) {m : Nat} {A : SA} {A' : AF} (hA : inA m A') (hf : FrR c A A') {s : SOp} {k : K1} {K : V → St → Prop} (hk : FollS Sp Post Go c k K)
    (h : TDen Sp Post Go (sop X call s e A c.S k) c.ρ) : wop (wx P) (fun _ => false) X.tb m s A' c.σ K := by
  cases s with
  | mv x => exact hk c e _ _ (Le.refl c) ok (op_ok hf x) h
  | pick x a b => exact pick_ok ok (op_ok hf x) (op_ok hf a) (op_ok hf b) hk.foll h
  | bin d op x y => exact bin_ok ok (op_ok hf x) (op_ok hf y) hk.foll h
  | un op x => exact un_ok ok (op_ok hf x) hk.foll h
  | alloc z => exact alloc_ok ok hk h
  | box x => exact box_ok ok (op_ok hf x) hk h
  | load agg n x =>
    simp only [sop] at h
    rw [hX] at h
    have : vload prims agg n (addr (opA A' x)) c.σ fun v => K v c.σ :=
      addr_ok ok (op_ok hf x) (K := fun v => vload prims agg n v c.σ fun v => K v c.σ) (fun c1 e1 sv v h1 h2 h3 h4 h5 h6 => by
        rw [← h3]
        rw [← h2] at h6
        refine load_ok h4 h5 ?_ h6
        exact (hk.later h1).foll) h
    show wload qprims agg n (addr (opA A' x)) c.σ fun v => K v c.σ
    generalize addr (opA A' x) = v at this
    unfold wload
    split
    · unfold vload at this
      cases agg <;> exact this
    · unfold vload at this
      split at this <;> first
        | (rename_i hh; cases hh; done)
        | skip
      · rename_i o' e' off' _ _ _ hh
        cases hh
        split at this
        · rename_i ho
          simp only [ho]
          cases agg <;> exact this
        · exact this.elim
      · rename_i hh1 hh2 hh3; exact (hh3 _ _ _ rfl).elim
    · exact this
  | store n a x => rw [sop, hX] at h; exact store_ok ok (op_ok hf a) (op_ok hf x) hk h
  | call x args =>
    simp only [sop] at h
    have hx := op_ok hf x
    split at h
    · rename_i f e1
      rw [e1] at hx
      obtain ⟨y, e2, h1⟩ := V_c (by simp) hx
      simp only [CR] at h1
      subst h1
      have := hcall c e f _ _ k K ok (ops_ok hf args) hk h
      show match callee (opA A' x) (args.map (opA A')) with | some (f, l) => CallAt P f l c.σ K | none => False
      rw [e2]
      exact this
    · rename_i f caps e1
      rw [e1] at hx
      obtain ⟨y, e2, h1⟩ := V_c (by simp) hx
      simp only [CR] at h1
      obtain ⟨l, rfl, h1⟩ := h1
      have hargs : c.vrs (args.map (opS A) ++ caps.map SV.c) (args.map (opA A') ++ l.map V.c) := vrs_app (ops_ok hf args) (vrs_caps h1)
      have := hcall c e f _ _ k K ok hargs hk h
      show match callee (opA A' x) (args.map (opA A')) with | some (f, l) => CallAt P f l c.σ K | none => False
      rw [e2]
      exact this
    · exact h.elim
  | fa off x =>
    simp only [sop] at h
    have : vfield prims (addr (opA A' x)) off c.σ fun v => K v c.σ :=
      addr_ok ok (op_ok hf x) (K := fun v => vfield prims v off c.σ fun v => K v c.σ) (fun c1 e1 sv v h1 h2 h3 h4 h5 h6 => by
        rw [← h3]
        rw [← h2] at h6
        refine field_ok h4 h5 (k := fun e v => k e v c1.S) ?_ h6
        exact (hk.later h1).foll) h
    show wfield qprims (addr (opA A' x)) off c.σ fun v => K v c.σ
    generalize addr (opA A' x) = v at this
    unfold wfield
    unfold vfield at this
    have more : ∀ {o i : Nat} {k : Nat → Prop}, k (vmore prims o i) → wmore qprims o i k := fun {o i k} hk => by cases i <;> exact hk
    split at this
    · exact this
    · exact more (k := fun i => K (.c (.ep _ i)) c.σ) this
    · split at this
      · rename_i ho
        simp only [ho]
        exact ⟨this.1, more (k := fun i => K (.c (.pa _ _ i)) c.σ) this.2⟩
      · exact this.elim
    · exact this.elim
  | fld agg off n x =>
    simp only [sop] at h
    have hx := op_ok hf x
    split at h
    · rename_i l e1
      rw [e1] at hx
      simp only [Cx.vr, VR] at hx
      obtain ⟨l', e2, h1⟩ := hx
      show match opA A' x with | .a l => vpart agg l off n fun v => K v c.σ | _ => False
      rw [e2]
      exact part_ok ok h1 (k := fun e v => k e v c.S) hk.foll h
    · exact h.elim
  | ixr sz x i =>
    simp only [sop] at h
    rw [hX] at h
    have hx := op_ok hf x
    have := ixr_ok ok hx (op_ok hf i) hk.foll h
    show wixrow qprims sz (addr (opA A' x)) (opA A' i) c.σ fun v => K v c.σ
    generalize opA A' x = v at this
    generalize opA A' i = u at this
    unfold ixrow at this
    unfold wixrow
    split at this
    · exact this
    · split at this
      · rename_i ho
        simp only [addr, ho]
        exact ⟨this.1, this.2.1, this.2.2⟩
      · exact this.elim
    · exact this.elim
  | ixa n sz x i =>
    simp only [sop] at h
    show ixarr prims n sz (addr (opA A' x)) (opA A' i) c.σ fun v => K v c.σ
    exact addr_ok ok (op_ok hf x) (K := fun v => ixarr prims n sz v (opA A' i) c.σ fun v => K v c.σ) (fun c1 e1 sv v h1 h2 h3 h4 h5 h6 => by
        rw [← h3]
        rw [← h2] at h6
        refine ixa_ok h4 h5 (h1.vr (op_ok hf i)) (k := fun e v => k e v c1.S) ?_ h6
        exact (hk.later h1).foll) h
  | chr x i =>
    have := chr_ok ok (op_ok hf x) (op_ok hf i) hk.foll h
    show match opA A' x, opA A' i with | .c (.f (.str s)), .c (.f (.int _ j)) => qprims.schr s j fun r => K (.c (.f (.int .u8 r))) c.σ | _, _ => False
    generalize opA A' x = v at this
    generalize opA A' i = u at this
    unfold ixchr at this
    split at this
    · exact this
    · exact this.elim
  | len d x =>
    have := len_ok ok (op_ok hf x) hk.foll h
    show wlen qprims d (opA A' x) c.σ fun v => K v c.σ
    generalize opA A' x = v at this
    unfold wlen
    split
    · exact this
    · unfold vlen at this
      split
      · rename_i ho
        simp only [ho] at this
        exact this
      · rename_i hno
        simp only at this
    · exact this
    · exact this
  | app d ty sz bytes x y => rw [sop, hX] at h; exact app_ok ok (op_ok hf x) (op_ok hf y) hk h
  | slc d sz x lo hi =>
    rw [sop, hX] at h
    have om : ∀ o : Option Operand, (o.map (opS A) = none ∧ o.map (opA A') = none) ∨ ∃ x v, o.map (opS A) = some x ∧ o.map (opA A') = some v ∧ c.vr x v := fun o => by
      cases o with
      | none => exact .inl ⟨rfl, rfl⟩
      | some x => exact .inr ⟨_, _, rfl, rfl, op_ok hf x⟩
    exact slc_ok ok (op_ok hf x) (om lo) (om hi) hk h
  | ext x i =>
    simp only [sop] at h
    have hx := op_ok hf x
    split at h
    · rename_i l e1
      rw [e1] at hx
      simp only [Cx.vr, VR] at hx
      obtain ⟨l', e2, h1⟩ := hx
      split at h
      · rename_i v hv
        rw [nth_eq] at hv
        obtain ⟨u, h2, h3⟩ := VRs.get h1 hv
        show match opA A' x with | .t l => (match l[i]? with | some v => K v c.σ | none => False) | _ => False
        rw [e2]
        simp only [h2]
        exact hk c e _ _ (Le.refl c) ok h3 h
      · exact h.elim
    · exact h.elim
  | nilc x =>
    have := nilc_ok ok (op_ok hf x) hk.foll h
    simp only [wop, vopA]
    generalize opA A' x = v at this
    unfold NilV at this
    split at this
    · exact this
    · exact this
    · exact this
    · rename_i o e' off
      simp only
      cases ho : c.σ[o]? with
      | none => simp only [ho] at this
      | some ob =>
        simp only [ho] at this ⊢
        cases ob <;> exact this
    · exact this.elim
  | bi b ts args => exact bi_ok ok (ops_ok hf args) hk h
  | bld z parts =>
    simp only [sop] at h
    split at h
    · rename_i l hl
      obtain ⟨l', h1, h2⟩ := fill_ok (op_ok hf) parts (ofFs_ok z) hl
      show match sfill (opA A') parts (z.map .f) with | some l => K (.a l) c.σ | none => False
      rw [h1]
      exact hk c e _ _ (Le.refl c) ok (by simp only [Cx.vr, VR]; exact ⟨l', rfl, h2⟩) h
    · exact h.elim
  | bsl n ty sz z parts => rw [sop, hX] at h; exact bsl_ok ok (op_ok hf) hk h
  | raw o =>
    have hv := raw_ok (P := P) (pf := fun _ => false) ok hA hf hk hX h
    cases o with
    | convert s d x =>
      show match (X.tb s).d, (X.tb d).d, opA A' x with
        | .int _, .int j, .c (.f (.int _ n)) => qprims.wrap j n fun r => K (.c (.f (.int j r))) c.σ
        | _, _, _ => vopA (wx P).mx (fun _ => false) X.tb m (.raw (.convert s d x)) A' c.σ K
      split
      · rename_i j0 j kd n e1 e2 e3
        have eo : opd (toFr m A') = opA A' := funext (toFr_opd hA)
        have : vconv prims X.tb s d (opA A' x) c.σ K := by
          have h5 : extraB X.tb (.convert s d x) = false := by simp only [extraB, e1, e2]
          simp only [vdo, vop2, h5, vop, eo] at hv
          exact hv
        unfold vconv at this
        simp only [e1, e2, e3] at this
        exact this
      · exact hv
    | _ => exact hv
end Go.Dm.Sx
namespace Go.Dm
set_option linter.unusedVariables false
set_option linter.unusedSimpArgs false
structure Em where
  n : Nat
  os : Nat → Nat
  inv : Nat → Option Nat
  E1 : Nat → Nat
  E : Nat → Nat
structure Em.Ok (m : Em) : Prop where
  inv_os : ∀ j, j < m.n → m.inv (m.os j) = some j
  os_inv : ∀ i j, m.inv i = some j → j < m.n ∧ m.os j = i
mutual
def RnC (m : Em) : C → C → Prop
  | .f x, c => c = .f x
  | .ptr o off, c => o < m.n ∧ c = .ptr (m.os o) off
  | .rs o e k, c => o < m.n ∧ e = m.E1 o ∧ c = .rs (m.os o) (m.E o) k
  | .mp o, c => o < m.n ∧ c = .mp (m.os o)
  | .clo f caps, c => ∃ l, c = .clo f l ∧ RnCs m caps l
  | .un, c => c = .un
  | .pa .., _ => False
  | .ep cs off, c => c = .ep cs off
def RnCs (m : Em) : List C → List C → Prop
  | [], l => l = []
  | c :: r, l => ∃ c' r', l = c' :: r' ∧ RnC m c c' ∧ RnCs m r r'
end
mutual
def RnV (m : Em) : V → V → Prop
  | .c x, v => ∃ y, v = .c y ∧ RnC m x y
  | .a l, v => ∃ l', v = .a l' ∧ RnCs m l l'
  | .t l, v => ∃ l', v = .t l' ∧ RnVs m l l'
def RnVs (m : Em) : List V → List V → Prop
  | [], l => l = []
  | c :: r, l => ∃ c' r', l = c' :: r' ∧ RnV m c c' ∧ RnVs m r r'
end
def RnO (m : Em) (j : Nat) : Ob → Ob → Prop
  | .cells l, ob => ∃ l', ob = .cells l' ∧ RnCs m l l'
  | .arr w e sz fs, ob => e = m.E1 j ∧ ob = .arr w (m.E j) sz fs
  | .map kv, ob => ob = .map kv
  | .bld T u x, ob => ∃ x', ob = .bld T u x' ∧ RnC m x x'
  | .gone, ob => ob = .gone
theorem RnO.row {m : Em} {j : Nat} {a b : Ob} (h : RnO m j a b) : b.row = a.row := by
  cases a <;> simp only [RnO] at h
  · obtain ⟨l', rfl, _⟩ := h; rfl
  · obtain ⟨_, rfl⟩ := h; rfl
  · subst h; rfl
  · obtain ⟨l', rfl, _⟩ := h; rfl
  · subst h; rfl
theorem RnO.live {m : Em} {j : Nat} {a b : Ob} (h : RnO m j a b) : live b = live a := by
  cases a <;> simp only [RnO] at h
  · obtain ⟨l', rfl, _⟩ := h; rfl
  · obtain ⟨_, rfl⟩ := h; rfl
  · subst h; rfl
  · obtain ⟨l', rfl, _⟩ := h; rfl
  · subst h; rfl
theorem RnO.own {m : Em} {j : Nat} {a b : Ob} (h : RnO m j a b) (o : Nat) : ownAt b o ↔ ownAt a o := by
  cases a <;> simp only [RnO] at h
  · obtain ⟨l', rfl, _⟩ := h; exact Iff.rfl
  · rename_i w e sz fs; obtain ⟨_, rfl⟩ := h; cases w <;> exact Iff.rfl
  · subst h; exact Iff.rfl
  · obtain ⟨l', rfl, _⟩ := h; exact Iff.rfl
  · subst h; exact Iff.rfl
structure Part (m : Em) (σ1 σ : St) : Prop where
  ok : m.Ok
  len : σ1.length = m.n
  at_ : ∀ j ob1, σ1[j]? = some ob1 → ∃ ob, σ[m.os j]? = some ob ∧ RnO m j ob1 ob
def Em.back (m : Em) (g : G) : G := ⟨g.Z, fun j => g.blk (m.os j), fun j => g.cap (m.os j)⟩
section
variable {m : Em} {g : G} {w : World} {σ σ1 : St}
mutual
theorem backC (hp : Part m σ1 σ) : ∀ {c c' : C} {v : Value}, RnC m c c' → CRep g w σ c' v → CRep (m.back g) w σ1 c v
  | .f x, c', v, h, hv => by simp only [RnC] at h; subst h; exact FRep.turn (g := g) (g' := m.back g) (w := w) (w' := w) (fun b o hz => ⟨hz, rfl⟩) _ _ hv
  | .ptr o off, c', v, h, hv => by
    obtain ⟨ho, rfl⟩ := h
    obtain ⟨b, ob, h1, rfl, h2, h3⟩ := hv
    obtain ⟨ob1, h4⟩ : ∃ ob1, σ1[o]? = some ob1 := ⟨_, List.getElem?_eq_getElem (hp.len ▸ ho)⟩
    obtain ⟨ob', h5, h6⟩ := hp.at_ o ob1 h4
    rw [h2] at h5; cases h5
    exact ⟨b, ob1, h1, rfl, h4, h6.row ▸ h3⟩
  | .rs o e k, c', v, h, hv => by
    obtain ⟨ho, rfl, rfl⟩ := h
    obtain ⟨h0, ob, h1, h2⟩ := hv
    obtain ⟨ob1, h4⟩ : ∃ ob1, σ1[o]? = some ob1 := ⟨_, List.getElem?_eq_getElem (hp.len ▸ ho)⟩
    obtain ⟨ob', h5, h6⟩ := hp.at_ o ob1 h4
    rw [h1] at h5; cases h5
    refine ⟨h0, ob1, h4, ?_⟩
    cases ob1 <;> simp only [RnO] at h6
    · obtain ⟨l', rfl, _⟩ := h6; exact h2.elim
    · obtain ⟨rfl, rfl⟩ := h6
      exact ⟨Nat.le_refl _, fun _ => h2.2 rfl⟩
    · subst h6; exact h2.elim
    · obtain ⟨l', rfl, _⟩ := h6; exact h2.elim
    · trivial
  | .mp o, c', v, h, hv => by
    obtain ⟨ho, rfl⟩ := h
    obtain ⟨b, ob, h1, rfl, h2, h3⟩ := hv
    obtain ⟨ob1, h4⟩ : ∃ ob1, σ1[o]? = some ob1 := ⟨_, List.getElem?_eq_getElem (hp.len ▸ ho)⟩
    obtain ⟨ob', h5, h6⟩ := hp.at_ o ob1 h4
    rw [h2] at h5; cases h5
    exact ⟨b, ob1, h1, rfl, h4, h6.row ▸ h3⟩
  | .clo f caps, c', v, h, hv => by
    obtain ⟨l, rfl, h1⟩ := h
    obtain ⟨vs, rfl, h2⟩ := hv
    exact ⟨vs, rfl, backCs hp h1 h2⟩
  | .un, c', v, h, hv => trivial
  | .pa .., c', v, h, hv => h.elim
  | .ep cs off, c', v, h, hv => by
    simp only [RnC] at h; subst h
    obtain ⟨b, o, rfl, h1⟩ := hv
    exact ⟨b, o, rfl, FRow.turn (g := g) (g' := m.back g) (w := w) (w' := w) (fun b o hz => ⟨hz, rfl⟩) _ _ _ h1⟩
theorem backCs (hp : Part m σ1 σ) : ∀ {c c' : List C} {v : List Value}, RnCs m c c' → CReps g w σ c' v → CReps (m.back g) w σ1 c v
  | [], c', v, h, hv => by simp only [RnCs] at h; subst h; exact hv
  | c :: r, c', v, h, hv => by
    obtain ⟨x, y, rfl, h1, h2⟩ := h
    obtain ⟨u, ur, rfl, h3, h4⟩ := hv
    exact ⟨u, ur, rfl, backC hp h1 h3, backCs hp h2 h4⟩
end
mutual
theorem backV (hp : Part m σ1 σ) : ∀ {c c' : V} {v : Value}, RnV m c c' → VRep g w σ c' v → VRep (m.back g) w σ1 c v
  | .c x, c', v, h, hv => by obtain ⟨y, rfl, h1⟩ := h; exact backC hp h1 hv
  | .a l, c', v, h, hv => by obtain ⟨l', rfl, h1⟩ := h; obtain ⟨vs, rfl, h2⟩ := hv; exact ⟨vs, rfl, backCs hp h1 h2⟩
  | .t l, c', v, h, hv => by obtain ⟨l', rfl, h1⟩ := h; obtain ⟨vs, rfl, h2⟩ := hv; exact ⟨vs, rfl, backVs hp h1 h2⟩
theorem backVs (hp : Part m σ1 σ) : ∀ {c c' : List V} {v : List Value}, RnVs m c c' → VReps g w σ c' v → VReps (m.back g) w σ1 c v
  | [], c', v, h, hv => by simp only [RnVs] at h; subst h; exact hv
  | c :: r, c', v, h, hv => by
    obtain ⟨x, y, rfl, h1, h2⟩ := h
    obtain ⟨u, ur, rfl, h3, h4⟩ := hv
    exact ⟨u, ur, rfl, backV hp h1 h3, backVs hp h2 h4⟩
end
theorem back_own (hp : Part m σ1 σ) {b o : Nat} (h : Own (m.back g) σ1 b o) : Own g σ b o := by
  obtain ⟨j, ob1, h1, h2, h3⟩ := own_iff.1 h
  obtain ⟨ob, h4, h5⟩ := hp.at_ j ob1 h1
  exact own_iff.2 ⟨m.os j, ob, h4, h2, (h5.own o).2 h3⟩
theorem back_rep (hp : Part m σ1 σ) (hE : ∀ j w e sz fs, σ1[j]? = some (.arr w e sz fs) → m.E1 j % 4294967296 = m.E j % 4294967296) (hr : Rep g w σ) : Rep (m.back g) w σ1 where
  ob j ob1 hj := by
    obtain ⟨ob, h1, h2⟩ := hp.at_ j ob1 hj
    have h0 := hr.ob _ _ h1
    cases ob1 with
    | cells l =>
      obtain ⟨l', rfl, h3⟩ := h2
      obtain ⟨b, vs, T, fz, a1, a2, a3, a4⟩ := h0
      exact ⟨b, vs, T, fz, a1, a2, a3, backCs hp h3 a4⟩
    | arr wr e sz fs =>
      obtain ⟨rfl, rfl⟩ := h2
      have hz := FRep.turn (g := g) (g' := m.back g) (w := w) (w' := w) (fun b o hz => ⟨hz, rfl⟩)
      rcases h0 with ⟨a1, a2, a3⟩ | ⟨b, vs, T, fz, rest, a1, a2, a3, a4, a5, ⟨pre, a6, a7, a8⟩, a9, a10⟩
      · exact .inl ⟨a1, a2, a3⟩
      · exact .inr ⟨b, vs, T, fz, rest, a1, a2, a3, a4, a5, ⟨pre, a6, a7, fun j x y => hz _ _ (a8 j x y)⟩, a9, a10.trans (hE _ _ _ _ _ hj).symm⟩
    | map kv =>
      simp only [RnO] at h2; subst h2
      obtain ⟨b, es, clock, a1, a2, a3⟩ := h0
      exact ⟨b, es, clock, a1, a2, KVRep.turn (g := g) (g' := m.back g) (w := w) (w' := w) (fun b o hz => ⟨hz, rfl⟩) a3⟩
    | bld T u x =>
      obtain ⟨x', rfl, h3⟩ := h2
      obtain ⟨b, v, a1, a2, a3⟩ := h0
      exact ⟨b, v, a1, a2, backC hp h3 a3⟩
    | gone => trivial
  inj i j a b k hi hj la lb hbi hbj := by
    obtain ⟨a', h1, h2⟩ := hp.at_ i a hi
    obtain ⟨b', h3, h4⟩ := hp.at_ j b hj
    have := hr.inj _ _ a' b' k h1 h3 (h2.live.trans la) (h4.live.trans lb) hbi hbj
    have li : i < m.n := hp.len ▸ lt_of_get hi
    have lj : j < m.n := hp.len ▸ lt_of_get hj
    have e1 := hp.ok.inv_os i li
    have e2 := hp.ok.inv_os j lj
    rw [this] at e1
    exact Option.some.inj (e1.symm.trans e2)
  apart b o hz ho := hr.apart b o hz (back_own hp ho)
  inside b o hz := hr.inside b o hz
end
def Em.fwd (m : Em) (g g1 : G) : G := ⟨g1.Z, fun i => match m.inv i with | some j => g1.blk j | none => g.blk i, fun i => match m.inv i with | some j => g1.cap j | none => g.cap i⟩
structure Fwd (m m' : Em) (σ1 σ1' σ σ' : St) : Prop where
  n : m'.n = m.n
  os : m'.os = m.os
  inv : m'.inv = m.inv
  in_ : ∀ j, j < m.n → ∃ ob1 ob, σ1'[j]? = some ob1 ∧ σ'[m.os j]? = some ob ∧ RnO m' j ob1 ob
  out : ∀ i, m.inv i = none → σ'[i]? = σ[i]?
  ep : ∀ j, j < m.n → ∀ w e sz fs, σ1'[j]? = some (.arr w e sz fs) → m.E j < m'.E j ∧ m'.E1 j % 4294967296 = m'.E j % 4294967296
section
variable {m m' : Em} {g g1 : G} {w w' : World} {σ σ1 σ1' σ' : St}
theorem fwd_turn (hp : Part m σ1 σ) (hf : Fwd m m' σ1 σ1' σ σ') (hr : Rep g w σ) (ht : Turn (m.back g) w σ1 g1 w' σ1') : Turn g w σ (m.fwd g g1) w' σ' where
  os := ht.os
  tape := ht.tape
  output := ht.output
  size := ht.size
  whole b hb hn := ht.whole b hb fun o ho => hn o (back_own hp ho)
  zs b o hz := ht.zs b o hz
  znew b o hb hz := (ht.znew b o hb hz).imp id (back_own hp)
  onew b o hb ho := by
    obtain ⟨i, ob, h1, h2, h3⟩ := own_iff.1 ho
    cases hi : m.inv i with
    | some j =>
      obtain ⟨hj, rfl⟩ := hp.ok.os_inv i j hi
      obtain ⟨ob1, ob', a1, a2, a3⟩ := hf.in_ j hj
      rw [h1] at a2; cases a2
      have h2' : g1.blk j = some b := by simpa only [Em.fwd, hi] using h2
      exact back_own hp (ht.onew b o hb (own_iff.2 ⟨j, ob1, a1, h2', (a3.own o).1 h3⟩))
    | none =>
      have h2' : g.blk i = some b := by simpa only [Em.fwd, hi] using h2
      rw [hf.out i hi] at h1
      exact own_iff.2 ⟨i, ob, h1, h2', h3⟩
  turns i ob h := by
    cases hi : m.inv i with
    | some j =>
      obtain ⟨hj, rfl⟩ := hp.ok.os_inv i j hi
      obtain ⟨ob1', ob', a1, a2, a3⟩ := hf.in_ j hj
      obtain ⟨ob1, b1⟩ : ∃ ob1, σ1[j]? = some ob1 := ⟨_, List.getElem?_eq_getElem (hp.len ▸ hj)⟩
      obtain ⟨ob'', b2, b3⟩ := hp.at_ j ob1 b1
      rw [h] at b2; cases b2
      obtain ⟨ob2, c1, c2⟩ := ht.turns j ob1 b1
      rw [a1] at c1; cases c1
      refine ⟨ob', a2, ?_⟩
      cases ob1 with
      | cells l =>
        obtain ⟨l', rfl, _⟩ := b3
        cases ob1' <;> simp only [ObTurn] at c2 <;> simp only [RnO] at a3
        · obtain ⟨l2, rfl, _⟩ := a3; trivial
        · subst a3; trivial
      | arr wr e sz fs =>
        obtain ⟨rfl, rfl⟩ := b3
        cases ob1' <;> simp only [ObTurn] at c2 <;> simp only [RnO] at a3
        · obtain ⟨_, rfl⟩ := a3; exact .inl (hf.ep j hj _ _ _ _ a1).1
        · subst a3; trivial
      | map kv =>
        simp only [RnO] at b3; subst b3
        cases ob1' <;> simp only [ObTurn] at c2 <;> simp only [RnO] at a3
        · subst a3; trivial
        · subst a3; trivial
      | bld T u x =>
        obtain ⟨l', rfl, _⟩ := b3
        cases ob1' <;> simp only [ObTurn] at c2 <;> simp only [RnO] at a3
        · obtain ⟨l2, rfl, _⟩ := a3; exact c2
        · subst a3; trivial
      | gone =>
        simp only [RnO] at b3; subst b3
        cases ob1' <;> simp only [ObTurn] at c2 <;> simp only [RnO] at a3
        subst a3; trivial
    | none =>
      refine ⟨ob, (hf.out i hi).trans h, ?_⟩
      cases ob <;> simp [ObTurn, Em.fwd, hi]
  blks i ob h hrow := by
    cases hi : m.inv i with
    | some j =>
      obtain ⟨hj, rfl⟩ := hp.ok.os_inv i j hi
      obtain ⟨ob1, b1⟩ : ∃ ob1, σ1[j]? = some ob1 := ⟨_, List.getElem?_eq_getElem (hp.len ▸ hj)⟩
      obtain ⟨ob'', b2, b3⟩ := hp.at_ j ob1 b1
      rw [h] at b2; cases b2
      simp only [Em.fwd, hi]
      exact ht.blks j ob1 b1 (b3.row ▸ hrow)
    | none => simp only [Em.fwd, hi]
mutual
theorem fwdC (hp : Part m σ1 σ) (hf : Fwd m m' σ1 σ1' σ σ') : ∀ {c c' : C} {v : Value}, RnC m' c c' → CRep g1 w' σ1' c v → CRep (m.fwd g g1) w' σ' c' v
  | .f x, c', v, h, hv => by simp only [RnC] at h; subst h; exact FRep.turn (g := g1) (g' := m.fwd g g1) (w := w') (w' := w') (fun b o hz => ⟨hz, rfl⟩) _ _ hv
  | .ptr o off, c', v, h, hv => by
    obtain ⟨ho, rfl⟩ := h
    rw [hf.n] at ho
    obtain ⟨b, ob1, h1, rfl, h2, h3⟩ := hv
    obtain ⟨ob1', ob', a1, a2, a3⟩ := hf.in_ o ho
    rw [h2] at a1; cases a1
    exact ⟨b, ob', by simp only [Em.fwd, hf.os, hp.ok.inv_os o ho]; exact h1, rfl, hf.os ▸ a2, a3.row.trans h3⟩
  | .rs o e k, c', v, h, hv => by
    obtain ⟨ho, rfl, rfl⟩ := h
    rw [hf.n] at ho
    obtain ⟨h0, ob1, h1, h2⟩ := hv
    obtain ⟨ob1', ob', a1, a2, a3⟩ := hf.in_ o ho
    rw [h1] at a1; cases a1
    refine ⟨h0, ob', hf.os ▸ a2, ?_⟩
    cases ob1 <;> simp only [RnO] at a3
    · exact h2.elim
    · obtain ⟨rfl, rfl⟩ := a3
      refine ⟨Nat.le_refl _, fun _ => ?_⟩
      have := h2.2 rfl
      simp only [Em.fwd, hf.os, hp.ok.inv_os o ho]
      exact this
    · exact h2.elim
    · exact h2.elim
    · subst a3; trivial
  | .mp o, c', v, h, hv => by
    obtain ⟨ho, rfl⟩ := h
    rw [hf.n] at ho
    obtain ⟨b, ob1, h1, rfl, h2, h3⟩ := hv
    obtain ⟨ob1', ob', a1, a2, a3⟩ := hf.in_ o ho
    rw [h2] at a1; cases a1
    exact ⟨b, ob', by simp only [Em.fwd, hf.os, hp.ok.inv_os o ho]; exact h1, rfl, hf.os ▸ a2, a3.row.trans h3⟩
  | .clo f caps, c', v, h, hv => by
    obtain ⟨l, rfl, h1⟩ := h
    obtain ⟨vs, rfl, h2⟩ := hv
    exact ⟨vs, rfl, fwdCs hp hf h1 h2⟩
  | .un, c', v, h, hv => by simp only [RnC] at h; subst h; trivial
  | .pa .., c', v, h, hv => h.elim
  | .ep cs off, c', v, h, hv => by
    simp only [RnC] at h; subst h
    obtain ⟨b, o, rfl, h1⟩ := hv
    exact ⟨b, o, rfl, FRow.turn (g := g1) (g' := m.fwd g g1) (w := w') (w' := w') (fun b o hz => ⟨hz, rfl⟩) _ _ _ h1⟩
theorem fwdCs (hp : Part m σ1 σ) (hf : Fwd m m' σ1 σ1' σ σ') : ∀ {c c' : List C} {v : List Value}, RnCs m' c c' → CReps g1 w' σ1' c v → CReps (m.fwd g g1) w' σ' c' v
  | [], c', v, h, hv => by simp only [RnCs] at h; subst h; exact hv
  | c :: r, c', v, h, hv => by
    obtain ⟨x, y, rfl, h1, h2⟩ := h
    obtain ⟨u, ur, rfl, h3, h4⟩ := hv
    exact ⟨u, ur, rfl, fwdC hp hf h1 h3, fwdCs hp hf h2 h4⟩
end
mutual
theorem fwdV (hp : Part m σ1 σ) (hf : Fwd m m' σ1 σ1' σ σ') : ∀ {c c' : V} {v : Value}, RnV m' c c' → VRep g1 w' σ1' c v → VRep (m.fwd g g1) w' σ' c' v
  | .c x, c', v, h, hv => by obtain ⟨y, rfl, h1⟩ := h; exact fwdC hp hf h1 hv
  | .a l, c', v, h, hv => by obtain ⟨l', rfl, h1⟩ := h; obtain ⟨vs, rfl, h2⟩ := hv; exact ⟨vs, rfl, fwdCs hp hf h1 h2⟩
  | .t l, c', v, h, hv => by obtain ⟨l', rfl, h1⟩ := h; obtain ⟨vs, rfl, h2⟩ := hv; exact ⟨vs, rfl, fwdVs hp hf h1 h2⟩
theorem fwdVs (hp : Part m σ1 σ) (hf : Fwd m m' σ1 σ1' σ σ') : ∀ {c c' : List V} {v : List Value}, RnVs m' c c' → VReps g1 w' σ1' c v → VReps (m.fwd g g1) w' σ' c' v
  | [], c', v, h, hv => by simp only [RnVs] at h; subst h; exact hv
  | c :: r, c', v, h, hv => by
    obtain ⟨x, y, rfl, h1, h2⟩ := h
    obtain ⟨u, ur, rfl, h3, h4⟩ := hv
    exact ⟨u, ur, rfl, fwdV hp hf h1 h3, fwdVs hp hf h2 h4⟩
end
theorem fwd_rep (hp : Part m σ1 σ) (hf : Fwd m m' σ1 σ1' σ σ') (hr : Rep g w σ) (hr1 : Rep g1 w' σ1') (ht : Turn (m.back g) w σ1 g1 w' σ1') : Rep (m.fwd g g1) w' σ' := by
  have hT := fwd_turn (g := g) (g1 := g1) (w := w) (w' := w') hp hf hr ht
  -- a block of an object outside of the part is none of the part's
  have far : ∀ i ob b, m.inv i = none → σ[i]? = some ob → live ob = true → g.blk i = some b → b < w.heap.size ∧ ∀ o, ¬ Own (m.back g) σ1 b o := by
    intro i ob b hi h1 hl hb
    refine ⟨(hr.ob i ob h1).inside hl hb, fun o ho => ?_⟩
    obtain ⟨j, ob1, a1, a2, a3⟩ := own_iff.1 ho
    obtain ⟨ob', b1, b2⟩ := hp.at_ j ob1 a1
    have hl' : live ob' = true := by
      rw [b2.live]
      cases ob1 <;> first | rfl | (simp [ownAt] at a3)
    have := hr.inj i (m.os j) ob ob' b h1 b1 hl hl' hb a2
    have lj : j < m.n := hp.len ▸ lt_of_get a1
    rw [this, hp.ok.inv_os j lj] at hi
    cases hi
  refine ⟨?_, ?_, ?_, ?_⟩
  · intro i ob h
    cases hi : m.inv i with
    | some j =>
      obtain ⟨hj, rfl⟩ := hp.ok.os_inv i j hi
      obtain ⟨ob1, ob', a1, a2, a3⟩ := hf.in_ j hj
      rw [h] at a2; cases a2
      have h0 := hr1.ob j ob1 a1
      have hb : (m.fwd g g1).blk (m.os j) = g1.blk j := by simp only [Em.fwd, hi]
      have hc : (m.fwd g g1).cap (m.os j) = g1.cap j := by simp only [Em.fwd, hi]
      cases ob1 with
      | cells l =>
        obtain ⟨l', rfl, h3⟩ := a3
        obtain ⟨b, vs, T, fz, b1, b2, b3, b4⟩ := h0
        exact ⟨b, vs, T, fz, hb.trans b1, b2, b3, fwdCs hp hf h3 b4⟩
      | arr wr e sz fs =>
        obtain ⟨rfl, rfl⟩ := a3
        have hz := FRep.turn (g := g1) (g' := m.fwd g g1) (w := w') (w' := w') (fun b o hz => ⟨hz, rfl⟩)
        rcases h0 with ⟨b1, b2, b3⟩ | ⟨b, vs, T, fz, rest, b1, b2, b3, b4, b5, ⟨pre, b6, b7, b8⟩, b9, b10⟩
        · exact .inl ⟨hb.trans b1, b2, hc.trans b3⟩
        · exact .inr ⟨b, vs, T, fz, rest, hb.trans b1, b2, b3, by rw [hc]; exact b4, by rw [hc]; exact b5, ⟨pre, b6, b7, fun j x y => hz _ _ (b8 j x y)⟩, b9, b10.trans (hf.ep j hj _ _ _ _ a1).2⟩
      | map kv =>
        simp only [RnO] at a3; subst a3
        obtain ⟨b, es, clock, b1, b2, b3⟩ := h0
        exact ⟨b, es, clock, hb.trans b1, b2, KVRep.turn (g := g1) (g' := m.fwd g g1) (w := w') (w' := w') (fun b o hz => ⟨hz, rfl⟩) b3⟩
      | bld T u x =>
        obtain ⟨x', rfl, h3⟩ := a3
        obtain ⟨b, v, b1, b2, b3⟩ := h0
        exact ⟨b, v, hb.trans b1, b2, fwdC hp hf h3 b3⟩
      | gone => simp only [RnO] at a3; subst a3; trivial
    | none =>
      rw [hf.out i hi] at h
      by_cases hl : live ob = true
      · refine (hr.ob i ob h).keep hT (fun b hb => ?_) (by simp only [Em.fwd, hi]) (by simp only [Em.fwd, hi])
        obtain ⟨f1, f2⟩ := far i ob b hi h hl hb
        exact ht.whole b f1 f2
      · cases ob <;> simp_all [live, ObRep]
  · intro i j a b k hi hj la lb hbi hbj
    have get : ∀ {i : Nat} {a : Ob}, σ'[i]? = some a → live a = true → (m.fwd g g1).blk i = some k → (∃ j ob1, m.os j = i ∧ m.inv i = some j ∧ σ1'[j]? = some ob1 ∧ live ob1 = true ∧ g1.blk j = some k) ∨ (m.inv i = none ∧ σ[i]? = some a ∧ g.blk i = some k) := by
      intro i a h l hb
      cases hi : m.inv i with
      | some j =>
        obtain ⟨hj, rfl⟩ := hp.ok.os_inv i j hi
        obtain ⟨ob1, ob', a1, a2, a3⟩ := hf.in_ j hj
        rw [h] at a2; cases a2
        exact .inl ⟨j, ob1, rfl, rfl, a1, a3.live ▸ l, by simpa only [Em.fwd, hi] using hb⟩
      | none => exact .inr ⟨rfl, hf.out i hi ▸ h, by simpa only [Em.fwd, hi] using hb⟩
    have cross : ∀ {i j : Nat} {ob1 a : Ob}, σ1'[j]? = some ob1 → live ob1 = true → g1.blk j = some k → m.inv i = none → σ[i]? = some a → live a = true → g.blk i = some k → False := by
      intro i j ob1 a h1 h2 h3 h4 h5 h6 h7
      obtain ⟨f1, f2⟩ := far i a k h4 h5 h6 h7
      obtain ⟨o, ho⟩ := ownAt_far h2
      exact f2 o (ht.onew k o f1 (own_iff.2 ⟨j, ob1, h1, h3, ho⟩))
    rcases get hi la hbi with ⟨i', oi, rfl, _, a1, a2, a3⟩ | ⟨a1, a2, a3⟩ <;> rcases get hj lb hbj with ⟨j', oj, rfl, _, b1, b2, b3⟩ | ⟨b1, b2, b3⟩
    · rw [hr1.inj i' j' oi oj k a1 b1 a2 b2 a3 b3]
    · exact (cross a1 a2 a3 b1 b2 lb b3).elim
    · exact (cross b1 b2 b3 a1 a2 la a3).elim
    · exact hr.inj i j a b k a2 b2 la lb a3 b3
  · intro b o hz ho
    have hz' : g1.Z b o := hz
    obtain ⟨i, ob, h1, h2, h3⟩ := own_iff.1 ho
    cases hi : m.inv i with
    | some j =>
      obtain ⟨hj, rfl⟩ := hp.ok.os_inv i j hi
      obtain ⟨ob1, ob', a1, a2, a3⟩ := hf.in_ j hj
      rw [h1] at a2; cases a2
      have h2' : g1.blk j = some b := by simpa only [Em.fwd, hi] using h2
      exact hr1.apart b o hz' (own_iff.2 ⟨j, ob1, a1, h2', (a3.own o).1 h3⟩)
    | none =>
      have h2' : g.blk i = some b := by simpa only [Em.fwd, hi] using h2
      rw [hf.out i hi] at h1
      have hl : live ob = true := by cases ob <;> first | rfl | (simp [ownAt] at h3)
      obtain ⟨f1, f2⟩ := far i ob b hi h1 hl h2'
      rcases ht.znew b o f1 hz' with h | h
      · exact hr.apart b o h (own_iff.2 ⟨i, ob, h1, h2', h3⟩)
      · exact f2 o h
  · exact fun b o hz => hr1.inside b o hz
end
theorem call_part {P : Program} {f : FuncId} {m : Em} {σ1 σ : St} {args1 args : List V} (hp : Part m σ1 σ) (hE : ∀ j w e sz fs, σ1[j]? = some (.arr w e sz fs) → m.E1 j % 4294967296 = m.E j % 4294967296)
    (ha : RnVs m args1 args) {k1 k : V → St → Prop} (h : CallAt P f args1 σ1 k1)
    (hk : ∀ r1 σ1', k1 r1 σ1' → ∃ m' σ' r, Fwd m m' σ1 σ1' σ σ' ∧ RnV m' r1 r ∧ k r σ') : CallAt P f args σ k := by
  intro g w vs hr hv
  have hend : ∀ v w', CallEnd (m.back g) w σ1 k1 v w' → CallEnd g w σ k v w' := by
    rintro v w' ⟨r1, σ1', g1, h1, h2, h3, h4⟩
    obtain ⟨m', σ', r, hf, hr1, hk⟩ := hk r1 σ1' h1
    exact ⟨r, σ', m.fwd g g1, hk, fwd_rep hp hf hr h2 h3, fwd_turn hp hf hr h3, fwdV hp hf hr1 h4⟩
  rcases h (m.back g) w vs (back_rep hp hE hr) (backVs hp ha hv) with ⟨v, w', h1, h2⟩ | ⟨h1, h2⟩
  · exact .inl ⟨v, w', h1, hend v w' h2⟩
  · exact .inr ⟨h1, h2.mono fun e w' ⟨v, h3, h4⟩ => ⟨v, h3, hend v w' h4⟩⟩
end Go.Dm
