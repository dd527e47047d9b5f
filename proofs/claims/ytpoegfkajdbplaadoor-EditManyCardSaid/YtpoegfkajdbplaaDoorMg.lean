/- Printed by merge2.py: many texts in one. -/
import Derived.Test.YtpoegfkajdbplaaDoorMf
import Derived.Test.YtpoegfkajdbplaaDoorMd

namespace Go.Dm.Sx
open Go.Dm
set_option linter.unusedVariables false
set_option linter.unusedSimpArgs false
variable {U : Uni} {c c' c'' : Cx U} {e : SE} {Sp : List (FSpec U)} {Post : List (Dyn U.B) → Prop} {Go : Nat → List (Dyn U.B) → Prop}
theorem par_flag {b k ty : Nat} (h : b % 8589934592 = ty) (h2 : ty ≤ 4294967295) : Nat.beq (Nat.mod (Nat.div (b + k * 8589934592) 4294967296) 2) 0 = true := by
  have e : (b + k * 8589934592) / 4294967296 = 2 * (b / 8589934592) + 2 * k := by omega
  have e2 : Nat.mod (Nat.div (b + k * 8589934592) 4294967296) 2 = 0 := by
    show (b + k * 8589934592) / 4294967296 % 2 = 0
    omega
  rw [e2]; rfl
theorem le_flag {ty : Nat} (h : ty ≤ 4294967295) : ty < 8589934592 := by omega
theorem le_flag2 {ty : Nat} (h : ty ≤ 4294967295) : ty + 4294967296 < 8589934592 := by omega
theorem mod_flag {b k ty : Nat} (h : b % 8589934592 = ty) : (b + k * 8589934592) % 4294967296 = Nat.mod ty 4294967296 := by show _ = ty % 4294967296; omega
theorem add_arr (ok : Ok c e) {ty sz : Nat} {t : Ty} {l : Tm} {xs : List (T U.B t)} {fs : List F} (hl : l.den? c.ρ = some ⟨.list t, xs⟩) (hf : FDs U fs (flat U xs)) (hsz : sz = width U t) (hty : ty < 8589934592) :
    Le c (c.add ty (.arr true 0 ty sz t l) (.arr true ty sz fs)) ∧ Ok (c.add ty (.arr true 0 ty sz t l) (.arr true ty sz fs)) e ∧ (c.add ty (.arr true 0 ty sz t l) (.arr true ty sz fs)).vr (.c (.rs c.S.length 0)) (.c (.rs c.σ.length ty xs.length)) := by
  have hle : Le c (c.add ty (.arr true 0 ty sz t l) (.arr true ty sz fs)) := Le.add _ _ _
  have hβ : (c.add ty (.arr true 0 ty sz t l) (.arr true ty sz fs)).β c.S.length = ty := if_pos rfl
  refine ⟨hle, ok.add ⟨_, fs, hl, rfl, ?_, hsz, ?_, hf⟩, VR.c ?_⟩
  · rw [hβ]; simp
  · rw [hβ]; omega
  · simp only [CR]
    rw [hβ]
    refine ⟨xs.length, 0, xs.length, by rw [ok.len]; simp, ?_, Nat.le_refl _, fun _ => rfl⟩
    show inf c.ρ (c.S ++ [.arr true 0 ty sz t l]) c.S.length = _
    simp [inf, hl, lenOf]
theorem mem_ok (ok : Ok c e) {x : Tm} (h : memT x e.ne = true) : ∃ d, x.den? c.ρ = some d ∧ lenOf d ≠ 0 := by
  have key : ∀ l : List Tm, (∀ x ∈ l, ∃ d, x.den? c.ρ = some d ∧ lenOf d ≠ 0) → memT x l = true → ∃ d, x.den? c.ρ = some d ∧ lenOf d ≠ 0 := by
    intro l
    induction l with
    | nil => intro _ h; simp [memT] at h
    | cons y r ih =>
      intro hl h
      simp only [memT] at h
      split at h
      · rename_i he
        rw [Tm.eqb_ok he]
        exact hl y (List.mem_cons_self ..)
      · exact ih (fun z hz => hl z (List.mem_cons_of_mem _ hz)) h
  exact key _ ok.ne h
def AppV (c : Cx U) (ty sz bytes : Nat) (v : V) (m : Nat) (new : List F) (K : V → St → Prop) : Prop :=
  match v with
  | .c (.f .nils) =>
    (match m with
    | 0 => K (.c (.f .nils)) c.σ
    | m + 1 => qprims.new (m + 1) new bytes ty (K (.c (.rs c.σ.length ty (m + 1))) (c.σ ++ [.arr true ty sz new])))
  | .c (.rs o e n) =>
    (match c.σ[o]? with
    | some (.arr w e0 s0 l) => qprims.eqN e e0 (qprims.eqN sz s0 (qprims.eqN (e0 % 4294967296) ty (qprims.app n l m new bytes fun n' l' => K (.c (.rs o (e0 + 8589934592) n')) (c.σ.set o (.arr w (e0 + 8589934592) sz l')))))
    | _ => False)
  | _ => False
theorem appMain_ok (ok : Ok c e) {ty sz bytes : Nat} {x : SV} {v : V} {t : Ty} {l : Tm} {xs : List (T U.B t)} {fs : List F} (hl : l.den? c.ρ = some ⟨.list t, xs⟩) (hf : FDs U fs (flat U xs)) (hx : c.vr x v)
    {k : K1} {K : V → St → Prop} (hk : FollS Sp Post Go c k K) (h : TDen Sp Post Go (appMain U.lay e ty sz bytes x t l c.S k) c.ρ) : AppV c ty sz bytes v xs.length fs K := by
  unfold appMain at h
  split at h
  · obtain ⟨y, rfl, h0⟩ := V_c (by simp) hx
    simp only [CR] at h0
    subst h0
    unfold AppV
    simp only
    split at h
    · rename_i hsz hty
      have hsz := beq_nat hsz
      rw [wid_eq] at hsz
      have hty := ble_nat hty
      obtain ⟨g1, g2, g3⟩ := add_arr ok hl hf hsz (le_flag hty)
      have big : xs ≠ [] → ∀ e', Ok c e' → TDen Sp Post Go (.lnew t bytes l (k e' (.c (.rs c.S.length 0)) (c.S ++ [.arr true 0 ty sz t l]))) c.ρ → (match xs.length with
          | 0 => K (.c (.f .nils)) c.σ
          | m + 1 => qprims.new (m + 1) fs bytes ty (K (.c (.rs c.σ.length ty (m + 1))) (c.σ ++ [.arr true ty sz fs]))) := by
        intro hne e' ok' hD
        obtain ⟨h1, h2, h3⟩ := hD
        rw [den_as hl] at h1 h2
        obtain ⟨g1, g2, g3⟩ := add_arr ok' hl hf hsz (le_flag hty)
        have h4 := hk _ e' _ _ g1 g2 g3 h3
        cases hm : xs.length with
        | zero => exact absurd (List.eq_nil_of_length_eq_zero hm) hne
        | succ m => rw [hm] at h1 h2 h4; exact ⟨h1, h2, hty, h4⟩
      split at h
      · rename_i hm
        obtain ⟨d, h1, h2⟩ := mem_ok ok hm
        rw [hl] at h1
        cases h1
        exact big (fun hh => h2 (by simp [lenOf, hh])) e ok h
      · obtain ⟨h1, h2⟩ := h
        rw [den_as hl] at h1 h2
        by_cases hxs : xs = []
        · subst hxs
          exact hk c e _ _ (Le.refl c) ok (VR.c (by simp only [CR])) (h1 rfl)
        · exact big hxs _ (ok.ne' hl (by simpa [lenOf] using hxs)) (h2 hxs)
    · exact h.elim
  · rename_i o kk
    obtain ⟨n', kc, len, rfl, p1, p2, p3⟩ := vr_rs hx
    split at h
    · rename_i w k' ty' sz' t' l' ho
      obtain ⟨ys, gs, q1, q2, q3, q4, q5, q6⟩ := arr_at ok ho
      split at h
      · rename_i e1 e2 e3 e4
        have e1 := beq_nat e1
        have e2 := beq_nat e2
        have e3 := beq_nat e3
        have e4 := Ty.eqb_ok e4
        subst e1 e2 e3 e4
        have p1' : c.ι o = some (kc, len) := p1
        rw [q6] at p1'
        cases p1'
        have := p3 rfl
        subst this
        obtain ⟨h1, h2, h3⟩ := h _ rfl
        rw [den_as (t := .list t') q1, den_as (t := .list t') hl] at h1 h2 h3
        unfold AppV
        simp only [q2]
        refine ⟨rfl, rfl, mod_flag q4, by simpa using h1, by simpa using h2, ?_⟩
        let c2 := c.push ⟨.list t', ys ++ xs⟩
        have ok2 : Ok c2 (e.push (.list t')) := ok.push _
        have ho2 : nth c2.S o = some (.arr w kk ty' sz' t' l') := ho
        obtain ⟨s1, s2⟩ := set_arr ok2 ho2 ((Le.push c _).den q1) (k2 := kk + 1) (x2 := e.new) (ys := ys ++ xs) w (ok.new _) (.inl (Nat.lt_succ_self _)) (by rw [flat_app]; exact q5.append hf)
        have s3 := hk _ _ (.c (.rs o (kk + 1))) (.c (.rs o (c.β o + kk * 8589934592 + 8589934592) (ys.length + xs.length))) ((Le.push c _).trans s1) s2 (VR.c ?_) h3
        · have e5 : c.β o + (kk + 1) * 8589934592 = c.β o + kk * 8589934592 + 8589934592 := by omega
          simpa [Cx.set, c2, Cx.push, e5] using s3
        · simp only [CR]
          refine ⟨_, kk + 1, ys.length + xs.length, by show C.rs o _ _ = C.rs o (c.β o + _) _; congr 1; omega, ?_, Nat.le_refl _, fun _ => rfl⟩
          have hlt : o < c2.S.length := by rw [nth_eq] at ho2; exact (List.getElem?_eq_some_iff.1 ho2).1
          show inf c2.ρ (c2.S.set o _) o = _
          simp only [inf, List.getElem?_set_self hlt, ok.new, c2, lenOf, List.length_append]
      · exact h.elim
    · exact h.elim
  · exact h.elim
theorem app_ok (ok : Ok c e) {d : TD} {ty sz bytes : Nat} {x y : SV} {v w : V} (hx : c.vr x v) (hy : c.vr y w) {k : K1} {K : V → St → Prop} (hk : FollS Sp Post Go c k K)
    (h : TDen Sp Post Go (appS U.lay e d ty sz bytes x y c.S k) c.ρ) : wappend qprims d ty sz bytes v w c.σ K := by
  unfold appS at h
  split at h
  · obtain ⟨y', rfl, h0⟩ := V_c (by simp) hy
    simp only [CR] at h0
    subst h0
    split at h
    · obtain ⟨x', rfl, h0⟩ := V_c (by simp) hx
      simp only [CR] at h0
      subst h0
      exact hk c e _ _ (Le.refl c) ok (VR.c (by simp only [CR])) h
    · split at h
      · rename_i t _ ho
        have := appMain_ok (xs := ([] : List (T U.B t))) (fs := []) ok rfl rfl hx hk h
        exact this
      · exact h.elim
    · exact h.elim
  · rename_i t l
    split at h
    · rename_i hsz
      have hsz := beq_nat hsz
      rw [wid_eq] at hsz
      obtain ⟨xs, h1, h2⟩ := vr_list hy
      rcases h2 with ⟨rfl, rfl⟩ | ⟨fs, rfl, h2⟩
      · exact appMain_ok (fs := []) ok h1 rfl hx hk h
      · exact ⟨by rw [h2.len, flat_len, hsz], appMain_ok ok h1 h2 hx hk h⟩
    · exact h.elim
  · rename_i o kk
    obtain ⟨n', kc, len, rfl, p1, p2, p3⟩ := vr_rs hy
    split at h
    · rename_i w k' ty' sz' t' l' ho
      obtain ⟨ys, gs, q1, q2, q3, q4, q5, q6⟩ := arr_at ok ho
      split at h
      · rename_i e1 e2
        have e1 := beq_nat e1
        have e2 := beq_nat e2
        subst e1 e2
        have p1' : c.ι o = some (kc, len) := p1
        rw [q6] at p1'
        cases p1'
        have := p3 rfl
        subst this
        unfold wappend wsrc
        simp only [q2]
        exact ⟨rfl, rfl, appMain_ok ok q1 q5 hx hk h⟩
      · exact h.elim
    · exact h.elim
  · rename_i s
    obtain ⟨l, rfl, hl⟩ := vr_str hy
    split at h
    · rename_i hsz
      have hsz := beq_nat hsz
      have h1 := h _ rfl
      rw [den_str hl] at h1
      have hrow : FDs U (l.map fun b => F.int .u8 (b.toNat : Int)) (flat U (t := .int .u8) (l.map fun b => (b.toNat : Int))) := by
        clear h h1 hl hy
        induction l with
        | nil => rfl
        | cons b r ih => exact ⟨⟨.int .u8, (b.toNat : Int)⟩, _, rfl, rfl, ih⟩
      have h2 := appMain_ok (c := c.push ⟨.list (.int .u8), l.map fun b => (b.toNat : Int)⟩) (e := e.push (.list (.int .u8))) (ok.push _) (ok.new _) hrow ((Le.push c _).vr hx) (hk.later (Le.push c _)) h1
      refine ⟨hsz, ?_⟩
      have e3 : (prims.toNat (prims.slen l)) = (l.map fun b => (b.toNat : Int)).length := by
        show (l.length : Int).toNat = _
        simp
      rw [e3]
      exact h2
    · exact h.elim
  · exact h.elim
theorem ieq0_eq {n : Int} (h : ieq0 n = true) : n = 0 := by
  cases n with
  | ofNat n => have := beq_nat h; subst this; rfl
  | negSucc n => cases h
theorem optS_ok {lo : Option SV} {vlo : Option V} (hlo : (lo = none ∧ vlo = none) ∨ ∃ x v, lo = some x ∧ vlo = some v ∧ c.vr x v) {a : Option Tm} (h : optS lo = some a) :
    (a = none ∧ vlo = none ∧ iOf vlo = some none) ∨ ∃ kd x, ∃ n : Int, a = some x ∧ vlo = some (.c (.f (.int kd n))) ∧ iOf vlo = some (some n) ∧ x.den? c.ρ = some ⟨.int kd, n⟩ := by
  unfold optS at h
  split at h
  · cases h
    rcases hlo with ⟨_, rfl⟩ | ⟨x, v, h1, _⟩
    · exact .inl ⟨rfl, rfl, rfl⟩
    · cases h1
  · rename_i kd x
    cases h
    rcases hlo with ⟨h1, _⟩ | ⟨y, v, h1, rfl, h2⟩
    · cases h1
    · cases h1
      obtain ⟨n, rfl, hn⟩ := vr_int h2
      exact .inr ⟨kd, x, n, rfl, rfl, rfl, hn⟩
  · cases h
theorem slc_ok (ok : Ok c e) {d : TD} {sz : Nat} {x : SV} {v : V} (hx : c.vr x v) {lo hi : Option SV} {vlo vhi : Option V} (hlo : (lo = none ∧ vlo = none) ∨ ∃ x v, lo = some x ∧ vlo = some v ∧ c.vr x v)
    (hhi : (hi = none ∧ vhi = none) ∨ ∃ x v, hi = some x ∧ vhi = some v ∧ c.vr x v) {k : K1} {K : V → St → Prop} (hk : FollS Sp Post Go c k K)
    (h : TDen Sp Post Go (slcS U.lay e d sz x lo hi c.S k) c.ρ) : wslice qprims d sz v vlo vhi c.σ K := by
  unfold slcS at h
  split at h
  · rename_i a b ha hb
    obtain ⟨ia, hia, oa⟩ : ∃ ia, iOf vlo = some ia ∧ ∀ dflt, optI c.ρ dflt a = ia.getD dflt := by
      rcases optS_ok hlo ha with ⟨rfl, _, h1⟩ | ⟨kd, y, n, rfl, _, h1, h2⟩
      · exact ⟨_, h1, fun _ => rfl⟩
      · exact ⟨_, h1, fun _ => by simp only [optI, den_int h2, Option.getD_some]⟩
    obtain ⟨ib, hib, ob⟩ : ∃ ib, iOf vhi = some ib ∧ ∀ dflt, optI c.ρ dflt b = ib.getD dflt := by
      rcases optS_ok hhi hb with ⟨rfl, _, h1⟩ | ⟨kd, y, n, rfl, _, h1, h2⟩
      · exact ⟨_, h1, fun _ => rfl⟩
      · exact ⟨_, h1, fun _ => by simp only [optI, den_int h2, Option.getD_some]⟩
    split at h
    · rename_i s
      obtain ⟨l, rfl, hl⟩ := vr_str hx
      obtain ⟨h1, h2⟩ := h
      rw [den_str hl, oa, ob] at h1 h2
      have h3 := h2 _ rfl
      unfold wslice
      rw [hia, hib]
      exact ⟨h1, hk (c.push ⟨.str, _⟩) _ _ _ (Le.push c _) (ok.push _) (vd_of (ok.new _) rfl rfl) h3⟩
    · rename_i e' t l
      obtain ⟨xs, q1, q2⟩ := vr_list hx
      split at h
      · rename_i hsz
        have hsz := beq_nat hsz
        rw [wid_eq] at hsz
        subst hsz
        obtain ⟨h1, h2⟩ := h
        rw [den_as q1, oa, ob] at h1 h2
        rcases q2 with ⟨rfl, rfl⟩ | ⟨fs, rfl, q2⟩
        · -- no row at all
          have h3 := h2 _ rfl
          have h4 := hk (c.push ⟨.list t, _⟩) _ _ (.c (.f .nils)) (Le.push c _) (ok.push _) (vd_of (ok.new _) rfl (by
            simp only [FD]
            exact ⟨t, by simp⟩)) h3
          simp only [List.length_nil] at h1
          rcases optS_ok hlo ha with ⟨rfl, rfl, g1⟩ | ⟨kd, y, n, rfl, rfl, g1, _⟩ <;> rcases optS_ok hhi hb with ⟨rfl, rfl, g2⟩ | ⟨kd', y', n', rfl, rfl, g2, _⟩ <;>
            (rw [hia] at g1; cases g1; rw [hib] at g2; cases g2; simp only [Option.getD_none, Option.getD_some] at h1)
          · exact h4
          · exact ⟨⟨Int.le_refl _, by omega, by simpa using h1.2.2⟩, h4⟩
          · exact ⟨⟨Int.le_refl _, by omega, by simpa using h1.2.1⟩, h4⟩
          · exact ⟨⟨Int.le_refl _, by omega, by simpa using h1.2.2⟩, ⟨Int.le_refl _, h1.1, h1.2.1⟩, h4⟩
        · unfold wslice
          rw [hia, hib]
          have fin : ∀ (p q : Nat), p + q ≤ xs.length → FDs U ((fs.drop (p * width U t)).take (q * width U t)) (flat U ((xs.drop p).take q)) := fun p q _ => by
            rw [← flat_take, ← flat_drop]
            exact (q2.drop _).take _
          simp only
          have gen : (0 ≤ ia.getD 0 ∧ ia.getD 0 ≤ ib.getD xs.length ∧ ib.getD xs.length ≤ xs.length) ∧ K (.c (.f (.sl ((ib.getD xs.length).toNat - (ia.getD 0).toNat) ((fs.drop ((ia.getD 0).toNat * width U t)).take (((ib.getD xs.length).toNat - (ia.getD 0).toNat) * width U t))))) c.σ := by
            have h3 := h2 _ rfl
            refine ⟨h1, hk (c.push ⟨.list t, _⟩) _ _ _ (Le.push c _) (ok.push _) (vd_of (ok.new _) rfl ?_) h3⟩
            simp only [FD]
            refine ⟨t, _, rfl, ?_, fin _ _ ?_⟩
            · rw [List.length_take, List.length_drop]; omega
            · omega
          cases ia with
          | none =>
            cases ib with
            | none =>
              have h3 := h2 _ rfl
              simp only [Option.getD_none] at h3
              refine hk (c.push ⟨.list t, _⟩) _ _ (.c (.f (.sl xs.length fs))) (Le.push c _) (ok.push _) (vd_of (ok.new _) rfl ?_) h3
              simp only [FD]
              exact ⟨t, _, rfl, by simp, by simpa using q2⟩
            | some n => exact gen
          | some m => cases ib <;> exact gen
      · exact h.elim
    · obtain ⟨y, rfl, h0⟩ := V_c (by simp) hx
      simp only [CR] at h0
      subst h0
      have zero : ∀ {z : Option Tm}, zeroT z = true → (∀ dflt, optI c.ρ dflt z = 0 ∨ z = none) := fun {z} hz dflt => by
        unfold zeroT at hz
        split at hz
        · exact .inr rfl
        · left
          rw [ieq0_eq hz]
          rfl
        · cases hz
      split at h
      · rename_i ha' hb'
        have h4 := hk c e _ _ (Le.refl c) ok (VR.c (ρ := c.ρ) (β := c.β) (ι := c.ι) (x := .nil) (c := .f .nils) (by simp only [CR])) h
        rcases optS_ok hlo ha with ⟨rfl, rfl, g1⟩ | ⟨kd, y, n, rfl, rfl, g1, g3⟩ <;> rcases optS_ok hhi hb with ⟨rfl, rfl, g2⟩ | ⟨kd', y', n', rfl, rfl, g2, g4⟩
        · exact h4
        · have : n' = 0 := by
            rcases zero hb' 0 with hh | hh
            · rwa [optI, den_int g4] at hh
            · cases hh
          subst this
          exact ⟨⟨Int.le_refl _, Int.le_refl _, Int.le_refl _⟩, h4⟩
        · have : n = 0 := by
            rcases zero ha' 0 with hh | hh
            · rwa [optI, den_int g3] at hh
            · cases hh
          subst this
          exact ⟨⟨Int.le_refl _, Int.le_refl _, Int.le_refl _⟩, h4⟩
        · have h5 : n = 0 := by
            rcases zero ha' 0 with hh | hh
            · rwa [optI, den_int g3] at hh
            · cases hh
          have h6 : n' = 0 := by
            rcases zero hb' 0 with hh | hh
            · rwa [optI, den_int g4] at hh
            · cases hh
          subst h5 h6
          exact ⟨⟨Int.le_refl _, Int.le_refl _, Int.le_refl _⟩, ⟨Int.le_refl _, Int.le_refl _, Int.le_refl _⟩, h4⟩
      · exact h.elim
    · rename_i o kk
      obtain ⟨n', kc, len, rfl, p1, p2, p3⟩ := vr_rs hx
      split at h
      · rename_i k' ty sz' t l b' ho
        obtain ⟨ys, gs, q1, q2, q3, q4, q5, q6⟩ := arr_at ok ho
        split at h
        · rename_i e1
          have e1 := beq_nat e1
          subst e1
          have p1' : c.ι o = some (kc, len) := p1
          rw [q6] at p1'
          cases p1'
          have := p3 rfl
          subst this
          rcases optS_ok hlo ha with ⟨_, rfl, g1⟩ | ⟨kd, y, n, h0, _⟩
          rotate_left
          · cases h0
          rcases optS_ok hhi hb with ⟨h0, _⟩ | ⟨kd', y', n, h0, rfl, g2, g4⟩
          · cases h0
          cases h0
          obtain ⟨h1, h2⟩ := h
          have h3 := h2 _ rfl
          simp only [optI, den_int g4] at h1 h3
          rw [den_as (t := .list t) q1] at h1 h3
          simp only [List.drop_zero, Int.toNat_zero, Nat.sub_zero] at h3
          show wslice qprims (.slice _) sz (.c (.rs o (c.β o + kk * 8589934592) ys.length)) none (some (.c (.f (.int kd' n)))) c.σ K
          unfold wslice sslice
          simp only [iOf, q2]
          refine ⟨rfl, ⟨Int.le_refl _, h1.2.1, h1.2.2⟩, ?_⟩
          let c2 := c.push ⟨.list t, ys.take n.toNat⟩
          have ok2 : Ok c2 (e.push (.list t)) := ok.push _
          have ho2 : nth c2.S o = some (.arr true kk ty sz' t l) := ho
          have hrow : FDs U (prims.fcut gs 0 (prims.atp n sz')) (flat U (ys.take n.toNat)) := by
            show FDs U ((gs.drop 0).take (n.toNat * sz')) _
            rw [← flat_take, q3]
            exact q5.take _
          obtain ⟨s1, s2⟩ := set_arr ok2 ho2 ((Le.push c _).den q1) (k2 := kk + 1) (x2 := e.new) (ys := ys.take n.toNat) true (ok.new _) (.inl (Nat.lt_succ_self _)) hrow
          have s3 := hk _ _ (.c (.rs o (kk + 1))) (.c (.rs o (c.β o + kk * 8589934592 + 8589934592) n.toNat)) ((Le.push c _).trans s1) s2 (VR.c ?_) h3
          · have e5 : c.β o + (kk + 1) * 8589934592 = c.β o + kk * 8589934592 + 8589934592 := by omega
            have e6 : prims.toNat n = n.toNat := rfl
            simpa [Cx.set, c2, Cx.push, e5, e6] using s3
          · simp only [CR]
            refine ⟨_, kk + 1, (ys.take n.toNat).length, by show C.rs o _ _ = C.rs o (c.β o + _) _; congr 1; omega, ?_, Nat.le_refl _, fun _ => by rw [List.length_take]; omega⟩
            have hlt : o < c2.S.length := by rw [nth_eq] at ho2; exact (List.getElem?_eq_some_iff.1 ho2).1
            show inf c2.ρ (c2.S.set o _) o = _
            simp only [inf, List.getElem?_set_self hlt, ok.new, c2, lenOf]
        · exact h.elim
      · exact h.elim
    · exact h.elim
  · exact h.elim
end Go.Dm.Sx
namespace Go.Dm.Sx
open Go.Dm
set_option linter.unusedVariables false
set_option linter.unusedSimpArgs false
variable {U : Uni} {c c' c'' : Cx U} {e : SE} {Sp : List (FSpec U)} {Post : List (Dyn U.B) → Prop} {Go : Nat → List (Dyn U.B) → Prop}
theorem fill_ok {ρS : Operand → SV} {ρV : Operand → V} (hρ : ∀ x, c.vr (ρS x) (ρV x)) : ∀ (parts : List (Nat × Nat × Operand)) {cs l : List SC} {cs' : List Dm.C}, c.crs cs cs' → fillS ρS parts cs = some l → ∃ l', sfill ρV parts cs' = some l' ∧ c.crs l l'
  | [], cs, l, cs', hc, h => by simp only [fillS, Option.some.injEq] at h; subst h; exact ⟨cs', rfl, hc⟩
  | (off, n, x) :: r, cs, l, cs', hc, h => by
    simp only [fillS] at h
    split at h
    · rename_i xl hx
      obtain ⟨xl', h1, h2⟩ := cells_of (hρ x) hx
      split at h
      · rename_i hn
        split at h
        · rename_i q hq
          obtain ⟨q', h3, h4⟩ := splice_ok hc h2 hq
          obtain ⟨l', h5, h6⟩ := fill_ok hρ r h4 h
          refine ⟨l', ?_, h6⟩
          simp only [sfill, h1]
          rw [if_pos (by rw [h2.len]; exact beq_nat hn), h3]
          exact h5
        · cases h
      · cases h
    · cases h
theorem fillRow_ok {sz : Nat} {ρS : Operand → SV} {ρV : Operand → V} (hρ : ∀ x, c.vr (ρS x) (ρV x)) : ∀ (parts : List (Nat × Operand)) {cs l : List SC} {cs' : List Dm.C}, c.crs cs cs' → fillRowS sz ρS parts cs = some l → ∃ l', sfillRow sz ρV parts cs' = some l' ∧ c.crs l l'
  | [], cs, l, cs', hc, h => by simp only [fillRowS, Option.some.injEq] at h; subst h; exact ⟨cs', rfl, hc⟩
  | (i, x) :: r, cs, l, cs', hc, h => by
    simp only [fillRowS] at h
    split at h
    · rename_i xl hx
      obtain ⟨xl', h1, h2⟩ := cells_of (hρ x) hx
      split at h
      · rename_i hn
        split at h
        · rename_i q hq
          obtain ⟨q', h3, h4⟩ := splice_ok hc h2 hq
          obtain ⟨l', h5, h6⟩ := fillRow_ok hρ r h4 h
          refine ⟨l', ?_, h6⟩
          simp only [sfillRow, h1]
          rw [if_pos (by rw [h2.len]; exact beq_nat hn), h3]
          exact h5
        · cases h
      · cases h
    · cases h
theorem rep_ok {l : List SC} {l' : List Dm.C} (h : c.crs l l') : ∀ n, c.crs (repS n l) (rep n l')
  | 0 => by simp only [repS, rep, Cx.crs, CRs]
  | n + 1 => CRs.append h (rep_ok h n)
theorem crs_map {ρ : Rho U} {β : Nat → Nat} {ι : Inf} {xs : List SC} {fs gs : List F} (h : List.map C.f fs = List.map C.f gs) : fs = gs :=
  (List.map_inj_right (fun _ _ hh => by cases hh; rfl)).1 h
theorem elems_ok {t : Ty} {sz : Nat} (hsz : sz = width U t) {k : SE → List Tm → Tr} : ∀ (n : Nat) {c : Cx U} {e : SE} (ok : Ok c e) {xs : List SC} {fs : List F} (hx : c.crs xs (List.map C.f fs)) (hl : xs.length = n * sz) {acc : List Tm → List Tm}
    (h : TDen Sp Post Go (elemsK U.lay t sz k n e xs acc) c.ρ),
    ∃ c' e' l, ∃ ys : List (T U.B t), Le c c' ∧ c'.S = c.S ∧ c'.σ = c.σ ∧ Ok c' e' ∧ ys.length = n ∧ l.map (Tm.den? c'.ρ) = ys.map (fun y => some ⟨t, y⟩) ∧ FDs U fs (flat U ys) ∧ TDen Sp Post Go (k e' (acc l)) c'.ρ
  | 0, c, e, ok, xs, fs, hx, hl, acc, h => by
    have : xs = [] := List.eq_nil_of_length_eq_zero (by simpa using hl)
    subst this
    simp only [Cx.crs, CRs, List.map_eq_nil_iff] at hx
    subst hx
    exact ⟨c, e, [], [], Le.refl c, rfl, rfl, ok, rfl, rfl, rfl, h⟩
  | n + 1, c, e, ok, xs, fs, hx, hl, acc, h => by
    simp only [elemsK] at h
    have h1 := CRs.take sz hx
    rw [← List.map_take] at h1
    obtain ⟨c1, e1, y, d, gs, q1, q2, q3, q4, q5, q6, q7, q8, q9⟩ := data_ok ok h1 h
    have hg := crs_map (ρ := c.ρ) (β := c.β) (ι := c.ι) (xs := xs) q5
    have h2 := CRs.drop sz (q1.crs hx)
    rw [← List.map_drop] at h2
    obtain ⟨c2, e2, l, ys, p1, p2, p3, p4, p5, p6, p7, p8⟩ := elems_ok hsz n q4 h2 (by rw [List.length_drop, hl, Nat.add_mul]; omega) q9
    obtain ⟨t0, y0⟩ := d
    simp only at q7
    subst q7
    refine ⟨c2, e2, y :: l, y0 :: ys, q1.trans p1, p2.trans q2, p3.trans q3, p4, by simp [p5], ?_, ?_, p8⟩
    · simp only [List.map_cons, p6, p1.den q6]
    · rw [flat_cons]
      have := q8.append p7
      rwa [← hg, List.take_append_drop] at this
theorem bsl_ok (ok : Ok c e) {tyO : Nat → Option Ty} {n ty sz : Nat} {z : List F} {ρS : Operand → SV} {ρV : Operand → V} (hρ : ∀ x, c.vr (ρS x) (ρV x)) {parts : List (Nat × Operand)} {k : K1} {K : V → St → Prop} (hk : FollS Sp Post Go c k K)
    (h : TDen Sp Post Go (bslS U.lay tyO e n ty sz z ρS parts c.S k) c.ρ) :
    match sfillRow sz ρV parts (rep n (z.map .f)) with
    | some l => vfrzs prims l c.σ fun fs σ' => K (.c (.rs σ'.length (ty + 4294967296) n)) (σ' ++ [.arr true (ty + 4294967296) sz fs])
    | none => False := by
  unfold bslS at h
  split at h
  · exact h.elim
  · rename_i l hl
    obtain ⟨l', h1, h2⟩ := fillRow_ok hρ parts (rep_ok (ofFs_ok z) n) hl
    rw [h1]
    simp only
    split at h
    · rename_i xs S' t hfr hty
      obtain ⟨c2, gs, g1, rfl, g3, ok2, g5, g6⟩ := frz_ok l ok h2 hfr
      refine g6 _ ?_
      split at h
      · rename_i e1 e2 e3
        have e1 := beq_nat e1
        have e2 := beq_nat e2
        have e3 := ble_nat e3
        rw [wid_eq] at e1
        rw [← g3] at h
        obtain ⟨c3, e', l3, ys, p1, p2, p3, p4, p5, p6, p7, p8⟩ := elems_ok e1 n ok2 g5 e2 h
        have h5 := p8 _ rfl
        have hys : (l3.map fun y => (y.den c3.ρ).as t) = ys := by
          clear h5 p8 p7 p5
          induction l3 generalizing ys with
          | nil => cases ys with | nil => rfl | cons d ds => simp at p6
          | cons a l ih =>
            cases ys with
            | nil => simp at p6
            | cons d ds =>
              simp only [List.map_cons, List.cons.injEq] at p6 ⊢
              exact ⟨den_as p6.1, ih _ p6.2⟩
        simp only [id] at h5
        rw [hys, ← p2] at h5
        have okp := p4.push (⟨.list t, ys⟩ : Dyn U.B)
        have okq : Ok (c3.push ⟨.list t, ys⟩) (neIf n (e'.push (.list t)) e'.new) := by
          cases n with
          | zero => exact okp
          | succ n => exact okp.ne' (p4.new _) (by simp [lenOf, p5])
        obtain ⟨s1, s2, s3⟩ := add_arr okq (ty := ty + 4294967296) (sz := sz) (p4.new ⟨.list t, ys⟩) p7 e1 (le_flag2 e3)
        have h6 := hk _ _ _ _ (g1.trans (p1.trans ((Le.push c3 _).trans s1))) s2 s3 h5
        have e4 : (c3.push ⟨.list t, ys⟩).σ = c2.σ := p3
        have e5 : ((c3.push ⟨.list t, ys⟩).add (ty + 4294967296) (.arr true 0 (ty + 4294967296) sz t e'.new) (.arr true (ty + 4294967296) sz gs)).σ = c2.σ ++ [.arr true (ty + 4294967296) sz gs] := by rw [← e4]; rfl
        rw [p5, e4, e5] at h6
        exact h6
      · exact h.elim
    · exact h.elim
end Go.Dm.Sx
namespace Go.Dm.Sx
open Go.Dm
set_option linter.unusedVariables false
set_option linter.unusedSimpArgs false
variable {U : Uni}
def DV (U : Uni) (d : Dyn U.B) (v : V) : Prop :=
  match d.t with
  | .base _ => ∃ fs, v = .a (List.map C.f fs) ∧ FDs U fs (cells U d)
  | _ => ∃ f, v = .c (.f f) ∧ FD U f d
def ArgsR (U : Uni) : List In → List (Dyn U.B) → List V → Prop
  | [], ds, vs => ds = [] ∧ vs = []
  | .ty t :: r, ds, vs => ∃ d ds' v vs', ds = d :: ds' ∧ vs = v :: vs' ∧ d.t = t ∧ DV U d v ∧ ArgsR U r ds' vs'
  | .fnc f :: r, ds, vs => ∃ vs', vs = .c (.f (.fn f)) :: vs' ∧ ArgsR U r ds vs'
  | .clo f ts :: r, ds, vs => ∃ d1 ds' fs vs', ds = d1 ++ ds' ∧ vs = .c (.clo f (List.map C.f fs)) :: vs' ∧ d1.map Dyn.t = ts ∧ FDs U fs d1 ∧ ArgsR U r ds' vs'
  | .st b obs :: r, ds, vs => ∃ d ds', ds = d :: ds' ∧ d.t = .base b ∧ ArgsR U r ds' vs
  | .ptr o off :: r, ds, vs => ∃ vs', vs = .c (.ptr o off) :: vs' ∧ ArgsR U r ds vs'
  | .cloP f l :: r, ds, vs => ∃ vs', vs = .c (.clo f (l.map fun p => C.ptr p.1 p.2)) :: vs' ∧ ArgsR U r ds vs'
def ICR (U : Uni) (E : Nat → Nat) (d : Dyn U.B) : IC → Dm.C → Prop
  | .d j, c => ∃ f d', (cells U d)[j]? = some d' ∧ c = .f f ∧ FD U f d'
  | .row o j, c => ∃ d', (cells U d)[j]? = some d' ∧ c = .rs o (E o) (lenOf d')
  | .ptr o off, c => c = .ptr o off
  | .mp o, c => c = .mp o
def ICRs (U : Uni) (E : Nat → Nat) (d : Dyn U.B) : List IC → List Dm.C → Prop
  | [], l => l = []
  | x :: r, l => ∃ c l', l = c :: l' ∧ ICR U E d x c ∧ ICRs U E d r l'
def IOR (U : Uni) (E : Nat → Nat) (d : Dyn U.B) (o : Nat) : IO → Ob → Prop
  | .cells l, ob => ∃ l', ob = .cells l' ∧ ICRs U E d l l'
  | .row w ty sz t j, ob => ∃ d' fs, (cells U d)[j]? = some d' ∧ d'.t = .list t ∧ ob = .arr w (E o) sz fs ∧ FDs U fs (rowOf d') ∧ E o % 8589934592 = ty ∧ sz = width U t
def StR (U : Uni) (E : Nat → Nat) (d : Dyn U.B) (obs : List IO) (σ : St) : Prop := ∀ o io, obs[o]? = some io → ∃ ob, σ[o]? = some ob ∧ IOR U E d o io ob
def DVs (U : Uni) : List (Dyn U.B) → List V → Prop
  | [], vs => vs = []
  | d :: ds, vs => ∃ v vs', vs = v :: vs' ∧ DV U d v ∧ DVs U ds vs'
def oneV (l : List V) : V := match l with | [v] => v | l => .t l
def ResR (U : Uni) (ds : List (Dyn U.B)) (r : V) : Prop := ∃ vs, DVs U ds vs ∧ r = oneV vs
def FStill (P : Program) (s : FSpec U) : Prop :=
  ∀ (x : HL U (insTys s.sig.ins)) (vs : List V), ArgsR U s.sig.ins (HL.dyn _ x) vs → s.pre x → ∀ σ, CallAt P s.sig.f vs σ fun r σ' => ResR U (s.fn x) r ∧ σ' = σ
def FTurn (P : Program) (s : FSpec U) (obs : List IO) : Prop :=
  ∀ (x : HL U (insTys s.sig.ins)) (vs : List V) (E : Nat → Nat) (σ : St) (d : Dyn U.B) (ds : List (Dyn U.B)), ArgsR U s.sig.ins (HL.dyn _ x) vs → HL.dyn _ x = d :: ds → StR U E d obs σ → σ.length = obs.length → s.pre x →
    CallAt P s.sig.f vs σ fun r σ' => ∃ E' d' rs, s.fn x = d' :: rs ∧ ResR U rs r ∧ StR U E' d' obs σ'
def FGood (P : Program) (s : FSpec U) : Prop := match stOf s.sig.ins with | none => FStill P s | some p => FTurn P s p.2
theorem FGood.still {P : Program} {s : FSpec U} (h : FGood P s) (hs : stOf s.sig.ins = none) : FStill P s := by
  unfold FGood at h
  rw [hs] at h
  exact h
theorem dyn_of : ∀ {ts : List Ty} {ds : List (Dyn U.B)}, ds.map Dyn.t = ts → HL.dyn ts (HL.of ts ds) = ds
  | [], [], _ => rfl
  | [], d :: ds, h => by simp at h
  | t :: ts, [], h => by simp at h
  | t :: ts, d :: ds, h => by
    simp only [List.map_cons, List.cons.injEq] at h
    simp only [HL.of, HL.dyn]
    rw [dyn_of h.2, as_eta h.1]
theorem dyn_t : ∀ (ts : List Ty) (x : HL U ts), (HL.dyn ts x).map Dyn.t = ts
  | [], _ => rfl
  | t :: ts, (x, xs) => by simp [HL.dyn, dyn_t ts xs]
def snapS (S : SSt) (x : SC) : Option SC :=
  match x with
  | .rs o kk =>
    (match nth S o with
    | .some (.arr w k' ty sz t a) => (match Nat.beq kk k' with | true => .some (.d (.list t) a) | false => .none)
    | _ => .none)
  | x => (match keepC x with | true => .some x | false => .none)
def snapL (S : SSt) : List SC → Option (List SC)
  | [] => .some []
  | x :: r => (match snapS S x with | .some y => (match snapL S r with | .some l => .some (y :: l) | .none => .none) | .none => .none)
def cellArgK (lay : Nat → List Ty) (e : SE) (S : SSt) (t : Ty) (x : SC) (k : SE → Tm → Tr) : Tr :=
  match x with
  | .ptr o off =>
    (match t, off with
    | .ptr t', 0 =>
      (match nth S o with
      | .some (.cells l) =>
        (match snapL S l, Nat.ble l.length 90 with
        | .some l', true => dataK lay e t' l' fun e y => .toPtr t' y (k (e.push (.ptr t')) e.new)
        | _, _ => .fail)
      | _ => .fail)
    | _, _ => .fail)
  | x => (match snapS S x with | .some x' => tmK e t x' k | .none => .fail)
def capsK (lay : Nat → List Ty) (S : SSt) (k : SE → List Tm → Tr) : List Ty → List SC → SE → (List Tm → List Tm) → Tr
  | [], [], e, acc => k e (acc [])
  | t :: ts, x :: xs, e, acc => cellArgK lay e S t x fun e y => capsK lay S k ts xs e fun l => acc (y :: l)
  | _, _, _, _ => .fail
def argsK (lay : Nat → List Ty) (S : SSt) : List In → List SV → SE → (SE → List Tm → Tr) → Tr
  | [], [], e, k => k e []
  | .ty t :: ins, v :: vs, e, k =>
    (match t with
    | .base b =>
      (match v with
      | .a l => (match snapL S l, Nat.ble l.length 90 with | .some l', true => dataK lay e (.base b) l' fun e y => argsK lay S ins vs e fun e l => k e (y :: l) | _, _ => .fail)
      | _ => .fail)
    | t => (match v with | .c x => cellArgK lay e S t x fun e y => argsK lay S ins vs e fun e l => k e (y :: l) | _ => .fail))
  | .fnc f :: ins, .c (.fn g) :: vs, e, k => (match Nat.beq f g with | true => argsK lay S ins vs e k | false => .fail)
  | .clo f ts :: ins, .c (.clo g caps) :: vs, e, k =>
    (match Nat.beq f g, Nat.ble caps.length 90 with
    | true, true => capsK lay S (fun e l1 => argsK lay S ins vs e fun e l2 => k e (l1 ++ l2)) ts caps e id
    | _, _ => .fail)
  | _, _, _, _ => .fail
def dataV : SV → Bool
  | .c x => keepC x
  | .a l => l.all keepC
  | .t _ => false
def bareT : Ty → Bool
  | .int _ | .bool | .str | .flo | .cpl => true
  | _ => false
def frzV (v : SV) (S : SSt) : Option (SV × SSt) :=
  match v with
  | .c x => (match frzS [x] S with | .some ([y], S') => .some (.c y, S') | _ => .none)
  | .a l => (match frzS l S, Nat.ble l.length 90 with | .some (l', S'), true => .some (.a l', S') | _, _ => .none)
  | .t _ => .none
def frzVs : List SV → SSt → Option (List SV × SSt)
  | [], S => .some ([], S)
  | v :: r, S => (match frzV v S with | .some (y, S') => (match frzVs r S' with | .some (l, S'') => .some (y :: l, S'') | .none => .none) | .none => .none)
def resV (lay : Nat → List Ty) (e : SE) (i : Nat) (t : Ty) : SV :=
  match t with
  | .base b => .a (cellsFrom lay e i 0 (lay b).length)
  | t => .c (.d t (.at i))
def resVs (lay : Nat → List Ty) (e : SE) : Nat → List Ty → List SV
  | _, [] => []
  | i, t :: ts => resV lay e i t :: resVs lay e (i + 1) ts
def SE.pushes (e : SE) (ts : List Ty) : SE := { e with tys := e.tys ++ ts }
def oneOf (l : List SV) : SV := match l with | [v] => v | l => .t l
def callSpec (lay : Nat → List Ty) (sg : Sig) (i : Nat) (args : List SV) (e : SE) (S : SSt) (k : K1) : Tr :=
  match args.all dataV || sg.outs.all bareT with
  | true => argsK lay S sg.ins args e fun e l => .call i l (k (e.pushes sg.outs) (oneOf (resVs lay (e.pushes sg.outs) e.n sg.outs)) S)
  | false =>
    match frzVs args S with
    | .none => .fail
    | .some (args', S') => argsK lay S' sg.ins args' e fun e l => .call i l (k (e.pushes sg.outs) (oneOf (resVs lay (e.pushes sg.outs) e.n sg.outs)) S')
variable {c c' c'' : Cx U} {e : SE} {Sp : List (FSpec U)} {Post : List (Dyn U.B) → Prop} {Go : Nat → List (Dyn U.B) → Prop}
theorem keep_f {ρ : Rho U} {β : Nat → Nat} {ι : Inf} {x : SC} {y : Dm.C} (hk : keepC x = true) (h : CR ρ β ι x y) : ∃ f, y = .f f := by
  cases x <;> simp only [keepC] at hk <;> first
    | (cases hk; done)
    | (simp only [CR] at h; first | exact ⟨_, h⟩ | (obtain ⟨f, d, h1, _⟩ := h; exact ⟨f, h1⟩))
theorem snapC_rs (n : Nat) {σ : St} {o E m sz : Nat} {w : Bool} {gs : List F} (h : σ[o]? = some (.arr w E sz gs)) : snapC n σ (.rs o E m) = some (.f (.sl m gs)) := by
  simp only [snapC, nth_eq, h, Nat.beq_refl]
theorem snap_ok (ok : Ok c e) {x x' : SC} {y : Dm.C} (hx : c.cr x y) (h : snapS c.S x = some x') : ∃ f, (∀ n, snapC n c.σ y = some (.f f)) ∧ c.cr x' (.f f) ∧ (keepC x = true → y = .f f) := by
  unfold snapS at h
  split at h
  · rename_i o kk
    split at h
    · rename_i w k' ty sz t a ho
      split at h
      · rename_i e1
        cases h
        have e1 := beq_nat e1
        subst e1
        obtain ⟨ys, gs, q1, q2, q3, q4, q5, q6⟩ := arr_at ok ho
        simp only [Cx.cr, CR] at hx
        obtain ⟨n, kc, len, rfl, p1, p2, p3⟩ := hx
        have p1' : c.ι o = some (kc, len) := p1
        rw [q6] at p1'
        cases p1'
        have := p3 rfl
        subst this
        refine ⟨.sl ys.length gs, fun n => ?_, ?_, fun h => by cases h⟩
        · exact snapC_rs n q2
        · simp only [Cx.cr, CR]
          exact ⟨_, ⟨.list t, ys⟩, rfl, q1, rfl, by simp only [FD]; exact ⟨t, ys, rfl, rfl, q5⟩⟩
      · cases h
    · cases h
  · split at h
    · rename_i hk
      cases h
      obtain ⟨f, rfl⟩ := keep_f hk hx
      exact ⟨f, fun n => by cases n <;> simp only [snapC], hx, fun _ => rfl⟩
    · cases h
theorem snaps_ok (ok : Ok c e) : ∀ {xs xs' : List SC} {ys : List Dm.C}, c.crs xs ys → snapL c.S xs = some xs' → ∃ fs, (∀ n, xs.length < n → snapCs n c.σ ys = some (List.map C.f fs)) ∧ c.crs xs' (List.map C.f fs) ∧ (xs.all keepC = true → ys = List.map C.f fs)
  | [], xs', ys, hx, h => by
    simp only [snapL, Option.some.injEq] at h
    subst h
    simp only [Cx.crs, CRs] at hx
    subst hx
    exact ⟨[], fun n _ => by cases n <;> simp [snapCs], by simp only [Cx.crs, CRs, List.map_nil], fun _ => rfl⟩
  | x :: r, xs', ys, hx, h => by
    simp only [snapL] at h
    simp only [Cx.crs, CRs] at hx
    obtain ⟨y, ys', rfl, h1, h2⟩ := hx
    split at h
    · rename_i x' hx'
      split at h
      · rename_i l hl
        cases h
        obtain ⟨f, q1, q2, q3⟩ := snap_ok ok h1 hx'
        obtain ⟨fs, p1, p2, p3⟩ := snaps_ok ok h2 hl
        refine ⟨f :: fs, fun n hn => ?_, ?_, fun hk => ?_⟩
        · cases n with
          | zero => simp at hn
          | succ n =>
            simp only [snapCs, q1, p1 n (by simpa using hn)]
            rfl
        · simp only [Cx.crs, CRs, List.map_cons]
          exact ⟨_, _, rfl, q2, p2⟩
        · simp only [List.all_cons, Bool.and_eq_true] at hk
          rw [q3 hk.1, p3 hk.2]; rfl
      · cases h
    · cases h
theorem frz_map (fs : List F) : frz (List.map C.f fs) = some fs := by
  induction fs with
  | nil => rfl
  | cons f r ih => simp [frz, ih]
theorem cellArg_ok (ok : Ok c e) {t : Ty} {x : SC} {y : Dm.C} (hx : c.cr x y) {k : SE → Tm → Tr} (h : TDen Sp Post Go (cellArgK U.lay e c.S t x k) c.ρ) :
    ∃ c' e' a d f, Le c c' ∧ c'.S = c.S ∧ c'.σ = c.σ ∧ Ok c' e' ∧ (∀ n, 100 < n → snapC n c.σ y = some (.f f)) ∧ (keepC x = true → y = .f f) ∧ a.den? c'.ρ = some d ∧ d.t = t ∧ FD U f d ∧ TDen Sp Post Go (k e' a) c'.ρ := by
  unfold cellArgK at h
  split at h
  · rename_i o off
    split at h
    · rename_i t'
      split at h
      · rename_i l ho
        split at h
        · rename_i l' hl hb
          have hb := ble_nat hb
          obtain ⟨ob, h1, l0, rfl, h2⟩ := ok.get ho
          obtain ⟨fs, q1, q2, _⟩ := snaps_ok ok h2 hl
          obtain ⟨c1, e1, a, d, gs, p1, p2, p3, p4, p5, p6, p7, p8, p9⟩ := data_ok ok q2 h
          have := crs_map (ρ := c.ρ) (β := c.β) (ι := c.ι) (xs := l') p5
          subst this
          simp only [Cx.cr, CR] at hx
          subst hx
          obtain ⟨t0, v⟩ := d
          simp only at p7
          subst p7
          have h5 := p9 _ rfl
          rw [den_as p6] at h5
          refine ⟨c1.push ⟨.ptr t0, v⟩, _, _, ⟨.ptr t0, v⟩, .obj fs, p1.trans (Le.push c1 _), p2, p3, p4.push _, fun n hn => ?_, (by intro hk; cases hk), p4.new _, rfl, ?_, h5⟩
          · cases n with
            | zero => omega
            | succ n => simp only [snapC, nth_eq, h1, q1 n (by omega), frz_map]
          · simp only [FD]
            exact .inr ⟨t0, v, rfl, p8⟩
        · exact h.elim
      · exact h.elim
    · exact h.elim
  · split at h
    · rename_i x' hx'
      obtain ⟨f, q1, q2, q3⟩ := snap_ok ok hx hx'
      obtain ⟨c1, e1, a, d, f', p1, p2, p3, p4, p5, p6, p7, p8, p9⟩ := tm_ok ok q2 h
      cases p5
      exact ⟨c1, e1, a, d, f, p1, p2, p3, p4, fun n _ => q1 n, q3, p6, p7, p8, p9⟩
    · exact h.elim
theorem caps_ok {k : SE → List Tm → Tr} : ∀ {ts : List Ty} {xs : List SC} {c : Cx U} {e : SE} (ok : Ok c e) {ys : List Dm.C} (hx : c.crs xs ys) {acc : List Tm → List Tm} (h : TDen Sp Post Go (capsK U.lay c.S k ts xs e acc) c.ρ),
    ∃ c' e' l ds fs, Le c c' ∧ c'.S = c.S ∧ c'.σ = c.σ ∧ Ok c' e' ∧ (∀ n, 100 + xs.length < n → snapCs n c.σ ys = some (List.map C.f fs)) ∧ l.map (Tm.den? c'.ρ) = List.map Option.some ds ∧ ds.map Dyn.t = ts ∧ FDs U fs ds ∧ TDen Sp Post Go (k e' (acc l)) c'.ρ
  | [], [], c, e, ok, ys, hx, acc, h => by
    simp only [Cx.crs, CRs] at hx
    subst hx
    exact ⟨c, e, [], [], [], Le.refl c, rfl, rfl, ok, fun n _ => by cases n <;> simp [snapCs], rfl, rfl, rfl, h⟩
  | t :: ts, x :: xs, c, e, ok, ys, hx, acc, h => by
    simp only [Cx.crs, CRs] at hx
    obtain ⟨y, ys', rfl, h1, h2⟩ := hx
    obtain ⟨c1, e1, a, d, f, q1, q2, q3, q4, q5, _, q7, q8, q9, q10⟩ := cellArg_ok ok h1 h
    rw [← q2] at q10
    obtain ⟨c2, e2, l, ds, fs, p1, p2, p3, p4, p5, p6, p7, p8, p9⟩ := caps_ok q4 (q1.crs h2) q10
    refine ⟨c2, e2, a :: l, d :: ds, f :: fs, q1.trans p1, p2.trans q2, p3.trans q3, p4, fun n hn => ?_, ?_, ?_, ⟨d, ds, rfl, q9, p8⟩, p9⟩
    · cases n with
      | zero => omega
      | succ n =>
        rw [q3] at p5
        simp only [List.length_cons] at hn
        simp only [snapCs, q5 n (by omega), p5 n (by omega)]
        rfl
    · simp only [List.map_cons, p6, p1.den q7]
    · simp only [List.map_cons, p7, q8]
  | [], x :: xs, c, e, ok, ys, hx, acc, h => h.elim
  | t :: ts, [], c, e, ok, ys, hx, acc, h => h.elim
end Go.Dm.Sx
namespace Go.Dm.Sx
open Go.Dm
set_option linter.unusedVariables false
set_option linter.unusedSimpArgs false
variable {U : Uni} {c c' c'' : Cx U} {e : SE} {Sp : List (FSpec U)} {Post : List (Dyn U.B) → Prop} {Go : Nat → List (Dyn U.B) → Prop} {P : Program}
theorem frees_map (fs : List F) : C.frees (List.map C.f fs) = true := by
  induction fs with
  | nil => rfl
  | cons f r ih => simp [C.frees, C.free, ih]
theorem den_map {ρ : Rho U} : ∀ {l : List Tm} {ds : List (Dyn U.B)}, l.map (Tm.den? ρ) = List.map Option.some ds → (l.map fun y => y.den ρ) = ds
  | [], [], _ => rfl
  | [], d :: ds, h => by simp at h
  | a :: l, [], h => by simp at h
  | a :: l, d :: ds, h => by
    simp only [List.map_cons, List.cons.injEq] at h ⊢
    exact ⟨Tm.den_of h.1, den_map h.2⟩
def Cx.vrs (c : Cx U) : List SV → List V → Prop := VRs c.ρ c.β c.ι
theorem Le.vrs (h : Le c c') {x : List SV} {v : List V} (hv : c.vrs x v) : c'.vrs x v := VRs.later h hv
theorem den_le (h : Le c c') {l : List Tm} {ds : List (Dyn U.B)} (hl : l.map (Tm.den? c.ρ) = List.map Option.some ds) : l.map (Tm.den? c'.ρ) = List.map Option.some ds := by
  induction l generalizing ds with
  | nil => cases ds with | nil => rfl | cons d ds => simp at hl
  | cons a l ih =>
    cases ds with
    | nil => simp at hl
    | cons d ds =>
      simp only [List.map_cons, List.cons.injEq] at hl ⊢
      exact ⟨h.den hl.1, ih hl.2⟩
theorem args_ok : ∀ (ins : List In) {args : List SV} {c : Cx U} {e : SE} (ok : Ok c e) {vs : List V} (hv : c.vrs args vs) {k : SE → List Tm → Tr} (h : TDen Sp Post Go (argsK U.lay c.S ins args e k) c.ρ),
    ∃ c' e' l ds vs', Le c c' ∧ c'.S = c.S ∧ c'.σ = c.σ ∧ Ok c' e' ∧ snapVs c.σ vs = some vs' ∧ (args.all dataV = true → vs' = vs) ∧ V.frees vs' = true ∧ l.map (Tm.den? c'.ρ) = List.map Option.some ds ∧ ds.map Dyn.t = insTys ins ∧ ArgsR U ins ds vs' ∧ TDen Sp Post Go (k e' l) c'.ρ
  | [], args, c, e, ok, vs, hv, k, h => by
    cases args with
    | nil =>
      simp only [Cx.vrs, VRs] at hv
      subst hv
      exact ⟨c, e, [], [], [], Le.refl c, rfl, rfl, ok, rfl, fun _ => rfl, rfl, rfl, rfl, ⟨rfl, rfl⟩, h⟩
    | cons v vs => exact h.elim
  | .ty t :: ins, args, c, e, ok, vs, hv, k, h => by
    cases args with
    | nil => exact h.elim
    | cons a args =>
      simp only [Cx.vrs, VRs] at hv
      obtain ⟨v, vr, rfl, h1, h2⟩ := hv
      simp only [argsK] at h
      split at h
      · rename_i b
        split at h
        · rename_i l
          split at h
          · rename_i l' hl hb
            have hb := ble_nat hb
            simp only [VR] at h1
            obtain ⟨ys, rfl, h1⟩ := h1
            obtain ⟨fs, q1, q2, q3⟩ := snaps_ok ok h1 hl
            obtain ⟨c1, e1, y, d, gs, p1, p2, p3, p4, p5, p6, p7, p8, p9⟩ := data_ok ok q2 h
            have := crs_map (ρ := c.ρ) (β := c.β) (ι := c.ι) (xs := l') p5
            subst this
            rw [← p2] at p9
            obtain ⟨c2, e2, tl, ds, vs', r1, r2, r3, r4, r5, r6, r7, r8, r9, r10, r11⟩ := args_ok ins p4 (p1.vrs h2) p9
            refine ⟨c2, e2, y :: tl, d :: ds, .a (List.map C.f fs) :: vs', p1.trans r1, r2.trans p2, r3.trans p3, r4, ?_, fun hk => ?_, ?_, ?_, ?_, ?_, r11⟩
            · rw [p3] at r5
              simp only [snapVs, snapV, q1 1000 (by omega), r5]
            · simp only [List.all_cons, Bool.and_eq_true, dataV] at hk
              rw [r6 hk.2, q3 hk.1]
            · simp only [V.frees, V.free, frees_map, r7]
            · simp only [List.map_cons, r8, r1.den p6]
            · simp only [List.map_cons, r9, p7, insTys, In.tys, List.cons_append, List.nil_append]
            · refine ⟨d, ds, _, vs', rfl, rfl, p7, ?_, r10⟩
              unfold DV
              rw [p7]
              exact ⟨fs, rfl, p8⟩
          · exact h.elim
        · exact h.elim
      · rename_i hnb
        split at h
        · rename_i x
          by_cases hun : x = .un
          · subst hun
            exact h.elim
          obtain ⟨y0, rfl, h1'⟩ := V_c hun h1
          obtain ⟨c1, e1, y, d, f, p1, p2, p3, p4, p5, p5', p6, p7, p8, p9⟩ := cellArg_ok ok h1' h
          rw [← p2] at p9
          obtain ⟨c2, e2, tl, ds, vs', r1, r2, r3, r4, r5, r6, r7, r8, r9, r10, r11⟩ := args_ok ins p4 (p1.vrs h2) p9
          refine ⟨c2, e2, y :: tl, d :: ds, .c (.f f) :: vs', p1.trans r1, r2.trans p2, r3.trans p3, r4, ?_, fun hk => ?_, ?_, ?_, ?_, ?_, r11⟩
          · rw [p3] at r5
            simp only [snapVs, snapV, p5 1000 (by omega), r5]
          · simp only [List.all_cons, Bool.and_eq_true, dataV] at hk
            rw [r6 hk.2, p5' hk.1]
          · simp only [V.frees, V.free, C.free, r7]
          · simp only [List.map_cons, r8, r1.den p6]
          · simp only [List.map_cons, r9, p7, insTys, In.tys, List.cons_append, List.nil_append]
          · refine ⟨d, ds, _, vs', rfl, rfl, p7, ?_, r10⟩
            unfold DV
            rw [p7]
            cases t <;> first | exact ⟨f, rfl, p8⟩ | exact (hnb _ rfl).elim
        · exact h.elim
  | .fnc f :: ins, args, c, e, ok, vs, hv, k, h => by
    cases args with
    | nil => exact h.elim
    | cons a args =>
      simp only [Cx.vrs, VRs] at hv
      obtain ⟨v, vr, rfl, h1, h2⟩ := hv
      cases a with
      | a l => exact h.elim
      | t l => exact h.elim
      | c x =>
        cases x with
        | fn g =>
          simp only [argsK] at h
          split at h
          · rename_i hb
            have := beq_nat hb
            subst this
            obtain ⟨y0, rfl, h0⟩ := V_c (by simp) h1
            simp only [CR] at h0
            subst h0
            obtain ⟨c2, e2, tl, ds, vs', r1, r2, r3, r4, r5, r6, r7, r8, r9, r10, r11⟩ := args_ok ins ok h2 h
            refine ⟨c2, e2, tl, ds, .c (.f (.fn f)) :: vs', r1, r2, r3, r4, ?_, fun hk => ?_, ?_, r8, ?_, ⟨vs', rfl, r10⟩, r11⟩
            · simp only [snapVs, snapV, snapC, r5]
            · simp only [List.all_cons, Bool.and_eq_true, dataV] at hk
              rw [r6 hk.2]
            · simp only [V.frees, V.free, C.free, r7]
            · simp only [r9, insTys, In.tys, List.nil_append]
          · exact h.elim
        | _ => exact h.elim
  | .clo f ts :: ins, args, c, e, ok, vs, hv, k, h => by
    cases args with
    | nil => exact h.elim
    | cons a args =>
      simp only [Cx.vrs, VRs] at hv
      obtain ⟨v, vr, rfl, h1, h2⟩ := hv
      cases a with
      | a l => exact h.elim
      | t l => exact h.elim
      | c x =>
        cases x with
        | clo g caps =>
          simp only [argsK] at h
          split at h
          · rename_i hb hb2
            have := beq_nat hb
            subst this
            have hb2 := ble_nat hb2
            obtain ⟨y0, rfl, h0⟩ := V_c (by simp) h1
            simp only [CR] at h0
            obtain ⟨l0, rfl, h0⟩ := h0
            obtain ⟨c1, e1, l1, d1, fs, p1, p2, p3, p4, p5, p6, p7, p8, p9⟩ := caps_ok ok h0 h
            simp only [id] at p9
            rw [← p2] at p9
            obtain ⟨c2, e2, tl, ds, vs', r1, r2, r3, r4, r5, r6, r7, r8, r9, r10, r11⟩ := args_ok ins p4 (p1.vrs h2) p9
            refine ⟨c2, e2, l1 ++ tl, d1 ++ ds, .c (.clo f (List.map C.f fs)) :: vs', p1.trans r1, r2.trans p2, r3.trans p3, r4, ?_, fun hk => ?_, ?_, ?_, ?_, ⟨d1, ds, fs, vs', rfl, rfl, p7, p8, r10⟩, r11⟩
            · rw [p3] at r5
              have := p5 999 (by omega)
              simp only [snapVs, snapV, snapC, this, r5]
            · simp only [List.all_cons, Bool.and_eq_true, dataV, keepC] at hk
              cases hk.1
            · simp only [V.frees, V.free, C.free, frees_map, r7]
            · rw [List.map_append, List.map_append, r8, den_le r1 p6]
            · rw [List.map_append, r9, p7]
              rfl
          · exact h.elim
        | _ => exact h.elim
  | .st b obs :: ins, args, c, e, ok, vs, hv, k, h => by cases args <;> exact h.elim
  | .ptr o off :: ins, args, c, e, ok, vs, hv, k, h => by cases args <;> exact h.elim
  | .cloP f l :: ins, args, c, e, ok, vs, hv, k, h => by cases args <;> exact h.elim
theorem call_lookP {f : FuncId} {args args' : List V} {σ : St} (hs : snapVs σ args = some args') {k : V → Prop} (h : CallAt P f args' [] fun r _ => k r) (hb : ∀ r, k r → r.bare = true) : CallAt P f args σ fun r σ' => k r ∧ σ' = σ := by
  intro g w vs hr hv
  have hend : ∀ v w', CallEnd (ghost0 w) w [] (fun r _ => k r) v w' → CallEnd g w σ (fun r σ' => k r ∧ σ' = σ) v w' := by
    rintro v w' ⟨r, σ1, g1, h1, h2, h3, h4⟩
    obtain ⟨t1, t2⟩ := turn_of_below hr (below_of_turn h3)
    exact ⟨r, σ, g, ⟨h1, rfl⟩, t1, t2, bareV (hb r h1) h4⟩
  rcases h (ghost0 w) w vs (rep0 w) (snapVs_ok hr hs hv) with ⟨v, w', h1, h2⟩ | ⟨h1, h2⟩
  · exact .inl ⟨v, w', h1, hend v w' h2⟩
  · exact .inr ⟨h1, h2.mono fun e w' ⟨v, h3, h4⟩ => ⟨v, h3, hend v w' h4⟩⟩
theorem call_ghost {f : FuncId} {args l : List V} {σ σ' : St} (hst : ∀ g w vs, Rep g w σ → VReps g w σ args vs → ∃ g1, Rep g1 w σ' ∧ Turn g w σ g1 w σ' ∧ VReps g1 w σ' l vs) {k : V → St → Prop} (h : CallAt P f l σ' k) : CallAt P f args σ k := by
  intro g w vs hr hv
  obtain ⟨g1, r1, t1, v1⟩ := hst g w vs hr hv
  have hend : ∀ v w', CallEnd g1 w σ' k v w' → CallEnd g w σ k v w' := fun v w' ⟨r, σ2, g2, h1, h2, h3, h4⟩ => ⟨r, σ2, g2, h1, h2, t1.trans h3, h4⟩
  rcases h g1 w vs r1 v1 with ⟨v, w', h1, h2⟩ | ⟨h1, h2⟩
  · exact .inl ⟨v, w', h1, hend v w' h2⟩
  · exact .inr ⟨h1, h2.mono fun e w' ⟨v, h3, h4⟩ => ⟨v, h3, hend v w' h4⟩⟩
theorem FD.bare {f : F} {d : Dyn U.B} (hb : bareT d.t = true) (h : FD U f d) : f.bare = true := by
  cases f <;> simp only [FD] at h <;> first
    | rfl
    | (exfalso; rcases h with h | h <;> (obtain ⟨t, x, rfl, _⟩ := h; cases hb; done))
    | (exfalso; obtain ⟨t, xs, rfl, _⟩ := h; cases hb; done)
theorem DV.bare {d : Dyn U.B} {v : V} (hb : bareT d.t = true) (h : DV U d v) : v.bare = true := by
  unfold DV at h
  split at h
  · rename_i n hd
    rw [hd] at hb; cases hb
  · obtain ⟨f, rfl, h⟩ := h
    exact h.bare hb
theorem DVs.bare : ∀ {ds : List (Dyn U.B)} {vs : List V}, (∀ d ∈ ds, bareT d.t = true) → DVs U ds vs → V.bares vs = true
  | [], vs, _, h => by simp only [DVs] at h; subst h; rfl
  | d :: ds, vs, hb, h => by
    obtain ⟨v, vr, rfl, h1, h2⟩ := h
    simp only [V.bares, h1.bare (hb d (List.mem_cons_self ..))]
    exact DVs.bare (fun d' hd => hb d' (List.mem_cons_of_mem _ hd)) h2
theorem ResR.bare {ds : List (Dyn U.B)} {r : V} (hb : ∀ d ∈ ds, bareT d.t = true) (h : ResR U ds r) : r.bare = true := by
  obtain ⟨vs, h1, rfl⟩ := h
  have := h1.bare hb
  unfold oneV
  split
  · rename_i v
    simp only [V.bares] at this
    split at this
    · assumption
    · cases this
  · exact this
theorem later_pushes (ok : Ok c e) (ds : List (Dyn U.B)) : Le c { c with ρ := c.ρ ++ ds } ∧ Ok { c with ρ := c.ρ ++ ds } (e.pushes (ds.map Dyn.t)) := by
  have hle : Le c { c with ρ := c.ρ ++ ds } := later_push c.ρ c.β c.S ds
  refine ⟨hle, ⟨by simp [SE.pushes, ok.tys], fun p hp => Tm.den_app (ok.kn p hp) _, fun x hx => ?_, ok.len, fun o so ho => ?_⟩⟩
  · obtain ⟨d', h1, h2⟩ := ok.ne x hx
    exact ⟨d', Tm.den_app h1 _, h2⟩
  · obtain ⟨ob, h1, h2⟩ := ok.st o so ho
    exact ⟨ob, h1, h2.later hle rfl⟩
theorem resV_ok (ok : Ok c e) {i : Nat} {d : Dyn U.B} (hi : c.ρ[i]? = some d) {v : V} (h : DV U d v) : c.vr (resV U.lay e i d.t) v := by
  obtain ⟨t, x⟩ := d
  cases t with
  | base b =>
    obtain ⟨fs, rfl, h⟩ := h
    simp only [resV, Cx.vr, VR]
    refine ⟨_, rfl, cellsFrom_ok ok hi _ 0 (by rw [h.len, cells_len]; rfl) fun m hm => ?_⟩
    have h1 : (cells U ⟨.base b, x⟩)[m]? = some ((cells U ⟨.base b, x⟩)[m]'(by rw [cells_len]; exact hm)) := List.getElem?_eq_getElem _
    obtain ⟨f, h2, h3⟩ := h.get h1
    exact ⟨_, f, by rw [Nat.zero_add]; exact h1, h2, h3⟩
  | _ =>
    obtain ⟨f, rfl, h⟩ := h
    exact vd_of (a := .at i) hi rfl h
theorem resVs_ok (ok : Ok c e) : ∀ {ds : List (Dyn U.B)} {i : Nat} {vs : List V}, (∀ j d, ds[j]? = some d → c.ρ[i + j]? = some d) → DVs U ds vs → c.vrs (resVs U.lay e i (ds.map Dyn.t)) vs
  | [], i, vs, _, h => by simp only [DVs] at h; subst h; simp only [resVs, List.map_nil, Cx.vrs, VRs]
  | d :: ds, i, vs, hi, h => by
    obtain ⟨v, vr, rfl, h1, h2⟩ := h
    simp only [resVs, List.map_cons, Cx.vrs, VRs]
    refine ⟨v, vr, rfl, resV_ok ok (by simpa using hi 0 d rfl) h1, resVs_ok ok (fun j d' hj => ?_) h2⟩
    have := hi (j + 1) d' (by simpa using hj)
    rwa [show i + (j + 1) = i + 1 + j from by omega] at this
theorem oneOf_ok {l : List SV} {vs : List V} (h : c.vrs l vs) : c.vr (oneOf l) (oneV vs) := by
  match l, vs, h with
  | [], vs, h => simp only [Cx.vrs, VRs] at h; subst h; simp only [oneOf, Cx.vr, VR]; exact ⟨[], rfl, by simp only [VRs]⟩
  | [x], vs, h =>
    simp only [Cx.vrs, VRs] at h
    obtain ⟨v, vr, rfl, h1, rfl⟩ := h
    exact h1
  | x :: y :: r, vs, h =>
    have h0 := h
    simp only [Cx.vrs, VRs] at h
    obtain ⟨v, vr, rfl, h1, u, vr', rfl, h2, h3⟩ := h
    simp only [oneOf, Cx.vr, VR]
    exact ⟨_, rfl, h0⟩
theorem spec_end (ok : Ok c e) {outs : List Ty} {ds : List (Dyn U.B)} (hd : ds.map Dyn.t = outs) {k : K1} {K : V → St → Prop} (hk : FollS Sp Post Go c k K) (h : TDen Sp Post Go (k (e.pushes outs) (oneOf (resVs U.lay (e.pushes outs) e.n outs)) c.S) (c.ρ ++ ds)) {r : V} (hr : ResR U ds r) : K r c.σ := by
  subst hd
  obtain ⟨g1, g2⟩ := later_pushes ok ds
  obtain ⟨vs, h1, rfl⟩ := hr
  refine hk { c with ρ := c.ρ ++ ds } _ _ _ g1 g2 (oneOf_ok (resVs_ok g2 (fun j d hj => ?_) h1)) h
  show (c.ρ ++ ds)[e.n + j]? = some d
  rw [ok.n, List.getElem?_append_right (by omega), Nat.add_sub_cancel_left]
  exact hj
theorem hard_of : ∀ {ys : List Dm.C} {σ : St} {K : List F → St → Prop}, (∀ y ∈ ys, (∃ f, y = .f f) ∨ ∃ o e n, y = .rs o e n) → vfrzs prims ys σ K → ∃ fs σ', K fs σ' ∧ ∀ n, ys.length < n → hardCs n ys σ = some (List.map C.f fs, σ')
  | [], σ, K, _, h => ⟨[], σ, h, fun n _ => by cases n <;> simp [hardCs]⟩
  | y :: r, σ, K, hy, h => by
    rcases hy y (List.mem_cons_self ..) with ⟨f, rfl⟩ | ⟨o, ep, n, rfl⟩
    · simp only [vfrzs] at h
      obtain ⟨fs, σ', h1, h2⟩ := hard_of (fun y hy' => hy y (List.mem_cons_of_mem _ hy')) h
      refine ⟨f :: fs, σ', h1, fun n hn => ?_⟩
      cases n with
      | zero => simp at hn
      | succ n => simp only [hardCs, hardC, h2 n (by simpa using hn), List.map_cons]
    · simp only [vfrzs] at h
      split at h
      · rename_i w e0 sz l ho
        obtain ⟨he, h⟩ := h
        have he : ep = e0 := he
        subst he
        obtain ⟨fs, σ', h1, h2⟩ := hard_of (fun y hy' => hy y (List.mem_cons_of_mem _ hy')) h
        refine ⟨.sl n l :: fs, σ', h1, fun m hn => ?_⟩
        cases m with
        | zero => simp at hn
        | succ m =>
          have h3 := h2 m (by simpa using hn)
          simp only [hardCs, hardC, nth_eq, ho, Nat.beq_refl, put_eq, h3, List.map_cons]
      · exact h.elim
theorem frz_kinds : ∀ (xs : List SC) {S S' : SSt} {ys : List SC} {c : Cx U} {zs : List Dm.C}, c.crs xs zs → frzS xs S = some (ys, S') → (∀ y ∈ zs, (∃ f, y = .f f) ∨ ∃ o e n, y = .rs o e n) ∧ ys.all keepC = true
  | [], S, S', ys, c, zs, hx, h => by
    simp only [Cx.crs, CRs] at hx
    subst hx
    simp only [frzS, Option.some.injEq, Prod.mk.injEq] at h
    rw [← h.1]
    exact ⟨fun y hy => (by cases hy), rfl⟩
  | x :: r, S, S', ys, c, zs, hx, h => by
    simp only [Cx.crs, CRs] at hx
    obtain ⟨z, zr, rfl, h1, h2⟩ := hx
    simp only [frzS] at h
    split at h
    · split at h
      · split at h
        · split at h
          · rename_i l S2 hr
            cases h
            obtain ⟨q1, q2⟩ := frz_kinds (c := c) r h2 hr
            simp only [CR] at h1
            obtain ⟨n, kc, len, rfl, _⟩ := h1
            refine ⟨fun y hy => ?_, by simp [keepC, q2]⟩
            rcases List.mem_cons.1 hy with rfl | hy
            · exact .inr ⟨_, _, _, rfl⟩
            · exact q1 y hy
          · cases h
        · cases h
      · cases h
    · split at h
      · rename_i hk
        split at h
        · rename_i l S2 hr
          cases h
          obtain ⟨q1, q2⟩ := frz_kinds (c := c) r h2 hr
          obtain ⟨f, rfl⟩ := keep_f hk h1
          refine ⟨fun y hy => ?_, by simp [hk, q2]⟩
          rcases List.mem_cons.1 hy with rfl | hy
          · exact .inl ⟨f, rfl⟩
          · exact q1 y hy
        · cases h
      · cases h
theorem frzV_ok (ok : Ok c e) {x x' : SV} {v : V} (hx : c.vr x v) {S' : SSt} (h : frzV x c.S = some (x', S')) : ∃ c' v', Le c c' ∧ c'.S = S' ∧ c'.ρ = c.ρ ∧ Ok c' e ∧ c'.vr x' v' ∧ hardV v c.σ = some (v', c'.σ) ∧ dataV x' = true := by
  unfold frzV at h
  split at h
  · rename_i x
    split at h
    · rename_i y S2 hf
      cases h
      by_cases hun : x = .un
      · subst hun
        simp [frzS, keepC] at hf
      obtain ⟨y0, rfl, h1⟩ := V_c hun hx
      have hcs : c.crs [x] [y0] := by simp only [Cx.crs, CRs]; exact ⟨y0, [], rfl, h1, rfl⟩
      obtain ⟨c2, fs, r1, r2, r3, r4, r5, r6⟩ := frz_ok [x] ok hcs hf
      obtain ⟨q1, q2⟩ := frz_kinds (c := c) [x] hcs hf
      obtain ⟨fs', σ', ⟨rfl, rfl⟩, h3⟩ := hard_of (K := fun l s => l = fs ∧ s = c2.σ) q1 (r6 _ ⟨rfl, rfl⟩)
      have h4 := h3 1000 (by simp)
      have hl := r5.len
      match fs', hl, r5, h4 with
      | [f], hl, r5, h4 =>
        simp only [Cx.crs, CRs, List.map_cons, List.map_nil, List.cons.injEq] at r5
        obtain ⟨_, _, ⟨rfl, rfl⟩, r5, _⟩ := r5
        refine ⟨c2, .c (.f f), r1, r2, r3, r4, VR.c r5, ?_, by simpa [dataV] using q2⟩
        rcases q1 y0 (by simp) with ⟨g, rfl⟩ | ⟨o, ep, n, rfl⟩
        · simp only [hardCs, hardC, List.map_cons, List.map_nil, Option.some.injEq, Prod.mk.injEq, List.cons.injEq, and_true] at h4
          simp only [hardV, hardC, h4.1, h4.2]
        · have h5 : hardC 999 (.rs o ep n) c.σ = hardC 1000 (.rs o ep n) c.σ := by simp only [hardC]
          simp only [hardCs, h5] at h4
          simp only [hardV]
          generalize hardC 1000 (.rs o ep n) c.σ = z at h4
          cases z with
          | none => cases h4
          | some p =>
            obtain ⟨y', σ2⟩ := p
            simp only [Option.some.injEq, Prod.mk.injEq, List.map_cons, List.map_nil, List.cons.injEq, and_true] at h4
            simp only [h4.1, h4.2]
    · cases h
  · rename_i l
    split at h
    · rename_i l' S2 hf hb
      cases h
      have hb := ble_nat hb
      simp only [Cx.vr, VR] at hx
      obtain ⟨ys, rfl, h1⟩ := hx
      obtain ⟨c2, fs, r1, r2, r3, r4, r5, r6⟩ := frz_ok l ok h1 hf
      obtain ⟨q1, q2⟩ := frz_kinds (c := c) l h1 hf
      obtain ⟨fs', σ', ⟨rfl, rfl⟩, h3⟩ := hard_of (K := fun l s => l = fs ∧ s = c2.σ) q1 (r6 _ ⟨rfl, rfl⟩)
      have := h1.len
      refine ⟨c2, .a (List.map C.f fs'), r1, r2, r3, r4, by simp only [Cx.vr, VR]; exact ⟨_, rfl, r5⟩, ?_, q2⟩
      simp only [hardV, h3 1000 (by omega)]
    · cases h
  · cases h
theorem frzVs_ok : ∀ (xs : List SV) {c : Cx U} {e : SE} (ok : Ok c e) {xs' : List SV} {vs : List V} (hx : c.vrs xs vs) {S' : SSt} (h : frzVs xs c.S = some (xs', S')), ∃ c' vs', Le c c' ∧ c'.S = S' ∧ c'.ρ = c.ρ ∧ Ok c' e ∧ c'.vrs xs' vs' ∧ hardVs vs c.σ = some (vs', c'.σ) ∧ xs'.all dataV = true
  | [], c, e, ok, xs', vs, hx, S', h => by
    simp only [frzVs, Option.some.injEq, Prod.mk.injEq] at h
    obtain ⟨rfl, rfl⟩ := h
    simp only [Cx.vrs, VRs] at hx
    subst hx
    exact ⟨c, [], Le.refl c, rfl, rfl, ok, by simp only [Cx.vrs, VRs], rfl, rfl⟩
  | x :: r, c, e, ok, xs', vs, hx, S', h => by
    simp only [Cx.vrs, VRs] at hx
    obtain ⟨v, vr, rfl, h1, h2⟩ := hx
    simp only [frzVs] at h
    split at h
    · rename_i y S2 hy
      split at h
      · rename_i l S3 hl
        cases h
        obtain ⟨c1, v1, q1, q2, q3, q4, q5, q6, q7⟩ := frzV_ok ok h1 hy
        subst q2
        obtain ⟨c2, vs2, p1, p2, p3, p4, p5, p6, p7⟩ := frzVs_ok r q4 (q1.vrs h2) hl
        refine ⟨c2, v1 :: vs2, q1.trans p1, p2, p3.trans q3, p4, ?_, ?_, ?_⟩
        · simp only [Cx.vrs, VRs]
          exact ⟨v1, vs2, rfl, p1.vr q5, p5⟩
        · simp only [hardVs, q6, p6]
        · simp only [List.all_cons, q7, p7, Bool.and_self]
      · cases h
    · cases h
theorem call_ok (ok : Ok c e) {s : FSpec U} (hs : FStill P s) {i : Nat} (hi : Sp[i]? = some s) {args : List SV} {vs : List V} (hv : c.vrs args vs) {k : K1} {K : V → St → Prop} (hk : FollS Sp Post Go c k K)
    (h : TDen Sp Post Go (callSpec U.lay s.sig i args e c.S k) c.ρ) : CallAt P s.sig.f vs c.σ K := by
  have main : ∀ {c : Cx U} {e : SE} {args : List SV} {vs : List V}, Ok c e → c.vrs args vs → FollS Sp Post Go c k K → (args.all dataV = true ∨ s.sig.outs.all bareT = true) →
      TDen Sp Post Go (argsK U.lay c.S s.sig.ins args e fun e l => .call i l (k (e.pushes s.sig.outs) (oneOf (resVs U.lay (e.pushes s.sig.outs) e.n s.sig.outs)) c.S)) c.ρ → CallAt P s.sig.f vs c.σ K := by
    intro c e args vs ok hv hk hor h
    obtain ⟨c1, e1, l, ds, vs', q1, q2, q3, q4, q5, q6, q7, q8, q9, q10, q11⟩ := args_ok s.sig.ins ok hv h
    simp only [TDen, hi] at q11
    obtain ⟨p1, p2⟩ := q11
    rw [den_map q8] at p1 p2
    have hx : HL.dyn _ (HL.of (insTys s.sig.ins) ds) = ds := dyn_of q9
    have p3 := p2
    have hg := hs (HL.of _ ds) vs' (by rw [hx]; exact q10) p1
    have fin : ∀ {r : V}, ResR U (s.fn (HL.of _ ds)) r → K r c.σ := fun {r} hr => by
      rw [← q2] at p3
      rw [← q3]
      exact spec_end q4 (s.ty _) (hk.later q1) p3 hr
    by_cases hd : args.all dataV = true
    · have := q6 hd
      subst this
      exact (hg c.σ).mono fun r σ' ⟨h1, h2⟩ => by subst h2; exact fin h1
    · have hb := hor.resolve_left hd
      refine (call_lookP q5 ((hg []).mono fun r σ' h => h.1) fun r hr => hr.bare fun d hd => ?_).mono fun r σ' ⟨h1, h2⟩ => by subst h2; exact fin h1
      have : d.t ∈ (s.fn (HL.of _ ds)).map Dyn.t := List.mem_map_of_mem hd
      rw [s.ty] at this
      exact List.all_eq_true.1 hb _ this
  unfold callSpec at h
  split at h
  · rename_i hor
    rw [Bool.or_eq_true] at hor
    exact main ok hv hk hor h
  · split at h
    · exact h.elim
    · rename_i args' S' hf
      obtain ⟨c2, vs2, p1, p2, p3, p4, p5, p6, p7⟩ := frzVs_ok args ok hv hf
      subst p2
      rw [← p3] at h
      exact call_ghost (fun g w us hr hu => hardVs_ok hr p6 hu) (main p4 p5 (hk.later p1) (.inl p7) h)
end Go.Dm.Sx
namespace Go.Dm.Sx
open Go.Dm
set_option linter.unusedVariables false
set_option linter.unusedSimpArgs false
structure SEnv where
  tb : Tab
  lay : Nat → List Ty
  tyO : Nat → Option Ty
  sigs : List Sig
  bodies : Nat → Option YFun
  same : Nat → Bool
def capS : SV → SC
  | .c x => x
  | _ => .un
def rowK (x : SV) (S : SSt) (k : Ty → Tm → Tr) : Tr :=
  match x with
  | .c (.d (.list t) l) => k t l
  | .c (.rs o kk) => (match nth S o with | .some (.arr _ k' _ _ t l) => (match Nat.beq kk k' with | true => k t l | false => .fail) | _ => .fail)
  | _ => .fail
def negS (op : BinOp) (b : Bool) : Option Bool :=
  match op with
  | .eql => .some b
  | .neq => .some (!b)
  | _ => .none
def convS (X : SEnv) (e : SE) (s d : TypeId) (x : SV) (S : SSt) (k : K1) : Tr :=
  match (X.tb s).d, (X.tb d).d with
  | .int _, .int j =>
    (match x with
    | .c (.d (.int _) a) => (match a with | .int _ n => k e (vi j (.int j (j.wrap n))) S | a => .wrap j a (k (e.push (.int j)) (vi j e.new) S))
    | _ => .fail)
  | .int _, .flo => (match x with | .c (.d (.int _) a) => .fofi a (k (e.push .flo) (.c (.d .flo e.new)) S) | _ => .fail)
  | .flo, .int .i64 => (match x with | .c (.d .flo a) => .foi a (k (e.push (.int .i64)) (vi .i64 e.new) S) | _ => .fail)
  | .str, .str => (match x with | .c (.d .str a) => k e (.c (.d .str a)) S | _ => .fail)
  | .slice el, .str =>
    (match (X.tb el).d, x with
    | .int .u8, .c .nil => k e (.c (.d .str (.str []))) S
    | .int .u8, x => rowK x S fun t l => (match t with | .int .u8 => .sof l (k (e.push .str) (.c (.d .str e.new)) S) | _ => .fail)
    | _, _ => .fail)
  | .str, .slice el =>
    (match (X.tb el).d, x, Nat.ble el 4294967295 with
    | .int .u8, .c (.d .str s), true => .sbytes s (.lnew (.int .u8) 0 e.new (k (e.push (.list (.int .u8))) (.c (.rs S.length 0)) (S ++ [.arr true 0 (el + 4294967296) 1 (.int .u8) e.new])))
    | _, _, _ => .fail)
  | _, _ => .fail
def nilEqS (X : SEnv) (e : SE) (op : BinOp) (x y : SV) (S : SSt) (k : K1) : Tr :=
  match y, negS op true, negS op false with
  | .c .nil, .some bt, .some bf =>
    (match x with
    | .c .nil => k e (vb (.bool bt)) S
    | x => rowK x S fun t l =>
      (match wid X.lay t with
      | 0 => .fail
      | _ => (match memT l e.ne with
        | true => k e (vb (.bool bf)) S
        | false => .lnil t l (.both (k e (vb (.bool bt)) S) (k e (vb (.bool bf)) S)) (k { e with ne := l :: e.ne } (vb (.bool bf)) S))))
  | _, _, _ => .fail
def ptrEqS (X : SEnv) (e : SE) (el : TypeId) (op : BinOp) (x y : SV) (S : SSt) (k : K1) : Tr :=
  match (X.tb el).d.isNo, Nat.blt 0 (X.tb el).size, negS op true, negS op false with
  | false, true, .some bt, .some bf =>
    (match x, y with
    | .c .nilp, .c .nilp => k e (vb (.bool bt)) S
    | .c (.ptr _ _), .c .nilp => k e (vb (.bool bf)) S
    | .c .nilp, .c (.ptr _ _) => k e (vb (.bool bf)) S
    | .c (.d (.ptr _) _), .c .nilp => k e (vb (.bool bf)) S
    | .c (.d (.opt t) a), .c .nilp =>
      .isnil t a ((match bt with | true => k (e.push .bool) (vb e.new) S | false => .bnot e.new (k ((e.push .bool).push .bool) (vb (.at (e.n + 1))) S)))
    | .c (.ptr o i), .c (.ptr o' i') => (match Nat.beq o o', Nat.beq i i' with | true, true => k e (vb (.bool bt)) S | _, _ => .fail)
    | _, _ => .fail)
  | _, _, _, _ => .fail
def allB : List KK → List SC → List SC → Bool
  | [], [], [] => true
  | .b :: ks, .d .bool _ :: l, .d .bool _ :: m => allB ks l m
  | _, _, _ => false
def aggK (bt bf : Bool) (k : SE → Tm → Tr) : List SC → List SC → SE → Tr
  | .d _ a :: l, .d _ b :: m, e => .beq false a b (.br e.new (aggK bt bf k l m (e.push .bool)) (k (e.push .bool) (.bool bf)))
  | _, _, e => k e (.bool bt)
def aggEqS (X : SEnv) (e : SE) (t : TypeId) (op : BinOp) (x y : SV) (S : SSt) (k : K1) : Tr :=
  match (X.tb t).key, x, y, negS op true, negS op false with
  | kk :: ks, .a l, .a m, .some bt, .some bf => (match allB (kk :: ks) l m with | true => aggK bt bf (fun e x => k e (vb x) S) l m e | false => .fail)
  | _, _, _, _, _ => .fail
def makeS (X : SEnv) (e : SE) (t : TypeId) (a b : SV) (S : SSt) (k : K1) : Tr :=
  match (X.tb t).d, a, b with
  | .slice el, .c (.d (.int _) n), .c (.d (.int _) m) =>
    (match X.tyO el, (X.tb el).d.isNo, Tm.eqb n m, Nat.blt 0 (X.tb el).size, Nat.ble el 4294967295 with
    | .some t, false, true, true, true =>
      (match Nat.beq (X.tb el).size (wid X.lay t) with
      | true => dataK X.lay e t ((X.tb el).zero.map ofF) fun e z => .lrep t (X.tb el).bytes n z (k (e.push (.list t)) (.c (.rs S.length 0)) (S ++ [.arr true 0 (el + 4294967296) (X.tb el).size t e.new]))
      | false => .fail)
    | _, _, _, _, _ => .fail)
  | _, _, _ => .fail
def growS (X : SEnv) (e : SE) (t u : TypeId) (a b : SV) (S : SSt) (k : K1) : Tr :=
  match (X.tb t).d, (X.tb u).d, a, b with
  | .slice el, .int _, .c .nil, .c (.d (.int .i64) n) =>
    (match X.tyO el, (X.tb el).d.isNo, Nat.ble el 4294967295 with
    | .some t, false, true =>
      (match Nat.beq (X.tb el).size (wid X.lay t) with
      | true => .ne0 n (dataK X.lay e t ((X.tb el).zero.map ofF) fun e z => .lrep t (X.tb el).bytes n z (k (e.push (.list t)) (.c (.rs S.length 0)) (S ++ [.arr true 0 el (X.tb el).size t e.new])))
      | false => .fail)
    | _, _, _ => .fail)
  | _, _, _, _ => .fail
def bldS (X : SEnv) (e : SE) (t : TypeId) (S : SSt) (k : K1) : Tr :=
  match (X.tb t).d, (X.tb t).zero with
  | .bld _ sa, [.nilp, .nils] =>
    (match (X.tb sa).d with
    | .slice el => (match Nat.ble el 4294967295 with | true => k e (.c (.ptr S.length 0)) (S ++ [.bld t (.some false) (.rs (S.length + 1) 0), .arr true 0 el 1 (.int .u8) (.nil (.int .u8))]) | false => .fail)
    | _ => .fail)
  | _, _ => .fail
def bldF (X : SEnv) (e : SE) (t : TypeId) (x : SV) (i : Nat) (S : SSt) (k : K1) : Tr :=
  match (X.tb t).d, x with
  | .bld a b, .c (.ptr o 0) =>
    (match i with
    | 0 => (match (X.tb a).d.isNo, Nat.blt 0 (X.tb a).size with | false, true => k e (.c (.ptr o 0)) S | _, _ => .fail)
    | 1 => (match (X.tb b).d.isNo, Nat.blt 0 (X.tb b).size with | false, true => k e (.c (.ptr o 1)) S | _, _ => .fail)
    | _ => .fail)
  | _, _ => .fail
def cvtS (X : SEnv) (e : SE) (el : TypeId) (x : SV) (S : SSt) (k : K1) : Tr :=
  match x with
  | .c (.ptr o 0) =>
    (match nth S o with
    | .some (.bld T _ _) => (match Nat.beq el T && Nat.blt 0 (X.tb T).size, (X.tb T).d with | true, .bld _ _ => k e (.c (.ptr o 0)) S | _, _ => .fail)
    | _ => .fail)
  | _ => .fail
def sdS (e : SE) (x : SV) (S : SSt) (k : K1) : Tr :=
  match x with
  | .c (.rs o kk) =>
    (match nth S o with
    | .some (.arr _ k' ty sz t l) =>
      (match Nat.beq kk k', smallT ty, Nat.blt 0 sz with
      | true, true, true => .lnil t l (.both (k e (.c .nilp) S) (k e (.c (.el (.none .bool) 0)) S)) (k e (.c (.pa o kk sz (.int .i64 0) 0)) S)
      | _, _, _ => .fail)
    | _ => .fail)
  | _ => .fail
def ust0 (e : SE) (n : SV) (S : SSt) (k : K1) : Tr :=
  match n with
  | .c (.d (.int .i64) a) => .inn a 1 (k e (.c (.d .str (.str []))) S)
  | _ => .fail
def ustS (X : SEnv) (e : SE) (t : TypeId) (p n : SV) (S : SSt) (k : K1) : Tr :=
  match p with
  | .c .nilp => ust0 e n S k
  | .c (.el (.none _) 0) => ust0 e n S k
  | .c (.pa o kk sz (.int _ z) 0) =>
    (match nth S o, n with
    | .some (.arr _ k' ty sz' (.int .u8) l), .c (.d (.int .i64) a) =>
      (match (X.tb t).d with
      | .ptr ue =>
        (match smallT ty with
        | false => .fail
        | true =>
          (match (X.tb ue).d, ieq0 z && Nat.beq kk k' && smallT ty && Nat.beq sz 1 && Nat.beq sz' 1 && Nat.beq ty ue && Nat.beq (X.tb ue).size 1 with
          | .int .u8, true => .llen (.int .u8) l (.eqn a e.new (.sof l (k ((e.push (.int .i64)).push .str) (.c (.d .str (.at (e.n + 1)))) (S.set o (.arr false k' ty sz' (.int .u8) l)))))
          | _, _ => .fail))
      | _ => .fail)
    | _, _ => .fail)
  | _ => .fail
def rawS (X : SEnv) (e : SE) (o : Op) (ρ : Operand → SV) (S : SSt) (k : K1) : Tr :=
  match o with
  | .alloc t => bldS X e t S k
  | .fieldAddr t x i => bldF X e t (ρ x) i S k
  | .convert s d x =>
    (match (X.tb s).d, (X.tb d).d with
    | .ptr el, .uptr => cvtS X e el (ρ x) S k
    | .uptr, .ptr el => cvtS X e el (ρ x) S k
    | _, _ => convS X e s d (ρ x) S k)
  | .call { callee := .builtin .unsafeSliceData, args, .. } => (match args.toList with | [x] => sdS e (ρ x) S k | _ => .fail)
  | .call { callee := .builtin .unsafeString, args, argTypes } => (match args.toList, argTypes.toList with | [x, n], [t, _] => ustS X e t (ρ x) (ρ n) S k | _, _ => .fail)
  | .binOp op t x y _ =>
    (match (X.tb t).d with
    | .slice _ => nilEqS X e op (ρ x) (ρ y) S k
    | .ptr el => ptrEqS X e el op (ρ x) (ρ y) S k
    | .struct _ => aggEqS X e t op (ρ x) (ρ y) S k
    | _ => .fail)
  | .makeSlice t a b => makeS X e t (ρ a) (ρ b) S k
  | .makeFunc (.func f) first captured => (match first.toList with | [] => k e (.c (.clo f (captured.toList.map fun x => capS (ρ x)))) S | _ => .fail)
  | .call { callee := .builtin .cap, args, argTypes } =>
    (match args.toList, argTypes.toList with
    | [x], [t] => (match (X.tb t).d, ρ x with | .slice _, .c .nil => k e (vi .i64 (.int .i64 0)) S | _, _ => .fail)
    | _, _ => .fail)
  | .call { callee := .builtin .append, args, argTypes } => (match args.toList, argTypes.toList with | [x, y], [t, u] => growS X e t u (ρ x) (ρ y) S k | _, _ => .fail)
  | _ => .fail
def mnxS (mx : Bool) (j : IntKind) (S : SSt) (k : SE → Tm → Tr) : SE → Tm → List SV → Tr
  | e, a, [] => k e a
  | e, a, .c (.d (.int _) b) :: r =>
    (match a, b with
    | .int _ m, .int _ n => mnxS mx j S k e (.int j (mnxI mx m n)) r
    | a, b => .mnx mx j a b (mnxS mx j S k (e.push (.int j)) e.new r))
  | _, _, _ => .fail
def biS (e : SE) (b : Builtin) (args : List SV) (S : SSt) (k : K1) : Tr :=
  match b, args with
  | .min, .c (.d (.int j) a) :: r => mnxS false j S (fun e x => k e (vi j x) S) e a r
  | .max, .c (.d (.int j) a) :: r => mnxS true j S (fun e x => k e (vi j x) S) e a r
  | .complex, [.c (.d .flo a), .c (.d .flo b)] => .cx a b (k (e.push .cpl) (.c (.d .cpl e.new)) S)
  | .real, [.c (.d .cpl a)] => .re a (k (e.push .flo) (.c (.d .flo e.new)) S)
  | .imag, [.c (.d .cpl a)] => .im a (k (e.push .flo) (.c (.d .flo e.new)) S)
  | _, _ => .fail
def loadB (lay : Nat → List Ty) (e : SE) (agg : Bool) (n : Nat) (x : SV) (S : SSt) (k : K1) : Tr :=
  match bldAt agg x S with
  | .some (o, T, y) => .both (k e (.c (.ptr o 0)) (S.set o (.bld T (.some true) y))) (k e (.c .nilp) (S.set o (.bld T (.some false) y)))
  | .none => loadS lay e agg n x S fun e v => k e v S
where
  bldAt (agg : Bool) (x : SV) (S : SSt) : Option (Nat × Nat × SC) :=
    match agg, x with
    | false, .c (.ptr o 0) => (match nth S o with | .some (.bld T .none y) => .some (o, T, y) | _ => .none)
    | _, _ => .none
abbrev CallS := Nat → List SV → SE → SSt → K1 → Tr
def sop (X : SEnv) (call : CallS) (s : SOp) (e : SE) (A : SA) (S : SSt) (k : K1) : Tr :=
  match s with
  | .mv x => k e (opS A x) S
  | .pick c a b => pickS e (opS A c) (opS A a) (opS A b) fun e v => k e v S
  | .bin d op x y => binS e d op (opS A x) (opS A y) fun e v => k e v S
  | .un op x => unS e op (opS A x) fun e v => k e v S
  | .alloc z => k e (.c (.ptr S.length 0)) (S ++ [.cells (z.map ofF)])
  | .box x => boxS e (opS A x) S k
  | .load agg n x => addrS e (opS A x) fun e x => loadB X.lay e agg n x S k
  | .store n a x => storeS X.lay e n (opS A a) (opS A x) S k
  | .call x args =>
    (match opS A x with
    | .c (.fn f) => call f (args.map (opS A)) e S k
    | .c (.clo f caps) => call f (args.map (opS A) ++ caps.map .c) e S k
    | _ => .fail)
  | .fa off x => addrS e (opS A x) fun e x => fieldS x off S fun v => k e v S
  | .fld agg off n x => (match opS A x with | .a l => partS agg l off n fun v => k e v S | _ => .fail)
  | .ixr sz x i => ixrS X.lay e sz (opS A x) (opS A i) S fun e v => k e v S
  | .ixa n sz x i => addrS e (opS A x) fun e x => ixaS n sz x (opS A i) S fun v => k e v S
  | .chr x i => chrS e (opS A x) (opS A i) fun e v => k e v S
  | .len d x => lenS e d (opS A x) S fun e v => k e v S
  | .app d ty sz bytes x y => appS X.lay e d ty sz bytes (opS A x) (opS A y) S k
  | .slc d sz x lo hi => slcS X.lay e d sz (opS A x) (lo.map (opS A)) (hi.map (opS A)) S k
  | .ext x i => (match opS A x with | .t l => (match nth l i with | .some v => k e v S | .none => .fail) | _ => .fail)
  | .nilc x => nilcS e (opS A x) S fun e v => k e v S
  | .bi b ts args => biS e b (args.map (opS A)) S k
  | .bld z parts => (match fillS (opS A) parts (z.map ofF) with | .some l => k e (.a l) S | .none => .fail)
  | .bsl n ty sz z parts => bslS X.lay X.tyO e n ty sz z (opS A) parts S k
  | .raw o => rawS X e o (opS A) S k
variable {U : Uni} {c c' c'' : Cx U} {e : SE} {Sp : List (FSpec U)} {Post : List (Dyn U.B) → Prop} {Go : Nat → List (Dyn U.B) → Prop} {P : Program}
def CallSOk (P : Program) (Sp : List (FSpec U)) (Post : List (Dyn U.B) → Prop) (Go : Nat → List (Dyn U.B) → Prop) (call : CallS) : Prop :=
  ∀ (c : Cx U) (e : SE) (f : Nat) (args : List SV) (vs : List V) (k : K1) (K : V → St → Prop), Ok c e → c.vrs args vs → FollS Sp Post Go c k K → TDen Sp Post Go (call f args e c.S k) c.ρ → CallAt P f vs c.σ K
def FrR (c : Cx U) (A : SA) (A' : AF) : Prop := ∀ i, c.vr (lkS A i) (lk A' i)
theorem ofV_ok {ρ : Rho U} {β : Nat → Nat} {ι : Inf} (v : V) : VR ρ β ι (ofV v) v := by
  unfold ofV
  split
  · exact VR.c (ofF_ok _)
  · exact VR.un
theorem op_ok {A : SA} {A' : AF} (h : FrR c A A') (x : Operand) : c.vr (opS A x) (opA A' x) := by
  cases x with
  | tmp t => exact h t
  | const v => exact ofV_ok _
  | func f => exact VR.c (by simp only [CR])
  | global g => exact VR.un
theorem ops_ok {A : SA} {A' : AF} (h : FrR c A A') : ∀ (l : List Operand), c.vrs (l.map (opS A)) (l.map (opA A'))
  | [] => by simp only [List.map_nil, Cx.vrs, VRs]
  | x :: r => by simp only [List.map_cons, Cx.vrs, VRs]; exact ⟨_, _, rfl, op_ok h x, ops_ok h r⟩
theorem row_ok (ok : Ok c e) {x : SV} {v : V} (hx : c.vr x v) {k : Ty → Tm → Tr} (h : TDen Sp Post Go (rowK x c.S k) c.ρ) :
    ∃ t l, ∃ xs : List (T U.B t), l.den? c.ρ = some ⟨.list t, xs⟩ ∧ TDen Sp Post Go (k t l) c.ρ ∧ ((v = .c (.f .nils) ∧ xs = []) ∨ (∃ fs, v = .c (.f (.sl xs.length fs)) ∧ FDs U fs (flat U xs)) ∨
      ∃ o ep w sz fs, v = .c (.rs o ep xs.length) ∧ c.σ[o]? = some (.arr w ep sz fs) ∧ FDs U fs (flat U xs)) := by
  unfold rowK at h
  split at h
  · rename_i t l
    obtain ⟨xs, h1, h2⟩ := vr_list hx
    refine ⟨t, l, xs, h1, h, ?_⟩
    rcases h2 with h2 | h2
    · exact .inl h2
    · exact .inr (.inl h2)
  · rename_i o kk
    obtain ⟨n', kc, len, rfl, p1, p2, p3⟩ := vr_rs hx
    split at h
    · rename_i w k' ty' sz' t l ho
      obtain ⟨ys, gs, q1, q2, q3, q4, q5, q6⟩ := arr_at ok ho
      split at h
      · rename_i e1
        have e1 := beq_nat e1
        subst e1
        have p1' : c.ι o = some (kc, len) := p1
        rw [q6] at p1'
        cases p1'
        have := p3 rfl
        subst this
        exact ⟨_, _, ys, q1, h, .inr (.inr ⟨_, _, _, _, gs, rfl, q2, q5⟩)⟩
      · exact h.elim
    · exact h.elim
  · exact h.elim
theorem u8_row {xs : List Int} {fs : List F} (h : FDs U fs (flat U (t := .int .u8) xs)) : fs = xs.map (F.int .u8) := by
  induction xs generalizing fs with
  | nil => simpa [flat, FDs.len] using List.eq_nil_of_length_eq_zero (by rw [h.len]; rfl)
  | cons x r ih =>
    cases fs with
    | nil => have := h.len; simp [flat, cells] at this
    | cons f fs =>
      obtain ⟨d, l', e1, e2, e3⟩ := h
      cases e1
      rw [FD.int e2, ih e3]
      rfl
theorem imin_eq : prims.imin = mnxI false := by
  funext a b
  show (if b < a then b else a) = min a b
  simp only [Int.min_def]; split <;> split <;> omega
theorem imax_eq : prims.imax = mnxI true := by
  funext a b
  show (if b > a then b else a) = max a b
  simp only [Int.max_def]; split <;> split <;> omega
theorem mnx_ok {mx : Bool} {j : IntKind} {k : SE → Tm → Tr} {S : SSt} : ∀ {args : List SV} {c : Cx U} {e : SE} {a : Tm} {n : Int} {vs : List V}, Ok c e → a.den? c.ρ = some ⟨.int j, n⟩ → c.vrs args vs → TDen Sp Post Go (mnxS mx j S k e a args) c.ρ →
    ∃ c' e' x l, Le c c' ∧ c'.S = c.S ∧ c'.σ = c.σ ∧ Ok c' e' ∧ ints vs = some l ∧ x.den? c'.ρ = some ⟨.int j, l.foldl (mnxI mx) n⟩ ∧ TDen Sp Post Go (k e' x) c'.ρ
  | [], c, e, a, n, vs, ok, ha, hv, h => by
    simp only [Cx.vrs, VRs] at hv
    subst hv
    exact ⟨c, e, a, [], Le.refl c, rfl, rfl, ok, rfl, ha, h⟩
  | x :: r, c, e, a, n, vs, ok, ha, hv, h => by
    simp only [Cx.vrs, VRs] at hv
    obtain ⟨v, vr, rfl, h1, h2⟩ := hv
    cases x with
    | a l => exact h.elim
    | t l => exact h.elim
    | c x =>
      cases x with
      | d t b =>
        cases t with
        | int j' =>
          obtain ⟨m, rfl, hm⟩ := vr_int h1
          simp only [mnxS] at h
          split at h
          · rename_i k1 m' k2 n'
            simp only [Tm.den?, Option.some.injEq, Dyn.mk.injEq] at ha hm
            obtain ⟨e1, e2⟩ := ha
            obtain ⟨e3, e4⟩ := hm
            cases e1; cases e3
            have e2 := eq_of_heq e2; have e4 := eq_of_heq e4
            subst e2 e4
            obtain ⟨c', e', x, l, q1, q2, q3, q4, q5, q6, q7⟩ := mnx_ok (a := .int _ (mnxI mx m' n')) (n := mnxI mx m' n') ok rfl h2 h
            exact ⟨c', e', x, n' :: l, q1, q2, q3, q4, by simp only [ints, q5], by rw [List.foldl_cons]; exact q6, q7⟩
          · have h3 := h _ rfl
            rw [den_int ha, den_int hm] at h3
            obtain ⟨c', e', x, l, q1, q2, q3, q4, q5, q6, q7⟩ := mnx_ok (ok.push ⟨.int j, mnxI mx n m⟩) (ok.new _) ((Le.push c _).vrs h2) h3
            exact ⟨c', e', x, m :: l, (Le.push c _).trans q1, q2, q3, q4, by simp only [ints, q5], by rw [List.foldl_cons]; exact q6, q7⟩
        | _ => exact h.elim
      | _ => exact h.elim
theorem bi_ok (ok : Ok c e) {tb : Tab} {ts : Array TypeId} {b : Builtin} {args : List SV} {vs : List V} (hv : c.vrs args vs) {k : K1} {K : V → St → Prop} (hk : FollS Sp Post Go c k K) (h : TDen Sp Post Go (biS e b args c.S k) c.ρ) : vbi prims tb b ts vs c.σ K := by
  unfold biS at h
  split at h
  · rename_i j a r
    simp only [Cx.vrs, VRs] at hv
    obtain ⟨v, vr, rfl, h1, h2⟩ := hv
    obtain ⟨n, rfl, hn⟩ := vr_int h1
    obtain ⟨c', e', x, l, q1, q2, q3, q4, q5, q6, q7⟩ := mnx_ok ok hn h2 h
    rw [← q2] at q7
    simp only [vbi, q5, imin_eq, imax_eq]
    rw [← q3]
    exact hk c' e' _ _ q1 q4 (vd_of (f := .int j _) q6 rfl rfl) q7
  · rename_i j a r
    simp only [Cx.vrs, VRs] at hv
    obtain ⟨v, vr, rfl, h1, h2⟩ := hv
    obtain ⟨n, rfl, hn⟩ := vr_int h1
    obtain ⟨c', e', x, l, q1, q2, q3, q4, q5, q6, q7⟩ := mnx_ok ok hn h2 h
    rw [← q2] at q7
    simp only [vbi, q5, imin_eq, imax_eq]
    rw [← q3]
    exact hk c' e' _ _ q1 q4 (vd_of (f := .int j _) q6 rfl rfl) q7
  · rename_i a b
    simp only [Cx.vrs, VRs] at hv
    obtain ⟨v, vr, rfl, h1, u, ur, rfl, h2, rfl⟩ := hv
    obtain ⟨m, rfl, hm⟩ := vr_flo h1
    obtain ⟨n, rfl, hn⟩ := vr_flo h2
    have h3 := h _ rfl
    rw [den_flo hm, den_flo hn] at h3
    exact hk (c.push ⟨.cpl, (m, n)⟩) _ _ _ (Le.push c _) (ok.push _) (vd_of (f := .cpl m n) (ok.new _) rfl rfl) h3
  · rename_i a
    simp only [Cx.vrs, VRs] at hv
    obtain ⟨v, vr, rfl, h1, rfl⟩ := hv
    obtain ⟨m, rfl, hm⟩ := vr_cpl h1
    have h3 := h _ rfl
    rw [den_cpl hm] at h3
    exact hk (c.push ⟨.flo, m.1⟩) _ _ _ (Le.push c _) (ok.push _) (vd_of (f := .flo m.1) (ok.new _) rfl rfl) h3
  · rename_i a
    simp only [Cx.vrs, VRs] at hv
    obtain ⟨v, vr, rfl, h1, rfl⟩ := hv
    obtain ⟨m, rfl, hm⟩ := vr_cpl h1
    have h3 := h _ rfl
    rw [den_cpl hm] at h3
    exact hk (c.push ⟨.flo, m.2⟩) _ _ _ (Le.push c _) (ok.push _) (vd_of (f := .flo m.2) (ok.new _) rfl rfl) h3
  · exact h.elim
end Go.Dm.Sx
namespace Go.Dm.Sx
open Go.Dm
set_option linter.unusedVariables false
set_option linter.unusedSimpArgs false
variable {U : Uni} {c c' c'' : Cx U} {e : SE} {Sp : List (FSpec U)} {Post : List (Dyn U.B) → Prop} {Go : Nat → List (Dyn U.B) → Prop} {P : Program} {X : SEnv}
theorem bytes_row (n : List UInt8) : FDs U (n.map fun b => F.int .u8 (b.toNat : Int)) (flat U (t := .int .u8) (n.map fun b => (b.toNat : Int))) := by
  induction n with
  | nil => rfl
  | cons b r ih => exact ⟨⟨.int .u8, (b.toNat : Int)⟩, _, rfl, rfl, ih⟩
theorem conv_ok (ok : Ok c e) {s d : TypeId} {o : Operand} {x : SV} {v : V} (hx : c.vr x v) {k : K1} {K : V → St → Prop} (hk : FollS Sp Post Go c k K) (h : TDen Sp Post Go (convS X e s d x c.S k) c.ρ) :
    extraB X.tb (.convert s d o) = false ∧ vconv prims X.tb s d v c.σ K := by
  unfold convS at h
  split at h
  · rename_i j0 j hs hd
    refine ⟨by simp only [extraB, hs, hd], ?_⟩
    unfold vconv
    split at h
    · rename_i j1 a
      obtain ⟨n, rfl, hn⟩ := vr_int hx
      simp only [hs, hd]
      split at h
      · rename_i k0 n'
        simp only [Tm.den?, Option.some.injEq, Dyn.mk.injEq] at hn
        obtain ⟨e1, e2⟩ := hn
        cases e1
        have e2 := eq_of_heq e2
        subst e2
        exact hk c e _ _ (Le.refl c) ok (vd_of (d := ⟨.int j, j.wrap n'⟩) (f := .int j (j.wrap n')) rfl rfl rfl) h
      · have h3 := h _ rfl
        rw [den_int hn] at h3
        exact hk (c.push ⟨.int j, j.wrap n⟩) _ _ _ (Le.push c _) (ok.push _) (vd_of (f := .int j (j.wrap n)) (ok.new _) rfl rfl) h3
    · exact h.elim
  · rename_i j0 hs hd
    refine ⟨by simp only [extraB, hs, hd], ?_⟩
    unfold vconv
    split at h
    · rename_i j1 a
      obtain ⟨n, rfl, hn⟩ := vr_int hx
      simp only [hs, hd]
      have h3 := h _ rfl
      rw [den_int hn] at h3
      exact hk (c.push ⟨.flo, FloatKind.f64.nearest n⟩) _ _ _ (Le.push c _) (ok.push _) (vd_of (f := .flo (FloatKind.f64.nearest n)) (ok.new _) rfl rfl) h3
    · exact h.elim
  · rename_i hs hd
    refine ⟨by simp only [extraB, hs, hd], ?_⟩
    unfold vconv
    split at h
    · rename_i a
      obtain ⟨n, rfl, hn⟩ := vr_flo hx
      simp only [hs, hd]
      obtain ⟨r, h3, h4⟩ := h
      rw [den_flo hn] at h3
      show match floatToIntVal .f64 n .i64 with | some n => K (.c (.f (.int .i64 n))) c.σ | none => False
      rw [h3]
      exact hk (c.push ⟨.int .i64, r⟩) _ _ _ (Le.push c _) (ok.push _) (vd_of (f := .int .i64 r) (ok.new _) rfl rfl) h4
    · exact h.elim
  · rename_i hs hd
    refine ⟨by simp only [extraB, hs, hd], ?_⟩
    unfold vconv
    split at h
    · rename_i a
      have hx' := hx
      obtain ⟨n, rfl, hn⟩ := vr_str hx
      simp only [hs, hd]
      exact hk c e _ _ (Le.refl c) ok hx' h
    · exact h.elim
  · rename_i el hs hd
    refine ⟨by simp only [extraB, hs, hd], ?_⟩
    unfold vconv
    split at h
    · rename_i hel
      obtain ⟨y, rfl, h0⟩ := V_c (by simp) hx
      simp only [CR] at h0
      subst h0
      simp only [hs, hd, hel]
      exact hk c e _ _ (Le.refl c) ok (vd_of (d := ⟨.str, []⟩) (f := .str []) rfl rfl rfl) h
    · rename_i hel _
      obtain ⟨t, l, xs, h1, h2, h3⟩ := row_ok ok hx h
      simp only [hs, hd, hel]
      split at h2
      · obtain ⟨z, h4, h5⟩ := h2
        rw [den_as (t := .list (.int .u8)) h1] at h4
        subst h4
        have done : K (.c (.f (.str z))) c.σ := hk (c.push ⟨.str, z⟩) _ _ _ (Le.push c _) (ok.push _) (vd_of (f := .str z) (ok.new _) rfl rfl) h5
        have row : ∀ {fs : List F}, FDs U fs (flat U (t := .int .u8) (z.map fun b => (b.toNat : Int))) → prims.bytesK fs (z.map fun b => (b.toNat : Int)).length fun s => K (.c (.f (.str s))) c.σ := fun {fs} hf => by
          refine ⟨z, ?_, by simp, done⟩
          rw [u8_row hf, List.map_map]; rfl
        rcases h3 with ⟨rfl, h4⟩ | ⟨fs, rfl, h4⟩ | ⟨o, ep, w, sz, fs, rfl, h4, h5⟩
        · have : z = [] := by simpa using h4
          subst this
          exact done
        · exact row h4
        · simp only [vbytes, h4]
          exact ⟨rfl, row h5⟩
      · exact h2.elim
    · exact h.elim
  · rename_i el hs hd
    refine ⟨by simp only [extraB, hs, hd], ?_⟩
    unfold vconv
    split at h
    · rename_i a hel hb
      obtain ⟨n, rfl, hn⟩ := vr_str hx
      simp only [hs, hd, hel]
      have h3 := h _ rfl
      rw [den_str hn] at h3
      obtain ⟨_, h4, h5⟩ := h3
      have okp := ok.push (⟨.list (.int .u8), n.map fun b => (b.toNat : Int)⟩ : Dyn U.B)
      have hrow := bytes_row (U := U) n
      obtain ⟨s1, s2, s3⟩ := add_arr okp (ty := el + 4294967296) (sz := 1) (ok.new _) hrow rfl (le_flag2 (ble_nat hb))
      have e4 : e.new.den? (c.ρ ++ [(⟨.list (.int .u8), n.map fun b => (b.toNat : Int)⟩ : Dyn U.B)]) = some ⟨.list (.int .u8), n.map fun b => (b.toNat : Int)⟩ := ok.new _
      rw [den_as e4] at h4
      have h6 := hk _ _ _ _ ((Le.push c _).trans s1) s2 s3 h5
      have e5 : prims.toNat (prims.slen n) = (n.map fun b => (b.toNat : Int)).length := by show (n.length : Int).toNat = _; simp
      refine ⟨by rw [e5]; exact h4, ble_nat hb, ?_⟩
      rw [e5]
      exact h6
    · exact h.elim
  · exact h.elim
theorem neg_ok {op : BinOp} {b r : Bool} (h : negS op b = some r) : xneg op b = some (vbool r) := by
  unfold negS at h
  unfold xneg
  split at h <;> first | (cases h; rfl) | cases h
theorem nilEq_ok (ok : Ok c e) {op : BinOp} {x y : SV} {v w : V} (hx : c.vr x v) (hy : c.vr y w) {k : K1} {K : V → St → Prop} (hk : FollS Sp Post Go c k K) (hX : X.lay = U.lay) (h : TDen Sp Post Go (nilEqS X e op x y c.S k) c.ρ) :
    ∃ l, (match w with
      | .c (.f .nils) =>
        (match xrowNil v c.σ with
        | some (some b) => (match xneg op b with | some v => some [(v, c.σ)] | none => none)
        | some none => (match xneg op true, xneg op false with | some v, some u => some [(v, c.σ), (u, c.σ)] | _, _ => none)
        | none => none)
      | _ => none) = some l ∧ ∀ p ∈ l, K p.1 p.2 := by
  unfold nilEqS at h
  split at h
  · rename_i bt bf hbt hbf
    obtain ⟨y, rfl, h0⟩ := V_c (by simp) hy
    simp only [CR] at h0
    subst h0
    have lit : ∀ {e'} (ok' : Ok c e') (b : Bool), TDen Sp Post Go (k e' (vb (.bool b)) c.S) c.ρ → K (vbool b) c.σ := fun ok' b hb => hk c _ _ _ (Le.refl c) ok' (vd_of (d := ⟨.bool, b⟩) (f := .bool b) rfl rfl rfl) hb
    split at h
    · obtain ⟨y, rfl, h0⟩ := V_c (by simp) hx
      simp only [CR] at h0
      subst h0
      simp only [xrowNil, neg_ok hbt]
      exact ⟨_, rfl, fun p hp => by rw [List.mem_singleton.1 hp]; exact lit ok bt h⟩
    · obtain ⟨t, l, xs, h1, h2, h3⟩ := row_ok ok hx h
      split at h2
      · exact h2.elim
      · rename_i hw
        have hwid : 0 < width U t := by
          rw [← wid_eq, ← hX]
          exact Nat.pos_of_ne_zero hw
        have nonempty : ∀ {fs : List F}, FDs U fs (flat U xs) → xs ≠ [] → ∃ f fs', fs = f :: fs' := fun {fs} hf hne => by
          have := hf.len
          rw [flat_len] at this
          cases fs with
          | cons f fs' => exact ⟨f, fs', rfl⟩
          | nil =>
            have h5 : 0 < xs.length := List.length_pos_iff.2 hne
            have := Nat.mul_pos h5 hwid
            simp at *
            omega
        have empty : ∀ {fs : List F}, FDs U fs (flat U xs) → xs = [] → fs = [] := fun {fs} hf hne => by
          subst hne
          exact List.eq_nil_of_length_eq_zero (by rw [hf.len]; rfl)
        have no : ∀ {e'}, Ok c e' → xs ≠ [] → TDen Sp Post Go (k e' (vb (.bool bf)) c.S) c.ρ → ∃ l, (match xrowNil v c.σ with
            | some (some b) => (match xneg op b with | some v => some [(v, c.σ)] | none => none)
            | some none => (match xneg op true, xneg op false with | some v, some u => some [(v, c.σ), (u, c.σ)] | _, _ => none)
            | none => none) = some l ∧ ∀ p ∈ l, K p.1 p.2 := fun {e'} ok' hne hD => by
          have : xrowNil v c.σ = some (some false) := by
            rcases h3 with ⟨rfl, h4⟩ | ⟨fs, rfl, h4⟩ | ⟨o, ep, w, sz, fs, rfl, h4, h5⟩
            · exact absurd h4 hne
            · obtain ⟨f, fs', rfl⟩ := nonempty h4 hne; rfl
            · obtain ⟨f, fs', rfl⟩ := nonempty h5 hne
              simp only [xrowNil, nth_eq, h4, Nat.beq_refl]
          rw [this]
          simp only [neg_ok hbf]
          exact ⟨_, rfl, fun p hp => by rw [List.mem_singleton.1 hp]; exact lit ok' bf hD⟩
        split at h2
        · rename_i hm
          obtain ⟨d, g1, g2⟩ := mem_ok ok hm
          rw [h1] at g1
          cases g1
          exact no ok (fun hh => g2 (by simp [lenOf, hh])) h2
        · obtain ⟨g1, g2⟩ := h2
          rw [den_as h1] at g1 g2
          by_cases hxs : xs = []
          · obtain ⟨g3, g4⟩ := g1 hxs
            rcases h3 with ⟨rfl, h4⟩ | ⟨fs, rfl, h4⟩ | ⟨o, ep, w, sz, fs, rfl, h4, h5⟩
            · simp only [xrowNil, neg_ok hbt]
              exact ⟨_, rfl, fun p hp => by rw [List.mem_singleton.1 hp]; exact lit ok bt g3⟩
            · have := empty h4 hxs
              subst this
              simp only [xrowNil, neg_ok hbt, neg_ok hbf]
              refine ⟨_, rfl, fun p hp => ?_⟩
              simp only [List.mem_cons, List.not_mem_nil, or_false] at hp
              rcases hp with rfl | rfl
              · exact lit ok bt g3
              · exact lit ok bf g4
            · have := empty h5 hxs
              subst this
              simp only [xrowNil, nth_eq, h4, Nat.beq_refl, neg_ok hbt, neg_ok hbf]
              refine ⟨_, rfl, fun p hp => ?_⟩
              simp only [List.mem_cons, List.not_mem_nil, or_false] at hp
              rcases hp with rfl | rfl
              · exact lit ok bt g3
              · exact lit ok bf g4
          · exact no (ok.ne' h1 (by simpa [lenOf] using hxs)) hxs (g2 hxs)
  · exact h.elim
theorem ptrEq_ok (ok : Ok c e) {el : TypeId} {op : BinOp} {x y : SV} {v w : V} (hx : c.vr x v) (hy : c.vr y w) {k : K1} {K : V → St → Prop} (hk : FollS Sp Post Go c k K) (h : TDen Sp Post Go (ptrEqS X e el op x y c.S k) c.ρ) :
    ∃ l, (match xptrEq v w, (X.tb el).d.isNo, Nat.blt 0 (X.tb el).size with
      | some b, false, true => (match xneg op b with | some v => some [(v, c.σ)] | none => none)
      | _, _, _ => none) = some l ∧ ∀ p ∈ l, K p.1 p.2 := by
  unfold ptrEqS at h
  split at h
  · rename_i bt bf hn hs hbt hbf
    rw [hn, hs]
    have lit : ∀ (b r : Bool), xptrEq v w = some b → negS op b = some r → TDen Sp Post Go (k e (vb (.bool r)) c.S) c.ρ → ∃ l, (match xptrEq v w, false, true with
      | some b, false, true => (match xneg op b with | some v => some [(v, c.σ)] | none => none)
      | _, _, _ => none) = some l ∧ ∀ p ∈ l, K p.1 p.2 := fun b r h1 h2 h3 => by
      rw [h1]
      simp only [neg_ok h2]
      exact ⟨_, rfl, fun p hp => by rw [List.mem_singleton.1 hp]; exact hk c e _ _ (Le.refl c) ok (vd_of (d := ⟨.bool, r⟩) (f := .bool r) rfl rfl rfl) h3⟩
    split at h
    · obtain ⟨y1, rfl, h1⟩ := V_c (by simp) hx
      obtain ⟨y2, rfl, h2⟩ := V_c (by simp) hy
      simp only [CR] at h1 h2
      subst h1 h2
      exact lit true bt rfl hbt h
    · cases vr_ptr hx
      obtain ⟨y2, rfl, h2⟩ := V_c (by simp) hy
      simp only [CR] at h2
      subst h2
      exact lit false bf rfl hbf h
    · cases vr_ptr hy
      obtain ⟨y2, rfl, h2⟩ := V_c (by simp) hx
      simp only [CR] at h2
      subst h2
      exact lit false bf rfl hbf h
    · obtain ⟨f, ⟨t', z⟩, rfl, h1, rfl, h3⟩ := vd hx
      obtain ⟨fs, rfl, h4⟩ := FD.ptr h3
      obtain ⟨y2, rfl, h2⟩ := V_c (by simp) hy
      simp only [CR] at h2
      subst h2
      exact lit false bf rfl hbf h
    · rename_i t a
      obtain ⟨f, ⟨t', z⟩, rfl, h1, rfl, h3⟩ := vd hx
      obtain ⟨y2, rfl, h2⟩ := V_c (by simp) hy
      simp only [CR] at h2
      subst h2
      have h5 := h _ rfl
      rw [den_as h1] at h5
      have hb : ∀ b : Bool, negS op b = some (match bt with | true => b | false => !b) := fun b => by
        unfold negS at hbt ⊢
        cases op <;> simp at hbt ⊢ <;> cases bt <;> simp_all
      have hp : xptrEq (.c (.f f)) (.c (.f .nilp)) = some z.isNone := by
        rcases FD.opt h3 with ⟨rfl, rfl⟩ | ⟨y, fs, rfl, rfl, _⟩ <;> rfl
      rw [hp]
      simp only [neg_ok (hb _)]
      refine ⟨_, rfl, fun p hp => ?_⟩
      rw [List.mem_singleton.1 hp]
      cases bt with
      | true => exact hk (c.push ⟨.bool, z.isNone⟩) _ _ _ (Le.push c _) (ok.push _) (vd_of (f := .bool z.isNone) (ok.new _) rfl rfl) h5
      | false =>
        have h6 := h5 _ rfl
        rw [show ((e.new.den (c.ρ ++ [(⟨.bool, z.isNone⟩ : Dyn U.B)])).bool) = z.isNone from den_bool (ok.new ⟨.bool, z.isNone⟩)] at h6
        have ok1 := ok.push (⟨.bool, z.isNone⟩ : Dyn U.B)
        exact hk ((c.push ⟨.bool, z.isNone⟩).push ⟨.bool, !z.isNone⟩) _ _ _ ((Le.push c _).trans (Le.push _ _)) (ok1.push _) (vd_of (f := .bool (!z.isNone)) (by simp [Tm.den?, Cx.push, ok.n]) rfl rfl) h6
    · rename_i o i o' i'
      split at h
      · rename_i e1 e2
        cases vr_ptr hx
        cases vr_ptr hy
        have e1 := beq_nat e1
        have e2 := beq_nat e2
        subst e1 e2
        exact lit true bt (by simp [xptrEq, Nat.beq_refl]) hbt h
      · exact h.elim
    · exact h.elim
  · exact h.elim
theorem repF_row {t : Ty} {z : T U.B t} {fs : List F} (h : FDs U fs (cells U ⟨t, z⟩)) : ∀ n, FDs U (repF n fs) (flat U (List.replicate n z))
  | 0 => rfl
  | n + 1 => by
    rw [List.replicate_succ, flat_cons]
    exact h.append (repF_row h n)
theorem make_ok (ok : Ok c e) {t : TypeId} {a b : SV} {va vb : V} (ha : c.vr a va) (hb : c.vr b vb) {k : K1} {K : V → St → Prop} (hk : FollS Sp Post Go c k K) (hX : X.lay = U.lay) (h : TDen Sp Post Go (makeS X e t a b c.S k) c.ρ) :
    ∃ l, (match (X.tb t).d, va, vb with
      | .slice e, .c (.f (.int _ (.ofNat n))), .c (.f (.int _ (.ofNat m))) =>
        (match (X.tb e).d.isNo, Nat.beq n m && Nat.ble n 16777216 && Nat.ble (n * (X.tb e).bytes) 16777216 && Nat.blt 0 (X.tb e).size && Nat.ble e 4294967295 with
        | false, true => some [(.c (.rs c.σ.length (e + 4294967296) n), c.σ ++ [.arr true (e + 4294967296) (X.tb e).size (repF n (X.tb e).zero)])]
        | _, _ => none)
      | _, _, _ => none) = some l ∧ ∀ p ∈ l, K p.1 p.2 := by
  unfold makeS at h
  split at h
  · rename_i el kd n kd' m hd
    split at h
    · rename_i t ht hno hnm hsz hel
      have e1 := Tm.eqb_ok hnm
      subst e1
      split at h
      · rename_i hw
        have hw := beq_nat hw
        rw [hX] at hw h
        rw [wid_eq] at hw
        obtain ⟨i, rfl, hi⟩ := vr_int ha
        obtain ⟨j, rfl, hj⟩ := vr_int hb
        rw [hi] at hj
        simp only [Option.some.injEq, Dyn.mk.injEq] at hj
        obtain ⟨e2, e3⟩ := hj
        cases e2
        have e3 := eq_of_heq e3
        subst e3
        obtain ⟨c1, e1, z, d, fs, q1, q2, q3, q4, q5, q6, q7, q8, q9⟩ := data_ok ok (ofFs_ok (X.tb el).zero) h
        have hz := crs_map (ρ := c.ρ) (β := c.β) (ι := c.ι) (xs := []) q5
        obtain ⟨t0, zv⟩ := d
        simp only at q7
        subst q7
        obtain ⟨⟨h1, h2, h3⟩, h4⟩ := q9
        rw [den_int (q1.den hi)] at h1 h2 h3 h4
        rw [den_as q6] at h4
        have h5 := h4 _ rfl
        obtain ⟨n0, rfl⟩ : ∃ n0 : Nat, i = n0 := ⟨i.toNat, by omega⟩
        simp only [hd]
        have hc : (Nat.beq n0 n0 && Nat.ble n0 16777216 && Nat.ble (n0 * (X.tb el).bytes) 16777216 && Nat.blt 0 (X.tb el).size && Nat.ble el 4294967295) = true := by
          rw [Nat.beq_refl, hsz, hel]
          have a1 : Nat.ble n0 16777216 = true := by rw [Nat.ble_eq]; omega
          have a2 : Nat.ble (n0 * (X.tb el).bytes) 16777216 = true := by rw [Nat.ble_eq]; exact Int.ofNat_le.1 (by rw [Int.natCast_mul]; exact h3)
          rw [a1, a2]; rfl
        simp only [hno, hc]
        refine ⟨_, rfl, fun p hp => ?_⟩
        rw [List.mem_singleton.1 hp]
        simp only [Int.toNat_natCast] at h5
        have okp := q4.push (⟨.list t0, List.replicate n0 zv⟩ : Dyn U.B)
        obtain ⟨s1, s2, s3⟩ := add_arr okp (ty := el + 4294967296) (sz := (X.tb el).size) (q4.new _) (repF_row q8 n0) hw (le_flag2 (ble_nat hel))
        rw [← q2] at h5
        have h6 := hk _ _ _ _ (q1.trans ((Le.push c1 _).trans s1)) s2 s3 h5
        have e4 : (c1.push ⟨.list t0, List.replicate n0 zv⟩).σ = c.σ := q3
        have e5 : ((c1.push ⟨.list t0, List.replicate n0 zv⟩).add (el + 4294967296) (.arr true 0 (el + 4294967296) (X.tb el).size t0 e1.new) (.arr true (el + 4294967296) (X.tb el).size (repF n0 fs))).σ = c.σ ++ [.arr true (el + 4294967296) (X.tb el).size (repF n0 fs)] := by rw [← e4]; rfl
        rw [e4, e5, List.length_replicate] at h6
        rw [hz]
        exact h6
      · exact h.elim
    · exact h.elim
  · exact h.elim
theorem grow_ok (ok : Ok c e) {t u : TypeId} {a b : SV} {va vb : V} (ha : c.vr a va) (hb : c.vr b vb) {k : K1} {K : V → St → Prop} (hk : FollS Sp Post Go c k K) (hX : X.lay = U.lay) (h : TDen Sp Post Go (growS X e t u a b c.S k) c.ρ) :
    (∃ k, (X.tb u).d = .int k) ∧ ∃ l, xbuiltin X.tb .append [va, vb] [t, u] c.σ = some l ∧ ∀ p ∈ l, K p.1 p.2 := by
  unfold growS at h
  split at h
  · rename_i el kd n hd hu
    split at h
    · rename_i t0 ht hno hel
      split at h
      · rename_i hw
        have hw := beq_nat hw
        rw [hX] at hw h
        rw [wid_eq] at hw
        obtain ⟨y0, rfl, hn0⟩ := V_c (by simp) ha
        simp only [CR] at hn0
        subst hn0
        obtain ⟨i, rfl, hi⟩ := vr_int hb
        obtain ⟨hne, h⟩ := h
        rw [den_int hi] at hne
        obtain ⟨c1, e1, z, d, fs, q1, q2, q3, q4, q5, q6, q7, q8, q9⟩ := data_ok ok (ofFs_ok (X.tb el).zero) h
        have hz := crs_map (ρ := c.ρ) (β := c.β) (ι := c.ι) (xs := []) q5
        obtain ⟨t1, zv⟩ := d
        simp only at q7
        subst q7
        obtain ⟨⟨h1, h2, h3⟩, h4⟩ := q9
        rw [den_int (q1.den hi)] at h1 h2 h3 h4
        rw [den_as q6] at h4
        have h5 := h4 _ rfl
        obtain ⟨n0, rfl⟩ : ∃ n0 : Nat, i = n0 := ⟨i.toNat, by omega⟩
        have hc : (Nat.blt 0 n0 && Nat.ble n0 16777216 && Nat.ble (n0 * (X.tb el).bytes) 16777216 && Nat.ble el 4294967295) = true := by
          rw [hel]
          have a0 : Nat.blt 0 n0 = true := blt_true (by omega)
          have a1 : Nat.ble n0 16777216 = true := by rw [Nat.ble_eq]; omega
          have a2 : Nat.ble (n0 * (X.tb el).bytes) 16777216 = true := by rw [Nat.ble_eq]; exact Int.ofNat_le.1 (by rw [Int.natCast_mul]; exact h3)
          rw [a0, a1, a2]; rfl
        refine ⟨⟨_, hu⟩, ?_⟩
        show ∃ l, (match (X.tb t).d, (X.tb u).d with
          | .slice e, .int _ =>
            (match (X.tb e).d.isNo, Nat.blt 0 n0 && Nat.ble n0 16777216 && Nat.ble (n0 * (X.tb e).bytes) 16777216 && Nat.ble e 4294967295 with
            | false, true => some [(V.c (.rs c.σ.length e n0), c.σ ++ [Ob.arr true e (X.tb e).size (repF n0 (X.tb e).zero)])]
            | _, _ => none)
          | _, _ => none) = some l ∧ ∀ p ∈ l, K p.1 p.2
        simp only [hd, hu, hno, hc]
        refine ⟨_, rfl, fun p hp => ?_⟩
        rw [List.mem_singleton.1 hp]
        simp only [Int.toNat_natCast] at h5
        have okp := q4.push (⟨.list t1, List.replicate n0 zv⟩ : Dyn U.B)
        obtain ⟨s1, s2, s3⟩ := add_arr okp (ty := el) (sz := (X.tb el).size) (q4.new _) (repF_row q8 n0) hw (le_flag (ble_nat hel))
        rw [← q2] at h5
        have h6 := hk _ _ _ _ (q1.trans ((Le.push c1 _).trans s1)) s2 s3 h5
        have e4 : (c1.push ⟨.list t1, List.replicate n0 zv⟩).σ = c.σ := q3
        have e5 : ((c1.push ⟨.list t1, List.replicate n0 zv⟩).add el (.arr true 0 el (X.tb el).size t1 e1.new) (.arr true el (X.tb el).size (repF n0 fs))).σ = c.σ ++ [.arr true el (X.tb el).size (repF n0 fs)] := by rw [← e4]; rfl
        rw [e4, e5, List.length_replicate] at h6
        rw [hz]
        exact h6
      · exact h.elim
    · exact h.elim
  · exact h.elim
theorem crs_cap {ρ : Rho U} {β : Nat → Nat} {ι : Inf} {ρS : Operand → SV} {ρV : Operand → V} (hρ : ∀ x, VR ρ β ι (ρS x) (ρV x)) : ∀ (l : List Operand), CRs ρ β ι (l.map fun x => capS (ρS x)) (l.map fun x => (ρV x).cap)
  | [] => by simp only [List.map_nil, CRs]
  | x :: r => by
    simp only [List.map_cons, CRs]
    refine ⟨_, _, rfl, ?_, crs_cap hρ r⟩
    have h := hρ x
    cases hx : ρS x with
    | c y =>
      rw [hx] at h
      by_cases hun : y = .un
      · subst hun; simp only [capS, CR]
      · obtain ⟨z, e1, h1⟩ := V_c hun h
        rw [e1]
        exact h1
    | a l => simp only [capS, CR]
    | t l => simp only [capS, CR]
theorem allB_frz : ∀ {ks : List KK} {l m : List SC} {l' m' : List Dm.C} {ρ : Rho U} {β : Nat → Nat} {ι : Nat → Option (Nat × Nat)}, allB ks l m = true → CRs ρ β ι l l' → CRs ρ β ι m m' →
    ∃ fs fs', frz l' = some fs ∧ frz m' = some fs' ∧ matchK ks fs = true ∧ matchK ks fs' = true
  | [], l, m, l', m', ρ, β, ι, h, hl, hm => by
    cases l <;> cases m <;> simp only [allB] at h <;> first | cases h | skip
    simp only [CRs] at hl hm
    subst hl hm
    exact ⟨[], [], rfl, rfl, rfl, rfl⟩
  | k :: ks, l, m, l', m', ρ, β, ι, h, hl, hm => by
    unfold allB at h
    split at h
    · rename_i h0; cases h0
    · rename_i ks' a l0 b m0 h0
      cases h0
      simp only [CRs] at hl hm
      obtain ⟨x, xr, rfl, h1, h2⟩ := hl
      obtain ⟨y, yr, rfl, h3, h4⟩ := hm
      simp only [CR] at h1 h3
      obtain ⟨f, ⟨t, n⟩, rfl, d1, rfl, d2⟩ := h1
      obtain ⟨f', ⟨t', n'⟩, rfl, d3, rfl, d4⟩ := h3
      cases FD.bool d2
      cases FD.bool d4
      obtain ⟨fs, fs', q1, q2, q3, q4⟩ := allB_frz h h2 h4
      exact ⟨.bool n :: fs, .bool n' :: fs', by simp only [frz, q1], by simp only [frz, q2], q3, q4⟩
    · cases h
theorem aggK_ok {bt bf : Bool} {k : K1} {K : V → St → Prop} : ∀ {ks : List KK} {l m : List SC} {l' m' : List Dm.C} {c : Cx U} {e : SE}, Ok c e → allB ks l m = true → CRs c.ρ c.β c.ι l l' → CRs c.ρ c.β c.ι m m' → FollS Sp Post Go c k K →
    TDen Sp Post Go (aggK bt bf (fun e x => k e (vb x) c.S) l m e) c.ρ → ∃ fs fs', frz l' = some fs ∧ frz m' = some fs' ∧ matchK ks fs = true ∧ matchK ks fs' = true ∧ K (vbool (match F.eqbs fs fs' with | true => bt | false => bf)) c.σ
  | [], l, m, l', m', c, e, ok, h, hl, hm, hk, hD => by
    cases l <;> cases m <;> simp only [allB] at h <;> first | cases h | skip
    simp only [CRs] at hl hm
    subst hl hm
    exact ⟨[], [], rfl, rfl, rfl, rfl, hk c e _ _ (Le.refl c) ok (vd_of (d := ⟨.bool, bt⟩) (f := .bool bt) rfl rfl rfl) hD⟩
  | kk :: ks, l, m, l', m', c, e, ok, h, hl, hm, hk, hD => by
    have hsh := allB_frz h hl hm
    unfold allB at h
    split at h
    · rename_i h0; cases h0
    · rename_i ks' a l0 b m0 h0
      cases h0
      simp only [CRs] at hl hm
      obtain ⟨x, xr, rfl, h1, h2⟩ := hl
      obtain ⟨y, yr, rfl, h3, h4⟩ := hm
      simp only [CR] at h1 h3
      obtain ⟨f, ⟨t, n⟩, rfl, d1, rfl, d2⟩ := h1
      obtain ⟨f', ⟨t', n'⟩, rfl, d3, rfl, d4⟩ := h3
      cases FD.bool d2
      cases FD.bool d4
      have h5 := hD _ rfl
      simp only at h5
      rw [den_bool d1, den_bool d3] at h5
      obtain ⟨h6, h7⟩ := h5
      let c2 := c.push ⟨.bool, n == n'⟩
      have ok2 : Ok c2 (e.push .bool) := ok.push _
      have hx : (e.new.den (c.ρ ++ [⟨.bool, n == n'⟩])).bool = (n == n') := den_bool (ok.new _)
      rw [hx] at h6 h7
      have e1 : F.eqb (.bool n) (.bool n') = (n == n') := by cases n <;> cases n' <;> rfl
      cases hn : (n == n') with
      | true =>
        rw [hn] at e1
        obtain ⟨fs, fs', q1, q2, q3, q4, q5⟩ := aggK_ok (c := c2) (e := e.push .bool) ok2 h (CRs.later (Le.push c _) h2) (CRs.later (Le.push c _) h4) (hk.later (Le.push c _)) (h6 hn)
        refine ⟨.bool n :: fs, .bool n' :: fs', by simp only [frz, q1], by simp only [frz, q2], q3, q4, ?_⟩
        show K (vbool (match F.eqb (.bool n) (.bool n') && F.eqbs fs fs' with | true => bt | false => bf)) c.σ
        rw [e1, Bool.true_and]
        exact q5
      | false =>
        rw [hn] at e1
        obtain ⟨fs, fs', q1, q2, q3, q4⟩ := allB_frz h h2 h4
        refine ⟨.bool n :: fs, .bool n' :: fs', by simp only [frz, q1], by simp only [frz, q2], q3, q4, ?_⟩
        show K (vbool (match F.eqb (.bool n) (.bool n') && F.eqbs fs fs' with | true => bt | false => bf)) c.σ
        rw [e1, Bool.false_and]
        exact hk c2 _ _ _ (Le.push c _) ok2 (vd_of (d := ⟨.bool, bf⟩) (f := .bool bf) rfl rfl rfl) (h7 hn)
    · cases h
theorem aggEq_ok (ok : Ok c e) {t : TypeId} {op : BinOp} {x y : SV} {v w : V} (hx : c.vr x v) (hy : c.vr y w) {k : K1} {K : V → St → Prop} (hk : FollS Sp Post Go c k K) (h : TDen Sp Post Go (aggEqS X e t op x y c.S k) c.ρ) :
    ∃ l, (match xaggEq (X.tb t).key op v w with | some v => some [(v, c.σ)] | none => none) = some l ∧ ∀ p ∈ l, K p.1 p.2 := by
  unfold aggEqS at h
  split at h
  · rename_i kk ks l m bt bf hkey hbt hbf
    split at h
    · rename_i hall
      obtain ⟨l', rfl, h1⟩ := (show ∃ l', v = .a l' ∧ CRs c.ρ c.β c.ι l l' by simpa only [Cx.vr, VR] using hx)
      obtain ⟨m', rfl, h2⟩ := (show ∃ l', w = .a l' ∧ CRs c.ρ c.β c.ι m l' by simpa only [Cx.vr, VR] using hy)
      obtain ⟨fs, fs', q1, q2, q3, q4, q5⟩ := aggK_ok ok hall h1 h2 hk h
      rw [hkey]
      simp only [xaggEq, q1, q2, q3, q4, Bool.and_self]
      cases hE : F.eqbs fs fs' with
      | true =>
        rw [hE] at q5
        simp only [neg_ok hbt]
        exact ⟨_, rfl, fun p hp => by rw [List.mem_singleton.1 hp]; exact q5⟩
      | false =>
        rw [hE] at q5
        simp only [neg_ok hbf]
        exact ⟨_, rfl, fun p hp => by rw [List.mem_singleton.1 hp]; exact q5⟩
    · exact h.elim
  · exact h.elim
theorem bytes_back : ∀ (s : List UInt8), bytesOf (s.map fun b => F.int .u8 (b.toNat : Int)) = some s
  | [] => rfl
  | b :: r => by
    have h1 : Nat.blt b.toNat 256 = true := blt_true b.toNat_lt
    simp only [List.map_cons]
    show (match Nat.blt b.toNat 256, bytesOf (r.map fun b => F.int .u8 (b.toNat : Int)) with | true, some l => some (UInt8.ofNat b.toNat :: l) | _, _ => none) = _
    rw [h1, bytes_back r]
    simp
theorem bld_ok (ok : Ok c e) {t : TypeId} {k : K1} {K : V → St → Prop} (hk : FollS Sp Post Go c k K) (h : TDen Sp Post Go (bldS X e t c.S k) c.ρ) {ρ : Operand → V} :
    ∃ l, xextra X.tb (.alloc t) ρ c.σ = some l ∧ ∀ p ∈ l, K p.1 p.2 := by
  unfold bldS at h
  split at h
  · rename_i pa sa hd hz
    split at h
    · rename_i el hel
      split at h
      · rename_i hty
        have hty := ble_nat hty
        simp only [xextra, hd, hz, hel]
        refine ⟨_, rfl, fun p hp => ?_⟩
        rw [List.mem_singleton.1 hp]
        have a1 := Le.add (c := c) 0 .any (.bld t false (.rs (c.σ.length + 1) el 0))
        have o1 : Ok (c.add 0 .any (.bld t false (.rs (c.σ.length + 1) el 0))) e := ok.add trivial
        obtain ⟨a2, o2, r2⟩ := add_arr (U := U) o1 (ty := el) (sz := 1) (t := .int .u8) (l := .nil (.int .u8)) (xs := ([] : List (T U.B (.int .u8)))) (fs := []) rfl rfl rfl (le_flag hty)
        obtain ⟨y, hy, r3⟩ := V_c (by simp) r2
        cases hy
        have hn : nth ((c.add 0 .any (.bld t false (.rs (c.σ.length + 1) el 0))).add el (.arr true 0 el 1 (.int .u8) (.nil (.int .u8))) (.arr true el 1 [])).S c.S.length = some .any := by
          rw [nth_eq]; simp [Cx.add]
        obtain ⟨a3, o3⟩ := set_cells o2 hn (by simp) (so' := .bld t (some false) (.rs (c.S.length + 1) 0)) (ob' := .bld t false (.rs (c.σ.length + 1) el 0)) fun ρ β ι hl => ⟨false, _, rfl, fun b hb => by cases hb; rfl, by
          have := CR.later hl r3
          simpa [Cx.add] using this⟩
        have h6 := hk _ e (.c (.ptr c.S.length 0)) (.c (.ptr c.σ.length 0)) (a1.trans (a2.trans a3)) o3 (VR.c (by simp only [CR, ok.len])) (by
          have eS : (((c.add 0 .any (.bld t false (.rs (c.σ.length + 1) el 0))).add el (.arr true 0 el 1 (.int .u8) (.nil (.int .u8))) (.arr true el 1 [])).set c.S.length (.bld t (some false) (.rs (c.S.length + 1) 0)) (.bld t false (.rs (c.σ.length + 1) el 0))).S = c.S ++ [.bld t (some false) (.rs (c.S.length + 1) 0), .arr true 0 el 1 (.int .u8) (.nil (.int .u8))] := by
            simp [Cx.set, Cx.add]
          rw [eS]; exact h)
        have eσ : (((c.add 0 .any (.bld t false (.rs (c.σ.length + 1) el 0))).add el (.arr true 0 el 1 (.int .u8) (.nil (.int .u8))) (.arr true el 1 [])).set c.S.length (.bld t (some false) (.rs (c.S.length + 1) 0)) (.bld t false (.rs (c.σ.length + 1) el 0))).σ = c.σ ++ [.bld t false (.rs (c.σ.length + 1) el 0), .arr true el 1 []] := by
          simp [Cx.set, Cx.add, ok.len]
        rw [eσ] at h6
        exact h6
      · exact h.elim
    · exact h.elim
  · exact h.elim
theorem bldF_ok (ok : Ok c e) {t : TypeId} {x : SV} {v : V} (hx : c.vr x v) {i : Nat} {k : K1} {K : V → St → Prop} (hk : FollS Sp Post Go c k K) (h : TDen Sp Post Go (bldF X e t x i c.S k) c.ρ) :
    ∃ l, (match (X.tb t).d, v with
    | .bld a b, .c (.ptr o 0) =>
      (match i with
      | 0 => (match (X.tb a).d.isNo, Nat.blt 0 (X.tb a).size with | false, true => some [(V.c (.ptr o 0), c.σ)] | _, _ => none)
      | 1 => (match (X.tb b).d.isNo, Nat.blt 0 (X.tb b).size with | false, true => some [(.c (.ptr o 1), c.σ)] | _, _ => none)
      | _ => none)
    | _, _ => none) = some l ∧ ∀ p ∈ l, K p.1 p.2 := by
  unfold bldF at h
  split at h
  · rename_i a b o hd
    obtain ⟨y, rfl, h0⟩ := V_c (by simp) hx
    simp only [CR] at h0
    subst h0
    simp only [hd]
    split at h
    · split at h
      · rename_i e1 e2
        try simp only [e1, e2]
        exact ⟨_, rfl, fun p hp => by rw [List.mem_singleton.1 hp]; exact hk c _ _ _ (Le.refl c) ok (VR.c (by simp only [CR])) h⟩
      · exact h.elim
    · split at h
      · rename_i e1 e2
        try simp only [e1, e2]
        exact ⟨_, rfl, fun p hp => by rw [List.mem_singleton.1 hp]; exact hk c _ _ _ (Le.refl c) ok (VR.c (by simp only [CR])) h⟩
      · exact h.elim
    · exact h.elim
  · exact h.elim
theorem cvt_ok (ok : Ok c e) {el : TypeId} {x : SV} {v : V} (hx : c.vr x v) {k : K1} {K : V → St → Prop} (hk : FollS Sp Post Go c k K) (h : TDen Sp Post Go (cvtS X e el x c.S k) c.ρ) :
    ∃ o T bu y a b, v = .c (.ptr o 0) ∧ c.σ[o]? = some (.bld T bu y) ∧ (Nat.beq el T && Nat.blt 0 (X.tb T).size) = true ∧ (X.tb T).d = .bld a b ∧ K (.c (.ptr o 0)) c.σ := by
  unfold cvtS at h
  split at h
  · rename_i o
    obtain ⟨y, rfl, h0⟩ := V_c (by simp) hx
    simp only [CR] at h0
    subst h0
    split at h
    · rename_i T u y ho
      split at h
      · rename_i a b e1 e2
        obtain ⟨ob, h1, bu, y', rfl, _, _⟩ := ok.get ho
        exact ⟨o, T, bu, y', a, b, rfl, h1, e1, e2, hk c _ _ _ (Le.refl c) ok (VR.c (by simp only [CR])) h⟩
      · exact h.elim
    · exact h.elim
  · exact h.elim
theorem sd_ok (ok : Ok c e) {tb : Tab} {ts : List TypeId} {x : SV} {v : V} (hx : c.vr x v) {k : K1} {K : V → St → Prop} (hk : FollS Sp Post Go c k K) (h : TDen Sp Post Go (sdS e x c.S k) c.ρ) :
    ∃ l, xbuiltin tb .unsafeSliceData [v] ts c.σ = some l ∧ ∀ p ∈ l, K p.1 p.2 := by
  unfold sdS at h
  split at h
  · rename_i o kk
    obtain ⟨n, kc, len, rfl, p1, p2, p3⟩ := vr_rs hx
    split at h
    · rename_i w k' ty sz t l ho
      split at h
      · rename_i e1 e2 e3
        have e1 := beq_nat e1
        have e2 := smallT_ok e2
        have e3' := blt_nat e3
        subst e1
        obtain ⟨xs, fs, q1, q2, q3, q4, q5, q6⟩ := arr_at ok ho
        have hp := par_flag (k := kk) q4 e2
        have hcr : CR c.ρ c.β c.ι (.pa o kk sz (.int .i64 0) 0) (.pa o (c.β o + kk * 8589934592) 0) := by
          simp only [CR]
          exact ⟨.i64, 0, _, rfl, Int.le_refl _, q6, by simp⟩
        obtain ⟨E, hE⟩ : ∃ E, c.β o + kk * 8589934592 = E := ⟨_, rfl⟩
        rw [hE] at q2 hp hcr ⊢
        obtain ⟨h1, h2⟩ := h
        rw [den_as (t := .list t) q1] at h1 h2
        cases hfs : fs with
        | nil =>
          have hxs : xs = [] := by
            have := q5.len
            rw [hfs, flat_len, ← q3] at this
            cases xs with
            | nil => rfl
            | cons a r => exact absurd this.symm (Nat.ne_of_gt (Nat.mul_pos (Nat.succ_pos _) e3'))
          obtain ⟨h3, h4⟩ := h1 hxs
          rw [hfs] at q2
          simp only [xbuiltin, nth_eq, q2, Nat.beq_refl, hp, Bool.and_self]
          refine ⟨_, rfl, fun p hm => ?_⟩
          rcases List.mem_cons.1 hm with rfl | hm
          · exact hk c _ _ _ (Le.refl c) ok (VR.c (by simp only [CR])) h3
          · rw [List.mem_singleton.1 hm]
            refine hk c _ _ _ (Le.refl c) ok (VR.c ?_) h4
            simp only [CR]
            exact ⟨[], 0, ⟨.opt .bool, none⟩, rfl, rfl, Nat.le_refl _, fun m d' hd => by simp [pcells] at hd⟩
        | cons f fs' =>
          have hxs : xs ≠ [] := by
            rintro rfl
            have := q5.len
            rw [hfs] at this
            simp [flat] at this
          rw [hfs] at q2
          simp only [xbuiltin, nth_eq, q2, Nat.beq_refl, e3, Bool.and_self]
          refine ⟨_, rfl, fun p hm => ?_⟩
          rw [List.mem_singleton.1 hm]
          exact hk c _ _ _ (Le.refl c) ok (VR.c hcr) (h2 hxs)
      · exact h.elim
    · exact h.elim
  · exact h.elim
theorem ust_ok (ok : Ok c e) {t u : TypeId} {x n : SV} {v w : V} (hx : c.vr x v) (hn : c.vr n w) {k : K1} {K : V → St → Prop} (hk : FollS Sp Post Go c k K) (h : TDen Sp Post Go (ustS X e t x n c.S k) c.ρ) :
    ∃ l, xbuiltin X.tb .unsafeString [v, w] [t, u] c.σ = some l ∧ ∀ p ∈ l, K p.1 p.2 := by
  have none_ : ∀ {vv : V}, (vv = .c (.f .nilp) ∨ ∃ cs off, vv = .c (.ep cs off)) → TDen Sp Post Go (ust0 e n c.S k) c.ρ → ∃ l, xbuiltin X.tb .unsafeString [vv, w] [t, u] c.σ = some l ∧ ∀ p ∈ l, K p.1 p.2 := by
    intro vv hv h
    unfold ust0 at h
    split at h
    · rename_i a
      obtain ⟨m, rfl, hm⟩ := vr_int hn
      obtain ⟨⟨h1, h2⟩, h3⟩ := h
      rw [den_int hm] at h1 h2
      have hm0 : m = 0 := by omega
      subst hm0
      have hK : K (.c (.f (.str []))) c.σ := hk c _ _ _ (Le.refl c) ok (vd_of (d := ⟨.str, ([] : List UInt8)⟩) (f := .str []) rfl rfl rfl) h3
      rcases hv with rfl | ⟨cs, off, rfl⟩
      · exact ⟨_, rfl, fun p hp => by rw [List.mem_singleton.1 hp]; exact hK⟩
      · exact ⟨_, rfl, fun p hp => by rw [List.mem_singleton.1 hp]; exact hK⟩
    · exact h.elim
  unfold ustS at h
  split at h
  · obtain ⟨y, rfl, h0⟩ := V_c (by simp) hx
    simp only [CR] at h0
    subst h0
    exact none_ (.inl rfl) h
  · rename_i tt
    obtain ⟨cs, off, d, rfl, h1, h2, h3⟩ := vr_el hx
    exact none_ (.inr ⟨cs, off, rfl⟩) h
  · rename_i o kk sz kd z
    obtain ⟨kd', n0, p, h1, h2, h3, rfl⟩ := vr_pa hx
    cases h1
    split at h
    · rename_i w0 k' ty sz' l a ho
      split at h
      · rename_i ue hd
        split at h
        · exact h.elim
        split at h
        · rename_i hdu hc
          simp only [Bool.and_eq_true] at hc
          obtain ⟨⟨⟨⟨⟨⟨c1, c2⟩, c3⟩, c4⟩, c5⟩, c6⟩, c7⟩ := hc
          have z0 := ieq0_eq c1
          have e2 := beq_nat c2
          have e3 := smallT_ok c3
          have e4 := beq_nat c4
          have e5 := beq_nat c5
          have e6 := beq_nat c6
          subst z0 e2 e4 e5 e6
          obtain ⟨xs, fs, q1, q2, q3, q4, q5, q6⟩ := arr_at ok ho
          obtain ⟨m, rfl, hm⟩ := vr_int hn
          have g1 := h _ rfl
          rw [den_as (t := .list (.int .u8)) q1] at g1
          obtain ⟨g2, bs, g3, g4⟩ := g1
          have okp := ok.push (⟨.int .i64, (xs.length : Int)⟩ : Dyn U.B)
          have hm' := (Le.push c (⟨.int .i64, (xs.length : Int)⟩ : Dyn U.B)).den hm
          have q1' := (Le.push c (⟨.int .i64, (xs.length : Int)⟩ : Dyn U.B)).den q1
          have hnew : e.new.den? (c.ρ ++ [(⟨.int .i64, (xs.length : Int)⟩ : Dyn U.B)]) = some ⟨.int .i64, (xs.length : Int)⟩ := ok.new _
          rw [den_int (ρ := c.ρ ++ [(⟨.int .i64, (xs.length : Int)⟩ : Dyn U.B)]) hm', den_int hnew] at g2
          rw [den_as (ρ := c.ρ ++ [(⟨.int .i64, (xs.length : Int)⟩ : Dyn U.B)]) (t := .list (.int .u8)) q1'] at g3
          subst g2 g3
          have hfs := u8_row q5
          rw [List.map_map] at hfs
          have hfs : fs = bs.map fun b => F.int .u8 (b.toNat : Int) := hfs
          subst hfs
          have hp := par_flag (k := kk) q4 e3
          have hmd := mod_flag (k := kk) q4
          have hmd : Nat.beq (Nat.mod (c.β o + kk * 8589934592) 4294967296) ty = true := by
            have : (c.β o + kk * 8589934592) % 4294967296 = Nat.mod ty 4294967296 := hmd
            have h3 : Nat.mod ty 4294967296 = ty := Nat.mod_eq_of_lt (by omega)
            rw [h3] at this
            show Nat.beq ((c.β o + kk * 8589934592) % 4294967296) ty = true
            rw [this]; exact Nat.beq_refl _
          have hfz := Ok.frz okp (c := c.push ⟨.int .i64, ((bs.map fun b => (b.toNat : Int)).length : Int)⟩) (o := o) (w := w0) ho false q1' q3 q4 q5
          have hlf := Le.frz okp (c := c.push ⟨.int .i64, ((bs.map fun b => (b.toNat : Int)).length : Int)⟩) (o := o) (w := w0) (ob := .arr false (c.β o + kk * 8589934592) 1 (bs.map fun b => F.int .u8 (b.toNat : Int))) ho false
          have okq := hfz.push (⟨.str, bs⟩ : Dyn U.B)
          have hden : (Tm.at (e.n + 1)).den? ((c.ρ ++ [(⟨.int .i64, ((bs.map fun b => (b.toNat : Int)).length : Int)⟩ : Dyn U.B)]) ++ [(⟨.str, bs⟩ : Dyn U.B)]) = some ⟨.str, bs⟩ := by
            have := hfz.new (⟨.str, bs⟩ : Dyn U.B)
            have e1 : (e.push (.int .i64)).new = Tm.at (e.n + 1) := by simp [SE.new, SE.n, SE.push]
            rw [e1] at this
            exact this
          have hK : K (.c (.f (.str bs))) (c.σ.set o (.arr false (c.β o + kk * 8589934592) 1 (bs.map fun b => F.int .u8 (b.toNat : Int)))) :=
            hk _ _ (.c (.d .str (.at (e.n + 1)))) (.c (.f (.str bs))) (((Le.push c _).trans hlf).trans (Le.push _ (⟨.str, bs⟩ : Dyn U.B))) okq (vd_of (d := ⟨.str, bs⟩) (f := .str bs) hden rfl rfl) g4
          have hlen : (bs.map fun b => F.int .u8 (b.toNat : Int)).length = (bs.map fun b => (b.toNat : Int)).length := by simp
          clear hfz hlf okq g4 h
          obtain ⟨E, hE⟩ : ∃ E, c.β o + kk * 8589934592 = E := ⟨_, rfl⟩
          rw [hE] at q2 hp hmd hK ⊢
          show ∃ l, xbuiltin X.tb .unsafeString [V.c (C.pa o E 0), .c (.f (.int .i64 (.ofNat (bs.map fun b => (b.toNat : Int)).length)))] [t, u] c.σ = some l ∧ ∀ p ∈ l, K p.1 p.2
          rw [← hlen]
          simp only [xbuiltin, hd, nth_eq, q2, hdu, Nat.beq_refl, hmd, c7, hp, bytes_back, Bool.and_self, put_eq]
          refine ⟨_, rfl, fun p hm => ?_⟩
          rw [List.mem_singleton.1 hm]
          exact hK
        · exact h.elim
      · exact h.elim
    · exact h.elim
  · exact h.elim
theorem raw_ok (ok : Ok c e) {m : Nat} {A : SA} {A' : AF} (hA : inA m A') (hf : FrR c A A') {o : Op} {pf : FuncId → Bool} {k : K1} {K : V → St → Prop} (hk : FollS Sp Post Go c k K) (hX : X.lay = U.lay) (h : TDen Sp Post Go (rawS X e o (opS A) c.S k) c.ρ) :
    vdo (mx P) pf X.tb o (toFr m A') c.σ K := by
  have eo : opd (toFr m A') = opA A' := funext (toFr_opd hA)
  unfold rawS at h
  split at h
  · rename_i t
    have := bld_ok ok hk h (ρ := opA A')
    obtain ⟨l, h1, h2⟩ := this
    have hx : extraB X.tb (.alloc t) = true := by
      unfold bldS at h
      split at h
      · rename_i hd _; simp only [extraB, hd]
      · exact h.elim
    simp only [vdo, vop2, hx, vextra, eo]
    exact ⟨l, h1, h2⟩
  · rename_i t x i
    obtain ⟨l, h1, h2⟩ := bldF_ok ok (op_ok hf x) hk h
    have hx : extraB X.tb (.fieldAddr t x i) = true := by
      unfold bldF at h
      split at h
      · rename_i hd _; simp only [extraB, hd]
      · exact h.elim
    simp only [vdo, vop2, hx, vextra, xextra, eo]
    exact ⟨l, h1, h2⟩
  · rename_i s d x
    split at h
    · rename_i el hs hd
      obtain ⟨o, T, bu, y, a, b, e1, e2, e3, e4, e5⟩ := cvt_ok ok (op_ok hf x) hk h
      simp only [vdo, vop2, extraB, hs, hd, vextra, xextra, eo, e1, nth_eq, e2, e3, e4]
      exact ⟨_, rfl, fun p hp => by rw [List.mem_singleton.1 hp]; exact e5⟩
    · rename_i el hs hd
      obtain ⟨o, T, bu, y, a, b, e1, e2, e3, e4, e5⟩ := cvt_ok ok (op_ok hf x) hk h
      simp only [vdo, vop2, extraB, hs, hd, vextra, xextra, eo, e1, nth_eq, e2, e3, e4]
      exact ⟨_, rfl, fun p hp => by rw [List.mem_singleton.1 hp]; exact e5⟩
    · obtain ⟨h1, h2⟩ := conv_ok (o := x) ok (op_ok hf x) hk h
      simp only [vdo, vop2, h1, vop, eo]
      exact h2
  · rename_i args argTypes
    split at h
    · rename_i x h1
      obtain ⟨l, h2, h3⟩ := sd_ok (tb := X.tb) (ts := argTypes.toList) ok (op_ok hf x) hk h
      simp only [vdo, vop2, extraB, vextra, xextra, h1, List.map_cons, List.map_nil, eo]
      exact ⟨l, h2, h3⟩
    · exact h.elim
  · rename_i args argTypes
    split at h
    · rename_i x n t u h1 h2
      obtain ⟨l, h3, h4⟩ := ust_ok (u := u) ok (op_ok hf x) (op_ok hf n) hk h
      simp only [vdo, vop2, extraB, vextra, xextra, h1, h2, List.map_cons, List.map_nil, eo]
      exact ⟨l, h3, h4⟩
    · exact h.elim
  · rename_i op t x y p
    split at h
    · rename_i el hd
      have := nilEq_ok ok (op_ok hf x) (op_ok hf y) hk hX h
      simp only [vdo, vop2, extraB, hd, vextra, xextra, eo]
      exact this
    · rename_i el hd
      have := ptrEq_ok ok (op_ok hf x) (op_ok hf y) hk h
      simp only [vdo, vop2, extraB, hd, vextra, xextra, eo]
      exact this
    · rename_i nn hd
      have := aggEq_ok ok (op_ok hf x) (op_ok hf y) hk h
      simp only [vdo, vop2, extraB, hd, vextra, xextra, eo]
      exact this
    · exact h.elim
  · rename_i t a b
    have := make_ok ok (op_ok hf a) (op_ok hf b) hk hX h
    simp only [vdo, vop2, extraB, vextra, xextra, eo]
    exact this
  · rename_i f first captured
    split at h
    · rename_i hfirst
      simp only [vdo, vop2, extraB, vop, hfirst, eo]
      refine hk c e _ _ (Le.refl c) ok (VR.c ?_) h
      simp only [CR]
      exact ⟨_, rfl, crs_cap (op_ok hf) _⟩
    · exact h.elim
  · rename_i args argTypes
    split at h
    · rename_i x t h1 h2
      split at h
      · rename_i el hd hx
        have h3 := op_ok hf x
        rw [hx] at h3
        obtain ⟨y, e1, h4⟩ := V_c (by simp) h3
        simp only [CR] at h4
        subst h4
        simp only [vdo, vop2, extraB, vextra, xextra, h1, h2, List.map_cons, List.map_nil, eo, e1, xbuiltin, hd]
        refine ⟨_, rfl, fun p hp => ?_⟩
        rw [List.mem_singleton.1 hp]
        exact hk c e _ _ (Le.refl c) ok (vd_of (d := ⟨.int .i64, (0 : Int)⟩) (f := .int .i64 0) rfl rfl rfl) h
      · exact h.elim
    · exact h.elim
  · rename_i args argTypes
    split at h
    · rename_i x y t u h1 h2
      obtain ⟨⟨kk, hu⟩, hl⟩ := grow_ok ok (op_ok hf x) (op_ok hf y) hk hX h
      simp only [vdo, vop2, extraB, h2, hu, vextra, xextra, h1, List.map_cons, List.map_nil, eo]
      exact hl
    · exact h.elim
  · exact h.elim
theorem vrs_app : ∀ {l m : List SV} {l' m' : List V}, c.vrs l l' → c.vrs m m' → c.vrs (l ++ m) (l' ++ m')
  | [], m, l', m', h, k => by simp only [Cx.vrs, VRs] at h; subst h; exact k
  | x :: r, m, l', m', h, k => by
    simp only [Cx.vrs, VRs] at h
    obtain ⟨v, vr, rfl, h1, h2⟩ := h
    simp only [List.cons_append, Cx.vrs, VRs]
    exact ⟨v, vr ++ m', rfl, h1, vrs_app h2 k⟩
theorem vrs_caps : ∀ {l : List SC} {l' : List Dm.C}, CRs c.ρ c.β c.ι l l' → c.vrs (l.map SV.c) (l'.map V.c)
  | [], l', h => by simp only [CRs] at h; subst h; simp only [List.map_nil, Cx.vrs, VRs]
  | x :: r, l', h => by
    simp only [CRs] at h
    obtain ⟨y, l0, rfl, h1, h2⟩ := h
    simp only [List.map_cons, Cx.vrs, VRs]
    exact ⟨_, _, rfl, VR.c h1, vrs_caps h2⟩
theorem loadB_ok (ok : Ok c e) {agg : Bool} {n : Nat} {x : SV} {v : V} (hx : c.vr x v) {k : K1} {K : V → St → Prop} (hk : FollS Sp Post Go c k K) (h : TDen Sp Post Go (loadB U.lay e agg n x c.S k) c.ρ) :
    vload prims agg n v c.σ fun v => K v c.σ := by
  unfold loadB at h
  split at h
  · rename_i o T y hb
    obtain ⟨rfl, rfl, ho⟩ : agg = false ∧ x = .c (.ptr o 0) ∧ nth c.S o = some (.bld T none y) := by
      unfold loadB.bldAt at hb
      split at hb
      · split at hb
        · rename_i ho
          cases hb
          exact ⟨rfl, rfl, ho⟩
        · cases hb
      · cases hb
    obtain ⟨z, rfl, h0⟩ := V_c (by simp) hx
    simp only [CR] at h0
    subst h0
    obtain ⟨ob, h1, bu, y', rfl, _, h2⟩ := ok.get ho
    have turn : ∀ b, bu = b → Le c (c.set o (.bld T (some b) y) (.bld T bu y')) ∧ Ok (c.set o (.bld T (some b) y) (.bld T bu y')) e := fun b hb =>
      set_cells ok ho (by simp) fun ρ β ι hl => ⟨bu, y', rfl, fun b' hb' => by cases hb'; exact hb, CR.later hl h2⟩
    have hσ : c.σ.set o (.bld T bu y') = c.σ := by
      apply List.ext_getElem?
      intro j
      rw [List.getElem?_set]
      split
      · rename_i hj; subst hj; rw [if_pos (List.getElem?_eq_some_iff.1 h1).1, h1]
      · rfl
    unfold vload
    simp only [h1]
    cases bu with
    | true =>
      obtain ⟨q1, q2⟩ := turn true rfl
      have := hk _ e (.c (.ptr o 0)) (.c (.ptr o 0)) q1 q2 (VR.c (by simp only [CR])) h.1
      have e2 : (c.set o (.bld T (some true) y) (.bld T true y')).σ = c.σ := hσ
      rw [e2] at this
      exact this
    | false =>
      obtain ⟨q1, q2⟩ := turn false rfl
      have := hk _ e (.c .nilp) (.c (.f .nilp)) q1 q2 (VR.c (by simp only [CR])) h.2
      have e2 : (c.set o (.bld T (some false) y) (.bld T false y')).σ = c.σ := hσ
      rw [e2] at this
      exact this
  · exact load_ok ok hx hk.foll h
theorem sop_ok {call : CallS} (hcall : CallSOk (U := U) P Sp Post Go call) (hX : X.lay = U.lay) (ok : Ok c e) {m : Nat} {A : SA} {A' : AF} (hA : inA m A') (hf : FrR c A A') {s : SOp} {k : K1} {K : V → St → Prop} (hk : FollS Sp Post Go c k K)
    (h : TDen Sp Post Go (sop X call s e A c.S k) c.ρ) : wop (wx P) (fun _ => false) X.tb m s A' c.σ K := by
  cases s with
  | mv x => exact hk c e _ _ (Le.refl c) ok (op_ok hf x) h
  | pick x a b => exact pick_ok ok (op_ok hf x) (op_ok hf a) (op_ok hf b) hk.foll h
  | bin d op x y => exact bin_ok ok (op_ok hf x) (op_ok hf y) hk.foll h
  | un op x => exact un_ok ok (op_ok hf x) hk.foll h
  | alloc z => exact alloc_ok ok hk h
  | box x => exact box_ok ok (op_ok hf x) hk h
  | load agg n x =>
    simp only [sop] at h
    rw [hX] at h
    have : vload prims agg n (addr (opA A' x)) c.σ fun v => K v c.σ :=
      addr_ok ok (op_ok hf x) (K := fun v => vload prims agg n v c.σ fun v => K v c.σ) (fun c1 e1 sv v h1 h2 h3 h4 h5 h6 => by
        rw [← h3]
        rw [← h2] at h6
        exact loadB_ok h4 h5 (hk.later h1) h6) h
    show wload qprims agg n (addr (opA A' x)) c.σ fun v => K v c.σ
    generalize addr (opA A' x) = v at this
    unfold wload
    split
    · unfold vload at this
      cases agg <;> exact this
    · unfold vload at this
      split at this <;> first
        | (rename_i hh; cases hh; done)
        | skip
      · rename_i o' e' off' _ _ _ hh
        cases hh
        split at this
        · rename_i ho
          simp only [ho]
          cases agg <;> exact this
        · exact this.elim
      · rename_i hh1 hh2 hh3; exact (hh3 _ _ _ rfl).elim
    · exact this
  | store n a x => rw [sop, hX] at h; exact store_ok ok (op_ok hf a) (op_ok hf x) hk h
  | call x args =>
    simp only [sop] at h
    have hx := op_ok hf x
    split at h
    · rename_i f e1
      rw [e1] at hx
      obtain ⟨y, e2, h1⟩ := V_c (by simp) hx
      simp only [CR] at h1
      subst h1
      have := hcall c e f _ _ k K ok (ops_ok hf args) hk h
      show match callee (opA A' x) (args.map (opA A')) with | some (f, l) => CallAt P f l c.σ K | none => False
      rw [e2]
      exact this
    · rename_i f caps e1
      rw [e1] at hx
      obtain ⟨y, e2, h1⟩ := V_c (by simp) hx
      simp only [CR] at h1
      obtain ⟨l, rfl, h1⟩ := h1
      have hargs : c.vrs (args.map (opS A) ++ caps.map SV.c) (args.map (opA A') ++ l.map V.c) := vrs_app (ops_ok hf args) (vrs_caps h1)
      have := hcall c e f _ _ k K ok hargs hk h
      show match callee (opA A' x) (args.map (opA A')) with | some (f, l) => CallAt P f l c.σ K | none => False
      rw [e2]
      exact this
    · exact h.elim
  | fa off x =>
    simp only [sop] at h
    have : vfield prims (addr (opA A' x)) off c.σ fun v => K v c.σ :=
      addr_ok ok (op_ok hf x) (K := fun v => vfield prims v off c.σ fun v => K v c.σ) (fun c1 e1 sv v h1 h2 h3 h4 h5 h6 => by
        rw [← h3]
        rw [← h2] at h6
        refine field_ok h4 h5 (k := fun e v => k e v c1.S) ?_ h6
        exact (hk.later h1).foll) h
    show wfield qprims (addr (opA A' x)) off c.σ fun v => K v c.σ
    generalize addr (opA A' x) = v at this
    unfold wfield
    unfold vfield at this
    have more : ∀ {o i : Nat} {k : Nat → Prop}, k (vmore prims o i) → wmore qprims o i k := fun {o i k} hk => by cases i <;> exact hk
    split at this
    · exact this
    · exact more (k := fun i => K (.c (.ep _ i)) c.σ) this
    · split at this
      · rename_i ho
        simp only [ho]
        exact ⟨this.1, more (k := fun i => K (.c (.pa _ _ i)) c.σ) this.2⟩
      · exact this.elim
    · exact this.elim
  | fld agg off n x =>
    simp only [sop] at h
    have hx := op_ok hf x
    split at h
    · rename_i l e1
      rw [e1] at hx
      simp only [Cx.vr, VR] at hx
      obtain ⟨l', e2, h1⟩ := hx
      show match opA A' x with | .a l => vpart agg l off n fun v => K v c.σ | _ => False
      rw [e2]
      exact part_ok ok h1 (k := fun e v => k e v c.S) hk.foll h
    · exact h.elim
  | ixr sz x i =>
    simp only [sop] at h
    rw [hX] at h
    have hx := op_ok hf x
    have := ixr_ok ok hx (op_ok hf i) hk.foll h
    show wixrow qprims sz (addr (opA A' x)) (opA A' i) c.σ fun v => K v c.σ
    generalize opA A' x = v at this
    generalize opA A' i = u at this
    unfold ixrow at this
    unfold wixrow
    split at this
    · exact this
    · split at this
      · rename_i ho
        simp only [addr, ho]
        exact ⟨this.1, this.2.1, this.2.2⟩
      · exact this.elim
    · exact this.elim
  | ixa n sz x i =>
    simp only [sop] at h
    show ixarr prims n sz (addr (opA A' x)) (opA A' i) c.σ fun v => K v c.σ
    exact addr_ok ok (op_ok hf x) (K := fun v => ixarr prims n sz v (opA A' i) c.σ fun v => K v c.σ) (fun c1 e1 sv v h1 h2 h3 h4 h5 h6 => by
        rw [← h3]
        rw [← h2] at h6
        refine ixa_ok h4 h5 (h1.vr (op_ok hf i)) (k := fun e v => k e v c1.S) ?_ h6
        exact (hk.later h1).foll) h
  | chr x i =>
    have := chr_ok ok (op_ok hf x) (op_ok hf i) hk.foll h
    show match opA A' x, opA A' i with | .c (.f (.str s)), .c (.f (.int _ j)) => qprims.schr s j fun r => K (.c (.f (.int .u8 r))) c.σ | _, _ => False
    generalize opA A' x = v at this
    generalize opA A' i = u at this
    unfold ixchr at this
    split at this
    · exact this
    · exact this.elim
  | len d x =>
    have := len_ok ok (op_ok hf x) hk.foll h
    show wlen qprims d (opA A' x) c.σ fun v => K v c.σ
    generalize opA A' x = v at this
    unfold wlen
    split
    · exact this
    · unfold vlen at this
      split
      · rename_i ho
        simp only [ho] at this
        exact this
      · rename_i hno
        simp only at this
    · exact this
    · exact this
  | app d ty sz bytes x y => rw [sop, hX] at h; exact app_ok ok (op_ok hf x) (op_ok hf y) hk h
  | slc d sz x lo hi =>
    rw [sop, hX] at h
    have om : ∀ o : Option Operand, (o.map (opS A) = none ∧ o.map (opA A') = none) ∨ ∃ x v, o.map (opS A) = some x ∧ o.map (opA A') = some v ∧ c.vr x v := fun o => by
      cases o with
      | none => exact .inl ⟨rfl, rfl⟩
      | some x => exact .inr ⟨_, _, rfl, rfl, op_ok hf x⟩
    exact slc_ok ok (op_ok hf x) (om lo) (om hi) hk h
  | ext x i =>
    simp only [sop] at h
    have hx := op_ok hf x
    split at h
    · rename_i l e1
      rw [e1] at hx
      simp only [Cx.vr, VR] at hx
      obtain ⟨l', e2, h1⟩ := hx
      split at h
      · rename_i v hv
        rw [nth_eq] at hv
        obtain ⟨u, h2, h3⟩ := VRs.get h1 hv
        show match opA A' x with | .t l => (match l[i]? with | some v => K v c.σ | none => False) | _ => False
        rw [e2]
        simp only [h2]
        exact hk c e _ _ (Le.refl c) ok h3 h
      · exact h.elim
    · exact h.elim
  | nilc x =>
    have := nilc_ok ok (op_ok hf x) hk.foll h
    simp only [wop, vopA]
    generalize opA A' x = v at this
    unfold NilV at this
    split at this
    · exact this
    · exact this
    · exact this
    · rename_i o e' off
      simp only
      cases ho : c.σ[o]? with
      | none => simp only [ho] at this
      | some ob =>
        simp only [ho] at this ⊢
        cases ob <;> exact this
    · exact this.elim
  | bi b ts args => exact bi_ok ok (ops_ok hf args) hk h
  | bld z parts =>
    simp only [sop] at h
    split at h
    · rename_i l hl
      obtain ⟨l', h1, h2⟩ := fill_ok (op_ok hf) parts (ofFs_ok z) hl
      show match sfill (opA A') parts (z.map .f) with | some l => K (.a l) c.σ | none => False
      rw [h1]
      exact hk c e _ _ (Le.refl c) ok (by simp only [Cx.vr, VR]; exact ⟨l', rfl, h2⟩) h
    · exact h.elim
  | bsl n ty sz z parts => rw [sop, hX] at h; exact bsl_ok ok (op_ok hf) hk h
  | raw o =>
    have hv := raw_ok (P := P) (pf := fun _ => false) ok hA hf hk hX h
    cases o with
    | convert s d x =>
      show match (X.tb s).d, (X.tb d).d, opA A' x with
        | .int _, .int j, .c (.f (.int _ n)) => qprims.wrap j n fun r => K (.c (.f (.int j r))) c.σ
        | _, _, _ => vopA (wx P).mx (fun _ => false) X.tb m (.raw (.convert s d x)) A' c.σ K
      split
      · rename_i j0 j kd n e1 e2 e3
        have eo : opd (toFr m A') = opA A' := funext (toFr_opd hA)
        have : vconv prims X.tb s d (opA A' x) c.σ K := by
          have h5 : extraB X.tb (.convert s d x) = false := by simp only [extraB, e1, e2]
          simp only [vdo, vop2, h5, vop, eo] at hv
          exact hv
        unfold vconv at this
        simp only [e1, e2, e3] at this
        exact this
      · exact hv
    | _ => exact hv
end Go.Dm.Sx
namespace Go.Dm
set_option linter.unusedVariables false
set_option linter.unusedSimpArgs false
structure Em where
  n : Nat
  os : Nat → Nat
  inv : Nat → Option Nat
  E1 : Nat → Nat
  E : Nat → Nat
structure Em.Ok (m : Em) : Prop where
  inv_os : ∀ j, j < m.n → m.inv (m.os j) = some j
  os_inv : ∀ i j, m.inv i = some j → j < m.n ∧ m.os j = i
mutual
def RnC (m : Em) : C → C → Prop
  | .f x, c => c = .f x
  | .ptr o off, c => o < m.n ∧ c = .ptr (m.os o) off
  | .rs o e k, c => o < m.n ∧ e = m.E1 o ∧ c = .rs (m.os o) (m.E o) k
  | .mp o, c => o < m.n ∧ c = .mp (m.os o)
  | .clo f caps, c => ∃ l, c = .clo f l ∧ RnCs m caps l
  | .un, c => c = .un
  | .pa .., _ => False
  | .ep cs off, c => c = .ep cs off
def RnCs (m : Em) : List C → List C → Prop
  | [], l => l = []
  | c :: r, l => ∃ c' r', l = c' :: r' ∧ RnC m c c' ∧ RnCs m r r'
end
mutual
def RnV (m : Em) : V → V → Prop
  | .c x, v => ∃ y, v = .c y ∧ RnC m x y
  | .a l, v => ∃ l', v = .a l' ∧ RnCs m l l'
  | .t l, v => ∃ l', v = .t l' ∧ RnVs m l l'
def RnVs (m : Em) : List V → List V → Prop
  | [], l => l = []
  | c :: r, l => ∃ c' r', l = c' :: r' ∧ RnV m c c' ∧ RnVs m r r'
end
def RnO (m : Em) (j : Nat) : Ob → Ob → Prop
  | .cells l, ob => ∃ l', ob = .cells l' ∧ RnCs m l l'
  | .arr w e sz fs, ob => e = m.E1 j ∧ ob = .arr w (m.E j) sz fs
  | .map kv, ob => ob = .map kv
  | .bld T u x, ob => ∃ x', ob = .bld T u x' ∧ RnC m x x'
  | .gone, ob => ob = .gone
theorem RnO.row {m : Em} {j : Nat} {a b : Ob} (h : RnO m j a b) : b.row = a.row := by
  cases a <;> simp only [RnO] at h
  · obtain ⟨l', rfl, _⟩ := h; rfl
  · obtain ⟨_, rfl⟩ := h; rfl
  · subst h; rfl
  · obtain ⟨l', rfl, _⟩ := h; rfl
  · subst h; rfl
theorem RnO.live {m : Em} {j : Nat} {a b : Ob} (h : RnO m j a b) : live b = live a := by
  cases a <;> simp only [RnO] at h
  · obtain ⟨l', rfl, _⟩ := h; rfl
  · obtain ⟨_, rfl⟩ := h; rfl
  · subst h; rfl
  · obtain ⟨l', rfl, _⟩ := h; rfl
  · subst h; rfl
theorem RnO.own {m : Em} {j : Nat} {a b : Ob} (h : RnO m j a b) (o : Nat) : ownAt b o ↔ ownAt a o := by
  cases a <;> simp only [RnO] at h
  · obtain ⟨l', rfl, _⟩ := h; exact Iff.rfl
  · rename_i w e sz fs; obtain ⟨_, rfl⟩ := h; cases w <;> exact Iff.rfl
  · subst h; exact Iff.rfl
  · obtain ⟨l', rfl, _⟩ := h; exact Iff.rfl
  · subst h; exact Iff.rfl
structure Part (m : Em) (σ1 σ : St) : Prop where
  ok : m.Ok
  len : σ1.length = m.n
  at_ : ∀ j ob1, σ1[j]? = some ob1 → ∃ ob, σ[m.os j]? = some ob ∧ RnO m j ob1 ob
def Em.back (m : Em) (g : G) : G := ⟨g.Z, fun j => g.blk (m.os j), fun j => g.cap (m.os j)⟩
section
variable {m : Em} {g : G} {w : World} {σ σ1 : St}
mutual
theorem backC (hp : Part m σ1 σ) : ∀ {c c' : C} {v : Value}, RnC m c c' → CRep g w σ c' v → CRep (m.back g) w σ1 c v
  | .f x, c', v, h, hv => by simp only [RnC] at h; subst h; exact FRep.turn (g := g) (g' := m.back g) (w := w) (w' := w) (fun b o hz => ⟨hz, rfl⟩) _ _ hv
  | .ptr o off, c', v, h, hv => by
    obtain ⟨ho, rfl⟩ := h
    obtain ⟨b, ob, h1, rfl, h2, h3⟩ := hv
    obtain ⟨ob1, h4⟩ : ∃ ob1, σ1[o]? = some ob1 := ⟨_, List.getElem?_eq_getElem (hp.len ▸ ho)⟩
    obtain ⟨ob', h5, h6⟩ := hp.at_ o ob1 h4
    rw [h2] at h5; cases h5
    exact ⟨b, ob1, h1, rfl, h4, h6.row ▸ h3⟩
  | .rs o e k, c', v, h, hv => by
    obtain ⟨ho, rfl, rfl⟩ := h
    obtain ⟨h0, ob, h1, h2⟩ := hv
    obtain ⟨ob1, h4⟩ : ∃ ob1, σ1[o]? = some ob1 := ⟨_, List.getElem?_eq_getElem (hp.len ▸ ho)⟩
    obtain ⟨ob', h5, h6⟩ := hp.at_ o ob1 h4
    rw [h1] at h5; cases h5
    refine ⟨h0, ob1, h4, ?_⟩
    cases ob1 <;> simp only [RnO] at h6
    · obtain ⟨l', rfl, _⟩ := h6; exact h2.elim
    · obtain ⟨rfl, rfl⟩ := h6
      exact ⟨Nat.le_refl _, fun _ => h2.2 rfl⟩
    · subst h6; exact h2.elim
    · obtain ⟨l', rfl, _⟩ := h6; exact h2.elim
    · trivial
  | .mp o, c', v, h, hv => by
    obtain ⟨ho, rfl⟩ := h
    obtain ⟨b, ob, h1, rfl, h2, h3⟩ := hv
    obtain ⟨ob1, h4⟩ : ∃ ob1, σ1[o]? = some ob1 := ⟨_, List.getElem?_eq_getElem (hp.len ▸ ho)⟩
    obtain ⟨ob', h5, h6⟩ := hp.at_ o ob1 h4
    rw [h2] at h5; cases h5
    exact ⟨b, ob1, h1, rfl, h4, h6.row ▸ h3⟩
  | .clo f caps, c', v, h, hv => by
    obtain ⟨l, rfl, h1⟩ := h
    obtain ⟨vs, rfl, h2⟩ := hv
    exact ⟨vs, rfl, backCs hp h1 h2⟩
  | .un, c', v, h, hv => trivial
  | .pa .., c', v, h, hv => h.elim
  | .ep cs off, c', v, h, hv => by
    simp only [RnC] at h; subst h
    obtain ⟨b, o, rfl, h1⟩ := hv
    exact ⟨b, o, rfl, FRow.turn (g := g) (g' := m.back g) (w := w) (w' := w) (fun b o hz => ⟨hz, rfl⟩) _ _ _ h1⟩
theorem backCs (hp : Part m σ1 σ) : ∀ {c c' : List C} {v : List Value}, RnCs m c c' → CReps g w σ c' v → CReps (m.back g) w σ1 c v
  | [], c', v, h, hv => by simp only [RnCs] at h; subst h; exact hv
  | c :: r, c', v, h, hv => by
    obtain ⟨x, y, rfl, h1, h2⟩ := h
    obtain ⟨u, ur, rfl, h3, h4⟩ := hv
    exact ⟨u, ur, rfl, backC hp h1 h3, backCs hp h2 h4⟩
end
mutual
theorem backV (hp : Part m σ1 σ) : ∀ {c c' : V} {v : Value}, RnV m c c' → VRep g w σ c' v → VRep (m.back g) w σ1 c v
  | .c x, c', v, h, hv => by obtain ⟨y, rfl, h1⟩ := h; exact backC hp h1 hv
  | .a l, c', v, h, hv => by obtain ⟨l', rfl, h1⟩ := h; obtain ⟨vs, rfl, h2⟩ := hv; exact ⟨vs, rfl, backCs hp h1 h2⟩
  | .t l, c', v, h, hv => by obtain ⟨l', rfl, h1⟩ := h; obtain ⟨vs, rfl, h2⟩ := hv; exact ⟨vs, rfl, backVs hp h1 h2⟩
theorem backVs (hp : Part m σ1 σ) : ∀ {c c' : List V} {v : List Value}, RnVs m c c' → VReps g w σ c' v → VReps (m.back g) w σ1 c v
  | [], c', v, h, hv => by simp only [RnVs] at h; subst h; exact hv
  | c :: r, c', v, h, hv => by
    obtain ⟨x, y, rfl, h1, h2⟩ := h
    obtain ⟨u, ur, rfl, h3, h4⟩ := hv
    exact ⟨u, ur, rfl, backV hp h1 h3, backVs hp h2 h4⟩
end
theorem back_own (hp : Part m σ1 σ) {b o : Nat} (h : Own (m.back g) σ1 b o) : Own g σ b o := by
  obtain ⟨j, ob1, h1, h2, h3⟩ := own_iff.1 h
  obtain ⟨ob, h4, h5⟩ := hp.at_ j ob1 h1
  exact own_iff.2 ⟨m.os j, ob, h4, h2, (h5.own o).2 h3⟩
theorem back_rep (hp : Part m σ1 σ) (hE : ∀ j w e sz fs, σ1[j]? = some (.arr w e sz fs) → m.E1 j % 8589934592 = m.E j % 8589934592) (hr : Rep g w σ) : Rep (m.back g) w σ1 where
  ob j ob1 hj := by
    obtain ⟨ob, h1, h2⟩ := hp.at_ j ob1 hj
    have h0 := hr.ob _ _ h1
    cases ob1 with
    | cells l =>
      obtain ⟨l', rfl, h3⟩ := h2
      obtain ⟨b, vs, T, fz, a1, a2, a3, a4⟩ := h0
      exact ⟨b, vs, T, fz, a1, a2, a3, backCs hp h3 a4⟩
    | arr wr e sz fs =>
      obtain ⟨rfl, rfl⟩ := h2
      have hz := FRep.turn (g := g) (g' := m.back g) (w := w) (w' := w) (fun b o hz => ⟨hz, rfl⟩)
      rcases h0 with ⟨a1, a2, a3⟩ | ⟨b, vs, T, fz, rest, a1, a2, a3, a4, a5, ⟨pre, a6, a7, a8⟩, a9, a10⟩
      · exact .inl ⟨a1, a2, a3⟩
      · exact .inr ⟨b, vs, T, fz, rest, a1, a2, a3.mono (hE _ _ _ _ _ hj) (fun _ => Nat.le_refl _), a4, a5, ⟨pre, a6, a7, fun j x y => hz _ _ (a8 j x y)⟩, a9, a10.1.trans (par_mod (hE _ _ _ _ _ hj)), fun h => a10.2 (par_odd (hE _ _ _ _ _ hj) h)⟩
    | map kv =>
      simp only [RnO] at h2; subst h2
      obtain ⟨b, es, clock, a1, a2, a3⟩ := h0
      exact ⟨b, es, clock, a1, a2, KVRep.turn (g := g) (g' := m.back g) (w := w) (w' := w) (fun b o hz => ⟨hz, rfl⟩) a3⟩
    | bld T u x =>
      obtain ⟨x', rfl, h3⟩ := h2
      obtain ⟨b, v, a1, a2, a3⟩ := h0
      exact ⟨b, v, a1, a2, backC hp h3 a3⟩
    | gone => trivial
  inj i j a b k hi hj la lb hbi hbj := by
    obtain ⟨a', h1, h2⟩ := hp.at_ i a hi
    obtain ⟨b', h3, h4⟩ := hp.at_ j b hj
    have := hr.inj _ _ a' b' k h1 h3 (h2.live.trans la) (h4.live.trans lb) hbi hbj
    have li : i < m.n := hp.len ▸ lt_of_get hi
    have lj : j < m.n := hp.len ▸ lt_of_get hj
    have e1 := hp.ok.inv_os i li
    have e2 := hp.ok.inv_os j lj
    rw [this] at e1
    exact Option.some.inj (e1.symm.trans e2)
  apart b o hz ho := hr.apart b o hz (back_own hp ho)
  inside b o hz := hr.inside b o hz
end
def Em.fwd (m : Em) (g g1 : G) : G := ⟨g1.Z, fun i => match m.inv i with | some j => g1.blk j | none => g.blk i, fun i => match m.inv i with | some j => g1.cap j | none => g.cap i⟩
structure Fwd (m m' : Em) (σ1 σ1' σ σ' : St) : Prop where
  n : m'.n = m.n
  os : m'.os = m.os
  inv : m'.inv = m.inv
  in_ : ∀ j, j < m.n → ∃ ob1 ob, σ1'[j]? = some ob1 ∧ σ'[m.os j]? = some ob ∧ RnO m' j ob1 ob
  out : ∀ i, m.inv i = none → σ'[i]? = σ[i]?
  ep : ∀ j, j < m.n → ∀ w e sz fs, σ1'[j]? = some (.arr w e sz fs) → m.E j < m'.E j ∧ m'.E1 j % 8589934592 = m'.E j % 8589934592
section
variable {m m' : Em} {g g1 : G} {w w' : World} {σ σ1 σ1' σ' : St}
theorem fwd_turn (hp : Part m σ1 σ) (hf : Fwd m m' σ1 σ1' σ σ') (hr : Rep g w σ) (ht : Turn (m.back g) w σ1 g1 w' σ1') : Turn g w σ (m.fwd g g1) w' σ' where
  os := ht.os
  tape := ht.tape
  output := ht.output
  size := ht.size
  whole b hb hn := ht.whole b hb fun o ho => hn o (back_own hp ho)
  zs b o hz := ht.zs b o hz
  znew b o hb hz := (ht.znew b o hb hz).imp id (back_own hp)
  onew b o hb ho := by
    obtain ⟨i, ob, h1, h2, h3⟩ := own_iff.1 ho
    cases hi : m.inv i with
    | some j =>
      obtain ⟨hj, rfl⟩ := hp.ok.os_inv i j hi
      obtain ⟨ob1, ob', a1, a2, a3⟩ := hf.in_ j hj
      rw [h1] at a2; cases a2
      have h2' : g1.blk j = some b := by simpa only [Em.fwd, hi] using h2
      exact back_own hp (ht.onew b o hb (own_iff.2 ⟨j, ob1, a1, h2', (a3.own o).1 h3⟩))
    | none =>
      have h2' : g.blk i = some b := by simpa only [Em.fwd, hi] using h2
      rw [hf.out i hi] at h1
      exact own_iff.2 ⟨i, ob, h1, h2', h3⟩
  turns i ob h := by
    cases hi : m.inv i with
    | some j =>
      obtain ⟨hj, rfl⟩ := hp.ok.os_inv i j hi
      obtain ⟨ob1', ob', a1, a2, a3⟩ := hf.in_ j hj
      obtain ⟨ob1, b1⟩ : ∃ ob1, σ1[j]? = some ob1 := ⟨_, List.getElem?_eq_getElem (hp.len ▸ hj)⟩
      obtain ⟨ob'', b2, b3⟩ := hp.at_ j ob1 b1
      rw [h] at b2; cases b2
      obtain ⟨ob2, c1, c2⟩ := ht.turns j ob1 b1
      rw [a1] at c1; cases c1
      refine ⟨ob', a2, ?_⟩
      cases ob1 with
      | cells l =>
        obtain ⟨l', rfl, _⟩ := b3
        cases ob1' <;> simp only [ObTurn] at c2 <;> simp only [RnO] at a3
        · obtain ⟨l2, rfl, _⟩ := a3; trivial
        · subst a3; trivial
      | arr wr e sz fs =>
        obtain ⟨rfl, rfl⟩ := b3
        cases ob1' <;> simp only [ObTurn] at c2 <;> simp only [RnO] at a3
        · obtain ⟨_, rfl⟩ := a3; exact .inl (hf.ep j hj _ _ _ _ a1).1
        · subst a3; trivial
      | map kv =>
        simp only [RnO] at b3; subst b3
        cases ob1' <;> simp only [ObTurn] at c2 <;> simp only [RnO] at a3
        · subst a3; trivial
        · subst a3; trivial
      | bld T u x =>
        obtain ⟨l', rfl, _⟩ := b3
        cases ob1' <;> simp only [ObTurn] at c2 <;> simp only [RnO] at a3
        · obtain ⟨l2, rfl, _⟩ := a3; exact c2
        · subst a3; trivial
      | gone =>
        simp only [RnO] at b3; subst b3
        cases ob1' <;> simp only [ObTurn] at c2 <;> simp only [RnO] at a3
        subst a3; trivial
    | none =>
      refine ⟨ob, (hf.out i hi).trans h, ?_⟩
      cases ob <;> simp [ObTurn, Em.fwd, hi]
  blks i ob h hrow := by
    cases hi : m.inv i with
    | some j =>
      obtain ⟨hj, rfl⟩ := hp.ok.os_inv i j hi
      obtain ⟨ob1, b1⟩ : ∃ ob1, σ1[j]? = some ob1 := ⟨_, List.getElem?_eq_getElem (hp.len ▸ hj)⟩
      obtain ⟨ob'', b2, b3⟩ := hp.at_ j ob1 b1
      rw [h] at b2; cases b2
      simp only [Em.fwd, hi]
      exact ht.blks j ob1 b1 (b3.row ▸ hrow)
    | none => simp only [Em.fwd, hi]
mutual
theorem fwdC (hp : Part m σ1 σ) (hf : Fwd m m' σ1 σ1' σ σ') : ∀ {c c' : C} {v : Value}, RnC m' c c' → CRep g1 w' σ1' c v → CRep (m.fwd g g1) w' σ' c' v
  | .f x, c', v, h, hv => by simp only [RnC] at h; subst h; exact FRep.turn (g := g1) (g' := m.fwd g g1) (w := w') (w' := w') (fun b o hz => ⟨hz, rfl⟩) _ _ hv
  | .ptr o off, c', v, h, hv => by
    obtain ⟨ho, rfl⟩ := h
    rw [hf.n] at ho
    obtain ⟨b, ob1, h1, rfl, h2, h3⟩ := hv
    obtain ⟨ob1', ob', a1, a2, a3⟩ := hf.in_ o ho
    rw [h2] at a1; cases a1
    exact ⟨b, ob', by simp only [Em.fwd, hf.os, hp.ok.inv_os o ho]; exact h1, rfl, hf.os ▸ a2, a3.row.trans h3⟩
  | .rs o e k, c', v, h, hv => by
    obtain ⟨ho, rfl, rfl⟩ := h
    rw [hf.n] at ho
    obtain ⟨h0, ob1, h1, h2⟩ := hv
    obtain ⟨ob1', ob', a1, a2, a3⟩ := hf.in_ o ho
    rw [h1] at a1; cases a1
    refine ⟨h0, ob', hf.os ▸ a2, ?_⟩
    cases ob1 <;> simp only [RnO] at a3
    · exact h2.elim
    · obtain ⟨rfl, rfl⟩ := a3
      refine ⟨Nat.le_refl _, fun _ => ?_⟩
      have := h2.2 rfl
      simp only [Em.fwd, hf.os, hp.ok.inv_os o ho]
      exact this
    · exact h2.elim
    · exact h2.elim
    · subst a3; trivial
  | .mp o, c', v, h, hv => by
    obtain ⟨ho, rfl⟩ := h
    rw [hf.n] at ho
    obtain ⟨b, ob1, h1, rfl, h2, h3⟩ := hv
    obtain ⟨ob1', ob', a1, a2, a3⟩ := hf.in_ o ho
    rw [h2] at a1; cases a1
    exact ⟨b, ob', by simp only [Em.fwd, hf.os, hp.ok.inv_os o ho]; exact h1, rfl, hf.os ▸ a2, a3.row.trans h3⟩
  | .clo f caps, c', v, h, hv => by
    obtain ⟨l, rfl, h1⟩ := h
    obtain ⟨vs, rfl, h2⟩ := hv
    exact ⟨vs, rfl, fwdCs hp hf h1 h2⟩
  | .un, c', v, h, hv => by simp only [RnC] at h; subst h; trivial
  | .pa .., c', v, h, hv => h.elim
  | .ep cs off, c', v, h, hv => by
    simp only [RnC] at h; subst h
    obtain ⟨b, o, rfl, h1⟩ := hv
    exact ⟨b, o, rfl, FRow.turn (g := g1) (g' := m.fwd g g1) (w := w') (w' := w') (fun b o hz => ⟨hz, rfl⟩) _ _ _ h1⟩
theorem fwdCs (hp : Part m σ1 σ) (hf : Fwd m m' σ1 σ1' σ σ') : ∀ {c c' : List C} {v : List Value}, RnCs m' c c' → CReps g1 w' σ1' c v → CReps (m.fwd g g1) w' σ' c' v
  | [], c', v, h, hv => by simp only [RnCs] at h; subst h; exact hv
  | c :: r, c', v, h, hv => by
    obtain ⟨x, y, rfl, h1, h2⟩ := h
    obtain ⟨u, ur, rfl, h3, h4⟩ := hv
    exact ⟨u, ur, rfl, fwdC hp hf h1 h3, fwdCs hp hf h2 h4⟩
end
mutual
theorem fwdV (hp : Part m σ1 σ) (hf : Fwd m m' σ1 σ1' σ σ') : ∀ {c c' : V} {v : Value}, RnV m' c c' → VRep g1 w' σ1' c v → VRep (m.fwd g g1) w' σ' c' v
  | .c x, c', v, h, hv => by obtain ⟨y, rfl, h1⟩ := h; exact fwdC hp hf h1 hv
  | .a l, c', v, h, hv => by obtain ⟨l', rfl, h1⟩ := h; obtain ⟨vs, rfl, h2⟩ := hv; exact ⟨vs, rfl, fwdCs hp hf h1 h2⟩
  | .t l, c', v, h, hv => by obtain ⟨l', rfl, h1⟩ := h; obtain ⟨vs, rfl, h2⟩ := hv; exact ⟨vs, rfl, fwdVs hp hf h1 h2⟩
theorem fwdVs (hp : Part m σ1 σ) (hf : Fwd m m' σ1 σ1' σ σ') : ∀ {c c' : List V} {v : List Value}, RnVs m' c c' → VReps g1 w' σ1' c v → VReps (m.fwd g g1) w' σ' c' v
  | [], c', v, h, hv => by simp only [RnVs] at h; subst h; exact hv
  | c :: r, c', v, h, hv => by
    obtain ⟨x, y, rfl, h1, h2⟩ := h
    obtain ⟨u, ur, rfl, h3, h4⟩ := hv
    exact ⟨u, ur, rfl, fwdV hp hf h1 h3, fwdVs hp hf h2 h4⟩
end
theorem fwd_rep (hp : Part m σ1 σ) (hf : Fwd m m' σ1 σ1' σ σ') (hr : Rep g w σ) (hr1 : Rep g1 w' σ1') (ht : Turn (m.back g) w σ1 g1 w' σ1') : Rep (m.fwd g g1) w' σ' := by
  have hT := fwd_turn (g := g) (g1 := g1) (w := w) (w' := w') hp hf hr ht
  -- a block of an object outside of the part is none of the part's
  have far : ∀ i ob b, m.inv i = none → σ[i]? = some ob → live ob = true → g.blk i = some b → b < w.heap.size ∧ ∀ o, ¬ Own (m.back g) σ1 b o := by
    intro i ob b hi h1 hl hb
    refine ⟨(hr.ob i ob h1).inside hl hb, fun o ho => ?_⟩
    obtain ⟨j, ob1, a1, a2, a3⟩ := own_iff.1 ho
    obtain ⟨ob', b1, b2⟩ := hp.at_ j ob1 a1
    have hl' : live ob' = true := by
      rw [b2.live]
      cases ob1 <;> first | rfl | (simp [ownAt] at a3)
    have := hr.inj i (m.os j) ob ob' b h1 b1 hl hl' hb a2
    have lj : j < m.n := hp.len ▸ lt_of_get a1
    rw [this, hp.ok.inv_os j lj] at hi
    cases hi
  refine ⟨?_, ?_, ?_, ?_⟩
  · intro i ob h
    cases hi : m.inv i with
    | some j =>
      obtain ⟨hj, rfl⟩ := hp.ok.os_inv i j hi
      obtain ⟨ob1, ob', a1, a2, a3⟩ := hf.in_ j hj
      rw [h] at a2; cases a2
      have h0 := hr1.ob j ob1 a1
      have hb : (m.fwd g g1).blk (m.os j) = g1.blk j := by simp only [Em.fwd, hi]
      have hc : (m.fwd g g1).cap (m.os j) = g1.cap j := by simp only [Em.fwd, hi]
      cases ob1 with
      | cells l =>
        obtain ⟨l', rfl, h3⟩ := a3
        obtain ⟨b, vs, T, fz, b1, b2, b3, b4⟩ := h0
        exact ⟨b, vs, T, fz, hb.trans b1, b2, b3, fwdCs hp hf h3 b4⟩
      | arr wr e sz fs =>
        obtain ⟨rfl, rfl⟩ := a3
        have hz := FRep.turn (g := g1) (g' := m.fwd g g1) (w := w') (w' := w') (fun b o hz => ⟨hz, rfl⟩)
        rcases h0 with ⟨b1, b2, b3⟩ | ⟨b, vs, T, fz, rest, b1, b2, b3, b4, b5, ⟨pre, b6, b7, b8⟩, b9, b10⟩
        · exact .inl ⟨hb.trans b1, b2, hc.trans b3⟩
        · exact .inr ⟨b, vs, T, fz, rest, hb.trans b1, b2, b3.mono (hf.ep j hj _ _ _ _ a1).2.symm (fun _ => Nat.le_refl _), by rw [hc]; exact b4, by rw [hc]; exact b5, ⟨pre, b6, b7, fun j x y => hz _ _ (b8 j x y)⟩, b9, b10.1.trans (par_mod (hf.ep j hj _ _ _ _ a1).2.symm), fun h => by rw [hc]; exact b10.2 (par_odd (hf.ep j hj _ _ _ _ a1).2.symm h)⟩
      | map kv =>
        simp only [RnO] at a3; subst a3
        obtain ⟨b, es, clock, b1, b2, b3⟩ := h0
        exact ⟨b, es, clock, hb.trans b1, b2, KVRep.turn (g := g1) (g' := m.fwd g g1) (w := w') (w' := w') (fun b o hz => ⟨hz, rfl⟩) b3⟩
      | bld T u x =>
        obtain ⟨x', rfl, h3⟩ := a3
        obtain ⟨b, v, b1, b2, b3⟩ := h0
        exact ⟨b, v, hb.trans b1, b2, fwdC hp hf h3 b3⟩
      | gone => simp only [RnO] at a3; subst a3; trivial
    | none =>
      rw [hf.out i hi] at h
      by_cases hl : live ob = true
      · refine (hr.ob i ob h).keep hT (fun b hb => ?_) (by simp only [Em.fwd, hi]) (by simp only [Em.fwd, hi])
        obtain ⟨f1, f2⟩ := far i ob b hi h hl hb
        exact ht.whole b f1 f2
      · cases ob <;> simp_all [live, ObRep]
  · intro i j a b k hi hj la lb hbi hbj
    have get : ∀ {i : Nat} {a : Ob}, σ'[i]? = some a → live a = true → (m.fwd g g1).blk i = some k → (∃ j ob1, m.os j = i ∧ m.inv i = some j ∧ σ1'[j]? = some ob1 ∧ live ob1 = true ∧ g1.blk j = some k) ∨ (m.inv i = none ∧ σ[i]? = some a ∧ g.blk i = some k) := by
      intro i a h l hb
      cases hi : m.inv i with
      | some j =>
        obtain ⟨hj, rfl⟩ := hp.ok.os_inv i j hi
        obtain ⟨ob1, ob', a1, a2, a3⟩ := hf.in_ j hj
        rw [h] at a2; cases a2
        exact .inl ⟨j, ob1, rfl, rfl, a1, a3.live ▸ l, by simpa only [Em.fwd, hi] using hb⟩
      | none => exact .inr ⟨rfl, hf.out i hi ▸ h, by simpa only [Em.fwd, hi] using hb⟩
    have cross : ∀ {i j : Nat} {ob1 a : Ob}, σ1'[j]? = some ob1 → live ob1 = true → g1.blk j = some k → m.inv i = none → σ[i]? = some a → live a = true → g.blk i = some k → False := by
      intro i j ob1 a h1 h2 h3 h4 h5 h6 h7
      obtain ⟨f1, f2⟩ := far i a k h4 h5 h6 h7
      obtain ⟨o, ho⟩ := ownAt_far h2
      exact f2 o (ht.onew k o f1 (own_iff.2 ⟨j, ob1, h1, h3, ho⟩))
    rcases get hi la hbi with ⟨i', oi, rfl, _, a1, a2, a3⟩ | ⟨a1, a2, a3⟩ <;> rcases get hj lb hbj with ⟨j', oj, rfl, _, b1, b2, b3⟩ | ⟨b1, b2, b3⟩
    · rw [hr1.inj i' j' oi oj k a1 b1 a2 b2 a3 b3]
    · exact (cross a1 a2 a3 b1 b2 lb b3).elim
    · exact (cross b1 b2 b3 a1 a2 la a3).elim
    · exact hr.inj i j a b k a2 b2 la lb a3 b3
  · intro b o hz ho
    have hz' : g1.Z b o := hz
    obtain ⟨i, ob, h1, h2, h3⟩ := own_iff.1 ho
    cases hi : m.inv i with
    | some j =>
      obtain ⟨hj, rfl⟩ := hp.ok.os_inv i j hi
      obtain ⟨ob1, ob', a1, a2, a3⟩ := hf.in_ j hj
      rw [h1] at a2; cases a2
      have h2' : g1.blk j = some b := by simpa only [Em.fwd, hi] using h2
      exact hr1.apart b o hz' (own_iff.2 ⟨j, ob1, a1, h2', (a3.own o).1 h3⟩)
    | none =>
      have h2' : g.blk i = some b := by simpa only [Em.fwd, hi] using h2
      rw [hf.out i hi] at h1
      have hl : live ob = true := by cases ob <;> first | rfl | (simp [ownAt] at h3)
      obtain ⟨f1, f2⟩ := far i ob b hi h1 hl h2'
      rcases ht.znew b o f1 hz' with h | h
      · exact hr.apart b o h (own_iff.2 ⟨i, ob, h1, h2', h3⟩)
      · exact f2 o h
  · exact fun b o hz => hr1.inside b o hz
end
theorem call_part {P : Program} {f : FuncId} {m : Em} {σ1 σ : St} {args1 args : List V} (hp : Part m σ1 σ) (hE : ∀ j w e sz fs, σ1[j]? = some (.arr w e sz fs) → m.E1 j % 8589934592 = m.E j % 8589934592)
    (ha : RnVs m args1 args) {k1 k : V → St → Prop} (h : CallAt P f args1 σ1 k1)
    (hk : ∀ r1 σ1', k1 r1 σ1' → ∃ m' σ' r, Fwd m m' σ1 σ1' σ σ' ∧ RnV m' r1 r ∧ k r σ') : CallAt P f args σ k := by
  intro g w vs hr hv
  have hend : ∀ v w', CallEnd (m.back g) w σ1 k1 v w' → CallEnd g w σ k v w' := by
    rintro v w' ⟨r1, σ1', g1, h1, h2, h3, h4⟩
    obtain ⟨m', σ', r, hf, hr1, hk⟩ := hk r1 σ1' h1
    exact ⟨r, σ', m.fwd g g1, hk, fwd_rep hp hf hr h2 h3, fwd_turn hp hf hr h3, fwdV hp hf hr1 h4⟩
  rcases h (m.back g) w vs (back_rep hp hE hr) (backVs hp ha hv) with ⟨v, w', h1, h2⟩ | ⟨h1, h2⟩
  · exact .inl ⟨v, w', h1, hend v w' h2⟩
  · exact .inr ⟨h1, h2.mono fun e w' ⟨v, h3, h4⟩ => ⟨v, h3, hend v w' h4⟩⟩
end Go.Dm
namespace Go.Dm.Sx
open Go.Dm
set_option linter.unusedVariables false
set_option linter.unusedSimpArgs false
def osCaps : List (Nat × Nat) → List SC → List (Option Nat) → List (Option Nat)
  | (o, _) :: r, .ptr p _ :: l, os => osCaps r l (put os o (.some p))
  | _ :: r, _ :: l, os => osCaps r l os
  | _, _, os => os
def osArgs : List In → List SV → List (Option Nat) → List (Option Nat)
  | .ptr o _ :: r, .c (.ptr p _) :: vs, os => osArgs r vs (put os o (.some p))
  | .cloP _ l :: r, .c (.clo _ cs) :: vs, os => osArgs r vs (osCaps l cs os)
  | .st _ _ :: r, vs, os => osArgs r vs os
  | _ :: r, _ :: vs, os => osArgs r vs os
  | _, _, os => os
def osCells : List IC → List SC → List (Option Nat) → List (Option Nat)
  | .row o _ :: r, .rs p _ :: l, os => osCells r l (put os o (.some p))
  | .ptr o _ :: r, .ptr p _ :: l, os => osCells r l (put os o (.some p))
  | _ :: r, _ :: l, os => osCells r l os
  | _, _, os => os
def osFind (S : SSt) : List IO → Nat → List (Option Nat) → List (Option Nat)
  | [], _, os => os
  | .cells l :: r, o, os =>
    (match nth os o with
    | .some (.some p) => (match nth S p with | .some (.cells cs) => osFind S r (o + 1) (osCells l cs os) | _ => osFind S r (o + 1) os)
    | _ => osFind S r (o + 1) os)
  | .row .. :: r, o, os => osFind S r (o + 1) os
def osAll : List (Option Nat) → Option (List Nat)
  | [] => .some []
  | .some p :: r => (match osAll r with | .some l => .some (p :: l) | .none => .none)
  | .none :: _ => .none
def notIn (p : Nat) : List Nat → Bool
  | [] => true
  | q :: r => (match Nat.beq p q with | true => false | false => notIn p r)
def nodupB : List Nat → Bool
  | [] => true
  | p :: r => (match notIn p r with | true => nodupB r | false => false)
inductive Loc where
  | cell (o i : Nat)
  | row (o : Nat)
def Loc.eqb : Loc → Loc → Bool
  | .cell o i, .cell o' i' => (match Nat.beq o o' with | true => Nat.beq i i' | false => false)
  | .row o, .row o' => Nat.beq o o'
  | _, _ => false
theorem Loc.eqb_ok {a b : Loc} (h : Loc.eqb a b = true) : a = b := by
  cases a <;> cases b <;> simp only [Loc.eqb, Bool.false_eq_true] at h
  · split at h
    · rename_i h1; rw [beq_nat h1, beq_nat h]
    · cases h
  · rw [beq_nat h]
def locC (j o : Nat) : List IC → Nat → Option Loc
  | [], _ => .none
  | .d j' :: r, i => (match Nat.beq j j' with | true => .some (.cell o i) | false => locC j o r (i + 1))
  | _ :: r, i => locC j o r (i + 1)
def locOf (j : Nat) : List IO → Nat → Option Loc
  | [], _ => .none
  | .cells l :: r, o => (match locC j o l 0 with | .some q => .some q | .none => locOf j r (o + 1))
  | .row _ _ _ _ j' :: r, o => (match Nat.beq j j' with | true => .some (.row o) | false => locOf j r (o + 1))
def isLoc (obs : List IO) (j : Nat) (q : Loc) : Bool := match locOf j obs 0 with | .some q' => Loc.eqb q' q | .none => false
def isLstT (lb : List Ty) (j : Nat) (t : Ty) : Bool := match nth lb j with | .some t' => Ty.eqb t' (.list t) | .none => false
def fldAt (S : SSt) (os : List Nat) : Loc → Option SC
  | .cell o i =>
    (match nth os o with
    | .some p => (match nth S p with | .some (.cells l) => (match nth l i with | .some x => (match keepC x with | true => .some x | false => .none) | .none => .none) | _ => .none)
    | .none => .none)
  | .row o => (match nth os o with | .some p => (match nth S p with | .some (.arr _ _ _ _ t x) => .some (.d (.list t) x) | _ => .none) | .none => .none)
def fldsAt (S : SSt) (os : List Nat) (obs : List IO) : Nat → Nat → Option (List SC)
  | _, 0 => .some []
  | j, n + 1 =>
    (match locOf j obs 0 with
    | .some q => (match fldAt S os q with | .some x => (match fldsAt S os obs (j + 1) n with | .some l => .some (x :: l) | .none => .none) | .none => .none)
    | .none => .none)
def isRow (obs : List IO) (o j : Nat) : Bool := match nth obs o with | .some (.row _ _ _ _ j') => Nat.beq j' j | _ => false
def atOs (os : List Nat) (o p : Nat) : Bool := match nth os o with | .some q => Nat.beq q p | .none => false
def chkC (lb : List Ty) (obs : List IO) (os : List Nat) (S : SSt) (o : Nat) : List IC → List SC → Nat → Bool
  | [], [], _ => true
  | .d j :: r, x :: l, i => (match isLoc obs j (.cell o i), keepC x, Nat.blt j lb.length with | true, true, true => chkC lb obs os S o r l (i + 1) | _, _, _ => false)
  | .row o' j :: r, .rs p k :: l, i => (match atOs os o' p, freshS S p k, isRow obs o' j with | true, true, true => chkC lb obs os S o r l (i + 1) | _, _, _ => false)
  | .ptr o' off :: r, .ptr p off' :: l, i => (match atOs os o' p, Nat.beq off off' with | true, true => chkC lb obs os S o r l (i + 1) | _, _ => false)
  | _, _, _ => false
def sameB (a b : Bool) : Bool := match a, b with | true, true => true | false, false => true | _, _ => false
def chkO (lb : List Ty) (obs : List IO) (os : List Nat) (S : SSt) (o : Nat) (io : IO) : Bool :=
  match nth os o with
  | .none => false
  | .some p =>
    match io with
    | .cells l => (match nth S p with | .some (.cells l') => chkC lb obs os S o l l' 0 | _ => false)
    | .row w ty sz t j =>
      (match nth S p with
      | .some (.arr w' k ty' sz' t' x) => (match sameB w w', nbeq ty ty', Nat.beq sz sz', Ty.eqb t t', isLoc obs j (.row o), isLstT lb j t with | true, true, true, true, true, true => true | _, _, _, _, _, _ => false)
      | _ => false)
def chkOs (lb : List Ty) (obs : List IO) (os : List Nat) (S : SSt) : List IO → Nat → Bool
  | [], _ => true
  | io :: r, o => (match chkO lb obs os S o io with | true => chkOs lb obs os S r (o + 1) | false => false)
def newC (lay : Nat → List Ty) (e : SE) (i0 : Nat) (os : List Nat) (S : SSt) : IC → SC
  | .d j => cellOf lay e i0 j
  | .row o _ => (match nth os o with | .some p => (match nth S p with | .some (.arr _ k _ _ _ _) => .rs p (k + 1) | _ => .un) | .none => .un)
  | .ptr o off => (match nth os o with | .some p => .ptr p off | .none => .un)
  | .mp _ => .un
def newO (lay : Nat → List Ty) (e : SE) (i0 : Nat) (os : List Nat) (S : SSt) (p : Nat) : IO → SOb
  | .cells l => .cells (l.map (newC lay e i0 os S))
  | .row w ty sz t j => (match nth S p with | .some (.arr _ k _ _ _ _) => .arr w (k + 1) ty sz t (.fld i0 j) | _ => .any)
def newS (lay : Nat → List Ty) (e : SE) (i0 : Nat) (os : List Nat) (S0 : SSt) : List IO → Nat → SSt → SSt
  | [], _, S => S
  | io :: r, o, S => newS lay e i0 os S0 r (o + 1) (match nth os o with | .some p => put S p (newO lay e i0 os S0 p io) | .none => S)
def ownO : List (Nat × Nat × Nat × Nat × Ty) → (Nat → List Ty) → SSt → Option SSt
  | [], _, S => .some S
  | (o, j, ty, sz, t) :: r, lay, S =>
    match nth S o with
    | .some (.cells l) =>
      (match nth l j with
      | .some .nil => (match Nat.beq sz (wid lay t), okT ty with | true, true => ownO r lay (put (S ++ [.arr true 0 ty sz t (.nil t)]) o (.cells (put l j (.rs S.length 0)))) | _, _ => .none)
      | _ => ownO r lay S)
    | _ => ownO r lay S
def nilsOf (obs : List IO) (p : Nat) : List IC → List SC → Nat → List (Nat × Nat × Nat × Nat × Ty)
  | .row o _ :: r, .nil :: l, i => (match nth obs o with | .some (.row _ ty sz t _) => (p, i, ty, sz, t) :: nilsOf obs p r l (i + 1) | _ => nilsOf obs p r l (i + 1))
  | _ :: r, _ :: l, i => nilsOf obs p r l (i + 1)
  | _, _, _ => []
def nilAll (obs : List IO) (S : SSt) (os : List (Option Nat)) : List IO → Nat → List (Nat × Nat × Nat × Nat × Ty)
  | [], _ => []
  | .cells l :: r, o =>
    (match nth os o with
    | .some (.some p) => (match nth S p with | .some (.cells cs) => nilsOf obs p l cs 0 ++ nilAll obs S os r (o + 1) | _ => nilAll obs S os r (o + 1))
    | _ => nilAll obs S os r (o + 1))
  | .row .. :: r, o => nilAll obs S os r (o + 1)
def chkCaps (os : List Nat) : List (Nat × Nat) → List SC → Bool
  | [], [] => true
  | (o, off) :: r, .ptr p i :: l => (match atOs os o p, Nat.beq off i with | true, true => chkCaps os r l | _, _ => false)
  | _, _ => false
def splitA (os : List Nat) : List In → List SV → Option (List In × List SV)
  | [], [] => .some ([], [])
  | .ptr o off :: r, .c (.ptr p i) :: vs => (match atOs os o p, Nat.beq off i with | true, true => splitA os r vs | _, _ => .none)
  | .ptr _ _ :: _, _ => .none
  | .cloP f l :: r, .c (.clo g cs) :: vs => (match Nat.beq f g, chkCaps os l cs with | true, true => splitA os r vs | _, _ => .none)
  | .cloP _ _ :: _, _ => .none
  | .st _ _ :: _, _ => .none
  | x :: r, v :: vs => (match splitA os r vs with | .some (l, m) => .some (x :: l, v :: m) | .none => .none)
  | _, _ => .none
def callSt0 (lay : Nat → List Ty) (sg : Sig) (b : Nat) (obs : List IO) (i : Nat) (args : List SV) (e : SE) (S : SSt) (k : K1) : Tr :=
  match osAll (osFind S obs 0 (osArgs sg.ins args (List.replicate obs.length .none))) with
  | .none => .fail
  | .some os =>
    match sg.outs with
    | [] => .fail
    | t0 :: outs =>
    match Nat.beq os.length obs.length, nodupB os, chkOs (lay b) obs os S obs 0, Ty.eqb t0 (.base b) with
    | true, true, true, true =>
      (match fldsAt S os obs 0 (lay b).length, splitA os (sg.ins.drop 1) args with
      | .some fl, .some (ins', args') =>
        (match args'.all dataV with
        | true => dataK lay e (.base b) fl fun e y => argsK lay S ins' args' e fun e l =>
            .call i (y :: l) (k (e.pushes sg.outs) (oneOf (resVs lay (e.pushes sg.outs) (e.n + 1) outs)) (newS lay (e.pushes sg.outs) e.n os S obs 0 S))
        | false => .fail)
      | _, _ => .fail)
    | _, _, _, _ => .fail
def callSt (lay : Nat → List Ty) (sg : Sig) (b : Nat) (obs : List IO) (i : Nat) (args : List SV) (e : SE) (S : SSt) (k : K1) : Tr :=
  match ownO (nilAll obs S (osFind S obs 0 (osArgs sg.ins args (List.replicate obs.length .none))) obs 0) lay S with
  | .some S' => callSt0 lay sg b obs i args e S' k
  | .none => .fail
variable {U : Uni} {c c' c'' : Cx U} {e : SE} {Sp : List (FSpec U)} {Post : List (Dyn U.B) → Prop} {Go : Nat → List (Dyn U.B) → Prop} {P : Program}
theorem list_of' {α : Type} {Q : Nat → α → Prop} : ∀ (n s : Nat), (∀ o, o < n → ∃ a, Q (s + o) a) → ∃ l : List α, l.length = n ∧ ∀ o a, l[o]? = some a → Q (s + o) a
  | 0, s, _ => ⟨[], rfl, fun o a h => by simp at h⟩
  | n + 1, s, h => by
    obtain ⟨a, ha⟩ := h 0 (by omega)
    obtain ⟨l, h1, h2⟩ := list_of' n (s + 1) fun o ho => by
      have := h (o + 1) (by omega)
      rwa [show s + (o + 1) = s + 1 + o from by omega] at this
    refine ⟨a :: l, by simp [h1], fun o b hb => ?_⟩
    cases o with
    | zero => simp at hb; subst hb; exact ha
    | succ o =>
      have := h2 o b (by simpa using hb)
      rwa [show s + 1 + o = s + (o + 1) from by omega] at this
theorem list_of {α : Type} {Q : Nat → α → Prop} (n : Nat) (h : ∀ o, o < n → ∃ a, Q o a) : ∃ l : List α, l.length = n ∧ ∀ (o : Nat) a, l[o]? = some a → Q o a := by
  obtain ⟨l, h1, h2⟩ := list_of' (Q := Q) n 0 fun o ho => by rw [Nat.zero_add]; exact h o ho
  exact ⟨l, h1, fun o a ha => by have := h2 o a ha; rwa [Nat.zero_add] at this⟩
theorem notIn_ok {p : Nat} : ∀ {l : List Nat}, notIn p l = true → p ∉ l
  | [], _ => by simp
  | q :: r, h => by
    simp only [notIn] at h
    split at h
    · cases h
    · rename_i hb
      have : p ≠ q := fun e => by subst e; rw [Nat.beq_refl] at hb; cases hb
      simp [this, notIn_ok h]
theorem nodup_ok : ∀ {l : List Nat}, nodupB l = true → l.Nodup
  | [], _ => List.nodup_nil
  | q :: r, h => by
    simp only [nodupB] at h
    split at h
    · rename_i hb; exact List.nodup_cons.2 ⟨notIn_ok hb, nodup_ok h⟩
    · cases h
def emOf (os : List Nat) (E1 E : Nat → Nat) : Em := ⟨os.length, fun j => os.getD j 0, fun i => if i ∈ os then some (os.idxOf i) else none, E1, E⟩
theorem emOf_ok {os : List Nat} (h : os.Nodup) (E1 E : Nat → Nat) : (emOf os E1 E).Ok where
  inv_os j hj := by
    have hj : j < os.length := hj
    have e : os.getD j 0 = os[j] := by rw [List.getD_eq_getElem?_getD, List.getElem?_eq_getElem hj]; rfl
    show (if os.getD j 0 ∈ os then some (os.idxOf (os.getD j 0)) else none) = some j
    rw [e, if_pos (List.getElem_mem hj)]
    congr 1
    exact h.idxOf_getElem j hj
  os_inv i j hi := by
    have hi : (if i ∈ os then some (os.idxOf i) else none) = some j := hi
    split at hi
    · rename_i hm
      cases hi
      have hl := List.idxOf_lt_length_of_mem hm
      refine ⟨hl, ?_⟩
      show os.getD (os.idxOf i) 0 = i
      rw [List.getD_eq_getElem?_getD, List.getElem?_eq_getElem hl]
      exact List.getElem_idxOf hl
    · cases hi
theorem chkOs_ok {lb : List Ty} {obs : List IO} {os : List Nat} {S : SSt} : ∀ {l : List IO} {s : Nat}, chkOs lb obs os S l s = true → ∀ (o : Nat) io, l[o]? = some io → chkO lb obs os S (s + o) io = true
  | [], s, h, o, io, ho => by simp at ho
  | x :: r, s, h, o, io, ho => by
    simp only [chkOs] at h
    split at h
    · rename_i hc
      cases o with
      | zero => simp at ho; subst ho; exact hc
      | succ o =>
        have := chkOs_ok h o io (by simpa using ho)
        rwa [show s + 1 + o = s + (o + 1) from by omega] at this
    · cases h
theorem getD_nth {os : List Nat} {o p : Nat} (h : nth os o = some p) : os.getD o 0 = p := by
  rw [nth_eq] at h; rw [List.getD_eq_getElem?_getD, h]; rfl
def AtLoc (c : Cx U) (os : List Nat) : Loc → F → Prop
  | .cell o i, f => ∃ p l, nth os o = some p ∧ c.σ[p]? = some (.cells l) ∧ l[i]? = some (.f f)
  | .row o, f => ∃ p w k ty sz t x, ∃ ys : List (T U.B t), ∃ fs, nth os o = some p ∧ nth c.S p = some (.arr w k ty sz t x) ∧ c.σ[p]? = some (.arr w (c.β p + k * 8589934592) sz fs) ∧ c.ι p = some (k, ys.length) ∧ f = .sl ys.length fs
theorem fldAt_ok (ok : Ok c e) {os : List Nat} {q : Loc} {x : SC} (h : fldAt c.S os q = some x) : ∃ f, c.cr x (.f f) ∧ AtLoc c os q f := by
  cases q with
  | cell o i =>
    simp only [fldAt] at h
    split at h
    · rename_i p hp
      split at h
      · rename_i l hl
        split at h
        · rename_i y hy
          split at h
          · rename_i hk
            cases h
            obtain ⟨ob, h1, l', rfl, h2⟩ := ok.get hl
            rw [nth_eq] at hy
            obtain ⟨z, h3, h4⟩ := h2.get hy
            obtain ⟨f, rfl⟩ := keep_f hk h4
            exact ⟨f, h4, p, l', hp, h1, h3⟩
          · cases h
        · cases h
      · cases h
    · cases h
  | row o =>
    simp only [fldAt] at h
    split at h
    · rename_i p hp
      split at h
      · rename_i w k ty sz t a hl
        cases h
        obtain ⟨ys, gs, q1, q2, q3, q4, q5, q6⟩ := arr_at ok hl
        refine ⟨.sl ys.length gs, ?_, p, w, k, ty, sz, t, a, ys, gs, hp, hl, q2, q6, rfl⟩
        simp only [Cx.cr, CR]
        exact ⟨_, ⟨.list t, ys⟩, rfl, q1, rfl, by simp only [FD]; exact ⟨t, ys, rfl, rfl, q5⟩⟩
      · cases h
    · cases h
theorem fldsAt_ok (ok : Ok c e) {os : List Nat} {obs : List IO} : ∀ (n j : Nat) {fl : List SC}, fldsAt c.S os obs j n = some fl → ∃ gs : List F, c.crs fl (gs.map Dm.C.f) ∧ gs.length = n ∧ ∀ (m : Nat) g, gs[m]? = some g → ∃ q, locOf (j + m) obs 0 = some q ∧ AtLoc c os q g
  | 0, j, fl, h => by
    simp only [fldsAt, Option.some.injEq] at h
    subst h
    exact ⟨[], by simp only [Cx.crs, CRs, List.map_nil], rfl, fun m g hm => by simp at hm⟩
  | n + 1, j, fl, h => by
    simp only [fldsAt] at h
    split at h
    · rename_i q hq
      split at h
      · rename_i x hx
        split at h
        · rename_i l hl
          cases h
          obtain ⟨f, f1, f2⟩ := fldAt_ok ok hx
          obtain ⟨gs, g1, g2, g3⟩ := fldsAt_ok ok n (j + 1) hl
          refine ⟨f :: gs, by simp only [Cx.crs, CRs, List.map_cons]; exact ⟨_, _, rfl, f1, g1⟩, by simp [g2], fun m g hm => ?_⟩
          cases m with
          | zero => simp at hm; subst hm; exact ⟨q, hq, f2⟩
          | succ m =>
            obtain ⟨q', q1, q2⟩ := g3 m g (by simpa using hm)
            exact ⟨q', by rwa [show j + 1 + m = j + (m + 1) from by omega] at q1, q2⟩
        · cases h
      · cases h
    · cases h
theorem isLoc_ok {obs : List IO} {j : Nat} {q : Loc} (h : isLoc obs j q = true) : locOf j obs 0 = some q := by
  unfold isLoc at h
  split at h
  · rename_i q' hq; rw [hq, Loc.eqb_ok h]
  · cases h
def FldOk (c : Cx U) (os : List Nat) (obs : List IO) (lb : List Ty) (d : Dyn U.B) : Prop :=
  ∀ (j : Nat) q, locOf j obs 0 = some q → j < lb.length → ∃ d' f, (cells U d)[j]? = some d' ∧ AtLoc c os q f ∧ FD U f d' ∧ lb[j]? = some d'.t
def epOf (c : Cx U) (os : List Nat) (o : Nat) : Nat := match nth os o with | some p => (match nth c.S p with | some (.arr _ k _ _ _ _) => c.β p + k * 8589934592 | _ => 0) | none => 0
theorem epOf_at {os : List Nat} {o p : Nat} (hp : nth os o = some p) {w : Bool} {k ty sz : Nat} {t : Ty} {x : Tm} (h : nth c.S p = some (.arr w k ty sz t x)) : epOf c os o = c.β p + k * 8589934592 := by
  unfold epOf; rw [hp]; simp only [h]
theorem atOs_nth {os : List Nat} {o p : Nat} (h : atOs os o p = true) : nth os o = some p := by
  unfold atOs at h
  split at h
  · rename_i q hq; rw [hq, beq_nat h]
  · cases h
theorem nth_lt {os : List Nat} {o p : Nat} (h : nth os o = some p) : o < os.length := by
  rw [nth_eq] at h; exact (List.getElem?_eq_some_iff.1 h).1
theorem isRow_ok {obs : List IO} {o j : Nat} (h : isRow obs o j = true) : ∃ w ty sz t, obs[o]? = some (.row w ty sz t j) := by
  unfold isRow at h
  split at h
  · rename_i w ty sz t j' ho; rw [nth_eq] at ho; rw [beq_nat h] at ho; exact ⟨w, ty, sz, t, ho⟩
  · cases h
theorem sameB_ok {a b : Bool} (h : sameB a b = true) : a = b := by
  cases a <;> cases b <;> first | rfl | (cases h)
theorem chk_row {lb : List Ty} {obs : List IO} {os : List Nat} {S : SSt} {o : Nat} {w : Bool} {ty sz : Nat} {t : Ty} {j : Nat} (h : chkO lb obs os S o (.row w ty sz t j) = true) :
    ∃ p k x, nth os o = some p ∧ nth S p = some (.arr w k ty sz t x) ∧ locOf j obs 0 = some (.row o) ∧ lb[j]? = some (.list t) := by
  unfold chkO at h
  split at h
  · cases h
  · rename_i p hp
    simp only at h
    split at h
    · rename_i w' k ty' sz' t' x hS
      split at h
      · rename_i e1 e2 e3 e4 e5 e6
        have := sameB_ok e1; subst this
        have := nbeq_ok e2; subst this
        have := beq_nat e3; subst this
        have := Ty.eqb_ok e4; subst this
        refine ⟨p, k, x, hp, hS, isLoc_ok e5, ?_⟩
        unfold isLstT at e6
        split at e6
        · rename_i t' ht; rw [nth_eq] at ht; rw [ht, Ty.eqb_ok e6]
        · cases e6
      · cases h
    · cases h
theorem chk_cells {lb : List Ty} {obs : List IO} {os : List Nat} {S : SSt} {o : Nat} {l : List IC} (h : chkO lb obs os S o (.cells l) = true) : ∃ p l', nth os o = some p ∧ nth S p = some (.cells l') ∧ chkC lb obs os S o l l' 0 = true := by
  unfold chkO at h
  split at h
  · cases h
  · rename_i p hp
    simp only at h
    split at h
    · rename_i l' hS; exact ⟨p, l', hp, hS, h⟩
    · cases h
section
variable {os : List Nat} {obs : List IO} {lb : List Ty} {d : Dyn U.B}
theorem canon_cells (ok : Ok c e) (hf : FldOk c os obs lb d) (hall : ∀ (o : Nat) io, obs[o]? = some io → chkO lb obs os c.S o io = true) {o p : Nat} {full : List Dm.C} (hp : nth os o = some p) (hσ : c.σ[p]? = some (.cells full)) :
    ∀ {lc : List IC} {l : List SC} {i : Nat} {l' : List Dm.C}, chkC lb obs os c.S o lc l i = true → c.crs l l' → (∀ (m : Nat) y, l'[m]? = some y → full[i + m]? = some y) → ∃ l1, RnCs (emOf os (epOf c os) (epOf c os)) l1 l' ∧ ICRs U (epOf c os) d lc l1
  | [], [], i, l', h, hx, hfull => by simp only [Cx.crs, CRs] at hx; subst hx; exact ⟨[], rfl, rfl⟩
  | [], x :: l, i, l', h, hx, hfull => by cases h
  | .d j :: r, [], i, l', h, hx, hfull => by cases h
  | .row _ _ :: r, [], i, l', h, hx, hfull => by cases h
  | .ptr _ _ :: r, [], i, l', h, hx, hfull => by cases h
  | .mp _ :: r, [], i, l', h, hx, hfull => by cases h
  | .mp _ :: r, x :: l, i, l', h, hx, hfull => by cases h
  | .d j :: r, x :: l, i, l', h, hx, hfull => by
    simp only [Cx.crs, CRs] at hx
    obtain ⟨y, l'', rfl, h1, h2⟩ := hx
    simp only [chkC] at h
    split at h
    · rename_i e1 e2 e3
      obtain ⟨f, rfl⟩ := keep_f e2 h1
      obtain ⟨l1, r1, r2⟩ := canon_cells ok hf hall hp hσ h h2 fun m y hm => by
        have := hfull (m + 1) y (by simpa using hm)
        rwa [show i + (m + 1) = i + 1 + m from by omega] at this
      obtain ⟨d', f', q1, ⟨p', l0, q2, q3, q4⟩, q5, _⟩ := hf j _ (isLoc_ok e1) (blt_nat e3)
      rw [hp] at q2; cases q2
      rw [hσ] at q3; cases q3
      have := hfull 0 (.f f) (by simp)
      rw [Nat.add_zero, q4] at this
      have e4 : f' = f := by simpa using this
      subst e4
      exact ⟨.f f' :: l1, ⟨_, _, rfl, rfl, r1⟩, _, _, rfl, ⟨f', d', q1, rfl, q5⟩, r2⟩
    · cases h
  | .row o' j :: r, x :: l, i, l', h, hx, hfull => by
    cases x <;> simp only [chkC] at h <;> first | (cases h; done) | skip
    rename_i p' k
    simp only [Cx.crs, CRs] at hx
    obtain ⟨y, l'', rfl, h1, h2⟩ := hx
    split at h
    · rename_i e1 e2 e3
      obtain ⟨l1, r1, r2⟩ := canon_cells ok hf hall hp hσ h h2 fun m y hm => by
        have := hfull (m + 1) y (by simpa using hm)
        rwa [show i + (m + 1) = i + 1 + m from by omega] at this
      have hp' := atOs_nth e1
      obtain ⟨w, ty, sz, t, ho'⟩ := isRow_ok e3
      obtain ⟨p2, k2, x2, a1, a2, a3, a4⟩ := chk_row (hall o' _ ho')
      rw [hp'] at a1; cases a1
      obtain ⟨w3, ty3, sz3, t3, x3, b1⟩ := fresh_ok ok e2
      rw [a2] at b1; cases b1
      obtain ⟨d', f', q1, ⟨p4, w4, k4, ty4, sz4, t4, x4, ys, fs, q2, q3, q4, q5, q6⟩, q7, _⟩ := hf j _ a3 (List.getElem?_eq_some_iff.1 a4).1
      rw [hp'] at q2; cases q2
      rw [a2] at q3; cases q3
      have h1' : ∃ n kc len, y = .rs p' (c.β p' + k * 8589934592) n ∧ c.ι p' = some (kc, len) ∧ k ≤ kc ∧ (k = kc → n = len) := h1
      obtain ⟨n, kc, len, rfl, g1, g2, g3⟩ := h1'
      rw [q5] at g1; cases g1
      have hn := g3 rfl
      subst hn q6
      have hlen : lenOf d' = ys.length := by
        simp only [FD] at q7
        obtain ⟨t', xs, rfl, e, _⟩ := q7
        exact e.symm
      refine ⟨.rs o' (epOf c os o') ys.length :: l1, ⟨_, _, rfl, ⟨nth_lt hp', rfl, ?_⟩, r1⟩, _, _, rfl, ⟨d', q1, by rw [hlen]⟩, r2⟩
      show _ = Dm.C.rs (os.getD o' 0) (epOf c os o') _
      rw [getD_nth hp', epOf_at hp' a2]
    · cases h
  | .ptr o' off :: r, x :: l, i, l', h, hx, hfull => by
    cases x <;> simp only [chkC] at h <;> first | (cases h; done) | skip
    rename_i p' off'
    simp only [Cx.crs, CRs] at hx
    obtain ⟨y, l'', rfl, h1, h2⟩ := hx
    split at h
    · rename_i e1 e2
      obtain ⟨l1, r1, r2⟩ := canon_cells ok hf hall hp hσ h h2 fun m y hm => by
        have := hfull (m + 1) y (by simpa using hm)
        rwa [show i + (m + 1) = i + 1 + m from by omega] at this
      have hp' := atOs_nth e1
      have := beq_nat e2; subst this
      simp only [CR] at h1
      subst h1
      refine ⟨.ptr o' off :: l1, ⟨_, _, rfl, ⟨nth_lt hp', ?_⟩, r1⟩, _, _, rfl, rfl, r2⟩
      show _ = Dm.C.ptr (os.getD o' 0) off
      rw [getD_nth hp']
    · cases h
theorem canon_st (ok : Ok c e) (hf : FldOk c os obs lb d) (hlen : os.length = obs.length) (hnd : os.Nodup) (hall : ∀ (o : Nat) io, obs[o]? = some io → chkO lb obs os c.S o io = true) :
    ∃ σ1, Part (emOf os (epOf c os) (epOf c os)) σ1 c.σ ∧ σ1.length = obs.length ∧ StR U (epOf c os) d obs σ1 := by
  have key : ∀ o, o < obs.length → ∃ ob1, (∃ ob, c.σ[os.getD o 0]? = some ob ∧ RnO (emOf os (epOf c os) (epOf c os)) o ob1 ob) ∧ ∀ io, obs[o]? = some io → IOR U (epOf c os) d o io ob1 := by
    intro o ho
    have hio : obs[o]? = some obs[o] := List.getElem?_eq_getElem ho
    have hc := hall o _ hio
    generalize obs[o] = io at hio hc
    cases io with
    | cells l =>
      obtain ⟨p, l', a1, a2, a3⟩ := chk_cells hc
      obtain ⟨ob, b1, l2, rfl, b2⟩ := ok.get a2
      obtain ⟨l1, r1, r2⟩ := canon_cells ok hf hall a1 b1 a3 b2 fun m y hm => by rwa [Nat.zero_add]
      exact ⟨.cells l1, ⟨_, by rw [getD_nth a1]; exact b1, _, rfl, r1⟩, fun io h => by rw [hio] at h; cases h; exact ⟨l1, rfl, r2⟩⟩
    | row w ty sz t j =>
      obtain ⟨p, k, x, a1, a2, a3, a4⟩ := chk_row hc
      obtain ⟨ys, gs, q1, q2, q3, q4, q5, q6⟩ := arr_at ok a2
      obtain ⟨d', f', r1, ⟨p4, w4, k4, ty4, sz4, t4, x4, zs, fs, s1, s2, s3, s4, s5⟩, r3, r4⟩ := hf j _ a3 (List.getElem?_eq_some_iff.1 a4).1
      rw [a1] at s1; cases s1
      rw [a2] at s2; cases s2
      rw [q2] at s3; cases s3
      subst s5
      have ht : d'.t = .list t := by rw [a4] at r4; exact (Option.some.inj r4).symm
      refine ⟨.arr w (epOf c os o) sz gs, ⟨_, by rw [getD_nth a1]; exact q2, rfl, ?_⟩, fun io h => by
        rw [hio] at h; cases h
        refine ⟨d', gs, r1, ht, rfl, ?_, by rw [epOf_at a1 a2, Nat.add_mul_mod_self_right]; exact q4, q3⟩
        simp only [FD] at r3
        obtain ⟨t', xs, rfl, _, e⟩ := r3
        exact e⟩
      show _ = Ob.arr w (epOf c os o) sz gs
      rw [epOf_at a1 a2]
  obtain ⟨σ1, h1, h2⟩ := list_of obs.length key
  refine ⟨σ1, ⟨emOf_ok hnd _ _, by rw [h1]; exact hlen.symm, fun j ob1 hj => ?_⟩, h1, fun o io ho => ?_⟩
  · exact (h2 j ob1 hj).1
  · obtain ⟨ob1, hb⟩ : ∃ ob1, σ1[o]? = some ob1 := ⟨_, List.getElem?_eq_getElem (h1 ▸ (List.getElem?_eq_some_iff.1 ho).1)⟩
    exact ⟨ob1, hb, (h2 o ob1 hb).2 io ho⟩
end
theorem nodup_inj {os : List Nat} (h : os.Nodup) {a b p : Nat} (ha : nth os a = some p) (hb : nth os b = some p) : a = b := by
  rw [nth_eq] at ha hb
  obtain ⟨h1, h2⟩ := List.getElem?_eq_some_iff.1 ha
  obtain ⟨h3, h4⟩ := List.getElem?_eq_some_iff.1 hb
  have hp := List.pairwise_iff_getElem.1 h
  rcases Nat.lt_trichotomy a b with hab | hab | hab
  · exact absurd (h2.trans h4.symm) (hp a b h1 h3 hab)
  · exact hab
  · exact absurd (h4.trans h2.symm) (hp b a h3 h1 hab)
theorem put_at {α : Type} {l : List α} {p : Nat} {x : α} (h : p < l.length) : nth (put l p x) p = some x := by rw [nth_eq, put_eq, List.getElem?_set_self h]
theorem put_ne {α : Type} {l : List α} {p q : Nat} {x : α} (h : q ≠ p) : nth (put l q x) p = nth l p := by rw [nth_eq, nth_eq, put_eq, List.getElem?_set_ne h]
theorem putL {α : Type} (l : List α) (i : Nat) (v : α) : (put l i v).length = l.length := by rw [put_eq]; simp
section
variable {lay : Nat → List Ty} {i0 : Nat} {os : List Nat} {S0 : SSt}
theorem newS_len : ∀ (r : List IO) (s : Nat) (S : SSt), (newS lay e i0 os S0 r s S).length = S.length
  | [], s, S => rfl
  | io :: r, s, S => by
    simp only [newS]
    rw [newS_len r]
    split
    · rw [putL]
    · rfl
theorem newS_other : ∀ (r : List IO) (s : Nat) (S : SSt) {p : Nat}, (∀ o, s ≤ o → o < s + r.length → nth os o ≠ some p) → nth (newS lay e i0 os S0 r s S) p = nth S p
  | [], s, S, p, h => rfl
  | io :: r, s, S, p, h => by
    simp only [newS]
    rw [newS_other r (s + 1) _ fun o h1 h2 => h o (by omega) (by simp only [List.length_cons]; omega)]
    split
    · rename_i q hq
      exact put_ne fun e1 => h s (Nat.le_refl _) (by simp) (e1 ▸ hq)
    · rfl
theorem newS_at (hnd : os.Nodup) : ∀ (r : List IO) (s : Nat) (S : SSt) {o p : Nat} {io : IO}, r[o]? = some io → nth os (s + o) = some p → p < S.length → nth (newS lay e i0 os S0 r s S) p = some (newO lay e i0 os S0 p io)
  | [], s, S, o, p, io, h, _, _ => by simp at h
  | x :: r, s, S, 0, p, io, h, hp, hl => by
    simp at h; subst h
    rw [Nat.add_zero] at hp
    simp only [newS, hp]
    rw [newS_other r (s + 1) _ fun o h1 h2 hh => by have := nodup_inj hnd hp hh; omega]
    exact put_at hl
  | x :: r, s, S, o + 1, p, io, h, hp, hl => by
    simp only [newS]
    refine newS_at hnd r (s + 1) _ (by simpa using h) (by rwa [show s + 1 + o = s + (o + 1) from by omega]) ?_
    split
    · rw [putL]; exact hl
    · exact hl
end
def setAll : List Nat → List Ob → St → St
  | p :: os, ob :: obs, σ => setAll os obs (σ.set p ob)
  | _, _, σ => σ
theorem setAll_len : ∀ (os : List Nat) (obs : List Ob) (σ : St), (setAll os obs σ).length = σ.length
  | [], _, σ => rfl
  | _ :: _, [], σ => rfl
  | p :: os, ob :: obs, σ => by simp only [setAll]; rw [setAll_len os obs]; simp
theorem setAll_other : ∀ (os : List Nat) (obs : List Ob) (σ : St) {p : Nat}, p ∉ os → (setAll os obs σ)[p]? = σ[p]?
  | [], _, σ, p, _ => rfl
  | _ :: _, [], σ, p, _ => rfl
  | q :: os, ob :: obs, σ, p, h => by
    simp only [List.mem_cons, not_or] at h
    simp only [setAll]
    rw [setAll_other os obs _ h.2, List.getElem?_set_ne (Ne.symm h.1)]
theorem setAll_at : ∀ (os : List Nat) (obs : List Ob) (σ : St), os.Nodup → ∀ {o p : Nat} {ob : Ob}, os[o]? = some p → obs[o]? = some ob → p < σ.length → (setAll os obs σ)[p]? = some ob
  | [], _, σ, _, o, p, ob, h, _, _ => by simp at h
  | _ :: _, [], σ, _, o, p, ob, _, h, _ => by simp at h
  | q :: os, x :: obs, σ, hn, 0, p, ob, h1, h2, hl => by
    simp at h1 h2; subst h1 h2
    simp only [setAll]
    rw [setAll_other os obs _ (List.nodup_cons.1 hn).1, List.getElem?_set_self hl]
  | q :: os, x :: obs, σ, hn, o + 1, p, ob, h1, h2, hl => by
    simp only [setAll]
    exact setAll_at os obs _ (List.nodup_cons.1 hn).2 (by simpa using h1) (by simpa using h2) (by simpa using hl)
theorem pcells_base {d : Dyn U.B} {b : Nat} (h : d.t = .base b) : pcells U d = cells U d := by
  obtain ⟨t, x⟩ := d; simp only at h; subst h; rfl
structure Back (U : Uni) (c : Cx U) (e : SE) (os : List Nat) (obs : List IO) (lb : List Ty) (d' : Dyn U.B) (b i0 : Nat) (E' : Nat → Nat) (σ1 : St) : Prop where
  ok : Ok c e
  nd : os.Nodup
  len : os.length = obs.length
  all : ∀ (o : Nat) io, obs[o]? = some io → chkO lb obs os c.S o io = true
  ty : d'.t = .base b
  at_ : c.ρ[i0]? = some d'
  st : StR U E' d' obs σ1
section
variable {os : List Nat} {obs : List IO} {lb : List Ty} {d' : Dyn U.B} {b i0 : Nat} {E' : Nat → Nat} {σ1 : St}
abbrev nS (c : Cx U) (e : SE) (os : List Nat) (obs : List IO) (i0 : Nat) : SSt := newS U.lay e i0 os c.S obs 0 c.S
theorem Back.get (B : Back U c e os obs lb d' b i0 E' σ1) {o : Nat} {io : IO} (ho : obs[o]? = some io) : ∃ p, nth os o = some p ∧ p < c.S.length := by
  have hc := B.all o io ho
  cases io with
  | cells l =>
    obtain ⟨p, l', a1, a2, a3⟩ := chk_cells hc
    rw [nth_eq] at a2
    exact ⟨p, a1, (List.getElem?_eq_some_iff.1 a2).1⟩
  | row w ty sz t j =>
    obtain ⟨p, k, x, a1, a2, a3, a4⟩ := chk_row hc
    rw [nth_eq] at a2
    exact ⟨p, a1, (List.getElem?_eq_some_iff.1 a2).1⟩
theorem Back.new (B : Back U c e os obs lb d' b i0 E' σ1) {o p : Nat} {io : IO} (ho : obs[o]? = some io) (hp : nth os o = some p) : nth (nS c e os obs i0) p = some (newO U.lay e i0 os c.S p io) := by
  obtain ⟨p', h1, h2⟩ := B.get ho
  rw [hp] at h1; cases h1
  exact newS_at B.nd obs 0 c.S ho (by rwa [Nat.zero_add]) h2
theorem Back.old (B : Back U c e os obs lb d' b i0 E' σ1) {p : Nat} (hp : p ∉ os) : nth (nS c e os obs i0) p = nth c.S p :=
  newS_other obs 0 c.S fun o _ _ h => hp (by rw [nth_eq] at h; exact List.mem_of_getElem? h)
theorem Back.fld (B : Back U c e os obs lb d' b i0 E' σ1) {j : Nat} {d2 : Dyn U.B} (h : (cells U d')[j]? = some d2) : (Tm.fld i0 j).den? c.ρ = some d2 := by
  simp only [Tm.den?, B.at_]
  rw [pcells_base B.ty]; exact h
theorem mem_nth {p : Nat} {os : List Nat} (h : p ∈ os) : ∃ o, nth os o = some p := by
  obtain ⟨o, ho⟩ := List.mem_iff_getElem?.1 h
  exact ⟨o, by rw [nth_eq]; exact ho⟩
theorem Back.io (B : Back U c e os obs lb d' b i0 E' σ1) {o p : Nat} (h : nth os o = some p) : ∃ io, obs[o]? = some io :=
  ⟨_, List.getElem?_eq_getElem (B.len ▸ nth_lt h)⟩
theorem Back.row (B : Back U c e os obs lb d' b i0 E' σ1) {o j : Nat} {w : Bool} {ty sz : Nat} {t : Ty} (ho : obs[o]? = some (.row w ty sz t j)) :
    ∃ p k x d2 fs, nth os o = some p ∧ nth c.S p = some (.arr w k ty sz t x) ∧ nth (nS c e os obs i0) p = some (.arr w (k + 1) ty sz t (.fld i0 j)) ∧ (cells U d')[j]? = some d2 ∧ d2.t = .list t ∧ σ1[o]? = some (.arr w (E' o) sz fs) ∧ FDs U fs (rowOf d2) ∧ E' o % 8589934592 = ty ∧ sz = width U t ∧ inf c.ρ (nS c e os obs i0) p = some (k + 1, lenOf d2) ∧ c.β p % 8589934592 = ty ∧ c.ι p = some (k, (lenOf ((x.den? c.ρ).getD (noD U)))) := by
  obtain ⟨p, k, x, a1, a2, a3, a4⟩ := chk_row (B.all o _ ho)
  obtain ⟨ob, h1, d2, fs, h2, h3, rfl, h5, h6, h7⟩ := B.st o _ ho
  have hn := B.new ho a1
  have hn' : nth (nS c e os obs i0) p = some (.arr w (k + 1) ty sz t (.fld i0 j)) := by rw [hn]; simp only [newO, a2]
  obtain ⟨ys, gs, q1, q2, q3, q4, q5, q6⟩ := arr_at B.ok a2
  refine ⟨p, k, x, d2, fs, a1, a2, hn', h2, h3, h1, h5, h6, h7, ?_, q4, ?_⟩
  · rw [nth_eq] at hn'
    simp only [inf, hn', B.fld h2]
  · rw [q6, q1]; rfl
theorem Back.later (B : Back U c e os obs lb d' b i0 E' σ1) : Later c.ρ c.β c.ι c.ρ c.β (inf c.ρ (nS c e os obs i0)) := by
  refine ⟨fun x d h => h, fun p kc len h => ⟨rfl, ?_⟩⟩
  by_cases hm : p ∈ os
  · obtain ⟨o, ho⟩ := mem_nth hm
    obtain ⟨io, hio⟩ := B.io ho
    cases io with
    | cells l =>
      obtain ⟨p', l', a1, a2, a3⟩ := chk_cells (B.all o _ hio)
      rw [ho] at a1; cases a1
      rw [no_inf a2 (by simp)] at h; cases h
    | row w ty sz t j =>
      obtain ⟨p', k, x, d2, fs, a1, a2, a3, a4, a5, a6, a7, a8, a9, a10, a11, a12⟩ := B.row hio
      rw [ho] at a1; cases a1
      rw [a12] at h; cases h
      exact ⟨_, _, a10, .inl (by omega)⟩
  · refine ⟨kc, len, ?_, .inr ⟨rfl, rfl⟩⟩
    have := B.old hm
    rw [nth_eq, nth_eq] at this
    have h' : inf c.ρ c.S p = some (kc, len) := h
    unfold inf at h' ⊢
    rw [this]; exact h'
abbrev mOf (c : Cx U) (os : List Nat) (E' : Nat → Nat) : Em := emOf os E' fun o => epOf c os o + 8589934592
theorem Back.cells (B : Back U c e os obs lb d' b i0 E' σ1) {o : Nat} : ∀ {lc : List IC} {l : List SC} {i : Nat} {l1 : List Dm.C}, chkC lb obs os c.S o lc l i = true → ICRs U E' d' lc l1 →
    ∃ l2, RnCs (mOf c os E') l1 l2 ∧ CRs c.ρ c.β (inf c.ρ (nS c e os obs i0)) (lc.map (newC U.lay e i0 os c.S)) l2
  | [], l, i, l1, h, hx => by simp only [ICRs] at hx; subst hx; exact ⟨[], rfl, rfl⟩
  | .d j :: r, [], i, l1, h, hx => by cases h
  | .row _ _ :: r, [], i, l1, h, hx => by cases h
  | .ptr _ _ :: r, [], i, l1, h, hx => by cases h
  | .mp _ :: r, [], i, l1, h, hx => by cases h
  | .mp _ :: r, x :: l, i, l1, h, hx => by cases h
  | .d j :: r, x :: l, i, l1, h, hx => by
    obtain ⟨y, l', rfl, ⟨f, d2, h1, rfl, h2⟩, h3⟩ := hx
    simp only [chkC] at h
    split at h
    · obtain ⟨l2, r1, r2⟩ := B.cells h h3
      have := cellOf_ok B.ok B.at_ (by rw [pcells_base B.ty]; exact h1) h2
      exact ⟨.f f :: l2, ⟨_, _, rfl, rfl, r1⟩, _, _, rfl, CR.later B.later this, r2⟩
    · cases h
  | .row o' j :: r, x :: l, i, l1, h, hx => by
    obtain ⟨y, l', rfl, ⟨d2, h1, rfl⟩, h3⟩ := hx
    cases x <;> simp only [chkC] at h <;> first | (cases h; done) | skip
    split at h
    · rename_i e1 e2 e3
      obtain ⟨l2, r1, r2⟩ := B.cells h h3
      obtain ⟨w, ty, sz, t, ho'⟩ := isRow_ok e3
      obtain ⟨p', k, x, d3, fs, a1, a2, a3, a4, a5, a6, a7, a8, a9, a10, a11, a12⟩ := B.row ho'
      rw [h1] at a4; cases a4
      refine ⟨.rs p' (c.β p' + (k + 1) * 8589934592) (lenOf d2) :: l2, ⟨_, _, rfl, ⟨nth_lt a1, rfl, ?_⟩, r1⟩, _, _, rfl, ?_, r2⟩
      · show _ = Dm.C.rs (os.getD o' 0) (epOf c os o' + 8589934592) _
        rw [getD_nth a1, epOf_at a1 a2]
        congr 1
        omega
      · simp only [newC, a1, a2, CR]
        exact ⟨lenOf d2, k + 1, lenOf d2, rfl, a10, Nat.le_refl _, fun _ => rfl⟩
    · cases h
  | .ptr o' off :: r, x :: l, i, l1, h, hx => by
    obtain ⟨y, l', rfl, rfl, h3⟩ := hx
    cases x <;> simp only [chkC] at h <;> first | (cases h; done) | skip
    split at h
    · rename_i e1 e2
      obtain ⟨l2, r1, r2⟩ := B.cells h h3
      have hp' := atOs_nth e1
      refine ⟨.ptr (os.getD o' 0) off :: l2, ⟨_, _, rfl, ⟨nth_lt hp', rfl⟩, r1⟩, _, _, rfl, ?_, r2⟩
      simp only [newC, hp', CR]
      rw [getD_nth hp']
    · cases h
theorem Back.store {σ2 : St} (B : Back U c e os obs lb d' b i0 E' σ1) : ∃ σ', Fwd (emOf os (epOf c os) (epOf c os)) (mOf c os E') σ2 σ1 c.σ σ' ∧ Ok ⟨c.ρ, c.β, nS c e os obs i0, σ'⟩ e ∧ Le c ⟨c.ρ, c.β, nS c e os obs i0, σ'⟩ := by
  have key : ∀ o, o < obs.length → ∃ ob, ∀ io p, obs[o]? = some io → nth os o = some p → (∃ ob1, σ1[o]? = some ob1 ∧ RnO (mOf c os E') o ob1 ob) ∧ OR c.ρ c.β (inf c.ρ (nS c e os obs i0)) p (newO U.lay e i0 os c.S p io) ob := by
    intro o ho
    have hio : obs[o]? = some obs[o] := List.getElem?_eq_getElem ho
    generalize obs[o] = io at hio
    obtain ⟨ob1, g1, g2⟩ := B.st o io hio
    cases io with
    | cells lc =>
      obtain ⟨l1, rfl, h1⟩ := g2
      obtain ⟨p, l', a1, a2, a3⟩ := chk_cells (B.all o _ hio)
      obtain ⟨l2, r1, r2⟩ := B.cells a3 h1
      refine ⟨.cells l2, fun io p' hi hp' => ?_⟩
      rw [hio] at hi; cases hi
      exact ⟨⟨_, g1, l2, rfl, r1⟩, l2, rfl, r2⟩
    | row w ty sz t j =>
      obtain ⟨p, k, x, d2, fs, a1, a2, a3, a4, a5, a6, a7, a8, a9, a10, a11, a12⟩ := B.row hio
      refine ⟨.arr w (epOf c os o + 8589934592) sz fs, fun io p' hi hp' => ?_⟩
      rw [hio] at hi; cases hi
      rw [a1] at hp'; cases hp'
      refine ⟨⟨_, a6, rfl, rfl⟩, ?_⟩
      simp only [newO, a2]
      refine ⟨d2, fs, B.fld a4, a5, ?_, a9, a11, a7⟩
      rw [epOf_at a1 a2]
      congr 1
      omega
  obtain ⟨obs', h1, h2⟩ := list_of obs.length key
  have hσ : ∀ {p o}, nth os o = some p → ∃ ob, (setAll os obs' c.σ)[p]? = some ob ∧ obs'[o]? = some ob := fun {p o} hp => by
    obtain ⟨io, hio⟩ := B.io hp
    obtain ⟨p', q1, q2⟩ := B.get hio
    rw [hp] at q1; cases q1
    have hob : obs'[o]? = some (obs'[o]'(by rw [h1, ← B.len]; exact nth_lt hp)) := List.getElem?_eq_getElem _
    exact ⟨_, setAll_at os obs' c.σ B.nd (by rw [nth_eq] at hp; exact hp) hob (B.ok.len ▸ q2), hob⟩
  have hle : Le c ⟨c.ρ, c.β, nS c e os obs i0, setAll os obs' c.σ⟩ := B.later
  refine ⟨setAll os obs' c.σ, ⟨rfl, rfl, rfl, fun j hj => ?_, fun i hi => ?_, fun j hj w E sz fs hs => ?_⟩, ⟨B.ok.tys, B.ok.kn, B.ok.ne, ?_, fun p so hp => ?_⟩, hle⟩
  · have hj : j < os.length := hj
    have hp : nth os j = some os[j] := by rw [nth_eq]; exact List.getElem?_eq_getElem hj
    obtain ⟨io, hio⟩ := B.io hp
    obtain ⟨ob, q1, q2⟩ := hσ hp
    obtain ⟨⟨ob1, q3, q4⟩, _⟩ := h2 j ob q2 io _ hio hp
    refine ⟨ob1, ob, q3, ?_, q4⟩
    show (setAll os obs' c.σ)[os.getD j 0]? = _
    rw [getD_nth hp]; exact q1
  · have hi : (if i ∈ os then some (os.idxOf i) else none) = none := hi
    split at hi
    · cases hi
    · rename_i hm; exact setAll_other os obs' c.σ hm
  · have hj : j < os.length := hj
    have hp : nth os j = some os[j] := by rw [nth_eq]; exact List.getElem?_eq_getElem hj
    obtain ⟨io, hio⟩ := B.io hp
    refine ⟨by show epOf c os j < epOf c os j + 8589934592; omega, ?_⟩
    show E' j % 8589934592 = (epOf c os j + 8589934592) % 8589934592
    cases io with
    | cells lc =>
      obtain ⟨ob1, g1, l1, rfl, _⟩ := B.st j _ hio
      rw [hs] at g1; cases g1
    | row w ty sz t j' =>
      obtain ⟨p, k, x, d2, fs, a1, a2, a3, a4, a5, a6, a7, a8, a9, a10, a11, a12⟩ := B.row hio
      rw [a8, Nat.add_mod_right, epOf_at a1 a2, Nat.add_mul_mod_self_right, a11]
  · show (nS c e os obs i0).length = (setAll os obs' c.σ).length
    rw [setAll_len, newS_len, B.ok.len]
  · by_cases hm : p ∈ os
    · obtain ⟨o, ho⟩ := mem_nth hm
      obtain ⟨io, hio⟩ := B.io ho
      have hn := B.new hio ho
      rw [nth_eq] at hn
      have hp' : (nS c e os obs i0)[p]? = some so := hp
      rw [hn] at hp'; cases hp'
      obtain ⟨ob, q1, q2⟩ := hσ ho
      obtain ⟨_, q4⟩ := h2 o ob q2 io p hio ho
      exact ⟨ob, q1, q4⟩
    · have ho := B.old hm
      rw [nth_eq, nth_eq] at ho
      have hp' : (nS c e os obs i0)[p]? = some so := hp
      rw [ho] at hp'
      obtain ⟨ob, q1, q2⟩ := B.ok.st p so hp'
      exact ⟨ob, by show (setAll os obs' c.σ)[p]? = _; rw [setAll_other os obs' c.σ hm]; exact q1, q2.later hle rfl⟩
end
theorem ghost_nilo {fr : Fr} {σ : St} {o j ep sz : Nat} {l : List C} (ho : σ[o]? = some (.cells l)) (hj : l[j]? = some (.f .nils)) :
    Ghost fr σ fr ((σ ++ [Ob.arr true ep sz []]).set o (Ob.cells (l.set j (.rs σ.length ep 0)))) := by
  intro g w tmps hr hf
  let g' : G := ⟨g.Z, fun i => if i = σ.length then none else g.blk i, fun i => if i = σ.length then 0 else g.cap i⟩
  have hb : ∀ i, i < σ.length → g'.blk i = g.blk i := fun i hi => if_neg (Nat.ne_of_lt hi)
  have hc : ∀ i, i < σ.length → g'.cap i = g.cap i := fun i hi => if_neg (Nat.ne_of_lt hi)
  have hn : g'.blk σ.length = none := if_pos rfl
  have hlt : o < σ.length := (List.getElem?_eq_some_iff.1 ho).1
  generalize hσ' : (σ ++ [Ob.arr true ep sz []]).set o (Ob.cells (l.set j (C.rs σ.length ep 0))) = σ'
  have go : σ'[o]? = some (.cells (l.set j (.rs σ.length ep 0))) := by rw [← hσ', List.getElem?_set_self (by simp; omega)]
  have gn : σ'[σ.length]? = some (Ob.arr true ep sz []) := by rw [← hσ', List.getElem?_set_ne (by omega), List.getElem?_append_right (Nat.le_refl _), Nat.sub_self]; rfl
  have gi : ∀ i, i ≠ o → i < σ.length → σ'[i]? = σ[i]? := fun i h1 h2 => by rw [← hσ', List.getElem?_set_ne (fun h => h1 h.symm), List.getElem?_append_left h2]
  have gl : σ'.length = σ.length + 1 := by rw [← hσ']; simp
  have back : ∀ i ob, σ'[i]? = some ob → i ≠ σ.length → ∃ ob0, σ[i]? = some ob0 ∧ (ob0 = ob ∨ (i = o ∧ ob0 = .cells l ∧ ob = .cells (l.set j (.rs σ.length ep 0)))) := fun i ob h hi => by
    have h1 := (List.getElem?_eq_some_iff.1 h).1
    by_cases he : i = o
    · subst he
      rw [go] at h
      cases h
      exact ⟨_, ho, .inr ⟨rfl, rfl, rfl⟩⟩
    · rw [gi i he (by omega)] at h
      exact ⟨ob, h, .inl rfl⟩
  have hown : ∀ b k, Own g' σ' b k → Own g σ b k := by
    rintro b k ⟨i, ob, h1, h2, h3⟩
    have hi : i ≠ σ.length := fun h => by subst h; rw [hn] at h2; cases h2
    have h5 := (List.getElem?_eq_some_iff.1 h1).1
    obtain ⟨ob0, h6, h7⟩ := back i ob h1 hi
    refine ⟨i, ob0, h6, by rw [← hb i (by omega)]; exact h2, ?_⟩
    rcases h7 with rfl | ⟨_, rfl, _⟩
    · exact h3
    · trivial
  have T : Turn g w σ g' w σ' :=
    { os := rfl, tape := rfl, output := rfl, size := Nat.le_refl _, whole := fun _ _ _ => rfl, zs := fun b o hz => ⟨hz, rfl⟩, znew := fun b o _ hz => .inl hz, onew := fun b o _ h => hown b o h,
      turns := fun i ob h => by
        have hi := (List.getElem?_eq_some_iff.1 h).1
        by_cases he : i = o
        · subst he
          rw [ho] at h
          cases h
          exact ⟨_, go, by simp [ObTurn]⟩
        · exact ⟨ob, by rw [gi i he hi]; exact h, by cases ob <;> simp [ObTurn, hb i hi, hc i hi]⟩
      blks := fun i ob h _ => hb i (List.getElem?_eq_some_iff.1 h).1 }
  refine ⟨g', ⟨fun i ob h => ?_, fun i k a b q h1 h2 h3 h4 h5 h6 => ?_, fun b k hz hk => hr.apart b k hz (hown b k hk), hr.inside⟩, T, hf.turn T⟩
  · have hi := (List.getElem?_eq_some_iff.1 h).1
    by_cases he : i = σ.length
    · subst he
      rw [gn] at h
      cases h
      exact .inl ⟨hn, rfl, if_pos rfl⟩
    · have hi : i < σ.length := by omega
      obtain ⟨ob0, h6, h7⟩ := back i ob h he
      have hk := (hr.ob i ob0 h6).keep T (fun _ _ => rfl) (hb i hi) (hc i hi)
      rcases h7 with rfl | ⟨rfl, rfl, rfl⟩
      · exact hk
      · obtain ⟨b, vs, T0, fz, k1, k2, k3, k4⟩ := hr.ob _ _ h6
        refine ⟨b, vs, T0, fz, by rw [hb _ hi]; exact k1, k2, k3, ?_⟩
        obtain ⟨v, hv, h0⟩ := k4.get hj
        have hv0 : v = .slice none 0 0 := h0
        have hset := (CReps.turn T _ _ k4).set j (c := .rs σ.length ep 0) (v := v) (by
          rw [hv0]
          refine ⟨rfl, .arr true ep sz [], gn, Nat.le_refl _, fun _ => ⟨?_, by simp, Nat.zero_le _⟩⟩
          rw [hn, show g'.cap σ.length = 0 from if_pos rfl]
          rfl)
        have e := List.getElem?_eq_some_iff.1 hv
        have : vs.toList.set j v = vs.toList := by rw [← e.2]; exact List.set_getElem_self e.1
        rwa [this] at hset
  · have n1 : i ≠ σ.length := fun e => by subst e; rw [hn] at h5; cases h5
    have n2 : k ≠ σ.length := fun e => by subst e; rw [hn] at h6; cases h6
    obtain ⟨a0, p1, p2⟩ := back i a h1 n1
    obtain ⟨b0, p3, p4⟩ := back k b h2 n2
    have l1 := (List.getElem?_eq_some_iff.1 p1).1
    have l2 := (List.getElem?_eq_some_iff.1 p3).1
    refine hr.inj i k a0 b0 q p1 p3 ?_ ?_ (by rw [← hb i l1]; exact h5) (by rw [← hb k l2]; exact h6)
    · rcases p2 with rfl | ⟨_, rfl, _⟩
      · exact h3
      · rfl
    · rcases p4 with rfl | ⟨_, rfl, _⟩
      · exact h4
      · rfl
theorem CRs.set {ρ : Rho U} {β : Nat → Nat} {ι : Inf} : ∀ {l : List SC} {l' : List Dm.C}, CRs ρ β ι l l' → ∀ (i : Nat) {x : SC} {y : Dm.C}, CR ρ β ι x y → CRs ρ β ι (l.set i x) (l'.set i y)
  | [], l', h, i, x, y, hx => by simp only [CRs] at h; subst h; simp [CRs]
  | a :: r, l', h, 0, x, y, hx => by
    simp only [CRs] at h
    obtain ⟨c0, l0, rfl, h1, h2⟩ := h
    exact ⟨y, l0, rfl, hx, h2⟩
  | a :: r, l', h, i + 1, x, y, hx => by
    simp only [CRs] at h
    obtain ⟨c0, l0, rfl, h1, h2⟩ := h
    exact ⟨c0, _, rfl, h1, h2.set i hx⟩
def Gh (σ σ' : St) : Prop := ∀ g w, Rep g w σ → ∃ g', Rep g' w σ' ∧ Turn g w σ g' w σ'
theorem Gh.refl (σ : St) : Gh σ σ := fun g w h => ⟨g, h, Turn.refl _ _ _⟩
theorem Gh.trans {a b d : St} (h : Gh a b) (k : Gh b d) : Gh a d := fun g w hr =>
  let ⟨g1, h1, h2⟩ := h g w hr
  let ⟨g2, k1, k2⟩ := k g1 w h1
  ⟨g2, k1, h2.trans k2⟩
theorem rnCs_f (m : Em) : ∀ (fs : List F), RnCs m (fs.map Dm.C.f) (fs.map Dm.C.f)
  | [] => rfl
  | f :: r => ⟨_, _, rfl, rfl, rnCs_f m r⟩
theorem rnV_dv (m : Em) {d : Dyn U.B} {v : V} (h : DV U d v) : RnV m v v := by
  unfold DV at h
  split at h
  · obtain ⟨fs, rfl, _⟩ := h; exact ⟨_, rfl, rnCs_f m fs⟩
  · obtain ⟨f, rfl, _⟩ := h; exact ⟨_, rfl, rfl⟩
theorem rnVs_dvs (m : Em) : ∀ {ds : List (Dyn U.B)} {vs : List V}, DVs U ds vs → RnVs m vs vs
  | [], vs, h => by simp only [DVs] at h; subst h; rfl
  | d :: ds, vs, h => by obtain ⟨v, vr, rfl, h1, h2⟩ := h; exact ⟨_, _, rfl, rnV_dv m h1, rnVs_dvs m h2⟩
theorem rnV_res (m : Em) {ds : List (Dyn U.B)} {r : V} (h : ResR U ds r) : RnV m r r := by
  obtain ⟨vs, h1, rfl⟩ := h
  have h2 := rnVs_dvs m h1
  match vs, h1, h2 with
  | [], _, _ => exact ⟨[], rfl, rfl⟩
  | [v], h1, h2 => obtain ⟨_, _, e, h3, _⟩ := h2; cases e; exact h3
  | v :: u :: r, h1, h2 => exact ⟨_, rfl, h2⟩
theorem caps_rn {os : List Nat} {E1 E : Nat → Nat} : ∀ {l : List (Nat × Nat)} {cs : List SC} {ys : List Dm.C}, chkCaps os l cs = true → CRs c.ρ c.β c.ι cs ys → RnCs (emOf os E1 E) (l.map fun p => Dm.C.ptr p.1 p.2) ys
  | [], [], ys, h, hv => by simp only [CRs] at hv; subst hv; rfl
  | [], x :: cs, ys, h, hv => by cases h
  | (o, off) :: r, [], ys, h, hv => by cases h
  | (o, off) :: r, x :: cs, ys, h, hv => by
    cases x <;> simp only [chkCaps] at h <;> first | (cases h; done) | skip
    split at h
    · rename_i e1 e2
      have := beq_nat e2; subst this
      simp only [CRs] at hv
      obtain ⟨y, yr, rfl, h1, h2⟩ := hv
      simp only [CR] at h1
      subst h1
      have hp' := atOs_nth e1
      exact ⟨_, _, rfl, ⟨nth_lt hp', by show _ = Dm.C.ptr (os.getD o 0) off; rw [getD_nth hp']⟩, caps_rn h h2⟩
    · cases h
theorem splitA_ok {os : List Nat} {E1 E : Nat → Nat} : ∀ {ins : List In} {args : List SV} {vs : List V} {ins' : List In} {args' : List SV}, splitA os ins args = some (ins', args') → c.vrs args vs →
    ∃ vs', c.vrs args' vs' ∧ insTys ins' = insTys ins ∧ ∀ ds, ArgsR U ins' ds vs' → ∃ vs1, ArgsR U ins ds vs1 ∧ RnVs (emOf os E1 E) vs1 vs
  | [], [], vs, ins', args', h, hv => by
    simp only [splitA, Option.some.injEq, Prod.mk.injEq] at h
    obtain ⟨rfl, rfl⟩ := h
    simp only [Cx.vrs, VRs] at hv
    subst hv
    exact ⟨[], by simp only [Cx.vrs, VRs], rfl, fun ds h => ⟨[], h, rfl⟩⟩
  | [], v :: r, vs, ins', args', h, hv => by cases h
  | .st _ _ :: _, args, vs, ins', args', h, hv => by cases args <;> cases h
  | .ptr o off :: r, args, vs, ins', args', h, hv => by
    cases args with
    | nil => cases h
    | cons a args =>
      cases a with
      | a l => cases h
      | t l => cases h
      | c x =>
        cases x with
        | ptr p i =>
          simp only [splitA] at h
          split at h
          · rename_i e1 e2
            simp only [Cx.vrs, VRs] at hv
            obtain ⟨v, vr, rfl, h1, h2⟩ := hv
            obtain ⟨vs', q1, q2, q3⟩ := splitA_ok h h2
            obtain ⟨y, rfl, h0⟩ := V_c (by simp) h1
            simp only [CR] at h0
            subst h0
            have := beq_nat e2; subst this
            refine ⟨vs', q1, q2, fun ds hd => ?_⟩
            obtain ⟨vs1, r1, r2⟩ := q3 ds hd
            have hp' := atOs_nth e1
            exact ⟨.c (.ptr o off) :: vs1, ⟨vs1, rfl, r1⟩, _, _, rfl, ⟨_, rfl, nth_lt hp', by show _ = Dm.C.ptr (os.getD o 0) off; rw [getD_nth hp']⟩, r2⟩
          · cases h
        | _ => cases h
  | .cloP f l :: r, args, vs, ins', args', h, hv => by
    cases args with
    | nil => cases h
    | cons a args =>
      cases a with
      | a l => cases h
      | t l => cases h
      | c x =>
        cases x with
        | clo g cs =>
          simp only [splitA] at h
          split at h
          · rename_i e1 e2
            have := beq_nat e1; subst this
            simp only [Cx.vrs, VRs] at hv
            obtain ⟨v, vr, rfl, h1, h2⟩ := hv
            obtain ⟨vs', q1, q2, q3⟩ := splitA_ok (E1 := E1) (E := E) h h2
            obtain ⟨y, rfl, h0⟩ := V_c (by simp) h1
            simp only [CR] at h0
            obtain ⟨l0, rfl, h0⟩ := h0
            refine ⟨vs', q1, q2, fun ds hd => ?_⟩
            obtain ⟨vs1, r1, r2⟩ := q3 ds hd
            exact ⟨_ :: vs1, ⟨vs1, rfl, r1⟩, _, _, rfl, ⟨_, rfl, _, rfl, caps_rn e2 h0⟩, r2⟩
          · cases h
        | _ => cases h
  | .ty t :: r, args, vs, ins', args', h, hv => by
    cases args with
    | nil => cases h
    | cons a args =>
      simp only [splitA] at h
      split at h
      · rename_i l m hlm
        cases h
        simp only [Cx.vrs, VRs] at hv
        obtain ⟨v, vr, rfl, h1, h2⟩ := hv
        obtain ⟨vs', q1, q2, q3⟩ := splitA_ok hlm h2
        refine ⟨v :: vs', by simp only [Cx.vrs, VRs]; exact ⟨_, _, rfl, h1, q1⟩, by simp only [insTys, q2], fun ds hd => ?_⟩
        obtain ⟨d, ds', v', vs2, rfl, e2, ht, hdv, hr⟩ := hd
        cases e2
        obtain ⟨vs1, r1, r2⟩ := q3 ds' hr
        exact ⟨v :: vs1, ⟨d, ds', v, vs1, rfl, rfl, ht, hdv, r1⟩, _, _, rfl, rnV_dv _ hdv, r2⟩
      · cases h
  | .fnc f :: r, args, vs, ins', args', h, hv => by
    cases args with
    | nil => cases h
    | cons a args =>
      simp only [splitA] at h
      split at h
      · rename_i l m hlm
        cases h
        simp only [Cx.vrs, VRs] at hv
        obtain ⟨v, vr, rfl, h1, h2⟩ := hv
        obtain ⟨vs', q1, q2, q3⟩ := splitA_ok hlm h2
        refine ⟨v :: vs', by simp only [Cx.vrs, VRs]; exact ⟨_, _, rfl, h1, q1⟩, by simp only [insTys, q2], fun ds hd => ?_⟩
        obtain ⟨vs2, e2, hr⟩ := hd
        cases e2
        obtain ⟨vs1, r1, r2⟩ := q3 ds hr
        exact ⟨_ :: vs1, ⟨vs1, rfl, r1⟩, _, _, rfl, ⟨_, rfl, rfl⟩, r2⟩
      · cases h
  | .clo f ts :: r, args, vs, ins', args', h, hv => by
    cases args with
    | nil => cases h
    | cons a args =>
      simp only [splitA] at h
      split at h
      · rename_i l m hlm
        cases h
        simp only [Cx.vrs, VRs] at hv
        obtain ⟨v, vr, rfl, h1, h2⟩ := hv
        obtain ⟨vs', q1, q2, q3⟩ := splitA_ok hlm h2
        refine ⟨v :: vs', by simp only [Cx.vrs, VRs]; exact ⟨_, _, rfl, h1, q1⟩, by simp only [insTys, q2], fun ds hd => ?_⟩
        obtain ⟨d1, ds', fs, vs2, rfl, e2, ht, hdv, hr⟩ := hd
        cases e2
        obtain ⟨vs1, r1, r2⟩ := q3 ds' hr
        exact ⟨_ :: vs1, ⟨d1, ds', fs, vs1, rfl, rfl, ht, hdv, r1⟩, _, _, rfl, ⟨_, rfl, _, rfl, rnCs_f _ fs⟩, r2⟩
      · cases h
theorem AtLoc.later {os : List Nat} (ok' : Ok c' e) (hl : Le c c') (hS : c'.S = c.S) (hσ : c'.σ = c.σ) {q : Loc} {f : F} (h : AtLoc c os q f) : AtLoc c' os q f := by
  cases q with
  | cell o i => obtain ⟨p, l, h1, h2, h3⟩ := h; exact ⟨p, l, h1, by rw [hσ]; exact h2, h3⟩
  | row o =>
    obtain ⟨p, w, k, ty, sz, t, x, ys, fs, h1, h2, h3, h4, h5⟩ := h
    obtain ⟨e1, kc', len', e2, e3⟩ := hl.2 p k ys.length h4
    have h2' : nth c'.S p = some (.arr w k ty sz t x) := by rw [hS]; exact h2
    obtain ⟨zs, gs, q1, q2, q3, q4, q5, q6⟩ := arr_at ok' h2'
    have e2' : c'.ι p = some (kc', len') := e2
    rw [q6] at e2'; cases e2'
    have hlen : zs.length = ys.length := by omega
    exact ⟨p, w, k, ty, sz, t, x, zs, fs, h1, h2', by rw [hσ, e1]; exact h3, q6, by rw [hlen]; exact h5⟩
theorem callSt0_ok (ok : Ok c e) {s : FSpec U} {b : Nat} {obs : List IO} (hst : stOf s.sig.ins = some (b, obs)) (hs : FTurn P s obs) {i : Nat} (hi : Sp[i]? = some s) {args : List SV} {vs : List V} (hv : c.vrs args vs) {k : K1} {K : V → St → Prop} (hk : FollS Sp Post Go c k K)
    (h : TDen Sp Post Go (callSt0 U.lay s.sig b obs i args e c.S k) c.ρ) : CallAt P s.sig.f vs c.σ K := by
  obtain ⟨⟨sf, sins, souts⟩, spre, sfn, sty⟩ := s
  cases sins with
  | nil => cases hst
  | cons i0 rest =>
  cases i0 with
  | ty _ => cases hst
  | fnc _ => cases hst
  | clo _ _ => cases hst
  | ptr _ _ => cases hst
  | cloP _ _ => cases hst
  | st b' obs' =>
  simp only [stOf, Option.some.injEq, Prod.mk.injEq] at hst
  obtain ⟨rfl, rfl⟩ := hst
  unfold callSt0 at h
  split at h
  · exact h.elim
  rename_i os hos
  simp only at h
  split at h
  · exact h.elim
  rename_i t0 outs
  split at h
  · rename_i c1 c2 c3 c4
    have hlen := beq_nat c1
    have hnd := nodup_ok c2
    have := Ty.eqb_ok c4; subst this
    have hall : ∀ (o : Nat) io, obs'[o]? = some io → chkO (U.lay b') obs' os c.S o io = true := fun o io ho => by
      have := chkOs_ok c3 o io ho
      rwa [Nat.zero_add] at this
    split at h
    · rename_i fl ins' args' hfl hsp
      split at h
      · rename_i hdt
        obtain ⟨gs, g1, g2, g3⟩ := fldsAt_ok ok _ 0 hfl
        obtain ⟨cA, eA, y, d, gs', p1, p2, p3, p4, p5, p6, p7, p8, p9⟩ := data_ok ok g1 h
        have := crs_map (ρ := c.ρ) (β := c.β) (ι := c.ι) (xs := fl) p5
        subst this
        obtain ⟨vs', v1, v2, v3⟩ := splitA_ok (E1 := epOf c os) (E := epOf c os) hsp hv
        rw [← p2] at p9
        obtain ⟨cB, eB, l, ds, vs'', q1, q2, q3, q4, q5, q6, q7, q8, q9, q10, q11⟩ := args_ok ins' p4 (p1.vrs v1) p9
        have := q6 hdt
        subst this
        have hle := p1.trans q1
        have hS : cB.S = c.S := q2.trans p2
        have hσ : cB.σ = c.σ := q3.trans p3
        simp only [TDen, hi] at q11
        obtain ⟨k1, k2⟩ := q11
        simp only [List.map_cons] at k1 k2
        rw [Tm.den_of (q1.den p6), den_map q8] at k1 k2
        have hx : HL.dyn (insTys (.st b' obs' :: rest)) (HL.of (insTys (.st b' obs' :: rest)) (d :: ds)) = d :: ds := dyn_of (by simp only [List.map_cons, insTys, In.tys, List.cons_append, List.nil_append, p7, q9, v2]; rfl)
        have hfo : FldOk cB os obs' (U.lay b') d := fun j q hq hj => by
          have hgl : gs[j]? = some (gs[j]'(by omega)) := List.getElem?_eq_getElem _
          obtain ⟨q', r1, r2⟩ := g3 j _ hgl
          rw [Nat.zero_add, hq] at r1; cases r1
          have hcl : (cells U d).length = (U.lay b').length := by rw [cells_len, p7]; rfl
          have hdj : (cells U d)[j]? = some ((cells U d)[j]'(by omega)) := List.getElem?_eq_getElem _
          obtain ⟨f, f1, f2⟩ := p8.get hdj
          rw [hgl] at f1; cases f1
          refine ⟨_, _, hdj, r2.later q4 hle hS hσ, f2, ?_⟩
          obtain ⟨dt, dx⟩ := d
          simp only at p7
          subst p7
          have := U.acc_t b' dx j _ (List.getElem?_eq_getElem hj)
          rw [List.getElem?_eq_getElem hj]
          congr 1
          rw [← this]
          congr 1
          simp [cells]
        have hallB : ∀ (o : Nat) io, obs'[o]? = some io → chkO (U.lay b') obs' os cB.S o io = true := by rw [hS]; exact hall
        obtain ⟨σ1, s1, s2, s3⟩ := canon_st q4 hfo hlen hnd hallB
        obtain ⟨vs1, w1, w2⟩ := v3 ds q10
        have hep : epOf cB os = epOf c os := by
          funext o
          unfold epOf
          rw [hS]
          split
          · rename_i p hp
            split
            · rename_i w kk ty sz t x hn
              obtain ⟨ys, fs, z1, z2, z3, z4, z5, z6⟩ := arr_at ok hn
              rw [(hle.2 p _ _ z6).1]
            · rfl
          · rfl
        rw [← hep] at w2
        have hcall := hs (HL.of _ (d :: ds)) vs1 (epOf cB os) σ1 d ds (by rw [hx]; exact ⟨d, ds, rfl, p7, w1⟩) hx s3 s2 k1
        rw [← hσ]
        refine call_part s1 (fun j w E sz fs _ => rfl) w2 hcall fun r σ1' ⟨E', d', rs, e1, e2, e3⟩ => ?_
        have hty : (sfn (HL.of (insTys (.st b' obs' :: rest)) (d :: ds))).map Dyn.t = .base b' :: outs := sty (HL.of _ (d :: ds))
        have e1 : sfn (HL.of (insTys (.st b' obs' :: rest)) (d :: ds)) = d' :: rs := e1
        rw [e1] at hty
        simp only [List.map_cons, List.cons.injEq] at hty
        obtain ⟨hty1, hty2⟩ := hty
        have k2 : TDen Sp Post Go (k (eB.pushes (.base b' :: outs)) (oneOf (resVs U.lay (eB.pushes (.base b' :: outs)) (eB.n + 1) outs)) (newS U.lay (eB.pushes (.base b' :: outs)) eB.n os cA.S obs' 0 cA.S)) (cB.ρ ++ sfn (HL.of (insTys (.st b' obs' :: rest)) (d :: ds))) := k2
        rw [e1] at k2
        obtain ⟨t1, t2⟩ := later_pushes q4 (d' :: rs)
        simp only [List.map_cons, hty1, hty2] at t2
        let cC : Cx U := { cB with ρ := cB.ρ ++ d' :: rs }
        have hi0 : cC.ρ[eB.n]? = some d' := by
          show (cB.ρ ++ d' :: rs)[eB.n]? = _
          rw [q4.n, List.getElem?_append_right (Nat.le_refl _)]; simp
        have BB : Back U cC (eB.pushes (.base b' :: outs)) os obs' (U.lay b') d' b' eB.n E' σ1' := ⟨t2, hnd, hlen, hallB, hty1, hi0, e3⟩
        obtain ⟨σ', F1, F2, F3⟩ := BB.store (σ2 := σ1)
        refine ⟨mOf cC os E', σ', r, F1, rnV_res _ e2, ?_⟩
        obtain ⟨us, u1, rfl⟩ := e2
        have hres : Cx.vrs cC (resVs U.lay (eB.pushes (.base b' :: outs)) (eB.n + 1) outs) us := by
          subst hty2
          refine resVs_ok t2 (fun j dd hj => ?_) u1
          show (cB.ρ ++ d' :: rs)[eB.n + 1 + j]? = _
          rw [q4.n, List.getElem?_append_right (by omega), show cB.ρ.length + 1 + j - cB.ρ.length = j + 1 from by omega]
          simpa using hj
        have hS' : nS cC (eB.pushes (.base b' :: outs)) os obs' eB.n = newS U.lay (eB.pushes (.base b' :: outs)) eB.n os c.S obs' 0 c.S := by
          show newS U.lay _ eB.n os cB.S obs' 0 cB.S = _
          rw [hS]
        have hpS : cA.S = c.S := p2
        refine hk ⟨cC.ρ, cC.β, nS cC (eB.pushes (.base b' :: outs)) os obs' eB.n, σ'⟩ _ _ _ ((hle.trans t1).trans F3) F2 (F3.vr (oneOf_ok hres)) ?_
        show TDen Sp Post Go (k _ _ (nS cC (eB.pushes (.base b' :: outs)) os obs' eB.n)) (cB.ρ ++ d' :: rs)
        rw [hS', ← hpS]
        exact k2
      · exact h.elim
    · exact h.elim
  · exact h.elim
theorem ownO_ok : ∀ (own : List (Nat × Nat × Nat × Nat × Ty)) {c : Cx U} (ok : Ok c e) {S2 : SSt} (h : ownO own U.lay c.S = some S2), ∃ c2, Gh c.σ c2.σ ∧ Ok c2 e ∧ c2.S = S2 ∧ c2.ρ = c.ρ ∧ Le c c2
  | [], c, ok, S2, h => by
    simp only [ownO, Option.some.injEq] at h
    subst h
    exact ⟨c, Gh.refl _, ok, rfl, rfl, Le.refl c⟩
  | (o, j, ty, sz, t) :: r, c, ok, S2, h => by
    simp only [ownO] at h
    split at h
    · rename_i l ho
      split at h
      · rename_i hj
        split at h
        · rename_i e1 e2
          have e1 := beq_nat e1
          rw [wid_eq] at e1
          have e2 := okT_ok e2
          obtain ⟨ob, h1, l', rfl, h2⟩ := ok.get ho
          rw [nth_eq] at ho hj
          have hlt := (List.getElem?_eq_some_iff.1 ho).1
          obtain ⟨y, hy, h0⟩ := h2.get hj
          simp only [CR] at h0
          subst h0
          obtain ⟨g1, g2, g3⟩ := add_arr ok (l := .nil t) (xs := ([] : List (T U.B t))) (fs := []) rfl rfl e1 e2
          have ho' : nth (c.add ty (.arr true 0 ty sz t (.nil t)) (.arr true ty sz [])).S o = some (.cells l) := by
            rw [nth_eq]
            show (c.S ++ [_])[o]? = _
            rw [List.getElem?_append_left hlt]; exact ho
          obtain ⟨y0, hy0, h3⟩ := V_c (by simp) g3
          cases hy0
          have h4 : CRs _ _ _ (l.set j (.rs c.S.length 0)) (l'.set j (.rs c.σ.length ty 0)) := (CRs.later g1 h2).set j h3
          obtain ⟨k1, k2⟩ := set_cells (so' := .cells (l.set j (.rs c.S.length 0))) (ob' := .cells (l'.set j (.rs c.σ.length ty 0))) g2 ho' (by simp) fun ρ β ι hl => ⟨_, rfl, CRs.later hl h4⟩
          have gh : Gh c.σ _ := fun g w hr => let ⟨g', q1, q2, _⟩ := ghost_nilo (fr := []) (σ := c.σ) (o := o) (j := j) (ep := ty) (sz := sz) h1 hy g w #[] hr ⟨rfl, fun i => by simp [VRep, CRep]⟩; ⟨g', q1, q2⟩
          rw [put_eq, put_eq] at h
          obtain ⟨c2, q1, q2, q3, q4, q5⟩ := ownO_ok r k2 h
          exact ⟨c2, gh.trans q1, q2, q3, q4, (g1.trans k1).trans q5⟩
        · cases h
      · exact ownO_ok r ok h
    · exact ownO_ok r ok h
theorem callSt_ok (ok : Ok c e) {s : FSpec U} {b : Nat} {obs : List IO} (hst : stOf s.sig.ins = some (b, obs)) (hs : FTurn P s obs) {i : Nat} (hi : Sp[i]? = some s) {args : List SV} {vs : List V} (hv : c.vrs args vs) {k : K1} {K : V → St → Prop} (hk : FollS Sp Post Go c k K)
    (h : TDen Sp Post Go (callSt U.lay s.sig b obs i args e c.S k) c.ρ) : CallAt P s.sig.f vs c.σ K := by
  unfold callSt at h
  split at h
  · rename_i S' hS'
    obtain ⟨c2, q1, q2, q3, q4, q5⟩ := ownO_ok _ ok hS'
    rw [← q3, ← q4] at h
    have := callSt0_ok q2 hst hs hi (q5.vrs hv) (k := k) (K := K) (fun c' e' sv v g1 g2 g3 g4 => hk c' e' sv v (q5.trans g1) g2 g3 g4) h
    exact call_ghost (fun g w us hr hu => let ⟨g1, r1, t1⟩ := q1 g w hr; ⟨g1, r1, t1, VReps.turn t1 _ _ hu⟩) this
  · exact h.elim
end Go.Dm.Sx
namespace Go.Dm.Sx
open Go.Dm
set_option linter.unusedVariables false
set_option linter.unusedSimpArgs false
set_option linter.unusedSectionVars false
def guardS (e : SE) (A : SA) (g : Option (Option Tmp × Bool)) (x y : SE → Tr) : Tr :=
  match g with
  | .none => x e
  | .some (d, want) =>
    match d with
    | .none => y e
    | .some d =>
      match lkS A d with
      | .c (.d .bool b) => (match want with | true => brK e b x y | false => brK e b y x)
      | .t _ => y e
      | _ => .fail
abbrev KS := SE → SA → SSt → Tr
def sxs (X : SEnv) (call : CallS) (m : Nat) : List SItem → SE → SA → SSt → KS → Tr
  | [], e, A, S, k => k e A S
  | i :: r, e, A, S, k => guardS e A i.g (fun e => sop X call i.o e A S fun e v S => sxs X call m r e (putS m A i.dst v) S k) (fun e => sxs X call m r e (putS m A i.dst (.t [])) S k)
def strictC : SC → Bool
  | .d _ _ | .nil | .nilp | .nilm | .nilf | .fn _ | .el _ _ | .ptr _ _ => true
  | _ => false
def ptrS : SV → Bool
  | .c (.ptr _ _) => true
  | _ => false
def strictV : SV → Bool
  | .c x => strictC x
  | .a l => l.all strictC
  | .t _ => false
def cleanC (x : SC) : SC := match strictC x with | true => x | false => .un
def cleanV : SV → SV
  | .c x => .c (cleanC x)
  | .a l => (match l.all strictC with | true => .a l | false => .c .un)
  | .t _ => .c .un
def cleanA (A : SA) : SA := A.map fun p => (p.1, cleanV p.2)
def tlessS (tb : Tab) (o : Op) (A : SA) : Bool :=
  match o with
  | .move _ => true
  | .assign _ => true
  | .call { callee := .value _, .. } => false
  | .load _ x => strictV (opS A x) && !ptrS (opS A x)
  | o => !extraB tb o && stillOp tb o && o.operands.toList.all fun x => strictV (opS A x)
def okS (s : SOp) (A : SA) : Bool := match s with | .slc _ _ x _ _ => strictV (opS A x) | _ => true
def nearS (x : SV) : Bool := match x with | .c x => strictC x | _ => true
def okCS (s : SOp) (A : SA) : Bool :=
  match s with
  | .load _ _ x | .fa _ x | .nilc x | .ixa _ _ x _ | .ixr _ x _ | .len _ x | .slc _ _ x _ _ => nearS (opS A x)
  | _ => true
def inMatch : List In → List SV → Bool
  | .fnc f :: r, .c (.fn g) :: vs => (match Nat.beq f g with | true => inMatch r vs | false => false)
  | .fnc _ :: _, _ => false
  | .clo f _ :: r, .c (.clo g _) :: vs => (match Nat.beq f g with | true => inMatch r vs | false => false)
  | .clo _ _ :: _, _ => false
  | .st _ _ :: r, vs => inMatch r vs
  | .ptr _ off :: r, .c (.ptr _ i) :: vs => (match Nat.beq off i with | true => inMatch r vs | false => false)
  | .ptr _ _ :: _, _ => false
  | .cloP f _ :: r, .c (.clo g _) :: vs => (match Nat.beq f g with | true => inMatch r vs | false => false)
  | .cloP _ _ :: _, _ => false
  | .ty _ :: r, _ :: vs => inMatch r vs
  | .ty _ :: _, [] => false
  | [], _ => true
def findSig (f : Nat) (args : List SV) : List Sig → Nat → Option (Nat × Sig)
  | [], _ => .none
  | s :: r, i => (match Nat.beq s.f f with | true => (match inMatch s.ins args with | true => .some (i, s) | false => findSig f args r (i + 1)) | false => findSig f args r (i + 1))
def sopP (X : SEnv) (all : Bool) (f : Nat) (args : List SV) (e : SE) (S : SSt) (k : SE → SV → Tr) : Tr :=
  match findSig f args X.sigs 0 with
  | .none => .fail
  | .some (i, sg) =>
    match stOf sg.ins with
    | .some _ => .fail
    | .none =>
    let fin : SE → List Tm → Tr := fun e l => .call i l (k (e.pushes sg.outs) (oneOf (resVs X.lay (e.pushes sg.outs) e.n sg.outs)))
    match args.all dataV with
    | true => argsK X.lay [] sg.ins args e fin
    | false => (match all, sg.outs.all bareT with | false, true => argsK X.lay S sg.ins args e fin | _, _ => .fail)
variable [Pures]
def sopR (X : SEnv) (call : CallS) (m : Nat) (all : Bool) (s : SOp) (e : SE) (A : SA) (S : SSt) (k : K1) : Tr :=
  match pcall s with
  | true => (match s with | .call (.func f) args => sopP X all f (args.map (opS A)) e S fun e v => k e v S | _ => .fail)
  | false => (match (match all with | true => okCS s A | false => okS s A) with | true => sop X call s e A S k | false => .fail)
def sxt (X : SEnv) (call : CallS) (m : Nat) : YT → KS → SE → SA → SSt → Tr
  | .done, k, e, A, S => k e A S
  | .go i .none p, k, e, A, S => guardS e A i.g (fun e => sopR X call m false i.o e A S fun e v S => sxt X call m p k e (putS m A i.dst v) S) (fun e => sxt X call m p k e (putS m A i.dst (.t [])) S)
  | .goc i p, k, e, A, S => guardS e A i.g (fun e => sopR X call m true i.o e A S fun e v S => sxt X call m p k e (putS m A i.dst v) S) (fun e => sxt X call m p k e (putS m A i.dst (.t [])) S)
  | .go i (.some o) p, k, e, A, S =>
    (match tlessS X.tb o A with
    | true => guardS e A i.g (fun e =>
        (match i.o with
        | .mv x => sxt X call m p k e (putS m A i.dst (opS A x)) S
        | s => sop X call s e (cleanA A) [] fun e v S' => (match S', strictV v with | [], true => sxt X call m p k e (putS m A i.dst v) S | _, _ => .fail)))
        (fun e => sxt X call m p k e (putS m A i.dst (.t [])) S)
    | false => .fail)
  | .alt i p q, k, e, A, S => .both (guardS e A i.g (fun e => sopR X call m false i.o e A S fun e v S => sxt X call m p k e (putS m A i.dst v) S) (fun e => sxt X call m p k e (putS m A i.dst (.t [])) S)) (sxt X call m q k e A S)
  | .stop, _, _, _, _ => .triv
  | .sub s p, k, e, A, S => sxt X call m s (fun e A S => sxt X call m p k e A S) e A S
inductive XEnd where
  | norm | exit (i : Nat) | ret
abbrev KC := XEnd → SE → SA → SSt → Tr
def nl : YCode → Nat
  | .seq a b => nl a + nl b
  | .cond _ a b => nl a + nl b
  | .block _ c => nl c
  | .loop c => nl c + 1
  | _ => 0
def thenK (k : KC) (f : KS) (x : XEnd) (e : SE) (A : SA) (S : SSt) : Tr := match x with | .norm => f e A S | .exit i => k (.exit i) e A S | .ret => k .ret e A S
def blockK (id : Nat) (k : KC) (x : XEnd) (e : SE) (A : SA) (S : SSt) : Tr := match x with | .exit j => (match Nat.beq j id with | true => k .norm e A S | false => k (.exit j) e A S) | .norm => k .norm e A S | .ret => k .ret e A S
def memI (x : Nat) : List Nat → Bool
  | [] => false
  | y :: r => (match Nat.beq x y with | true => true | false => memI x r)
def itemsU : YT → List SItem
  | .done => []
  | .go i _ p => i :: itemsU p
  | .goc i p => i :: itemsU p
  | .alt i p q => i :: (itemsU p ++ itemsU q)
  | .stop => []
  | .sub s p => itemsU s ++ itemsU p
def cutD (all : Bool) : List SItem → List Nat
  | [] => []
  | i :: r => (match i.o with | .slc _ _ (.tmp t) lo _ => (match all || lo.isSome with | true => t :: cutD all r | false => cutD all r) | _ => cutD all r)
def cutM (D : List Nat) : List SItem → List Nat
  | [] => []
  | i :: r => (match i.o, i.dst with | .mv (.tmp s), .some d => (match memI d D with | true => s :: cutM D r | false => cutM D r) | _, _ => cutM D r)
def cutL (all : Bool) (l : List SItem) : List Nat := match cutD all l with | [] => [] | D => cutM D l ++ D
def frzT (m : Nat) : List Nat → SA → SSt → SA × SSt
  | [], A, S => (A, S)
  | i :: r, A, S =>
    match lkS A i with
    | .c (.rs o kk) =>
      (match frzV (.c (.rs o kk)) S, Nat.blt i m with
      | .some (x, S'), true => frzT m r ((i, x) :: A) S'
      | _, _ => frzT m r A S)
    | _ => frzT m r A S
def sxc (X : SEnv) (call : CallS) (m : Nat) (lp : Nat → KS) : YCode → Nat → KC → KS
  | .skip, _, k, e, A, S => k .norm e A S
  | .ops l, _, k, e, A, S => (match frzT m (cutL false l) A S with | (A, S) => sxs X call m l e A S (k .norm))
  | .tree t, _, k, e, A, S => (match frzT m (cutL true (itemsU t)) A S with | (A, S) => sxt X call m t (k .norm) e A S)
  | .any _ _, _, _, _, _, _ => .fail
  | .seq a b, p, k, e, A, S => sxc X call m lp a p (thenK k fun e A S => sxc X call m lp b (p + nl a) k e A S) e A S
  | .cond c a b, p, k, e, A, S =>
    (match opS A c with
    | .c (.d .bool x) => brK e x (fun e => sxc X call m lp a p k e A S) (fun e => sxc X call m lp b (p + nl a) k e A S)
    | _ => .fail)
  | .block id c, p, k, e, A, S => sxc X call m lp c p (blockK id k) e A S
  | .loop _, p, _, e, A, S => lp p e A S
  | .exit id, _, k, e, A, S => k (.exit id) e A S
  | .ret, _, k, e, A, S => k .ret e A S
  | .bad, _, _, _, _, _ => .fail
def sxl (X : SEnv) (call : CallS) (m : Nat) (lp : Nat → KS) (q : Nat) : YCode → Nat → KC → KS
  | .seq a b, p, k, e, A, S =>
    (match Nat.blt q (p + nl a) with
    | true => sxl X call m lp q a p (thenK k fun e A S => sxc X call m lp b (p + nl a) k e A S) e A S
    | false => sxl X call m lp q b (p + nl a) k e A S)
  | .cond _ a b, p, k, e, A, S => (match Nat.blt q (p + nl a) with | true => sxl X call m lp q a p k e A S | false => sxl X call m lp q b (p + nl a) k e A S)
  | .block id c, p, k, e, A, S => sxl X call m lp q c p (blockK id k) e A S
  | .loop c, p, k, e, A, S =>
    (match Nat.beq q p with
    | true => sxc X call m lp c (p + 1) (thenK k (lp p)) e A S
    | false => sxl X call m lp q c (p + 1) (thenK k (lp p)) e A S)
  | _, _, _, _, _, _ => .fail
def argsA : Nat → List SV → SA
  | _, [] => []
  | i, x :: r => (i, x) :: argsA (i + 1) r
def resS (lay : Nat → List Ty) (tb : Tab) : List ResultVar → SE → SA → SSt → (SE → List SV → Tr) → Tr
  | [], e, A, S, k => k e []
  | .tmp t :: r, e, A, S, k => resS lay tb r e A S fun e l => k e (lkS A t :: l)
  | .cell x t :: r, e, A, S, k =>
    (match (tb t).d.isNo with
    | true => .fail
    | false => addrS e (lkS A x) fun e y => loadS lay e (tb t).agg (tb t).size y S fun e v => resS lay tb r e A S fun e l => k e (v :: l))
def kRet (lay : Nat → List Ty) (tb : Tab) (rs : List ResultVar) (k : K1) (x : XEnd) (e : SE) (A : SA) (S : SSt) : Tr :=
  match x with
  | .norm => resS lay tb rs e A S fun e l => k e (oneOf l) S
  | .ret => resS lay tb rs e A S fun e l => k e (oneOf l) S
  | .exit _ => .fail
def callN (X : SEnv) (n f : Nat) (args : List SV) (e : SE) (S : SSt) (k : K1) : Tr :=
  match n with
  | 0 => .fail
  | n + 1 =>
    match X.same f with
    | true => (match args with | [x] => k e x S | _ => .fail)
    | false =>
      match findSig f args X.sigs 0 with
      | .some (i, sg) => (match stOf sg.ins with | .some (b, obs) => callSt X.lay sg b obs i args e S k | .none => callSpec X.lay sg i args e S k)
      | .none =>
        match X.bodies f with
        | .none => .fail
        | .some F => (match Nat.ble args.length F.m with
          | true => sxc X (callN X n) F.m (fun _ _ _ _ => .fail) F.code 0 (kRet X.lay X.tb F.rs k) e (argsA 0 args) S
          | false => .fail)
structure Tmpl where
  tys : List Ty
  A : SA
  S : SSt
  own : List (Nat × Nat × Nat × Ty)
  owo : List (Nat × Nat × Nat × Nat × Ty) := []
  q : Nat := 0
  deriving Inhabited
abbrev Th := List (Option Tm)
def bindT (lay : Nat → List Ty) (e : SE) (tys : List Ty) (θ : Th) (i : Nat) (x : Tm) : Option Th :=
  match nth θ i with
  | .some .none => (match nth tys i, tmTy lay e x with | .some t, .some t' => (match Ty.eqb t t' with | true => .some (put θ i (.some x)) | false => .none) | _, _ => .none)
  | .some (.some y) => (match Tm.eqb y x with | true => .some θ | false => .none)
  | .none => .none
def mTm (lay : Nat → List Ty) (e : SE) (tys : List Ty) (p x : Tm) (θ : Th) : Option Th :=
  match p with
  | .at i => bindT lay e tys θ i x
  | .fld _ _ => .none
  | p => (match Tm.eqb p x with | true => .some θ | false => .none)
def isArr (S : SSt) (o : Nat) : Bool := match nth S o with | .some (.arr ..) => true | _ => false
mutual
def mC (lay : Nat → List Ty) (e : SE) (tm : Tmpl) (S : SSt) : SC → SC → Th → Option Th
  | .d t p, x, θ =>
    (match x with
    | .d t' y => (match Ty.eqb t t' with | true => mTm lay e tm.tys p y θ | false => .none)
    | .nil => (match t with | .list u => mTm lay e tm.tys p (.nil u) θ | _ => .none)
    | .nilp => (match t with | .opt u => mTm lay e tm.tys p (.none u) θ | _ => .none)
    | _ => .none)
  | .nil, x, θ => (match x with | .nil => .some θ | _ => .none)
  | .nilp, x, θ => (match x with | .nilp => .some θ | _ => .none)
  | .nilm, x, θ => (match x with | .nilm => .some θ | _ => .none)
  | .nilf, x, θ => (match x with | .nilf => .some θ | _ => .none)
  | .fn f, x, θ => (match x with | .fn g => (match Nat.beq f g with | true => .some θ | false => .none) | _ => .none)
  | .clo f caps, x, θ => (match x with | .clo g l => (match Nat.beq f g with | true => mCs lay e tm S caps l θ | false => .none) | _ => .none)
  | .ptr o i, x, θ => (match x with | .ptr o' i' => (match Nat.beq o o', Nat.beq i i' with | true, true => .some θ | _, _ => .none) | _ => .none)
  | .el p j, x, θ => (match x with | .el y j' => (match Nat.beq j j' with | true => mTm lay e tm.tys p y θ | false => .none) | _ => .none)
  | .rs o k, x, θ => (match x with | .rs o' k' => (match Nat.beq o o', Nat.beq k 0, freshS S o' k', isArr tm.S o with | true, true, true, true => .some θ | _, _, _, _ => .none) | _ => .none)
  | .mp _, _, _ => .none
  | .pa .., _, _ => .none
  | .un, _, _ => .none
def mCs (lay : Nat → List Ty) (e : SE) (tm : Tmpl) (S : SSt) : List SC → List SC → Th → Option Th
  | [], l, θ => (match l with | [] => .some θ | _ => .none)
  | p :: ps, l, θ => (match l with | [] => .none | x :: xs => (match mC lay e tm S p x θ with | .some θ' => mCs lay e tm S ps xs θ' | .none => .none))
end
def mV (lay : Nat → List Ty) (e : SE) (tm : Tmpl) (S : SSt) (p x : SV) (θ : Th) : Option Th :=
  match p, x with
  | .c p, .c x => mC lay e tm S p x θ
  | .a p, .a x => mCs lay e tm S p x θ
  | _, _ => .none
def mOb (lay : Nat → List Ty) (e : SE) (tm : Tmpl) (S : SSt) (p x : SOb) (θ : Th) : Option Th :=
  match p, x with
  | .cells p, .cells x => mCs lay e tm S p x θ
  | .arr w k ty sz t p, .arr w' k' ty' sz' t' x =>
    (match (match w, w' with | true, true => true | false, false => true | _, _ => false), Nat.beq k 0, nbeq ty ty', Nat.beq sz sz', Ty.eqb t t' with
    | true, true, true, true, true => mTm lay e tm.tys p x θ
    | _, _, _, _, _ => .none)
  | .bld T u p, .bld T' u' x => (match Nat.beq T T', (match u, u' with | .none, _ => true | .some true, .some true => true | .some false, .some false => true | _, _ => false) with | true, true => mC lay e tm S p x θ | _, _ => .none)
  | _, _ => .none
def mA (lay : Nat → List Ty) (e : SE) (tm : Tmpl) (A : SA) (S : SSt) : SA → Th → Option Th
  | [], θ => .some θ
  | (i, p) :: r, θ => (match mV lay e tm S p (lkS A i) θ with | .some θ' => mA lay e tm A S r θ' | .none => .none)
def mS (lay : Nat → List Ty) (e : SE) (tm : Tmpl) (S : SSt) : SSt → SSt → Th → Option Th
  | [], _, θ => .some θ
  | _ :: _, [], _ => .none
  | p :: ps, x :: xs, θ => (match mOb lay e tm S p x θ with | .some θ' => mS lay e tm S ps xs θ' | .none => .none)
def allSome : Th → Option (List Tm)
  | [] => .some []
  | .none :: _ => .none
  | .some x :: r => (match allSome r with | .some l => .some (x :: l) | .none => .none)
mutual
def inC (n : Nat) : SC → Bool
  | .ptr o _ => Nat.blt o n
  | .rs o _ => Nat.blt o n
  | .clo _ caps => inCs n caps
  | .pa .. => false
  | .mp _ => false
  | .un => false
  | _ => true
def inCs (n : Nat) : List SC → Bool
  | [] => true
  | x :: r => (match inC n x with | true => inCs n r | false => false)
end
def inV (n : Nat) : SV → Bool
  | .c x => inC n x
  | .a l => inCs n l
  | .t _ => false
def inOb (n : Nat) : SOb → Bool
  | .cells l => inCs n l
  | .arr .. => true
  | .bld _ _ x => inC n x
  | .any => false
def tmplOk (tm : Tmpl) : Bool := tm.A.all (fun p => inV tm.S.length p.2) && tm.S.all (inOb tm.S.length)
def ownS : List (Nat × Nat × Nat × Ty) → Nat → (Nat → List Ty) → SA → SSt → Option (SA × SSt)
  | [], _, _, A, S => .some (A, S)
  | (d, ty, sz, t) :: r, m, lay, A, S =>
    match lkS A d with
    | .c .nil => (match Nat.beq sz (wid lay t), Nat.ble ty 4294967295, Nat.blt d m with | true, true, true => ownS r m lay ((d, .c (.rs S.length 0)) :: A) (S ++ [.arr true 0 ty sz t (.nil t)]) | _, _, _ => .none)
    | _ => ownS r m lay A S
def go1 (lay : Nat → List Ty) (m : Nat) (tm : Tmpl) (i : Nat) (e : SE) (A : SA) (S : SSt) : Tr :=
  match tmplOk tm, ownS tm.own m lay A S with
  | true, .some (A, S0) =>
    (match ownO tm.owo lay S0 with
    | .none => .fail
    | .some S =>
    match mA lay e tm A S tm.A (List.replicate tm.tys.length .none) with
    | .none => .fail
    | .some θ =>
      match mS lay e tm S tm.S S θ with
      | .none => .fail
      | .some θ => (match allSome θ with | .some l => .go i l | .none => .fail))
  | _, _ => .fail
def goF (lay : Nat → List Ty) (m n j : Nat) (e : SE) (A : SA) (S : SSt) : List Tmpl → Nat → Tr
  | [], _ => .fail
  | tm :: r, i =>
    match Nat.beq tm.q j, Nat.ble n tm.S.length with
    | true, true => (match go1 lay m tm i e A S with | .fail => goF lay m n j e A S r (i + 1) | t => t)
    | _, _ => goF lay m n j e A S r (i + 1)
def goS (lay : Nat → List Ty) (m : Nat) (tms : List Tmpl) (j : Nat) (e : SE) (A : SA) (S : SSt) : Tr := goF lay m 0 j e A S tms 0
end Go.Dm.Sx
namespace Go.Dm.Sx
open Go.Dm
set_option linter.unusedVariables false
set_option linter.unusedSimpArgs false
set_option linter.unusedSectionVars false
mutual
def canon : F → F
  | .nils => .sl 0 []
  | .sl n cs => .sl n (canons cs)
  | .obj cs => .obj (canons cs)
  | x => x
def canons : List F → List F
  | [] => []
  | x :: r => canon x :: canons r
end
def canonC : Dm.C → Dm.C
  | .f x => .f (canon x)
  | x => x
mutual
def canonV : V → V
  | .c x => .c (canonC x)
  | .a l => .a (l.map canonC)
  | .t l => .t (canonVs l)
def canonVs : List V → List V
  | [] => []
  | x :: r => canonV x :: canonVs r
end
mutual
theorem FRep.canon {g : G} {w : World} : ∀ {x : F} {v : Value}, FRep g w x v → FRep g w (canon x) v
  | .bool _, _, h | .int _ _, _, h | .flo _, _, h | .cpl _ _, _, h | .str _, _, h | .nilp, _, h | .nilm, _, h | .nilf, _, h | .fn _, _, h => h
  | .nils, v, h => by simp only [FRep] at h; subst h; exact ⟨none, 0, rfl, Nat.le_refl _, Nat.zero_le _, .inl ⟨.inl rfl, rfl, rfl⟩⟩
  | .sl n cs, v, h => by
    obtain ⟨a, cap, rfl, h1, h2, h3⟩ := h
    refine ⟨a, cap, rfl, h1, h2, ?_⟩
    rcases h3 with ⟨q1, q2, rfl⟩ | ⟨b, o, rfl, h3⟩
    · exact .inl ⟨q1, q2, rfl⟩
    · exact .inr ⟨b, o, rfl, FRow.canon h3⟩
  | .obj cs, v, h => by
    obtain ⟨b, rfl, h3⟩ := h
    exact ⟨b, rfl, FRow.canon h3⟩
theorem FRow.canon {g : G} {w : World} : ∀ {cs : List F} {b o : Nat}, FRow g w b o cs → FRow g w b o (canons cs)
  | [], _, _, _ => trivial
  | x :: r, b, o, h => by
    obtain ⟨hz, ⟨u, hu, hx⟩, hr⟩ := h
    exact ⟨hz, ⟨u, hu, FRep.canon hx⟩, FRow.canon hr⟩
end
theorem CRep.canon {g : G} {w : World} {σ : St} {x : Dm.C} {v : Value} (h : CRep g w σ x v) : CRep g w σ (canonC x) v := by
  cases x <;> first | exact h | exact FRep.canon h
theorem CReps.canon {g : G} {w : World} {σ : St} : ∀ {l : List Dm.C} {vs : List Value}, CReps g w σ l vs → CReps g w σ (l.map canonC) vs
  | [], vs, h => h
  | x :: r, vs, h => by obtain ⟨v, vr, rfl, h1, h2⟩ := h; exact ⟨v, vr, rfl, CRep.canon h1, CReps.canon h2⟩
mutual
theorem VRep.canon {g : G} {w : World} {σ : St} : ∀ {x : V} {v : Value}, VRep g w σ x v → VRep g w σ (canonV x) v
  | .c x, v, h => CRep.canon h
  | .a l, v, h => by obtain ⟨vs, rfl, h1⟩ := h; exact ⟨vs, rfl, CReps.canon h1⟩
  | .t l, v, h => by obtain ⟨vs, rfl, h1⟩ := h; exact ⟨vs, rfl, VReps.canon h1⟩
theorem VReps.canon {g : G} {w : World} {σ : St} : ∀ {l : List V} {vs : List Value}, VReps g w σ l vs → VReps g w σ (canonVs l) vs
  | [], vs, h => h
  | x :: r, vs, h => by obtain ⟨v, vr, rfl, h1, h2⟩ := h; exact ⟨v, vr, rfl, VRep.canon h1, VReps.canon h2⟩
end
section
variable {U : Uni}
mutual
theorem FD.canon : ∀ {x : F} {d : Dyn U.B}, FD U x d → FD U (canon x) d
  | .bool _, _, h | .int _ _, _, h | .flo _, _, h | .cpl _ _, _, h | .str _, _, h | .nilp, _, h | .nilm, _, h | .nilf, _, h | .fn _, _, h => h
  | .nils, d, h => by simp only [FD] at h; obtain ⟨t, rfl⟩ := h; simp only [Sx.canon, FD]; exact ⟨t, [], rfl, rfl, rfl⟩
  | .sl n cs, d, h => by simp only [FD] at h; obtain ⟨t, xs, rfl, h1, h2⟩ := h; simp only [Sx.canon, FD]; exact ⟨t, xs, rfl, h1, FDs.canon h2⟩
  | .obj cs, d, h => by
    simp only [FD] at h
    simp only [Sx.canon, FD]
    rcases h with ⟨t, x, rfl, h2⟩ | ⟨t, x, rfl, h2⟩
    · exact .inl ⟨t, x, rfl, FDs.canon h2⟩
    · exact .inr ⟨t, x, rfl, FDs.canon h2⟩
theorem FDs.canon : ∀ {l : List F} {ds : List (Dyn U.B)}, FDs U l ds → FDs U (canons l) ds
  | [], ds, h => h
  | x :: r, ds, h => by simp only [FDs] at h; obtain ⟨d, l', rfl, h1, h2⟩ := h; exact ⟨d, l', rfl, FD.canon h1, FDs.canon h2⟩
end
mutual
theorem FD.one : ∀ {x y : F} {d : Dyn U.B}, FD U x d → FD U y d → canon x = canon y
  | .bool b, y, d, h, k => by simp only [FD] at h; subst h; rw [FD.bool k]
  | .int kd n, y, d, h, k => by simp only [FD] at h; subst h; rw [FD.int k]
  | .flo b, y, d, h, k => by simp only [FD] at h; subst h; rw [FD.flo k]
  | .cpl a b, y, d, h, k => by simp only [FD] at h; subst h; rw [FD.cpl k]
  | .str s, y, d, h, k => by simp only [FD] at h; subst h; rw [FD.str k]
  | .nils, y, d, h, k => by
    simp only [FD] at h; obtain ⟨t, rfl⟩ := h
    rcases FD.list k with ⟨rfl, _⟩ | ⟨fs, rfl, h2⟩
    · rfl
    · have : fs = [] := List.eq_nil_of_length_eq_zero (by rw [h2.len]; rfl)
      subst this; rfl
  | .sl n cs, y, d, h, k => by
    simp only [FD] at h; obtain ⟨t, xs, rfl, rfl, h2⟩ := h
    rcases FD.list k with ⟨rfl, rfl⟩ | ⟨fs, rfl, h3⟩
    · have : cs = [] := List.eq_nil_of_length_eq_zero (by rw [h2.len]; rfl)
      subst this; rfl
    · simp only [Sx.canon, FDs.one h2 h3]
  | .nilp, y, d, h, k => by
    simp only [FD] at h; obtain ⟨t, rfl⟩ := h
    rcases FD.opt k with ⟨rfl, _⟩ | ⟨y', fs, rfl, h2, _⟩
    · rfl
    · cases h2
  | .obj cs, y, d, h, k => by
    simp only [FD] at h
    rcases h with ⟨t, x, rfl, h2⟩ | ⟨t, x, rfl, h2⟩
    · rcases FD.opt k with ⟨rfl, h3⟩ | ⟨y', fs, rfl, h3, h4⟩
      · cases h3
      · cases h3
        simp only [Sx.canon, FDs.one h2 h4]
    · obtain ⟨fs, rfl, h4⟩ := FD.ptr k
      simp only [Sx.canon, FDs.one h2 h4]
  | .nilm, y, d, h, k => by simp only [FD] at h
  | .nilf, y, d, h, k => by simp only [FD] at h
  | .fn _, y, d, h, k => by simp only [FD] at h
theorem FDs.one : ∀ {l m : List F} {ds : List (Dyn U.B)}, FDs U l ds → FDs U m ds → canons l = canons m
  | [], m, ds, h, k => by
    simp only [FDs] at h; subst h
    have : m = [] := List.eq_nil_of_length_eq_zero (by rw [k.len]; rfl)
    subst this; rfl
  | x :: r, m, ds, h, k => by
    simp only [FDs] at h; obtain ⟨d, l', rfl, h1, h2⟩ := h
    cases m with
    | nil => have := k.len; simp at this
    | cons y s =>
      simp only [FDs] at k; obtain ⟨d', l2, e, k1, k2⟩ := k
      cases e
      simp only [canons, FD.one h1 k1, FDs.one h2 k2]
end
theorem canonC_f : ∀ (fs : List F), (fs.map Dm.C.f).map canonC = (canons fs).map Dm.C.f
  | [] => rfl
  | x :: r => by simp only [List.map_cons, canonC, canons, canonC_f r]
theorem DV.canon {d : Dyn U.B} {v : V} (h : DV U d v) : DV U d (canonV v) := by
  unfold DV at h ⊢
  split at h
  · obtain ⟨fs, rfl, h1⟩ := h
    exact ⟨canons fs, by simp only [canonV, canonC_f], h1.canon⟩
  · obtain ⟨f, rfl, h1⟩ := h
    exact ⟨Sx.canon f, rfl, h1.canon⟩
theorem DV.one {d : Dyn U.B} {v u : V} (h : DV U d v) (k : DV U d u) : canonV v = canonV u := by
  unfold DV at h k
  split at h
  · rename_i hb
    rw [hb] at k
    obtain ⟨fs, rfl, h1⟩ := h
    obtain ⟨gs, rfl, k1⟩ := k
    simp only [canonV, canonC_f, FDs.one h1 k1]
  · rename_i hb
    obtain ⟨f, rfl, h1⟩ := h
    split at k
    · rename_i b hb'; exact (hb _ hb').elim
    · obtain ⟨f', rfl, k1⟩ := k
      simp only [canonV, canonC, FD.one h1 k1]
theorem DVs.canon : ∀ {ds : List (Dyn U.B)} {vs : List V}, DVs U ds vs → DVs U ds (canonVs vs)
  | [], vs, h => by simp only [DVs] at h; subst h; rfl
  | d :: ds, vs, h => by obtain ⟨v, vr, rfl, h1, h2⟩ := h; exact ⟨_, _, rfl, h1.canon, DVs.canon h2⟩
theorem DVs.one : ∀ {ds : List (Dyn U.B)} {vs us : List V}, DVs U ds vs → DVs U ds us → canonVs vs = canonVs us
  | [], vs, us, h, k => by simp only [DVs] at h k; subst h k; rfl
  | d :: ds, vs, us, h, k => by
    obtain ⟨v, vr, rfl, h1, h2⟩ := h
    obtain ⟨u, ur, rfl, k1, k2⟩ := k
    simp only [canonVs, h1.one k1, DVs.one h2 k2]
theorem canon_oneV (l : List V) : canonV (oneV l) = oneV (canonVs l) := by
  match l with
  | [] => rfl
  | [v] => rfl
  | v :: u :: r => rfl
theorem ResR.canon {ds : List (Dyn U.B)} {r : V} (h : ResR U ds r) : ResR U ds (canonV r) := by
  obtain ⟨vs, h1, rfl⟩ := h
  exact ⟨_, h1.canon, canon_oneV vs⟩
theorem ResR.one {ds : List (Dyn U.B)} {r q : V} (h : ResR U ds r) (k : ResR U ds q) : canonV r = canonV q := by
  obtain ⟨vs, h1, rfl⟩ := h
  obtain ⟨us, k1, rfl⟩ := k
  rw [canon_oneV, canon_oneV, h1.one k1]
class FullU (U : Uni) : Prop where
  has : ∀ d : Dyn U.B, ∃ fs, FDs U fs (cells U d)
theorem DV.has [FullU U] (d : Dyn U.B) : ∃ v, DV U d v := by
  obtain ⟨fs, h⟩ := FullU.has d
  obtain ⟨t, x⟩ := d
  have one : ∀ {d : Dyn U.B} {fs : List F}, FDs U fs [d] → ∃ f, FD U f d := fun {d fs} h => by
    cases fs with
    | nil => simp only [FDs] at h; cases h
    | cons f r => simp only [FDs] at h; obtain ⟨d', l', e, h1, _⟩ := h; cases e; exact ⟨f, h1⟩
  cases t <;> first
    | exact ⟨.a (fs.map .f), fs, rfl, h⟩
    | exact (let ⟨f, h1⟩ := one h; ⟨.c (.f f), f, rfl, h1⟩)
theorem DVs.has [FullU U] : ∀ (ds : List (Dyn U.B)), ∃ vs, DVs U ds vs
  | [] => ⟨[], rfl⟩
  | d :: ds => let ⟨v, h1⟩ := DV.has d; let ⟨vs, h2⟩ := DVs.has ds; ⟨v :: vs, v, vs, rfl, h1, h2⟩
theorem ResR.has [FullU U] (ds : List (Dyn U.B)) : ∃ r, ResR U ds r ∧ ∀ q, ResR U ds q → canonV q = r :=
  let ⟨vs, h⟩ := DVs.has ds
  have h1 : ResR U ds (oneV vs) := ⟨vs, h, rfl⟩
  ⟨canonV (oneV vs), h1.canon, fun q hq => hq.one h1⟩
theorem CallAt.canon {P : Program} {f : FuncId} {vs : List V} {σ : St} {ds : List (Dyn U.B)} {r : V} (hr : ∀ q, ResR U ds q → canonV q = r) (h : CallAt P f vs σ fun q σ' => ResR U ds q ∧ σ' = σ) : CallAt P f vs σ fun q σ' => q = r ∧ σ' = σ := by
  intro g w us hr' hv
  have hend : ∀ v w', CallEnd g w σ (fun q σ' => ResR U ds q ∧ σ' = σ) v w' → CallEnd g w σ (fun q σ' => q = r ∧ σ' = σ) v w' := by
    rintro v w' ⟨q, σ', g', ⟨h1, h2⟩, h3, h4, h5⟩
    exact ⟨canonV q, σ', g', ⟨hr q h1, h2⟩, h3, h4, VRep.canon h5⟩
  rcases h g w us hr' hv with ⟨v, w', h1, h2⟩ | ⟨h1, h2⟩
  · exact .inl ⟨v, w', h1, hend v w' h2⟩
  · exact .inr ⟨h1, h2.mono fun e w' ⟨v, h3, h4⟩ => ⟨v, h3, hend v w' h4⟩⟩
end
section
variable {U : Uni}
def Has (U : Uni) (d : Dyn U.B) : Prop := ∃ fs, FDs U fs (cells U d)
def Has1 (U : Uni) (d : Dyn U.B) : Prop := ∃ f, FD U f d
theorem FDs.build : ∀ {ds : List (Dyn U.B)}, (∀ d ∈ ds, Has1 U d) → ∃ fs, FDs U fs ds
  | [], _ => ⟨[], rfl⟩
  | d :: ds, h =>
    let ⟨f, h1⟩ := h d (List.mem_cons_self ..)
    let ⟨fs, h2⟩ := FDs.build (ds := ds) fun x hx => h x (List.mem_cons_of_mem _ hx)
    ⟨f :: fs, d, ds, rfl, h1, h2⟩
theorem FDs.flatten {t : Ty} : ∀ {xs : List (T U.B t)}, (∀ x ∈ xs, Has U ⟨t, x⟩) → ∃ fs, FDs U fs (flat U xs)
  | [], _ => ⟨[], rfl⟩
  | x :: xs, h =>
    let ⟨fs, h1⟩ := h x (List.mem_cons_self ..)
    let ⟨gs, h2⟩ := FDs.flatten (xs := xs) fun y hy => h y (List.mem_cons_of_mem _ hy)
    ⟨fs ++ gs, by rw [flat_cons]; exact h1.append h2⟩
theorem has_one {d : Dyn U.B} (hc : cells U d = [d]) (h : Has1 U d) : Has U d := by
  obtain ⟨f, h⟩ := h
  exact ⟨[f], by rw [hc]; exact ⟨d, [], rfl, h, rfl⟩⟩
theorem has1_list {t : Ty} {xs : List (T U.B t)} (h : ∀ x ∈ xs, Has U ⟨t, x⟩) : Has1 U ⟨.list t, xs⟩ :=
  let ⟨fs, h1⟩ := FDs.flatten h
  ⟨.sl xs.length fs, t, xs, rfl, rfl, h1⟩
def tyBelow (n : Nat) : Ty → Bool
  | .list t => tyBelow n t
  | .ptr t => tyBelow n t
  | .opt t => tyBelow n t
  | .base m => Nat.blt m n
  | _ => true
theorem has_ty {n : Nat} (hb : ∀ m, m < n → ∀ x : U.B m, Has U ⟨.base m, x⟩) : ∀ (t : Ty), tyBelow n t = true → ∀ x : T U.B t, Has U ⟨t, x⟩
  | .int k, _, x => has_one rfl ⟨.int k x, rfl⟩
  | .bool, _, x => has_one rfl ⟨.bool x, rfl⟩
  | .str, _, x => has_one rfl ⟨.str x, rfl⟩
  | .flo, _, x => has_one rfl ⟨.flo x, rfl⟩
  | .cpl, _, x => has_one rfl ⟨.cpl x.1 x.2, rfl⟩
  | .list t, h, x => has_one rfl (has1_list fun y _ => has_ty hb t h y)
  | .ptr t, h, x => has_one rfl (let ⟨fs, h1⟩ := has_ty hb t h x; ⟨.obj fs, .inr ⟨t, x, rfl, h1⟩⟩)
  | .opt t, h, x => has_one rfl (match x with
    | none => ⟨.nilp, t, rfl⟩
    | some y => let ⟨fs, h1⟩ := has_ty hb t h y; ⟨.obj fs, .inl ⟨t, y, rfl, h1⟩⟩)
  | .base m, h, x => hb m (blt_nat h) x
theorem has1_ty {n : Nat} (hb : ∀ m, m < n → ∀ x : U.B m, Has U ⟨.base m, x⟩) {t : Ty} (h : tyBelow n t = true) (hn : ∀ m, t ≠ .base m) (x : T U.B t) : Has1 U ⟨t, x⟩ := by
  obtain ⟨fs, h1⟩ := has_ty hb t h x
  have hc : cells U ⟨t, x⟩ = [⟨t, x⟩] := by cases t <;> first | rfl | exact (hn _ rfl).elim
  rw [hc] at h1
  cases fs with
  | nil => cases h1
  | cons f r => obtain ⟨d', l', e, h2, _⟩ := h1; cases e; exact ⟨f, h2⟩
def noBase : Ty → Bool
  | .base _ => false
  | _ => true
theorem has_base {n : Nat} (hb : ∀ m, m < n → ∀ x : U.B m, Has U ⟨.base m, x⟩) (x : U.B n)
    (hx : ∀ j t, (U.lay n)[j]? = some t → noBase t = true ∧ (tyBelow n t = true ∨ ∃ xs : List (T U.B (.base n)), U.acc n x j = ⟨.list (.base n), xs⟩ ∧ ∀ y ∈ xs, Has U ⟨.base n, y⟩)) : Has U ⟨.base n, x⟩ := by
  refine FDs.build fun d hd => ?_
  obtain ⟨j, hj, rfl⟩ := List.mem_map.1 hd
  have hj := List.mem_range.1 hj
  have ht : (U.lay n)[j]? = some (U.lay n)[j] := List.getElem?_eq_getElem hj
  obtain ⟨h1, h2⟩ := hx j _ ht
  rcases h2 with h2 | ⟨xs, h3, h4⟩
  · have e := U.acc_t n x j _ ht
    generalize U.acc n x j = d at e ⊢
    obtain ⟨t, v⟩ := d
    simp only at e
    subst e
    exact has1_ty hb h2 (fun m e => by rw [e] at h1; cases h1) v
  · rw [h3]; exact has1_list h4
end
theorem nth_add {σ : St} {o : Nat} {ob : Ob} (h : nth σ o = some ob) (new : St) : nth (σ ++ new) o = some ob := by
  rw [nth_eq] at h ⊢; exact at_add h new
theorem snap_add (new : St) : ∀ (n : Nat), (∀ {σ : St} {x y : Dm.C}, snapC n σ x = some y → snapC n (σ ++ new) x = some y) ∧ (∀ {σ : St} {l m : List Dm.C}, snapCs n σ l = some m → snapCs n (σ ++ new) l = some m) := by
  have rs : ∀ (n : Nat) {σ : St} {o e k : Nat} {y : Dm.C}, snapC n σ (.rs o e k) = some y → snapC n (σ ++ new) (.rs o e k) = some y := fun n {σ o e k y} h => by
    cases n <;>
    · simp only [snapC] at h ⊢
      split at h
      · rename_i ho
        rw [nth_add ho new]
        exact h
      · cases h
  intro n
  induction n with
  | zero =>
    refine ⟨fun {σ x y} h => ?_, fun {σ l m} h => ?_⟩
    · cases x <;> first
        | exact rs 0 h
        | (simp only [snapC] at h ⊢; first | exact h | cases h)
    · cases l <;> simp only [snapCs] at h ⊢ <;> first | exact h | cases h
  | succ n ih =>
    refine ⟨fun {σ x y} h => ?_, fun {σ l m} h => ?_⟩
    · cases x <;> first
        | exact rs (n + 1) h
        | (simp only [snapC] at h ⊢; first | exact h | cases h; done)
        | skip
      · simp only [snapC] at h ⊢
        split at h
        · rename_i cs ho
          rw [nth_add ho new]
          simp only
          split at h
          · rename_i l hl
            rw [ih.2 hl]
            exact h
          · cases h
        · cases h
      · simp only [snapC] at h ⊢
        split at h
        · rename_i l hl
          rw [ih.2 hl]
          exact h
        · cases h
    · cases l with
      | nil => simp only [snapCs] at h ⊢; exact h
      | cons x r =>
        simp only [snapCs] at h ⊢
        split at h
        · cases h
        · rename_i y hy
          rw [ih.1 hy]
          simp only
          split at h
          · rename_i l hl
            rw [ih.2 hl]
            exact h
          · cases h
theorem snapVs_add (new : St) : ∀ {l m : List V} {σ : St}, snapVs σ l = some m → snapVs (σ ++ new) l = some m
  | [], m, σ, h => by simp only [snapVs] at h ⊢; exact h
  | x :: r, m, σ, h => by
    have one : ∀ {y : V}, snapV σ x = some y → snapV (σ ++ new) x = some y := fun {y} h => by
      cases x with
      | c x =>
        simp only [snapV] at h ⊢
        split at h
        · rename_i z hz
          rw [(snap_add new 1000).1 hz]
          exact h
        · cases h
      | a l =>
        simp only [snapV] at h ⊢
        split at h
        · rename_i z hz
          rw [(snap_add new 1000).2 hz]
          exact h
        · cases h
      | t l => simp only [snapV] at h; cases h
    simp only [snapVs] at h ⊢
    split at h
    · cases h
    · rename_i y hy
      rw [one hy]
      simp only
      split at h
      · rename_i l hl
        rw [snapVs_add new hl]
        exact h
      · cases h
variable {U : Uni} {P : Program} {Sp : List (FSpec U)} {Post : List (Dyn U.B) → Prop} {Go : Nat → List (Dyn U.B) → Prop} {X : SEnv} {c : Cx U} {e : SE}
def Fixed (P : Program) (all : Bool) (f : Nat) (vs : List V) (σ : St) (r : V) : Prop :=
  match all with
  | true => ∀ σ', CallAt P f vs σ' fun q σ'' => q = r ∧ σ'' = σ'
  | false => ∀ new, CallAt P f vs (σ ++ new) fun q σ'' => q = r ∧ σ'' = σ ++ new
def PureSOk (P : Program) (Sp : List (FSpec U)) (Post : List (Dyn U.B) → Prop) (Go : Nat → List (Dyn U.B) → Prop) (X : SEnv) : Prop :=
  ∀ (all : Bool) (c : Cx U) (e : SE) (f : Nat) (args : List SV) (vs : List V) (k : SE → SV → Tr) (K : V → Prop), Ok c e → c.vrs args vs → Foll Sp Post Go c k K → TDen Sp Post Go (sopP X all f args e c.S k) c.ρ → ∃ r, Fixed P all f vs c.σ r ∧ K r
theorem find_ok {f : Nat} {args : List SV} : ∀ {l : List Sig} {i j : Nat} {sg : Sig}, findSig f args l i = some (j, sg) → i ≤ j ∧ l[j - i]? = some sg ∧ sg.f = f
  | [], i, j, sg, h => by simp [findSig] at h
  | s :: r, i, j, sg, h => by
    simp only [findSig] at h
    split at h
    · rename_i hb
      split at h
      · cases h; exact ⟨Nat.le_refl _, by simp, beq_nat hb⟩
      · obtain ⟨h1, h2, h3⟩ := find_ok h
        exact ⟨by omega, by rw [show j - i = (j - (i + 1)) + 1 from by omega]; exact h2, h3⟩
    · obtain ⟨h1, h2, h3⟩ := find_ok h
      exact ⟨by omega, by rw [show j - i = (j - (i + 1)) + 1 from by omega]; exact h2, h3⟩
def Cx.bare (c : Cx U) : Cx U := ⟨c.ρ, c.β, [], []⟩
theorem Ok.bare (ok : Ok c e) : Ok c.bare e := ⟨ok.tys, ok.kn, ok.ne, rfl, fun o so h => by simp [Cx.bare] at h⟩
theorem back_ok (ok : Ok c e) {e' : SE} {c1 : Cx U} (hl : Le c.bare c1) (ok1 : Ok c1 e') : Le c { c with ρ := c1.ρ } ∧ Ok { c with ρ := c1.ρ } e' := by
  have hle : Le c { c with ρ := c1.ρ } := by
    refine ⟨hl.1, fun o kc len h => ⟨rfl, kc, len, ?_, .inr ⟨rfl, rfl⟩⟩⟩
    have h' : inf c.ρ c.S o = some (kc, len) := h
    show inf c1.ρ c.S o = _
    unfold inf at h' ⊢
    split at h'
    · split at h'
      · rename_i d hd
        rw [hl.1 _ _ hd]
        exact h'
      · cases h'
    · cases h'
  exact ⟨hle, ⟨ok1.tys, ok1.kn, ok1.ne, ok.len, fun o so ho => let ⟨ob, h1, h2⟩ := ok.st o so ho; ⟨ob, h1, h2.later hle rfl⟩⟩⟩
theorem data_cr {ρ : Rho U} {β β' : Nat → Nat} {ι ι' : Inf} {x : SC} {v : Dm.C} (hs : keepC x = true) (h : CR ρ β ι x v) : CR ρ β' ι' x v := by
  cases x <;> simp only [keepC] at hs <;> first | (cases hs; done) | (simpa only [CR] using h)
theorem data_crs {ρ : Rho U} {β β' : Nat → Nat} {ι ι' : Inf} : ∀ {x : List SC} {v : List Dm.C}, x.all keepC = true → CRs ρ β ι x v → CRs ρ β' ι' x v
  | [], v, _, h => by simpa only [CRs] using h
  | x :: r, v, hs, h => by
    simp only [List.all_cons, Bool.and_eq_true] at hs
    simp only [CRs] at h ⊢
    obtain ⟨y, yr, rfl, h1, h2⟩ := h
    exact ⟨y, yr, rfl, data_cr hs.1 h1, data_crs hs.2 h2⟩
theorem data_vr {ρ : Rho U} {β β' : Nat → Nat} {ι ι' : Inf} {x : SV} {v : V} (hs : dataV x = true) (h : VR ρ β ι x v) : VR ρ β' ι' x v := by
  cases x with
  | c x =>
    simp only [dataV] at hs
    obtain ⟨y, rfl, h1⟩ := V_c (fun e => by subst e; cases hs) h
    exact VR.c (data_cr hs h1)
  | a l => simp only [VR] at h ⊢; obtain ⟨l', rfl, h1⟩ := h; exact ⟨l', rfl, data_crs hs h1⟩
  | t l => cases hs
theorem data_vrs {ρ : Rho U} {β β' : Nat → Nat} {ι ι' : Inf} : ∀ {x : List SV} {v : List V}, x.all dataV = true → VRs ρ β ι x v → VRs ρ β' ι' x v
  | [], v, _, h => by simpa only [VRs] using h
  | x :: r, v, hs, h => by
    simp only [List.all_cons, Bool.and_eq_true] at hs
    simp only [VRs] at h ⊢
    obtain ⟨y, yr, rfl, h1, h2⟩ := h
    exact ⟨y, yr, rfl, data_vr hs.1 h1, data_vrs hs.2 h2⟩
theorem pure_end (ok : Ok c e) {outs : List Ty} {ds : List (Dyn U.B)} (hd : ds.map Dyn.t = outs) {k : SE → SV → Tr} {K : V → Prop} (hk : Foll Sp Post Go c k K) (h : TDen Sp Post Go (k (e.pushes outs) (oneOf (resVs U.lay (e.pushes outs) e.n outs))) (c.ρ ++ ds)) {r : V} (hr : ResR U ds r) : K r := by
  subst hd
  obtain ⟨g1, g2⟩ := later_pushes ok ds
  obtain ⟨vs, h1, rfl⟩ := hr
  refine hk { c with ρ := c.ρ ++ ds } _ _ _ g1 rfl rfl g2 (oneOf_ok (resVs_ok g2 (fun j d hj => ?_) h1)) h
  show (c.ρ ++ ds)[e.n + j]? = some d
  rw [ok.n, List.getElem?_append_right (by omega), Nat.add_sub_cancel_left]
  exact hj
theorem pure_ok [FullU U] (hl : X.lay = U.lay) (hs : X.sigs = Sp.map FSpec.sig) (hg : ∀ s ∈ Sp, FGood P s) : PureSOk P Sp Post Go X := by
  intro all c e f args vs k K ok hv hk h
  unfold sopP at h
  split at h
  · exact h.elim
  · rename_i i sg hf
    obtain ⟨_, h2, h3⟩ := find_ok hf
    rw [Nat.sub_zero, hs, List.getElem?_map] at h2
    cases hsp : Sp[i]? with
    | none => simp [hsp] at h2
    | some s =>
    simp only [hsp, Option.map_some, Option.some.injEq] at h2
    subst h2
    have good := hg s (List.mem_of_getElem? hsp)
    rw [hl] at h
    split at h
    · exact h.elim
    rename_i hst
    have good := good.still hst
    simp only at h
    subst h3
    split at h
    · rename_i hdt
      have hv0 : c.bare.vrs args vs := data_vrs hdt hv
      obtain ⟨c1, e1, l, ds, vs', q1, q2, q3, q4, q5, q6, q7, q8, q9, q10, q11⟩ := args_ok s.sig.ins ok.bare hv0 h
      have := q6 hdt
      subst this
      simp only [TDen, hsp] at q11
      obtain ⟨p1, p2⟩ := q11
      rw [den_map q8] at p1 p2
      have hx : HL.dyn _ (HL.of (insTys s.sig.ins) ds) = ds := dyn_of q9
      obtain ⟨r, r1, r2⟩ := ResR.has (U := U) (s.fn (HL.of _ ds))
      have hfix : ∀ σ', CallAt P s.sig.f vs' σ' fun q σ'' => q = r ∧ σ'' = σ' := fun σ' => CallAt.canon r2 (good (HL.of _ ds) vs' (by rw [hx]; exact q10) p1 σ')
      obtain ⟨b1, b2⟩ := back_ok ok q1 q4
      refine ⟨r, ?_, pure_end b2 (s.ty _) (hk.later b1 rfl rfl) p2 r1⟩
      cases all with
      | true => exact hfix
      | false => exact fun new => hfix _
    · split at h
      · rename_i hb
        obtain ⟨c1, e1, l, ds, vs', q1, q2, q3, q4, q5, q6, q7, q8, q9, q10, q11⟩ := args_ok s.sig.ins ok hv h
        simp only [TDen, hsp] at q11
        obtain ⟨p1, p2⟩ := q11
        rw [den_map q8] at p1 p2
        have hx : HL.dyn _ (HL.of (insTys s.sig.ins) ds) = ds := dyn_of q9
        obtain ⟨r, r1, r2⟩ := ResR.has (U := U) (s.fn (HL.of _ ds))
        have hgd := good (HL.of _ ds) vs' (by rw [hx]; exact q10) p1
        refine ⟨r, fun new => CallAt.canon r2 ((call_lookP (snapVs_add new q5) ((hgd []).mono fun q σ' h => h.1) fun q hq => hq.bare fun d hd => ?_)), pure_end q4 (s.ty _) (hk.later q1 q2 q3) p2 r1⟩
        have : d.t ∈ (s.fn (HL.of _ ds)).map Dyn.t := List.mem_map_of_mem hd
        rw [s.ty] at this
        exact List.all_eq_true.1 hb _ this
      · exact h.elim
end Go.Dm.Sx
