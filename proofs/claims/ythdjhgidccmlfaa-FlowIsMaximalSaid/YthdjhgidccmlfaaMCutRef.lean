/- The reference's least cut, and the ends that the laws draw, in plain Lean. Conditions: at most 8 rows. -/
import Derived.Test.YthdjhgidccmlfaaMCut
import Derived.Test.YthdjhgidccmlfaaMNetEv
import Derived.Test.YthdjhgidccmlfaaPx6
namespace Go.Proofs.Ythdjhgidccmlfaa.M
open Go.RowKit Go.Proofs.Ythdjhgidccmlfaa.P Go.Proofs.YthdjhgidccmlfaaW.PrintWords
set_option linter.unusedVariables false
set_option linter.unusedSimpArgs false

theorem u8_range {a : Int} (h : (Lit.int .u8 a).wf = true) : 0 ≤ a ∧ a < 256 := by
  simp [Lit.wf, IntKind.min, IntKind.max, IntKind.bits, IntKind.signed] at h
  omega
/-- Two different vertices. -/
theorem ends_ev (c : List (List Int)) (h2 : 2 ≤ c.length) (h400 : c.length ≤ 400) {a b : Int} (ha : 0 ≤ a ∧ a < 256) (hb : 0 ≤ b ∧ b < 256) : ∃ s t, ontimelaw47_ends.f c a b = some (s, t) ∧ (0 ≤ s ∧ s < c.length) ∧ (0 ≤ t ∧ t < c.length) ∧ s ≠ t := by
  have w1 : wrap64 a = a := by unfold wrap64; omega
  have w2 : wrap64 b = b := by unfold wrap64; omega
  have w3 : wrap64 ((c.length : Int) - 1) = (c.length : Int) - 1 := by unfold wrap64; omega
  have s0 := Int.tmod_nonneg (c.length : Int) ha.1
  have s1 := Int.tmod_lt_of_pos a (b := (c.length : Int)) (by omega)
  have t0 := Int.tmod_nonneg ((c.length : Int) - 1) hb.1
  have t1 := Int.tmod_lt_of_pos b (b := (c.length : Int) - 1) (by omega)
  unfold ontimelaw47_ends.f
  rw [w1, w2, w3, if_neg (by omega), if_neg (by omega)]
  generalize Int.tmod a (c.length : Int) = s at *
  generalize Int.tmod b ((c.length : Int) - 1) = t at *
  by_cases c1 : t ≥ s
  · rw [if_pos c1]
    have w4 : wrap64 (t + 1) = t + 1 := by unfold wrap64; omega
    rw [w4]
    exact ⟨s, t + 1, rfl, ⟨s0, s1⟩, ⟨by omega, by omega⟩, by omega⟩
  · rw [if_neg c1]
    exact ⟨s, t, rfl, ⟨s0, s1⟩, ⟨t0, by omega⟩, by omega⟩

/-- A set of vertices as a number. -/
def bitX (m u : Nat) : Bool := decide (m / 2 ^ u % 2 = 1)
theorem set_of (χ : Nat → Bool) : ∀ n : Nat, ∃ m, m < 2 ^ n ∧ ∀ u, u < n → bitX m u = χ u
  | 0 => ⟨0, by simp, fun u hu => by omega⟩
  | n + 1 => by
    obtain ⟨m, h1, h2⟩ := set_of χ n
    have hp : 2 ^ (n + 1) = 2 ^ n + 2 ^ n := by rw [Nat.pow_succ]; omega
    cases hx : χ n with
    | false =>
      refine ⟨m, by omega, fun u hu => ?_⟩
      by_cases e : u = n
      · subst e
        rw [hx]
        unfold bitX
        rw [Nat.div_eq_of_lt h1]
        rfl
      · exact h2 u (by omega)
    | true =>
      refine ⟨m + 2 ^ n, by omega, fun u hu => ?_⟩
      by_cases e : u = n
      · subst e
        rw [hx]
        unfold bitX
        rw [Nat.add_div_right _ (Nat.two_pow_pos u), Nat.div_eq_of_lt h1]
        rfl
      · rw [← h2 u (by omega)]
        unfold bitX
        obtain ⟨d, hd⟩ : ∃ d, n = u + (d + 1) := ⟨n - u - 1, by omega⟩
        have hq : 2 ^ n = 2 ^ u * (2 * 2 ^ d) := by rw [hd, Nat.pow_add, Nat.pow_succ, Nat.mul_comm (2 ^ d) 2]
        rw [hq, Nat.add_mul_div_left _ _ (Nat.two_pow_pos u), Nat.add_mul_mod_self_left]
theorem pow_ev : ∀ u : Nat, u ≤ 8 → ontimeref47_pow.f (u : Int) = some ((2 ^ u : Nat) : Int) := by
  intro u hu
  have h : ∀ u : Fin 9, shl .i64 1 ((u.val : Nat) : Int) = ((2 ^ u.val : Nat) : Int) := by decide
  have := h ⟨u, by omega⟩
  unfold ontimeref47_pow.f
  rw [if_pos (by omega)]
  exact congrArg some this
theorem shl_ev (u : Nat) (hu : u ≤ 8) : shl .i64 1 (u : Int) = ((2 ^ u : Nat) : Int) := by
  have h : ∀ u : Fin 9, shl .i64 1 ((u.val : Nat) : Int) = ((2 ^ u.val : Nat) : Int) := by decide
  exact h ⟨u, by omega⟩
theorem bit_ev (m u : Nat) (hm : m ≤ 1000) : Int.tmod (wrap64 (Int.tdiv (m : Int) ((2 ^ u : Nat) : Int))) 2 = ((m / 2 ^ u % 2 : Nat) : Int) := by
  have h1 : Int.tdiv (m : Int) ((2 ^ u : Nat) : Int) = ((m / 2 ^ u : Nat) : Int) := by
    rw [Int.tdiv_eq_ediv_of_nonneg (by omega)]
    exact (Int.natCast_ediv m (2 ^ u)).symm
  have h2 : m / 2 ^ u ≤ m := Nat.div_le_self _ _
  rw [h1]
  generalize m / 2 ^ u = q at *
  have h3 : wrap64 (q : Int) = (q : Int) := by unfold wrap64; omega
  rw [h3, Int.tmod_eq_emod_of_nonneg (by omega)]
  omega

section
variable {c : List (List Int)}
def rowS (c : List (List Int)) (χ : Nat → Bool) (u v : Nat) : Int := sumN (fun b => if χ u = true ∧ χ b = false then en c u b else 0) v
def totS (c : List (List Int)) (χ : Nat → Bool) (n u : Nat) : Int := sumN (fun a => rowS c χ a n) u
theorem rowS_b (hn : Net c.length c) (χ : Nat → Bool) {u : Nat} (hu : u < c.length) : ∀ v : Nat, v ≤ c.length → 0 ≤ rowS c χ u v ∧ rowS c χ u v ≤ v * 1073741824
  | 0, _ => by simp [rowS, sumN]
  | v + 1, hv => by
    have ih := rowS_b hn χ hu v (by omega)
    have h := hn.cap u v (by omega) (by omega) (by omega) (by omega)
    have e : rowS c χ u (v + 1) = rowS c χ u v + (if χ u = true ∧ χ v = false then en c u v else 0) := rfl
    rw [e]
    split <;> omega
theorem totS_b (hn : Net c.length c) (h8 : c.length ≤ 8) (χ : Nat → Bool) : ∀ u : Nat, u ≤ c.length → 0 ≤ totS c χ c.length u ∧ totS c χ c.length u ≤ u * 8589934592
  | 0, _ => by simp [totS, sumN]
  | u + 1, hu => by
    have ih := totS_b hn h8 χ u (by omega)
    have h := rowS_b hn χ (u := u) (by omega) c.length (Nat.le_refl _)
    have e : totS c χ c.length (u + 1) = totS c χ c.length u + rowS c χ u c.length := rfl
    rw [e]
    omega
theorem cut_l2 (hn : Net c.length c) (h8 : c.length ≤ 8) (s t best : Int) (m : Nat) (hm : m ≤ 1000) (u : Nat) (hu : u < c.length) : ∀ (d v : Nat), v + d = c.length → ∀ res, (∃ k, ontimeref47_Cut.l1 k c s t (c.length : Int) best m (totS c (bitX m) c.length u + rowS c (bitX m) u c.length) (wrap64 ((u : Int) + 1)) = some res) →
    ∃ k, ontimeref47_Cut.l2 k c s t (c.length : Int) best m (totS c (bitX m) c.length u + rowS c (bitX m) u v) u v = some res := by
  intro d
  induction d with
  | zero =>
    intro v hv res ⟨k, hk⟩
    obtain rfl : v = c.length := by omega
    exact ⟨k + 1, by rw [ontimeref47_Cut.l2, if_neg (by omega)]; exact hk⟩
  | succ d ih =>
    intro v hv res hres
    obtain ⟨k, hk⟩ := ih (v + 1) (by omega) res hres
    have w : wrap64 ((v : Int) + 1) = ((v + 1 : Nat) : Int) := wrapN (by omega)
    have p1 := pow_ev u (by omega)
    have p2 := pow_ev v (by omega)
    have b1 := bit_ev m u hm
    have b2 := bit_ev m v hm
    have z1 : ¬ ((2 ^ u : Nat) : Int) = 0 := by have := Nat.two_pow_pos u; omega
    have z2 : ¬ ((2 ^ v : Nat) : Int) = 0 := by have := Nat.two_pow_pos v; omega
    have e : rowS c (bitX m) u (v + 1) = rowS c (bitX m) u v + (if bitX m u = true ∧ bitX m v = false then en c u v else 0) := rfl
    refine ⟨k + 1, ?_⟩
    rw [ontimeref47_Cut.l2, if_pos (by omega), p1, Option.bind_some, if_neg z1, b1, w]
    by_cases c1 : m / 2 ^ u % 2 = 1
    · rw [if_pos (by omega), p2, Option.bind_some, if_neg z2, b2]
      have hu1 : bitX m u = true := decide_eq_true c1
      by_cases c2 : m / 2 ^ v % 2 = 0
      · have hv0 : bitX m v = false := decide_eq_false (by omega)
        rw [e, if_pos ⟨hu1, hv0⟩] at hk
        have hcap := hn.cap u v (by omega) (by omega) (by omega) (by omega)
        have hr := rowS_b hn (bitX m) hu v (by omega)
        have ht := totS_b hn h8 (bitX m) u (by omega)
        have hlen := hn.sq.2 u (by omega) (by omega)
        have w2 : wrap64 (totS c (bitX m) c.length u + rowS c (bitX m) u v + rd (rd_L4 c (u : Int)) (v : Int)) = totS c (bitX m) c.length u + (rowS c (bitX m) u v + en c u v) := by
          have : rd (rd_L4 c (u : Int)) (v : Int) = en c u v := rfl
          rw [this, wrapI (by omega) (by omega)]
          omega
        rw [if_pos (by omega), if_pos (by omega), if_pos (by omega), if_pos (by omega), if_pos (by omega), w2]
        exact hk
      · have hv1 : bitX m v = true := decide_eq_true (by omega)
        rw [e, if_neg (by rw [hv1]; simp), Int.add_zero] at hk
        rw [if_neg (by omega)]
        exact hk
    · have hu0 : bitX m u = false := decide_eq_false c1
      rw [e, if_neg (by rw [hu0]; simp), Int.add_zero] at hk
      rw [if_neg (by omega)]
      exact hk
theorem cut_l1 (hn : Net c.length c) (h8 : c.length ≤ 8) (s t best : Int) (m : Nat) (hm : m ≤ 1000) : ∀ (d u : Nat), u + d = c.length → ∀ res, (∃ k, ontimeref47_Cut.l0 k c s t (c.length : Int) (if best < 0 then cutC c.length c (bitX m) else if cutC c.length c (bitX m) < best then cutC c.length c (bitX m) else best) (wrap64 ((m : Int) + 1)) = some res) →
    ∃ k, ontimeref47_Cut.l1 k c s t (c.length : Int) best m (totS c (bitX m) c.length u) u = some res := by
  intro d
  induction d with
  | zero =>
    intro u hu res ⟨k, hk⟩
    obtain rfl : u = c.length := by omega
    have e : totS c (bitX m) c.length c.length = cutC c.length c (bitX m) := rfl
    refine ⟨k + 1, ?_⟩
    rw [ontimeref47_Cut.l1, if_neg (by omega), e]
    by_cases c1 : best < 0
    · rw [if_pos c1] at hk ⊢
      exact hk
    · rw [if_neg c1] at hk ⊢
      by_cases c2 : cutC c.length c (bitX m) < best
      · rw [if_pos c2] at hk ⊢
        exact hk
      · rw [if_neg c2] at hk ⊢
        exact hk
  | succ d ih =>
    intro u hu res hres
    have w : wrap64 ((u : Int) + 1) = ((u + 1 : Nat) : Int) := wrapN (by omega)
    obtain ⟨k, hk⟩ := cut_l2 hn h8 s t best m hm u (by omega) c.length 0 (by omega) res (by
      rw [w]
      exact ih (u + 1) (by omega) res hres)
    refine ⟨k + 1, ?_⟩
    rw [ontimeref47_Cut.l1, if_pos (by omega)]
    have e : totS c (bitX m) c.length u + rowS c (bitX m) u 0 = totS c (bitX m) c.length u := by
      have : rowS c (bitX m) u 0 = 0 := rfl
      rw [this, Int.add_zero]
    rw [e] at hk
    exact hk
/-- What is known while the sets are tried. -/
def Best (c : List (List Int)) (s t : Nat) (m : Nat) (best : Int) : Prop :=
  (best = -1 ∧ ∀ j, j < m → ¬ (bitX j s = true ∧ bitX j t = false)) ∨
  ((∃ j, bitX j s = true ∧ bitX j t = false ∧ best = cutC c.length c (bitX j)) ∧ ∀ j, j < m → bitX j s = true ∧ bitX j t = false → best ≤ cutC c.length c (bitX j))
theorem cutC_nn (hn : Net c.length c) (χ : Nat → Bool) : 0 ≤ cutC c.length c χ :=
  sumN_nonneg _ (fun a ha => sumN_nonneg _ (fun b hb => by
    have := (hn.cap a b (by omega) (by omega) (by omega) (by omega)).1
    split <;> omega))
theorem cut_l0 (hn : Net c.length c) (h8 : c.length ≤ 8) (s t : Nat) (hs : s < c.length) (ht : t < c.length) : ∀ (d m : Nat) (best : Int), m + d = 2 ^ c.length → Best c s t m best → ∃ res, Best c s t (2 ^ c.length) res ∧ ∃ k, ontimeref47_Cut.l0 k c s t (c.length : Int) best m = some res := by
  have hp : 2 ^ c.length ≤ 256 := by
    have : 2 ^ c.length ≤ 2 ^ 8 := Nat.pow_le_pow_right (by omega) h8
    omega
  have sh := shl_ev c.length h8
  intro d
  induction d with
  | zero =>
    intro m best hm hb
    obtain rfl : m = 2 ^ c.length := by omega
    exact ⟨best, hb, 1, by rw [ontimeref47_Cut.l0, if_pos (by omega), sh, if_neg (by omega)]⟩
  | succ d ih =>
    intro m best hm hb
    have w : wrap64 ((m : Int) + 1) = ((m + 1 : Nat) : Int) := wrapN (by omega)
    have p1 := pow_ev s (by omega)
    have p2 := pow_ev t (by omega)
    have b1 := bit_ev m s (by omega)
    have b2 := bit_ev m t (by omega)
    have z1 : ¬ ((2 ^ s : Nat) : Int) = 0 := by have := Nat.two_pow_pos s; omega
    have z2 : ¬ ((2 ^ t : Nat) : Int) = 0 := by have := Nat.two_pow_pos t; omega
    -- a set that is no cut
    have skip : ¬ (bitX m s = true ∧ bitX m t = false) → ∃ res, Best c s t (2 ^ c.length) res ∧ ∃ k, ontimeref47_Cut.l0 k c s t (c.length : Int) best ((m + 1 : Nat) : Int) = some res := by
      intro hno
      refine ih (m + 1) best (by omega) ?_
      rcases hb with ⟨h1, h2⟩ | ⟨h1, h2⟩
      · refine .inl ⟨h1, fun j hj => ?_⟩
        by_cases e : j = m
        · rw [e]; exact hno
        · exact h2 j (by omega)
      · refine .inr ⟨h1, fun j hj hv => ?_⟩
        by_cases e : j = m
        · rw [e] at hv; exact absurd hv hno
        · exact h2 j (by omega) hv
    by_cases c1 : m / 2 ^ s % 2 = 0
    · have hs0 : bitX m s = false := decide_eq_false (by omega)
      obtain ⟨res, r1, k, hk⟩ := skip (by rw [hs0]; simp)
      refine ⟨res, r1, k + 2, ?_⟩
      rw [ontimeref47_Cut.l0, if_pos (by omega), sh, if_pos (by omega), p1, Option.bind_some, if_neg z1, b1, if_pos (by omega), ontimeref47_Cut.j1, if_pos rfl, w]
      exact hk
    · have hs1 : bitX m s = true := decide_eq_true (by omega)
      by_cases c2 : m / 2 ^ t % 2 = 1
      · have ht1 : bitX m t = true := decide_eq_true c2
        obtain ⟨res, r1, k, hk⟩ := skip (by rw [ht1]; simp)
        refine ⟨res, r1, k + 2, ?_⟩
        have hb1 : (((m / 2 ^ t % 2 : Nat) : Int) == 1) = true := by rw [c2]; rfl
        rw [ontimeref47_Cut.l0, if_pos (by omega), sh, if_pos (by omega), p1, Option.bind_some, if_neg z1, b1, if_neg (by omega), p2, Option.bind_some, if_neg z2, b2, hb1, ontimeref47_Cut.j1, if_pos rfl, w]
        exact hk
      · have ht0 : bitX m t = false := decide_eq_false c2
        have hcn := cutC_nn hn (bitX m)
        obtain ⟨res, r1, hres⟩ := ih (m + 1) (if best < 0 then cutC c.length c (bitX m) else if cutC c.length c (bitX m) < best then cutC c.length c (bitX m) else best) (by omega) (by
          refine .inr ?_
          rcases hb with ⟨h1, h2⟩ | ⟨⟨j0, g1, g2, g3⟩, h2⟩
          · rw [if_pos (by omega)]
            refine ⟨⟨m, hs1, ht0, rfl⟩, fun j hj hv => ?_⟩
            by_cases e : j = m
            · rw [e]; exact Int.le_refl _
            · exact absurd hv (h2 j (by omega))
          · have := cutC_nn hn (bitX j0)
            rw [if_neg (by omega)]
            by_cases c3 : cutC c.length c (bitX m) < best
            · rw [if_pos c3]
              refine ⟨⟨m, hs1, ht0, rfl⟩, fun j hj hv => ?_⟩
              by_cases e : j = m
              · rw [e]; exact Int.le_refl _
              · have := h2 j (by omega) hv
                omega
            · rw [if_neg c3]
              refine ⟨⟨j0, g1, g2, g3⟩, fun j hj hv => ?_⟩
              by_cases e : j = m
              · rw [e]; omega
              · exact h2 j (by omega) hv)
        obtain ⟨k, hk⟩ := cut_l1 hn h8 s t best m (by omega) c.length 0 (by omega) res (by rw [w]; exact hres)
        refine ⟨res, r1, k + 2, ?_⟩
        have hb1 : (((m / 2 ^ t % 2 : Nat) : Int) == 1) = false := by rw [beq_eq_false_iff_ne]; omega
        rw [ontimeref47_Cut.l0, if_pos (by omega), sh, if_pos (by omega), p1, Option.bind_some, if_neg z1, b1, if_neg (by omega), p2, Option.bind_some, if_neg z2, b2, hb1, ontimeref47_Cut.j1, if_neg (by simp)]
        exact hk
theorem cutC_ext {n : Nat} {χ ψ : Nat → Bool} (h : ∀ u, u < n → χ u = ψ u) : cutC n c χ = cutC n c ψ := by
  unfold cutC
  exact sumN_ext n (fun a ha => sumN_ext n (fun b hb => by rw [h a ha, h b hb]))
/-- The least cut is the greatest flow. -/
theorem refcut_ev (hn : Net c.length c) (h8 : c.length ≤ 8) {s t value : Int} {rows : List (List Int)} (s0 : 0 ≤ s) (s1 : s < c.length) (t0 : 0 ≤ t) (t1 : t < c.length) (h : FI c.length c s t rows value) {before ord : List Int} (hb : Bfs c.length rows s before ord) (ht : t ∉ ord) :
    ∃ k0, ∀ k, k0 ≤ k → ontimeref47_Cut.f k c s t = some value := by
  refine ev_of (fun k => ontimeref47_Cut.mono c s t k) ?_
  obtain ⟨sn, rfl⟩ := Int.eq_ofNat_of_zero_le s0
  obtain ⟨tn, rfl⟩ := Int.eq_ofNat_of_zero_le t0
  obtain ⟨res, r1, k, hk⟩ := cut_l0 hn h8 sn tn (by omega) (by omega) (2 ^ c.length) 0 (-1) (by omega) (.inl ⟨rfl, fun j hj => by omega⟩)
  obtain ⟨e1, e2, e3⟩ := h.cut_eq s0 s1 t0 t1 hb ht
  rw [Int.toNat_natCast] at e2 e3
  obtain ⟨m, m1, m2⟩ := set_of (fun a => decide ((a : Int) ∈ ord)) c.length
  have hms : bitX m sn = true := by rw [m2 sn (by omega)]; exact e2
  have hmt : bitX m tn = false := by rw [m2 tn (by omega)]; exact e3
  have hcm : cutC c.length c (bitX m) = value := by rw [e1]; exact cutC_ext m2
  have hres : res = value := by
    rcases r1 with ⟨_, h2⟩ | ⟨⟨j, g1, g2, g3⟩, h2⟩
    · exact absurd ⟨hms, hmt⟩ (h2 m m1)
    · have h3 := h2 m m1 ⟨hms, hmt⟩
      have h4 := h.cut_le s0 s1 t0 t1 (bitX j) (by rw [Int.toNat_natCast]; exact g1) (by rw [Int.toNat_natCast]; exact g2)
      omega
  subst hres
  exact ⟨k, hk⟩
end
end Go.Proofs.Ythdjhgidccmlfaa.M
