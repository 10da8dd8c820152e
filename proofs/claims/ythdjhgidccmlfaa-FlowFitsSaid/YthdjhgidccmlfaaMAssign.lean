/- The network of jobs and slots, in plain Lean: assign builds it, and solves it. Conditions: a valid list of jobs, a valid number of cores. -/
import Derived.Test.YthdjhgidccmlfaaMCut
import Derived.Test.YthdjhgidccmlfaaXAdmit
import Derived.Test.YthdjhgidccmlfaaPx3
namespace Go.Proofs.Ythdjhgidccmlfaa.M
open Go.RowKit Go.Proofs.Ythdjhgidccmlfaa.P Go.Proofs.YthdjhgidccmlfaaW.PrintWords
set_option linter.unusedVariables false
set_option linter.unusedSimpArgs false

theorem en_set {n : Nat} {rows : List (List Int)} (h : Sq n rows) {u v x : Int} (h0 : 0 ≤ u) (h1 : u < n) (h2 : 0 ≤ v) (h3 : v < n) {a b : Int} (a0 : 0 ≤ a) (b0 : 0 ≤ b) :
    en (rows.set u.toNat ((rd_L4 rows u).set v.toNat x)) a b = if a = u ∧ b = v then x else en rows a b := by
  unfold en
  rw [rd4_set h0 (by rw [h.1]; exact h1) a0]
  by_cases ha : a = u
  · subst ha
    rw [if_pos rfl, rd_set h2 (by rw [h.2 a h0 h1]; exact h3) b0]
    by_cases hb : b = v
    · rw [if_pos hb, if_pos ⟨rfl, hb⟩]
    · rw [if_neg hb, if_neg (fun hh => hb hh.2)]
  · rw [if_neg ha, if_neg (fun hh => ha hh.1)]
theorem Sq.set2 {n : Nat} {rows : List (List Int)} (h : Sq n rows) {u v x : Int} (h0 : 0 ≤ u) (h1 : u < n) : Sq n (rows.set u.toNat ((rd_L4 rows u).set v.toNat x)) :=
  h.set h0 h1 (by rw [List.length_set]; exact h.2 u h0 h1)

/-- A job that is valid. -/
structure JobOk (j : S83) : Prop where
  r0 : 0 ≤ j.f0
  rd : j.f0 ≤ j.f1
  d1 : j.f1 ≤ 200
  c0 : 0 ≤ j.f2
  c1 : j.f2 ≤ 200
theorem jobOk_of {j : S83} (h : badJ j = false) : JobOk j := by
  have := of_decide_eq_false h
  exact ⟨by omega, by omega, by omega, by omega, by omega⟩
/-- The greatest deadline and the sum of the costs of the first p jobs. -/
def maxD (l : List S83) : Nat → Int
  | 0 => 0
  | p + 1 => mx (maxD l p) (rd_T83 l p).f1
def sumC (l : List S83) : Nat → Int
  | 0 => 0
  | p + 1 => sumC l p + (rd_T83 l p).f2
structure Jobs (l : List S83) : Prop where
  len : l.length ≤ 100
  ok : ∀ p : Nat, p < l.length → JobOk (rd_T83 l p)
theorem Jobs.of {l : List S83} (h1 : l.length ≤ 100) (h2 : l.any badJ = false) : Jobs l := by
  refine ⟨h1, fun p hp => jobOk_of ?_⟩
  have hm : rd_T83 l (p : Int) ∈ l := by
    unfold rd_T83
    rw [Int.toNat_natCast, List.getD_eq_getElem?_getD, List.getElem?_eq_getElem hp]
    exact List.getElem_mem hp
  exact Bool.eq_false_iff.2 (fun h => by
    have : l.any badJ = true := List.any_eq_true.2 ⟨_, hm, h⟩
    rw [h2] at this
    exact absurd this (by simp))
theorem maxD_b {l : List S83} (h : Jobs l) : ∀ p : Nat, p ≤ l.length → 0 ≤ maxD l p ∧ maxD l p ≤ 200 ∧ ∀ q : Nat, q < p → (rd_T83 l q).f1 ≤ maxD l p
  | 0, _ => ⟨by simp [maxD], by simp [maxD], fun q hq => by omega⟩
  | p + 1, hp => by
    obtain ⟨i1, i2, i3⟩ := maxD_b h p (by omega)
    have j := h.ok p (by omega)
    have := j.r0
    have := j.rd
    have := j.d1
    have e : maxD l (p + 1) = mx (maxD l p) (rd_T83 l p).f1 := rfl
    rw [e]
    unfold mx
    split
    · refine ⟨by omega, by omega, fun q hq => ?_⟩
      by_cases eq : q = p
      · rw [eq]; exact Int.le_refl _
      · have := i3 q (by omega); omega
    · refine ⟨by omega, by omega, fun q hq => ?_⟩
      by_cases eq : q = p
      · rw [eq]; omega
      · exact i3 q (by omega)
theorem sumC_b {l : List S83} (h : Jobs l) : ∀ p : Nat, p ≤ l.length → 0 ≤ sumC l p ∧ sumC l p ≤ 200 * p
  | 0, _ => by simp [sumC]
  | p + 1, hp => by
    have ih := sumC_b h p (by omega)
    have j := h.ok p (by omega)
    have := j.c0
    have := j.c1
    have e : sumC l (p + 1) = sumC l p + (rd_T83 l p).f2 := rfl
    rw [e]
    omega
/-- The capacities: before job q's own rows are laid. -/
def capJ (l : List S83) (q : Nat) (a b : Int) : Int :=
  if a = 0 ∧ 1 ≤ b ∧ b ≤ q then (rd_T83 l (b - 1)).f2
  else if 1 ≤ a ∧ a ≤ q ∧ 1 + (l.length : Int) + (rd_T83 l (a - 1)).f0 ≤ b ∧ b < 1 + (l.length : Int) + (rd_T83 l (a - 1)).f1 then 1 else 0
/-- All capacities. -/
def capA (l : List S83) (cores : Int) (S : Int) (a b : Int) : Int :=
  if 1 + (l.length : Int) ≤ a ∧ a < 1 + (l.length : Int) + S ∧ b = 1 + (l.length : Int) + S then cores else capJ l l.length a b
section
variable {l : List S83} {cores : Int} {n : Nat}
theorem as_l3 (hJ : Jobs l) (S tot : Int) (hn : (n : Int) = 2 + l.length + S) (hS0 : 0 ≤ S) (hS : S ≤ 200) (i : Nat) (hi : i < l.length) (f0 f1 f2 : Int) (h1 : f1 ≤ S) : ∀ (d : Nat) (s : Int) (rows : List (List Int)), 0 ≤ s → s ≤ f1 → (f1 - s).toNat = d → Sq n rows →
    ∃ rows', Sq n rows' ∧ (∀ a b : Int, 0 ≤ a → 0 ≤ b → en rows' a b = if a = 1 + i ∧ 1 + (l.length : Int) + s ≤ b ∧ b < 1 + (l.length : Int) + f1 then 1 else en rows a b) ∧
      ∀ res, (∃ k, flow_assign.l2 k cores n rows' l (l.length : Int) (wrap64 ((i : Int) + 1)) (l.length : Int) S tot 0 = some res) → ∃ k, flow_assign.l3 k cores n rows i s l (l.length : Int) i (l.length : Int) S tot 0 f0 f1 f2 = some res := by
  have hl := hJ.len
  intro d
  induction d with
  | zero =>
    intro s rows s0 s1 hd hq
    refine ⟨rows, hq, fun a b a0 b0 => by rw [if_neg (by omega)], fun res ⟨k, hk⟩ => ⟨k + 1, ?_⟩⟩
    rw [flow_assign.l3, if_neg (by omega)]
    exact hk
  | succ d ih =>
    intro s rows s0 s1 hd hq
    have w1 : wrap64 (1 + (i : Int)) = 1 + i := wrapI (by omega) (by omega)
    have w2 : wrap64 (1 + (l.length : Int)) = 1 + l.length := wrapI (by omega) (by omega)
    have w3 : wrap64 (1 + (l.length : Int) + s) = 1 + l.length + s := wrapI (by omega) (by omega)
    have w4 : wrap64 (s + 1) = s + 1 := wrapI (by omega) (by omega)
    have q1 := hq.2 (1 + i) (by omega) (by omega)
    have q0 := hq.1
    obtain ⟨rows', r1, r2, r3⟩ := ih (s + 1) (rows.set (1 + (i : Int)).toNat ((rd_L4 rows (1 + i)).set (1 + (l.length : Int) + s).toNat 1)) (by omega) (by omega) (by omega) (hq.set2 (by omega) (by omega))
    refine ⟨rows', r1, fun a b a0 b0 => ?_, fun res hres => ?_⟩
    · rw [r2 a b a0 b0, en_set hq (by omega) (by omega) (by omega) (by omega) a0 b0]
      by_cases ha : a = 1 + i
      · by_cases c1 : 1 + (l.length : Int) + (s + 1) ≤ b ∧ b < 1 + (l.length : Int) + f1
        · rw [if_pos ⟨ha, c1⟩, if_pos ⟨ha, by omega, c1.2⟩]
        · rw [if_neg (fun z => c1 z.2)]
          by_cases c2 : b = 1 + (l.length : Int) + s
          · rw [if_pos ⟨ha, c2⟩, if_pos ⟨ha, by omega, by omega⟩]
          · rw [if_neg (fun z => c2 z.2), if_neg (fun z => by omega)]
      · rw [if_neg (fun z => ha z.1), if_neg (fun z => ha z.1), if_neg (fun z => ha z.1)]
    · obtain ⟨k, hk⟩ := r3 res hres
      refine ⟨k + 1, ?_⟩
      rw [flow_assign.l3, if_pos (by omega), w1, w2, w3, w4, if_pos (by omega), if_pos (by omega), if_pos (by omega), if_pos (by omega)]
      exact hk
theorem as_l4 (hJ : Jobs l) (S tot : Int) (hn : (n : Int) = 2 + l.length + S) (hS0 : 0 ≤ S) (hS : S ≤ 200) : ∀ (d : Nat) (s : Int) (rows : List (List Int)), 0 ≤ s → s ≤ S → (S - s).toNat = d → Sq n rows →
    ∃ rows', Sq n rows' ∧ (∀ a b : Int, 0 ≤ a → 0 ≤ b → en rows' a b = if 1 + (l.length : Int) + s ≤ a ∧ a < 1 + (l.length : Int) + S ∧ b = 1 + (l.length : Int) + S then cores else en rows a b) ∧
      ∀ v r, (∃ k, flow_maximize.f k rows' 0 (1 + (l.length : Int) + S) = some (v, r)) → ∃ k, flow_assign.l4 k cores n rows S s (l.length : Int) S tot 0 = some ((l.length : Int), S, tot, v, r) := by
  have hl := hJ.len
  have w5 : wrap64 ((n : Int) - 1) = 1 + l.length + S := by rw [wrapI (by omega) (by omega)]; omega
  intro d
  induction d with
  | zero =>
    intro s rows s0 s1 hd hq
    refine ⟨rows, hq, fun a b a0 b0 => by rw [if_neg (by omega)], fun v r ⟨k, hk⟩ => ⟨k + 1, ?_⟩⟩
    rw [flow_assign.l4, if_neg (by omega), w5, hk]
    rfl
  | succ d ih =>
    intro s rows s0 s1 hd hq
    have w2 : wrap64 (1 + (l.length : Int)) = 1 + l.length := wrapI (by omega) (by omega)
    have w3 : wrap64 (1 + (l.length : Int) + s) = 1 + l.length + s := wrapI (by omega) (by omega)
    have w4 : wrap64 (s + 1) = s + 1 := wrapI (by omega) (by omega)
    have q1 := hq.2 (1 + l.length + s) (by omega) (by omega)
    have q0 := hq.1
    obtain ⟨rows', r1, r2, r3⟩ := ih (s + 1) (rows.set (1 + (l.length : Int) + s).toNat ((rd_L4 rows (1 + l.length + s)).set (1 + (l.length : Int) + S).toNat cores)) (by omega) (by omega) (by omega) (hq.set2 (by omega) (by omega))
    refine ⟨rows', r1, fun a b a0 b0 => ?_, fun v r hres => ?_⟩
    · rw [r2 a b a0 b0, en_set hq (by omega) (by omega) (by omega) (by omega) a0 b0]
      by_cases c1 : 1 + (l.length : Int) + (s + 1) ≤ a ∧ a < 1 + (l.length : Int) + S ∧ b = 1 + (l.length : Int) + S
      · rw [if_pos c1, if_pos ⟨by omega, c1.2⟩]
      · rw [if_neg c1]
        by_cases c2 : a = 1 + (l.length : Int) + s ∧ b = 1 + (l.length : Int) + S
        · rw [if_pos c2, if_pos ⟨by omega, by omega, c2.2⟩]
        · rw [if_neg c2, if_neg (fun z => by
            by_cases e : a = 1 + (l.length : Int) + s
            · exact c2 ⟨e, z.2.2⟩
            · exact c1 ⟨by omega, z.2.1, z.2.2⟩)]
    · obtain ⟨k, hk⟩ := r3 v r hres
      refine ⟨k + 1, ?_⟩
      rw [flow_assign.l4, if_pos (by omega), w2, w3, w4, w5, if_pos (by omega), if_pos (by omega), if_pos (by omega), if_pos (by omega)]
      exact hk
theorem as_l2 (hJ : Jobs l) (S tot : Int) (hn : (n : Int) = 2 + l.length + S) (hS0 : 0 ≤ S) (hS : S ≤ 200) (hD : ∀ q : Nat, q < l.length → (rd_T83 l q).f1 ≤ S) : ∀ (d p : Nat) (rows : List (List Int)), p + d = l.length → Sq n rows → (∀ a b : Int, 0 ≤ a → 0 ≤ b → a < n → b < n → en rows a b = capJ l p a b) →
    ∃ rows', Sq n rows' ∧ (∀ a b : Int, 0 ≤ a → 0 ≤ b → a < n → b < n → en rows' a b = capJ l l.length a b) ∧
      ∀ res, (∃ k, flow_assign.l4 k cores n rows' S 0 (l.length : Int) S tot 0 = some res) → ∃ k, flow_assign.l2 k cores n rows l (l.length : Int) p (l.length : Int) S tot 0 = some res := by
  have hl := hJ.len
  intro d
  induction d with
  | zero =>
    intro p rows hp hq he
    obtain rfl : p = l.length := by omega
    refine ⟨rows, hq, he, fun res ⟨k, hk⟩ => ⟨k + 1, ?_⟩⟩
    rw [flow_assign.l2, if_neg (by omega)]
    exact hk
  | succ d ih =>
    intro p rows hp hq he
    have w1 : wrap64 (1 + (p : Int)) = 1 + p := wrapI (by omega) (by omega)
    have w : wrap64 ((p : Int) + 1) = ((p + 1 : Nat) : Int) := wrapN (by omega)
    have q1 := hq.2 0 (by omega) (by omega)
    have q0 := hq.1
    have j := hJ.ok p (by omega)
    have hd := hD p (by omega)
    obtain ⟨r1', g1, g2, g3⟩ := as_l3 (cores := cores) hJ S tot hn hS0 hS p (by omega) (rd_T83 l p).f0 (rd_T83 l p).f1 (rd_T83 l p).f2 hd _ (rd_T83 l p).f0 (rows.set (0 : Int).toNat ((rd_L4 rows 0).set (1 + (p : Int)).toNat (rd_T83 l p).f2)) j.r0 j.rd rfl (hq.set2 (by omega) (by omega))
    obtain ⟨rows', r1, r2, r3⟩ := ih (p + 1) r1' (by omega) g1 (fun a b a0 b0 a1 b1 => by
      rw [g2 a b a0 b0, en_set hq (by omega) (by omega) (by omega) (by omega) a0 b0, he a b a0 b0 a1 b1]
      unfold capJ
      by_cases ha : a = 0
      · subst ha
        rw [if_neg (by omega)]
        by_cases hb : b = 1 + p
        · subst hb
          rw [if_pos ⟨rfl, rfl⟩, if_pos ⟨rfl, by omega, by omega⟩, show (1 + (p : Int) - 1) = p by omega]
        · rw [if_neg (fun z => hb z.2)]
          by_cases hb2 : 1 ≤ b ∧ b ≤ p
          · rw [if_pos ⟨rfl, hb2⟩, if_pos ⟨rfl, hb2.1, by omega⟩]
          · rw [if_neg (fun z => hb2 z.2), if_neg (by omega), if_neg (by omega), if_neg (by omega)]
      · rw [if_neg (show ¬ (a = 0 ∧ b = 1 + (p : Int)) from fun z => ha z.1), if_neg (show ¬ (a = 0 ∧ 1 ≤ b ∧ b ≤ (p : Int)) from fun z => ha z.1), if_neg (show ¬ (a = 0 ∧ 1 ≤ b ∧ b ≤ ((p + 1 : Nat) : Int)) from fun z => ha z.1)]
        by_cases hp1 : a = 1 + p
        · subst hp1
          rw [show (1 + (p : Int) - 1) = p by omega]
          by_cases hb : 1 + (l.length : Int) + (rd_T83 l p).f0 ≤ b ∧ b < 1 + (l.length : Int) + (rd_T83 l p).f1
          · rw [if_pos ⟨rfl, hb⟩, if_pos ⟨by omega, by omega, hb⟩]
          · rw [if_neg (fun z => hb z.2), if_neg (by omega), if_neg (fun z => hb z.2.2)]
        · rw [if_neg (fun z => hp1 z.1)]
          by_cases hq2 : 1 ≤ a ∧ a ≤ p ∧ 1 + (l.length : Int) + (rd_T83 l (a - 1)).f0 ≤ b ∧ b < 1 + (l.length : Int) + (rd_T83 l (a - 1)).f1
          · rw [if_pos hq2, if_pos ⟨hq2.1, by omega, hq2.2.2⟩]
          · rw [if_neg hq2, if_neg (fun z => hq2 ⟨z.1, by omega, z.2.2⟩)])
    refine ⟨rows', r1, r2, fun res hres => ?_⟩
    obtain ⟨k, hk⟩ := r3 res hres
    obtain ⟨k2, hk2⟩ := g3 res ⟨k, by rw [w]; exact hk⟩
    refine ⟨k2 + 1, ?_⟩
    rw [flow_assign.l2, if_pos (by omega), if_pos (by omega), if_pos (by omega), if_pos (by omega), w1, if_pos (by omega), if_pos (by omega)]
    exact hk2
theorem as_l1 (hJ : Jobs l) (S tot : Int) (hn : (n : Int) = 2 + l.length + S) (hS : S ≤ 200) : ∀ (d u : Nat) (xs : List (List Int)), u + d = n → xs.length = n → (∀ a : Int, 0 ≤ a → a < u → rd_L4 xs a = List.replicate n 0) →
    ∃ xs', Sq n xs' ∧ (∀ a : Int, 0 ≤ a → a < n → rd_L4 xs' a = List.replicate n 0) ∧ ∀ res, (∃ k, flow_assign.l2 k cores n xs' l (l.length : Int) 0 (l.length : Int) S tot 0 = some res) → ∃ k, flow_assign.l1 k l cores n xs (n : Int) u (l.length : Int) S tot 0 = some res := by
  have hl := hJ.len
  intro d
  induction d with
  | zero =>
    intro u xs hu hx hz
    obtain rfl : u = n := by omega
    refine ⟨xs, ⟨hx, fun a a0 a1 => by rw [hz a a0 a1, List.length_replicate]⟩, hz, fun res ⟨k, hk⟩ => ⟨k + 1, ?_⟩⟩
    rw [flow_assign.l1, if_neg (by omega)]
    exact hk
  | succ d ih =>
    intro u xs hu hx hz
    have w : wrap64 ((u : Int) + 1) = ((u + 1 : Nat) : Int) := wrapN (by omega)
    obtain ⟨xs', r1, r2, r3⟩ := ih (u + 1) (xs.set (u : Int).toNat (List.replicate n 0)) (by omega) (by rw [List.length_set]; exact hx) (fun a a0 a1 => by
      rw [rd4_set (by omega) (by omega) a0]
      by_cases e : a = u
      · rw [if_pos e]
      · rw [if_neg e]; exact hz a a0 (by omega))
    refine ⟨xs', r1, r2, fun res hres => ?_⟩
    obtain ⟨k, hk⟩ := r3 res hres
    refine ⟨k + 1, ?_⟩
    rw [flow_assign.l1, if_pos (by omega), if_pos (by omega), if_pos (by omega), if_pos (by omega), if_pos (by omega), w, Int.toNat_natCast n]
    exact hk
theorem as_l0 (hJ : Jobs l) : ∀ (d p : Nat), p + d = l.length → ∀ res, (∃ k, flow_assign.l0 k l cores l (l.length : Int) l.length (l.length : Int) (maxD l l.length) (sumC l l.length) 0 = some res) → ∃ k, flow_assign.l0 k l cores l (l.length : Int) p (l.length : Int) (maxD l p) (sumC l p) 0 = some res := by
  have hl := hJ.len
  intro d
  induction d with
  | zero =>
    intro p hp res h
    obtain rfl : p = l.length := by omega
    exact h
  | succ d ih =>
    intro p hp res h
    obtain ⟨k, hk⟩ := ih (p + 1) (by omega) res h
    have w : wrap64 ((p : Int) + 1) = ((p + 1 : Nat) : Int) := wrapN (by omega)
    have s1 := sumC_b hJ p (by omega)
    have j := hJ.ok p (by omega)
    have := j.c0
    have := j.c1
    have w2 : wrap64 (sumC l p + (rd_T83 l p).f2) = sumC l p + (rd_T83 l p).f2 := wrapI (by omega) (by omega)
    refine ⟨k + 1, ?_⟩
    rw [flow_assign.l0, if_pos (by omega), if_pos (by omega), if_pos (by omega), w, w2]
    exact hk
/-- The network of a valid list. -/
theorem assign_ev (hJ : Jobs l) (hc : 1 ≤ cores ∧ cores ≤ 4) : ∃ (n : Nat) (c rows : List (List Int)) (value : Int), (n : Int) = 2 + l.length + maxD l l.length ∧ Net n c ∧ (∀ a b : Int, 0 ≤ a → a < n → 0 ≤ b → b < n → en c a b = capA l cores (maxD l l.length) a b) ∧
    (∃ k0, ∀ k, k0 ≤ k → flow_assign.f k l cores = some ((l.length : Int), maxD l l.length, sumC l l.length, value, rows)) ∧ FI n c 0 (1 + l.length + maxD l l.length) rows value ∧ ∃ before ord, Bfs n rows 0 before ord ∧ (1 + (l.length : Int) + maxD l l.length) ∉ ord := by
  have hl := hJ.len
  obtain ⟨m0, m1, m2⟩ := maxD_b hJ l.length (Nat.le_refl _)
  obtain ⟨n, hn⟩ : ∃ n : Nat, (n : Int) = 2 + l.length + maxD l l.length := ⟨(2 + l.length + maxD l l.length).toNat, by omega⟩
  obtain ⟨z, z1, z2, z3⟩ := as_l1 (n := n) (cores := cores) hJ (maxD l l.length) (sumC l l.length) hn m1 n 0 (List.replicate n []) (by omega) (by simp) (fun a a0 a1 => by omega)
  obtain ⟨y, y1, y2, y3⟩ := as_l2 (n := n) (cores := cores) hJ (maxD l l.length) (sumC l l.length) hn m0 m1 (fun q hq => m2 q hq) l.length 0 z (by omega) z1 (fun a b a0 b0 a1 b1 => by
    unfold en capJ
    rw [z2 a a0 a1, if_neg (by omega), if_neg (by omega)]
    exact gD_rep _ b0 b1)
  obtain ⟨c, c1, c2, c3⟩ := as_l4 (n := n) (cores := cores) hJ (maxD l l.length) (sumC l l.length) hn m0 m1 _ 0 y (Int.le_refl _) m0 rfl y1
  have hcap : ∀ a b : Int, 0 ≤ a → a < n → 0 ≤ b → b < n → en c a b = capA l cores (maxD l l.length) a b := by
    intro a b a0 a1 b0 b1
    rw [c2 a b a0 b0, y2 a b a0 b0 a1 b1, Int.add_zero]
    rfl
  have hnet : Net n c := by
    refine ⟨c1, by omega, fun a b a0 a1 b0 b1 => ?_⟩
    rw [hcap a b a0 a1 b0 b1]
    unfold capA capJ
    split
    · omega
    · split
      · rename_i hq
        have h3 := hJ.ok (b - 1).toNat (by omega)
        rw [Int.toNat_of_nonneg (by omega)] at h3
        have := h3.c0
        have := h3.c1
        omega
      · split <;> omega
  obtain ⟨value, rows, ⟨k4, h4⟩, hf, hb⟩ := maximize_ev hnet (s := 0) (t := 1 + l.length + maxD l l.length) (by omega) (by omega) (by omega) (by omega) (by omega)
  refine ⟨n, c, rows, value, hn, hnet, hcap, ?_, hf, hb⟩
  refine ev_of (fun k => flow_assign.mono l cores k) ?_
  obtain ⟨k3, h3⟩ := c3 value rows ⟨k4, h4 _ (Nat.le_refl _)⟩
  obtain ⟨k2, h2⟩ := y3 _ ⟨k3, h3⟩
  obtain ⟨k1, h1⟩ := z3 _ ⟨k2, h2⟩
  obtain ⟨k0, h0⟩ := as_l0 (cores := cores) hJ l.length 0 (by omega) ((l.length : Int), maxD l l.length, sumC l l.length, value, rows) (by
    have w1 : wrap64 (2 + (l.length : Int)) = 2 + l.length := wrapI (by omega) (by omega)
    have w2 : wrap64 (2 + (l.length : Int) + maxD l l.length) = (n : Int) := by rw [wrapI (by omega) (by omega)]; omega
    refine ⟨k1 + 1, ?_⟩
    rw [flow_assign.l0, if_neg (by omega), w1, w2, if_pos (by omega), Int.toNat_natCast, if_pos (by omega), Option.bind_some, List.length_replicate]
    exact h1)
  exact ⟨k0, h0⟩
end
end Go.Proofs.Ythdjhgidccmlfaa.M
