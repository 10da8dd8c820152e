/- The plain law of DominatorChains: following a list of at most 30 numbers as the program does answers as the reference does. No conditions. -/
import Derived.Test.YtnkbmpdghjhlfaaPx5
namespace Go.Proofs.Ytnkbmpdghjhlfaa.Pure
open Go.RowKit Go.Proofs.Ytnkbmpdghjhlfaa.P Go.Proofs.YtnkbmpdghjhlfaaW.PrintWords
set_option linter.unusedVariables false

theorem wrapS {i : Int} (h0 : 0 ≤ i) (h1 : i < 1000000000000000000) : wrap64 (i + 1) = i + 1 := by
  unfold wrap64; omega

theorem chain_l0 (l : List Int) (a : Int) (hl : l.length ≤ 30) (ha : 0 ≤ a ∧ a < l.length) :
    ∀ (d : Nat) (s b : Int), 0 ≤ s → s + d = l.length + 1 → ∃ k, ontimeref25_Chain.l0 k l a b s = some (if 0 ≤ b ∧ b < l.length then (match d with | 0 => false | d + 1 => domL l a d b) else false) := by
  intro d
  induction d with
  | zero =>
    intro s b h0 h1
    refine ⟨2, ?_⟩
    have h : ¬ s ≤ (l.length : Int) := by omega
    simp [ontimeref25_Chain.l0, ontimeref25_Chain.j2, h]
  | succ d ih =>
    intro s b h0 h1
    have h : s ≤ (l.length : Int) := by omega
    by_cases hb : 0 ≤ b ∧ b < l.length
    · by_cases hab : a = b
      · refine ⟨2, ?_⟩
        subst hab
        cases d <;> simp [ontimeref25_Chain.l0, ontimeref25_Chain.j2, h, hb.1, hb.2, domL]
      · obtain ⟨k, hk⟩ := ih (s + 1) (rd l b) (by omega) (by omega)
        refine ⟨k + 2, ?_⟩
        simp only [ontimeref25_Chain.l0, ontimeref25_Chain.j2, h, hb.1, hb.2, hab, if_true, if_false, ge_iff_le, decide_true, and_self, wrapS h0 (by omega)]
        rw [hk]
        cases d with
        | zero => simp [domL, hab]
        | succ d => simp only [domL, hab, if_false]
    · refine ⟨2, ?_⟩
      by_cases hb0 : 0 ≤ b
      · have hb1 : ¬ b < l.length := fun h => hb ⟨hb0, h⟩
        simp [ontimeref25_Chain.l0, ontimeref25_Chain.j2, h, hb0, hb1]
      · simp [ontimeref25_Chain.l0, ontimeref25_Chain.j2, h, hb0]

theorem DominatorChains : ontimelaw25_DominatorChains.Pure := by
  intro l a b _ _ _
  unfold ontimelaw25_DominatorChains.f
  by_cases hl : (l.length : Int) > 30
  · exact ⟨0, by simp [ontimelaw25_awake.f, hl]⟩
  · have hl' : l.length ≤ 30 := by omega
    suffices h : ∃ k, ontimeref25_Chain.f k l a b = some (domB l a b) by
      obtain ⟨k, hk⟩ := h
      exact ⟨k, by simp [ontimelaw25_awake.f, hl, dominator_Dominates.f, hk]⟩
    unfold ontimeref25_Chain.f domB
    by_cases h : 0 ≤ a ∧ a < (l.length : Int) ∧ 0 ≤ b ∧ b < (l.length : Int)
    · obtain ⟨k, hk⟩ := chain_l0 l a hl' ⟨h.1, h.2.1⟩ (l.length + 1) 0 b (Int.le_refl _) (by omega)
      refine ⟨k + 1, ?_⟩
      have e1 : ¬ a < 0 := by omega
      have e2 : ¬ a ≥ (l.length : Int) := by omega
      have e3 : ¬ b < 0 := by omega
      have e4 : decide (b ≥ (l.length : Int)) = false := decide_eq_false (by omega)
      rw [if_neg e1, if_neg e2, if_neg e3, e4, if_pos h]
      simp only [ontimeref25_Chain.j0, Bool.false_eq_true, if_false, hk, h.2.2, and_self, if_true]
    · refine ⟨1, ?_⟩
      rw [if_neg h]
      by_cases e1 : a < 0
      · simp [e1, ontimeref25_Chain.j0]
      by_cases e2 : a ≥ (l.length : Int)
      · simp [e1, e2, ontimeref25_Chain.j0]
      by_cases e3 : b < 0
      · simp [e1, e2, e3, ontimeref25_Chain.j0]
      have e4 : decide (b ≥ (l.length : Int)) = true := decide_eq_true (by omega)
      rw [if_neg e1, if_neg e2, if_neg e3, e4]
      simp [ontimeref25_Chain.j0]
end Go.Proofs.Ytnkbmpdghjhlfaa.Pure
