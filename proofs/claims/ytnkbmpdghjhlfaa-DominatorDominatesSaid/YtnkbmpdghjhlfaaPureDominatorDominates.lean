/- The plain law of DominatorDominates: following the tree tells whether a block dominates a reached one, as the reference tells it by taking blocks away. No conditions. -/
import Derived.Test.YtnkbmpdghjhlfaaMTreeRef
import Derived.Test.YtnkbmpdghjhlfaaPx5
namespace Go.Proofs.Ytnkbmpdghjhlfaa.Pure
open Go.RowKit Go.Proofs.Ytnkbmpdghjhlfaa.P Go.Proofs.Ytnkbmpdghjhlfaa.M Go.Proofs.YtnkbmpdghjhlfaaW.PrintWords

theorem DominatorDominates : ontimelaw25_DominatorDominates.Pure := by
  intro bl pv a b _ _ _ _
  obtain ⟨k1, h1⟩ := next_ev bl pv
  by_cases hv : bl.length ≤ 14 ∧ validB bl pv = true
  · obtain ⟨order, idom, r, _, ⟨k2, h2⟩, _, _, ht, _, _, _, hd1, hd2⟩ := facts hv.1 hv.2
    have g := gr_of hv.1 hv.2
    have hl := ht.len
    have hrl := rows_len bl
    obtain ⟨s, ⟨k3, h3⟩, hs, hin⟩ := g.reach (-1)
    have main : ∃ k0, ∀ k, k0 ≤ k → (if a < 0 then (ontimelaw25_DominatorDominates.j0 k a b (rowsOf bl) (domB idom a b) true) else (if a ≥ ((rowsOf bl).length : Int) then (ontimelaw25_DominatorDominates.j0 k a b (rowsOf bl) (domB idom a b) true) else (if b < 0 then (ontimelaw25_DominatorDominates.j0 k a b (rowsOf bl) (domB idom a b) true) else (ontimelaw25_DominatorDominates.j0 k a b (rowsOf bl) (domB idom a b) (decide (b ≥ ((rowsOf bl).length : Int))))))) = some true := by
      by_cases hin' : 0 ≤ a ∧ a < ((rowsOf bl).length : Int) ∧ 0 ≤ b ∧ b < ((rowsOf bl).length : Int)
      · obtain ⟨a0, a1, b0, b1⟩ := hin'
        have e4 : decide (b ≥ ((rowsOf bl).length : Int)) = false := decide_eq_false (by omega)
        have bs : b < (s.length : Int) := by omega
        by_cases hR : rdOf false s b = true
        · have hRb := (hin b b0).1 hR
          obtain ⟨q, ⟨k4, h4⟩, hq⟩ := g.dom_r a b ⟨a0, a1⟩ hRb
          have hq2 := hd1 a b hRb a0 (by omega)
          have e : domB idom a b = q := by
            rw [Bool.eq_iff_iff, hq2, hq]
          refine ⟨max k3 k4 + 1, fun k hk => ?_⟩
          obtain ⟨k, rfl⟩ : ∃ j, k = j + 1 := ⟨k - 1, by omega⟩
          rw [if_neg (by omega), if_neg (by omega), if_neg (by omega), e4, ontimelaw25_DominatorDominates.j0, if_neg (by simp), h3 k (by omega), Option.bind_some, if_pos b0, if_pos bs, if_pos hR, h4 k (by omega), Option.bind_some, e]
          simp
        · have hRb : ¬ Rd (rowsOf bl) b := fun h => hR ((hin b b0).2 h)
          have hq2 := hd2 a b hRb b0 (by omega) a0 (by omega)
          have e : domB idom a b = (a == b) := by
            rw [Bool.eq_iff_iff, hq2, beq_iff_eq]
          refine ⟨k3 + 1, fun k hk => ?_⟩
          obtain ⟨k, rfl⟩ : ∃ j, k = j + 1 := ⟨k - 1, by omega⟩
          rw [if_neg (by omega), if_neg (by omega), if_neg (by omega), e4, ontimelaw25_DominatorDominates.j0, if_neg (by simp), h3 k (by omega), Option.bind_some, if_pos b0, if_pos bs, if_neg hR, e]
          simp
      · have e : domB idom a b = false := by
          unfold domB
          rw [if_neg (by rw [hl]; exact hin')]
        rw [e]
        refine ⟨1, fun k hk => ?_⟩
        obtain ⟨k, rfl⟩ : ∃ j, k = j + 1 := ⟨k - 1, by omega⟩
        have j : ontimelaw25_DominatorDominates.j0 (k + 1) a b (rowsOf bl) false true = some true := by
          rw [ontimelaw25_DominatorDominates.j0, if_pos rfl]
          rfl
        by_cases e1 : a < 0
        · rw [if_pos e1, j]
        by_cases e2 : a ≥ ((rowsOf bl).length : Int)
        · rw [if_neg e1, if_pos e2, j]
        by_cases e3 : b < 0
        · rw [if_neg e1, if_neg e2, if_pos e3, j]
        have e4 : decide (b ≥ ((rowsOf bl).length : Int)) = true := decide_eq_true (by omega)
        rw [if_neg e1, if_neg e2, if_neg e3, e4, j]
    obtain ⟨k5, h5⟩ := main
    refine ⟨max (max k1 k2) k5, ?_⟩
    unfold ontimelaw25_DominatorDominates.f dominator_Dominates.f
    rw [h1 _ (by omega), if_pos hv, h2 _ (by omega)]
    simp only [ontimelaw25_awake.f, Option.bind_some, if_true]
    exact h5 _ (by omega)
  · refine ⟨k1, ?_⟩
    unfold ontimelaw25_DominatorDominates.f
    rw [h1 _ (by omega), if_neg hv]
    simp [ontimelaw25_awake.f]
end Go.Proofs.Ytnkbmpdghjhlfaa.Pure
