/- The plain law of DominatorOrder: on every valid graph of at most 14 blocks both searches give one list. No conditions. -/
import Derived.Test.YtnkbmpdghjhlfaaMInts
namespace Go.Proofs.Ytnkbmpdghjhlfaa.Pure
open Go.RowKit Go.Proofs.Ytnkbmpdghjhlfaa.P Go.Proofs.Ytnkbmpdghjhlfaa.M Go.Proofs.YtnkbmpdghjhlfaaW.PrintWords

theorem DominatorOrder : ontimelaw25_DominatorOrder.Pure := by
  intro bl pv _ _
  obtain ⟨k1, h1⟩ := next_ev bl pv
  by_cases hv : bl.length ≤ 14 ∧ validB bl pv = true
  · obtain ⟨order, ⟨k2, h2⟩, ⟨k3, h3⟩, _, hl⟩ := order_ev hv.1 hv.2
    obtain ⟨k4, h4⟩ := ints_ev order order (by omega)
    refine ⟨max (max k1 k2) (max k3 k4), ?_⟩
    unfold ontimelaw25_DominatorOrder.f
    rw [h1 _ (by omega), if_pos hv, h2 _ (by omega)]
    simp only [ontimelaw25_awake.f, Option.bind_some, if_true]
    rw [h3 _ (by omega)]
    simp only [Option.bind_some]
    rw [h4 _ (by omega)]
    simp
  · refine ⟨k1, ?_⟩
    unfold ontimelaw25_DominatorOrder.f
    rw [h1 _ (by omega), if_neg hv]
    simp [ontimelaw25_awake.f]
end Go.Proofs.Ytnkbmpdghjhlfaa.Pure
