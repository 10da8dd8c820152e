/- The plain law of DominatorTree: on every valid graph of at most 14 blocks the search gives the reference's immediate dominators, and nothing on any other graph. No conditions. -/
import Derived.Test.YtnkbmpdghjhlfaaMTreeRef
import Derived.Test.YtnkbmpdghjhlfaaPx5
namespace Go.Proofs.Ytnkbmpdghjhlfaa.Pure
open Go.RowKit Go.Proofs.Ytnkbmpdghjhlfaa.P Go.Proofs.Ytnkbmpdghjhlfaa.M Go.Proofs.YtnkbmpdghjhlfaaW.PrintWords

theorem DominatorTree : ontimelaw25_DominatorTree.Pure := by
  intro bl pv _ _
  obtain ⟨k1, h1⟩ := next_ev bl pv
  by_cases hn : bl.length ≤ 14
  · by_cases hv : validB bl pv = true
    · obtain ⟨order, idom, r, _, ⟨k2, h2⟩, _, _, ht, _⟩ := facts hn hv
      obtain ⟨k3, h3⟩ := rtree_ev (gr_of hn hv) ht
      have hl := ht.len
      rw [rows_len] at hl
      obtain ⟨k4, h4⟩ := ints_ev idom idom (by omega)
      refine ⟨max (max k1 k2) (max k3 k4), ?_⟩
      unfold ontimelaw25_DominatorTree.f
      rw [h1 _ (by omega), if_pos ⟨hn, hv⟩, h2 _ (by omega)]
      simp only [ontimelaw25_awake.f, Option.bind_some, if_true]
      rw [h3 _ (by omega)]
      simp only [Option.bind_some]
      rw [h4 _ (by omega)]
      simp
    · have hv' : validB bl pv = false := by simpa using hv
      obtain ⟨k2, h2⟩ := tree_bad hn hv'
      obtain ⟨k3, h3⟩ := order_bad hn hv'
      refine ⟨max k1 (max k2 k3), ?_⟩
      unfold ontimelaw25_DominatorTree.f dominator_Frontier.f
      rw [h1 _ (by omega), if_neg (fun h => hv h.2), h2 _ (by omega), h3 _ (by omega)]
      have h14 : ¬ (bl.length : Int) > 14 := by omega
      simp [ontimelaw25_awake.f, h14]
  · refine ⟨k1, ?_⟩
    unfold ontimelaw25_DominatorTree.f
    rw [h1 _ (by omega), if_neg (fun h => hn h.1)]
    have h14 : (bl.length : Int) > 14 := by omega
    simp [ontimelaw25_awake.f, h14]
end Go.Proofs.Ytnkbmpdghjhlfaa.Pure
