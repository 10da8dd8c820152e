/- The plain law of DominatorFrontier: on every valid graph of at most 14 blocks both frontiers are the same rows. No conditions. -/
import Derived.Test.YtnkbmpdghjhlfaaMFrontRef
import Derived.Test.YtnkbmpdghjhlfaaPx8
namespace Go.Proofs.Ytnkbmpdghjhlfaa.Pure
open Go.RowKit Go.Proofs.Ytnkbmpdghjhlfaa.P Go.Proofs.Ytnkbmpdghjhlfaa.M Go.Proofs.YtnkbmpdghjhlfaaW.PrintWords

theorem fr_l0 (x : List (List Int)) (hx : x.length ≤ 1000) (hrow : ∀ i : Int, 0 ≤ i → i < x.length → (rd_L1 x i).length ≤ 1000) : ∀ (d i : Nat), i + d = x.length → ∃ k, ontimelaw25_DominatorFrontier.l0 k x x i = some true := by
  intro d
  induction d with
  | zero => intro i hi; exact ⟨1, by rw [ontimelaw25_DominatorFrontier.l0, if_neg (by omega)]⟩
  | succ d ih =>
    intro i hi
    have hiI : (i : Int) < (x.length : Int) := by omega
    have hi0 : (0 : Int) ≤ (i : Int) := by omega
    have hi2 : i < 1000000000000000000 := by omega
    have := hrow i hi0 hiI
    obtain ⟨k1, h1⟩ := ints_ev (rd_L1 x i) (rd_L1 x i) (by omega)
    obtain ⟨k, hk⟩ := ih (i + 1) (by omega)
    refine ⟨max k k1 + 1, ?_⟩
    rw [ontimelaw25_DominatorFrontier.l0, if_pos hiI, if_pos hi0, if_pos hiI, h1 _ (by omega), Option.bind_some, if_pos (by simp), wrapN hi2]
    exact at_rounds (fun k => (ontimelaw25_DominatorFrontier.mono_l k) _ _ _) (Nat.le_max_left k k1) hk

theorem DominatorFrontier : ontimelaw25_DominatorFrontier.Pure := by
  intro bl pv _ _
  obtain ⟨k1, h1⟩ := next_ev bl pv
  by_cases hv : bl.length ≤ 14 ∧ validB bl pv = true
  · have g := gr_of hv.1 hv.2
    have h14 := g.n14
    obtain ⟨out, ⟨k2, h2⟩, r1⟩ := front_ev hv.1 hv.2
    obtain ⟨out', ⟨k3, h3⟩, r2⟩ := rfr_ev g
    obtain rfl := r1.unique r2
    obtain ⟨k4, h4⟩ := fr_l0 out (by rw [r1.1]; omega) (fun i h0 h1 => by
      rw [r1.1] at h1
      by_cases hR : Rd (rowsOf bl) i
      · rw [(r1.2 i h0 h1).1 hR]
        have := frow_len (Fr (rowsOf bl) i) (rowsOf bl).length 0
        omega
      · rw [(r1.2 i h0 h1).2 hR]
        simp) out.length 0 (by omega)
    refine ⟨max (max k1 k2) (max k3 k4), ?_⟩
    unfold ontimelaw25_DominatorFrontier.f
    rw [h1 _ (by omega), if_pos hv, h2 _ (by omega)]
    simp only [ontimelaw25_awake.f, Option.bind_some, if_true]
    rw [h3 _ (by omega)]
    simp only [Option.bind_some, if_true]
    exact at_rounds (fun k => (ontimelaw25_DominatorFrontier.mono_l k) _ _ _) (by omega) h4
  · refine ⟨k1, ?_⟩
    unfold ontimelaw25_DominatorFrontier.f
    rw [h1 _ (by omega), if_neg hv]
    simp [ontimelaw25_awake.f]
end Go.Proofs.Ytnkbmpdghjhlfaa.Pure
