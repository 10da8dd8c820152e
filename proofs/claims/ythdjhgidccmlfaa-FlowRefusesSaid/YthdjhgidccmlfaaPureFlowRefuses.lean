/- The plain law of FlowRefuses: networks, ends, jobs and cores that are not valid are refused. No conditions. -/
import Derived.Test.YthdjhgidccmlfaaMNetEv
import Derived.Test.YthdjhgidccmlfaaMJobs
import Derived.Test.YthdjhgidccmlfaaPx7
namespace Go.Proofs.Ythdjhgidccmlfaa.Pure
open Go.RowKit Go.Proofs.Ythdjhgidccmlfaa.P Go.Proofs.Ythdjhgidccmlfaa.M Go.Proofs.YthdjhgidccmlfaaW.PrintWords
set_option linter.unusedVariables false
set_option linter.unusedSimpArgs false

/-- The jobs' part. -/
theorem rf_j2 (l : List S83) (cores : Int) (hl : l.length ≤ 200) : ∃ k, ontimelaw47_FlowRefuses.j2 k l cores false = some true := by
  obtain ⟨k1, h1⟩ := jvalid_ev l cores (by omega)
  by_cases hv : flow_admit.f l cores = some true
  · refine ⟨k1 + 1, ?_⟩
    rw [ontimelaw47_FlowRefuses.j2, if_neg (by simp), h1 _ (Nat.le_refl _), hv, Option.bind_some, if_pos rfl]
  · have hf : flow_admit.f l cores = some false := by
      unfold flow_admit.f at hv ⊢
      cases hb : (decide (l.length ≤ 100 ∧ 1 ≤ cores ∧ cores ≤ 4) && !l.any badJ) with
      | false => rfl
      | true => rw [hb] at hv; exact absurd rfl hv
    refine ⟨k1 + 1, ?_⟩
    have hs : flow_Schedule.f k1 l cores = some ([], false, 1) := by
      unfold flow_Schedule.f
      rw [hf, Option.bind_some, if_neg (by simp)]
    have hw : flow_Witness.f k1 l cores = some ([], [], false) := by
      unfold flow_Witness.f
      rw [hf, Option.bind_some, if_neg (by simp)]
    rw [ontimelaw47_FlowRefuses.j2, if_neg (by simp), h1 _ (Nat.le_refl _), hf, Option.bind_some, if_neg (by simp), hs, Option.bind_some, hw, Option.bind_some]
    rfl
theorem rf_j1 (l : List S83) (cores : Int) (hl : l.length ≤ 200) (value : Int) (xs : List (List Int)) (e : Int) (h : e ≠ 0 → value = 0 ∧ xs = []) : ∃ k, ontimelaw47_FlowRefuses.j1 k l cores value xs e e = some true := by
  obtain ⟨k, hk⟩ := rf_j2 l cores hl
  refine ⟨k + 1, ?_⟩
  rw [ontimelaw47_FlowRefuses.j1, if_pos rfl]
  by_cases c : e = 0
  · rw [if_pos c]
    exact hk
  · obtain ⟨rfl, rfl⟩ := h c
    rw [if_neg c, if_pos rfl]
    exact hk
theorem FlowRefuses : ontimelaw47_FlowRefuses.Pure := by
  intro c s t l cores _ _ _ _ _
  by_cases c1 : (c.length : Int) > 14
  · exact ⟨1, by unfold ontimelaw47_FlowRefuses.f; simp only [ontimelaw47_awake.f, Option.bind_some, if_true]; rw [if_pos c1, ontimelaw47_FlowRefuses.j0, if_pos rfl]; rfl⟩
  by_cases c2 : (l.length : Int) > 200
  · exact ⟨1, by unfold ontimelaw47_FlowRefuses.f; simp only [ontimelaw47_awake.f, Option.bind_some, if_true]; rw [if_neg c1, decide_eq_true c2, ontimelaw47_FlowRefuses.j0, if_pos rfl]; rfl⟩
  obtain ⟨b, hb, ⟨k1, h1⟩, hnw⟩ := net_ev (c := c) (by omega)
  obtain ⟨k2, h2⟩ := hnw 14 (by omega)
  have hl : l.length ≤ 200 := by omega
  have go : (∃ k', ontimelaw47_FlowRefuses.j0 k' c s t l cores false = some true) → ∃ k, ontimelaw47_FlowRefuses.f k c s t l cores = some true := by
    intro ⟨k, hk⟩
    exact ⟨k, by unfold ontimelaw47_FlowRefuses.f; simp only [ontimelaw47_awake.f, Option.bind_some, if_true]; rw [if_neg c1, decide_eq_false c2]; exact hk⟩
  refine go ?_
  cases b with
  | false =>
    obtain ⟨k3, h3⟩ := rf_j1 l cores hl 0 [] 1 (fun _ => ⟨rfl, rfl⟩)
    refine ⟨max k1 (max k2 k3) + 1, ?_⟩
    have hm : flow_Max.f (max k1 (max k2 k3)) c s t = some (0, [], 1) := by
      unfold flow_Max.f
      rw [h1 _ (by omega), Option.bind_some, if_neg (by simp)]
    rw [ontimelaw47_FlowRefuses.j0, if_neg (by simp), hm, Option.bind_some, h2 _ (by omega), Option.bind_some, if_neg (by simp)]
    exact at_rounds (fun k => (ontimelaw47_FlowRefuses.mono_l k).2.1 _ _ _ _ _ _) (by omega) h3
  | true =>
    have hnet := hb.1 rfl
    by_cases hends : s < 0 ∨ s ≥ (c.length : Int) ∨ t < 0 ∨ t ≥ (c.length : Int) ∨ s = t
    · obtain ⟨k3, h3⟩ := rf_j1 l cores hl 0 [] 2 (fun _ => ⟨rfl, rfl⟩)
      refine ⟨max k1 (max k2 k3) + 1, ?_⟩
      have hm : flow_Max.f (max k1 (max k2 k3)) c s t = some (0, [], 2) := by
        unfold flow_Max.f
        rw [h1 _ (by omega), Option.bind_some, if_pos rfl, if_pos hends]
      have h4 := at_rounds (fun k => (ontimelaw47_FlowRefuses.mono_l k).2.1 l cores 0 [] 2 2) (show k3 ≤ max k1 (max k2 k3) by omega) h3
      rw [ontimelaw47_FlowRefuses.j0, if_neg (by simp), hm, Option.bind_some, h2 _ (by omega), Option.bind_some, if_pos rfl]
      by_cases e1 : s < 0
      · rw [if_pos e1]; exact h4
      by_cases e2 : t < 0
      · rw [if_neg e1, if_pos e2]; exact h4
      by_cases e3 : s ≥ (c.length : Int)
      · rw [if_neg e1, if_neg e2, if_pos e3]; exact h4
      by_cases e4 : t ≥ (c.length : Int)
      · rw [if_neg e1, if_neg e2, if_neg e3, if_pos e4]; exact h4
      have e5 : s = t := by omega
      rw [if_neg e1, if_neg e2, if_neg e3, if_neg e4, if_pos e5]
      exact h4
    · obtain ⟨value, rows, xs, ⟨k4, h4⟩, _⟩ := max_ev hnet (by omega) (s := s) (t := t) (by omega) (by omega) (by omega) (by omega) (by omega)
      obtain ⟨k3, h3⟩ := rf_j1 l cores hl value xs 0 (fun h => absurd rfl h)
      refine ⟨max (max k1 k4) (max k2 k3) + 1, ?_⟩
      rw [ontimelaw47_FlowRefuses.j0, if_neg (by simp), h4 _ (by omega), Option.bind_some, h2 _ (by omega), Option.bind_some, if_pos rfl, if_neg (by omega), if_neg (by omega), if_neg (by omega), if_neg (by omega), if_neg (by omega)]
      exact at_rounds (fun k => (ontimelaw47_FlowRefuses.mono_l k).2.1 _ _ _ _ _ _) (by omega) h3
end Go.Proofs.Ythdjhgidccmlfaa.Pure
