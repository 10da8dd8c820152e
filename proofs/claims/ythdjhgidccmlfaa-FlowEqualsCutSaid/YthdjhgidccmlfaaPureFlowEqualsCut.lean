/- The plain law of FlowEqualsCut: the value of a greatest flow in a small network is the least capacity of a cut. No conditions. -/
import Derived.Test.YthdjhgidccmlfaaMCutRef
import Derived.Test.YthdjhgidccmlfaaPx6
namespace Go.Proofs.Ythdjhgidccmlfaa.Pure
open Go.RowKit Go.Proofs.Ythdjhgidccmlfaa.P Go.Proofs.Ythdjhgidccmlfaa.M Go.Proofs.YthdjhgidccmlfaaW.PrintWords
set_option linter.unusedVariables false
set_option linter.unusedSimpArgs false

theorem FlowEqualsCut : ontimelaw47_FlowEqualsCut.Pure := by
  intro c a b _ w1 w2
  have no : ∀ k0, (∀ k, k0 ≤ k → ontimelaw47_network.f k c 8 = some false) → ∃ k, ontimelaw47_FlowEqualsCut.f k c a b = some true := by
    intro k0 h
    refine ⟨k0 + 1, ?_⟩
    unfold ontimelaw47_FlowEqualsCut.f
    simp only [ontimelaw47_awake.f, Option.bind_some, if_true]
    rw [h _ (by omega), Option.bind_some, Bool.not_false, ontimelaw47_FlowEqualsCut.j0, if_pos rfl]
    rfl
  by_cases c1 : (c.length : Int) > 8
  · refine no 1 (fun k hk => ?_)
    obtain ⟨k, rfl⟩ : ∃ j, k = j + 1 := ⟨k - 1, by omega⟩
    unfold ontimelaw47_network.f
    rw [if_neg (by omega), decide_eq_true c1, ontimelaw47_network.j0, if_pos rfl]
  obtain ⟨bb, hb, _, hnw⟩ := net_ev (c := c) (by omega)
  obtain ⟨k2, h2⟩ := hnw 8 (by omega)
  cases bb with
  | false => exact no k2 h2
  | true =>
    have hnet := hb.1 rfl
    have hn := hnet.net (by omega)
    obtain ⟨s, t, he, hs, ht, hst⟩ := ends_ev c hnet.1 (by omega) (u8_range w1) (u8_range w2)
    obtain ⟨value, rows, xs, ⟨k3, h3⟩, hf, ⟨before, ord, hbf, hto⟩, _⟩ := max_ev hnet (by omega) hs.1 hs.2 ht.1 ht.2 hst
    obtain ⟨k4, h4⟩ := refcut_ev hn (by omega) hs.1 hs.2 ht.1 ht.2 hf hbf hto
    refine ⟨max k2 (max k3 k4) + 1, ?_⟩
    unfold ontimelaw47_FlowEqualsCut.f
    simp only [ontimelaw47_awake.f, Option.bind_some, if_true]
    rw [h2 _ (by omega), Option.bind_some, Bool.not_true, ontimelaw47_FlowEqualsCut.j0, if_neg (by simp), he, Option.bind_some]
    dsimp only
    rw [h3 _ (by omega), Option.bind_some]
    dsimp only
    rw [if_pos rfl, h4 _ (by omega), Option.bind_some]
    simp
end Go.Proofs.Ythdjhgidccmlfaa.Pure
