/- The plain law of DominatorTransitive: following an immediate-dominator list is reflexive, transitive, antisymmetric, block 0 dominates every reached block, and the dominators of a block form a chain. No conditions. -/
import Derived.Test.YtnkbmpdghjhlfaaMFacts
import Derived.Test.YtnkbmpdghjhlfaaXTransW
namespace Go.Proofs.Ytnkbmpdghjhlfaa.Pure
open Go.RowKit Go.Proofs.Ytnkbmpdghjhlfaa.P Go.Proofs.Ytnkbmpdghjhlfaa.M Go.Proofs.YtnkbmpdghjhlfaaW.PrintWords
set_option linter.unusedVariables false

theorem DominatorTransitive : ontimelaw25_DominatorTransitive.Pure := by
  intro bl pv a1 a2 a3 _ _ w1 w2 w3
  obtain ⟨k1, h1⟩ := next_ev bl pv
  by_cases hv : bl.length ≤ 14 ∧ validB bl pv = true
  · right
    have g := gr_of hv.1 hv.2
    have h14 := g.n14
    have hn0 := g.n0
    have hrl := rows_len bl
    obtain ⟨order, idom, r, _, ⟨k3, h3⟩, ho, hol, ht, hr, hlt, hpos, hd1, hd2⟩ := facts hv.1 hv.2
    obtain ⟨s, ⟨k4, h4⟩, hs, hin⟩ := g.reach (-1)
    have e1 := h1 (max k1 (max k3 k4)) (by omega)
    rw [if_pos hv] at e1
    have q1 := u8_range w1
    have q2 := u8_range w2
    have q3 := u8_range w3
    refine ⟨max k1 (max k3 k4), _, s, idom, e1, h4 _ (by omega), h3 _ (by omega), ?_⟩
    have rg : ∀ a : Int, 0 ≤ a → 0 ≤ a.tmod ((rowsOf bl).length : Int) ∧ a.tmod ((rowsOf bl).length : Int) < bl.length := fun a h => ⟨Int.tmod_nonneg _ h, by
      have := Int.tmod_lt_of_pos a (b := ((rowsOf bl).length : Int)) (by omega)
      omega⟩
    have hx := rg a1 q1.1
    have hy := rg a2 q2.1
    have hz := rg a3 q3.1
    generalize a1.tmod ((rowsOf bl).length : Int) = x at hx ⊢
    generalize a2.tmod ((rowsOf bl).length : Int) = y at hy ⊢
    generalize a3.tmod ((rowsOf bl).length : Int) = z at hz ⊢
    have kr : ∀ a b : Int, 0 ≤ a ∧ a < bl.length → Rd (rowsOf bl) b → (domB idom a b = true ↔ ¬ Rc (Ed (rowsOf bl)) a b) := fun a b ha c => hd1 a b c ha.1 ha.2
    have ku : ∀ a b : Int, 0 ≤ a ∧ a < bl.length → 0 ≤ b ∧ b < bl.length → ¬ Rd (rowsOf bl) b → (domB idom a b = true ↔ a = b) := fun a b ha hb c => hd2 a b c hb.1 hb.2 ha.1 ha.2
    refine ⟨hn0, h14, hs, ?_, ?_, ?_, ?_, ?_⟩
    · by_cases c : Rd (rowsOf bl) x
      · exact (kr x x hx c).2 (Rc.refl _)
      · exact (ku x x hx hx c).2 rfl
    · intro u v
      by_cases c : Rd (rowsOf bl) z
      · have v' := (kr y z hy c).1 v
        have u' := (kr x y hx (dom_reached v' c)).1 u
        exact (kr x z hx c).2 (dom_trans u' v')
      · have v' := (ku y z hy hz c).1 v
        subst v'
        exact u
    · intro u v
      by_cases c : Rd (rowsOf bl) y
      · have u' := (kr x y hx c).1 u
        have v' := (kr y x hy (dom_reached u' c)).1 v
        exact dom_antisymm c u' v'
      · exact (ku x y hx hy c).1 u
    · intro h
      have c := (hin z hz.1).1 h
      exact (kr 0 z ⟨by omega, by omega⟩ c).2 (Rc.zero_all z)
    · intro u v n
      by_cases c : Rd (rowsOf bl) z
      · have u' := (kr x z hx c).1 u
        have v' := (kr y z hy c).1 v
        rcases dom_chain c u' v' with h | h
        · rw [(kr x y hx (dom_reached v' c)).2 h] at n
          exact absurd n (by simp)
        · exact (kr y x hy (dom_reached u' c)).2 h
      · have u' := (ku x z hx hz c).1 u
        have v' := (ku y z hy hz c).1 v
        subst u'
        subst v'
        rw [(ku y y hy hy c).2 rfl] at n
        exact absurd n (by simp)
  · left
    refine ⟨k1, [], ?_⟩
    rw [h1 k1 (Nat.le_refl _), if_neg hv]
end Go.Proofs.Ytnkbmpdghjhlfaa.Pure
