/- Cooper, Harvey and Kennedy's search, in plain Lean: on a valid graph of at most 14 blocks dominator.Tree gives every reached block but 0 its immediate dominator, and all others -1. -/
import Derived.Test.YtnkbmpdghjhlfaaMOrder
import Derived.Test.YtnkbmpdghjhlfaaXTree
namespace Go.Proofs.Ytnkbmpdghjhlfaa.M
open Go.RowKit Go.Proofs.Ytnkbmpdghjhlfaa.P Go.Proofs.YtnkbmpdghjhlfaaW.PrintWords
set_option linter.unusedVariables false
set_option linter.unusedSimpArgs false

section
variable {nx : List (List Int)} {n : Nat} {order rank : List Int}
abbrev Rd (nx : List (List Int)) (x : Int) : Prop := Rc (Ed nx) (-1) x

theorem meet_run (hn : 0 < n) (hE : ∀ a b, Ed nx a b → 0 ≤ b ∧ b < n) (ho : Ord nx order) (hk : Rk nx n order rank) (c : List Int) (hc : c.length = n) (hI : Inv (Ed nx) (rd rank) (rd c)) :
    ∀ (m : Nat) (a b : Int), Rd nx a → Rd nx b → 0 ≤ rd c a → 0 ≤ rd c b → rd rank a + rd rank b < m →
      ∃ x, meetF rank c m a b = some x ∧ Rd nx x ∧ 0 ≤ rd c x ∧ rd rank x ≤ rd rank a ∧ rd rank x ≤ rd rank b ∧ (∀ d, ¬ Rc (Ed nx) d a → ¬ Rc (Ed nx) d b → ¬ Rc (Ed nx) d x) ∧ Anc (rd c) a x ∧ Anc (rd c) b x := by
  have hr := hk.ranked ho
  have h00 : rd rank 0 = 0 := by
    obtain ⟨t, e⟩ := ho.head
    have := hk.pos [] 0 t e
    simpa using this
  intro m
  induction m with
  | zero => intro a b ha hb _ _ hm; have := hr.1 a ha; have := hr.1 b hb; omega
  | succ m ih =>
    intro a b ha hb ca cb hm
    have ra := hr.1 a ha
    have rb := hr.1 b hb
    by_cases hab : a = b
    · subst hab
      exact ⟨a, by rw [meetF, if_pos rfl], ha, ca, Int.le_refl _, Int.le_refl _, fun d h _ => h, .refl _, .refl _⟩
    have pa := reach_range hn hE ha
    have pb := reach_range hn hE hb
    have hpos : 0 ≤ a ∧ a < (rank.length : Int) ∧ 0 ≤ b ∧ b < (rank.length : Int) ∧ rank.length = c.length := ⟨pa.1, by rw [hk.len]; exact pa.2, pb.1, by rw [hk.len]; exact pb.2, by rw [hk.len, hc]⟩
    by_cases hlt : rd rank a > rd rank b
    · have ha0 : a ≠ 0 := fun e => by rw [e, h00] at hlt; omega
      rcases hI.ok a ha ha0 with q | ⟨q1, q2, q3, q4⟩
      · omega
      obtain ⟨x, e, h1, h2, h3, h4, h5, h6, h7⟩ := ih (rd c a) b q1 hb q2 cb (by omega)
      refine ⟨x, by rw [meetF, if_neg hab, if_pos hpos, if_pos hlt]; exact e, h1, h2, by omega, h4, fun d k1 k2 => h5 d ?_ k2, .step h6, h7⟩
      by_cases hda : d = a
      · subst hda
        have := dom_rank hr _ d b (Nat.le_refl _) hb k2 hab
        omega
      · exact q4 d hda k1
    · have hne : rd rank a ≠ rd rank b := fun e => hab (hk.inj ho ha hb e)
      have hb0 : b ≠ 0 := fun e => by rw [e, h00] at hlt hne; omega
      rcases hI.ok b hb hb0 with q | ⟨q1, q2, q3, q4⟩
      · omega
      obtain ⟨x, e, h1, h2, h3, h4, h5, h6, h7⟩ := ih a (rd c b) ha q1 ca q2 (by omega)
      refine ⟨x, by rw [meetF, if_neg hab, if_pos hpos, if_neg hlt]; exact e, h1, h2, h3, by omega, fun d k1 k2 => h5 d k1 ?_, h6, .step h7⟩
      by_cases hdb : d = b
      · subst hdb
        have := dom_rank hr _ d a (Nat.le_refl _) ha k1 (fun e => hab e.symm)
        omega
      · exact q4 d hdb k2

/-- p counts: it is reached and leads somewhere. -/
abbrev Cn (nx : List (List Int)) (c : List Int) (p : Int) : Prop := Rd nx p ∧ 0 ≤ rd c p
theorem best_run (hn : 0 < n) (hE : ∀ a b, Ed nx a b → 0 ≤ b ∧ b < n) (ho : Ord nx order) (hk : Rk nx n order rank) (c : List Int) (hc : c.length = n) (hI : Inv (Ed nx) (rd rank) (rd c)) (m : Nat) (hm : ∀ a b, Rd nx a → Rd nx b → rd rank a + rd rank b < m) :
    ∀ (row : List Int) (best : Int), (∀ p ∈ row, 0 ≤ p ∧ p < n) → (best = -1 ∨ Cn nx c best) →
      ∃ x, bestL rank c m row best = some x ∧ ((x = -1 ∧ best = -1 ∧ ∀ p ∈ row, ¬ Cn nx c p) ∨
        (Cn nx c x ∧ (best ≠ -1 → Anc (rd c) best x ∧ rd rank x ≤ rd rank best) ∧ (∀ p ∈ row, Cn nx c p → Anc (rd c) p x ∧ rd rank x ≤ rd rank p) ∧ (∀ d, (best ≠ -1 → ¬ Rc (Ed nx) d best) → (∀ p ∈ row, Cn nx c p → ¬ Rc (Ed nx) d p) → ¬ Rc (Ed nx) d x)))
  | [], best, _, hb => by
    refine ⟨best, rfl, ?_⟩
    rcases hb with hb | hb
    · exact .inl ⟨hb, hb, fun p hp => by simp at hp⟩
    · have hne : best ≠ -1 := fun e => by have := (reach_range hn hE hb.1).1; omega
      exact .inr ⟨hb, fun _ => ⟨.refl _, Int.le_refl _⟩, fun p hp => by simp at hp, fun d h _ => h hne⟩
  | p :: r, best, hr, hb => by
    have hp := hr p List.mem_cons_self
    have hpos : 0 ≤ p ∧ p < (rank.length : Int) ∧ rank.length = c.length := ⟨hp.1, by rw [hk.len]; exact hp.2, by rw [hk.len, hc]⟩
    have hrk := hk.ranked ho
    have hrd : rd rank p < 0 ↔ ¬ Rd nx p := by
      constructor
      · intro h hR
        have := hrk.1 p hR
        omega
      · intro h
        rw [hk.out p hp.1 hp.2 h]
        decide
    have ihr := fun best hb => best_run hn hE ho hk c hc hI m hm r best (fun p hp => hr p (List.mem_cons_of_mem _ hp)) hb
    -- p does not count
    have skip : ¬ Cn nx c p → (∃ x, bestL rank c m r best = some x ∧ bestL rank c m (p :: r) best = some x) → ∃ x, bestL rank c m (p :: r) best = some x ∧ ((x = -1 ∧ best = -1 ∧ ∀ q ∈ p :: r, ¬ Cn nx c q) ∨
        (Cn nx c x ∧ (best ≠ -1 → Anc (rd c) best x ∧ rd rank x ≤ rd rank best) ∧ (∀ q ∈ p :: r, Cn nx c q → Anc (rd c) q x ∧ rd rank x ≤ rd rank q) ∧ (∀ d, (best ≠ -1 → ¬ Rc (Ed nx) d best) → (∀ q ∈ p :: r, Cn nx c q → ¬ Rc (Ed nx) d q) → ¬ Rc (Ed nx) d x))) := by
      intro hno ⟨x0, e1, e2⟩
      obtain ⟨x, e, h⟩ := ihr best hb
      obtain rfl : x0 = x := by rw [e1] at e; exact Option.some.inj e
      refine ⟨x0, e2, ?_⟩
      rcases h with ⟨h1, h2, h3⟩ | ⟨h1, h2, h3, h4⟩
      · exact .inl ⟨h1, h2, fun q hq => (List.mem_cons.1 hq).elim (fun e => by rw [e]; exact hno) (h3 q)⟩
      · exact .inr ⟨h1, h2, fun q hq hcn => (List.mem_cons.1 hq).elim (fun e => absurd (e ▸ hcn) hno) (fun hq => h3 q hq hcn), fun d k1 k2 => h4 d k1 (fun q hq => k2 q (List.mem_cons_of_mem _ hq))⟩
    by_cases c1 : rd rank p < 0
    · obtain ⟨x, e, _⟩ := ihr best hb
      exact skip (fun h => hrd.1 c1 h.1) ⟨x, e, by rw [bestL, if_pos hpos, if_pos c1]; exact e⟩
    have hR : Rd nx p := Classical.not_not.1 (fun h => c1 (hrd.2 h))
    by_cases c2 : rd c p < 0
    · obtain ⟨x, e, _⟩ := ihr best hb
      exact skip (fun h => by have := h.2; omega) ⟨x, e, by rw [bestL, if_pos hpos, if_neg c1, if_pos c2]; exact e⟩
    have hcn : Cn nx c p := ⟨hR, by omega⟩
    have hpne : p ≠ -1 := by omega
    by_cases c3 : best < 0
    · have hb1 : best = -1 := by
        rcases hb with hb | hb
        · exact hb
        · have := (reach_range hn hE hb.1).1; omega
      obtain ⟨x, e, h⟩ := ihr p (.inr hcn)
      refine ⟨x, by rw [bestL, if_pos hpos, if_neg c1, if_neg c2, if_pos c3]; exact e, .inr ?_⟩
      rcases h with ⟨_, h2, _⟩ | ⟨h1, h2, h3, h4⟩
      · exact absurd h2 hpne
      · exact ⟨h1, fun hne => absurd hb1 hne, fun q hq hcq => (List.mem_cons.1 hq).elim (fun e => by rw [e]; exact h2 hpne) (fun hq => h3 q hq hcq), fun d _ k2 => h4 d (fun _ => k2 p List.mem_cons_self hcn) (fun q hq => k2 q (List.mem_cons_of_mem _ hq))⟩
    · have hbn : best ≠ -1 := by omega
      have hbc : Cn nx c best := hb.resolve_left hbn
      obtain ⟨y, e0, g1, g2, g3, g4, g5, g6, g7⟩ := meet_run hn hE ho hk c hc hI m best p hbc.1 hR hbc.2 hcn.2 (hm _ _ hbc.1 hR)
      have hyn : y ≠ -1 := by have := (reach_range hn hE g1).1; omega
      obtain ⟨x, e, h⟩ := ihr y (.inr ⟨g1, g2⟩)
      refine ⟨x, by rw [bestL, if_pos hpos, if_neg c1, if_neg c2, if_neg c3, e0, Option.bind_some]; exact e, .inr ?_⟩
      rcases h with ⟨_, h2, _⟩ | ⟨h1, h2, h3, h4⟩
      · exact absurd h2 hyn
      · have h2' := h2 hyn
        exact ⟨h1, fun _ => ⟨g6.trans h2'.1, by omega⟩, fun q hq hcq => (List.mem_cons.1 hq).elim (fun e => by rw [e]; exact ⟨g7.trans h2'.1, by omega⟩) (fun hq => h3 q hq hcq),
          fun d k1 k2 => h4 d (fun _ => g5 d (k1 hbn) (k2 p List.mem_cons_self hcn)) (fun q hq => k2 q (List.mem_cons_of_mem _ hq))⟩
end
end Go.Proofs.Ytnkbmpdghjhlfaa.M
