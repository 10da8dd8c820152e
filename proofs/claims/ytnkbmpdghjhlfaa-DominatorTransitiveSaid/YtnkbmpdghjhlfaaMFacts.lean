/- What following an immediate-dominator list answers, in plain Lean. Conditions: the list is a valid graph's, of at most 14 blocks. -/
import Derived.Test.YtnkbmpdghjhlfaaMTree2
import Derived.Test.YtnkbmpdghjhlfaaMReach
import Derived.Test.YtnkbmpdghjhlfaaMInts
import Derived.Test.YtnkbmpdghjhlfaaXDom
namespace Go.Proofs.Ytnkbmpdghjhlfaa.M
open Go.RowKit Go.Proofs.Ytnkbmpdghjhlfaa.P Go.Proofs.YtnkbmpdghjhlfaaW.PrintWords
set_option linter.unusedVariables false
set_option linter.unusedSimpArgs false

/-- What a graph of at most 14 blocks must have. -/
structure Gr (nx : List (List Int)) : Prop where
  n0 : 0 < nx.length
  n14 : nx.length ≤ 14
  rng : ∀ a b, Ed nx a b → 0 ≤ b ∧ b < nx.length
  two : ∀ row ∈ nx, row.length ≤ 2
theorem gr_of {bl : List S46} {pv : List (List Int)} (hn : bl.length ≤ 14) (hv : validB bl pv = true) : Gr (rowsOf bl) := by
  have g := good_of hv
  have h0 := g.n0
  exact ⟨by rw [rows_len]; exact h0, by rw [rows_len]; exact hn, fun a b e => by rw [rows_len]; exact g.edge e, g.two⟩

section
variable {nx : List (List Int)}
theorem Gr.reach (g : Gr nx) (skip : Int) : ∃ res, (∃ k0, ∀ k, k0 ≤ k → ontimeref25_Reach.f k nx skip = some res) ∧ res.length = nx.length ∧ ∀ b : Int, 0 ≤ b → (rdOf false res b = true ↔ Rc (Ed nx) skip b) := reach_ev g.n0 (by have := g.n14; omega) g.rng g.two skip
theorem Gr.dom (g : Gr nx) (a b : Int) (ha : 0 ≤ a ∧ a < nx.length) (hb : 0 ≤ b ∧ b < nx.length) : ∃ r, (∃ k0, ∀ k, k0 ≤ k → ontimeref25_Dominates.f k nx a b = some r) ∧ (r = true ↔ a = b ∨ Rc (Ed nx) (-1) a ∧ ¬ Rc (Ed nx) a b) := refdom_ev g.n0 (by have := g.n14; omega) g.rng g.two a b ha hb
theorem Gr.dom_r (g : Gr nx) (a b : Int) (ha : 0 ≤ a ∧ a < nx.length) (hb : Rd nx b) :
    ∃ r, (∃ k0, ∀ k, k0 ≤ k → ontimeref25_Dominates.f k nx a b = some r) ∧ (r = true ↔ ¬ Rc (Ed nx) a b) := by
  obtain ⟨r, h1, h2⟩ := g.dom a b ha (reach_range g.n0 g.rng hb)
  refine ⟨r, h1, h2.trans ⟨fun h => ?_, fun h => .inr ⟨dom_reached h hb, h⟩⟩⟩
  rcases h with h | h
  · subst h; exact Rc.refl _
  · exact h.2

/-- Following the tree up from b. -/
theorem domL_ok (g : Gr nx) {idom : List Int} (ht : TreeOk nx nx.length idom) {r : Int → Int} (hr : Ranked (Ed nx) r) (a : Int) : ∀ (k : Nat) (b : Int), Rd nx b → r b ≤ k → (domL idom a k b = true ↔ ¬ Rc (Ed nx) a b) := by
  have zero : ∀ b, Rd nx b → r b ≤ 0 → b = 0 := by
    intro b hb h
    apply Classical.byContradiction
    intro hb0
    obtain ⟨p, hp, _, hlt⟩ := hr.2 b hb hb0
    have := hr.1 p hp
    omega
  have at0 : ¬ Rc (Ed nx) a 0 ↔ a = 0 := by
    constructor
    · intro h
      apply Classical.byContradiction
      intro h0
      exact h (.zero h0)
    · intro h
      subst h
      exact Rc.refl _
  intro k
  induction k with
  | zero =>
    intro b hb hk
    rw [zero b hb (by omega), at0]
    unfold domL
    exact beq_iff_eq
  | succ k ih =>
    intro b hb hk
    unfold domL
    by_cases hab : a = b
    · rw [if_pos hab]
      subst hab
      exact ⟨fun _ => Rc.refl _, fun _ => rfl⟩
    rw [if_neg hab]
    by_cases hb0 : b = 0
    · subst hb0
      rw [ht.zero, if_neg (by omega), at0]
      simp [hab]
    · have hi := ht.idom b hb hb0
      have hiR := dom_reached hi.2.1 hb
      have hir := reach_range g.n0 g.rng hiR
      have hlt := dom_rank hr _ _ b (Nat.le_refl _) hb hi.2.1 hi.1
      rw [if_pos ⟨hir.1, by rw [ht.len]; exact hir.2⟩, ih _ hiR (by omega)]
      exact (hi.iff hab).symm
end

/-- All that is known of a valid graph of at most 14 blocks. -/
theorem facts {bl : List S46} {pv : List (List Int)} (hn : bl.length ≤ 14) (hv : validB bl pv = true) :
    ∃ order idom r, (∃ k0, ∀ k, k0 ≤ k → dominator_Order.f k bl pv = some order) ∧ (∃ k0, ∀ k, k0 ≤ k → dominator_Tree.f k bl pv = some idom) ∧ Ord (rowsOf bl) order ∧ order.length ≤ bl.length ∧ TreeOk (rowsOf bl) (rowsOf bl).length idom ∧
      Ranked (Ed (rowsOf bl)) r ∧ (∀ b, Rd (rowsOf bl) b → r b < bl.length) ∧ (∀ l1 b l2, order = l1 ++ b :: l2 → r b = l1.length) ∧
      (∀ a b : Int, Rd (rowsOf bl) b → 0 ≤ a → a < bl.length → (domB idom a b = true ↔ ¬ Rc (Ed (rowsOf bl)) a b)) ∧ (∀ a b : Int, ¬ Rd (rowsOf bl) b → 0 ≤ b → b < bl.length → 0 ≤ a → a < bl.length → (domB idom a b = true ↔ a = b)) := by
  have g := good_of hv
  have gr := gr_of hn hv
  obtain ⟨order, ho1, _, ho, hol⟩ := order_ev hn hv
  obtain ⟨rank, _, hk⟩ := rank_ev g.n0 (fun a b => g.edge (a := a) (b := b)) ho
  obtain ⟨idom, ht1, ht⟩ := tree_ev hn hv
  have hr := hk.ranked ho
  have hlt : ∀ b, Rd (rowsOf bl) b → rd rank b < bl.length := by
    intro b hb
    obtain ⟨l1, l2, e⟩ := List.append_of_mem ((ho.mem b).2 hb)
    rw [hk.pos _ _ _ e]
    have := congrArg List.length e
    simp only [List.length_append, List.length_cons] at this
    omega
  have ht' : TreeOk (rowsOf bl) (rowsOf bl).length idom := by rw [rows_len]; exact ht
  refine ⟨order, idom, rd rank, ho1, ht1, ho, hol, ht', hr, hlt, hk.pos, fun a b hb a0 a1 => ?_, fun a b hb b0 b1 a0 a1 => ?_⟩
  · have hbr := reach_range g.n0 (fun a b => g.edge (a := a) (b := b)) hb
    unfold domB
    rw [if_pos ⟨a0, by rw [ht.len]; exact a1, hbr.1, by rw [ht.len]; exact hbr.2⟩]
    refine domL_ok gr ht' hr a _ b hb ?_
    have := hlt b hb
    rw [ht.len]
    omega
  · unfold domB
    rw [if_pos ⟨a0, by rw [ht.len]; exact a1, b0, by rw [ht.len]; exact b1⟩, ht.len]
    have n0 := g.n0
    obtain ⟨m, hm⟩ : ∃ m, bl.length = m + 1 := ⟨bl.length - 1, by omega⟩
    rw [hm]
    unfold domL
    by_cases hab : a = b
    · simp [hab]
    · rw [if_neg hab, ht.un b b0 b1 hb, if_neg (by omega)]
      simp [hab]
end Go.Proofs.Ytnkbmpdghjhlfaa.M
