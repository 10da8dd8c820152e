/- The plain law of DominatorJoins: a block lies in the frontier of every block on the way from one of its reached predecessors up to its immediate dominator. No conditions. -/
import Derived.Test.YtnkbmpdghjhlfaaMFront
import Derived.Test.YtnkbmpdghjhlfaaMIn
import Derived.Test.YtnkbmpdghjhlfaaPx9
namespace Go.Proofs.Ytnkbmpdghjhlfaa.Pure
open Go.RowKit Go.Proofs.Ytnkbmpdghjhlfaa.P Go.Proofs.Ytnkbmpdghjhlfaa.M Go.Proofs.YtnkbmpdghjhlfaaW.PrintWords
set_option linter.unusedVariables false

section
variable {nx : List (List Int)} {idom : List Int} {fs : List (List Int)} {s : List Bool}
/-- Where the way up stands. -/
def Way (nx : List (List Int)) (idom : List Int) (p b a : Int) : Prop := a = -1 ∨ Rd nx a ∧ ¬ Rc (Ed nx) a p ∧ (b = 0 ∨ ¬ Rc (Ed nx) (rd idom b) a)
theorem Way.next (ht : TreeOk nx nx.length idom) {p b a : Int} (h : Way nx idom p b a) (ha : 0 ≤ a) (hc : b = 0 ∨ a ≠ rd idom b) : Way nx idom p b (rd idom a) := by
  rcases h with h | ⟨h1, h2, h3⟩
  · omega
  by_cases ha0 : a = 0
  · left
    rw [ha0]
    exact ht.zero
  · right
    have hi := ht.idom a h1 ha0
    refine ⟨dom_reached hi.2.1 h1, dom_trans hi.2.1 h2, ?_⟩
    rcases h3 with h3 | h3
    · exact .inl h3
    · rcases hc with hc | hc
      · exact .inl hc
      · exact .inr (hi.2.2 _ (fun e => hc e.symm) h3)
theorem Way.front (ht : TreeOk nx nx.length idom) {p b a : Int} (e : Ed nx p b) (hp : Rd nx p) (hb : Rd nx b) (h : Way nx idom p b a) (ha : 0 ≤ a) (hc : b = 0 ∨ a ≠ rd idom b) : Fr nx a b := by
  rcases h with h | ⟨h1, h2, h3⟩
  · omega
  refine ⟨⟨p, e, hp, h2⟩, ?_⟩
  apply Classical.byContradiction
  intro hno
  have hno := not_or.1 hno
  have hb0 : b ≠ 0 := by
    intro hb0
    exact hno.2 (by rw [hb0]; exact .zero (by rw [← hb0]; exact hno.1))
  have hi := ht.idom b hb hb0
  have hai := hi.2.2 a hno.1 hno.2
  have h3 := h3.resolve_left hb0
  have hc := hc.resolve_left hb0
  exact hc (dom_antisymm (dom_reached hi.2.1 hb) hai h3)

theorem jn_l2 (g : Gr nx) (ht : TreeOk nx nx.length idom) (hf : FRows nx fs) (p j : Nat) (b : Int) (e : Ed nx p b) (hp : Rd nx p) : ∀ (d st : Nat) (a : Int), st + d = nx.length → Way nx idom p b a →
    ∀ res, (∃ k, ontimelaw25_DominatorJoins.l1 k nx fs idom s p (wrap64 ((j : Int) + 1)) = some res) → ∃ k, ontimelaw25_DominatorJoins.l2 k nx fs idom s p j b a st = some res := by
  have h14 := g.n14
  have hbr := g.rng _ _ e
  have hb : Rd nx b := .step hp e (by omega)
  have hli : idom.length = nx.length := ht.len
  intro d
  induction d with
  | zero =>
    intro st a hst hw res ⟨k, hk⟩
    exact ⟨k + 2, by rw [ontimelaw25_DominatorJoins.l2, if_neg (by omega), ontimelaw25_DominatorJoins.j5, if_neg (by simp)]; exact hk⟩
  | succ d ih =>
    intro st a hst hw res hres
    obtain ⟨k0, hk0⟩ := hres
    have hstI : (st : Int) < (nx.length : Int) := by omega
    have hst2 : st < 1000000000000000000 := by omega
    by_cases ha : a ≥ 0
    · have haR : Rd nx a := by
        rcases hw with h | h
        · omega
        · exact h.1
      have har := reach_range g.n0 g.rng haR
      have haf : a < (fs.length : Int) := by rw [hf.1]; exact har.2
      have hai : a < (idom.length : Int) := by rw [hli]; exact har.2
      have hbi : b < (idom.length : Int) := by rw [hli]; exact hbr.2
      -- the step's test
      obtain ⟨x, hx, hstep⟩ : ∃ x : Bool, (x = true ↔ (b = 0 ∨ a ≠ rd idom b)) ∧ ∀ k, ontimelaw25_DominatorJoins.l2 (k + 1) nx fs idom s p j b a st = ontimelaw25_DominatorJoins.j5 k nx fs idom s p j b a st x := by
        by_cases c : b = 0
        · exact ⟨true, by simp [c], fun k => by rw [ontimelaw25_DominatorJoins.l2, if_pos hstI, if_pos ha, if_pos har.2, if_pos c]⟩
        · exact ⟨a != rd idom b, by rw [bne_iff_ne]; simp [c], fun k => by rw [ontimelaw25_DominatorJoins.l2, if_pos hstI, if_pos ha, if_pos har.2, if_neg c, if_pos hbr.1, if_pos hbi]⟩
      by_cases hxt : x = true
      · have hc := hx.1 hxt
        have hF := hw.front ht e hp hb har.1 hc
        have hmem : b ∈ rd_L1 fs a := by
          rw [(hf.2 a har.1 har.2).1 haR, frow_mem]
          exact ⟨hbr.1, by omega, hF⟩
        have hlen : (rd_L1 fs a).length ≤ 1000000 := by
          rw [(hf.2 a har.1 har.2).1 haR]
          have := frow_len (Fr nx a) nx.length 0
          omega
        obtain ⟨k1, h1⟩ := in_ev (rd_L1 fs a) b hlen
        obtain ⟨k, hk⟩ := ih (st + 1) (rd idom a) (by omega) (hw.next ht har.1 hc) res ⟨k0, hk0⟩
        refine ⟨max k k1 + 1 + 1, ?_⟩
        rw [hstep, hxt, ontimelaw25_DominatorJoins.j5, if_pos rfl, if_pos har.1, if_pos haf, h1 _ (by omega), Option.bind_some, if_pos (decide_eq_true hmem), if_pos hai, wrapN hst2]
        exact at_rounds (fun k => (ontimelaw25_DominatorJoins.mono_l k).2.2.2.2.1 _ _ _ _ _ _ _ _ _) (Nat.le_max_left k k1) hk
      · refine ⟨k0 + 1 + 1, ?_⟩
        have hxf : x = false := by simpa using hxt
        rw [hstep, hxf, ontimelaw25_DominatorJoins.j5, if_neg (by simp)]
        exact hk0
    · exact ⟨k0 + 1 + 1, by rw [ontimelaw25_DominatorJoins.l2, if_pos hstI, if_neg ha, ontimelaw25_DominatorJoins.j5, if_neg (by simp)]; exact hk0⟩

theorem jn_l1 (g : Gr nx) (ht : TreeOk nx nx.length idom) (hf : FRows nx fs) (hs : s.length = nx.length) (hin : ∀ b : Int, 0 ≤ b → (rdOf false s b = true ↔ Rd nx b)) (p : Nat) (hpn : p < nx.length) : ∀ (d j : Nat), j + d = (rd_L1 nx p).length →
    ∀ res, (∃ k, ontimelaw25_DominatorJoins.l0 k nx fs idom s ((p + 1 : Nat) : Int) = some res) → ∃ k, ontimelaw25_DominatorJoins.l1 k nx fs idom s p j = some res := by
  have h14 := g.n14
  have hpI : (p : Int) < (nx.length : Int) := by omega
  have hps : (p : Int) < (s.length : Int) := by omega
  have hp0 : (0 : Int) ≤ (p : Int) := by omega
  have hp2 : p < 1000000000000000000 := by omega
  have h2 := g.two _ (gD_mem (d := ([] : List Int)) hp0 hpI)
  have h2' : (rd_L1 nx p).length ≤ 2 := h2
  intro d
  induction d with
  | zero =>
    intro j hj res ⟨k, hk⟩
    exact ⟨k + 2, by rw [ontimelaw25_DominatorJoins.l1, if_pos hp0, if_pos hpI, if_neg (by omega), ontimelaw25_DominatorJoins.j3, if_neg (by simp), wrapN hp2]; exact hk⟩
  | succ d ih =>
    intro j hj res hres
    have hj1 : (j : Int) < ((rd_L1 nx p).length : Int) := by omega
    have hj0 : (0 : Int) ≤ (j : Int) := by omega
    have hj2 : j < 1000000000000000000 := by omega
    by_cases c : rdOf false s p = true
    · have hR := (hin p hp0).1 c
      have e : Ed nx p (rd (rd_L1 nx p) j) := ⟨hp0, hpI, gD_mem hj0 hj1⟩
      have hb : Rd nx (rd (rd_L1 nx p) j) := .step hR e (by have := g.rng _ _ e; omega)
      obtain ⟨k, hk⟩ := jn_l2 (s := s) g ht hf p j (rd (rd_L1 nx p) j) e hR nx.length 0 p (by omega) (.inr ⟨hR, Rc.refl _, by
        by_cases hb0 : rd (rd_L1 nx p) j = 0
        · exact .inl hb0
        · have hi := ht.idom _ hb hb0
          exact .inr (dom_pred hi.2.1 hi.1 e)⟩) res (by rw [wrapN hj2]; exact ih (j + 1) (by omega) res hres)
      exact ⟨k + 2, by rw [ontimelaw25_DominatorJoins.l1, if_pos hp0, if_pos hpI, if_pos hj1, if_pos hps, c, ontimelaw25_DominatorJoins.j3, if_pos rfl, if_pos hp0, if_pos hpI, if_pos hj0, if_pos hj1]; exact hk⟩
    · obtain ⟨k, hk⟩ := hres
      have c' : rdOf false s p = false := by simpa using c
      exact ⟨k + 2, by rw [ontimelaw25_DominatorJoins.l1, if_pos hp0, if_pos hpI, if_pos hj1, if_pos hps, c', ontimelaw25_DominatorJoins.j3, if_neg (by simp), wrapN hp2]; exact hk⟩
theorem jn_l0 (g : Gr nx) (ht : TreeOk nx nx.length idom) (hf : FRows nx fs) (hs : s.length = nx.length) (hin : ∀ b : Int, 0 ≤ b → (rdOf false s b = true ↔ Rd nx b)) : ∀ (d p : Nat), p + d = nx.length →
    ∃ k, ontimelaw25_DominatorJoins.l0 k nx fs idom s p = some true := by
  intro d
  induction d with
  | zero => intro p hp; exact ⟨1, by rw [ontimelaw25_DominatorJoins.l0, if_neg (by omega)]⟩
  | succ d ih =>
    intro p hp
    obtain ⟨k, hk⟩ := jn_l1 g ht hf hs hin p (by omega) (rd_L1 nx p).length 0 (by omega) true (ih (p + 1) (by omega))
    exact ⟨k + 1, by rw [ontimelaw25_DominatorJoins.l0, if_pos (by omega)]; exact hk⟩
end

theorem DominatorJoins : ontimelaw25_DominatorJoins.Pure := by
  intro bl pv _ _
  obtain ⟨k1, h1⟩ := next_ev bl pv
  by_cases hv : bl.length ≤ 14 ∧ validB bl pv = true
  · have g := gr_of hv.1 hv.2
    obtain ⟨out, ⟨k2, h2⟩, r1⟩ := front_ev hv.1 hv.2
    obtain ⟨order, idom, r, _, ⟨k3, h3⟩, _, _, ht, _⟩ := facts hv.1 hv.2
    obtain ⟨s, ⟨k4, h4⟩, hs, hin⟩ := g.reach (-1)
    obtain ⟨k5, h5⟩ := jn_l0 g ht r1 hs hin (rowsOf bl).length 0 (by omega)
    refine ⟨max (max k1 k2) (max k3 (max k4 k5)) + 1, ?_⟩
    unfold ontimelaw25_DominatorJoins.f
    rw [h1 _ (by omega), if_pos hv, h2 _ (by omega)]
    simp only [ontimelaw25_awake.f, Option.bind_some, if_true]
    rw [h3 _ (by omega)]
    simp only [Option.bind_some]
    rw [h4 _ (by omega)]
    simp only [Option.bind_some]
    have e1 : (out.length : Int) = ((rowsOf bl).length : Int) := by rw [r1.1]
    have e2 : ((idom.length : Int) != ((rowsOf bl).length : Int)) = false := by rw [ht.len]; simp
    rw [if_pos e1, e2, ontimelaw25_DominatorJoins.j0, if_neg (by simp)]
    exact at_rounds (fun k => (ontimelaw25_DominatorJoins.mono_l k).2.1 _ _ _ _ _) (by omega) h5
  · refine ⟨k1, ?_⟩
    unfold ontimelaw25_DominatorJoins.f
    rw [h1 _ (by omega), if_neg hv]
    simp [ontimelaw25_awake.f]
end Go.Proofs.Ytnkbmpdghjhlfaa.Pure
