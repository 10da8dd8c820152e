/- The dominance frontiers, in plain Lean: the rows that the reference gives on a valid graph of at most 14 blocks. -/
import Derived.Test.YtnkbmpdghjhlfaaMFront
import Derived.Test.YtnkbmpdghjhlfaaPx7
namespace Go.Proofs.Ytnkbmpdghjhlfaa.M
open Go.RowKit Go.Proofs.Ytnkbmpdghjhlfaa.P Go.Proofs.YtnkbmpdghjhlfaaW.PrintWords
set_option linter.unusedVariables false
set_option linter.unusedSimpArgs false

section
variable {nx : List (List Int)} {s : List Bool}
/-! The reference's. -/
theorem rfr_l3 (g : Gr nx) (hs : s.length = nx.length) (hin : ∀ b : Int, 0 ≤ b → (rdOf false s b = true ↔ Rd nx b)) (a b : Int) (ha : Rd nx a) (p : Nat) (hpn : p < nx.length) :
    ∀ (d j : Nat) (found : Bool), j + d = (rd_L1 nx p).length → ∃ r : Bool, (r = true ↔ found = true ∨ ∃ t ∈ (rd_L1 nx p).drop j, Rd nx p ∧ t = b ∧ ¬ Rc (Ed nx) a p) ∧
      ∀ res out, (∃ k, ontimeref25_Frontier.l2 k nx s out a b r ((p + 1 : Nat) : Int) = some res) → ∃ k, ontimeref25_Frontier.l3 k nx s out a b found p j = some res := by
  have har := reach_range g.n0 g.rng ha
  have hpI : (p : Int) < (nx.length : Int) := by omega
  have hps : (p : Int) < (s.length : Int) := by omega
  have hp0 : (0 : Int) ≤ (p : Int) := by omega
  have h14 := g.n14
  have hp2 : p < 1000000000000000000 := by omega
  have h2 := g.two _ (gD_mem (d := ([] : List Int)) hp0 hpI)
  have h2' : (rd_L1 nx p).length ≤ 2 := h2
  intro d
  induction d with
  | zero =>
    intro j found hj
    rw [List.drop_eq_nil_of_le (by omega)]
    refine ⟨found, by simp, fun res out ⟨k, hk⟩ => ⟨k + 1, ?_⟩⟩
    rw [ontimeref25_Frontier.l3, if_pos hp0, if_pos hpI, if_neg (by omega), wrapN hp2]
    exact hk
  | succ d ih =>
    intro j found hj
    have hj1 : (j : Int) < ((rd_L1 nx p).length : Int) := by omega
    have hj0 : (0 : Int) ≤ (j : Int) := by omega
    have hj2 : j < 1000000000000000000 := by omega
    have e : (rd_L1 nx p).drop j = rd (rd_L1 nx p) j :: (rd_L1 nx p).drop (j + 1) := gD_drop (by omega)
    rw [e]
    cases found with
    | true =>
      obtain ⟨r, hr, hrun⟩ := ih (j + 1) true (by omega)
      refine ⟨r, by rw [hr]; simp, fun res out hres => ?_⟩
      obtain ⟨k, hk⟩ := hrun res out hres
      exact ⟨k + 1, by rw [ontimeref25_Frontier.l3, if_pos hp0, if_pos hpI, if_pos hj1, if_pos rfl, wrapN hj2]; exact hk⟩
    | false =>
      have skip : ¬ (Rd nx p ∧ rd (rd_L1 nx p) j = b ∧ ¬ Rc (Ed nx) a p) → ∀ r : Bool, (r = true ↔ false = true ∨ ∃ t ∈ (rd_L1 nx p).drop (j + 1), Rd nx p ∧ t = b ∧ ¬ Rc (Ed nx) a p) → (r = true ↔ false = true ∨ ∃ t ∈ rd (rd_L1 nx p) j :: (rd_L1 nx p).drop (j + 1), Rd nx p ∧ t = b ∧ ¬ Rc (Ed nx) a p) := by
        intro hno r hr
        rw [hr]
        constructor
        · rintro (h | ⟨t, ht, h⟩)
          · exact .inl h
          · exact .inr ⟨t, List.mem_cons_of_mem _ ht, h⟩
        · rintro (h | ⟨t, ht, h⟩)
          · exact .inl h
          · rcases List.mem_cons.1 ht with rfl | ht
            · exact absurd h hno
            · exact .inr ⟨t, ht, h⟩
      obtain ⟨r, hr, hrun⟩ := ih (j + 1) false (by omega)
      by_cases c1 : rdOf false s p = true
      · have hR := (hin p hp0).1 c1
        by_cases c2 : rd (rd_L1 nx p) j = b
        · obtain ⟨q, ⟨k1, h1⟩, hq⟩ := g.dom_r a p har hR
          cases hqq : q with
          | true =>
            obtain ⟨r', hr', hrun'⟩ := ih (j + 1) true (by omega)
            refine ⟨r', ?_, fun res out hres => ?_⟩
            · rw [hr']
              exact ⟨fun _ => .inr ⟨_, List.mem_cons_self, hR, c2, hq.1 hqq⟩, fun _ => .inl rfl⟩
            · obtain ⟨k, hk⟩ := hrun' res out hres
              refine ⟨max k k1 + 1, ?_⟩
              rw [ontimeref25_Frontier.l3, if_pos hp0, if_pos hpI, if_pos hj1, if_neg (by simp), if_pos hps, if_pos c1, if_pos hj0, if_pos c2, h1 _ (by omega), Option.bind_some, hqq, wrapN hj2]
              exact at_rounds (fun k => (ontimeref25_Frontier.mono_l k).2.2.2.2 _ _ _ _ _ _ _ _) (Nat.le_max_left k k1) hk
          | false =>
            refine ⟨r, skip (fun h => by rw [hq.2 h.2.2] at hqq; simp at hqq) r hr, fun res out hres => ?_⟩
            obtain ⟨k, hk⟩ := hrun res out hres
            refine ⟨max k k1 + 1, ?_⟩
            rw [ontimeref25_Frontier.l3, if_pos hp0, if_pos hpI, if_pos hj1, if_neg (by simp), if_pos hps, if_pos c1, if_pos hj0, if_pos c2, h1 _ (by omega), Option.bind_some, hqq, wrapN hj2]
            exact at_rounds (fun k => (ontimeref25_Frontier.mono_l k).2.2.2.2 _ _ _ _ _ _ _ _) (Nat.le_max_left k k1) hk
        · refine ⟨r, skip (fun h => c2 h.2.1) r hr, fun res out hres => ?_⟩
          obtain ⟨k, hk⟩ := hrun res out hres
          exact ⟨k + 1, by rw [ontimeref25_Frontier.l3, if_pos hp0, if_pos hpI, if_pos hj1, if_neg (by simp), if_pos hps, if_pos c1, if_pos hj0, if_neg c2, wrapN hj2]; exact hk⟩
      · refine ⟨r, skip (fun h => c1 ((hin p hp0).2 h.1)) r hr, fun res out hres => ?_⟩
        obtain ⟨k, hk⟩ := hrun res out hres
        exact ⟨k + 1, by rw [ontimeref25_Frontier.l3, if_pos hp0, if_pos hpI, if_pos hj1, if_neg (by simp), if_pos hps, if_neg c1, wrapN hj2]; exact hk⟩

open Classical in
theorem rfr_l2 (g : Gr nx) (hs : s.length = nx.length) (hin : ∀ b : Int, 0 ≤ b → (rdOf false s b = true ↔ Rd nx b)) (a : Int) (ha : Rd nx a) (b : Nat) (hb : b < nx.length) (out : List (List Int)) (hl : out.length = nx.length) (hlen : (rd_L1 out a).length ≤ 100) :
    ∀ (d p : Nat) (found : Bool), p + d = nx.length → (found = true → ∃ p' : Int, p' < p ∧ Ed nx p' b ∧ Rd nx p' ∧ ¬ Rc (Ed nx) a p') → (found = false → ∀ p' : Int, p' < p → ¬ (Ed nx p' b ∧ Rd nx p' ∧ ¬ Rc (Ed nx) a p')) →
      ∀ res, (∃ k, ontimeref25_Frontier.l1 k nx s (if Fr nx a b then out.set a.toNat (rd_L1 out a ++ [(b : Int)]) else out) a ((b + 1 : Nat) : Int) = some res) → ∃ k, ontimeref25_Frontier.l2 k nx s out a b found p = some res := by
  have har := reach_range g.n0 g.rng ha
  have haO : a < (out.length : Int) := by omega
  have h14 := g.n14
  have hb2 : b < 1000000000000000000 := by omega
  have hbI : (b : Int) < (nx.length : Int) := by omega
  have hb0 : (0 : Int) ≤ (b : Int) := by omega
  have hlen' : (rd_L1 out a).length < 17592186044416 := by omega
  intro d
  induction d with
  | zero =>
    intro p found hp hf1 hf2 res ⟨k, hk⟩
    have hpI : ¬ (p : Int) < (nx.length : Int) := by omega
    cases found with
    | false =>
      have hno : ¬ Fr nx a b := fun ⟨⟨p', h⟩, _⟩ => hf2 rfl p' (by have := h.1.2.1; omega) h
      rw [if_neg hno] at hk
      exact ⟨k + 1, by rw [ontimeref25_Frontier.l2, if_neg hpI, if_neg (by simp), wrapN hb2]; exact hk⟩
    | true =>
      obtain ⟨p', _, e, hR, hd⟩ := hf1 rfl
      have hRb : Rd nx b := .step hR e (by omega)
      by_cases hab : a = b
      · rw [if_pos ⟨⟨p', e, hR, hd⟩, .inl hab⟩] at hk
        exact ⟨k + 1, by rw [ontimeref25_Frontier.l2, if_neg hpI, if_pos rfl, if_pos hab, if_pos har.1, if_pos haO, if_pos hlen', wrapN hb2]; exact hk⟩
      · obtain ⟨q, ⟨k1, h1⟩, hq⟩ := g.dom_r a b har hRb
        cases hqq : q with
        | true =>
          have hno : ¬ Fr nx a b := fun ⟨_, h⟩ => h.elim hab (hq.1 hqq)
          rw [if_neg hno] at hk
          refine ⟨max k k1 + 1, ?_⟩
          rw [ontimeref25_Frontier.l2, if_neg hpI, if_pos rfl, if_neg hab, h1 _ (by omega), Option.bind_some, hqq, if_pos rfl, wrapN hb2]
          exact at_rounds (fun k => (ontimeref25_Frontier.mono_l k).2.1 _ _ _ _ _) (Nat.le_max_left k k1) hk
        | false =>
          have hyes : Fr nx a b := ⟨⟨p', e, hR, hd⟩, .inr (Classical.not_not.1 (fun h => by rw [hq.2 h] at hqq; simp at hqq))⟩
          rw [if_pos hyes] at hk
          refine ⟨max k k1 + 1, ?_⟩
          rw [ontimeref25_Frontier.l2, if_neg hpI, if_pos rfl, if_neg hab, h1 _ (by omega), Option.bind_some, hqq, if_neg (by simp), if_pos har.1, if_pos haO, if_pos hlen', wrapN hb2]
          exact at_rounds (fun k => (ontimeref25_Frontier.mono_l k).2.1 _ _ _ _ _) (Nat.le_max_left k k1) hk
  | succ d ih =>
    intro p found hp hf1 hf2 res hres
    have hpI : (p : Int) < (nx.length : Int) := by omega
    have hp0 : (0 : Int) ≤ (p : Int) := by omega
    obtain ⟨r, hr, hrun⟩ := rfr_l3 g hs hin a b ha p (by omega) (rd_L1 nx p).length 0 found (by omega)
    rw [List.drop_zero] at hr
    obtain ⟨k, hk⟩ := hrun res out (ih (p + 1) r (by omega) (fun h => by
      rcases hr.1 h with h | ⟨t, ht, hR, htb, hd⟩
      · obtain ⟨p', h1, h2⟩ := hf1 h
        exact ⟨p', by omega, h2⟩
      · exact ⟨p, by omega, ⟨hp0, hpI, by rw [← htb]; exact ht⟩, hR, hd⟩) (fun h p' hp' hh => by
      by_cases e : p' = p
      · subst e
        have : r = true := hr.2 (.inr ⟨b, hh.1.2.2, hh.2.1, rfl, hh.2.2⟩)
        rw [h] at this
        simp at this
      · have hff : found = false := by
          cases hq : found with
          | false => rfl
          | true => have := hr.2 (.inl hq); rw [h] at this; simp at this
        exact hf2 hff p' (by omega) hh) res hres)
    exact ⟨k + 1, by rw [ontimeref25_Frontier.l2, if_pos hpI]; exact hk⟩

theorem rfr_l1 (g : Gr nx) (hs : s.length = nx.length) (hin : ∀ b : Int, 0 ≤ b → (rdOf false s b = true ↔ Rd nx b)) (a : Nat) (ha : Rd nx a) : ∀ (d b : Nat) (out : List (List Int)), b + d = nx.length → out.length = nx.length → (rd_L1 out a).length ≤ b →
    ∃ out', out'.length = nx.length ∧ rd_L1 out' a = rd_L1 out a ++ frow (Fr nx a) d b ∧ (∀ x : Int, 0 ≤ x → x ≠ a → rd_L1 out' x = rd_L1 out x) ∧
      ∀ res, (∃ k, ontimeref25_Frontier.l0 k nx s out' ((a + 1 : Nat) : Int) = some res) → ∃ k, ontimeref25_Frontier.l1 k nx s out a b = some res := by
  have har := reach_range g.n0 g.rng ha
  have h14 := g.n14
  have ha2 : a < 1000000000000000000 := by omega
  intro d
  induction d with
  | zero =>
    intro b out hb hl hlen
    refine ⟨out, hl, by rw [frow, List.append_nil], fun x _ _ => rfl, fun res ⟨k, hk⟩ => ⟨k + 2, ?_⟩⟩
    rw [ontimeref25_Frontier.l1, if_neg (by omega), ontimeref25_Frontier.j2, if_neg (by simp), wrapN ha2]
    exact hk
  | succ d ih =>
    intro b out hb hl hlen
    have hbI : (b : Int) < (nx.length : Int) := by omega
    have has : (a : Int) < (s.length : Int) := by omega
    have hcast : (b : Int) + 1 = ((b + 1 : Nat) : Int) := by omega
    have haO : (a : Int) < (out.length : Int) := by omega
    have hset : ∀ v : List Int, ∀ x : Int, 0 ≤ x → rd_L1 (out.set (a : Int).toNat v) x = if x = a then v else rd_L1 out x := fun v x hx => rdL_set har.1 haO hx
    have step : ∀ res, (∃ k, ontimeref25_Frontier.l2 k nx s out a b false ((0 : Nat) : Int) = some res) → ∃ k, ontimeref25_Frontier.l1 k nx s out a b = some res := by
      intro res ⟨k, hk⟩
      exact ⟨k + 2, by rw [ontimeref25_Frontier.l1, if_pos hbI, if_pos har.1, if_pos has, (hin a har.1).2 ha, ontimeref25_Frontier.j2, if_pos rfl]; exact hk⟩
    have run := rfr_l2 g hs hin a ha b (by omega) out hl (by omega) nx.length 0 false (by omega) (fun h => by simp at h) (fun _ p' hp' h => by have := h.1.1; omega)
    by_cases hF : Fr nx a b
    · obtain ⟨o, q1, q2, q3, q4⟩ := ih (b + 1) (out.set (a : Int).toNat (rd_L1 out a ++ [(b : Int)])) (by omega) (by rw [List.length_set]; exact hl) (by rw [hset _ a har.1, if_pos rfl, List.length_append, List.length_singleton]; omega)
      refine ⟨o, q1, ?_, fun x hx hxa => by rw [q3 x hx hxa, hset _ x hx, if_neg hxa], fun res hres => step res (run res ?_)⟩
      · rw [q2, hset _ a har.1, if_pos rfl, frow_yes hF, hcast]
        simp
      · rw [if_pos hF]
        exact q4 res hres
    · obtain ⟨o, q1, q2, q3, q4⟩ := ih (b + 1) out (by omega) hl (by omega)
      refine ⟨o, q1, by rw [q2, frow_no hF, hcast], q3, fun res hres => step res (run res ?_)⟩
      rw [if_neg hF]
      exact q4 res hres

theorem rfr_l0 (g : Gr nx) (hs : s.length = nx.length) (hin : ∀ b : Int, 0 ≤ b → (rdOf false s b = true ↔ Rd nx b)) : ∀ (d a : Nat) (out : List (List Int)), a + d = nx.length → out.length = nx.length → (∀ x : Int, (a : Int) ≤ x → x < nx.length → rd_L1 out x = []) →
    ∃ out', (∃ k, ontimeref25_Frontier.l0 k nx s out a = some out') ∧ out'.length = nx.length ∧
      (∀ x : Int, 0 ≤ x → x < (a : Int) → rd_L1 out' x = rd_L1 out x) ∧ ∀ x : Int, (a : Int) ≤ x → x < nx.length → (Rd nx x → rd_L1 out' x = frow (Fr nx x) nx.length 0) ∧ (¬ Rd nx x → rd_L1 out' x = []) := by
  have h14 := g.n14
  intro d
  induction d with
  | zero => intro a out ha hl he; exact ⟨out, ⟨1, by rw [ontimeref25_Frontier.l0, if_neg (by omega)]⟩, hl, fun x _ _ => rfl, fun x h0 h1 => by omega⟩
  | succ d ih =>
    intro a out ha hl he
    have haI : (a : Int) < (nx.length : Int) := by omega
    have ha0 : (0 : Int) ≤ (a : Int) := by omega
    have has : (a : Int) < (s.length : Int) := by omega
    have ha2 : a < 1000000000000000000 := by omega
    by_cases hR : Rd nx a
    · obtain ⟨o1, q1, q2, q3, q4⟩ := rfr_l1 g hs hin a hR nx.length 0 out (by omega) hl (by rw [he a (Int.le_refl _) haI]; simp)
      obtain ⟨o2, u1, u2, u3, u4⟩ := ih (a + 1) o1 (by omega) q1 (fun x h0 h1 => by rw [q3 x (by omega) (by omega)]; exact he x (by omega) h1)
      obtain ⟨k, hk⟩ := q4 o2 u1
      refine ⟨o2, ⟨k + 1, by rw [ontimeref25_Frontier.l0, if_pos haI]; exact hk⟩, u2, fun x h0 h1 => by rw [u3 x h0 (by omega), q3 x h0 (by omega)], fun x h0 h1 => ?_⟩
      by_cases e : x = a
      · subst e
        refine ⟨fun _ => ?_, fun h => absurd hR h⟩
        rw [u3 a ha0 (by omega), q2, he a (Int.le_refl _) haI]
        rfl
      · exact u4 x (by omega) h1
    · obtain ⟨o2, ⟨k, hk⟩, u2, u3, u4⟩ := ih (a + 1) out (by omega) hl (fun x h0 h1 => he x (by omega) h1)
      have c : rdOf false s a = false := by
        cases hq : rdOf false s a with
        | false => rfl
        | true => exact absurd ((hin a ha0).1 hq) hR
      have n0 := g.n0
      refine ⟨o2, ⟨k + 3, ?_⟩, u2, fun x h0 h1 => u3 x h0 (by omega), fun x h0 h1 => ?_⟩
      · rw [ontimeref25_Frontier.l0, if_pos haI, ontimeref25_Frontier.l1, if_pos (by omega), if_pos ha0, if_pos has, c, ontimeref25_Frontier.j2, if_neg (by simp), wrapN ha2]
        exact hk
      · by_cases e : x = a
        · subst e
          refine ⟨fun h => absurd h hR, fun _ => ?_⟩
          rw [u3 a ha0 (by omega), he a (Int.le_refl _) haI]
        · exact u4 x (by omega) h1

theorem rfr_ev (g : Gr nx) : ∃ out, (∃ k0, ∀ k, k0 ≤ k → ontimeref25_Frontier.f k nx = some out) ∧ FRows nx out := by
  have h14 := g.n14
  obtain ⟨s, ⟨k1, h1⟩, hs, hin⟩ := g.reach (-1)
  obtain ⟨out, ⟨k2, h2⟩, u2, _, u4⟩ := rfr_l0 g hs hin nx.length 0 (List.replicate nx.length []) (by omega) (by simp) (fun x _ _ => rep_rows _ x)
  refine ⟨out, ev_of (fun k => ontimeref25_Frontier.mono nx k) ⟨max k1 k2, ?_⟩, u2, fun x h0 h1 => u4 x h0 h1⟩
  unfold ontimeref25_Frontier.f
  rw [h1 _ (by omega), Option.bind_some, if_pos (by omega), if_pos (by omega), Int.toNat_natCast]
  exact at_rounds (fun k => (ontimeref25_Frontier.mono_l k).1 _ _ _ _) (Nat.le_max_right k1 k2) h2
end
end Go.Proofs.Ytnkbmpdghjhlfaa.M
