/- The dominance frontiers, in plain Lean: the rows that dominator.Frontier gives on a valid graph of at most 14 blocks. -/
import Derived.Test.YtnkbmpdghjhlfaaMTreeRef
import Derived.Test.YtnkbmpdghjhlfaaXFrontier
namespace Go.Proofs.Ytnkbmpdghjhlfaa.M
open Go.RowKit Go.Proofs.Ytnkbmpdghjhlfaa.P Go.Proofs.YtnkbmpdghjhlfaaW.PrintWords
set_option linter.unusedVariables false
set_option linter.unusedSimpArgs false

/-- The numbers from b on, d of them, that have P. -/
noncomputable def frow (P : Int → Prop) : Nat → Int → List Int
  | 0, _ => []
  | d + 1, b => open Classical in (if P b then [b] else []) ++ frow P d (b + 1)
theorem frow_len (P : Int → Prop) : ∀ (d : Nat) (b : Int), (frow P d b).length ≤ d
  | 0, _ => Nat.le_refl _
  | d + 1, b => by
    unfold frow
    have := frow_len P d (b + 1)
    rw [List.length_append]
    split <;> simp <;> omega
theorem frow_mem (P : Int → Prop) : ∀ (d : Nat) (b x : Int), x ∈ frow P d b ↔ b ≤ x ∧ x < b + d ∧ P x
  | 0, b, x => by unfold frow; simp; omega
  | d + 1, b, x => by
    unfold frow
    rw [List.mem_append, frow_mem P d (b + 1) x]
    by_cases h : P b
    · rw [if_pos h, List.mem_singleton]
      constructor
      · rintro (rfl | h')
        · exact ⟨Int.le_refl _, by omega, h⟩
        · exact ⟨by omega, by omega, h'.2.2⟩
      · intro h'
        by_cases e : x = b
        · exact .inl e
        · exact .inr ⟨by omega, by omega, h'.2.2⟩
    · rw [if_neg h]
      constructor
      · rintro (h' | h')
        · simp at h'
        · exact ⟨by omega, by omega, h'.2.2⟩
      · intro h'
        by_cases e : x = b
        · rw [e] at h'; exact absurd h'.2.2 h
        · exact .inr ⟨by omega, by omega, h'.2.2⟩
theorem frow_yes {P : Int → Prop} {d : Nat} {b : Int} (h : P b) : frow P (d + 1) b = b :: frow P d (b + 1) := by
  rw [frow, if_pos h]; rfl
theorem frow_no {P : Int → Prop} {d : Nat} {b : Int} (h : ¬ P b) : frow P (d + 1) b = frow P d (b + 1) := by
  rw [frow, if_neg h]; rfl

/-- b is in a's frontier. -/
def Fr (nx : List (List Int)) (a b : Int) : Prop := (∃ p, Ed nx p b ∧ Rd nx p ∧ ¬ Rc (Ed nx) a p) ∧ (a = b ∨ Rc (Ed nx) a b)
theorem rdL_set {xs : List (List Int)} {b i : Int} {v : List Int} (hb : 0 ≤ b) (hl : b < xs.length) (hi : 0 ≤ i) : rd_L1 (xs.set b.toNat v) i = if i = b then v else rd_L1 xs i := gD_set hb hl hi
/-- What the rows are at last. -/
def FRows (nx : List (List Int)) (out : List (List Int)) : Prop := out.length = nx.length ∧ ∀ x : Int, 0 ≤ x → x < nx.length → (Rd nx x → rd_L1 out x = frow (Fr nx x) nx.length 0) ∧ (¬ Rd nx x → rd_L1 out x = [])
theorem FRows.unique {nx a b : List (List Int)} (ha : FRows nx a) (hb : FRows nx b) : a = b := by
  refine gD_ext (d := ([] : List Int)) (ha.1.trans hb.1.symm) fun i h0 h1 => ?_
  have h1' : i < nx.length := by rw [← ha.1]; exact h1
  by_cases hR : Rd nx i
  · exact ((ha.2 i h0 h1').1 hR).trans ((hb.2 i h0 h1').1 hR).symm
  · exact ((ha.2 i h0 h1').2 hR).trans ((hb.2 i h0 h1').2 hR).symm

theorem markL_run : ∀ (ord : List Int) (s : List Bool), (∀ x ∈ ord, 0 ≤ x ∧ x < s.length) → ∃ s', markL ord s = some s' ∧ s'.length = s.length ∧ ∀ x : Int, 0 ≤ x → (rdOf false s' x = true ↔ rdOf false s x = true ∨ x ∈ ord)
  | [], s, _ => ⟨s, rfl, rfl, fun x _ => by simp⟩
  | b :: r, s, h => by
    have hb := h b List.mem_cons_self
    obtain ⟨s', h1, h2, h3⟩ := markL_run r (s.set b.toNat true) (fun x hx => by rw [List.length_set]; exact h x (List.mem_cons_of_mem _ hx))
    refine ⟨s', by rw [markL, if_pos hb]; exact h1, by rw [h2, List.length_set], fun x hx => ?_⟩
    rw [h3 x hx, rdOf_set hb.1 hb.2 hx, List.mem_cons]
    by_cases e : x = b
    · simp [e]
    · simp [e]

section
variable {nx pv : List (List Int)} {s : List Bool} {idom : List Int}
theorem inF_run (a : Int) : ∀ (row : List Int), (∀ p ∈ row, 0 ≤ p ∧ p < s.length) → ∃ y : Bool, inF s idom a row = some y ∧ (y = true ↔ ∃ p ∈ row, rdOf false s p = true ∧ domB idom a p = true)
  | [], _ => ⟨false, rfl, by simp⟩
  | p :: r, h => by
    have hp := h p List.mem_cons_self
    obtain ⟨y, h1, h2⟩ := inF_run a r (fun p hp => h p (List.mem_cons_of_mem _ hp))
    by_cases c : rdOf false s p = true ∧ domB idom a p = true
    · exact ⟨true, by rw [inF, if_pos hp, if_pos c], ⟨fun _ => ⟨p, List.mem_cons_self, c⟩, fun _ => rfl⟩⟩
    · refine ⟨y, by rw [inF, if_pos hp, if_neg c]; exact h1, h2.trans ⟨fun ⟨q, hq, hc⟩ => ⟨q, List.mem_cons_of_mem _ hq, hc⟩, fun ⟨q, hq, hc⟩ => ?_⟩⟩
      rcases List.mem_cons.1 hq with rfl | hq
      · exact absurd hc c
      · exact ⟨q, hq, hc⟩

theorem frB_run (g : Gr nx) (hpl : pv.length = nx.length) (hp : ∀ b p : Int, 0 ≤ b → (p ∈ rd_L1 pv b ↔ Ed nx p b)) (hs : s.length = nx.length) (hin : ∀ x : Int, 0 ≤ x → (rdOf false s x = true ↔ Rd nx x))
    (hd1 : ∀ a b : Int, Rd nx b → 0 ≤ a → a < nx.length → (domB idom a b = true ↔ ¬ Rc (Ed nx) a b)) (hd2 : ∀ a b : Int, ¬ Rd nx b → 0 ≤ b → b < nx.length → 0 ≤ a → a < nx.length → (domB idom a b = true ↔ a = b)) (a : Int) (ha : Rd nx a) :
    ∀ (d b : Nat) (out : List (List Int)), b + d = nx.length → out.length = nx.length → (rd_L1 out a).length ≤ b → ∃ out', frB s idom pv a d b out = some out' ∧ out'.length = nx.length ∧ rd_L1 out' a = rd_L1 out a ++ frow (Fr nx a) d b ∧ ∀ x : Int, 0 ≤ x → x ≠ a → rd_L1 out' x = rd_L1 out x := by
  have har := reach_range g.n0 g.rng ha
  have h14 := g.n14
  intro d
  induction d with
  | zero => intro b out hb hl hlen; exact ⟨out, rfl, hl, by rw [frow, List.append_nil], fun x _ _ => rfl⟩
  | succ d ih =>
    intro b out hb hl hlen
    have hbI : (b : Int) < (nx.length : Int) := by omega
    have hb0 : (0 : Int) ≤ (b : Int) := by omega
    have hbp : (b : Int) < (pv.length : Int) := by omega
    obtain ⟨y, hy1, hy2⟩ := inF_run (s := s) (idom := idom) a (rd_L1 pv b) (fun p hpm => by
      have e := (hp b p hb0).1 hpm
      exact ⟨e.1, by rw [hs]; exact e.2.1⟩)
    have hy3 : y = true ↔ ∃ p, Ed nx p b ∧ Rd nx p ∧ ¬ Rc (Ed nx) a p := by
      rw [hy2]
      constructor
      · rintro ⟨p, hpm, h1, h2⟩
        have e := (hp b p hb0).1 hpm
        have hR := (hin p e.1).1 h1
        exact ⟨p, e, hR, (hd1 a p hR har.1 har.2).1 h2⟩
      · rintro ⟨p, e, hR, hd⟩
        exact ⟨p, (hp b p hb0).2 e, (hin p e.1).2 hR, (hd1 a p hR har.1 har.2).2 hd⟩
    have hyR : y = true → Rd nx b := fun h => by
      obtain ⟨p, e, hR, _⟩ := hy3.1 h
      exact .step hR e (by omega)
    have hcast : (b : Int) + 1 = ((b + 1 : Nat) : Int) := by omega
    obtain ⟨o1, q1, q2, q3, q4⟩ := ih (b + 1) out (by omega) hl (by omega)
    have no : ¬ Fr nx a b → ∀ run : frB s idom pv a (d + 1) b out = frB s idom pv a d ((b + 1 : Nat) : Int) out, ∃ out', frB s idom pv a (d + 1) b out = some out' ∧ out'.length = nx.length ∧ rd_L1 out' a = rd_L1 out a ++ frow (Fr nx a) (d + 1) b ∧ ∀ x : Int, 0 ≤ x → x ≠ a → rd_L1 out' x = rd_L1 out x := fun hno run => ⟨o1, by rw [run]; exact q1, q2, by rw [frow_no hno, hcast]; exact q3, q4⟩
    by_cases c1 : a ≠ b ∧ domB idom a b = true
    · refine no (fun hF => ?_) (by rw [frB, if_pos c1, hcast])
      obtain ⟨⟨p, e, hR, hd⟩, h2⟩ := hF
      have hRb : Rd nx b := .step hR e (by omega)
      rcases h2 with h2 | h2
      · exact c1.1 h2
      · exact (hd1 a b hRb har.1 har.2).1 c1.2 h2
    cases hyq : y with
    | false =>
      refine no (fun hF => ?_) (by rw [frB, if_neg c1, if_pos ⟨hb0, hbp⟩, hy1, Option.bind_some, hyq, if_neg (by simp), hcast])
      rw [hy3.2 hF.1] at hyq
      simp at hyq
    | true =>
      have hF : Fr nx a b := by
        refine ⟨hy3.1 hyq, ?_⟩
        by_cases hab : a = b
        · exact .inl hab
        · right
          apply Classical.byContradiction
          intro h
          exact c1 ⟨hab, (hd1 a b (hyR hyq) har.1 har.2).2 h⟩
      have haO : a < (out.length : Int) := by omega
      obtain ⟨o2, u1, u2, u3, u4⟩ := ih (b + 1) (out.set a.toNat (rd_L1 out a ++ [(b : Int)])) (by omega) (by rw [List.length_set]; exact hl) (by
        rw [rdL_set har.1 haO har.1, if_pos rfl, List.length_append, List.length_singleton]; omega)
      refine ⟨o2, ?_, u2, ?_, fun x hx hxa => ?_⟩
      · rw [frB, if_neg c1, if_pos ⟨hb0, hbp⟩, hy1, Option.bind_some, hyq, if_pos rfl, if_pos ⟨har.1, haO, by omega⟩, hcast]
        exact u1
      · rw [u3, rdL_set har.1 haO har.1, if_pos rfl, frow_yes hF, hcast]
        simp
      · rw [u4 x hx hxa, rdL_set har.1 haO hx, if_neg hxa]

theorem frA_run (g : Gr nx) (hpl : pv.length = nx.length) (hp : ∀ b p : Int, 0 ≤ b → (p ∈ rd_L1 pv b ↔ Ed nx p b)) (hs : s.length = nx.length) (hin : ∀ x : Int, 0 ≤ x → (rdOf false s x = true ↔ Rd nx x))
    (hd1 : ∀ a b : Int, Rd nx b → 0 ≤ a → a < nx.length → (domB idom a b = true ↔ ¬ Rc (Ed nx) a b)) (hd2 : ∀ a b : Int, ¬ Rd nx b → 0 ≤ b → b < nx.length → 0 ≤ a → a < nx.length → (domB idom a b = true ↔ a = b)) :
    ∀ (d a : Nat) (out : List (List Int)), a + d = nx.length → out.length = nx.length → (∀ x : Int, (a : Int) ≤ x → x < nx.length → rd_L1 out x = []) → ∃ out', frA s idom pv nx.length d a out = some out' ∧ out'.length = nx.length ∧
      (∀ x : Int, 0 ≤ x → x < (a : Int) → rd_L1 out' x = rd_L1 out x) ∧ ∀ x : Int, (a : Int) ≤ x → x < nx.length → (Rd nx x → rd_L1 out' x = frow (Fr nx x) nx.length 0) ∧ (¬ Rd nx x → rd_L1 out' x = []) := by
  intro d
  induction d with
  | zero => intro a out ha hl he; exact ⟨out, rfl, hl, fun x _ _ => rfl, fun x h0 h1 => by omega⟩
  | succ d ih =>
    intro a out ha hl he
    have haI : (a : Int) < (nx.length : Int) := by omega
    have ha0 : (0 : Int) ≤ (a : Int) := by omega
    have has : (a : Int) < (s.length : Int) := by omega
    have hcast : (a : Int) + 1 = ((a + 1 : Nat) : Int) := by omega
    by_cases c : rdOf false s a = true
    · have hR := (hin a ha0).1 c
      obtain ⟨o1, q1, q2, q3, q4⟩ := frB_run g hpl hp hs hin hd1 hd2 a hR nx.length 0 out (by omega) hl (by rw [he a (Int.le_refl _) haI]; simp)
      obtain ⟨o2, u1, u2, u3, u4⟩ := ih (a + 1) o1 (by omega) q2 (fun x h0 h1 => by rw [q4 x (by omega) (by omega)]; exact he x (by omega) h1)
      refine ⟨o2, by rw [frA, if_pos ⟨ha0, has⟩, if_pos c, show (0 : Int) = ((0 : Nat) : Int) from rfl, q1, Option.bind_some, hcast]; exact u1, u2, fun x h0 h1 => ?_, fun x h0 h1 => ?_⟩
      · rw [u3 x h0 (by omega), q4 x h0 (by omega)]
      · by_cases e : x = a
        · subst e
          refine ⟨fun _ => ?_, fun h => absurd hR h⟩
          rw [u3 a ha0 (by omega), q3, he a (Int.le_refl _) haI]
          rfl
        · exact u4 x (by omega) h1
    · obtain ⟨o2, u1, u2, u3, u4⟩ := ih (a + 1) out (by omega) hl (fun x h0 h1 => he x (by omega) h1)
      refine ⟨o2, by rw [frA, if_pos ⟨ha0, has⟩, if_neg c, hcast]; exact u1, u2, fun x h0 h1 => u3 x h0 (by omega), fun x h0 h1 => ?_⟩
      by_cases e : x = a
      · subst e
        refine ⟨fun h => absurd ((hin a ha0).2 h) c, fun _ => ?_⟩
        rw [u3 a ha0 (by omega), he a (Int.le_refl _) haI]
      · exact u4 x (by omega) h1

theorem rep_rows (n : Nat) (x : Int) : rd_L1 (List.replicate n ([] : List Int)) x = [] := by
  unfold rd_L1
  rw [List.getD_eq_getElem?_getD, List.getElem?_replicate]
  split <;> rfl
end

theorem front_ev {bl : List S46} {pv : List (List Int)} (hn : bl.length ≤ 14) (hv : validB bl pv = true) : ∃ out, (∃ k0, ∀ k, k0 ≤ k → dominator_Frontier.f k bl pv = some out) ∧ FRows (rowsOf bl) out := by
  have g := good_of hv
  have gr := gr_of hn hv
  have n0 := g.n0
  obtain ⟨order, idom, r, ⟨k1, h1⟩, ⟨k2, h2⟩, ho, hol, ht, hr, _, _, hd1, hd2⟩ := facts hn hv
  have hrl := rows_len bl
  obtain ⟨s, m1, m2, m3⟩ := markL_run order (List.replicate bl.length false) (fun x hx => by
    have := reach_range gr.n0 gr.rng ((ho.mem x).1 hx)
    rw [List.length_replicate]
    omega)
  have hs : s.length = (rowsOf bl).length := by rw [m2, List.length_replicate, hrl]
  have hin : ∀ x : Int, 0 ≤ x → (rdOf false s x = true ↔ Rd (rowsOf bl) x) := by
    intro x hx
    rw [m3 x hx, ho.mem x]
    have : rdOf false (List.replicate bl.length false) x = false := by
      unfold rdOf
      rw [List.getD_eq_getElem?_getD, List.getElem?_replicate]
      split <;> rfl
    rw [this]
    simp
  obtain ⟨out, u1, u2, _, u4⟩ := frA_run (pv := pv) (s := s) (idom := idom) gr (by rw [hrl]; exact g.pl) (fun b p hb => g.pred hb) hs hin (fun a b h a0 a1 => hd1 a b h a0 (by omega)) (fun a b h b0 b1 a0 a1 => hd2 a b h b0 (by omega) a0 (by omega)) (rowsOf bl).length 0 (List.replicate (rowsOf bl).length []) (by omega) (by simp) (fun x _ _ => rep_rows _ x)
  refine ⟨out, ⟨max k1 k2, fun k hk => ?_⟩, u2, fun x h0 h1 => u4 x h0 h1⟩
  unfold dominator_Frontier.f
  rw [h2 k (by omega), Option.bind_some, if_neg (by rw [ht.len]; omega), if_pos ⟨by omega, n0⟩, h1 k (by omega), Option.bind_some, m1, Option.bind_some, ← hrl]
  exact u1
end Go.Proofs.Ytnkbmpdghjhlfaa.M
