/- The plain law of FlowReverses: the least cut of the reversed network, of a multiple, and of one with a wider edge. Conditions: none. -/
import Derived.Test.YthdjhgidccmlfaaMCutRef
import Derived.Test.YthdjhgidccmlfaaXRev
namespace Go.Proofs.Ythdjhgidccmlfaa.Pure
open Go.RowKit Go.Proofs.Ythdjhgidccmlfaa.P Go.Proofs.Ythdjhgidccmlfaa.M Go.Proofs.YthdjhgidccmlfaaW.PrintWords
set_option linter.unusedVariables false
set_option linter.unusedSimpArgs false

/-- The value is the least cut. -/
structure MinCut (n : Nat) (c : List (List Int)) (s t : Nat) (value : Int) : Prop where
  le : ∀ χ : Nat → Bool, χ s = true → χ t = false → value ≤ cutC n c χ
  eq : ∃ χ : Nat → Bool, χ s = true ∧ χ t = false ∧ value = cutC n c χ
theorem max_cut {c : List (List Int)} (h : netOk c) (hc : c.length ≤ 400) {s t : Nat} (hs : s < c.length) (ht : t < c.length) (hst : s ≠ t) :
    ∃ value xs, (∃ k0, ∀ k, k0 ≤ k → flow_Max.f k c (s : Int) (t : Int) = some (value, xs, 0)) ∧ MinCut c.length c s t value ∧ 0 ≤ value ∧ value ≤ 429496729600 := by
  have hst' : (s : Int) ≠ (t : Int) := by omega
  obtain ⟨value, rows, xs, hk, hf, ⟨before, ord, hb, hto⟩, _⟩ := max_ev h hc (s := (s : Int)) (t := (t : Int)) (by omega) (by omega) (by omega) (by omega) hst'
  have h1 := hf.le (h.net hc) (by omega) (by omega) hst'
  obtain ⟨e1, e2, e3⟩ := hf.cut_eq (by omega) (by omega) (by omega) (by omega) hb hto
  rw [Int.toNat_natCast] at e2 e3
  refine ⟨value, xs, hk, ⟨fun χ h1 h2 => hf.cut_le (by omega) (by omega) (by omega) (by omega) χ (by rw [Int.toNat_natCast]; exact h1) (by rw [Int.toNat_natCast]; exact h2), ⟨_, e2, e3, e1⟩⟩, hf.v0, by omega⟩
theorem sumN_mul (T : Int) (f : Nat → Int) : ∀ n, sumN (fun i => T * f i) n = T * sumN f n
  | 0 => (Int.mul_zero T).symm
  | n + 1 => by
    show sumN (fun i => T * f i) n + T * f n = T * (sumN f n + f n)
    rw [sumN_mul T f n, Int.mul_add]
section
variable {n : Nat} {c c' : List (List Int)} {s t : Nat} {value value' : Int}
theorem cut_back (he : ∀ a b : Nat, a < n → b < n → en c' a b = en c b a) (χ : Nat → Bool) : cutC n c' χ = cutC n c (fun a => !χ a) := by
  unfold cutC
  rw [sumN_swap]
  refine sumN_ext n (fun b hb => sumN_ext n (fun a ha => ?_))
  rw [he a b ha hb]
  show (if χ a = true ∧ χ b = false then en c b a else 0) = if (!χ b) = true ∧ (!χ a) = false then en c b a else 0
  cases χ a <;> cases χ b <;> rfl
theorem min_back (he : ∀ a b : Nat, a < n → b < n → en c' a b = en c b a) (h : MinCut n c s t value) (h' : MinCut n c' t s value') : value' = value := by
  obtain ⟨χ, x1, x2, x3⟩ := h.eq
  obtain ⟨ψ, y1, y2, y3⟩ := h'.eq
  have h1 := h'.le (fun a => !χ a) (by simp [x2]) (by simp [x1])
  rw [cut_back he] at h1
  simp only [Bool.not_not] at h1
  have h1' : value' ≤ cutC n c χ := h1
  have h2 := h.le (fun a => !ψ a) (by simp [y2]) (by simp [y1])
  rw [cut_back he] at y3
  omega
theorem cut_many {T : Int} (he : ∀ a b : Nat, a < n → b < n → en c' a b = T * en c a b) (χ : Nat → Bool) : cutC n c' χ = T * cutC n c χ := by
  unfold cutC
  rw [← sumN_mul]
  refine sumN_ext n (fun a ha => ?_)
  rw [← sumN_mul]
  refine sumN_ext n (fun b hb => ?_)
  rw [he a b ha hb]
  split
  · rfl
  · exact (Int.mul_zero T).symm
theorem min_many {T : Int} (hT : 0 ≤ T) (he : ∀ a b : Nat, a < n → b < n → en c' a b = T * en c a b) (h : MinCut n c s t value) (h' : MinCut n c' s t value') : value' = T * value := by
  obtain ⟨χ, x1, x2, x3⟩ := h.eq
  obtain ⟨ψ, y1, y2, y3⟩ := h'.eq
  have h1 := h'.le χ x1 x2
  rw [cut_many he, ← x3] at h1
  rw [cut_many he] at y3
  have h2 := Int.mul_le_mul_of_nonneg_left (h.le ψ y1 y2) hT
  omega
theorem min_more {k : Int} (hk : 0 ≤ k) {p q : Nat} (he : ∀ a b : Nat, a < n → b < n → en c' a b = en c a b + if b = q then (if a = p then k else 0) else 0) (h : MinCut n c s t value) (h' : MinCut n c' s t value') : value ≤ value' ∧ value' ≤ value + k := by
  obtain ⟨χ, x1, x2, x3⟩ := h.eq
  obtain ⟨ψ, y1, y2, y3⟩ := h'.eq
  refine ⟨?_, ?_⟩
  · have h1 := h.le ψ y1 y2
    have h2 : cutC n c ψ ≤ cutC n c' ψ := sumN_le n (fun a ha => sumN_le n (fun b hb => by
      have := he a b ha hb
      split
      · rw [this]
        split
        · split <;> omega
        · omega
      · omega))
    omega
  · have h1 := h'.le χ x1 x2
    have h2 : cutC n c' χ ≤ sumN (fun a => sumN (fun b => if χ a = true ∧ χ b = false then en c a b else 0) n + if a = p then k else 0) n := sumN_le n (fun a ha => by
      have h3 : sumN (fun b => if χ a = true ∧ χ b = false then en c' a b else 0) n ≤ sumN (fun b => (if χ a = true ∧ χ b = false then en c a b else 0) + if b = q then (if a = p then k else 0) else 0) n := sumN_le n (fun b hb => by
        have := he a b ha hb
        have h0 : 0 ≤ (if b = q then (if a = p then k else 0) else 0) := by
          split
          · split <;> omega
          · omega
        split <;> omega)
      rw [sumN_add, sumN_single] at h3
      have h4 : (if q < n then (if a = p then k else 0) else 0) ≤ (if a = p then k else 0) := by
        split
        · omega
        · split <;> omega
      omega)
    rw [sumN_add, sumN_single] at h2
    have h4 : (if p < n then k else 0) ≤ k := by split <;> omega
    have h5 : sumN (fun a => sumN (fun b => if χ a = true ∧ χ b = false then en c a b else 0) n) n = cutC n c χ := rfl
    omega
end
/-! ### the entries -/
theorem rd_map {n : Nat} (g : Nat → Int) {i : Nat} (h : i < n) : rd ((List.range n).map g) (i : Int) = g i := by
  unfold rd
  rw [Int.toNat_natCast, List.getD_eq_getElem?_getD, List.getElem?_map, List.getElem?_range h]
  rfl
theorem rd4_map {n : Nat} (g : Nat → List Int) {i : Nat} (h : i < n) : rd_L4 ((List.range n).map g) (i : Int) = g i := by
  unfold rd_L4
  rw [Int.toNat_natCast, List.getD_eq_getElem?_getD, List.getElem?_map, List.getElem?_range h]
  rfl
/-- When a network is valid. -/
theorem netOk_of {c : List (List Int)} {n : Nat} (hn : c.length = n) (h2 : 2 ≤ n) (hl : ∀ u : Nat, u < n → (rd_L4 c u).length = n) (hd : ∀ u : Nat, u < n → en c u u = 0) (hb : ∀ u i : Nat, u < n → i < n → 0 ≤ en c u i ∧ en c u i ≤ 1073741824) : netOk c := by
  subst hn
  exact ⟨h2, fun u hu => ⟨hl u hu, hd u hu, fun i hi => hb u i hu (by rw [hl u hu] at hi; exact hi)⟩⟩
theorem FlowReverses : ontimelaw47_FlowReverses.Pure := by
  intro l a1 a2 a3 a4 a5 _ w1 w2 w3 w4 w5
  have r5 := u8_range w5
  by_cases c1 : (l.length : Int) > 14
  · refine .inl ⟨1 + 1, ?_⟩
    unfold ontimelaw47_network.f
    rw [if_neg (by omega), decide_eq_true c1, ontimelaw47_network.j0, if_pos rfl]
  obtain ⟨bb, hbb, _, hnw⟩ := net_ev (c := l) (by omega)
  obtain ⟨k2, h2⟩ := hnw 14 (by omega)
  cases bb with
  | false => exact .inl ⟨k2, h2 k2 (Nat.le_refl _)⟩
  | true =>
    have hnet := hbb.1 rfl
    have hn := hnet.net (by omega)
    obtain ⟨s', t', he, hs, ht, hst⟩ := ends_ev l hnet.1 (by omega) (u8_range w1) (u8_range w2)
    obtain ⟨p', q', he2, hp, hq, hpq⟩ := ends_ev l hnet.1 (by omega) (u8_range w3) (u8_range w4)
    obtain ⟨s, rfl⟩ := Int.eq_ofNat_of_zero_le hs.1
    obtain ⟨t, rfl⟩ := Int.eq_ofNat_of_zero_le ht.1
    obtain ⟨p, rfl⟩ := Int.eq_ofNat_of_zero_le hp.1
    obtain ⟨q, rfl⟩ := Int.eq_ofNat_of_zero_le hq.1
    have hsl : s < l.length := by omega
    have htl : t < l.length := by omega
    have hpl : p < l.length := by omega
    have hql : q < l.length := by omega
    obtain ⟨value, xs, ⟨k3, h3⟩, hcut, hv0, hv1⟩ := max_cut hnet (by omega) hsl htl (by omega)
    have hrow : ∀ a : Nat, a < l.length → (rd_L4 l (a : Int)).length = l.length := fun a ha => (hnet.2 a ha).1
    obtain ⟨T, hT⟩ : ∃ T, T = 1 + a5 % 5 := ⟨_, rfl⟩
    have hT1 : 1 ≤ T ∧ T ≤ 5 := by omega
    by_cases hsm : ∀ a b : Nat, a < l.length → b < l.length → rd (rd_L4 l (a : Int)) (b : Int) ≤ 134217728
    · have hen : ∀ a b : Nat, a < l.length → b < l.length → 0 ≤ en l a b ∧ en l a b ≤ 134217728 := fun a b ha hb => ⟨((hn.cap a b (by omega) (by omega) (by omega) (by omega))).1, hsm a b ha hb⟩
      have hdg : ∀ u : Nat, u < l.length → en l u u = 0 := fun u hu => (hnet.2 u hu).2.1
      have eB : ∀ a b : Nat, a < l.length → b < l.length → en (backL l l.length l.length) a b = en l b a := fun a b ha hb => by
        unfold en backL
        rw [rd4_map _ ha]
        unfold backR
        rw [rd_map _ hb]
      have eM : ∀ a b : Nat, a < l.length → b < l.length → en (manyL l T l.length l.length) a b = T * en l a b := fun a b ha hb => by
        have h := hen a b ha hb
        unfold en at h ⊢
        unfold manyL
        rw [rd4_map _ ha]
        unfold manyR
        rw [rd_map _ hb]
        have h1 : rd (rd_L4 l (a : Int)) (b : Int) * T ≤ 134217728 * 5 := Int.mul_le_mul h.2 hT1.2 (by omega) (by omega)
        have h2 : 0 ≤ rd (rd_L4 l (a : Int)) (b : Int) * T := Int.mul_nonneg h.1 (by omega)
        rw [wrapI (by omega) (by omega), Int.mul_comm]
      have eN : ∀ a b : Nat, a < l.length → b < l.length → en (moreL l l.length l.length) a b = en l a b := fun a b ha hb => by
        unfold en moreL
        rw [rd4_map _ ha]
        unfold moreR
        rw [rd_map _ hb]
      have lB : ∀ u : Nat, u < l.length → (rd_L4 (backL l l.length l.length) (u : Int)).length = l.length := fun u hu => by
        unfold backL
        rw [rd4_map _ hu, backR_l]
      have lM : ∀ u : Nat, u < l.length → (rd_L4 (manyL l T l.length l.length) (u : Int)).length = l.length := fun u hu => by
        unfold manyL
        rw [rd4_map _ hu, manyR_l]
      have lN : ∀ u : Nat, u < l.length → (rd_L4 (moreL l l.length l.length) (u : Int)).length = l.length := fun u hu => by
        unfold moreL
        rw [rd4_map _ hu, moreR_l]
      obtain ⟨m, hm⟩ : ∃ m, m = (moreL l l.length l.length).set p ((rd_L4 (moreL l l.length l.length) p).set q (wrap64 (rd (rd_L4 (moreL l l.length l.length) p) q + a5))) := ⟨_, rfl⟩
      have hml : m.length = l.length := by rw [hm, List.length_set, moreL_l]
      have rm : ∀ u : Nat, u < l.length → rd_L4 m (u : Int) = if (u : Int) = (p : Int) then (rd_L4 (moreL l l.length l.length) p).set q (wrap64 (rd (rd_L4 (moreL l l.length l.length) p) q + a5)) else rd_L4 (moreL l l.length l.length) u := fun u hu => by
        have := rd4_set (xs := moreL l l.length l.length) (b := (p : Int)) (i := (u : Int)) (v := (rd_L4 (moreL l l.length l.length) p).set q (wrap64 (rd (rd_L4 (moreL l l.length l.length) p) q + a5))) (by omega) (by rw [moreL_l]; omega) (by omega)
        rw [Int.toNat_natCast] at this
        rw [hm]
        exact this
      have lm : ∀ u : Nat, u < l.length → (rd_L4 m (u : Int)).length = l.length := fun u hu => by
        rw [rm u hu]
        split
        · rw [List.length_set]; exact lN p hpl
        · exact lN u hu
      have em : ∀ a b : Nat, a < l.length → b < l.length → en m a b = en l a b + if b = q then (if a = p then a5 else 0) else 0 := fun a b ha hb => by
        have hx := hen a b ha hb
        have hy := eN a b ha hb
        unfold en at hx hy ⊢
        rw [rm a ha]
        by_cases e : a = p
        · subst e
          rw [if_pos rfl, if_pos rfl]
          have := rd_set (xs := rd_L4 (moreL l l.length l.length) (a : Int)) (b := (q : Int)) (v := wrap64 (rd (rd_L4 (moreL l l.length l.length) (a : Int)) (q : Int) + a5)) (i := (b : Int)) (by omega) (by rw [lN a ha]; omega) (by omega)
          rw [Int.toNat_natCast] at this
          rw [this]
          by_cases e2 : b = q
          · subst e2
            rw [if_pos rfl, if_pos rfl, hy, wrapI (by omega) (by omega)]
          · rw [if_neg (by omega), if_neg e2, hy, Int.add_zero]
        · rw [if_neg (by omega), if_neg e, hy]
          split <;> omega
      have nB : netOk (backL l l.length l.length) := netOk_of (backL_l _ _ _) hnet.1 lB (fun u hu => by rw [eB u u hu hu]; exact hdg u hu) (fun u i hu hi => by rw [eB u i hu hi]; have := hen i u hi hu; omega)
      have nM : netOk (manyL l T l.length l.length) := netOk_of (manyL_l _ _ _ _) hnet.1 lM (fun u hu => by rw [eM u u hu hu, hdg u hu, Int.mul_zero]) (fun u i hu hi => by
        rw [eM u i hu hi]
        have h := hen u i hu hi
        have h1 : T * en l u i ≤ 5 * 134217728 := Int.mul_le_mul hT1.2 h.2 h.1 (by omega)
        have h2 : 0 ≤ T * en l u i := Int.mul_nonneg (by omega) h.1
        omega)
      have nm : netOk m := netOk_of hml hnet.1 lm (fun u hu => by
        rw [em u u hu hu, hdg u hu]
        split
        · split <;> omega
        · rfl) (fun u i hu hi => by
        rw [em u i hu hi]
        have := hen u i hu hi
        split
        · split <;> omega
        · omega)
      obtain ⟨v1, x1, ⟨k4, h4⟩, c4, _⟩ := max_cut nB (by rw [backL_l]; omega) (s := t) (t := s) (by rw [backL_l]; omega) (by rw [backL_l]; omega) (by omega)
      obtain ⟨v2, x2, ⟨k5, h5⟩, c5, _⟩ := max_cut nM (by rw [manyL_l]; omega) (s := s) (t := t) (by rw [manyL_l]; omega) (by rw [manyL_l]; omega) (by omega)
      obtain ⟨v3, x3, ⟨k6, h6⟩, c6, _⟩ := max_cut nm (by rw [hml]; omega) (s := s) (t := t) (by rw [hml]; omega) (by rw [hml]; omega) (by omega)
      rw [backL_l] at c4
      rw [manyL_l] at c5
      rw [hml] at c6
      have e4 := min_back eB hcut c4
      have e5 := min_many (by omega) eM hcut c5
      have e6 := min_more r5.1 em hcut c6
      have hTv : T * value ≤ 5 * 429496729600 := Int.mul_le_mul hT1.2 hv1 hv0 (by omega)
      have hTv0 : 0 ≤ T * value := Int.mul_nonneg (by omega) hv0
      refine .inr ⟨max k2 (max k3 (max k4 (max k5 k6))), by omega, hrow, r5, h2 _ (by omega), (s : Int), (t : Int), he, value, xs, h3 _ (by omega), p, q, he2, hpl, hql, T, hT, fun _ => ⟨v3, x1, x2, x3, ?_, ?_, ?_, e6.1, ?_⟩⟩
      · rw [h4 _ (by omega), e4]
      · rw [h5 _ (by omega), e5, wrapI (by omega) (by omega)]
      · rw [← hm, h6 _ (by omega)]
      · rw [wrapI (by omega) (by omega)]; exact e6.2
    · exact .inr ⟨max k2 k3, by omega, hrow, r5, h2 _ (by omega), (s : Int), (t : Int), he, value, xs, h3 _ (by omega), p, q, he2, hpl, hql, T, hT, fun h => absurd h hsm⟩
end Go.Proofs.Ythdjhgidccmlfaa.Pure
