/- The plain law of FlowIsMaximal: the flow keeps within the capacities, its sums are right, and no path is left. Conditions: none. -/
import Derived.Test.YthdjhgidccmlfaaMCutRef
import Derived.Test.YthdjhgidccmlfaaXMaxW
namespace Go.Proofs.Ythdjhgidccmlfaa.Pure
open Go.RowKit Go.Proofs.Ythdjhgidccmlfaa.P Go.Proofs.Ythdjhgidccmlfaa.M Go.Proofs.YthdjhgidccmlfaaW.PrintWords
set_option linter.unusedVariables false
set_option linter.unusedSimpArgs false

theorem sumN_sub (f g : Nat → Int) (n : Nat) : sumN (fun i => f i - g i) n = sumN f n - sumN g n := by
  have h1 := sumN_add (fun i => f i - g i) g n
  have h2 : sumN (fun i => f i - g i + g i) n = sumN f n := sumN_ext n (fun i _ => by omega)
  rw [h2] at h1
  omega
theorem netB_all (e : Nat → Nat → Int) {n x : Nat} (hx : x < n) (a : Nat) : netB e a n x = (if a = x then sumN (fun b => e x b) n else 0) - e a x := by
  unfold netB ctr
  rw [sumN_sub]
  have h1 : sumN (fun b => if x = b then e a b else 0) n = sumN (fun b => if b = x then e a x else 0) n := sumN_ext n (fun b _ => by
    by_cases h : x = b
    · rw [if_pos h, if_pos h.symm, h]
    · rw [if_neg h, if_neg (fun q => h q.symm)])
  rw [h1, sumN_single, if_pos hx]
  congr 1
  by_cases h : a = x
  · subst h
    rw [if_pos rfl]
    exact sumN_ext n (fun b _ => if_pos rfl)
  · have hx2 : ¬ x = a := fun q => h q.symm
    rw [if_neg h]
    exact (sumN_ext (g := fun _ => 0) n (fun b _ => if_neg hx2)).trans (sumN_zero n)
theorem netA_all (e : Nat → Nat → Int) {n x : Nat} (hx : x < n) : netA e n n x = sumN (fun b => e x b - e b x) n := by
  unfold netA
  rw [sumN_ext (g := fun a => (if a = x then sumN (fun b => e x b) n else 0) - e a x) n (fun a _ => netB_all e hx a), sumN_sub, sumN_single, if_pos hx, sumN_sub]
theorem FlowIsMaximal : ontimelaw47_FlowIsMaximal.Pure := by
  intro l a1 a2 _ w1 w2
  by_cases c1 : (l.length : Int) > 14
  · refine .inl ⟨1 + 1, ?_⟩
    unfold ontimelaw47_network.f
    rw [if_neg (by omega), decide_eq_true c1, ontimelaw47_network.j0, if_pos rfl]
  obtain ⟨bb, hbb, _, hnw⟩ := net_ev (c := l) (by omega)
  obtain ⟨k2, h2⟩ := hnw 14 (by omega)
  cases bb with
  | false => exact .inl ⟨k2, h2 k2 (Nat.le_refl _)⟩
  | true =>
    have hnet := hbb.1 rfl
    have hn := hnet.net (by omega)
    obtain ⟨s', t', he, hs, ht, hst⟩ := ends_ev l hnet.1 (by omega) (u8_range w1) (u8_range w2)
    obtain ⟨s, rfl⟩ := Int.eq_ofNat_of_zero_le hs.1
    obtain ⟨t, rfl⟩ := Int.eq_ofNat_of_zero_le ht.1
    obtain ⟨value, rows, xs, ⟨k3, h3⟩, hf, ⟨before, ord, hb, hto⟩, hsq, hon⟩ := max_ev hnet (by omega) hs.1 hs.2 ht.1 ht.2 hst
    have hle := hf.le hn hs.1 hs.2 hst
    have hR : ∀ a b : Nat, a < l.length → b < l.length → 0 ≤ en rows a b ∧ 0 ≤ en rows b a ∧ en rows a b + en rows b a = en l a b + en l b a ∧ 0 ≤ en l a b ∧ en l a b ≤ 1073741824 ∧ 0 ≤ en l b a ∧ en l b a ≤ 1073741824 := fun a b ha hb =>
      ⟨hf.nn a b (by omega) (by omega) (by omega) (by omega), hf.nn b a (by omega) (by omega) (by omega) (by omega), hf.pair a b (by omega) (by omega) (by omega) (by omega), (hn.cap a b (by omega) (by omega) (by omega) (by omega)).1, (hn.cap a b (by omega) (by omega) (by omega) (by omega)).2, (hn.cap b a (by omega) (by omega) (by omega) (by omega)).1, (hn.cap b a (by omega) (by omega) (by omega) (by omega)).2⟩
    have hE : ∀ a b : Nat, a < l.length → b < l.length → en xs a b = if 0 < en l a b - en rows a b then en l a b - en rows a b else 0 := fun a b ha hb => by
      have h := hR a b ha hb
      rw [hon a b (by omega) (by omega) (by omega) (by omega)]
      have hw : wrap64 (en l a b - en rows a b) = en l a b - en rows a b := wrapI (by omega) (by omega)
      unfold onE
      unfold en at hw ⊢
      rw [hw]
    refine .inr ⟨max k2 k3, h2 _ (by omega), s, t, he, value, xs, h3 _ (by omega), fun a => ((a : Int) ∈ ord), ?_⟩
    refine ⟨by omega, fun a ha => (hnet.2 a ha).1, hsq.1, fun a ha => hsq.2 a (by omega) (by omega), ⟨by omega, by omega, by omega⟩, fun a b ha hb => ?_, fun x hx => ?_, ⟨hf.v0, by omega⟩, ?_, hto, fun u v hu hv hRu h => ?_⟩
    · have h1 := hE a b ha hb
      have h2 := hR a b ha hb
      unfold en at h1 h2
      rw [h1]
      split
      · exact ⟨by omega, by omega, by omega⟩
      · exact ⟨by omega, by omega, by omega⟩
    · rw [netA_all _ hx]
      have h1 : sumN (fun b => eOf xs x b - eOf xs b x) l.length = sumN (fun b : Nat => en l x b - en rows x b) l.length := sumN_ext l.length (fun b hb' => by
        have e1 := hE x b hx hb'
        have e2 := hE b x hb' hx
        have h := hR x b hx hb'
        show en xs x b - en xs b x = _
        rw [e1, e2]
        split <;> split <;> omega)
      rw [h1, sumN_sub]
      have h2 := hf.row x (by omega) (by omega)
      unfold rsum at h2
      have hst2 : s ≠ t := by omega
      by_cases es : x = s
      · subst es
        rw [if_neg (by omega), if_pos rfl] at h2
        rw [if_pos rfl]
        omega
      · by_cases et : x = t
        · subst et
          rw [if_pos rfl, if_neg (by omega)] at h2
          rw [if_neg es, if_pos rfl]
          omega
        · rw [if_neg (by omega), if_neg (by omega)] at h2
          rw [if_neg es, if_neg et]
          omega
    · obtain ⟨q, hq⟩ := hb.head
      show (s : Int) ∈ ord
      rw [hq]
      simp
    · have e1 := hE u v hu hv
      have e2 := hE v u hv hu
      have h0 := hR u v hu hv
      have hp : 0 < en rows u v := by
        unfold en at *
        rcases h with h | h
        · rw [e1] at h
          split at h <;> omega
        · rw [e2] at h
          split at h <;> omega
      exact hb.closed u hRu v (by omega) (by omega) hp
end Go.Proofs.Ythdjhgidccmlfaa.Pure
