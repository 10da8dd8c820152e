/- A flow's value is at most each cut's capacity, and equals that of the cut that the last search leaves, in plain Lean. Conditions: those of the residual network. -/
import Derived.Test.YthdjhgidccmlfaaMMax
namespace Go.Proofs.Ythdjhgidccmlfaa.M
open Go.RowKit Go.Proofs.Ythdjhgidccmlfaa.P Go.Proofs.YthdjhgidccmlfaaW.PrintWords
set_option linter.unusedVariables false
set_option linter.unusedSimpArgs false

theorem sumN_neg (f : Nat → Int) : ∀ n, sumN (fun i => - f i) n = - sumN f n
  | 0 => rfl
  | n + 1 => by
    have := sumN_neg f n
    simp only [sumN]
    omega
theorem sumN_swap (f : Nat → Nat → Int) (m : Nat) : ∀ n, sumN (fun a => sumN (fun b => f a b) m) n = sumN (fun b => sumN (fun a => f a b) n) m
  | 0 => by
    simp only [sumN]
    exact (sumN_zero m).symm
  | n + 1 => by
    simp only [sumN]
    rw [sumN_swap f m n, ← sumN_add]
/-- The capacity of a cut. -/
def cutC (n : Nat) (c : List (List Int)) (χ : Nat → Bool) : Int := sumN (fun a => sumN (fun b => if χ a = true ∧ χ b = false then en c a b else 0) n) n
theorem anti_zero (n : Nat) (h : Nat → Nat → Int) (ha : ∀ a b, a < n → b < n → h a b = - h b a) : sumN (fun a => sumN (fun b => h a b) n) n = 0 := by
  have h1 := sumN_swap h n n
  have h2 : sumN (fun b => sumN (fun a => h a b) n) n = sumN (fun b => - sumN (fun a => h b a) n) n := sumN_ext n (fun b hb => by
    rw [← sumN_neg]
    exact sumN_ext n (fun a ha' => ha a b ha' hb))
  rw [h2, sumN_neg] at h1
  omega
section
variable {n : Nat} {c rows : List (List Int)} {s t value : Int}
/-- What flows over a cut. -/
theorem FI.over (h : FI n c s t rows value) (s0 : 0 ≤ s) (s1 : s < n) (t0 : 0 ≤ t) (t1 : t < n) (χ : Nat → Bool) (hs : χ s.toNat = true) (ht : χ t.toNat = false) :
    value = sumN (fun a => sumN (fun b => if χ a = true ∧ χ b = false then en c a b - en rows a b else 0) n) n := by
  have e1 : sumN (fun a => if χ a = true then rsum n c a - rsum n rows a else 0) n = value := by
    have : sumN (fun a => if χ a = true then rsum n c a - rsum n rows a else 0) n = sumN (fun a => if a = s.toNat then value else 0) n := sumN_ext n (fun a ha => by
      have hr := h.row a (by omega) (by omega)
      by_cases ea : a = s.toNat
      · have es : (a : Int) = s := by omega
        have et : (a : Int) ≠ t := by
          intro he
          have : a = t.toNat := by omega
          rw [← ea, this, ht] at hs
          exact absurd hs (by simp)
        rw [if_neg et, if_pos es] at hr
        rw [if_pos ea, if_pos (by rw [ea]; exact hs)]
        omega
      · have es : (a : Int) ≠ s := by omega
        rw [if_neg ea, if_neg es] at *
        by_cases ec : χ a = true
        · have et : (a : Int) ≠ t := by
            intro he
            have : a = t.toNat := by omega
            rw [this, ht] at ec
            exact absurd ec (by simp)
          rw [if_neg et] at hr
          rw [if_pos ec]
          omega
        · rw [if_neg ec])
    rw [this, sumN_single, if_pos (by omega)]
  have e2 : sumN (fun a => sumN (fun b => if χ a = true ∧ χ b = true then en c a b - en rows a b else 0) n) n = 0 := anti_zero n (fun a b => if χ a = true ∧ χ b = true then en c a b - en rows a b else 0) (fun a b ha hb => by
    have := h.pair a b (by omega) (by omega) (by omega) (by omega)
    by_cases q : χ a = true ∧ χ b = true
    · rw [if_pos q, if_pos ⟨q.2, q.1⟩]; omega
    · rw [if_neg q, if_neg (fun z => q ⟨z.2, z.1⟩)]; rfl)
  have e3 : sumN (fun a => if χ a = true then rsum n c a - rsum n rows a else 0) n = sumN (fun a => sumN (fun b => if χ a = true ∧ χ b = true then en c a b - en rows a b else 0) n + sumN (fun b => if χ a = true ∧ χ b = false then en c a b - en rows a b else 0) n) n := sumN_ext n (fun a ha => by
    rw [← sumN_add]
    by_cases q : χ a = true
    · rw [if_pos q]
      unfold rsum
      have : sumN (fun i => en c a i) n - sumN (fun i => en rows a i) n = sumN (fun i => en c a i - en rows a i) n := by
        have h1 := sumN_add (fun i => en c a i - en rows a i) (fun i => en rows a i) n
        have h2 : sumN (fun i : Nat => en c a i - en rows a i + en rows a i) n = sumN (fun i => en c a i) n := sumN_ext n (fun i _ => by omega)
        rw [h2] at h1
        omega
      rw [this]
      refine sumN_ext n (fun i _ => ?_)
      cases hi : χ i <;> simp [q]
    · rw [if_neg q]
      rw [sumN_ext (g := fun _ => 0) n (fun i _ => by rw [if_neg (fun z => q z.1), if_neg (fun z => q z.1)]; rfl), sumN_zero])
  rw [sumN_add, e2, e1] at e3
  omega
theorem FI.cut_le (h : FI n c s t rows value) (s0 : 0 ≤ s) (s1 : s < n) (t0 : 0 ≤ t) (t1 : t < n) (χ : Nat → Bool) (hs : χ s.toNat = true) (ht : χ t.toNat = false) : value ≤ cutC n c χ := by
  rw [h.over s0 s1 t0 t1 χ hs ht]
  unfold cutC
  refine sumN_le n (fun a ha => sumN_le n (fun b hb => ?_))
  have := h.nn a b (by omega) (by omega) (by omega) (by omega)
  split <;> omega
theorem FI.cut_eq (h : FI n c s t rows value) (s0 : 0 ≤ s) (s1 : s < n) (t0 : 0 ≤ t) (t1 : t < n) {before ord : List Int} (hb : Bfs n rows s before ord) (ht : t ∉ ord) : value = cutC n c (fun a => decide ((a : Int) ∈ ord)) ∧ decide (((s.toNat : Nat) : Int) ∈ ord) = true ∧ decide (((t.toNat : Nat) : Int) ∈ ord) = false := by
  have hs : decide (((s.toNat : Nat) : Int) ∈ ord) = true := by
    rw [Int.toNat_of_nonneg s0]
    obtain ⟨q, hq⟩ := hb.head
    rw [hq]
    simp
  have ht' : decide (((t.toNat : Nat) : Int) ∈ ord) = false := by
    rw [Int.toNat_of_nonneg t0]
    exact decide_eq_false ht
  refine ⟨?_, hs, ht'⟩
  have e := h.over s0 s1 t0 t1 (fun a => decide ((a : Int) ∈ ord)) hs ht'
  rw [e]
  unfold cutC
  refine sumN_ext n (fun a ha => sumN_ext n (fun b hb' => ?_))
  have h0 := h.nn a b (by omega) (by omega) (by omega) (by omega)
  by_cases q : decide ((a : Int) ∈ ord) = true ∧ decide ((b : Int) ∈ ord) = false
  · rw [if_pos q, if_pos q]
    have h1 := of_decide_eq_true q.1
    have h2 := of_decide_eq_false q.2
    have h3 : ¬ 0 < en rows a b := fun hp => h2 (hb.closed a h1 b (by omega) (by omega) hp)
    omega
  · rw [if_neg q, if_neg q]
end
end Go.Proofs.Ythdjhgidccmlfaa.M
