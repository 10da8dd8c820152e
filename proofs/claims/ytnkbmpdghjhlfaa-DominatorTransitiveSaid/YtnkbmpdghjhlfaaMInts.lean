/- Lists of numbers are compared as they are: what the reference's Ints answers. Condition: at most 1000000 numbers. -/
import Derived.Test.YtnkbmpdghjhlfaaMOrder
namespace Go.Proofs.Ytnkbmpdghjhlfaa.M
open Go.RowKit Go.Proofs.Ytnkbmpdghjhlfaa.P Go.Proofs.YtnkbmpdghjhlfaaW.PrintWords
set_option linter.unusedVariables false
set_option linter.unusedSimpArgs false

theorem ints_l0 (a b : List Int) (hl : a.length = b.length) (hb : a.length ≤ 1000000) : ∀ (d i : Nat), i + d = a.length → (∃ k, ontimeref25_Ints.l0 k a b i = some (decide (a.drop i = b.drop i))) := by
  intro d
  induction d with
  | zero =>
    intro i hi
    refine ⟨1, ?_⟩
    rw [ontimeref25_Ints.l0, if_neg (by omega), List.drop_eq_nil_of_le (by omega), List.drop_eq_nil_of_le (by omega)]
    simp
  | succ d ih =>
    intro i hi
    have e1 : a.drop i = rd a i :: a.drop (i + 1) := gD_drop (by omega)
    have e2 : b.drop i = rd b i :: b.drop (i + 1) := gD_drop (by omega)
    have hia : (i : Int) < (a.length : Int) := by omega
    have hib : (i : Int) < (b.length : Int) := by omega
    have hi0 : (0 : Int) ≤ (i : Int) := by omega
    have hi1 : i < 1000000000000000000 := by omega
    obtain ⟨k, hk⟩ := ih (i + 1) (by omega)
    by_cases h : rd a i = rd b i
    · refine ⟨k + 1, ?_⟩
      rw [ontimeref25_Ints.l0, if_pos hia, if_pos hi0, if_pos hib, if_pos h, wrapN hi1, hk, e1, e2, h]
      congr 1
      exact decide_eq_decide.2 ⟨fun q => by rw [q], fun q => by injection q⟩
    · refine ⟨1, ?_⟩
      rw [ontimeref25_Ints.l0, if_pos hia, if_pos hi0, if_pos hib, if_neg h, e1, e2]
      congr 1
      exact (decide_eq_false (fun q => h (by injection q))).symm
theorem ints_ev (a b : List Int) (hb : a.length ≤ 1000000) : ∃ k0, ∀ k, k0 ≤ k → ontimeref25_Ints.f k a b = some (decide (a = b)) := by
  refine ev_of (fun k => ontimeref25_Ints.mono a b k) ?_
  unfold ontimeref25_Ints.f
  by_cases hl : a.length = b.length
  · obtain ⟨k, hk⟩ := ints_l0 a b hl hb a.length 0 (by omega)
    refine ⟨k, ?_⟩
    rw [if_pos (by omega)]
    exact hk
  · refine ⟨0, ?_⟩
    rw [if_neg (by omega)]
    congr 1
    exact (decide_eq_false (fun q => hl (by rw [q]))).symm
end Go.Proofs.Ytnkbmpdghjhlfaa.M
