/- Lists of numbers are looked through as they are: what the reference's In answers. Condition: at most 1000000 numbers. -/
import Derived.Test.YtnkbmpdghjhlfaaMInts
import Derived.Test.YtnkbmpdghjhlfaaPxIn
namespace Go.Proofs.Ytnkbmpdghjhlfaa.M
open Go.RowKit Go.Proofs.Ytnkbmpdghjhlfaa.P Go.Proofs.YtnkbmpdghjhlfaaW.PrintWords
set_option linter.unusedVariables false
set_option linter.unusedSimpArgs false

theorem in_l0 (a : List Int) (x : Int) (hb : a.length ≤ 1000000) : ∀ (d i : Nat), i + d = a.length → (∃ k, ontimeref25_In.l0 k a x i = some (decide (x ∈ a.drop i))) := by
  intro d
  induction d with
  | zero =>
    intro i hi
    refine ⟨1, ?_⟩
    rw [ontimeref25_In.l0, if_neg (by omega), List.drop_eq_nil_of_le (by omega)]
    simp
  | succ d ih =>
    intro i hi
    have e1 : a.drop i = rd a i :: a.drop (i + 1) := gD_drop (by omega)
    have hia : (i : Int) < (a.length : Int) := by omega
    have hi0 : (0 : Int) ≤ (i : Int) := by omega
    have hi1 : i < 1000000000000000000 := by omega
    obtain ⟨k, hk⟩ := ih (i + 1) (by omega)
    by_cases h : rd a i = x
    · refine ⟨1, ?_⟩
      rw [ontimeref25_In.l0, if_pos hia, if_pos hi0, if_pos h, e1]
      congr 1
      exact (decide_eq_true (by rw [h]; exact List.mem_cons_self)).symm
    · refine ⟨k + 1, ?_⟩
      rw [ontimeref25_In.l0, if_pos hia, if_pos hi0, if_neg h, wrapN hi1, hk, e1]
      congr 1
      exact decide_eq_decide.2 ⟨fun q => List.mem_cons_of_mem _ q, fun q => (List.mem_cons.1 q).resolve_left (fun e => h e.symm)⟩
theorem in_ev (a : List Int) (x : Int) (hb : a.length ≤ 1000000) : ∃ k0, ∀ k, k0 ≤ k → ontimeref25_In.f k a x = some (decide (x ∈ a)) := by
  refine ev_of (fun k => ontimeref25_In.mono a x k) ?_
  obtain ⟨k, hk⟩ := in_l0 a x hb a.length 0 (by omega)
  exact ⟨k, hk⟩
end Go.Proofs.Ytnkbmpdghjhlfaa.M
