/- The law's own test of jobs and cores answers as the program's, in plain Lean. Conditions: at most 1000 jobs. -/
import Derived.Test.YthdjhgidccmlfaaMNet
import Derived.Test.YthdjhgidccmlfaaXAdmit
import Derived.Test.YthdjhgidccmlfaaPx7
namespace Go.Proofs.Ythdjhgidccmlfaa.M
open Go.RowKit Go.Proofs.Ythdjhgidccmlfaa.P Go.Proofs.YthdjhgidccmlfaaW.PrintWords
set_option linter.unusedVariables false
set_option linter.unusedSimpArgs false

theorem jv_l0 (l : List S83) (hl : l.length ≤ 1000) : ∀ (d p : Nat), p + d = l.length → ∃ k, ontimelaw47_valid.l0 k l (l.length : Int) p = some (!(l.drop p).any badJ) := by
  intro d
  induction d with
  | zero =>
    intro p hp
    exact ⟨1, by rw [ontimelaw47_valid.l0, if_neg (by omega), List.drop_eq_nil_of_le (by omega)]; rfl⟩
  | succ d ih =>
    intro p hp
    obtain ⟨k, hk⟩ := ih (p + 1) (by omega)
    have w : wrap64 ((p : Int) + 1) = ((p + 1 : Nat) : Int) := wrapN (by omega)
    have p1 : (p : Int) < (l.length : Int) := by omega
    have p0 : (0 : Int) ≤ (p : Int) := by omega
    rw [drop_T83 l p (by omega), List.any_cons]
    refine ⟨k + 1, ?_⟩
    rw [ontimelaw47_valid.l0, if_pos p1, if_pos p0, if_pos p1]
    generalize rd_T83 l (p : Int) = j
    have bad : (j.f0 < 0 ∨ j.f1 < j.f0 ∨ 200 < j.f1 ∨ j.f2 < 0 ∨ 200 < j.f2) → (some (!(badJ j || (l.drop (p + 1)).any badJ)) = some false) := fun h => by
      have : badJ j = true := decide_eq_true h
      rw [this]
      rfl
    by_cases c1 : j.f0 < 0
    · rw [if_pos c1, bad (.inl c1)]
    by_cases c2 : j.f0 > j.f1
    · rw [if_neg c1, if_pos c2, bad (.inr (.inl c2))]
    by_cases c3 : j.f1 > 200
    · rw [if_neg c1, if_neg c2, if_pos c3, bad (.inr (.inr (.inl c3)))]
    by_cases c4 : j.f2 < 0
    · rw [if_neg c1, if_neg c2, if_neg c3, if_pos c4, bad (.inr (.inr (.inr (.inl c4))))]
    by_cases c5 : j.f2 > 200
    · rw [if_neg c1, if_neg c2, if_neg c3, if_neg c4, if_pos c5, bad (.inr (.inr (.inr (.inr c5))))]
    have ok : badJ j = false := decide_eq_false (by omega)
    rw [if_neg c1, if_neg c2, if_neg c3, if_neg c4, if_neg c5, w, hk, ok, Bool.false_or]
theorem jvalid_ev (l : List S83) (cores : Int) (hl : l.length ≤ 1000) : ∃ k0, ∀ k, k0 ≤ k → ontimelaw47_valid.f k l cores = flow_admit.f l cores := by
  have hf : ∀ b : Bool, (∃ k, ontimelaw47_valid.f k l cores = some b) → flow_admit.f l cores = some b → ∃ k0, ∀ k, k0 ≤ k → ontimelaw47_valid.f k l cores = flow_admit.f l cores := by
    intro b h1 h2
    rw [h2]
    exact ev_of (fun k => ontimelaw47_valid.mono l cores k) h1
  by_cases c1 : (l.length : Int) > 100
  · refine hf false ⟨1, ?_⟩ ?_
    · unfold ontimelaw47_valid.f; rw [if_pos c1, ontimelaw47_valid.j0, if_pos rfl]
    · unfold flow_admit.f; rw [decide_eq_false (by omega)]; rfl
  by_cases c2 : cores < 1
  · refine hf false ⟨1, ?_⟩ ?_
    · unfold ontimelaw47_valid.f; rw [if_neg c1, if_pos c2, ontimelaw47_valid.j0, if_pos rfl]
    · unfold flow_admit.f; rw [decide_eq_false (by omega)]; rfl
  by_cases c3 : cores > 4
  · refine hf false ⟨1, ?_⟩ ?_
    · unfold ontimelaw47_valid.f; rw [if_neg c1, if_neg c2, decide_eq_true c3, ontimelaw47_valid.j0, if_pos rfl]
    · unfold flow_admit.f; rw [decide_eq_false (by omega)]; rfl
  obtain ⟨k, hk⟩ := jv_l0 l hl l.length 0 (by omega)
  refine hf (!l.any badJ) ⟨k + 1, ?_⟩ ?_
  · unfold ontimelaw47_valid.f
    rw [if_neg c1, if_neg c2, decide_eq_false c3, ontimelaw47_valid.j0, if_neg (by simp)]
    exact hk
  · unfold flow_admit.f; rw [decide_eq_true (by omega), Bool.true_and]
end Go.Proofs.Ythdjhgidccmlfaa.M
