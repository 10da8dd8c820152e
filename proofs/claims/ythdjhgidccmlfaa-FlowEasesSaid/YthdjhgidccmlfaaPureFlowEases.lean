/- The plain law of FlowEases: jobs that can be scheduled still can with a further core, a wider window, or a lower cost. No conditions. -/
import Derived.Test.YthdjhgidccmlfaaMFeas
import Derived.Test.YthdjhgidccmlfaaMJobs
import Derived.Test.YthdjhgidccmlfaaXEases
namespace Go.Proofs.Ythdjhgidccmlfaa.Pure
open Go.RowKit Go.Proofs.Ythdjhgidccmlfaa.P Go.Proofs.Ythdjhgidccmlfaa.M Go.Proofs.YthdjhgidccmlfaaW.PrintWords
set_option linter.unusedVariables false
set_option linter.unusedSimpArgs false

theorem adm_jobs {l : List S83} {cores : Int} (h : flow_admit.f l cores = some true) : Jobs l ∧ 1 ≤ cores ∧ cores ≤ 4 := by
  unfold flow_admit.f at h
  injection h with h
  rw [Bool.and_eq_true, decide_eq_true_iff] at h
  exact ⟨Jobs.of h.1.1 (by simpa using h.2), h.1.2⟩
theorem ease_of (m : List S83) (cores : Int) (ok : Bool) (hm : m.length ≤ 1000) (h : ok = true → flow_admit.f m cores = some true → Feas m cores) : ∃ k0, ∀ K, k0 ≤ K → EaseOk K m cores ok := by
  obtain ⟨kv, hv⟩ := jvalid_ev m cores hm
  obtain ⟨b, hadm⟩ : ∃ b, flow_admit.f m cores = some b := ⟨_, rfl⟩
  cases b with
  | false => exact ⟨kv, fun K hK => .inl (by rw [hv K hK, hadm])⟩
  | true =>
    obtain ⟨hJ, hc⟩ := adm_jobs hadm
    obtain ⟨out, is_, hio, ks, hs⟩ := sched_feas hadm hJ hc
    refine ⟨max kv ks, fun K hK => .inr ⟨by rw [hv K (by omega), hadm], out, is_, hs K (by omega), ?_⟩⟩
    cases ok with
    | false => simp
    | true => rw [hio.2 (h rfl hadm)]; rfl
theorem FlowEases : ontimelaw47_FlowEases.Pure := by
  intro l cores a2 a3 _ wc h2 h3
  by_cases c1 : l.length > 1000
  · refine .inl ⟨2, .inl ?_⟩
    unfold ontimelaw47_valid.f
    rw [if_pos (by omega), ontimelaw47_valid.j0, if_pos rfl]
  obtain ⟨kv, hv⟩ := jvalid_ev l cores (by omega)
  obtain ⟨b, hadm⟩ : ∃ b, flow_admit.f l cores = some b := ⟨_, rfl⟩
  cases b with
  | false => exact .inl ⟨kv, .inl (by rw [hv kv (Nat.le_refl _), hadm])⟩
  | true =>
    by_cases c2 : l.length = 0 ∨ 14 < l.length
    · exact .inl ⟨kv, .inr ⟨by rw [hv kv (Nat.le_refl _), hadm], c2⟩⟩
    obtain ⟨hJ, hc⟩ := adm_jobs hadm
    obtain ⟨out, ok, hio, ks, hs⟩ := sched_feas hadm hJ hc
    have hpos : 0 < (l.length : Int) := by omega
    have hm0 := Int.emod_nonneg a2 (show (l.length : Int) ≠ 0 by omega)
    have hm1 := Int.emod_lt_of_pos a2 hpos
    obtain ⟨i, hi⟩ := Int.eq_ofNat_of_zero_le hm0
    have hil : i < l.length := by omega
    obtain ⟨j, hj⟩ : ∃ j, j = rd_T83 l (i : Int) := ⟨_, rfl⟩
    have jo := hJ.ok i hil
    rw [← hj] at jo
    have := jo.r0
    have := jo.rd
    have := jo.d1
    have := jo.c0
    have := jo.c1
    have hlen : ∀ q : S83, (l.set i q).length ≤ 1000 := fun q => by rw [List.length_set]; omega
    have hB0 := Int.emod_nonneg a3 (show (9 : Int) ≠ 0 by omega)
    have hB1 := Int.emod_lt_of_pos a3 (show (0 : Int) < 9 by omega)
    have w1 := Aside0.mk (wrapI (x := cores + 1) (by omega) (by omega))
    have w2 := Aside0.mk (wrapI (x := j.f1 + a3 % 9) (by omega) (by omega))
    have w3 := Aside0.mk (wrapI (x := j.f0 - a3 % 9) (by omega) (by omega))
    have w4 := Aside0.mk (wrapI (x := j.f2 - 1) (by omega) (by omega))
    obtain ⟨k1, h1⟩ := ease_of (l.set i j) (cores + 1) ok (hlen _) (fun ho ha => feas_more _ _ (feas_wide l cores i hil j (by rw [hj]; exact Int.le_refl _) (by rw [hj]; exact Int.le_refl _) (by rw [hj]) (hio.1 ho)))
    obtain ⟨k2, h2'⟩ := ease_of (l.set i ⟨j.f0, j.f1 + a3 % 9, j.f2⟩) cores ok (hlen _) (fun ho ha => feas_wide l cores i hil _ (by rw [hj]; exact Int.le_refl _) (by rw [← hj]; show j.f1 ≤ j.f1 + a3 % 9; omega) (by rw [hj]) (hio.1 ho))
    obtain ⟨k3, h3'⟩ := ease_of (l.set i ⟨j.f0 - a3 % 9, j.f1, j.f2⟩) cores ok (hlen _) (fun ho ha => feas_wide l cores i hil _ (by rw [← hj]; show j.f0 - a3 % 9 ≤ j.f0; omega) (by rw [hj]; exact Int.le_refl _) (by rw [hj]) (hio.1 ho))
    obtain ⟨k4, h4⟩ := ease_of (l.set i ⟨j.f0, j.f1, j.f2 - 1⟩) cores ok (hlen _) (fun ho ha => by
      have hjo := (adm_jobs ha).1.ok i (by rw [List.length_set]; exact hil)
      rw [rd_set83 l i hil, if_pos rfl] at hjo
      exact feas_less l cores i hil _ (by rw [hj]) (by rw [hj]) (by rw [hj]) hjo.c0 (hio.1 ho))
    refine .inr ⟨max kv (max ks (max (max k1 k2) (max k3 k4))), out, ok, by rw [hv _ (by omega), hadm], by omega, by omega, hs _ (by omega), i, j, hi, hil, hj, ?_, ?_, ?_, ?_⟩
    · rw [w1.out]; exact h1 _ (by omega)
    · rw [w2.out]; exact h2' _ (by omega)
    · rw [w3.out]; exact h3' _ (by omega)
    · rw [w4.out]; exact h4 _ (by omega)
end Go.Proofs.Ythdjhgidccmlfaa.Pure
