/- The plain law of FlowFits: whether a few short jobs can be scheduled is what the reference finds. No conditions. -/
import Derived.Test.YthdjhgidccmlfaaMFits
import Derived.Test.YthdjhgidccmlfaaMJobs
import Derived.Test.YthdjhgidccmlfaaPxFits
namespace Go.Proofs.Ythdjhgidccmlfaa.Pure
open Go.RowKit Go.Proofs.Ythdjhgidccmlfaa.P Go.Proofs.Ythdjhgidccmlfaa.M Go.Proofs.YthdjhgidccmlfaaW.PrintWords
set_option linter.unusedVariables false
set_option linter.unusedSimpArgs false

theorem admf_jobs {l : List S83} {cores : Int} (h : flow_admit.f l cores = some true) : Jobs l ∧ 1 ≤ cores ∧ cores ≤ 4 := by
  unfold flow_admit.f at h
  injection h with h
  rw [Bool.and_eq_true, decide_eq_true_iff] at h
  exact ⟨Jobs.of h.1.1 (by simpa using h.2), h.1.2⟩
/-- The jobs as the reference's: entry by entry. -/
theorem getD_app85 (xs : List S85) (v : S85) (j : Nat) : (xs ++ [v]).getD j z85 = if j = xs.length then v else xs.getD j z85 := by
  rw [List.getD_eq_getElem?_getD, List.getD_eq_getElem?_getD]
  by_cases h : j < xs.length
  · rw [if_neg (by omega), List.getElem?_append_left h]
  · rw [List.getElem?_append_right (by omega)]
    by_cases e : j = xs.length
    · rw [if_pos e, e]; simp
    · rw [if_neg e, List.getElem?_eq_none (by simp; omega), List.getElem?_eq_none (by omega)]
theorem plainF_ev (l : List S83) (hl : l.length ≤ 1000) : ∃ xs : List S85, xs.length = l.length ∧ (∀ i : Nat, i < l.length → rd_T85 xs i = ⟨(rd_T83 l i).f0, (rd_T83 l i).f1, (rd_T83 l i).f2⟩) ∧ ∃ k0, ∀ k, k0 ≤ k → ontimelaw47_plain.f k l = some xs := by
  have go : ∀ (d p : Nat) (xs : List S85), p + d = l.length → xs.length = p → (∀ i : Nat, i < p → rd_T85 xs i = ⟨(rd_T83 l i).f0, (rd_T83 l i).f1, (rd_T83 l i).f2⟩) →
      ∃ xs' : List S85, xs'.length = l.length ∧ (∀ i : Nat, i < l.length → rd_T85 xs' i = ⟨(rd_T83 l i).f0, (rd_T83 l i).f1, (rd_T83 l i).f2⟩) ∧ ∃ k, ontimelaw47_plain.l0 k xs l (l.length : Int) p = some xs' := by
    intro d
    induction d with
    | zero =>
      intro p xs hp hx hi
      obtain rfl : p = l.length := by omega
      exact ⟨xs, hx, hi, 1, by rw [ontimelaw47_plain.l0, if_neg (by omega)]⟩
    | succ d ih =>
      intro p xs hp hx hi
      have W := Aside0.mk (wrapN (i := p) (by omega))
      obtain ⟨xs', r1, r2, k, hk⟩ := ih (p + 1) (xs ++ [⟨(rd_T83 l p).f0, (rd_T83 l p).f1, (rd_T83 l p).f2⟩]) (by omega) (by simp [hx]) (fun i h => by
        unfold rd_T85
        rw [Int.toNat_natCast, getD_app85]
        by_cases e : i = p
        · rw [if_pos (by omega), e]
        · rw [if_neg (by omega)]
          have := hi i (by omega)
          unfold rd_T85 at this
          rw [Int.toNat_natCast] at this
          exact this)
      refine ⟨xs', r1, r2, k + 1, ?_⟩
      rw [ontimelaw47_plain.l0, if_pos (by omega), if_pos (by omega), if_pos (by omega), if_pos (by omega), W.out]
      exact hk
  obtain ⟨xs, h1, h2, k, hk⟩ := go l.length 0 [] (by omega) rfl (fun i h => by omega)
  exact ⟨xs, h1, h2, ev_of (fun k => ontimelaw47_plain.mono l k) ⟨k, hk⟩⟩
theorem sch_feas {l : List S83} {cores : Int} (hJ : Jobs l) (hc : 1 ≤ cores ∧ cores ≤ 4) {xs : List S85} (hx : xs.length = l.length) (hxs : ∀ i : Nat, i < l.length → rd_T85 xs i = ⟨(rd_T83 l i).f0, (rd_T83 l i).f1, (rd_T83 l i).f2⟩) (h6 : ∀ i : Nat, i < l.length → (rd_T83 l i).f1 ≤ 6) : Sch xs cores 0 6 ↔ Feas l cores := by
  have hw : ∀ i s : Nat, i < l.length → (inW xs i s ↔ win l i s = true) := fun i s hi => by
    unfold inW win
    rw [hxs i hi, decide_eq_true_iff]
  have h7 : ∀ i s : Nat, i < l.length → win l i s = true → s < 6 := fun i s hi h => by
    have := of_decide_eq_true h
    have := h6 i hi
    omega
  constructor
  · rintro ⟨x, h1, h2, h3⟩
    rw [hx] at h1 h2 h3
    refine ⟨x, fun i s hi hxi => (hw i s hi).1 (h1 i s hi hxi).2.2, fun i hi => ?_, h3⟩
    have := h2 i hi
    rw [hxs i hi] at this
    refine Eq.trans ?_ this
    exact sumN_cut _ 6 200 (by omega) (fun s s1 s2 => by
      cases hxi : x i s with
      | false => rfl
      | true => have := (h1 i s hi hxi).2.1; omega)
  · rintro ⟨x, h1, h2, h3⟩
    refine ⟨x, fun i s hi hxi => ?_, fun i hi => ?_, fun s => by rw [hx]; exact h3 s⟩
    · rw [hx] at hi
      have := h1 i s hi hxi
      exact ⟨Nat.zero_le _, h7 i s hi this, (hw i s hi).2 this⟩
    · rw [hx] at hi
      rw [hxs i hi]
      show _ = cost l i
      rw [← h2 i hi]
      exact (sumN_cut _ 6 200 (by omega) (fun s s1 s2 => by
        cases hxi : x i s with
        | false => rfl
        | true => have := h7 i s hi (h1 i s hi hxi); omega)).symm
theorem FlowFits : ontimelaw47_FlowFits.Pure := by
  intro l cores _ _
  have skip : ∀ k, ontimelaw47_FlowFits.j0 (k + 1) l cores true = some true := fun k => by
    rw [ontimelaw47_FlowFits.j0, if_pos rfl]; rfl
  have start : (∃ b, (∃ k0, ∀ k, k0 ≤ k → ontimelaw47_valid.f k l cores = some b) ∧ ∃ k, (if b = true then ontimelaw47_FlowFits.j0 k l cores (decide ((l.length : Int) > 4)) else ontimelaw47_FlowFits.j0 k l cores true) = some true) → ∃ k, ontimelaw47_FlowFits.f k l cores = some true := by
    rintro ⟨b, ⟨k0, h0⟩, k, hk⟩
    refine ⟨max k0 k, ?_⟩
    unfold ontimelaw47_FlowFits.f
    rw [show ontimelaw47_awake.f = some true from rfl, Option.bind_some, if_pos rfl, h0 _ (by omega), Option.bind_some]
    cases b with
    | false => rw [if_neg (by simp)] at hk ⊢; exact at_rounds (fun k => (ontimelaw47_FlowFits.mono_l k).1 _ _ _) (by omega) hk
    | true => rw [if_pos rfl] at hk ⊢; exact at_rounds (fun k => (ontimelaw47_FlowFits.mono_l k).1 _ _ _) (by omega) hk
  by_cases c1 : l.length > 1000
  · refine start ⟨false, ?_, 1, by rw [if_neg (by simp)]; exact skip 0⟩
    refine ⟨1, fun k hk => ?_⟩
    obtain ⟨k, rfl⟩ : ∃ j, k = j + 1 := ⟨k - 1, by omega⟩
    unfold ontimelaw47_valid.f
    rw [if_pos (by omega), ontimelaw47_valid.j0, if_pos rfl]
  obtain ⟨kv, hv⟩ := jvalid_ev l cores (by omega)
  obtain ⟨b, hadm⟩ : ∃ b, flow_admit.f l cores = some b := ⟨_, rfl⟩
  refine start ⟨b, ⟨kv, fun k hk => by rw [hv k hk, hadm]⟩, ?_⟩
  cases b with
  | false => exact ⟨1, by rw [if_neg (by simp)]; exact skip 0⟩
  | true =>
    suffices hh : ∃ k, ontimelaw47_FlowFits.j0 k l cores (decide ((l.length : Int) > 4)) = some true by
      obtain ⟨k, hk⟩ := hh
      exact ⟨k, by rw [if_pos rfl]; exact hk⟩
    by_cases c2 : (l.length : Int) > 4
    · exact ⟨1, by rw [decide_eq_true c2]; exact skip 0⟩
    rw [decide_eq_false c2]
    obtain ⟨hJ, hc⟩ := admf_jobs hadm
    have fin : (∃ k, ontimelaw47_FlowFits.l0 k l cores l (l.length : Int) ((0 : Nat) : Int) = some true) → ∃ k, ontimelaw47_FlowFits.j0 k l cores false = some true := fun ⟨k, hk⟩ => ⟨k + 1, by rw [ontimelaw47_FlowFits.j0, if_neg (by simp)]; exact hk⟩
    refine fin ?_
    have loop : ∀ (d p : Nat), p + d = l.length → (∀ i : Nat, i < p → (rd_T83 l i).f1 ≤ 6) → ∃ k, ontimelaw47_FlowFits.l0 k l cores l (l.length : Int) (p : Int) = some true := by
      intro d
      induction d with
      | zero =>
        intro p hp h6
        obtain rfl : p = l.length := by omega
        obtain ⟨out, ok, hio, ks, hs⟩ := sched_feas hadm hJ hc
        obtain ⟨xs, x1, x2, kx, x3⟩ := plainF_ev l (by omega)
        obtain ⟨b, hb, kf, hf⟩ := fits_ev cores ⟨by omega, by omega⟩ 6 (by omega) 7 0 rfl (by omega) xs ⟨by omega, fun i hi => by
          rw [x1] at hi
          rw [x2 i hi]
          have j := hJ.ok i hi
          exact ⟨j.c0, by have := j.c1; show (rd_T83 l i).f2 ≤ 1000; omega⟩⟩
        have he : ok = b := by
          have hq : ok = true ↔ b = true := hio.trans ((sch_feas hJ hc x1 x2 h6).symm.trans hb.symm)
          cases ok <;> cases b <;> simp at hq ⊢
        refine ⟨max ks (max kx kf) + 1, ?_⟩
        have hf' : ontimeref47_Fits.f (max ks (max kx kf)) xs cores 0 6 = some b := at_rounds (fun k => ontimeref47_Fits.mono xs cores 0 6 k) (by omega) hf
        rw [ontimelaw47_FlowFits.l0, if_neg (by omega), hs _ (by omega), Option.bind_some]
        dsimp only
        rw [if_pos rfl, x3 _ (by omega), Option.bind_some, hf', Option.bind_some, he]
        simp
      | succ d ih =>
        intro p hp h6
        have W := Aside0.mk (wrapN (i := p) (by omega))
        by_cases g1 : (rd_T83 l p).f1 > 6
        · exact ⟨1, by rw [ontimelaw47_FlowFits.l0, if_pos (by omega), if_pos (by omega), if_pos (by omega), if_pos g1]⟩
        by_cases g2 : (rd_T83 l p).f2 > 7
        · exact ⟨1, by rw [ontimelaw47_FlowFits.l0, if_pos (by omega), if_pos (by omega), if_pos (by omega), if_neg g1, if_pos g2]⟩
        obtain ⟨k, hk⟩ := ih (p + 1) (by omega) (fun i hi => by
          by_cases e : i = p
          · rw [e]; omega
          · exact h6 i (by omega))
        refine ⟨k + 1, ?_⟩
        rw [ontimelaw47_FlowFits.l0, if_pos (by omega), if_pos (by omega), if_pos (by omega), if_neg g1, if_neg g2, W.out]
        exact hk
    exact loop l.length 0 (by omega) (fun i hi => by omega)
end Go.Proofs.Ythdjhgidccmlfaa.Pure
