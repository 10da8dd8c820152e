/- What Schedule and Witness return for valid jobs, and that the law's own test takes the schedule, in plain Lean. Conditions: a list of valid jobs, 1 to 4 cores. -/
import Derived.Test.YthdjhgidccmlfaaMSel
namespace Go.Proofs.Ythdjhgidccmlfaa.M
open Go.RowKit Go.Proofs.Ythdjhgidccmlfaa.P Go.Proofs.YthdjhgidccmlfaaW.PrintWords
set_option linter.unusedVariables false
set_option linter.unusedSimpArgs false

section
variable {l : List S83} {cores : Int} {D n : Nat} {c rows : List (List Int)} {value : Int}
theorem bit_iff {l : List S83} {rows : List (List Int)} {i s : Nat} : bit l rows i s = true ↔ (rd_T83 l i).f0 ≤ (s : Int) ∧ (s : Int) < (rd_T83 l i).f1 ∧ en rows ((1 + i : Nat) : Int) ((1 + l.length + s : Nat) : Int) = 0 := by
  unfold bit win
  rw [Bool.and_eq_true, decide_eq_true_iff, decide_eq_true_iff]
  exact and_assoc
theorem JF.d200 (h : JF l cores D n c rows value) : D ≤ 200 := by
  have := h.hD
  have := (maxD_b h.jobs l.length (Nat.le_refl _)).2.1
  omega
theorem JF.f1 (h : JF l cores D n c rows value) {i : Nat} (hi : i < l.length) : (rd_T83 l i).f1 ≤ D := by
  have := h.hD
  have := (maxD_b h.jobs l.length (Nat.le_refl _)).2.2 i hi
  omega
theorem sall_ev (h : JF l cores D n c rows value) : ∀ (d p : Nat) (out : List (List Int)), p + d = l.length → out.length = D → (∀ q : Nat, q < D → rd_L4 out q = sel (fun i => bit l rows i q) p) →
    ∃ out' : List (List Int), out'.length = D ∧ (∀ q : Nat, q < D → rd_L4 out' q = sel (fun i => bit l rows i q) l.length) ∧ ∀ k, 200 ≤ k → schedAll rows (l.length : Int) k p (l.drop p) out = some out' := by
  have hl := h.jobs.len
  intro d
  induction d with
  | zero =>
    intro p out hp ho hq
    obtain rfl : p = l.length := by omega
    exact ⟨out, ho, hq, fun k hk => by rw [List.drop_length]; rfl⟩
  | succ d ih =>
    intro p out hp ho hq
    have j := h.jobs.ok p (by omega)
    have := j.r0
    have := j.rd
    have := j.d1
    have hf1 := h.f1 (i := p) (by omega)
    obtain ⟨o1, r1, r2, r3⟩ := srow_ev h (i := p) (by omega) (rd_T83 l p).f1 hf1 _ (rd_T83 l p).f0 out j.r0 j.rd rfl ho (fun q hq1 hq2 => by
      rw [hq q hq2]
      have := (sel_len (fun i => bit l rows i q) p).2
      omega)
    obtain ⟨o2, s1, s2, s3⟩ := ih (p + 1) o1 (by omega) r1 (fun q hq2 => by
      rw [r2 q hq2, hq q hq2]
      show _ = if bit l rows p q = true then sel (fun i => bit l rows i q) p ++ [(p : Int)] else sel (fun i => bit l rows i q) p
      by_cases hb : bit l rows p q = true
      · rw [if_pos hb, if_pos (bit_iff.1 hb)]
      · rw [if_neg hb, if_neg (fun z => hb (bit_iff.2 z))])
    refine ⟨o2, s1, s2, fun k hk => ?_⟩
    rw [drop_T83 l p (by omega), schedAll, r3 k (by omega), Option.bind_some]
    exact s3 k hk
/-- What Schedule returns. -/
theorem schedule_ev (h : JF l cores D n c rows value) (hadm : flow_admit.f l cores = some true) (ha : ∃ k0, ∀ k, k0 ≤ k → flow_assign.f k l cores = some ((l.length : Int), (D : Int), sumC l l.length, value, rows)) :
    (value < sumC l l.length → ∃ k0, ∀ k, k0 ≤ k → flow_Schedule.f k l cores = some ([], false, 0)) ∧
    (¬ value < sumC l l.length → ∃ out : List (List Int), out.length = D ∧ (∀ q : Nat, q < D → rd_L4 out q = sel (fun i => bit l rows i q) l.length) ∧ ∃ k0, ∀ k, k0 ≤ k → flow_Schedule.f k l cores = some (out, true, 0)) := by
  have hD := h.d200
  obtain ⟨k0, hk0⟩ := ha
  refine ⟨fun hv => ⟨k0, fun k hk => ?_⟩, fun hv => ?_⟩
  · unfold flow_Schedule.f
    rw [hadm, Option.bind_some, if_pos rfl, hk0 k hk, Option.bind_some]
    exact if_pos hv
  · obtain ⟨out, h1, h2, h3⟩ := sall_ev h l.length 0 (List.replicate D []) (by omega) (by simp) (fun q hq => gD_rep _ (Int.natCast_nonneg q) (Int.ofNat_lt.2 hq))
    refine ⟨out, h1, h2, max k0 200, fun k hk => ?_⟩
    unfold flow_Schedule.f
    rw [hadm, Option.bind_some, if_pos rfl, hk0 k (by omega), Option.bind_some]
    dsimp only
    rw [if_neg hv, if_pos (by omega), Int.toNat_natCast]
    have h4 := h3 k (by omega)
    rw [List.drop_zero] at h4
    rw [h4]
    rfl
/-- The jobs and slots on the source's side. -/
def seenJ (before : List Int) (i : Nat) : Bool := decide (0 ≤ rd before ((1 + i : Nat) : Int))
def seenS (l : List S83) (before : List Int) (s : Nat) : Bool := decide (0 ≤ rd before ((1 + l.length + s : Nat) : Int))
theorem wit_l1 (h : JF l cores D n c rows value) {before : List Int} (hb : before.length = n) (A : List Int) (tot : Int) : ∀ d p : Nat, p + d = D → ∃ k, flow_Witness.l1 k A (sel (seenS l before) p) before (D : Int) (p : Int) (l.length : Int) (D : Int) tot value rows = some (A, sel (seenS l before) D, true) := by
  have hl := h.jobs.len
  have hD := h.d200
  have hn := h.hn
  intro d
  induction d with
  | zero =>
    intro p hp
    obtain rfl : p = D := by omega
    exact ⟨1, by rw [flow_Witness.l1, if_neg (by omega)]⟩
  | succ d ih =>
    intro p hp
    obtain ⟨k, hk⟩ := ih (p + 1) (by omega)
    have w1 : wrap64 (1 + (l.length : Int)) = 1 + l.length := wrapI (by omega) (by omega)
    have w2 : wrap64 (1 + (l.length : Int) + p) = ((1 + l.length + p : Nat) : Int) := by rw [wrapI (by omega) (by omega)]; omega
    have w : wrap64 ((p : Int) + 1) = ((p + 1 : Nat) : Int) := wrapN (by omega)
    have hsl := (sel_len (seenS l before) p).2
    refine ⟨k + 1, ?_⟩
    rw [flow_Witness.l1, if_pos (by omega), w1, w2, if_pos (by omega), if_pos (by omega), w]
    by_cases e : 0 ≤ rd before ((1 + l.length + p : Nat) : Int)
    · rw [if_pos e, if_pos (by omega)]
      have hs : sel (seenS l before) (p + 1) = sel (seenS l before) p ++ [(p : Int)] := if_pos (decide_eq_true e)
      rw [← hs]
      exact hk
    · rw [if_neg e]
      have hs : sel (seenS l before) (p + 1) = sel (seenS l before) p := if_neg (by unfold seenS; rw [decide_eq_false e]; simp)
      rw [← hs]
      exact hk
theorem wit_l0 (h : JF l cores D n c rows value) {before : List Int} (hb : before.length = n) (tot : Int) : ∀ d p : Nat, p + d = l.length → ∃ k, flow_Witness.l0 k (sel (seenJ before) p) before (l.length : Int) (p : Int) (l.length : Int) (D : Int) tot value rows = some (sel (seenJ before) l.length, sel (seenS l before) D, true) := by
  have hl := h.jobs.len
  have hD := h.d200
  have hn := h.hn
  intro d
  induction d with
  | zero =>
    intro p hp
    obtain rfl : p = l.length := by omega
    obtain ⟨k, hk⟩ := wit_l1 h hb (sel (seenJ before) l.length) tot D 0 (by omega)
    exact ⟨k + 1, by rw [flow_Witness.l0, if_neg (by omega)]; exact hk⟩
  | succ d ih =>
    intro p hp
    obtain ⟨k, hk⟩ := ih (p + 1) (by omega)
    have w2 : wrap64 (1 + (p : Int)) = ((1 + p : Nat) : Int) := by rw [wrapI (by omega) (by omega)]; omega
    have w : wrap64 ((p : Int) + 1) = ((p + 1 : Nat) : Int) := wrapN (by omega)
    have hsl := (sel_len (seenJ before) p).2
    refine ⟨k + 1, ?_⟩
    rw [flow_Witness.l0, if_pos (by omega), w2, if_pos (by omega), if_pos (by omega), w]
    by_cases e : 0 ≤ rd before ((1 + p : Nat) : Int)
    · rw [if_pos e, if_pos (by omega)]
      have hs : sel (seenJ before) (p + 1) = sel (seenJ before) p ++ [(p : Int)] := if_pos (decide_eq_true e)
      rw [← hs]
      exact hk
    · rw [if_neg e]
      have hs : sel (seenJ before) (p + 1) = sel (seenJ before) p := if_neg (by unfold seenJ; rw [decide_eq_false e]; simp)
      rw [← hs]
      exact hk
/-- What Witness returns. -/
theorem witness_ev (h : JF l cores D n c rows value) (hadm : flow_admit.f l cores = some true) (ha : ∃ k0, ∀ k, k0 ≤ k → flow_assign.f k l cores = some ((l.length : Int), (D : Int), sumC l l.length, value, rows)) {before : List Int} (hb : before.length = n) (hs : ∃ k0, ∀ k, k0 ≤ k → flow_network_search.f k rows 0 = some before) :
    (value = sumC l l.length → ∃ k0, ∀ k, k0 ≤ k → flow_Witness.f k l cores = some ([], [], false)) ∧
    (¬ value = sumC l l.length → ∃ k0, ∀ k, k0 ≤ k → flow_Witness.f k l cores = some (sel (seenJ before) l.length, sel (seenS l before) D, true)) := by
  obtain ⟨k0, hk0⟩ := ha
  obtain ⟨k1, hk1⟩ := hs
  refine ⟨fun hv => ⟨k0, fun k hk => ?_⟩, fun hv => ?_⟩
  · unfold flow_Witness.f
    rw [hadm, Option.bind_some, if_pos rfl, hk0 k hk, Option.bind_some]
    exact if_pos hv
  · obtain ⟨k2, hk2⟩ := wit_l0 h hb (sumC l l.length) l.length 0 (by omega)
    refine ⟨max k0 (max k1 k2), fun k hk => ?_⟩
    unfold flow_Witness.f
    rw [hadm, Option.bind_some, if_pos rfl, hk0 k (by omega), Option.bind_some]
    dsimp only
    rw [if_neg hv, hk1 k (by omega), Option.bind_some]
    exact at_rounds (fun k => (flow_Witness.mono_l k).1 _ _ _ _ _ _ _ _ _) (by omega) hk2
end
end Go.Proofs.Ythdjhgidccmlfaa.M
