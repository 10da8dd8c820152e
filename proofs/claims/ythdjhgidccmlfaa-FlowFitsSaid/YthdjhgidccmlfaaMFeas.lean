/- Jobs can be scheduled, told by an assignment of slots; the flow reaches the costs exactly then. In plain Lean. Conditions: a list of valid jobs, 1 to 4 cores. -/
import Derived.Test.YthdjhgidccmlfaaMWit
namespace Go.Proofs.Ythdjhgidccmlfaa.M
open Go.RowKit Go.Proofs.Ythdjhgidccmlfaa.P Go.Proofs.YthdjhgidccmlfaaW.PrintWords
set_option linter.unusedVariables false
set_option linter.unusedSimpArgs false

/-- Each job has as many slots of its window as it costs, and no slot more jobs than cores. -/
def Feas (l : List S83) (cores : Int) : Prop :=
  ∃ x : Nat → Nat → Bool, (∀ i s : Nat, i < l.length → x i s = true → win l i s = true) ∧ (∀ i : Nat, i < l.length → sumN (fun s => if x i s = true then 1 else 0) 200 = cost l i) ∧ ∀ s : Nat, sumN (fun i => if x i s = true then 1 else 0) l.length ≤ cores
section
variable {l : List S83} {cores : Int} {D n : Nat} {c rows : List (List Int)} {value : Int}
/-- Shares of slots (in parts of H) show that no cut is below the costs. -/
theorem frac_cut (h : JF l cores D n c rows value) (H : Int) (hH : 0 < H) (y : Nat → Nat → Int) (y0 : ∀ i s : Nat, i < l.length → s < D → 0 ≤ y i s ∧ y i s ≤ if win l i s = true then H else 0)
    (y1 : ∀ i : Nat, i < l.length → sumN (y i) D = H * cost l i) (y2 : ∀ s : Nat, s < D → sumN (fun i => y i s) l.length ≤ H * cores) (χ : Nat → Bool) (h0 : χ 0 = true) (ht : χ (1 + l.length + D) = false) : sumC l l.length ≤ cutC n c χ := by
  refine Int.le_of_mul_le_mul_left ?_ hH
  rw [h.cut χ h0 ht, sumC_eq, Int.mul_add, Int.mul_add, ← sumN_mul, ← sumN_mul, ← sumN_mul, ← sumN_mul]
  -- the part of a job on the source's side
  have hj : ∀ i : Nat, i < l.length → H * cost l i ≤ H * (if χ (1 + i) = true then 0 else cost l i) + H * (if χ (1 + i) = true then sumN (fun s => if win l i s = true ∧ χ (1 + l.length + s) = false then 1 else 0) D else 0) + sumN (fun s => if χ (1 + l.length + s) = true then y i s else 0) D := by
    intro i hi
    have hp : 0 ≤ sumN (fun s => if χ (1 + l.length + s) = true then y i s else 0) D := sumN_nonneg D (fun s hs => by
      have := (y0 i s hi hs).1
      split <;> omega)
    by_cases e : χ (1 + i) = true
    · rw [if_pos e, if_pos e, Int.mul_zero, Int.zero_add, ← y1 i hi, ← sumN_mul, ← sumN_add]
      refine sumN_le D (fun s hs => ?_)
      have q := y0 i s hi hs
      by_cases es : χ (1 + l.length + s) = true
      · rw [if_pos es, if_neg (fun z => by rw [es] at z; exact absurd z.2 (by simp))]
        omega
      · rw [if_neg es]
        by_cases ew : win l i s = true
        · rw [if_pos ew] at q
          rw [if_pos ⟨ew, by simpa using es⟩]
          omega
        · rw [if_neg ew] at q
          rw [if_neg (fun z => ew z.1)]
          omega
    · rw [if_neg e, if_neg e, Int.mul_zero, Int.add_zero]
      omega
  have hs : sumN (fun i => sumN (fun s => if χ (1 + l.length + s) = true then y i s else 0) D) l.length ≤ sumN (fun s => H * (if χ (1 + l.length + s) = true then cores else 0)) D := by
    rw [sumN_swap]
    refine sumN_le D (fun s hs => ?_)
    by_cases es : χ (1 + l.length + s) = true
    · rw [if_pos es, sumN_ext (g := fun i => y i s) l.length (fun i hi => by rw [if_pos es])]
      exact y2 s hs
    · rw [if_neg es, sumN_zero' l.length (fun i hi => by rw [if_neg es])]
      omega
  have hsum := sumN_le (f := fun i => H * cost l i) (g := fun i => H * (if χ (1 + i) = true then 0 else cost l i) + H * (if χ (1 + i) = true then sumN (fun s => if win l i s = true ∧ χ (1 + l.length + s) = false then 1 else 0) D else 0) + sumN (fun s => if χ (1 + l.length + s) = true then y i s else 0) D) l.length hj
  rw [sumN_add, sumN_add] at hsum
  omega
theorem JF.frac (h : JF l cores D n c rows value) {before ord : List Int} (hb : Bfs n rows 0 before ord) (ht : ((1 + l.length + D : Nat) : Int) ∉ ord) (H : Int) (hH : 0 < H) (y : Nat → Nat → Int) (y0 : ∀ i s : Nat, i < l.length → s < D → 0 ≤ y i s ∧ y i s ≤ if win l i s = true then H else 0)
    (y1 : ∀ i : Nat, i < l.length → sumN (y i) D = H * cost l i) (y2 : ∀ s : Nat, s < D → sumN (fun i => y i s) l.length ≤ H * cores) : sumC l l.length ≤ value := by
  have hn := h.hn
  obtain ⟨e1, e2, e3⟩ := h.fi.cut_eq (by omega) (by omega) (by omega) (by omega) hb (by
    have e : (1 + (l.length : Int) + D) = ((1 + l.length + D : Nat) : Int) := by omega
    rw [e]; exact ht)
  rw [e1]
  refine frac_cut h H hH y y0 y1 y2 _ e2 ?_
  have e : (1 + (l.length : Int) + D).toNat = 1 + l.length + D := by omega
  rw [e] at e3
  exact e3
theorem sumN_cut (f : Nat → Int) (a b : Nat) (hab : a ≤ b) (h : ∀ i, a ≤ i → i < b → f i = 0) : sumN f b = sumN f a := by
  obtain ⟨d, rfl⟩ : ∃ d, b = a + d := ⟨b - a, by omega⟩
  rw [sumN_split, sumN_zero' d (fun i hi => h (a + i) (by omega) (by omega))]
  omega
theorem feas_le (h : JF l cores D n c rows value) {before ord : List Int} (hb : Bfs n rows 0 before ord) (ht : ((1 + l.length + D : Nat) : Int) ∉ ord) (hf : Feas l cores) : sumC l l.length ≤ value := by
  obtain ⟨x, x1, x2, x3⟩ := hf
  have hD := h.d200
  refine h.frac hb ht 1 (by omega) (fun i s => if x i s = true then 1 else 0) (fun i s hi hs => ?_) (fun i hi => ?_) (fun s hs => by rw [Int.one_mul]; exact x3 s)
  · by_cases e : x i s = true
    · rw [if_pos e, if_pos (x1 i s hi e)]; omega
    · rw [if_neg e]; split <;> omega
  · rw [Int.one_mul, ← x2 i hi]
    exact (sumN_cut _ D 200 hD (fun s h1 h2 => by
      by_cases e : x i s = true
      · have := h.win_lt hi (x1 i s hi e); omega
      · exact if_neg e)).symm
theorem feas_of (h : JF l cores D n c rows value) (hv : sumC l l.length ≤ value) : Feas l cores := by
  have hD := h.d200
  have hlt : ∀ i s : Nat, i < l.length → bit l rows i s = true → s < D := fun i s hi hb => by
    have := (bit_iff.1 hb).2.1
    have := h.f1 hi
    omega
  refine ⟨bit l rows, fun i s hi hb => ?_, fun i hi => ?_, fun s => ?_⟩
  · unfold bit at hb
    rw [Bool.and_eq_true] at hb
    exact hb.1
  · rw [← h.full hv hi]
    exact sumN_cut _ D 200 hD (fun s h1 h2 => if_neg (fun e => by have := hlt i s hi e; omega))
  · by_cases hs : s < D
    · exact h.load hs
    · rw [sumN_zero' l.length (fun i hi => if_neg (fun e => hs (hlt i s hi e)))]
      exact h.cores0
/-- Schedule's answer. -/
theorem sched_feas {l : List S83} {cores : Int} (hadm : flow_admit.f l cores = some true) (hJ : Jobs l) (hc : 1 ≤ cores ∧ cores ≤ 4) : ∃ (out : List (List Int)) (ok : Bool), (ok = true ↔ Feas l cores) ∧ ∃ k0, ∀ k, k0 ≤ k → flow_Schedule.f k l cores = some (out, ok, 0) := by
  obtain ⟨D, n, c, rows, value, h, ha, before, ord, hs, hb, ht⟩ := jf_of hJ hc
  obtain ⟨s1, s2⟩ := schedule_ev h hadm ha
  by_cases hlt : value < sumC l l.length
  · refine ⟨[], false, ⟨fun z => by simp at z, fun z => ?_⟩, s1 hlt⟩
    have := feas_le h hb ht z
    omega
  · obtain ⟨out, o1, o2, h3⟩ := s2 hlt
    exact ⟨out, true, ⟨fun _ => feas_of h (by omega), fun _ => rfl⟩, h3⟩

/-! ### what eases -/
theorem rd_set83 (l : List S83) (i : Nat) (hi : i < l.length) (j : S83) (a : Nat) : rd_T83 (l.set i j) (a : Int) = if a = i then j else rd_T83 l (a : Int) := by
  have := gD_set (xs := l) (d := z83) (b := (i : Int)) (i := (a : Int)) (v := j) (Int.natCast_nonneg i) (by omega) (Int.natCast_nonneg a)
  rw [Int.toNat_natCast] at this
  unfold rd_T83
  rw [this]
  by_cases e : a = i
  · rw [if_pos e, if_pos (by omega)]
  · rw [if_neg e, if_neg (by omega)]
theorem feas_more (l : List S83) (cores : Int) (h : Feas l cores) : Feas l (cores + 1) := by
  obtain ⟨x, x1, x2, x3⟩ := h
  exact ⟨x, x1, x2, fun s => by have := x3 s; omega⟩
theorem feas_wide (l : List S83) (cores : Int) (i : Nat) (hi : i < l.length) (j : S83) (h0 : j.f0 ≤ (rd_T83 l i).f0) (h1 : (rd_T83 l i).f1 ≤ j.f1) (h2 : j.f2 = (rd_T83 l i).f2) (h : Feas l cores) : Feas (l.set i j) cores := by
  obtain ⟨x, x1, x2, x3⟩ := h
  have hl : (l.set i j).length = l.length := List.length_set
  refine ⟨x, fun a s ha hx => ?_, fun a ha => ?_, fun s => by rw [hl]; exact x3 s⟩
  · rw [hl] at ha
    have hw := of_decide_eq_true (x1 a s ha hx)
    unfold win
    rw [rd_set83 l i hi]
    refine decide_eq_true ?_
    by_cases e : a = i
    · rw [if_pos e]; rw [e] at hw; omega
    · rw [if_neg e]; exact hw
  · rw [hl] at ha
    rw [x2 a ha]
    unfold cost
    rw [rd_set83 l i hi]
    by_cases e : a = i
    · rw [if_pos e, e, h2]
    · rw [if_neg e]
theorem sumN_pos_ex (P : Nat → Bool) : ∀ n, 0 < sumN (fun s => if P s = true then 1 else 0) n → ∃ s, s < n ∧ P s = true
  | 0, h => by simp [sumN] at h
  | n + 1, h => by
    by_cases e : P n = true
    · exact ⟨n, by omega, e⟩
    · simp only [sumN, if_neg e, Int.add_zero] at h
      obtain ⟨s, h1, h2⟩ := sumN_pos_ex P n h
      exact ⟨s, by omega, h2⟩
theorem feas_less (l : List S83) (cores : Int) (i : Nat) (hi : i < l.length) (j : S83) (h0 : j.f0 = (rd_T83 l i).f0) (h1 : j.f1 = (rd_T83 l i).f1) (h2 : j.f2 = (rd_T83 l i).f2 - 1) (h3 : 0 ≤ j.f2) (h : Feas l cores) : Feas (l.set i j) cores := by
  obtain ⟨x, x1, x2, x3⟩ := h
  have hl : (l.set i j).length = l.length := List.length_set
  obtain ⟨s0, hs0, hx0⟩ := sumN_pos_ex (x i) 200 (by rw [x2 i hi]; unfold cost; omega)
  refine ⟨fun a s => x a s && !(decide (a = i ∧ s = s0)), fun a s ha hx => ?_, fun a ha => ?_, fun s => ?_⟩
  · rw [hl] at ha
    rw [Bool.and_eq_true] at hx
    have hw := of_decide_eq_true (x1 a s ha hx.1)
    unfold win
    rw [rd_set83 l i hi]
    refine decide_eq_true ?_
    by_cases e : a = i
    · rw [if_pos e]; rw [e] at hw; omega
    · rw [if_neg e]; exact hw
  · rw [hl] at ha
    by_cases e : a = i
    · subst e
      have e1 : ∀ s : Nat, s < 200 → (if (x a s && !(decide (a = a ∧ s = s0))) = true then (1 : Int) else 0) = (if x a s = true then 1 else 0) - (if s = s0 then 1 else 0) := by
        intro s hs
        by_cases es : s = s0
        · subst es; simp [hx0]
        · simp [es]
      rw [sumN_ext 200 e1, sumN_sub, sumN_single, if_pos hs0, x2 a ha]
      unfold cost
      rw [rd_set83 l a hi, if_pos rfl, h2]
    · have e1 : ∀ s : Nat, s < 200 → (if (x a s && !(decide (a = i ∧ s = s0))) = true then (1 : Int) else 0) = (if x a s = true then 1 else 0) := by
        intro s hs
        simp [e]
      rw [sumN_ext 200 e1, x2 a ha]
      unfold cost
      rw [rd_set83 l i hi, if_neg e]
  · rw [hl]
    refine Int.le_trans (sumN_le l.length (fun a ha => ?_)) (x3 s)
    by_cases e : x a s = true
    · rw [if_pos e]; split <;> omega
    · rw [if_neg e, if_neg (fun z => by rw [Bool.and_eq_true] at z; exact e z.1)]
      exact Int.le_refl _
end
end Go.Proofs.Ythdjhgidccmlfaa.M
