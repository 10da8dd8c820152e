/- The plain law of FlowSchedules: a schedule, or a witness that there is none. No conditions. -/
import Derived.Test.YthdjhgidccmlfaaMSchOk
namespace Go.Proofs.Ythdjhgidccmlfaa.Pure
open Go.RowKit Go.Proofs.Ythdjhgidccmlfaa.P Go.Proofs.Ythdjhgidccmlfaa.M Go.Proofs.YthdjhgidccmlfaaW.PrintWords
set_option linter.unusedVariables false
set_option linter.unusedSimpArgs false

theorem admit_jobs {l : List S83} {cores : Int} (h : flow_admit.f l cores = some true) : Jobs l ∧ 1 ≤ cores ∧ cores ≤ 4 := by
  unfold flow_admit.f at h
  injection h with h
  rw [Bool.and_eq_true, decide_eq_true_iff] at h
  exact ⟨Jobs.of h.1.1 (by simpa using h.2), h.1.2⟩
theorem admit_some (l : List S83) (cores : Int) : ∃ b, flow_admit.f l cores = some b := ⟨_, rfl⟩
theorem seen_sum {l : List S83} {cores : Int} {D n : Nat} {c rows : List (List Int)} {value : Int} (h : JF l cores D n c rows value) {before ord : List Int} (hb : Bfs n rows 0 before ord) (ht : ((1 + l.length + D : Nat) : Int) ∉ ord) (hlt : value < sumC l l.length) :
    cores * ((sel (seenS l before) D).length : Int) + sumN (fun j => outJ l (sel (seenS l before) D) D (rd (sel (seenJ before) l.length) j).toNat) (sel (seenJ before) l.length).length < sumN (fun j => cost l (rd (sel (seenJ before) l.length) j).toNat) (sel (seenJ before) l.length).length := by
  have hn := h.hn
  have hl := h.jobs.len
  obtain ⟨e1, e2, e3⟩ := h.fi.cut_eq (by omega) (by omega) (by omega) (by omega) hb (by
    have e : (1 + (l.length : Int) + D) = ((1 + l.length + D : Nat) : Int) := by omega
    rw [e]; exact ht)
  rw [h.cut _ e2 (by
    have e : (1 + (l.length : Int) + D).toNat = 1 + l.length + D := by omega
    rw [e] at e3; exact e3)] at e1
  have hJ : ∀ i : Nat, i < l.length → decide (((1 + i : Nat) : Int) ∈ ord) = seenJ before i := fun i hi => by
    unfold seenJ
    exact decide_eq_decide.2 (hb.mem _ (by omega) (by omega))
  have hS : ∀ s : Nat, s < D → decide (((1 + l.length + s : Nat) : Int) ∈ ord) = seenS l before s := fun s hs => by
    unfold seenS
    exact decide_eq_decide.2 (hb.mem _ (by omega) (by omega))
  have hmem : ∀ s : Nat, s < D → ((s : Int) ∈ sel (seenS l before) D ↔ seenS l before s = true) := by
    intro s hs
    rw [sel_mem]
    constructor
    · rintro ⟨a, a1, a2, a3⟩
      have : a = s := by omega
      rw [this] at a2
      exact a2
    · intro q
      exact ⟨s, hs, q, rfl⟩
  have z1 := sumN_ext (f := fun i => if decide (((1 + i : Nat) : Int) ∈ ord) = true then 0 else cost l i) (g := fun i => if seenJ before i = true then 0 else cost l i) l.length (fun i hi => by rw [hJ i hi])
  have z2 := sumN_ext (f := fun i => if decide (((1 + i : Nat) : Int) ∈ ord) = true then sumN (fun s => if win l i s = true ∧ decide (((1 + l.length + s : Nat) : Int) ∈ ord) = false then 1 else 0) D else 0) (g := fun i => if seenJ before i = true then outJ l (sel (seenS l before) D) D i else 0) l.length (fun i hi => by
    rw [hJ i hi]
    have j := h.jobs.ok i hi
    have e : sumN (fun s => if win l i s = true ∧ decide (((1 + l.length + s : Nat) : Int) ∈ ord) = false then (1 : Int) else 0) D = outJ l (sel (seenS l before) D) D i := by
      unfold outJ outW
      refine sumN_ext D (fun s hs => ?_)
      rw [hS s hs]
      unfold win
      have hm := hmem s hs
      have j0 := j.r0
      by_cases hw : (rd_T83 l i).f0 ≤ (s : Int) ∧ (s : Int) < (rd_T83 l i).f1
      · rw [decide_eq_true hw]
        by_cases hq : seenS l before s = true
        · rw [if_neg (fun z => by rw [hq] at z; simp at z), if_neg (fun z => z.2.2 (hm.2 hq))]
        · rw [if_pos ⟨rfl, by simpa using hq⟩, if_pos ⟨by omega, hw.2, fun z => hq (hm.1 z)⟩]
      · rw [decide_eq_false hw, if_neg (fun z => by simp at z), if_neg (fun z => hw ⟨by omega, z.2.1⟩)]
    rw [e])
  have z3 := sumN_ext (f := fun s => if decide (((1 + l.length + s : Nat) : Int) ∈ ord) = true then cores else 0) (g := fun s => cores * (if seenS l before s = true then 1 else 0)) D (fun s hs => by
    rw [hS s hs]
    cases seenS l before s <;> simp)
  rw [z1, z2, z3, sumN_mul, ← (sel_len (seenS l before) D).1] at e1
  have y1 := sel_sum (seenJ before) (fun x => cost l x.toNat) l.length
  have y2 := sel_sum (seenJ before) (fun x => outJ l (sel (seenS l before) D) D x.toNat) l.length
  rw [y1, y2]
  simp only [Int.toNat_natCast]
  have y3 : sumC l l.length = sumN (fun i => if seenJ before i = true then 0 else cost l i) l.length + sumN (fun i => if seenJ before i = true then cost l i else 0) l.length := by
    rw [sumC_eq, ← sumN_add]
    exact sumN_ext _ (fun i hi => by cases seenJ before i <;> simp)
  omega
theorem FlowSchedules : ontimelaw47_FlowSchedules.Pure := by
  intro l cores _ _
  have skip : ∀ k, ontimelaw47_FlowSchedules.j0 (k + 1) l cores true = some true := fun k => by
    rw [ontimelaw47_FlowSchedules.j0, if_pos rfl]; rfl
  have start : (∃ b, (∃ k0, ∀ k, k0 ≤ k → ontimelaw47_valid.f k l cores = some b) ∧ ∃ k, (if b = true then ontimelaw47_FlowSchedules.j0 k l cores (decide ((l.length : Int) > 14)) else ontimelaw47_FlowSchedules.j0 k l cores true) = some true) → ∃ k, ontimelaw47_FlowSchedules.f k l cores = some true := by
    rintro ⟨b, ⟨k0, h0⟩, k, hk⟩
    refine ⟨max k0 k, ?_⟩
    unfold ontimelaw47_FlowSchedules.f
    rw [show ontimelaw47_awake.f = some true from rfl, Option.bind_some, if_pos rfl, h0 _ (by omega), Option.bind_some]
    cases b with
    | false => rw [if_neg (by simp)] at hk ⊢; exact at_rounds (fun k => (ontimelaw47_FlowSchedules.mono_l k).1 _ _ _) (by omega) hk
    | true => rw [if_pos rfl] at hk ⊢; exact at_rounds (fun k => (ontimelaw47_FlowSchedules.mono_l k).1 _ _ _) (by omega) hk
  by_cases c1 : l.length > 1000
  · refine start ⟨false, ?_, 1, by rw [if_neg (by simp)]; exact skip 0⟩
    refine ⟨1, fun k hk => ?_⟩
    obtain ⟨k, rfl⟩ : ∃ j, k = j + 1 := ⟨k - 1, by omega⟩
    unfold ontimelaw47_valid.f
    rw [if_pos (by omega), ontimelaw47_valid.j0, if_pos rfl]
  obtain ⟨kv, hv⟩ := jvalid_ev l cores (by omega)
  obtain ⟨b, hadm⟩ := admit_some l cores
  refine start ⟨b, ⟨kv, fun k hk => by rw [hv k hk, hadm]⟩, ?_⟩
  cases b with
  | false => exact ⟨1, by rw [if_neg (by simp)]; exact skip 0⟩
  | true =>
    suffices hh : ∃ k, ontimelaw47_FlowSchedules.j0 k l cores (decide ((l.length : Int) > 14)) = some true by
      obtain ⟨k, hk⟩ := hh
      exact ⟨k, by rw [if_pos rfl]; exact hk⟩
    by_cases c2 : (l.length : Int) > 14
    · exact ⟨1, by rw [decide_eq_true c2]; exact skip 0⟩
    rw [decide_eq_false c2]
    obtain ⟨hJ, hc⟩ := admit_jobs hadm
    obtain ⟨D, n, c, rows, value, h, ha, before, ord, hs, hb, ht⟩ := jf_of hJ hc
    have hle := h.value_le
    obtain ⟨s1, s2⟩ := schedule_ev h hadm ha
    obtain ⟨w1, w2⟩ := witness_ev h hadm ha hb.len hs
    by_cases hlt : value < sumC l l.length
    · obtain ⟨k1, h1⟩ := s1 hlt
      obtain ⟨k2, h2⟩ := w2 (by omega)
      have hsum := seen_sum h hb ht hlt
      have hD := h.d200
      have hSl := (sel_len (seenS l before) D).2
      have hJl := (sel_len (seenJ before) l.length).2
      obtain ⟨xs, x1, x2, x3⟩ := plain_ev l (by omega)
      have hmul : 0 ≤ cores * ((sel (seenS l before) D).length : Int) ∧ cores * ((sel (seenS l before) D).length : Int) ≤ 800 := by
        have q1 : cores * ((sel (seenS l before) D).length : Int) ≤ 4 * ((sel (seenS l before) D).length : Int) := Int.mul_le_mul_of_nonneg_right hc.2 (Int.natCast_nonneg _)
        exact ⟨Int.mul_nonneg (by omega) (Int.natCast_nonneg _), by omega⟩
      obtain ⟨k3, h3⟩ := fs_l0 h (sel (seenS l before) D) (by omega) (sel_pw _ _) (fun x hx => by
        obtain ⟨a, a1, a2, a3⟩ := (sel_mem _ _ _).1 hx
        omega) (sel (seenJ before) l.length) (sel_pw _ _) (fun x hx => by
        obtain ⟨a, a1, a2, a3⟩ := (sel_mem _ _ _).1 hx
        omega) (by omega) xs x1 x2 x3 (sel (seenJ before) l.length).length 0 0 (cores * ((sel (seenS l before) D).length : Int)) (by omega) (Int.le_refl _) (by omega) hmul.1 (by omega)
      have W := Aside0.mk (wrapI (x := cores * ((sel (seenS l before) D).length : Int)) (by omega) (by omega))
      have e0 : ∀ f : Nat → Int, sumN f 0 = 0 := fun f => rfl
      rw [e0, e0, Int.sub_zero, Int.sub_zero, Int.zero_add, decide_eq_true hsum] at h3
      refine ⟨max k1 (max k2 k3) + 2, ?_⟩
      rw [ontimelaw47_FlowSchedules.j0, if_neg (by simp), h1 _ (by omega), Option.bind_some, h2 _ (by omega), Option.bind_some]
      dsimp only
      rw [if_pos rfl, show (false == true) = false from rfl, ontimelaw47_FlowSchedules.j1, if_neg (by simp), if_neg (by simp), W.out]
      exact at_rounds (fun k => (ontimelaw47_FlowSchedules.mono_l k).2.2.1 _ _ _ _ _ _ _ _ _) (by omega) h3
    · obtain ⟨out, o1, o2, k1, h1⟩ := s2 hlt
      obtain ⟨k2, h2⟩ := w1 (by omega)
      obtain ⟨k3, h3⟩ := sch_ev h (by omega) o1 o2
      refine ⟨max k1 (max k2 k3) + 2, ?_⟩
      rw [ontimelaw47_FlowSchedules.j0, if_neg (by simp), h1 _ (by omega), Option.bind_some, h2 _ (by omega), Option.bind_some]
      dsimp only
      rw [if_pos rfl, show (true == false) = false from rfl, ontimelaw47_FlowSchedules.j1, if_neg (by simp), if_pos rfl, h3 _ (by omega), Option.bind_some, if_pos rfl]
      rfl
end Go.Proofs.Ythdjhgidccmlfaa.Pure
