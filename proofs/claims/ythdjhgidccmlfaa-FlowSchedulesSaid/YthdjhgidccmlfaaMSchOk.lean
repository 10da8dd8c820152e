/- The law's own test of a schedule takes what Schedule returns, and the law's sums over a witness are the two sides of a cut, in plain Lean. Conditions: a list of at most 14 valid jobs, 1 to 4 cores. -/
import Derived.Test.YthdjhgidccmlfaaMWit
import Derived.Test.YthdjhgidccmlfaaMJobs
import Derived.Test.YthdjhgidccmlfaaPx10
namespace Go.Proofs.Ythdjhgidccmlfaa.M
open Go.RowKit Go.Proofs.Ythdjhgidccmlfaa.P Go.Proofs.YthdjhgidccmlfaaW.PrintWords
set_option linter.unusedVariables false
set_option linter.unusedSimpArgs false

section
variable {l : List S83} {cores : Int} {D n : Nat} {c rows : List (List Int)} {value : Int}
theorem getD_app {α : Type} {d : α} (xs : List α) (v : α) (j : Nat) : (xs ++ [v]).getD j d = if j = xs.length then v else xs.getD j d := by
  rw [List.getD_eq_getElem?_getD, List.getD_eq_getElem?_getD]
  by_cases h : j < xs.length
  · rw [if_neg (by omega), List.getElem?_append_left h]
  · rw [List.getElem?_append_right (by omega)]
    by_cases e : j = xs.length
    · rw [if_pos e, e]; simp
    · rw [if_neg e, List.getElem?_eq_none (by simp; omega), List.getElem?_eq_none (by omega)]
theorem drop_rd {xs : List Int} {j : Nat} (h : j < xs.length) : xs.drop j = rd xs j :: xs.drop (j + 1) := by
  rw [List.drop_eq_getElem_cons h, rd_getElem h]
theorem notin_drop {xs : List Int} (h : xs.Pairwise (· < ·)) {j : Nat} (hj : j < xs.length) : rd xs j ∉ xs.drop (j + 1) := by
  intro hm
  have h1 : (xs.drop j).Pairwise (· < ·) := h.sublist (List.drop_sublist _ _)
  rw [drop_rd hj, List.pairwise_cons] at h1
  have := h1.1 _ hm
  omega
theorem sch_l3 (h : JF l cores D n c rows value) (done : List Int) (hd : done.length = l.length) (hc : ∀ i : Nat, i < l.length → rd done i = cost l i) : ∀ d p : Nat, p + d = l.length → ∃ k, ontimelaw47_schedules.l3 k done l (l.length : Int) (p : Int) = some true := by
  have hl := h.jobs.len
  intro d
  induction d with
  | zero => intro p hp; exact ⟨1, by rw [ontimelaw47_schedules.l3, if_neg (by omega)]⟩
  | succ d ih =>
    intro p hp
    obtain ⟨k, hk⟩ := ih (p + 1) (by omega)
    have w : wrap64 ((p : Int) + 1) = ((p + 1 : Nat) : Int) := wrapN (by omega)
    refine ⟨k + 1, ?_⟩
    rw [ontimelaw47_schedules.l3, if_pos (by omega), if_pos (by omega), if_pos (by omega), if_pos (by omega), if_pos (show rd done (p : Int) = (rd_T83 l (p : Int)).f2 from hc p (by omega)), w]
    exact hk
theorem sch_l2 (h : JF l cores D n c rows value) (out : List (List Int)) (t : Nat) (R : List Int) (hR : R = sel (fun i => bit l rows i t) l.length) : ∀ (d j : Nat) (done : List Int), j + d = R.length → done.length = l.length → (∀ i : Nat, i < l.length → 0 ≤ rd done i ∧ rd done i ≤ 200 + j) →
    ∃ done' : List Int, done'.length = l.length ∧ (∀ i : Nat, i < l.length → rd done' i = rd done i + if (i : Int) ∈ R.drop j then 1 else 0) ∧
      ∀ res, (∃ k, ontimelaw47_schedules.l1 k l cores done' out (out.length : Int) (wrap64 ((t : Int) + 1)) = some res) → ∃ k, ontimelaw47_schedules.l2 k l cores done t R out (out.length : Int) t R (R.length : Int) (j : Int) = some res := by
  have hl := h.jobs.len
  have hRl : R.length ≤ l.length := by rw [hR]; exact (sel_len _ _).2
  have hpw : R.Pairwise (· < ·) := by rw [hR]; exact sel_pw _ _
  intro d
  induction d with
  | zero =>
    intro j done hj hd hb
    obtain rfl : j = R.length := by omega
    exact ⟨done, hd, fun i hi => by rw [List.drop_length]; simp, fun res ⟨k, hk⟩ => ⟨k + 1, by rw [ontimelaw47_schedules.l2, if_neg (by omega)]; exact hk⟩⟩
  | succ d ih =>
    intro j done hj hd hb
    have hjl : j < R.length := by omega
    have hmem : rd R (j : Int) ∈ R := rd_mem hjl
    have hdrop := drop_rd hjl
    have hnot := notin_drop hpw hjl
    have hprev : ∀ a : Nat, a + 1 = j → rd R (a : Int) < rd R (j : Int) := fun a ha => pw_lt hpw (by omega) hjl
    have hsel := hmem
    rw [hR] at hsel
    rw [← hR] at hsel
    obtain ⟨i, i1, i2, i3⟩ : ∃ i : Nat, i < l.length ∧ bit l rows i t = true ∧ rd R (j : Int) = (i : Int) := by
      rw [hR] at hmem
      exact (sel_mem _ _ _).1 (by rw [hR]; exact hmem)
    rw [i3] at hdrop hnot hprev
    obtain ⟨b1, b2, _⟩ := bit_iff.1 i2
    have bi := hb i i1
    have W := Aside0.mk (wrapN (i := j) (by omega))
    have W1 := Aside0.mk (wrapI (x := rd done (i : Int) + 1) (by omega) (by omega))
    have W2 := Aside0.mk (wrapI (x := (j : Int) - 1) (by omega) (by omega))
    have hset : ∀ a : Nat, rd (done.set i (rd done (i : Int) + 1)) (a : Int) = if a = i then rd done (i : Int) + 1 else rd done (a : Int) := by
      intro a
      have := rd_set (xs := done) (b := (i : Int)) (v := rd done (i : Int) + 1) (i := (a : Int)) (Int.natCast_nonneg i) (by omega) (Int.natCast_nonneg a)
      rw [Int.toNat_natCast] at this
      rw [this]
      by_cases e : a = i
      · rw [if_pos e, if_pos (by omega)]
      · rw [if_neg e, if_neg (by omega)]
    have key : ∃ done' : List Int, done'.length = l.length ∧ (∀ i : Nat, i < l.length → rd done' i = rd done i + if (i : Int) ∈ R.drop j then 1 else 0) ∧
        ∀ res, (∃ k, ontimelaw47_schedules.l1 k l cores done' out (out.length : Int) (wrap64 ((t : Int) + 1)) = some res) → ∃ k, ontimelaw47_schedules.l2 k l cores (done.set i (rd done (i : Int) + 1)) t R out (out.length : Int) t R (R.length : Int) ((j + 1 : Nat) : Int) = some res := by
        obtain ⟨done', r1, r2, r3⟩ := ih (j + 1) (done.set i (rd done (i : Int) + 1)) (by omega) (by rw [List.length_set]; exact hd) (fun a ha => by
          rw [hset a]
          have := hb a ha
          split <;> omega)
        refine ⟨done', r1, fun a ha => ?_, r3⟩
        rw [r2 a ha, hset a, hdrop]
        by_cases e : a = i
        · subst e
          rw [if_pos rfl, if_neg hnot, if_pos List.mem_cons_self]
          omega
        · rw [if_neg e]
          have : ((a : Int) ∈ (i : Int) :: R.drop (j + 1)) ↔ (a : Int) ∈ R.drop (j + 1) := by
            rw [List.mem_cons]
            constructor
            · rintro (q | q)
              · exact absurd (by omega) e
              · exact q
            · exact .inr
          simp only [this]
    obtain ⟨done', r1, r2, r3⟩ := key
    refine ⟨done', r1, r2, fun res hres => ?_⟩
    obtain ⟨k, hk⟩ := r3 res hres
    refine ⟨k + 1, ?_⟩
    rw [ontimelaw47_schedules.l2, if_pos (by omega), if_pos (by omega), if_pos (by omega), i3, if_neg (by omega), if_neg (by omega), W.out, W1.out, Int.toNat_natCast]
    by_cases j0 : (j : Int) > 0
    · have e2 : (j : Int) - 1 = ((j - 1 : Nat) : Int) := by omega
      have := hprev (j - 1) (by omega)
      rw [if_pos j0, W2.out, e2, if_pos (by omega), if_pos (by omega), if_neg (by omega), if_pos (by omega), if_pos (by omega), if_neg (by omega), if_neg (by omega), if_pos (by omega)]
      exact hk
    · rw [if_neg j0, if_pos (by omega), if_pos (by omega), if_neg (by omega), if_neg (by omega), if_pos (by omega)]
      exact hk
theorem sch_l1 (h : JF l cores D n c rows value) (hfull : sumC l l.length ≤ value) {out : List (List Int)} (ho : out.length = D) (hq : ∀ q : Nat, q < D → rd_L4 out q = sel (fun i => bit l rows i q) l.length) : ∀ (d t : Nat) (done : List Int), t + d = D → done.length = l.length → (∀ i : Nat, i < l.length → rd done i = sumN (fun s => if bit l rows i s = true then 1 else 0) t) →
    ∃ k, ontimelaw47_schedules.l1 k l cores done out (out.length : Int) (t : Int) = some true := by
  have hl := h.jobs.len
  have hD := h.d200
  intro d
  induction d with
  | zero =>
    intro t done ht hd hc
    obtain rfl : t = D := by omega
    obtain ⟨k, hk⟩ := sch_l3 h done hd (fun i hi => by rw [hc i hi, h.full hfull hi]) l.length 0 (by omega)
    refine ⟨k + 1, ?_⟩
    rw [ontimelaw47_schedules.l1, if_neg (by omega)]
    exact hk
  | succ d ih =>
    intro t done ht hd hc
    obtain ⟨R, hR⟩ : ∃ R, R = rd_L4 out (t : Int) := ⟨_, rfl⟩
    have hR2 := hR.trans (hq t (by omega))
    have hb : ∀ i : Nat, i < l.length → 0 ≤ rd done i ∧ rd done i ≤ 200 + ((0 : Nat) : Int) := by
      intro i hi
      rw [hc i hi]
      have h1 := sumN_nonneg (f := fun s => if bit l rows i s = true then 1 else 0) t (fun s _ => by split <;> omega)
      have h2 := sumN_le (f := fun s => if bit l rows i s = true then 1 else 0) (g := fun _ => 1) t (fun s _ => by split <;> omega)
      rw [sumN_const] at h2
      omega
    have hlen : (R.length : Int) ≤ cores := by
      rw [hR2, (sel_len _ _).1]
      exact h.load (by omega)
    obtain ⟨done', r1, r2, r3⟩ := sch_l2 h out t R hR2 R.length 0 done (by omega) hd hb
    obtain ⟨k, hk⟩ := ih (t + 1) done' (by omega) r1 (fun i hi => by
      rw [r2 i hi, hc i hi, List.drop_zero, hR2]
      show _ = sumN (fun s => if bit l rows i s = true then 1 else 0) t + (if bit l rows i t = true then 1 else 0)
      have : (i : Int) ∈ sel (fun i => bit l rows i t) l.length ↔ bit l rows i t = true := by
        rw [sel_mem]
        constructor
        · rintro ⟨a, a1, a2, a3⟩
          have : a = i := by omega
          rw [this] at a2
          exact a2
        · intro hb
          exact ⟨i, hi, hb, rfl⟩
      simp only [this])
    have W := Aside0.mk (wrapN (i := t) (by omega))
    obtain ⟨k2, hk2⟩ := r3 true ⟨k, by rw [W.out]; exact hk⟩
    refine ⟨k2 + 1, ?_⟩
    rw [ontimelaw47_schedules.l1, if_pos (by omega), if_pos (by omega), if_pos (by omega), ← hR, if_neg (by omega)]
    exact hk2
theorem sch_l0 (h : JF l cores D n c rows value) (out : List (List Int)) : ∀ d p : Nat, p + d = l.length → ∀ res, (∃ k, ontimelaw47_schedules.l0 k l cores out (maxD l l.length) l (l.length : Int) (l.length : Int) = some res) → ∃ k, ontimelaw47_schedules.l0 k l cores out (maxD l p) l (l.length : Int) (p : Int) = some res := by
  have hl := h.jobs.len
  intro d
  induction d with
  | zero =>
    intro p hp res hres
    obtain rfl : p = l.length := by omega
    exact hres
  | succ d ih =>
    intro p hp res hres
    obtain ⟨k, hk⟩ := ih (p + 1) (by omega) res hres
    have W := Aside0.mk (wrapN (i := p) (by omega))
    refine ⟨k + 1, ?_⟩
    rw [ontimelaw47_schedules.l0, if_pos (by omega), if_pos (by omega), if_pos (by omega), W.out]
    exact hk
/-- The law's test takes the schedule. -/
theorem sch_ev (h : JF l cores D n c rows value) (hfull : sumC l l.length ≤ value) {out : List (List Int)} (ho : out.length = D) (hq : ∀ q : Nat, q < D → rd_L4 out q = sel (fun i => bit l rows i q) l.length) :
    ∃ k0, ∀ k, k0 ≤ k → ontimelaw47_schedules.f k l cores out = some true := by
  have hl := h.jobs.len
  have hD := h.hD
  refine ev_of (fun k => ontimelaw47_schedules.mono l cores out k) ?_
  obtain ⟨k, hk⟩ := sch_l1 h hfull ho hq D 0 (List.replicate l.length 0) (by omega) (by simp) (fun i hi => gD_rep _ (Int.natCast_nonneg i) (Int.ofNat_lt.2 hi))
  obtain ⟨k2, hk2⟩ := sch_l0 h out l.length 0 (by omega) true ⟨k + 1, by
    rw [ontimelaw47_schedules.l0, if_neg (by omega), if_pos (by omega), if_pos (by omega), Int.toNat_natCast, if_pos (by omega)]
    exact hk⟩
  exact ⟨k2, hk2⟩
/-! ### the witness -/
theorem win_l1 (slots : List Int) (hs : slots.length ≤ 1000) (n t f0 f1 f2 : Int) : ∀ (d j : Nat) (b : Bool), j + d = slots.length → ∀ res,
    (∃ k, ontimeref47_Window.l0 k slots (if b = true ∨ t ∈ slots.drop j then n else wrap64 (n + 1)) (wrap64 (t + 1)) f0 f1 f2 = some res) → ∃ k, ontimeref47_Window.l1 k slots n t b (j : Int) f0 f1 f2 = some res := by
  intro d
  induction d with
  | zero =>
    intro j b hj res hres
    obtain rfl : j = slots.length := by omega
    obtain ⟨k, hk⟩ := hres
    rw [List.drop_length] at hk
    refine ⟨k + 1, ?_⟩
    rw [ontimeref47_Window.l1, if_neg (by omega)]
    cases b with
    | true => rw [if_pos (.inl rfl)] at hk; rw [if_pos rfl]; exact hk
    | false => rw [if_neg (by simp)] at hk; rw [if_neg (by simp)]; exact hk
  | succ d ih =>
    intro j b hj res hres
    have W := Aside0.mk (wrapN (i := j) (by omega))
    have hjl : j < slots.length := by omega
    rw [drop_rd hjl] at hres
    by_cases e : rd slots (j : Int) = t
    · obtain ⟨k, hk⟩ := ih (j + 1) true (by omega) res (by
        rw [if_pos (.inl rfl)]
        rw [if_pos (.inr (by rw [e]; exact List.mem_cons_self))] at hres
        exact hres)
      refine ⟨k + 1, ?_⟩
      rw [ontimeref47_Window.l1, if_pos (by omega), if_pos (by omega), if_pos e, W.out]
      exact hk
    · obtain ⟨k, hk⟩ := ih (j + 1) b (by omega) res (by
        have : (t ∈ rd slots (j : Int) :: slots.drop (j + 1)) ↔ t ∈ slots.drop (j + 1) := by
          rw [List.mem_cons]
          exact ⟨fun q => q.resolve_left (fun z => e z.symm), .inr⟩
        simp only [this] at hres
        exact hres)
      refine ⟨k + 1, ?_⟩
      rw [ontimeref47_Window.l1, if_pos (by omega), if_pos (by omega), if_neg e, W.out]
      exact hk
/-- The slots of a window that are not in a list, from one on. -/
def outW (slots : List Int) (f1 : Int) (D a : Nat) : Int := sumN (fun s => if a ≤ s ∧ (s : Int) < f1 ∧ (s : Int) ∉ slots then 1 else 0) D
theorem outW_b (slots : List Int) (f1 : Int) (D a : Nat) : 0 ≤ outW slots f1 D a ∧ outW slots f1 D a ≤ D := by
  unfold outW
  have h1 := sumN_nonneg (f := fun s => if a ≤ s ∧ (s : Int) < f1 ∧ (s : Int) ∉ slots then 1 else 0) D (fun s _ => by split <;> omega)
  have h2 := sumN_le (f := fun s => if a ≤ s ∧ (s : Int) < f1 ∧ (s : Int) ∉ slots then 1 else 0) (g := fun _ => 1) D (fun s _ => by split <;> omega)
  rw [sumN_const] at h2
  omega
theorem outW_step (slots : List Int) (f1 : Int) (D a : Nat) (ha : a < D) (hf : (a : Int) < f1) : outW slots f1 D a = (if (a : Int) ∈ slots then 0 else 1) + outW slots f1 D (a + 1) := by
  unfold outW
  have e : ∀ s : Nat, s < D → (if a ≤ s ∧ (s : Int) < f1 ∧ (s : Int) ∉ slots then (1 : Int) else 0) = (if s = a then (if (a : Int) ∈ slots then 0 else 1) else 0) + (if a + 1 ≤ s ∧ (s : Int) < f1 ∧ (s : Int) ∉ slots then 1 else 0) := by
    intro s hs
    by_cases e : s = a
    · subst e
      rw [if_pos rfl, if_neg (show ¬ (s + 1 ≤ s ∧ (s : Int) < f1 ∧ (s : Int) ∉ slots) from fun z => by omega)]
      by_cases hm : (s : Int) ∈ slots
      · rw [if_neg (fun z => z.2.2 hm), if_pos hm]; rfl
      · rw [if_pos ⟨Nat.le_refl _, hf, hm⟩, if_neg hm]; rfl
    · rw [if_neg e]
      by_cases hs2 : a + 1 ≤ s ∧ (s : Int) < f1 ∧ (s : Int) ∉ slots
      · rw [if_pos hs2, if_pos ⟨by omega, hs2.2⟩]; rfl
      · rw [if_neg hs2, if_neg (fun z => hs2 ⟨by omega, z.2⟩)]; rfl
  rw [sumN_ext D e, sumN_add, sumN_single, if_pos ha]
theorem outW_end (slots : List Int) (f1 : Int) (D a : Nat) (hf : f1 ≤ a) : outW slots f1 D a = 0 := by
  unfold outW
  exact sumN_zero' D (fun s _ => by rw [if_neg (fun z => by omega)])
theorem win_l0 (slots : List Int) (hs : slots.length ≤ 1000) (D : Nat) (hD : D ≤ 1000) (f0 f1 f2 : Int) (h1 : f1 ≤ D) : ∀ (d a : Nat) (m : Int), (f1 - a).toNat = d → (a : Int) ≤ f1 → 0 ≤ m → m + (f1 - a) ≤ 1000 → ∃ k, ontimeref47_Window.l0 k slots m (a : Int) f0 f1 f2 = some (m + outW slots f1 D a) := by
  intro d
  induction d with
  | zero =>
    intro a m hd ha _ _
    refine ⟨1, ?_⟩
    rw [ontimeref47_Window.l0, if_neg (by omega), outW_end slots f1 D a (by omega), Int.add_zero]
  | succ d ih =>
    intro a m hd ha m0 m1
    have W := Aside0.mk (wrapN (i := a) (by omega))
    have W1 := Aside0.mk (wrapI (x := m + 1) (by omega) (by omega))
    have hst := outW_step slots f1 D a (by omega) (by omega)
    obtain ⟨m', hm'⟩ : ∃ m', m' = m + (if (a : Int) ∈ slots then 0 else 1) := ⟨_, rfl⟩
    have hm0 : 0 ≤ m' ∧ m' ≤ m + 1 := by rw [hm']; split <;> omega
    obtain ⟨k, hk⟩ := ih (a + 1) m' (by omega) (by omega) hm0.1 (by omega)
    obtain ⟨k2, hk2⟩ := win_l1 slots hs m a f0 f1 f2 slots.length 0 false (by omega) (m + outW slots f1 D a) ⟨k, by
      have e : (if false = true ∨ (a : Int) ∈ slots.drop 0 then m else wrap64 (m + 1)) = m' := by
        rw [W1.out, hm', List.drop_zero]
        by_cases q : (a : Int) ∈ slots
        · rw [if_pos (.inr q), if_pos q, Int.add_zero]
        · rw [if_neg (fun z => z.elim (by simp) q), if_neg q]
      rw [e, W.out, hk, hst, hm', Int.add_assoc]⟩
    refine ⟨k2 + 1, ?_⟩
    rw [ontimeref47_Window.l0, if_pos (by omega)]
    exact hk2
/-- The jobs as the reference's. -/
theorem plain_ev (l : List S83) (hl : l.length ≤ 1000) : ∃ xs : List S85, xs.length = l.length ∧ (∀ i : Nat, i < l.length → rd_T85 xs i = ⟨(rd_T83 l i).f0, (rd_T83 l i).f1, (rd_T83 l i).f2⟩) ∧ ∃ k0, ∀ k, k0 ≤ k → ontimelaw47_plain.f k l = some xs := by
  have go : ∀ (d p : Nat) (xs : List S85), p + d = l.length → xs.length = p → (∀ i : Nat, i < p → rd_T85 xs i = ⟨(rd_T83 l i).f0, (rd_T83 l i).f1, (rd_T83 l i).f2⟩) →
      ∃ xs' : List S85, xs'.length = l.length ∧ (∀ i : Nat, i < l.length → rd_T85 xs' i = ⟨(rd_T83 l i).f0, (rd_T83 l i).f1, (rd_T83 l i).f2⟩) ∧ ∃ k, ontimelaw47_plain.l0 k xs l (l.length : Int) p = some xs' := by
    intro d
    induction d with
    | zero =>
      intro p xs hp hx hi
      obtain rfl : p = l.length := by omega
      exact ⟨xs, hx, hi, 1, by rw [ontimelaw47_plain.l0, if_neg (by omega)]⟩
    | succ d ih =>
      intro p xs hp hx hi
      have W := Aside0.mk (wrapN (i := p) (by omega))
      obtain ⟨xs', r1, r2, k, hk⟩ := ih (p + 1) (xs ++ [⟨(rd_T83 l p).f0, (rd_T83 l p).f1, (rd_T83 l p).f2⟩]) (by omega) (by simp [hx]) (fun i h => by
        unfold rd_T85
        rw [Int.toNat_natCast, getD_app]
        by_cases e : i = p
        · rw [if_pos (by omega), e]
        · rw [if_neg (by omega)]
          have := hi i (by omega)
          unfold rd_T85 at this
          rw [Int.toNat_natCast] at this
          exact this)
      refine ⟨xs', r1, r2, k + 1, ?_⟩
      rw [ontimelaw47_plain.l0, if_pos (by omega), if_pos (by omega), if_pos (by omega), if_pos (by omega), W.out]
      exact hk
  obtain ⟨xs, h1, h2, k, hk⟩ := go l.length 0 [] (by omega) rfl (fun i h => by omega)
  exact ⟨xs, h1, h2, ev_of (fun k => ontimelaw47_plain.mono l k) ⟨k, hk⟩⟩
/-- The slots of job i's window that are not in a list. -/
def outJ (l : List S83) (slots : List Int) (D i : Nat) : Int := outW slots (rd_T83 l i).f1 D (rd_T83 l i).f0.toNat
theorem window_ev (h : JF l cores D n c rows value) (slots : List Int) (hs : slots.length ≤ 1000) {i : Nat} (hi : i < l.length) :
    ∃ k0, ∀ k, k0 ≤ k → ontimeref47_Window.f k (rd_T83 l i).f0 (rd_T83 l i).f1 (rd_T83 l i).f2 slots = some (outJ l slots D i) := by
  refine ev_of (fun k => ontimeref47_Window.mono _ _ _ _ k) ?_
  have j := h.jobs.ok i hi
  have := j.r0
  have := j.rd
  have := j.d1
  have hD := h.d200
  obtain ⟨k, hk⟩ := win_l0 slots hs D (by omega) (rd_T83 l i).f0 (rd_T83 l i).f1 (rd_T83 l i).f2 (h.f1 hi) _ (rd_T83 l i).f0.toNat 0 rfl (by omega) (by omega) (by omega)
  refine ⟨k, ?_⟩
  unfold ontimeref47_Window.f
  rw [Int.zero_add, Int.toNat_of_nonneg j.r0] at hk
  exact hk
theorem fs_l1 (slots : List Int) (need have_ : Int) (hs : slots.length ≤ 1000) (hpw : slots.Pairwise (· < ·)) (hr : ∀ x ∈ slots, 0 ≤ x ∧ x < 200) : ∀ d p : Nat, p + d = slots.length → ∃ k, ontimelaw47_FlowSchedules.l1 k [] slots need have_ slots (slots.length : Int) (p : Int) = some (decide (need > have_)) := by
  intro d
  induction d with
  | zero => intro p hp; exact ⟨1, by rw [ontimelaw47_FlowSchedules.l1, if_neg (by omega), if_pos (show (([] : List (List Int)).length : Int) = 0 from rfl)]⟩
  | succ d ih =>
    intro p hp
    obtain ⟨k, hk⟩ := ih (p + 1) (by omega)
    have hpl : p < slots.length := by omega
    have hm := hr _ (rd_mem hpl)
    have W := Aside0.mk (wrapN (i := p) (by omega))
    have W2 := Aside0.mk (wrapI (x := (p : Int) - 1) (by omega) (by omega))
    refine ⟨k + 1, ?_⟩
    rw [ontimelaw47_FlowSchedules.l1, if_pos (by omega), if_pos (by omega), if_pos (by omega), if_neg (by omega), if_neg (by omega), W.out]
    by_cases p0 : (p : Int) > 0
    · have e2 : (p : Int) - 1 = ((p - 1 : Nat) : Int) := by omega
      have := pw_lt hpw (show p - 1 < p by omega) hpl
      rw [if_pos p0, W2.out, e2, if_pos (by omega), if_pos (by omega), if_neg (by omega)]
      exact hk
    · rw [if_neg p0]
      exact hk
theorem fs_l0 (h : JF l cores D n c rows value) (slots : List Int) (hs : slots.length ≤ 200) (hspw : slots.Pairwise (· < ·)) (hsr : ∀ x ∈ slots, 0 ≤ x ∧ x < 200) (jobs : List Int) (hpw : jobs.Pairwise (· < ·)) (hjr : ∀ x ∈ jobs, 0 ≤ x ∧ x < l.length) (hjl : jobs.length ≤ 100) (xs : List S85) (hx : xs.length = l.length)
    (hxs : ∀ i : Nat, i < l.length → rd_T85 xs i = ⟨(rd_T83 l i).f0, (rd_T83 l i).f1, (rd_T83 l i).f2⟩) (hxe : ∃ k0, ∀ k, k0 ≤ k → ontimelaw47_plain.f k l = some xs) : ∀ (d p : Nat) (need have_ : Int), p + d = jobs.length → 0 ≤ need → need ≤ 1000 * p → 0 ≤ have_ → have_ ≤ 1000 + 1000 * p →
    ∃ k, ontimelaw47_FlowSchedules.l0 k l [] jobs slots need have_ jobs (jobs.length : Int) (p : Int) = some (decide (need + (sumN (fun j => cost l (rd jobs j).toNat) jobs.length - sumN (fun j => cost l (rd jobs j).toNat) p) > have_ + (sumN (fun j => outJ l slots D (rd jobs j).toNat) jobs.length - sumN (fun j => outJ l slots D (rd jobs j).toNat) p))) := by
  have hl := h.jobs.len
  have hD := h.d200
  intro d
  induction d with
  | zero =>
    intro p need have_ hp n0 n1 h0 h1
    obtain rfl : p = jobs.length := by omega
    obtain ⟨k, hk⟩ := fs_l1 slots need have_ (by omega) hspw hsr slots.length 0 (by omega)
    refine ⟨k + 1, ?_⟩
    rw [ontimelaw47_FlowSchedules.l0, if_neg (by omega), Int.sub_self, Int.sub_self, Int.add_zero, Int.add_zero]
    exact hk
  | succ d ih =>
    intro p need have_ hp n0 n1 h0 h1
    have hpl : p < jobs.length := by omega
    have hm := hjr _ (rd_mem hpl)
    obtain ⟨i, hi⟩ := Int.eq_ofNat_of_zero_le hm.1
    have hil : i < l.length := by omega
    have j := h.jobs.ok i hil
    have hc0 : 0 ≤ cost l i ∧ cost l i ≤ 200 := ⟨j.c0, j.c1⟩
    have ho0 := outW_b slots (rd_T83 l i).f1 D (rd_T83 l i).f0.toNat
    have ho : 0 ≤ outJ l slots D i ∧ outJ l slots D i ≤ 200 := ⟨ho0.1, Int.le_trans ho0.2 (by omega)⟩
    obtain ⟨kx, hkx⟩ := hxe
    obtain ⟨kw, hkw⟩ := window_ev h slots (by omega) hil
    have W := Aside0.mk (wrapN (i := p) (by omega))
    have W2 := Aside0.mk (wrapI (x := (p : Int) - 1) (by omega) (by omega))
    have W3 := Aside0.mk (wrapI (x := need + cost l i) (by omega) (by omega))
    have W4 := Aside0.mk (wrapI (x := have_ + outJ l slots D i) (by omega) (by omega))
    obtain ⟨k, hk⟩ := ih (p + 1) (need + cost l i) (have_ + outJ l slots D i) (by omega) (by omega) (by omega) (by omega) (by omega)
    have e1 : sumN (fun j => cost l (rd jobs j).toNat) (p + 1) = sumN (fun j => cost l (rd jobs j).toNat) p + cost l i := by
      show _ + cost l (rd jobs (p : Int)).toNat = _
      rw [hi, Int.toNat_natCast]
    have e2 : sumN (fun j => outJ l slots D (rd jobs j).toNat) (p + 1) = sumN (fun j => outJ l slots D (rd jobs j).toNat) p + outJ l slots D i := by
      show _ + outJ l slots D (rd jobs (p : Int)).toNat = _
      rw [hi, Int.toNat_natCast]
    rw [e1, e2] at hk
    have e3 : ∀ a b c d e f : Int, decide (a + e + (b - (c + e)) > d + f) = decide (a + (b - c) > d + f) := fun a b c d e f => by
      rw [show a + e + (b - (c + e)) = a + (b - c) by omega]
    have e4 : ∀ a b c d e : Int, decide (a > d + e + (b - (c + e))) = decide (a > d + (b - c)) := fun a b c d e => by
      rw [show d + e + (b - (c + e)) = d + (b - c) by omega]
    rw [e4, show need + cost l i + (sumN (fun j => cost l (rd jobs j).toNat) jobs.length - (sumN (fun j => cost l (rd jobs j).toNat) p + cost l i)) = need + (sumN (fun j => cost l (rd jobs j).toNat) jobs.length - sumN (fun j => cost l (rd jobs j).toNat) p) by omega] at hk
    have hj3 : ∃ k, ontimelaw47_FlowSchedules.j3 k l [] jobs slots need have_ (i : Int) jobs (jobs.length : Int) (p : Int) false = some (decide (need + (sumN (fun j => cost l (rd jobs j).toNat) jobs.length - sumN (fun j => cost l (rd jobs j).toNat) p) > have_ + (sumN (fun j => outJ l slots D (rd jobs j).toNat) jobs.length - sumN (fun j => outJ l slots D (rd jobs j).toNat) p))) := by
      refine ⟨max k (max kx kw) + 1, ?_⟩
      rw [ontimelaw47_FlowSchedules.j3, if_neg (by simp), if_pos (by omega), if_pos (by omega), hkx _ (by omega), Option.bind_some, if_pos (by omega), hxs i hil]
      dsimp only
      rw [hkw _ (by omega), Option.bind_some, show (rd_T83 l (i : Int)).f2 = cost l i from rfl, W3.out, W4.out, W.out]
      exact at_rounds (fun k => (ontimelaw47_FlowSchedules.mono_l k).2.2.1 _ _ _ _ _ _ _ _ _) (by omega) hk
    obtain ⟨k3, hk3⟩ := hj3
    refine ⟨k3 + 1, ?_⟩
    rw [ontimelaw47_FlowSchedules.l0, if_pos (by omega), if_pos (by omega), if_pos (by omega), hi]
    rw [if_neg (show ¬ (i : Int) < 0 by omega), if_neg (show ¬ (i : Int) ≥ (l.length : Int) by omega)]
    by_cases p0 : (p : Int) > 0
    · have e5 : (p : Int) - 1 = ((p - 1 : Nat) : Int) := by omega
      have := pw_lt hpw (show p - 1 < p by omega) hpl
      rw [if_pos p0, W2.out, e5, if_pos (by omega), if_pos (by omega), decide_eq_false (by omega)]
      exact hk3
    · rw [if_neg p0]
      exact hk3
end
end Go.Proofs.Ythdjhgidccmlfaa.M
