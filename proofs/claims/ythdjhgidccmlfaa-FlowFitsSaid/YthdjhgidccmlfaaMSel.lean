/- What Schedule and Witness return for valid jobs, in plain Lean. Conditions: a list of valid jobs, 1 to 4 cores. -/
import Derived.Test.YthdjhgidccmlfaaMSched
import Derived.Test.YthdjhgidccmlfaaXSchedule
import Derived.Test.YthdjhgidccmlfaaPx4
namespace Go.Proofs.Ythdjhgidccmlfaa.M
open Go.RowKit Go.Proofs.Ythdjhgidccmlfaa.P Go.Proofs.YthdjhgidccmlfaaW.PrintWords
set_option linter.unusedVariables false
set_option linter.unusedSimpArgs false

/-- The numbers below p that have a property, in order. -/
def sel (P : Nat → Bool) : Nat → List Int
  | 0 => []
  | p + 1 => if P p = true then sel P p ++ [(p : Int)] else sel P p
theorem sel_mem (P : Nat → Bool) (x : Int) : ∀ p, x ∈ sel P p ↔ ∃ i : Nat, i < p ∧ P i = true ∧ x = (i : Int)
  | 0 => ⟨fun h => by simp [sel] at h, fun ⟨i, h, _⟩ => by omega⟩
  | p + 1 => by
    have ih := sel_mem P x p
    unfold sel
    split
    · rename_i hp
      rw [List.mem_append, ih, List.mem_singleton]
      constructor
      · rintro (⟨i, h1, h2, h3⟩ | h)
        · exact ⟨i, by omega, h2, h3⟩
        · exact ⟨p, by omega, hp, h⟩
      · rintro ⟨i, h1, h2, h3⟩
        by_cases e : i = p
        · right; rw [h3, e]
        · left; exact ⟨i, by omega, h2, h3⟩
    · rename_i hp
      rw [ih]
      constructor
      · rintro ⟨i, h1, h2, h3⟩
        exact ⟨i, by omega, h2, h3⟩
      · rintro ⟨i, h1, h2, h3⟩
        by_cases e : i = p
        · rw [e] at h2; exact absurd h2 hp
        · exact ⟨i, by omega, h2, h3⟩
theorem sel_pw (P : Nat → Bool) : ∀ p, (sel P p).Pairwise (· < ·)
  | 0 => by simp [sel]
  | p + 1 => by
    unfold sel
    split
    · rw [List.pairwise_append]
      refine ⟨sel_pw P p, by simp, fun a ha b hb => ?_⟩
      rw [List.mem_singleton] at hb
      obtain ⟨i, h1, _, h3⟩ := (sel_mem P a p).1 ha
      omega
    · exact sel_pw P p
theorem sel_len (P : Nat → Bool) : ∀ p, ((sel P p).length : Int) = sumN (fun i => if P i = true then 1 else 0) p ∧ (sel P p).length ≤ p
  | 0 => by simp [sel, sumN]
  | p + 1 => by
    obtain ⟨h1, h2⟩ := sel_len P p
    unfold sel sumN
    split
    · rw [List.length_append, List.length_singleton]
      omega
    · omega
theorem rd_app (xs : List Int) (v : Int) (j : Nat) : rd (xs ++ [v]) j = if j = xs.length then v else rd xs j := by
  unfold rd
  rw [Int.toNat_natCast, List.getD_eq_getElem?_getD, List.getD_eq_getElem?_getD]
  by_cases h : j < xs.length
  · rw [if_neg (by omega), List.getElem?_append_left h]
  · rw [List.getElem?_append_right (by omega)]
    by_cases e : j = xs.length
    · rw [if_pos e, e]; simp
    · rw [if_neg e, List.getElem?_eq_none (by simp; omega), List.getElem?_eq_none (by omega)]
theorem sel_sum (P : Nat → Bool) (g : Int → Int) : ∀ p, sumN (fun j => g (rd (sel P p) j)) (sel P p).length = sumN (fun i => if P i = true then g i else 0) p
  | 0 => by simp [sel, sumN]
  | p + 1 => by
    have ih := sel_sum P g p
    unfold sel
    by_cases h : P p = true
    · rw [if_pos h, List.length_append, List.length_singleton]
      show sumN _ (sel P p).length + _ = _
      rw [sumN_ext (g := fun j => g (rd (sel P p) j)) (sel P p).length (fun j hj => by rw [rd_app, if_neg (by omega)]), ih]
      show _ + g (rd (sel P p ++ [(p : Int)]) ((sel P p).length : Int)) = sumN (fun i => if P i = true then g i else 0) p + (if P p = true then g p else 0)
      rw [rd_app, if_pos rfl, if_pos h]
    · rw [if_neg h, ih]
      show _ = sumN (fun i => if P i = true then g i else 0) p + (if P p = true then g p else 0)
      rw [if_neg h]
      omega
theorem rd_mem {xs : List Int} {j : Nat} (h : j < xs.length) : rd xs j ∈ xs := gD_mem (by omega) (by omega)
theorem rd_getElem {xs : List Int} {j : Nat} (h : j < xs.length) : rd xs j = xs[j] := by
  unfold rd
  rw [Int.toNat_natCast, List.getD_eq_getElem?_getD, List.getElem?_eq_getElem h]
  rfl
theorem pw_lt {xs : List Int} (h : xs.Pairwise (· < ·)) {i j : Nat} (hij : i < j) (hj : j < xs.length) : rd xs i < rd xs j := by
  rw [rd_getElem hj, rd_getElem (by omega)]
  exact List.pairwise_iff_getElem.1 h i j (by omega) hj hij
theorem Bfs.sub {n : Nat} {rows : List (List Int)} {s : Int} {b1 o1 b2 o2 : List Int} (h1 : Bfs n rows s b1 o1) (h2 : Bfs n rows s b2 o2) : ∀ (m : Nat) (l1 : List Int) (v : Int) (l2 : List Int), l1.length ≤ m → o2 = l1 ++ v :: l2 → v ∈ o1 := by
  intro m
  induction m with
  | zero =>
    intro l1 v l2 hm ho
    rcases h2.par l1 v l2 ho with e | ⟨hu, _⟩
    · obtain ⟨q, hq⟩ := h1.head
      rw [hq, e]
      simp
    · have e0 : l1 = [] := List.eq_nil_of_length_eq_zero (by omega)
      rw [e0] at hu
      simp at hu
  | succ m ih =>
    intro l1 v l2 hm ho
    rcases h2.par l1 v l2 ho with e | ⟨hu, hp⟩
    · obtain ⟨q, hq⟩ := h1.head
      rw [hq, e]
      simp
    · obtain ⟨a, b, hab⟩ := List.append_of_mem hu
      have h3 := ih a (rd b2 v) (b ++ v :: l2) (by rw [hab] at hm; simp at hm; omega) (by rw [ho, hab]; simp)
      have hv := h2.rng v (by rw [ho]; simp)
      exact h1.closed _ h3 v hv.1 hv.2 hp
theorem jf_of {l : List S83} {cores : Int} (hJ : Jobs l) (hc : 1 ≤ cores ∧ cores ≤ 4) : ∃ (D n : Nat) (c rows : List (List Int)) (value : Int), JF l cores D n c rows value ∧ (∃ k0, ∀ k, k0 ≤ k → flow_assign.f k l cores = some ((l.length : Int), (D : Int), sumC l l.length, value, rows)) ∧ ∃ before ord, (∃ k0, ∀ k, k0 ≤ k → flow_network_search.f k rows 0 = some before) ∧ Bfs n rows 0 before ord ∧ ((1 + l.length + D : Nat) : Int) ∉ ord := by
  obtain ⟨n, c, rows, value, hn, hnet, hcap, hf, hfi, before, ord, hb, ht⟩ := assign_ev (cores := cores) hJ hc
  obtain ⟨m0, m1, m2⟩ := maxD_b hJ l.length (Nat.le_refl _)
  obtain ⟨D, hD⟩ : ∃ D : Nat, (D : Int) = maxD l l.length := ⟨(maxD l l.length).toNat, by omega⟩
  rw [← hD] at hn hcap hf hfi ht
  have hl := hJ.len
  obtain ⟨b2, o2, hs, hb2⟩ := search_ev (s := 0) hfi.sq (by omega) (by omega) (by omega)
  refine ⟨D, n, c, rows, value, ⟨hJ, by omega, hD, hnet, hcap, hfi, by omega⟩, hf, b2, o2, hs, hb2, fun hm => ht ?_⟩
  obtain ⟨a, b, hab⟩ := List.append_of_mem hm
  have := hb.sub hb2 a.length a _ b (Nat.le_refl _) hab
  have e : ((1 + l.length + D : Nat) : Int) = 1 + (l.length : Int) + D := by omega
  rw [e] at this
  exact this
section
variable {l : List S83} {cores : Int} {D n : Nat} {c rows : List (List Int)} {value : Int}
theorem srow_ev (h : JF l cores D n c rows value) {i : Nat} (hi : i < l.length) (dl : Int) (hdl : dl ≤ D) : ∀ (d : Nat) (s : Int) (out : List (List Int)), 0 ≤ s → s ≤ dl → (dl - s).toNat = d → out.length = D → (∀ q : Nat, s ≤ q → q < D → (rd_L4 out q).length ≤ 100) →
    ∃ out' : List (List Int), out'.length = D ∧ (∀ q : Nat, q < D → rd_L4 out' q = if s ≤ q ∧ (q : Int) < dl ∧ en rows ((1 + i : Nat) : Int) ((1 + l.length + q : Nat) : Int) = 0 then rd_L4 out q ++ [(i : Int)] else rd_L4 out q) ∧ ∀ k, d ≤ k → schedRow rows (l.length : Int) i dl k s out = some out' := by
  have hl := h.jobs.len
  have hn := h.hn
  have hD := h.hD
  have hD2 := (maxD_b h.jobs l.length (Nat.le_refl _)).2.1
  have e1 : ((1 + i : Nat) : Int) = 1 + (i : Int) := by omega
  have e2 : ∀ q : Nat, ((1 + l.length + q : Nat) : Int) = 1 + (l.length : Int) + q := fun q => by omega
  have HROW := Aside0.mk (h.fi.sq.2 (1 + (i : Int)) (by omega) (by omega))
  have hrl := h.fi.sq.1
  have W1 : Aside0 (wrap64 (1 + (i : Int)) = 1 + i) := ⟨wrapI (by omega) (by omega)⟩
  have W2 : Aside0 (wrap64 (1 + (l.length : Int)) = 1 + l.length) := ⟨wrapI (by omega) (by omega)⟩
  intro d
  induction d with
  | zero =>
    intro s out s0 s1 hd ho hle
    refine ⟨out, ho, fun q hq => by rw [if_neg (by omega)], fun k hk => ?_⟩
    cases k with
    | zero => rw [schedRow, if_neg (by omega)]
    | succ k => rw [schedRow, if_neg (by omega)]
  | succ d ih =>
    intro s out s0 s1 hd ho hle
    obtain ⟨t, rfl⟩ := Int.eq_ofNat_of_zero_le s0
    have tdl : (t : Int) < dl := by omega
    have tD : (t : Int) < (D : Int) := Int.lt_of_lt_of_le tdl hdl
    have tO : (t : Int) < (out.length : Int) := by rw [ho]; exact tD
    have hlt := hle t (Int.le_refl _) (by omega)
    have W3 : Aside0 (wrap64 (1 + (l.length : Int) + t) = 1 + l.length + t) := ⟨wrapI (by omega) (by omega)⟩
    have W4 : Aside0 (wrap64 ((t : Int) + 1) = t + 1) := ⟨wrapI (by omega) (by omega)⟩
    have hcond : 0 ≤ 1 + (i : Int) ∧ 1 + (i : Int) < (n : Int) ∧ 0 ≤ 1 + (l.length : Int) + t ∧ 1 + (l.length : Int) + t < (n : Int) ∧ 0 ≤ (t : Int) ∧ (t : Int) < (out.length : Int) ∧ (rd_L4 out t).length < 1000000 := ⟨by omega, by omega, by omega, by omega, by omega, tO, by omega⟩
    obtain ⟨o, hoe⟩ : ∃ o, o = (if rd (rd_L4 rows (1 + (i : Int))) (1 + (l.length : Int) + t) = 0 then out.set (t : Int).toNat (rd_L4 out t ++ [(i : Int)]) else out) := ⟨_, rfl⟩
    have ol : o.length = D := by
      rw [hoe]
      by_cases e : rd (rd_L4 rows (1 + (i : Int))) (1 + (l.length : Int) + t) = 0
      · rw [if_pos e, List.length_set, ho]
      · rw [if_neg e, ho]
    have oq : ∀ q : Nat, rd_L4 o q = if q = t ∧ en rows ((1 + i : Nat) : Int) ((1 + l.length + q : Nat) : Int) = 0 then rd_L4 out q ++ [(i : Int)] else rd_L4 out q := by
      intro q
      rw [e1, e2 q]
      unfold en
      rw [hoe]
      by_cases e : rd (rd_L4 rows (1 + (i : Int))) (1 + (l.length : Int) + t) = 0
      · have hs : rd_L4 (out.set (t : Int).toNat (rd_L4 out t ++ [(i : Int)])) (q : Int) = if (q : Int) = (t : Int) then rd_L4 out t ++ [(i : Int)] else rd_L4 out q := rd4_set (Int.natCast_nonneg t) tO (Int.natCast_nonneg q)
        rw [if_pos e, hs]
        by_cases eq : q = t
        · rw [if_pos (by omega), eq, if_pos ⟨rfl, e⟩]
        · rw [if_neg (by omega), if_neg (fun z => eq z.1)]
      · rw [if_neg e]
        by_cases eq : q = t
        · rw [eq, if_neg (fun z => e z.2)]
        · rw [if_neg (fun z => eq z.1)]
    obtain ⟨out', r1, r2, r3⟩ := ih (t + 1) o (by omega) (by omega) (by omega) ol (fun q hq hq2 => by
      rw [oq, if_neg (fun z => by omega)]
      exact hle q (by omega) hq2)
    refine ⟨out', r1, fun q hq => ?_, fun k hk => ?_⟩
    · rw [r2 q hq, oq q]
      by_cases eq : q = t
      · rw [if_neg (by omega), eq]
        by_cases ez : en rows ((1 + i : Nat) : Int) ((1 + l.length + t : Nat) : Int) = 0
        · rw [if_pos ⟨rfl, ez⟩, if_pos ⟨Int.le_refl _, by omega, ez⟩]
        · rw [if_neg (fun z => ez z.2), if_neg (fun z => ez z.2.2)]
      · rw [if_neg (fun z : q = t ∧ _ => eq z.1)]
        by_cases ez : en rows ((1 + i : Nat) : Int) ((1 + l.length + q : Nat) : Int) = 0
        · by_cases c2 : (t : Int) + 1 ≤ q ∧ (q : Int) < dl
          · rw [if_pos ⟨c2.1, c2.2, ez⟩, if_pos ⟨by omega, c2.2, ez⟩]
          · rw [if_neg (fun z => c2 ⟨z.1, z.2.1⟩), if_neg (fun z => c2 ⟨by have := z.1; omega, z.2.1⟩)]
        · rw [if_neg (fun z => ez z.2.2), if_neg (fun z => ez z.2.2)]
    · cases k with
      | zero => exact absurd hk (Nat.not_succ_le_zero d)
      | succ k =>
        rw [schedRow, if_pos tdl, W1.out, W2.out, W3.out, W4.out, if_pos (by rw [HROW.out, hrl]; exact hcond), ← hoe]
        exact r3 k (Nat.le_of_succ_le_succ hk)
end
end Go.Proofs.Ythdjhgidccmlfaa.M
