/- What the reference's search finds: a schedule, if there is one, in plain Lean. Conditions: costs not below 0, slots up to 1000. -/
import Derived.Test.YthdjhgidccmlfaaMFeas
import Derived.Test.YthdjhgidccmlfaaXFits
namespace Go.Proofs.Ythdjhgidccmlfaa.M
open Go.RowKit Go.Proofs.Ythdjhgidccmlfaa.P Go.Proofs.YthdjhgidccmlfaaW.PrintWords
set_option linter.unusedVariables false
set_option linter.unusedSimpArgs false

def inW (l : List S85) (i s : Nat) : Prop := (rd_T85 l i).f0 ≤ (s : Int) ∧ (s : Int) < (rd_T85 l i).f1
def b1 (b : Bool) : Int := if b = true then 1 else 0
theorem b1_t : b1 true = 1 := rfl
theorem b1_f : b1 false = 0 := rfl
theorem b1_nn (b : Bool) : 0 ≤ b1 b ∧ b1 b ≤ 1 := by cases b <;> simp [b1]
/-- From a slot on, jobs from a number on in that slot, at most so many. -/
def ChS (l : List S85) (cores : Int) (slot U frm : Nat) (free : Int) : Prop :=
  ∃ x : Nat → Nat → Bool, (∀ i s : Nat, i < l.length → x i s = true → slot ≤ s ∧ s < U ∧ inW l i s) ∧ (∀ i : Nat, i < l.length → x i slot = true → frm ≤ i) ∧ (∀ i : Nat, i < l.length → sumN (fun s => b1 (x i s)) U = (rd_T85 l i).f2) ∧
    sumN (fun i => b1 (x i slot)) l.length ≤ free ∧ ∀ s : Nat, s ≠ slot → sumN (fun i => b1 (x i s)) l.length ≤ cores
def Sch (l : List S85) (cores : Int) (slot U : Nat) : Prop :=
  ∃ x : Nat → Nat → Bool, (∀ i s : Nat, i < l.length → x i s = true → slot ≤ s ∧ s < U ∧ inW l i s) ∧ (∀ i : Nat, i < l.length → sumN (fun s => b1 (x i s)) U = (rd_T85 l i).f2) ∧ ∀ s : Nat, sumN (fun i => b1 (x i s)) l.length ≤ cores
theorem sch_chs (l : List S85) (cores : Int) (slot U : Nat) : Sch l cores slot U ↔ ChS l cores slot U 0 cores :=
  ⟨fun ⟨x, h1, h2, h3⟩ => ⟨x, h1, fun _ _ _ => Nat.zero_le _, h2, h3 slot, fun s _ => h3 s⟩, fun ⟨x, h1, _, h2, h3, h4⟩ => ⟨x, h1, h2, fun s => by
    by_cases e : s = slot
    · rw [e]; exact h3
    · exact h4 s e⟩⟩
theorem chs_end (l : List S85) (cores : Int) (slot U : Nat) (free : Int) (hf : 0 ≤ free) (hc : 0 ≤ cores) : ChS l cores slot U l.length free ↔ Sch l cores (slot + 1) U := by
  constructor
  · rintro ⟨x, h1, h2, h3, h4, h5⟩
    refine ⟨x, fun i s hi hx => ?_, h3, fun s => ?_⟩
    · have q := h1 i s hi hx
      refine ⟨?_, q.2⟩
      by_cases e : s = slot
      · rw [e] at hx
        have := h2 i hi hx
        omega
      · omega
    · by_cases e : s = slot
      · rw [sumN_zero' l.length (fun i hi => by
          cases hx : x i s with
          | false => rfl
          | true => rw [e] at hx; have := h2 i hi hx; omega)]
        exact hc
      · exact h5 s e
  · rintro ⟨x, h1, h2, h3⟩
    have hno : ∀ i : Nat, i < l.length → x i slot = false := fun i hi => by
      cases hx : x i slot with
      | false => rfl
      | true => have := (h1 i slot hi hx).1; omega
    refine ⟨x, fun i s hi hx => ⟨by have := (h1 i s hi hx).1; omega, (h1 i s hi hx).2⟩, fun i hi hx => by rw [hno i hi] at hx; exact absurd hx (by simp), h2, ?_, fun s _ => h3 s⟩
    rw [sumN_zero' l.length (fun i hi => by rw [hno i hi]; rfl)]
    exact hf
theorem rd_set85 (l : List S85) (i : Nat) (hi : i < l.length) (j : S85) (a : Nat) : rd_T85 (l.set i j) (a : Int) = if a = i then j else rd_T85 l (a : Int) := by
  have := gD_set (xs := l) (d := z85) (b := (i : Int)) (i := (a : Int)) (v := j) (Int.natCast_nonneg i) (by omega) (Int.natCast_nonneg a)
  rw [Int.toNat_natCast] at this
  unfold rd_T85
  rw [this]
  by_cases e : a = i
  · rw [if_pos e, if_pos (by omega)]
  · rw [if_neg e, if_neg (by omega)]
theorem sumN_ge (f : Nat → Int) (n j : Nat) (hj : j < n) (h : ∀ i, i < n → 0 ≤ f i) : f j ≤ sumN f n := by
  have h1 := sumN_le (f := fun i => if i = j then f j else 0) (g := f) n (fun i hi => by
    by_cases e : i = j
    · rw [if_pos e, e]; exact Int.le_refl _
    · rw [if_neg e]; exact h i hi)
  rw [sumN_single, if_pos hj] at h1
  exact h1
/-- One place changed. -/
def put2 (x : Nat → Nat → Bool) (a t : Nat) (b : Bool) (i s : Nat) : Bool := if i = a ∧ s = t then b else x i s
theorem put2_at (x : Nat → Nat → Bool) (a t : Nat) (b : Bool) : put2 x a t b a t = b := if_pos ⟨rfl, rfl⟩
theorem put2_row (x : Nat → Nat → Bool) (a t : Nat) (b : Bool) (n : Nat) (ht : t < n) : sumN (fun s => b1 (put2 x a t b a s)) n = sumN (fun s => b1 (x a s)) n + (b1 b - b1 (x a t)) := by
  rw [sumN_ext (g := fun s => b1 (x a s) + (if s = t then b1 b - b1 (x a t) else 0)) n (fun s hs => by
    unfold put2
    by_cases e : s = t
    · rw [if_pos ⟨rfl, e⟩, if_pos e, e]; omega
    · rw [if_neg (fun z => e z.2), if_neg e]; omega), sumN_add, sumN_single, if_pos ht]
theorem put2_row' (x : Nat → Nat → Bool) (a t : Nat) (b : Bool) (n i : Nat) (hi : i ≠ a) : sumN (fun s => b1 (put2 x a t b i s)) n = sumN (fun s => b1 (x i s)) n :=
  sumN_ext n (fun s _ => by unfold put2; rw [if_neg (fun z => hi z.1)])
theorem put2_col (x : Nat → Nat → Bool) (a t : Nat) (b : Bool) (n : Nat) (ha : a < n) : sumN (fun i => b1 (put2 x a t b i t)) n = sumN (fun i => b1 (x i t)) n + (b1 b - b1 (x a t)) := by
  rw [sumN_ext (g := fun i => b1 (x i t) + (if i = a then b1 b - b1 (x a t) else 0)) n (fun i hi => by
    unfold put2
    by_cases e : i = a
    · rw [if_pos ⟨e, rfl⟩, if_pos e, e]; omega
    · rw [if_neg (fun z => e z.1), if_neg e]; omega), sumN_add, sumN_single, if_pos ha]
theorem put2_col' (x : Nat → Nat → Bool) (a t : Nat) (b : Bool) (n s : Nat) (hs : s ≠ t) : sumN (fun i => b1 (put2 x a t b i s)) n = sumN (fun i => b1 (x i s)) n :=
  sumN_ext n (fun i _ => by unfold put2; rw [if_neg (fun z => hs z.2)])
section
variable {l : List S85} {cores : Int} {slot U frm : Nat} {free : Int}
theorem chs_next (h : ChS l cores slot U (frm + 1) free) : ChS l cores slot U frm free := by
  obtain ⟨x, h1, h2, h3, h4, h5⟩ := h
  exact ⟨x, h1, fun i hi hx => by have := h2 i hi hx; omega, h3, h4, h5⟩
theorem chs_skip (hf : frm < l.length) (hno : ¬ (0 < free ∧ 0 < (rd_T85 l frm).f2 ∧ (rd_T85 l frm).f0 ≤ (slot : Int) ∧ (slot : Int) < (rd_T85 l frm).f1)) (h : ChS l cores slot U frm free) : ChS l cores slot U (frm + 1) free := by
  obtain ⟨x, h1, h2, h3, h4, h5⟩ := h
  refine ⟨x, h1, fun i hi hx => ?_, h3, h4, h5⟩
  have := h2 i hi hx
  by_cases e : i = frm
  · exfalso
    subst e
    have q := h1 i slot hi hx
    have g1 := sumN_ge (fun s => b1 (x i s)) U slot q.2.1 (fun s _ => (b1_nn _).1)
    have g2 := sumN_ge (fun i => b1 (x i slot)) l.length i hi (fun s _ => (b1_nn _).1)
    rw [h3 i hi, hx, b1_t] at g1
    rw [hx, b1_t] at g2
    exact hno ⟨by omega, by omega, q.2.2.1, q.2.2.2⟩
  · omega
theorem chs_take (hf : frm < l.length) (hU : slot < U) (hok : 0 < free ∧ 0 < (rd_T85 l frm).f2 ∧ (rd_T85 l frm).f0 ≤ (slot : Int) ∧ (slot : Int) < (rd_T85 l frm).f1) :
    ChS l cores slot U frm free ↔ ChS (l.set frm ⟨(rd_T85 l frm).f0, (rd_T85 l frm).f1, (rd_T85 l frm).f2 - 1⟩) cores slot U (frm + 1) (free - 1) ∨ ChS l cores slot U (frm + 1) free := by
  have hl : (l.set frm ⟨(rd_T85 l frm).f0, (rd_T85 l frm).f1, (rd_T85 l frm).f2 - 1⟩).length = l.length := List.length_set
  have hrd := rd_set85 l frm hf ⟨(rd_T85 l frm).f0, (rd_T85 l frm).f1, (rd_T85 l frm).f2 - 1⟩
  have hin : ∀ i s : Nat, inW (l.set frm ⟨(rd_T85 l frm).f0, (rd_T85 l frm).f1, (rd_T85 l frm).f2 - 1⟩) i s ↔ inW l i s := fun i s => by
    unfold inW
    rw [hrd i]
    by_cases e : i = frm
    · rw [if_pos e, e]
    · rw [if_neg e]
  constructor
  · rintro ⟨x, h1, h2, h3, h4, h5⟩
    cases hx : x frm slot with
    | false =>
      right
      refine ⟨x, h1, fun i hi hxi => ?_, h3, h4, h5⟩
      have := h2 i hi hxi
      by_cases e : i = frm
      · rw [e, hx] at hxi; exact absurd hxi (by simp)
      · omega
    | true =>
      left
      refine ⟨put2 x frm slot false, fun i s hi hxi => ?_, fun i hi hxi => ?_, fun i hi => ?_, ?_, fun s hs => ?_⟩
      · rw [hl] at hi
        rw [hin]
        unfold put2 at hxi
        split at hxi
        · exact absurd hxi (by simp)
        · exact h1 i s hi hxi
      · rw [hl] at hi
        unfold put2 at hxi
        split at hxi
        · exact absurd hxi (by simp)
        · rename_i hne
          have := h2 i hi hxi
          have : i ≠ frm := fun e => hne ⟨e, rfl⟩
          omega
      · rw [hl] at hi
        rw [hrd i]
        by_cases e : i = frm
        · rw [if_pos e, e, put2_row _ _ _ _ _ hU, h3 frm hf, hx, b1_t, b1_f]; show _ = (rd_T85 l frm).f2 - 1; omega
        · rw [if_neg e, put2_row' _ _ _ _ _ _ e, h3 i hi]
      · rw [hl, put2_col _ _ _ _ _ hf, hx, b1_t, b1_f]; omega
      · rw [hl, put2_col' _ _ _ _ _ _ hs]; exact h5 s hs
  · rintro (⟨x, h1, h2, h3, h4, h5⟩ | h)
    · rw [hl] at h1 h2 h3 h4 h5
      have hx : x frm slot = false := by
        cases hx : x frm slot with
        | false => rfl
        | true => have := h2 frm hf hx; omega
      refine ⟨put2 x frm slot true, fun i s hi hxi => ?_, fun i hi hxi => ?_, fun i hi => ?_, ?_, fun s hs => ?_⟩
      · unfold put2 at hxi
        split at hxi
        · rename_i he
          obtain ⟨rfl, rfl⟩ := he
          exact ⟨Nat.le_refl _, hU, hok.2.2.1, hok.2.2.2⟩
        · have q := h1 i s hi hxi
          rw [hin] at q
          exact q
      · unfold put2 at hxi
        split at hxi
        · rename_i he
          omega
        · have := h2 i hi hxi
          omega
      · have q := h3 i hi
        rw [hrd i] at q
        by_cases e : i = frm
        · rw [if_pos e] at q
          rw [e] at q ⊢
          rw [put2_row _ _ _ _ _ hU, q, hx, b1_t, b1_f]; show (rd_T85 l frm).f2 - 1 + _ = _; omega
        · rw [if_neg e] at q
          rw [put2_row' _ _ _ _ _ _ e, q]
      · rw [put2_col _ _ _ _ _ hf, hx, b1_t, b1_f]; omega
      · rw [put2_col' _ _ _ _ _ _ hs]; exact h5 s hs
    · exact chs_next h
end
theorem any_open (l : List S85) (h : l.any openJ = false) (i : Nat) (hi : i < l.length) : ¬ 0 < (rd_T85 l i).f2 := by
  intro hp
  have hm : rd_T85 l (i : Int) ∈ l := by
    unfold rd_T85
    rw [Int.toNat_natCast, List.getD_eq_getElem?_getD, List.getElem?_eq_getElem hi]
    exact List.getElem_mem hi
  have : l.any openJ = true := List.any_eq_true.2 ⟨_, hm, decide_eq_true hp⟩
  rw [h] at this
  exact absurd this (by simp)
theorem any_open' (l : List S85) (h : l.any openJ = true) : ∃ i : Nat, i < l.length ∧ 0 < (rd_T85 l i).f2 := by
  obtain ⟨j, hj, hp⟩ := List.any_eq_true.1 h
  obtain ⟨i, hi, he⟩ := List.getElem_of_mem hj
  refine ⟨i, hi, ?_⟩
  have : rd_T85 l (i : Int) = j := by
    unfold rd_T85
    rw [Int.toNat_natCast, List.getD_eq_getElem?_getD, List.getElem?_eq_getElem hi, he]
    rfl
  rw [this]
  exact of_decide_eq_true hp
/-- Costs not below 0, and not great. -/
def Cs (l : List S85) : Prop := l.length ≤ 1000 ∧ ∀ i : Nat, i < l.length → 0 ≤ (rd_T85 l i).f2 ∧ (rd_T85 l i).f2 ≤ 1000
theorem Cs.set {l : List S85} (h : Cs l) (frm : Nat) (hf : frm < l.length) (hp : 0 < (rd_T85 l frm).f2) : Cs (l.set frm ⟨(rd_T85 l frm).f0, (rd_T85 l frm).f1, (rd_T85 l frm).f2 - 1⟩) := by
  refine ⟨by rw [List.length_set]; exact h.1, fun i hi => ?_⟩
  rw [List.length_set] at hi
  rw [rd_set85 l frm hf]
  by_cases e : i = frm
  · rw [if_pos e]
    have := h.2 frm hf
    show 0 ≤ (rd_T85 l frm).f2 - 1 ∧ (rd_T85 l frm).f2 - 1 ≤ 1000
    omega
  · rw [if_neg e]; exact h.2 i hi
def FitsE (cores : Int) (U slot : Nat) : Prop := ∀ l : List S85, Cs l → ∃ b : Bool, (b = true ↔ Sch l cores slot U) ∧ ∃ k, fitsF k l cores (slot : Int) (U : Int) = some b
theorem choose_ev (cores : Int) (hc : 0 ≤ cores ∧ cores ≤ 1000) (U slot : Nat) (hs : slot < U) (hU : U ≤ 1000) (IH : FitsE cores U (slot + 1)) : ∀ (d frm : Nat) (l : List S85) (free : Int), frm + d = l.length → Cs l → 0 ≤ free → free ≤ 1000 →
    ∃ b : Bool, (b = true ↔ ChS l cores slot U frm free) ∧ ∃ k, chooseF k l cores (slot : Int) (U : Int) frm free = some b := by
  intro d
  induction d with
  | zero =>
    intro frm l free hd hC f0 f1
    obtain rfl : frm = l.length := by omega
    obtain ⟨b, hb, k, hk⟩ := IH l hC
    refine ⟨b, hb.trans (chs_end l cores slot U free f0 hc.1).symm, k + 1, ?_⟩
    have W := Aside0.mk (wrapN (i := slot) (by omega))
    rw [chooseF, if_pos rfl, W.out]
    exact hk
  | succ d ih =>
    intro frm l free hd hC f0 f1
    have hf : frm < l.length := by omega
    obtain ⟨b2, hb2, k2, hk2⟩ := ih (frm + 1) l free (by omega) hC f0 f1
    by_cases hok : 0 < free ∧ 0 < (rd_T85 l frm).f2 ∧ (rd_T85 l frm).f0 ≤ (slot : Int) ∧ (slot : Int) < (rd_T85 l frm).f1
    · have cb := hC.2 frm hf
      obtain ⟨b1', hb1, k1, hk1⟩ := ih (frm + 1) (l.set frm ⟨(rd_T85 l frm).f0, (rd_T85 l frm).f1, (rd_T85 l frm).f2 - 1⟩) (free - 1) (by rw [List.length_set]; omega) (hC.set frm hf hok.2.1) (by omega) (by omega)
      have W1 := Aside0.mk (wrapI (x := (rd_T85 l frm).f2 - 1) (by omega) (by omega))
      have W2 := Aside0.mk (wrapI (x := free - 1) (by omega) (by omega))
      have e1 := at_rounds (fun k => (fits_mono k).2 (l.set frm ⟨(rd_T85 l frm).f0, (rd_T85 l frm).f1, (rd_T85 l frm).f2 - 1⟩) cores slot U (frm + 1) (free - 1)) (show k1 ≤ max k1 k2 by omega) hk1
      have e2 := at_rounds (fun k => (fits_mono k).2 l cores slot U (frm + 1) free) (show k2 ≤ max k1 k2 by omega) hk2
      refine ⟨b1' || b2, ?_, max k1 k2 + 1, ?_⟩
      · rw [Bool.or_eq_true, hb1, hb2]
        exact (chs_take hf hs hok).symm
      · rw [chooseF, if_neg (by omega), if_pos ⟨hf, by have := hC.1; omega⟩, if_pos hok, W1.out, W2.out, e1, Option.bind_some]
        cases b1' with
        | true => rfl
        | false => rw [if_neg (by simp), e2]; rfl
    · refine ⟨b2, hb2.trans ⟨chs_next, chs_skip hf hok⟩, k2 + 1, ?_⟩
      rw [chooseF, if_neg (by omega), if_pos ⟨hf, by have := hC.1; omega⟩, if_neg hok]
      exact hk2
theorem fits_ev (cores : Int) (hc : 0 ≤ cores ∧ cores ≤ 1000) (U : Nat) (hU : U ≤ 1000) : ∀ (d slot : Nat), U + 1 - slot = d → slot ≤ U + 1 → FitsE cores U slot := by
  have base : ∀ (slot : Nat) (l : List S85), Cs l → l.any openJ = false → ∃ b : Bool, (b = true ↔ Sch l cores slot U) ∧ ∃ k, fitsF k l cores (slot : Int) (U : Int) = some b := by
    intro slot l hC ha
    refine ⟨true, ⟨fun _ => ⟨fun _ _ => false, fun _ _ _ h => absurd h (by simp), fun i hi => ?_, fun s => ?_⟩, fun _ => rfl⟩, 1, ?_⟩
    · rw [show sumN (fun s => b1 ((fun _ _ => false : Nat → Nat → Bool) i s)) U = 0 from sumN_zero U]
      have := any_open l ha i hi
      have := (hC.2 i hi).1
      omega
    · rw [show sumN (fun i => b1 ((fun _ _ => false : Nat → Nat → Bool) i s)) l.length = 0 from sumN_zero l.length]; exact hc.1
    · rw [fitsF, if_neg (by rw [ha]; simp)]
  have late : ∀ (slot : Nat) (l : List S85), U ≤ slot → Cs l → l.any openJ = true → ∃ b : Bool, (b = true ↔ Sch l cores slot U) ∧ ∃ k, fitsF k l cores (slot : Int) (U : Int) = some b := by
    intro slot l hs hC ha
    refine ⟨false, ⟨fun h => absurd h (by simp), fun ⟨x, h1, h2, _⟩ => ?_⟩, 1, ?_⟩
    · obtain ⟨i, hi, hp⟩ := any_open' l ha
      have := h2 i hi
      rw [sumN_zero' U (fun s hs2 => by
        cases hx : x i s with
        | false => rfl
        | true => have := (h1 i s hi hx).1; omega)] at this
      omega
    · rw [fitsF, if_pos ha, if_pos (by omega)]
  intro d
  induction d with
  | zero =>
    intro slot hd hle l hC
    cases ha : l.any openJ with
    | false => exact base slot l hC ha
    | true => exact late slot l (by omega) hC ha
  | succ d ih =>
    intro slot hd hle l hC
    cases ha : l.any openJ with
    | false => exact base slot l hC ha
    | true =>
      by_cases hs : U ≤ slot
      · exact late slot l hs hC ha
      · obtain ⟨b, hb, k, hk⟩ := choose_ev cores hc U slot (by omega) hU (ih (slot + 1) (by omega) (by omega)) l.length 0 l cores (by omega) hC hc.1 hc.2
        refine ⟨b, hb.trans (sch_chs l cores slot U).symm, k + 1, ?_⟩
        rw [fitsF, if_pos ha, if_neg (by omega)]
        exact hk
end Go.Proofs.Ythdjhgidccmlfaa.M
