/- Matrices as lists of lists, sums, and what one push along a path does, in plain Lean. Conditions: those that each theorem names. -/
import Derived.Test.YthdjhgidccmlfaaXMaximize
namespace Go.Proofs.Ythdjhgidccmlfaa.M
open Go.RowKit Go.Proofs.Ythdjhgidccmlfaa.P Go.Proofs.YthdjhgidccmlfaaW.PrintWords
set_option linter.unusedVariables false
set_option linter.unusedSimpArgs false

theorem ev_of {α : Type} {g : Nat → Option α} {r : α} (hg : ∀ k, LeO (g k) (g (k + 1))) (h : ∃ k, g k = some r) : ∃ k0, ∀ k, k0 ≤ k → g k = some r := by
  obtain ⟨k, hk⟩ := h
  exact ⟨k, fun k' h => at_rounds hg h hk⟩
theorem wrapN {i : Nat} (h1 : i < 1000000000000000000) : wrap64 ((i : Int) + 1) = ((i + 1 : Nat) : Int) := by unfold wrap64; omega
theorem wrapI {x : Int} (h0 : -4611686018427387904 ≤ x) (h1 : x ≤ 4611686018427387904) : wrap64 x = x := by unfold wrap64; omega

/-! ### sums -/
def sumN (f : Nat → Int) : Nat → Int
  | 0 => 0
  | n + 1 => sumN f n + f n
theorem sumN_add (f g : Nat → Int) : ∀ n, sumN (fun i => f i + g i) n = sumN f n + sumN g n
  | 0 => rfl
  | n + 1 => by
    have := sumN_add f g n
    simp only [sumN]
    omega
theorem sumN_ext {f g : Nat → Int} : ∀ n, (∀ i, i < n → f i = g i) → sumN f n = sumN g n
  | 0, _ => rfl
  | n + 1, h => by simp only [sumN]; rw [sumN_ext n (fun i hi => h i (by omega)), h n (by omega)]
theorem sumN_zero : ∀ n, sumN (fun _ => 0) n = 0
  | 0 => rfl
  | n + 1 => by simp only [sumN, sumN_zero n]; rfl
theorem sumN_single (j : Nat) (c : Int) : ∀ n, sumN (fun i => if i = j then c else 0) n = if j < n then c else 0
  | 0 => by simp [sumN]
  | n + 1 => by
    simp only [sumN, sumN_single j c n]
    by_cases h : j < n
    · rw [if_pos h, if_neg (by omega), if_pos (by omega)]; omega
    · rw [if_neg h]
      by_cases e : n = j
      · rw [if_pos e, if_pos (by omega)]; omega
      · rw [if_neg e, if_neg (by omega)]; omega
theorem sumN_le {f g : Nat → Int} : ∀ n, (∀ i, i < n → f i ≤ g i) → sumN f n ≤ sumN g n
  | 0, _ => Int.le_refl _
  | n + 1, h => by
    have h1 := sumN_le (f := f) (g := g) n (fun i hi => h i (by omega))
    have h2 := h n (by omega)
    simp only [sumN]
    omega
theorem sumN_const (c : Int) : ∀ n : Nat, sumN (fun _ => c) n = n * c
  | 0 => by simp [sumN]
  | n + 1 => by simp only [sumN, sumN_const c n]; rw [Int.natCast_add, Int.add_mul]; omega
theorem sumN_nonneg {f : Nat → Int} (n : Nat) (h : ∀ i, i < n → 0 ≤ f i) : 0 ≤ sumN f n := by
  have := sumN_le (f := fun _ => 0) (g := f) n h
  rw [sumN_zero] at this
  exact this

/-! ### lists -/
section
variable {α : Type} {d : α} {xs : List α}
theorem gD_set {b i : Int} {v : α} (hb : 0 ≤ b) (hl : b < xs.length) (hi : 0 ≤ i) : (xs.set b.toNat v).getD i.toNat d = if i = b then v else xs.getD i.toNat d := by
  rw [List.getD_eq_getElem?_getD, List.getD_eq_getElem?_getD, List.getElem?_set]
  by_cases h : i = b
  · subst h
    rw [if_pos rfl, if_pos (by omega), if_pos rfl]
    rfl
  · rw [if_neg h, if_neg (by omega)]
theorem gD_rep {n : Nat} {i : Int} (v : α) (h0 : 0 ≤ i) (h1 : i < n) : (List.replicate n v).getD i.toNat d = v := by
  rw [List.getD_eq_getElem?_getD, List.getElem?_replicate, if_pos (by omega)]
  rfl
theorem gD_mem {i : Int} (h0 : 0 ≤ i) (h1 : i < xs.length) : xs.getD i.toNat d ∈ xs := by
  rw [List.getD_eq_getElem?_getD, List.getElem?_eq_getElem (by omega)]
  exact List.getElem_mem (by omega)
end
theorem rd_set {xs : List Int} {b i v : Int} (hb : 0 ≤ b) (hl : b < xs.length) (hi : 0 ≤ i) : rd (xs.set b.toNat v) i = if i = b then v else rd xs i := gD_set hb hl hi
theorem rd4_set {xs : List (List Int)} {b i : Int} {v : List Int} (hb : 0 ≤ b) (hl : b < xs.length) (hi : 0 ≤ i) : rd_L4 (xs.set b.toNat v) i = if i = b then v else rd_L4 xs i := gD_set hb hl hi

/-! ### matrices -/
/-- One entry. -/
def en (rows : List (List Int)) (a b : Int) : Int := rd (rd_L4 rows a) b
/-- A square matrix. -/
def Sq (n : Nat) (rows : List (List Int)) : Prop := rows.length = n ∧ ∀ a : Int, 0 ≤ a → a < n → (rd_L4 rows a).length = n
theorem Sq.set {n : Nat} {rows : List (List Int)} (h : Sq n rows) {u : Int} (h0 : 0 ≤ u) (h1 : u < n) {row : List Int} (hr : row.length = n) : Sq n (rows.set u.toNat row) := by
  refine ⟨by rw [List.length_set]; exact h.1, fun a a0 a1 => ?_⟩
  rw [rd4_set h0 (by rw [h.1]; exact h1) a0]
  split
  · exact hr
  · exact h.2 a a0 a1
theorem Sq.push {n : Nat} {rows : List (List Int)} (h : Sq n rows) {u v x : Int} (h0 : 0 ≤ u) (h1 : u < n) : Sq n (push1 rows u v x) :=
  h.set h0 h1 (by rw [List.length_set]; exact h.2 u h0 h1)
theorem en_push {n : Nat} {rows : List (List Int)} (h : Sq n rows) {u v x : Int} (h0 : 0 ≤ u) (h1 : u < n) (h2 : 0 ≤ v) (h3 : v < n) {a b : Int} (a0 : 0 ≤ a) (b0 : 0 ≤ b) :
    en (push1 rows u v x) a b = if a = u ∧ b = v then wrap64 (en rows u v + x) else en rows a b := by
  unfold en push1
  rw [rd4_set h0 (by rw [h.1]; exact h1) a0]
  by_cases ha : a = u
  · subst ha
    rw [if_pos rfl, rd_set h2 (by rw [h.2 a h0 h1]; exact h3) b0]
    by_cases hb : b = v
    · rw [if_pos hb, if_pos ⟨rfl, hb⟩]
    · rw [if_neg hb, if_neg (fun hh => hb hh.2)]
  · rw [if_neg ha, if_neg (fun hh => ha hh.1)]

/-- What one step of a push changes. -/
def dl (before : List Int) (x w a b : Int) : Int := (if a = rd before w ∧ b = w then -x else 0) + (if a = w ∧ b = rd before w then x else 0)
def step (before : List Int) (x : Int) (rows : List (List Int)) (w : Int) : List (List Int) := push1 (push1 rows (rd before w) w (-x)) w (rd before w) x
theorem Sq.step {n : Nat} {rows : List (List Int)} (h : Sq n rows) {before : List Int} {x w : Int} (w0 : 0 ≤ w) (w1 : w < n) (u0 : 0 ≤ rd before w) (u1 : rd before w < n) : Sq n (step before x rows w) := (h.push u0 u1).push w0 w1
theorem en_step {n : Nat} {rows : List (List Int)} (h : Sq n rows) {before : List Int} {x w : Int} (w0 : 0 ≤ w) (w1 : w < n) (u0 : 0 ≤ rd before w) (u1 : rd before w < n) {C : Int} (hC : ∀ a b : Int, 0 ≤ a → a < n → 0 ≤ b → b < n → -C ≤ en rows a b ∧ en rows a b ≤ C) (x0 : 0 ≤ x) (hb : C + 2 * x ≤ 4611686018427387904)
    {a b : Int} (a0 : 0 ≤ a) (b0 : 0 ≤ b) : en (step before x rows w) a b = en rows a b + dl before x w a b := by
  have c1 := hC (rd before w) w u0 u1 w0 w1
  have c2 := hC w (rd before w) w0 w1 u0 u1
  have e1 := fun (p q : Int) (p0 : 0 ≤ p) (q0 : 0 ≤ q) => en_push h (v := w) (x := -x) u0 u1 w0 w1 (a := p) (b := q) p0 q0
  have k1 : wrap64 (en rows (rd before w) w + -x) = en rows (rd before w) w + -x := wrapI (by omega) (by omega)
  rw [k1] at e1
  have e2 := en_push (h.push (v := w) (x := -x) u0 u1) (v := rd before w) (x := x) w0 w1 u0 u1 (a := a) (b := b) a0 b0
  unfold step
  rw [e2, e1 a b a0 b0, e1 w (rd before w) w0 u0]
  unfold dl
  generalize rd before w = u at *
  by_cases q2 : a = w ∧ b = u
  · rw [if_pos q2, if_pos q2]
    obtain ⟨rfl, rfl⟩ := q2
    by_cases q1 : a = b
    · subst q1
      rw [if_pos ⟨rfl, rfl⟩, if_pos ⟨rfl, rfl⟩]
      rw [wrapI (by omega) (by omega)]
      omega
    · rw [if_neg (fun hh => q1 hh.1), if_neg (fun hh => q1 hh.1), wrapI (by omega) (by omega)]
      omega
  · rw [if_neg q2, if_neg q2]
    by_cases q1 : a = u ∧ b = w
    · rw [if_pos q1, if_pos q1]
      obtain ⟨rfl, rfl⟩ := q1
      omega
    · rw [if_neg q1, if_neg q1]
      omega
/-- What a list of steps changes. -/
def dls (before : List Int) (x : Int) : List Int → Int → Int → Int
  | [], _, _ => 0
  | w :: l, a, b => dl before x w a b + dls before x l a b
theorem en_steps {n : Nat} {before : List Int} {x : Int} (x0 : 0 ≤ x) : ∀ (l : List Int) (rows : List (List Int)) (C : Int), Sq n rows → (∀ w ∈ l, (0 ≤ w ∧ w < n) ∧ 0 ≤ rd before w ∧ rd before w < n) →
    (∀ a b : Int, 0 ≤ a → a < n → 0 ≤ b → b < n → -C ≤ en rows a b ∧ en rows a b ≤ C) → C + 2 * (l.length + 1) * x ≤ 4611686018427387904 →
    Sq n (l.foldl (step before x) rows) ∧ ∀ a b : Int, 0 ≤ a → a < n → 0 ≤ b → b < n → en (l.foldl (step before x) rows) a b = en rows a b + dls before x l a b
  | [], rows, C, h, _, _, _ => ⟨h, fun a b _ _ _ _ => by simp [dls]⟩
  | w :: l, rows, C, h, hl, hC, hb => by
    obtain ⟨⟨w0, w1⟩, u0, u1⟩ := hl w List.mem_cons_self
    have hlen : ((w :: l).length : Int) = (l.length : Int) + 1 := by rw [List.length_cons]; omega
    have hx : 2 * (((w :: l).length : Int) + 1) * x = 2 * ((l.length : Int) + 1) * x + 2 * x := by
      rw [hlen, show 2 * ((l.length : Int) + 1 + 1) = 2 * ((l.length : Int) + 1) + 2 by omega, Int.add_mul]
    rw [hx] at hb
    have hp : 0 ≤ 2 * ((l.length : Int) + 1) * x := Int.mul_nonneg (by omega) x0
    have hs : ∀ a b : Int, 0 ≤ a → 0 ≤ b → en (step before x rows w) a b = en rows a b + dl before x w a b := fun a b a0 b0 => en_step h w0 w1 u0 u1 hC x0 (by omega) a0 b0
    have hd : ∀ a b : Int, -(2 * x) ≤ dl before x w a b ∧ dl before x w a b ≤ 2 * x := by
      intro a b
      unfold dl
      split <;> split <;> omega
    obtain ⟨r1, r2⟩ := en_steps x0 l (step before x rows w) (C + 2 * x) (h.step w0 w1 u0 u1) (fun y hy => hl y (List.mem_cons_of_mem _ hy)) (fun a b a0 a1 b0 b1 => by
      have := hC a b a0 a1 b0 b1
      have := hd a b
      rw [hs a b a0 b0]
      omega) (by omega)
    refine ⟨r1, fun a b a0 a1 b0 b1 => ?_⟩
    have := r2 a b a0 a1 b0 b1
    rw [List.foldl_cons, this, hs a b a0 b0]
    simp only [dls]
    omega
theorem dl_anti (before : List Int) (x w a b : Int) : dl before x w a b + dl before x w b a = 0 := by
  unfold dl
  by_cases h1 : a = rd before w ∧ b = w
  · by_cases h2 : a = w ∧ b = rd before w
    · rw [if_pos h1, if_pos h2, if_pos ⟨h2.2, h2.1⟩, if_pos ⟨h1.2, h1.1⟩]; omega
    · rw [if_pos h1, if_neg h2, if_neg (fun q => h2 ⟨q.2, q.1⟩), if_pos ⟨h1.2, h1.1⟩]; omega
  · by_cases h2 : a = w ∧ b = rd before w
    · rw [if_neg h1, if_pos h2, if_pos ⟨h2.2, h2.1⟩, if_neg (fun q => h1 ⟨q.2, q.1⟩)]; omega
    · rw [if_neg h1, if_neg h2, if_neg (fun q => h2 ⟨q.2, q.1⟩), if_neg (fun q => h1 ⟨q.2, q.1⟩)]; omega
theorem dls_anti (before : List Int) (x : Int) : ∀ (l : List Int) (a b : Int), dls before x l a b + dls before x l b a = 0
  | [], a, b => rfl
  | w :: l, a, b => by
    have := dl_anti before x w a b
    have := dls_anti before x l a b
    simp only [dls]
    omega
/-- A row's sum. -/
def rsum (n : Nat) (rows : List (List Int)) (a : Int) : Int := sumN (fun i => en rows a i) n
theorem dl_row (before : List Int) (x w a : Int) {n : Nat} (w0 : 0 ≤ w) (w1 : w < n) (u0 : 0 ≤ rd before w) (u1 : rd before w < n) : sumN (fun i => dl before x w a i) n = (if a = rd before w then -x else 0) + (if a = w then x else 0) := by
  have e : ∀ i : Nat, i < n → dl before x w a i = (if i = w.toNat then (if a = rd before w then -x else 0) else 0) + (if i = (rd before w).toNat then (if a = w then x else 0) else 0) := by
    intro i hi
    unfold dl
    congr 1
    · by_cases h1 : a = rd before w
      · by_cases h2 : i = w.toNat
        · rw [if_pos ⟨h1, by omega⟩, if_pos h2, if_pos h1]
        · rw [if_neg (fun q => h2 (by omega)), if_neg h2]
      · rw [if_neg (fun q => h1 q.1), if_neg h1]
        split <;> rfl
    · by_cases h1 : a = w
      · by_cases h2 : i = (rd before w).toNat
        · rw [if_pos ⟨h1, by omega⟩, if_pos h2, if_pos h1]
        · rw [if_neg (fun q => h2 (by omega)), if_neg h2]
      · rw [if_neg (fun q => h1 q.1), if_neg h1]
        split <;> rfl
  rw [sumN_ext n e, sumN_add, sumN_single, sumN_single, if_pos (show w.toNat < n by omega), if_pos (show (rd before w).toNat < n by omega)]
/-- The way up from v: the vertices but the source. -/
inductive Up (before : List Int) (s : Int) : Int → List Int → Prop
  | nil : Up before s s []
  | cons {v : Int} {l : List Int} : v ≠ s → Up before s (rd before v) l → Up before s v (v :: l)
theorem dls_row {before : List Int} {s x a : Int} {n : Nat} : ∀ {v : Int} {l : List Int}, Up before s v l → (∀ w ∈ l, (0 ≤ w ∧ w < n) ∧ 0 ≤ rd before w ∧ rd before w < n) → sumN (fun i => dls before x l a i) n = (if a = v then x else 0) - (if a = s then x else 0)
  | _, _, .nil, _ => by
    simp only [dls]
    rw [sumN_zero]
    omega
  | v, _, .cons (l := l) hv h, hl => by
    obtain ⟨⟨w0, w1⟩, u0, u1⟩ := hl v List.mem_cons_self
    have ih := dls_row (x := x) (a := a) h (fun y hy => hl y (List.mem_cons_of_mem _ hy))
    simp only [dls]
    rw [sumN_add, ih, dl_row before x v a w0 w1 u0 u1]
    split <;> split <;> split <;> omega
end Go.Proofs.Ythdjhgidccmlfaa.M
