/- What the flow of a network of jobs says of a schedule, and the capacity of its cuts, in plain Lean. Conditions: a list of valid jobs. -/
import Derived.Test.YthdjhgidccmlfaaMAssign
import Derived.Test.YthdjhgidccmlfaaMCut
namespace Go.Proofs.Ythdjhgidccmlfaa.M
open Go.RowKit Go.Proofs.Ythdjhgidccmlfaa.P Go.Proofs.YthdjhgidccmlfaaW.PrintWords
set_option linter.unusedVariables false
set_option linter.unusedSimpArgs false

theorem sumN_split (f : Nat → Int) (a : Nat) : ∀ b, sumN f (a + b) = sumN f a + sumN (fun i => f (a + i)) b
  | 0 => by simp [sumN]
  | b + 1 => by
    have := sumN_split f a b
    show sumN f (a + b) + f (a + b) = sumN f a + (sumN (fun i => f (a + i)) b + f (a + b))
    omega
theorem sumN_net (f : Nat → Int) (J D : Nat) : sumN f (2 + J + D) = f 0 + sumN (fun i => f (1 + i)) J + sumN (fun s => f (1 + J + s)) D + f (1 + J + D) := by
  have e : 2 + J + D = ((1 + J) + D) + 1 := by omega
  have h1 := sumN_split f (1 + J) D
  have h2 := sumN_split f 1 J
  have h3 : sumN f 1 = f 0 := by simp [sumN]
  rw [e]
  show sumN f ((1 + J) + D) + f (1 + J + D) = _
  omega
theorem sumN_sub (f g : Nat → Int) (n : Nat) : sumN (fun i => f i - g i) n = sumN f n - sumN g n := by
  have h1 := sumN_add (fun i => f i - g i) g n
  have h2 : sumN (fun i => f i - g i + g i) n = sumN f n := sumN_ext n (fun i _ => by omega)
  omega
theorem sumN_zero' {f : Nat → Int} (n : Nat) (h : ∀ i, i < n → f i = 0) : sumN f n = 0 := by
  rw [sumN_ext n h, sumN_zero]
theorem sumN_mul (c : Int) (f : Nat → Int) : ∀ n, sumN (fun i => c * f i) n = c * sumN f n
  | 0 => by simp [sumN]
  | n + 1 => by simp only [sumN]; rw [sumN_mul c f n, Int.mul_add]
/-- A job may run in a slot. -/
def win (l : List S83) (i s : Nat) : Bool := decide ((rd_T83 l i).f0 ≤ (s : Int) ∧ (s : Int) < (rd_T83 l i).f1)
def cost (l : List S83) (i : Nat) : Int := (rd_T83 l i).f2
theorem sumC_eq (l : List S83) : ∀ p : Nat, sumC l p = sumN (cost l) p
  | 0 => rfl
  | p + 1 => by
    show sumC l p + (rd_T83 l p).f2 = sumN (cost l) p + cost l p
    rw [sumC_eq l p]
    rfl
/-- The network of a list of jobs with a greatest flow. -/
structure JF (l : List S83) (cores : Int) (D n : Nat) (c rows : List (List Int)) (value : Int) : Prop where
  jobs : Jobs l
  hn : n = 2 + l.length + D
  hD : (D : Int) = maxD l l.length
  net : Net n c
  cap : ∀ a b : Int, 0 ≤ a → a < n → 0 ≤ b → b < n → en c a b = capA l cores D a b
  fi : FI n c 0 (1 + l.length + D) rows value
  cores0 : 0 ≤ cores
section
variable {l : List S83} {cores : Int} {D n : Nat} {c rows : List (List Int)} {value : Int}
theorem JF.win_lt (h : JF l cores D n c rows value) {i s : Nat} (hi : i < l.length) (hw : win l i s = true) : s < D := by
  have h1 := of_decide_eq_true hw
  have h2 := (maxD_b h.jobs l.length (Nat.le_refl _)).2.2 i hi
  have := h.hD
  omega
/-- The net flow from a vertex to another. -/
def Fl (c rows : List (List Int)) (a b : Nat) : Int := en c a b - en rows a b
theorem JF.anti (h : JF l cores D n c rows value) {a b : Nat} (ha : a < n) (hb : b < n) : Fl c rows a b = - Fl c rows b a := by
  have := h.fi.pair a b (by omega) (by omega) (by omega) (by omega)
  unfold Fl
  omega
theorem JF.le (h : JF l cores D n c rows value) {a b : Nat} (ha : a < n) (hb : b < n) : Fl c rows a b ≤ en c a b := by
  have := h.fi.nn a b (by omega) (by omega) (by omega) (by omega)
  unfold Fl
  omega
theorem JF.zero (h : JF l cores D n c rows value) {a b : Nat} (ha : a < n) (hb : b < n) (h1 : en c a b = 0) (h2 : en c b a = 0) : Fl c rows a b = 0 := by
  have := h.le ha hb
  have := h.le hb ha
  have := h.anti ha hb
  omega
theorem JF.row (h : JF l cores D n c rows value) {a : Nat} (ha : a < n) : sumN (fun b => Fl c rows a b) n = (if a = 0 then value else 0) - (if a = 1 + l.length + D then value else 0) := by
  have h1 := h.fi.row a (by omega) (by omega)
  have h2 : sumN (fun b => Fl c rows a b) n = rsum n c a - rsum n rows a := sumN_sub (fun b => en c a b) (fun b => en rows a b) n
  rw [h2, h1]
  by_cases e1 : a = 0
  · rw [if_pos e1, if_pos (show (a : Int) = 0 by omega), if_neg (show ¬ (a : Int) = 1 + l.length + D by omega), if_neg (show ¬ a = 1 + l.length + D by omega)]; omega
  · rw [if_neg e1, if_neg (show ¬ (a : Int) = 0 by omega)]
    by_cases e2 : a = 1 + l.length + D
    · rw [if_pos e2, if_pos (show (a : Int) = 1 + l.length + D by omega)]; omega
    · rw [if_neg e2, if_neg (show ¬ (a : Int) = 1 + l.length + D by omega)]; omega
theorem JF.c0j (h : JF l cores D n c rows value) {i : Nat} (hi : i < l.length) : en c ((0 : Nat) : Int) ((1 + i : Nat) : Int) = cost l i := by
  have := h.hn
  rw [h.cap _ _ (by omega) (by omega) (by omega) (by omega)]
  unfold capA capJ cost
  have e : ((1 + i : Nat) : Int) - 1 = (i : Int) := by omega
  rw [if_neg (by omega), if_pos (by omega), e]
theorem JF.cjs (h : JF l cores D n c rows value) {i s : Nat} (hi : i < l.length) (hs : s < D) : en c ((1 + i : Nat) : Int) ((1 + l.length + s : Nat) : Int) = if win l i s = true then 1 else 0 := by
  have := h.hn
  rw [h.cap _ _ (by omega) (by omega) (by omega) (by omega)]
  unfold capA capJ win
  have e : ((1 + i : Nat) : Int) - 1 = (i : Int) := by omega
  rw [if_neg (by omega), if_neg (by omega), e]
  by_cases hw : (rd_T83 l i).f0 ≤ (s : Int) ∧ (s : Int) < (rd_T83 l i).f1
  · rw [if_pos (by omega), decide_eq_true hw, if_pos rfl]
  · rw [if_neg (by omega), decide_eq_false hw, if_neg (by simp)]
theorem JF.cst (h : JF l cores D n c rows value) {s : Nat} (hs : s < D) : en c ((1 + l.length + s : Nat) : Int) ((1 + l.length + D : Nat) : Int) = cores := by
  have := h.hn
  rw [h.cap _ _ (by omega) (by omega) (by omega) (by omega)]
  unfold capA
  rw [if_pos (by omega)]
/-- What has no capacity. -/
theorem JF.c0 (h : JF l cores D n c rows value) {a b : Nat} (ha : a < n) (hb : b < n) (h1 : ¬ (a = 0 ∧ 1 ≤ b ∧ b ≤ l.length)) (h2 : ¬ (1 ≤ a ∧ a ≤ l.length ∧ 1 + l.length ≤ b ∧ b < 1 + l.length + D)) (h3 : ¬ (1 + l.length ≤ a ∧ a < 1 + l.length + D ∧ b = 1 + l.length + D)) : en c a b = 0 := by
  have := h.hn
  rw [h.cap _ _ (by omega) (by omega) (by omega) (by omega)]
  unfold capA capJ
  rw [if_neg (by omega), if_neg (by omega), if_neg]
  rintro ⟨q1, q2, q3, q4⟩
  have h4 := h.jobs.ok (a - 1) (by omega)
  have h5 := (maxD_b h.jobs l.length (Nat.le_refl _)).2.2 (a - 1) (by omega)
  have e : ((a - 1 : Nat) : Int) = (a : Int) - 1 := by omega
  rw [e] at h4 h5
  have := h4.r0
  have := h.hD
  exact h2 (by omega)
theorem JF.f00 (h : JF l cores D n c rows value) {a b : Nat} (ha : a < n) (hb : b < n) (h1 : ¬ (a = 0 ∧ 1 ≤ b ∧ b ≤ l.length)) (h2 : ¬ (1 ≤ a ∧ a ≤ l.length ∧ 1 + l.length ≤ b ∧ b < 1 + l.length + D)) (h3 : ¬ (1 + l.length ≤ a ∧ a < 1 + l.length + D ∧ b = 1 + l.length + D))
    (g1 : ¬ (b = 0 ∧ 1 ≤ a ∧ a ≤ l.length)) (g2 : ¬ (1 ≤ b ∧ b ≤ l.length ∧ 1 + l.length ≤ a ∧ a < 1 + l.length + D)) (g3 : ¬ (1 + l.length ≤ b ∧ b < 1 + l.length + D ∧ a = 1 + l.length + D)) : Fl c rows a b = 0 :=
  h.zero ha hb (h.c0 ha hb h1 h2 h3) (h.c0 hb ha g1 g2 g3)
theorem JF.value_eq (h : JF l cores D n c rows value) : value = sumN (fun i => Fl c rows 0 (1 + i)) l.length := by
  have hn := h.hn
  have h1 := h.row (a := 0) (by omega)
  rw [if_pos rfl, if_neg (by omega)] at h1
  rw [show sumN (fun b => Fl c rows 0 b) n = sumN (fun b => Fl c rows 0 b) (2 + l.length + D) by rw [hn], sumN_net] at h1
  rw [h.f00 (a := 0) (b := 0) (by omega) (by omega) (by omega) (by omega) (by omega) (by omega) (by omega) (by omega), h.f00 (a := 0) (b := 1 + l.length + D) (by omega) (by omega) (by omega) (by omega) (by omega) (by omega) (by omega) (by omega),
    sumN_zero' (f := fun s => Fl c rows 0 (1 + l.length + s)) D (fun s hs => h.f00 (by omega) (by omega) (by omega) (by omega) (by omega) (by omega) (by omega) (by omega))] at h1
  omega
theorem JF.job_eq (h : JF l cores D n c rows value) {i : Nat} (hi : i < l.length) : Fl c rows 0 (1 + i) = sumN (fun s => Fl c rows (1 + i) (1 + l.length + s)) D := by
  have hn := h.hn
  have h1 := h.row (a := 1 + i) (by omega)
  rw [if_neg (by omega), if_neg (by omega)] at h1
  rw [show sumN (fun b => Fl c rows (1 + i) b) n = sumN (fun b => Fl c rows (1 + i) b) (2 + l.length + D) by rw [hn], sumN_net] at h1
  rw [h.f00 (a := 1 + i) (b := 1 + l.length + D) (by omega) (by omega) (by omega) (by omega) (by omega) (by omega) (by omega) (by omega),
    sumN_zero' (f := fun j => Fl c rows (1 + i) (1 + j)) l.length (fun j hj => h.f00 (by omega) (by omega) (by omega) (by omega) (by omega) (by omega) (by omega) (by omega))] at h1
  have := h.anti (a := 0) (b := 1 + i) (by omega) (by omega)
  omega
theorem JF.slot_le (h : JF l cores D n c rows value) {s : Nat} (hs : s < D) : sumN (fun i => Fl c rows (1 + i) (1 + l.length + s)) l.length ≤ cores := by
  have hn := h.hn
  have h1 := h.row (a := 1 + l.length + s) (by omega)
  rw [if_neg (by omega), if_neg (by omega)] at h1
  rw [show sumN (fun b => Fl c rows (1 + l.length + s) b) n = sumN (fun b => Fl c rows (1 + l.length + s) b) (2 + l.length + D) by rw [hn], sumN_net] at h1
  rw [h.f00 (a := 1 + l.length + s) (b := 0) (by omega) (by omega) (by omega) (by omega) (by omega) (by omega) (by omega) (by omega),
    sumN_zero' (f := fun j => Fl c rows (1 + l.length + s) (1 + l.length + j)) D (fun j hj => h.f00 (by omega) (by omega) (by omega) (by omega) (by omega) (by omega) (by omega) (by omega))] at h1
  have h2 := h.le (a := 1 + l.length + s) (b := 1 + l.length + D) (by omega) (by omega)
  rw [h.cst hs] at h2
  have h3 : sumN (fun i => Fl c rows (1 + l.length + s) (1 + i)) l.length = - sumN (fun i => Fl c rows (1 + i) (1 + l.length + s)) l.length := by
    rw [← sumN_neg]
    exact sumN_ext _ (fun i hi => h.anti (by omega) (by omega))
  omega
/-- The job runs in the slot. -/
def bit (l : List S83) (rows : List (List Int)) (i s : Nat) : Bool := win l i s && decide (en rows ((1 + i : Nat) : Int) ((1 + l.length + s : Nat) : Int) = 0)
theorem JF.bit_eq (h : JF l cores D n c rows value) {i s : Nat} (hi : i < l.length) (hs : s < D) : Fl c rows (1 + i) (1 + l.length + s) = if bit l rows i s = true then 1 else 0 := by
  have hn := h.hn
  have h1 := h.cjs hi hs
  have h2 := h.c0 (a := 1 + l.length + s) (b := 1 + i) (by omega) (by omega) (by omega) (by omega) (by omega)
  have h3 := h.fi.pair ((1 + i : Nat) : Int) ((1 + l.length + s : Nat) : Int) (by omega) (by omega) (by omega) (by omega)
  have h4 := h.fi.nn ((1 + i : Nat) : Int) ((1 + l.length + s : Nat) : Int) (by omega) (by omega) (by omega) (by omega)
  have h5 := h.fi.nn ((1 + l.length + s : Nat) : Int) ((1 + i : Nat) : Int) (by omega) (by omega) (by omega) (by omega)
  unfold Fl bit
  cases hw : win l i s with
  | false =>
    rw [hw, if_neg (by simp)] at h1
    rw [Bool.false_and, if_neg (by simp)]
    omega
  | true =>
    rw [hw, if_pos rfl] at h1
    rw [Bool.true_and]
    by_cases e : en rows ((1 + i : Nat) : Int) ((1 + l.length + s : Nat) : Int) = 0
    · rw [decide_eq_true e, if_pos rfl]; omega
    · rw [decide_eq_false e, if_neg (by simp)]; omega
/-- The value is at most the sum of the costs; where it reaches it, each job runs as long as it must. -/
theorem JF.value_le (h : JF l cores D n c rows value) : value ≤ sumC l l.length := by
  have hn := h.hn
  rw [h.value_eq, sumC_eq]
  exact sumN_le _ (fun i hi => by rw [← h.c0j hi]; exact h.le (by omega) (by omega))
theorem sumN_eq_of {f g : Nat → Int} : ∀ n, (∀ i, i < n → f i ≤ g i) → sumN g n ≤ sumN f n → ∀ i, i < n → f i = g i
  | 0, _, _, i, hi => by omega
  | n + 1, h, hle, i, hi => by
    have h1 := sumN_le (f := f) (g := g) n (fun i hi => h i (by omega))
    have h2 := h n (by omega)
    simp only [sumN] at hle
    by_cases e : i = n
    · rw [e]; omega
    · exact sumN_eq_of n (fun i hi => h i (by omega)) (by omega) i (by omega)
theorem JF.full (h : JF l cores D n c rows value) (hv : sumC l l.length ≤ value) {i : Nat} (hi : i < l.length) : sumN (fun s => if bit l rows i s = true then 1 else 0) D = cost l i := by
  have hn := h.hn
  have h1 := sumN_eq_of (f := fun i => Fl c rows 0 (1 + i)) (g := cost l) l.length (fun i hi => by rw [← h.c0j hi]; exact h.le (by omega) (by omega)) (by rw [← sumC_eq, ← h.value_eq]; exact hv) i hi
  rw [← h1]
  show _ = Fl c rows 0 (1 + i)
  rw [h.job_eq hi]
  exact sumN_ext _ (fun s hs => (h.bit_eq hi hs).symm)
theorem JF.load (h : JF l cores D n c rows value) {s : Nat} (hs : s < D) : sumN (fun i => if bit l rows i s = true then 1 else 0) l.length ≤ cores := by
  rw [sumN_ext l.length (fun i hi => (h.bit_eq hi hs).symm)]
  exact h.slot_le hs
/-- The capacity of a cut. -/
theorem JF.cut (h : JF l cores D n c rows value) (χ : Nat → Bool) (h0 : χ 0 = true) (ht : χ (1 + l.length + D) = false) :
    cutC n c χ = sumN (fun i => if χ (1 + i) = true then 0 else cost l i) l.length + sumN (fun i => if χ (1 + i) = true then sumN (fun s => if win l i s = true ∧ χ (1 + l.length + s) = false then 1 else 0) D else 0) l.length + sumN (fun s => if χ (1 + l.length + s) = true then cores else 0) D := by
  have hn := h.hn
  have z : ∀ a b : Nat, a < n → b < n → en c a b = 0 → (if χ a = true ∧ χ b = false then en c a b else 0) = 0 := fun a b _ _ q => by rw [q]; split <;> rfl
  unfold cutC
  have hr : ∀ a : Nat, sumN (fun b => if χ a = true ∧ χ b = false then en c a b else 0) n = sumN (fun b => if χ a = true ∧ χ b = false then en c a b else 0) (2 + l.length + D) := fun a => by rw [hn]
  have h1 : ∀ f : Nat → Int, sumN f n = sumN f (2 + l.length + D) := fun f => by rw [hn]
  rw [h1, sumN_net]
  have r0 : sumN (fun b => if χ 0 = true ∧ χ b = false then en c ((0 : Nat) : Int) b else 0) n = sumN (fun i => if χ (1 + i) = true then 0 else cost l i) l.length := by
    rw [h1, sumN_net, z 0 0 (by omega) (by omega) (h.c0 (by omega) (by omega) (by omega) (by omega) (by omega)), z 0 (1 + l.length + D) (by omega) (by omega) (h.c0 (by omega) (by omega) (by omega) (by omega) (by omega)),
      sumN_zero' (f := fun s => if χ 0 = true ∧ χ (1 + l.length + s) = false then en c ((0 : Nat) : Int) ((1 + l.length + s : Nat) : Int) else 0) D (fun s hs => z 0 _ (by omega) (by omega) (h.c0 (by omega) (by omega) (by omega) (by omega) (by omega)))]
    rw [sumN_ext (g := fun i => if χ (1 + i) = true then 0 else cost l i) l.length (fun i hi => by
      rw [h.c0j hi, h0]
      cases χ (1 + i) <;> simp)]
    omega
  have rj : sumN (fun i => sumN (fun b => if χ (1 + i) = true ∧ χ b = false then en c ((1 + i : Nat) : Int) b else 0) n) l.length = sumN (fun i => if χ (1 + i) = true then sumN (fun s => if win l i s = true ∧ χ (1 + l.length + s) = false then 1 else 0) D else 0) l.length := sumN_ext _ (fun i hi => by
    rw [h1, sumN_net, z (1 + i) 0 (by omega) (by omega) (h.c0 (by omega) (by omega) (by omega) (by omega) (by omega)), z (1 + i) (1 + l.length + D) (by omega) (by omega) (h.c0 (by omega) (by omega) (by omega) (by omega) (by omega)),
      sumN_zero' (f := fun j => if χ (1 + i) = true ∧ χ (1 + j) = false then en c ((1 + i : Nat) : Int) ((1 + j : Nat) : Int) else 0) l.length (fun s hs => z (1 + i) _ (by omega) (by omega) (h.c0 (by omega) (by omega) (by omega) (by omega) (by omega)))]
    cases hc : χ (1 + i) with
    | false => rw [if_neg (by simp), sumN_zero' D (fun s hs => by rw [if_neg (by simp)])]; rfl
    | true =>
      rw [if_pos rfl, sumN_ext (g := fun s => if win l i s = true ∧ χ (1 + l.length + s) = false then 1 else 0) D (fun s hs => by
        rw [h.cjs hi hs]
        cases win l i s <;> cases χ (1 + l.length + s) <;> simp)]
      omega)
  have rs : sumN (fun s => sumN (fun b => if χ (1 + l.length + s) = true ∧ χ b = false then en c ((1 + l.length + s : Nat) : Int) b else 0) n) D = sumN (fun s => if χ (1 + l.length + s) = true then cores else 0) D := sumN_ext _ (fun s hs => by
    rw [h1, sumN_net, z (1 + l.length + s) 0 (by omega) (by omega) (h.c0 (by omega) (by omega) (by omega) (by omega) (by omega)), ht, h.cst hs,
      sumN_zero' (f := fun j => if χ (1 + l.length + s) = true ∧ χ (1 + j) = false then en c ((1 + l.length + s : Nat) : Int) ((1 + j : Nat) : Int) else 0) l.length (fun j hj => z _ _ (by omega) (by omega) (h.c0 (by omega) (by omega) (by omega) (by omega) (by omega))),
      sumN_zero' (f := fun j => if χ (1 + l.length + s) = true ∧ χ (1 + l.length + j) = false then en c ((1 + l.length + s : Nat) : Int) ((1 + l.length + j : Nat) : Int) else 0) D (fun j hj => z _ _ (by omega) (by omega) (h.c0 (by omega) (by omega) (by omega) (by omega) (by omega)))]
    cases χ (1 + l.length + s) <;> simp)
  have rt : sumN (fun b => if χ (1 + l.length + D) = true ∧ χ b = false then en c ((1 + l.length + D : Nat) : Int) b else 0) n = 0 := sumN_zero' n (fun b hb => by rw [ht, if_neg (by simp)])
  rw [r0, rj, rs, rt]
  omega
end
end Go.Proofs.Ythdjhgidccmlfaa.M
