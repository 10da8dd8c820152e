/- The greatest flow, in plain Lean: the search for paths ends, the residual network keeps its sums, and at the end the sink is not reached. Conditions: a square matrix of at most 400 rows, no entry below 0 or above 2^30, two different vertices. -/
import Derived.Test.YthdjhgidccmlfaaMBfs
namespace Go.Proofs.Ythdjhgidccmlfaa.M
open Go.RowKit Go.Proofs.Ythdjhgidccmlfaa.P Go.Proofs.YthdjhgidccmlfaaW.PrintWords
set_option linter.unusedVariables false
set_option linter.unusedSimpArgs false

theorem nodupI_le {n : Nat} {l : List Int} (hn : l.Nodup) (h : ∀ x ∈ l, 0 ≤ x ∧ x < n) : l.length ≤ n := by
  have hn2 : (l.map Int.toNat).Nodup := by
    unfold List.Nodup
    rw [List.pairwise_map]
    refine List.Pairwise.imp_of_mem ?_ hn
    intro a b ha hb hab he
    have := h a ha
    have := h b hb
    exact hab (by omega)
  have := nodup_le n _ hn2 (fun x hx => by
    obtain ⟨v, hv, rfl⟩ := List.mem_map.1 hx
    have := h v hv
    omega)
  rw [List.length_map] at this
  exact this
section
variable {n : Nat} {rows : List (List Int)} {s : Int} {before ord : List Int}
/-- The way from a reached vertex up to the source. -/
theorem up_of (h : Vis n rows s before ord) : ∀ (m : Nat) (l1 : List Int) (v : Int) (l2 : List Int), l1.length ≤ m → ord = l1 ++ v :: l2 → ∃ l, Up before s v l ∧ l.Nodup ∧ ∀ w ∈ l, w ∈ l1 ++ [v] ∧ 0 < en rows (rd before w) w ∧ rd before w ∈ ord := by
  intro m
  induction m with
  | zero =>
    intro l1 v l2 hm ho
    obtain rfl : l1 = [] := List.eq_nil_of_length_eq_zero (by omega)
    rcases h.par _ _ _ ho with e | ⟨e, _⟩
    · subst e
      exact ⟨[], .nil, List.nodup_nil, fun w hw => by simp at hw⟩
    · simp at e
  | succ m ih =>
    intro l1 v l2 hm ho
    by_cases hs : v = s
    · subst hs
      exact ⟨[], .nil, List.nodup_nil, fun w hw => by simp at hw⟩
    · obtain ⟨e, he⟩ := (h.par _ _ _ ho).resolve_left hs
      obtain ⟨a, b, hab⟩ := List.append_of_mem e
      have ho2 : ord = a ++ rd before v :: (b ++ v :: l2) := by rw [ho, hab]; simp
      have hlen : l1.length = a.length + (b.length + 1) := by rw [hab, List.length_append, List.length_cons]
      obtain ⟨l, hu, hn, hw⟩ := ih a (rd before v) _ (by omega) ho2
      have hv1 : v ∉ l1 := by
        have hnd := h.nodup
        rw [ho] at hnd
        intro hm
        exact (List.nodup_append.1 hnd).2.2 v hm v List.mem_cons_self rfl
      have hsub : ∀ w, w ∈ a ++ [rd before v] → w ∈ l1 := by
        intro w hw
        rw [hab]
        rcases List.mem_append.1 hw with hw | hw
        · exact List.mem_append_left _ hw
        · rw [List.mem_singleton] at hw
          subst hw
          simp
      refine ⟨v :: l, .cons hs hu, List.nodup_cons.2 ⟨fun hm => hv1 (hsub v (hw v hm).1), hn⟩, fun w hwm => ?_⟩
      rcases List.mem_cons.1 hwm with rfl | hwm
      · exact ⟨by simp, he, by rw [ho2]; simp⟩
      · have := hw w hwm
        exact ⟨List.mem_append_left _ (hsub w this.1), this.2⟩
theorem up_ev (h : Vis n rows s before ord) {v : Int} (hv : v ∈ ord) : ∃ l, Up before s v l ∧ l.Nodup ∧ (∀ w ∈ l, (0 ≤ w ∧ w < n) ∧ 0 ≤ rd before w ∧ rd before w < n) ∧ ∀ w ∈ l, 0 < en rows (rd before w) w := by
  obtain ⟨l1, l2, ho⟩ := List.append_of_mem hv
  obtain ⟨l, hu, hn, hw⟩ := up_of h l1.length l1 v l2 (Nat.le_refl _) ho
  refine ⟨l, hu, hn, fun w hwm => ?_, fun w hwm => (hw w hwm).2.1⟩
  have h1 := hw w hwm
  have h2 := h.rng w (by
    rw [ho]
    rcases List.mem_append.1 h1.1 with h3 | h3
    · exact List.mem_append_left _ h3
    · rw [List.mem_singleton] at h3
      rw [h3]
      simp)
  exact ⟨h2, h.rng _ h1.2.2⟩

/-- The least entry along a way. -/
def lmin (rows : List (List Int)) (before : List Int) : Int → List Int → Int
  | a, [] => a
  | a, w :: l => lmin rows before (if en rows (rd before w) w < a then en rows (rd before w) w else a) l
theorem lmin_le : ∀ (l : List Int) (a : Int), lmin rows before a l ≤ a
  | [], a => Int.le_refl _
  | w :: l, a => by
    have := lmin_le l (if en rows (rd before w) w < a then en rows (rd before w) w else a)
    simp only [lmin]
    split at this
    · rename_i hc
      rw [if_pos hc]
      omega
    · rename_i hc
      rw [if_neg hc]
      omega
theorem lmin_mem : ∀ (l : List Int) (a : Int), ∀ w ∈ l, lmin rows before a l ≤ en rows (rd before w) w
  | [], a, w, hw => by simp at hw
  | v :: l, a, w, hw => by
    simp only [lmin]
    rcases List.mem_cons.1 hw with rfl | hw
    · have := lmin_le (rows := rows) (before := before) l (if en rows (rd before w) w < a then en rows (rd before w) w else a)
      split at this
      · rename_i hc; rw [if_pos hc]; omega
      · rename_i hc; rw [if_neg hc]; omega
    · exact lmin_mem l _ w hw
theorem lmin_pos : ∀ (l : List Int) (a : Int), 0 < a → (∀ w ∈ l, 0 < en rows (rd before w) w) → 0 < lmin rows before a l
  | [], a, ha, _ => ha
  | v :: l, a, ha, h => by
    simp only [lmin]
    refine lmin_pos l _ ?_ (fun w hw => h w (List.mem_cons_of_mem _ hw))
    have := h v List.mem_cons_self
    split <;> omega
theorem least_ev (hq : Sq n rows) (hb : before.length = n) : ∀ {v : Int} {l : List Int}, Up before s v l → (∀ w ∈ l, (0 ≤ w ∧ w < n) ∧ 0 ≤ rd before w ∧ rd before w < n) → ∀ a, ∃ k, leastF rows before s k v a = some (lmin rows before a l)
  | _, _, .nil, _, a => ⟨1, by rw [leastF, if_pos rfl]; rfl⟩
  | v, _, .cons (l := l) hv h, hl, a => by
    obtain ⟨⟨w0, w1⟩, u0, u1⟩ := hl v List.mem_cons_self
    obtain ⟨k, hk⟩ := least_ev hq hb h (fun w hw => hl w (List.mem_cons_of_mem _ hw)) (if en rows (rd before v) v < a then en rows (rd before v) v else a)
    have h1 := hq.1
    have h2 := hq.2 (rd before v) u0 u1
    refine ⟨k + 1, ?_⟩
    rw [leastF, if_neg hv, if_pos ⟨w0, by omega, u0, by omega, by omega⟩]
    exact hk
theorem push_ev (hb : before.length = n) (x : Int) : ∀ {v : Int} {l : List Int}, Up before s v l → (∀ w ∈ l, (0 ≤ w ∧ w < n) ∧ 0 ≤ rd before w ∧ rd before w < n) → ∀ rows : List (List Int), Sq n rows → ∃ k, pushF before s x k v rows = some (l.foldl (step before x) rows)
  | _, _, .nil, _, rows, _ => ⟨1, by rw [pushF, if_pos rfl]; rfl⟩
  | v, _, .cons (l := l) hv h, hl, rows, hq => by
    obtain ⟨⟨w0, w1⟩, u0, u1⟩ := hl v List.mem_cons_self
    obtain ⟨k, hk⟩ := push_ev hb x h (fun w hw => hl w (List.mem_cons_of_mem _ hw)) (step before x rows v) (hq.step w0 w1 u0 u1)
    have h1 := hq.1
    have h2 := hq.2 (rd before v) u0 u1
    have h3 := (hq.push (v := v) (x := -x) u0 u1).2 v w0 w1
    refine ⟨k + 1, ?_⟩
    rw [pushF, if_neg hv, if_pos ⟨w0, by omega, u0, by omega, by omega, by omega, by omega⟩]
    exact hk
theorem dl_ge (x w a b : Int) (x0 : 0 ≤ x) : (if a = rd before w ∧ b = w then -x else 0) ≤ dl before x w a b := by
  unfold dl
  split <;> split <;> omega
theorem dls_ge (x : Int) (x0 : 0 ≤ x) (a b : Int) : ∀ l : List Int, l.Nodup → (if b ∈ l ∧ a = rd before b then -x else 0) ≤ dls before x l a b
  | [], _ => by simp [dls]
  | w :: l, hn => by
    have hc := List.nodup_cons.1 hn
    have ih := dls_ge x x0 a b l hc.2
    have h1 := dl_ge (before := before) x w a b x0
    simp only [dls]
    by_cases e : b = w
    · subst e
      rw [if_neg (fun q => hc.1 q.1)] at ih
      by_cases q : a = rd before b
      · rw [if_pos ⟨q, rfl⟩] at h1
        rw [if_pos ⟨List.mem_cons_self, q⟩]
        omega
      · rw [if_neg (fun z => q z.1)] at h1
        rw [if_neg (fun z => q z.2)]
        omega
    · rw [if_neg (fun z => e z.2)] at h1
      by_cases q : b ∈ l ∧ a = rd before b
      · rw [if_pos q] at ih
        rw [if_pos ⟨List.mem_cons_of_mem _ q.1, q.2⟩]
        omega
      · rw [if_neg q] at ih
        rw [if_neg (fun z => q ⟨(List.mem_cons.1 z.1).resolve_left e, z.2⟩)]
        omega
end

/-- A network. -/
structure Net (n : Nat) (c : List (List Int)) : Prop where
  sq : Sq n c
  n400 : n ≤ 400
  cap : ∀ a b : Int, 0 ≤ a → a < n → 0 ≤ b → b < n → 0 ≤ en c a b ∧ en c a b ≤ 1073741824
/-- A residual network behind a flow of a value. -/
structure FI (n : Nat) (c : List (List Int)) (s t : Int) (rows : List (List Int)) (value : Int) : Prop where
  sq : Sq n rows
  nn : ∀ a b : Int, 0 ≤ a → a < n → 0 ≤ b → b < n → 0 ≤ en rows a b
  pair : ∀ a b : Int, 0 ≤ a → a < n → 0 ≤ b → b < n → en rows a b + en rows b a = en c a b + en c b a
  row : ∀ a : Int, 0 ≤ a → a < n → rsum n rows a = rsum n c a + (if a = t then value else 0) - (if a = s then value else 0)
  v0 : 0 ≤ value
section
variable {n : Nat} {c rows : List (List Int)} {s t value : Int}
theorem FI.start (h : Net n c) : FI n c s t c 0 := ⟨h.sq, fun a b a0 a1 b0 b1 => (h.cap a b a0 a1 b0 b1).1, fun _ _ _ _ _ _ => rfl, fun a _ _ => by split <;> split <;> omega, Int.le_refl _⟩
theorem FI.le (hn : Net n c) (h : FI n c s t rows value) (s0 : 0 ≤ s) (s1 : s < n) (hst : s ≠ t) : value + rsum n rows s ≤ 429496729600 ∧ 0 ≤ rsum n rows s := by
  have h1 := h.row s s0 s1
  rw [if_neg hst, if_pos rfl] at h1
  have h2 : 0 ≤ rsum n rows s := sumN_nonneg n (fun i hi => h.nn s i s0 s1 (by omega) (by omega))
  have h3 : rsum n c s ≤ sumN (fun _ => 1073741824) n := sumN_le n (fun i hi => (hn.cap s i s0 s1 (by omega) (by omega)).2)
  rw [sumN_const] at h3
  have := hn.n400
  omega
/-- One augmentation. -/
theorem FI.aug (hn : Net n c) (h : FI n c s t rows value) (hst : s ≠ t) (s0 : 0 ≤ s) (s1 : s < n) (t0 : 0 ≤ t) (t1 : t < n) {before ord : List Int} (hb : Bfs n rows s before ord) (ht : t ∈ ord) :
    ∃ x rows', 0 < x ∧ x ≤ 2147483648 ∧ FI n c s t rows' (value + x) ∧ ∃ k0, ∀ k, k0 ≤ k → augF k rows before s t = some (x, rows') := by
  obtain ⟨l, hu, hnd, hr, hp⟩ := up_ev hb.toVis ht
  have hlen : l.length ≤ n := nodupI_le hnd (fun w hw => (hr w hw).1)
  have h400 := hn.n400
  obtain ⟨x, hx⟩ : ∃ x, x = lmin rows before 2147483648 l := ⟨_, rfl⟩
  have x1 : x ≤ 2147483648 := by rw [hx]; exact lmin_le l _
  have x2 : 0 < x := by rw [hx]; exact lmin_pos l _ (by omega) hp
  have x3 : ∀ w ∈ l, x ≤ en rows (rd before w) w := by rw [hx]; exact lmin_mem l _
  have hC : ∀ a b : Int, 0 ≤ a → a < n → 0 ≤ b → b < n → -2147483648 ≤ en rows a b ∧ en rows a b ≤ 2147483648 := by
    intro a b a0 a1 b0 b1
    have := h.nn a b a0 a1 b0 b1
    have := h.nn b a b0 b1 a0 a1
    have := h.pair a b a0 a1 b0 b1
    have := hn.cap a b a0 a1 b0 b1
    have := hn.cap b a b0 b1 a0 a1
    omega
  have hbnd : 2147483648 + 2 * ((l.length : Int) + 1) * x ≤ 4611686018427387904 := by
    have h1 : 2 * ((l.length : Int) + 1) * x ≤ 802 * 2147483648 := Int.mul_le_mul (by omega) x1 (by omega) (by omega)
    omega
  obtain ⟨q1, q2⟩ := en_steps (by omega) l rows 2147483648 h.sq hr hC hbnd
  refine ⟨x, l.foldl (step before x) rows, x2, x1, ⟨q1, ?_, ?_, ?_, ?_⟩, ?_⟩
  · intro a b a0 a1 b0 b1
    rw [q2 a b a0 a1 b0 b1]
    have h1 := dls_ge (before := before) x (by omega) a b l hnd
    have h2 := h.nn a b a0 a1 b0 b1
    split at h1
    · rename_i hc
      have := x3 b hc.1
      rw [← hc.2] at this
      omega
    · omega
  · intro a b a0 a1 b0 b1
    rw [q2 a b a0 a1 b0 b1, q2 b a b0 b1 a0 a1]
    have := h.pair a b a0 a1 b0 b1
    have := dls_anti before x l a b
    omega
  · intro a a0 a1
    have h1 : rsum n (l.foldl (step before x) rows) a = rsum n rows a + sumN (fun i => dls before x l a i) n := by
      unfold rsum
      rw [← sumN_add]
      exact sumN_ext n (fun i hi => q2 a i a0 a1 (by omega) (by omega))
    rw [h1, dls_row hu hr, h.row a a0 a1]
    split <;> split <;> omega
  · have := h.v0
    omega
  · refine ev_of (fun k => augF_mono k rows before s t) ?_
    obtain ⟨k1, h1⟩ := least_ev h.sq hb.len hu hr 2147483648
    obtain ⟨k2, h2⟩ := push_ev hb.len x hu hr rows h.sq
    refine ⟨max k1 k2, ?_⟩
    unfold augF
    rw [at_rounds (fun k => leastF_mono rows before s k t 2147483648) (Nat.le_max_left k1 k2) h1, Option.bind_some, ← hx, at_rounds (fun k => pushF_mono before s x k t rows) (Nat.le_max_right k1 k2) h2]
    rfl
/-- The search for paths ends. -/
theorem max_run (hn : Net n c) (hst : s ≠ t) (s0 : 0 ≤ s) (s1 : s < n) (t0 : 0 ≤ t) (t1 : t < n) : ∀ (m : Nat) (rows : List (List Int)) (value : Int), FI n c s t rows value → (rsum n rows s).toNat ≤ m →
    ∃ value' rows', FI n c s t rows' value' ∧ (∃ before ord, Bfs n rows' s before ord ∧ t ∉ ord) ∧ ∃ k, maxF s t k rows value = some (value', rows') := by
  have h400 := hn.n400
  intro m
  induction m with
  | zero =>
    intro rows value h hm
    obtain ⟨before, ord, ⟨k1, h1⟩, hb⟩ := search_ev h.sq (by omega) s0 s1
    by_cases ht : t ∈ ord
    · obtain ⟨x, rows', x0, x1, h2, _⟩ := h.aug hn hst s0 s1 t0 t1 hb ht
      have e1 := h2.row s s0 s1
      have e2 := h.row s s0 s1
      have e3 := (h2.le hn s0 s1 hst).2
      rw [if_neg hst, if_pos rfl] at e1 e2
      omega
    · refine ⟨value, rows, h, ⟨before, ord, hb, ht⟩, k1 + 1, ?_⟩
      have hneg : rd before t < 0 := by
        have := mt (hb.mem t t0 t1).2 ht
        omega
      rw [maxF, h1 _ (Nat.le_refl _), Option.bind_some, if_pos ⟨by rw [h.sq.1]; omega, t0, by rw [hb.len]; exact t1⟩, if_pos hneg]
  | succ m ih =>
    intro rows value h hm
    obtain ⟨before, ord, ⟨k1, h1⟩, hb⟩ := search_ev h.sq (by omega) s0 s1
    by_cases ht : t ∈ ord
    · obtain ⟨x, rows', x0, x1, h2, k2, hk2⟩ := h.aug hn hst s0 s1 t0 t1 hb ht
      have e1 := h2.row s s0 s1
      have e2 := h.row s s0 s1
      have e3 := (h2.le hn s0 s1 hst)
      have e4 := h.v0
      rw [if_neg hst, if_pos rfl] at e1 e2
      obtain ⟨value', rows2, r1, r2, k3, hk3⟩ := ih rows' (value + x) h2 (by omega)
      refine ⟨value', rows2, r1, r2, max k1 (max k2 k3) + 1, ?_⟩
      have hpos : ¬ rd before t < 0 := by
        have := (hb.mem t t0 t1).1 ht
        omega
      rw [maxF, h1 _ (by omega), Option.bind_some, if_pos ⟨by rw [h.sq.1]; omega, t0, by rw [hb.len]; exact t1⟩, if_neg hpos, hk2 _ (by omega), Option.bind_some]
      dsimp only
      rw [wrapI (by omega) (by omega)]
      exact at_rounds (fun k => maxF_mono s t k rows' (value + x)) (by omega) hk3
    · refine ⟨value, rows, h, ⟨before, ord, hb, ht⟩, k1 + 1, ?_⟩
      have hneg : rd before t < 0 := by
        have := mt (hb.mem t t0 t1).2 ht
        omega
      rw [maxF, h1 _ (Nat.le_refl _), Option.bind_some, if_pos ⟨by rw [h.sq.1]; omega, t0, by rw [hb.len]; exact t1⟩, if_pos hneg]
theorem maximize_ev (hn : Net n c) (hst : s ≠ t) (s0 : 0 ≤ s) (s1 : s < n) (t0 : 0 ≤ t) (t1 : t < n) :
    ∃ value rows, (∃ k0, ∀ k, k0 ≤ k → flow_maximize.f k c s t = some (value, rows)) ∧ FI n c s t rows value ∧ ∃ before ord, Bfs n rows s before ord ∧ t ∉ ord := by
  obtain ⟨value, rows, h1, h2, k, hk⟩ := max_run hn hst s0 s1 t0 t1 (rsum n c s).toNat c 0 (FI.start hn) (Nat.le_refl _)
  refine ⟨value, rows, ev_of (fun k => flow_maximize.mono c s t k) ⟨k, ?_⟩, h1, h2⟩
  have h400 := hn.n400
  have hall : ∀ r ∈ c, r.length ≤ 17592186044416 := by
    intro r hr
    obtain ⟨i, hi, he⟩ := List.getElem_of_mem hr
    have := hn.sq.2 i (by omega) (by rw [← hn.sq.1]; omega)
    unfold rd_L4 at this
    rw [Int.toNat_natCast, List.getD_eq_getElem?_getD, List.getElem?_eq_getElem hi] at this
    simp only [Option.getD_some, he] at this
    omega
  unfold flow_maximize.f
  rw [if_pos ⟨by rw [hn.sq.1]; omega, hall⟩]
  exact hk
end
end Go.Proofs.Ythdjhgidccmlfaa.M
