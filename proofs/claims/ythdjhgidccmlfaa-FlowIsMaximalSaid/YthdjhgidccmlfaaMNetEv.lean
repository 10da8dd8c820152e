/- Which networks are valid, and what Max returns for them, in plain Lean. Conditions: at most 400 rows. -/
import Derived.Test.YthdjhgidccmlfaaMMax
import Derived.Test.YthdjhgidccmlfaaXMax
import Derived.Test.YthdjhgidccmlfaaPx5
namespace Go.Proofs.Ythdjhgidccmlfaa.M
open Go.RowKit Go.Proofs.Ythdjhgidccmlfaa.P Go.Proofs.YthdjhgidccmlfaaW.PrintWords
set_option linter.unusedVariables false
set_option linter.unusedSimpArgs false

def entOk (x : Int) : Prop := 0 ≤ x ∧ x ≤ 1073741824
def rowOk (n : Nat) (row : List Int) (u : Nat) : Prop := row.length = n ∧ rd row u = 0 ∧ ∀ i : Nat, i < row.length → entOk (rd row i)
def netOk (c : List (List Int)) : Prop := 2 ≤ c.length ∧ ∀ u : Nat, u < c.length → rowOk c.length (rd_L4 c u) u
section
variable {c : List (List Int)}
theorem v_l1 (hc : c.length ≤ 400) (p : Nat) (row : List Int) (hr : row.length ≤ 400) : ∀ (d j : Nat), j + d = row.length →
    ((∀ i : Nat, j ≤ i → i < row.length → entOk (rd row i)) → (∀ res, (∃ k, flow_valid.l0 k (c.length : Int) c (c.length : Int) (wrap64 ((p : Int) + 1)) = some res) → ∃ k, flow_valid.l1 k (c.length : Int) c (c.length : Int) p row (row.length : Int) j = some res) ∧
      (∀ res, (∃ k, ontimelaw47_network.l0 k c c (c.length : Int) (wrap64 ((p : Int) + 1)) = some res) → ∃ k, ontimelaw47_network.l1 k c c (c.length : Int) p row (row.length : Int) j = some res)) ∧
    ((¬ ∀ i : Nat, j ≤ i → i < row.length → entOk (rd row i)) → (∃ k, flow_valid.l1 k (c.length : Int) c (c.length : Int) p row (row.length : Int) j = some false) ∧ ∃ k, ontimelaw47_network.l1 k c c (c.length : Int) p row (row.length : Int) j = some false) := by
  intro d
  induction d with
  | zero =>
    intro j hj
    refine ⟨fun _ => ⟨fun res ⟨k, hk⟩ => ⟨k + 1, by rw [flow_valid.l1, if_neg (by omega)]; exact hk⟩, fun res ⟨k, hk⟩ => ⟨k + 1, by rw [ontimelaw47_network.l1, if_neg (by omega)]; exact hk⟩⟩, fun h => absurd (fun i h1 h2 => by omega) h⟩
  | succ d ih =>
    intro j hj
    have w : wrap64 ((j : Int) + 1) = ((j + 1 : Nat) : Int) := wrapN (by omega)
    have j1 : (j : Int) < (row.length : Int) := by omega
    have j0 : (0 : Int) ≤ (j : Int) := by omega
    by_cases c1 : rd row (j : Int) < 0
    · exact ⟨fun h => by have := (h j (Nat.le_refl _) (by omega)).1; omega, fun _ => ⟨⟨1, by rw [flow_valid.l1, if_pos j1, if_pos j0, if_pos j1, if_pos c1]⟩, ⟨1, by rw [ontimelaw47_network.l1, if_pos j1, if_pos j0, if_pos j1, if_pos c1]⟩⟩⟩
    by_cases c2 : rd row (j : Int) > 1073741824
    · exact ⟨fun h => by have := (h j (Nat.le_refl _) (by omega)).2; omega, fun _ => ⟨⟨1, by rw [flow_valid.l1, if_pos j1, if_pos j0, if_pos j1, if_neg c1, if_pos c2]⟩, ⟨1, by rw [ontimelaw47_network.l1, if_pos j1, if_pos j0, if_pos j1, if_neg c1, if_pos c2]⟩⟩⟩
    obtain ⟨i1, i2⟩ := ih (j + 1) (by omega)
    have hiff : (∀ i : Nat, j ≤ i → i < row.length → entOk (rd row i)) ↔ ∀ i : Nat, j + 1 ≤ i → i < row.length → entOk (rd row i) := by
      refine ⟨fun h i h1 h2 => h i (by omega) h2, fun h i h1 h2 => ?_⟩
      by_cases e : i = j
      · subst e
        exact ⟨by omega, by omega⟩
      · exact h i (by omega) h2
    rw [hiff]
    refine ⟨fun h => ⟨fun res hres => ?_, fun res hres => ?_⟩, fun h => ⟨?_, ?_⟩⟩
    · obtain ⟨k, hk⟩ := (i1 h).1 res hres
      exact ⟨k + 1, by rw [flow_valid.l1, if_pos j1, if_pos j0, if_pos j1, if_neg c1, if_neg c2, w]; exact hk⟩
    · obtain ⟨k, hk⟩ := (i1 h).2 res hres
      exact ⟨k + 1, by rw [ontimelaw47_network.l1, if_pos j1, if_pos j0, if_pos j1, if_neg c1, if_neg c2, w]; exact hk⟩
    · obtain ⟨k, hk⟩ := (i2 h).1
      exact ⟨k + 1, by rw [flow_valid.l1, if_pos j1, if_pos j0, if_pos j1, if_neg c1, if_neg c2, w]; exact hk⟩
    · obtain ⟨k, hk⟩ := (i2 h).2
      exact ⟨k + 1, by rw [ontimelaw47_network.l1, if_pos j1, if_pos j0, if_pos j1, if_neg c1, if_neg c2, w]; exact hk⟩
theorem v_l0 (hc : c.length ≤ 400) : ∀ (d p : Nat), p + d = c.length → ∃ b : Bool, (b = true ↔ ∀ u : Nat, p ≤ u → u < c.length → rowOk c.length (rd_L4 c u) u) ∧
    (∃ k, flow_valid.l0 k (c.length : Int) c (c.length : Int) p = some b) ∧ ∃ k, ontimelaw47_network.l0 k c c (c.length : Int) p = some b := by
  intro d
  induction d with
  | zero =>
    intro p hp
    exact ⟨true, by simp; intro u h1 h2; omega, ⟨1, by rw [flow_valid.l0, if_neg (by omega)]⟩, ⟨1, by rw [ontimelaw47_network.l0, if_neg (by omega)]⟩⟩
  | succ d ih =>
    intro p hp
    have w : wrap64 ((p : Int) + 1) = ((p + 1 : Nat) : Int) := wrapN (by omega)
    have p1 : (p : Int) < (c.length : Int) := by omega
    have p0 : (0 : Int) ≤ (p : Int) := by omega
    have no : ¬ rowOk c.length (rd_L4 c p) p → (false = true ↔ ∀ u : Nat, p ≤ u → u < c.length → rowOk c.length (rd_L4 c u) u) := fun h => ⟨fun q => by simp at q, fun q => absurd (q p (Nat.le_refl _) (by omega)) h⟩
    by_cases hl : ((rd_L4 c p).length : Int) = (c.length : Int)
    · have hl' : (p : Int) < ((rd_L4 c p).length : Int) := by omega
      by_cases hz : rd (rd_L4 c p) p = 0
      · have hz' : (rd (rd_L4 c p) (p : Int) != 0) = false := by rw [hz]; rfl
        obtain ⟨i1, i2⟩ := v_l1 hc p (rd_L4 c p) (by omega) (rd_L4 c p).length 0 (by omega)
        by_cases ha : ∀ i : Nat, 0 ≤ i → i < (rd_L4 c p).length → entOk (rd (rd_L4 c p) i)
        · obtain ⟨b, h1, h2, h3⟩ := ih (p + 1) (by omega)
          obtain ⟨k2, hk2⟩ := (i1 ha).1 b (by rw [w]; exact h2)
          obtain ⟨k3, hk3⟩ := (i1 ha).2 b (by rw [w]; exact h3)
          refine ⟨b, ?_, ⟨k2 + 2, ?_⟩, ⟨k3 + 2, ?_⟩⟩
          · rw [h1]
            refine ⟨fun h u u0 u1 => ?_, fun h u u0 u1 => h u (by omega) u1⟩
            by_cases e : u = p
            · subst e
              exact ⟨by omega, hz, fun i hi => ha i (Nat.zero_le _) hi⟩
            · exact h u (by omega) u1
          · rw [flow_valid.l0, if_pos p1, if_pos p0, if_pos p1, if_pos hl, if_pos hl', hz', flow_valid.j2, if_neg (by simp)]
            exact hk2
          · rw [ontimelaw47_network.l0, if_pos p1, if_pos p0, if_pos p1, if_pos hl, if_pos hl', hz', ontimelaw47_network.j2, if_neg (by simp)]
            exact hk3
        · obtain ⟨⟨k2, hk2⟩, k3, hk3⟩ := i2 ha
          refine ⟨false, no (fun h => ha (fun i _ hi => h.2.2 i hi)), ⟨k2 + 2, ?_⟩, ⟨k3 + 2, ?_⟩⟩
          · rw [flow_valid.l0, if_pos p1, if_pos p0, if_pos p1, if_pos hl, if_pos hl', hz', flow_valid.j2, if_neg (by simp)]
            exact hk2
          · rw [ontimelaw47_network.l0, if_pos p1, if_pos p0, if_pos p1, if_pos hl, if_pos hl', hz', ontimelaw47_network.j2, if_neg (by simp)]
            exact hk3
      · have hz' : (rd (rd_L4 c p) (p : Int) != 0) = true := bne_iff_ne.2 hz
        exact ⟨false, no (fun h => hz h.2.1), ⟨2, by rw [flow_valid.l0, if_pos p1, if_pos p0, if_pos p1, if_pos hl, if_pos hl', hz', flow_valid.j2, if_pos rfl]⟩, ⟨2, by rw [ontimelaw47_network.l0, if_pos p1, if_pos p0, if_pos p1, if_pos hl, if_pos hl', hz', ontimelaw47_network.j2, if_pos rfl]⟩⟩
    · exact ⟨false, no (fun h => hl (by rw [h.1])), ⟨2, by rw [flow_valid.l0, if_pos p1, if_pos p0, if_pos p1, if_neg hl, flow_valid.j2, if_pos rfl]⟩, ⟨2, by rw [ontimelaw47_network.l0, if_pos p1, if_pos p0, if_pos p1, if_neg hl, ontimelaw47_network.j2, if_pos rfl]⟩⟩
/-- Both tests. -/
theorem net_ev (hc : c.length ≤ 400) : ∃ b : Bool, (b = true ↔ netOk c) ∧ (∃ k0, ∀ k, k0 ≤ k → flow_valid.f k c = some b) ∧ ∀ m : Int, (c.length : Int) ≤ m → ∃ k0, ∀ k, k0 ≤ k → ontimelaw47_network.f k c m = some b := by
  by_cases h2 : (c.length : Int) < 2
  · refine ⟨false, ⟨fun h => by simp at h, fun h => by have := h.1; omega⟩, ev_of (fun k => flow_valid.mono c k) ⟨1, ?_⟩, fun m hm => ev_of (fun k => ontimelaw47_network.mono c m k) ⟨1, ?_⟩⟩
    · unfold flow_valid.f; rw [if_pos h2, flow_valid.j0, if_pos rfl]
    · unfold ontimelaw47_network.f; rw [if_pos h2, ontimelaw47_network.j0, if_pos rfl]
  · obtain ⟨b, h1, ⟨k2, hk2⟩, k3, hk3⟩ := v_l0 hc c.length 0 (by omega)
    refine ⟨b, ⟨fun h => ⟨by omega, fun u hu => h1.1 h u (Nat.zero_le _) hu⟩, fun h => h1.2 (fun u _ hu => h.2 u hu)⟩, ev_of (fun k => flow_valid.mono c k) ⟨k2 + 1, ?_⟩, fun m hm => ev_of (fun k => ontimelaw47_network.mono c m k) ⟨k3 + 1, ?_⟩⟩
    · unfold flow_valid.f
      rw [if_neg h2, decide_eq_false (by omega), flow_valid.j0, if_neg (by simp)]
      exact hk2
    · unfold ontimelaw47_network.f
      rw [if_neg h2, decide_eq_false (by omega), ontimelaw47_network.j0, if_neg (by simp)]
      exact hk3
theorem netOk.net (h : netOk c) (hc : c.length ≤ 400) : Net c.length c := by
  have row : ∀ a : Int, 0 ≤ a → a < c.length → rowOk c.length (rd_L4 c a) a.toNat := by
    intro a a0 a1
    have := h.2 a.toNat (by omega)
    rw [Int.toNat_of_nonneg a0] at this
    exact this
  refine ⟨⟨rfl, fun a a0 a1 => (row a a0 a1).1⟩, hc, fun a b a0 a1 b0 b1 => ?_⟩
  have h1 := row a a0 a1
  have h2 := h1.2.2 b.toNat (by rw [h1.1]; omega)
  rw [Int.toNat_of_nonneg b0] at h2
  exact h2

/-! ### the flow that Max lays down -/
theorem fillRow_ev {n : Nat} {res : List (List Int)} (hq : Sq n c) (hr : Sq n res) (u : Int) (u0 : 0 ≤ u) (u1 : u < n) : ∀ (d v : Nat) (xs : List (List Int)), v + d = n → xs.length = n → (rd_L4 xs u).length = n →
    ∃ xs', fillRow c res u d v xs = some xs' ∧ xs'.length = n ∧ (∀ a : Int, 0 ≤ a → a ≠ u → rd_L4 xs' a = rd_L4 xs a) ∧ (rd_L4 xs' u).length = n ∧ ∀ b : Int, 0 ≤ b → b < n → rd (rd_L4 xs' u) b = if v ≤ b then onE c res u b else rd (rd_L4 xs u) b := by
  intro d
  induction d with
  | zero =>
    intro v xs hv hx hl
    exact ⟨xs, rfl, hx, fun _ _ _ => rfl, hl, fun b b0 b1 => by rw [if_neg (by omega)]⟩
  | succ d ih =>
    intro v xs hv hx hl
    have q1 := hq.2 u u0 u1
    have q2 := hr.2 u u0 u1
    have s1 : ∀ a : Int, 0 ≤ a → rd_L4 (xs.set u.toNat ((rd_L4 xs u).set v (onE c res u v))) a = if a = u then (rd_L4 xs u).set v (onE c res u v) else rd_L4 xs a := fun a a0 => rd4_set u0 (by omega) a0
    have s2 : ∀ b : Int, 0 ≤ b → rd ((rd_L4 xs u).set v (onE c res u v)) b = if b = v then onE c res u v else rd (rd_L4 xs u) b := fun b b0 => by
      have := rd_set (xs := rd_L4 xs u) (b := (v : Int)) (v := onE c res u v) (i := b) (by omega) (by omega) b0
      rw [Int.toNat_natCast] at this
      exact this
    obtain ⟨xs', h1, h2, h3, h4, h5⟩ := ih (v + 1) (xs.set u.toNat ((rd_L4 xs u).set v (onE c res u v))) (by omega) (by rw [List.length_set]; exact hx) (by rw [s1 u u0, if_pos rfl, List.length_set]; exact hl)
    refine ⟨xs', ?_, h2, fun a a0 ha => by rw [h3 a a0 ha, s1 a a0, if_neg ha], h4, fun b b0 b1 => ?_⟩
    · rw [fillRow, if_pos ⟨by omega, u0, by omega, by omega, by rw [hq.1]; exact u1, by omega, by rw [hr.1]; exact u1, by omega⟩, Int.toNat_natCast]
      exact h1
    · rw [h5 b b0 b1, s1 u u0, if_pos rfl, s2 b b0]
      by_cases e : b = v
      · rw [if_neg (by omega), if_pos e, if_pos (by omega), e]
      · by_cases e2 : ((v + 1 : Nat) : Int) ≤ b
        · rw [if_pos e2, if_pos (by omega)]
        · rw [if_neg e2, if_neg e, if_neg (by omega)]
theorem fillAll_ev {n : Nat} {res : List (List Int)} (hq : Sq n c) (hr : Sq n res) : ∀ (d u : Nat) (xs : List (List Int)), u + d = n → xs.length = n →
    ∃ xs', fillAll c res n d u xs = some xs' ∧ xs'.length = n ∧ ∀ a : Int, 0 ≤ a → a < n → if u ≤ a then (rd_L4 xs' a).length = n ∧ ∀ b : Int, 0 ≤ b → b < n → rd (rd_L4 xs' a) b = onE c res a b else rd_L4 xs' a = rd_L4 xs a := by
  intro d
  induction d with
  | zero =>
    intro u xs hu hx
    exact ⟨xs, rfl, hx, fun a a0 a1 => by rw [if_neg (by omega)]⟩
  | succ d ih =>
    intro u xs hu hx
    have s1 : ∀ a : Int, 0 ≤ a → rd_L4 (xs.set u (List.replicate n 0)) a = if a = u then List.replicate n 0 else rd_L4 xs a := fun a a0 => by
      have := rd4_set (xs := xs) (b := (u : Int)) (v := List.replicate n 0) (i := a) (by omega) (by omega) a0
      rw [Int.toNat_natCast] at this
      exact this
    obtain ⟨x1, h1, h2, h3, h4, h5⟩ := fillRow_ev hq hr u (by omega) (by omega) n 0 (xs.set u (List.replicate n 0)) (by omega) (by rw [List.length_set]; exact hx) (by rw [s1 u (by omega), if_pos rfl, List.length_replicate])
    obtain ⟨x2, g1, g2, g3⟩ := ih (u + 1) x1 (by omega) h2
    refine ⟨x2, ?_, g2, fun a a0 a1 => ?_⟩
    · rw [fillAll, if_pos ⟨by omega, by omega⟩, Int.toNat_natCast]
      have e0 : ((0 : Nat) : Int) = 0 := rfl
      rw [e0] at h1
      rw [h1, Option.bind_some, show (u : Int) + 1 = ((u + 1 : Nat) : Int) by omega]
      exact g1
    · have g := g3 a a0 a1
      by_cases e : a = u
      · subst e
        rw [if_neg (by omega)] at g
        rw [if_pos (Int.le_refl _), g]
        exact ⟨h4, fun b b0 b1 => by rw [h5 b b0 b1, if_pos (by omega)]⟩
      · by_cases e2 : ((u + 1 : Nat) : Int) ≤ a
        · rw [if_pos e2] at g
          rw [if_pos (by omega)]
          exact g
        · rw [if_neg e2] at g
          rw [if_neg (by omega), g, h3 a a0 e, s1 a a0, if_neg e]
/-- What Max returns for a network and two different vertices. -/
theorem max_ev (h : netOk c) (hc : c.length ≤ 400) {s t : Int} (s0 : 0 ≤ s) (s1 : s < c.length) (t0 : 0 ≤ t) (t1 : t < c.length) (hst : s ≠ t) :
    ∃ value rows xs, (∃ k0, ∀ k, k0 ≤ k → flow_Max.f k c s t = some (value, xs, 0)) ∧ FI c.length c s t rows value ∧ (∃ before ord, Bfs c.length rows s before ord ∧ t ∉ ord) ∧ Sq c.length xs ∧ ∀ a b : Int, 0 ≤ a → a < c.length → 0 ≤ b → b < c.length → en xs a b = onE c rows a b := by
  have hn := h.net hc
  obtain ⟨b, hb, ⟨k1, h1⟩, _⟩ := net_ev hc
  have hbt := hb.2 h
  subst hbt
  obtain ⟨value, rows, ⟨k2, h2⟩, hf, hbfs⟩ := maximize_ev hn hst s0 s1 t0 t1
  obtain ⟨xs, h3, h4, h5⟩ := fillAll_ev hn.sq hf.sq c.length 0 (List.replicate c.length []) (by omega) (by simp)
  refine ⟨value, rows, xs, ⟨max k1 k2, fun k hk => ?_⟩, hf, hbfs, ⟨h4, fun a a0 a1 => ?_⟩, fun a b a0 a1 b0 b1 => ?_⟩
  · unfold flow_Max.f
    rw [h1 k (by omega), Option.bind_some, if_pos rfl, if_neg (by omega), h2 k (by omega), Option.bind_some, if_pos (by omega)]
    have e0 : ((0 : Nat) : Int) = 0 := rfl
    rw [e0] at h3
    rw [h3]
    rfl
  · have := h5 a a0 a1
    rw [if_pos (by omega)] at this
    exact this.1
  · have := h5 a a0 a1
    rw [if_pos (by omega)] at this
    exact this.2 b b0 b1
end
end Go.Proofs.Ythdjhgidccmlfaa.M
