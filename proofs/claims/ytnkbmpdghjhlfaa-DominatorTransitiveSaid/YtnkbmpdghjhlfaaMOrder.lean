/- The order of the blocks, in plain Lean: both searches give one list, of all reached blocks, each once, 0 first, each other one behind one of its predecessors. -/
import Derived.Test.YtnkbmpdghjhlfaaMDfs
namespace Go.Proofs.Ytnkbmpdghjhlfaa.M
open Go.RowKit Go.Proofs.Ytnkbmpdghjhlfaa.P Go.Proofs.YtnkbmpdghjhlfaaW.PrintWords
set_option linter.unusedVariables false
set_option linter.unusedSimpArgs false

theorem rd_set {xs : List Int} {b i v : Int} (hb : 0 ≤ b) (hl : b < xs.length) (hi : 0 ≤ i) : rd (xs.set b.toNat v) i = if i = b then v else rd xs i := gD_set hb hl hi
theorem rd_ext {xs ys : List Int} (hl : xs.length = ys.length) (h : ∀ i : Int, 0 ≤ i → i < xs.length → rd xs i = rd ys i) : xs = ys := gD_ext hl h
theorem rd_reverse (l : List Int) (i : Int) (h0 : 0 ≤ i) (h1 : i < l.length) : rd l.reverse i = rd l (l.length - 1 - i) := by
  unfold rd
  rw [List.getD_eq_getElem?_getD, List.getD_eq_getElem?_getD, List.getElem?_reverse (by omega)]
  congr 2
  omega

theorem rev_l0 (l : List Int) (hl : l.length ≤ 1000000) : ∀ (d : Nat) (x : List Int) (i j : Int), 0 ≤ i → i + j = l.length - 1 → j - i < d → -1 ≤ j → x.length = l.length → (∀ p : Int, 0 ≤ p → p < l.length → rd x p = if p < i ∨ j < p then rd l (l.length - 1 - p) else rd l p) → ∃ k, slices_Reverse_int_int.l0 k x i j = some l.reverse := by
  intro d
  induction d with
  | zero =>
    intro x i j h0 hij hd hj hx hp
    refine ⟨1, ?_⟩
    rw [slices_Reverse_int_int.l0, if_neg (by omega)]
    congr 1
    refine rd_ext (by rw [List.length_reverse]; exact hx) fun p p0 p1 => ?_
    rw [hx] at p1
    rw [rd_reverse l p p0 p1, hp p p0 p1]
    split
    · rfl
    · rw [show (l.length : Int) - 1 - p = p by omega]
  | succ d ih =>
    intro x i j h0 hij hd hj hx hp
    by_cases hlt : i < j
    · have w1 : wrap64 (i + 1) = i + 1 := by unfold wrap64; omega
      have w2 : wrap64 (j - 1) = j - 1 := by unfold wrap64; omega
      obtain ⟨k, hk⟩ := ih ((x.set i.toNat (rd x j)).set j.toNat (rd x i)) (i + 1) (j - 1) (by omega) (by omega) (by omega) (by omega) (by rw [List.length_set, List.length_set]; exact hx) (fun p p0 p1 => by
        have g1 : rd ((x.set i.toNat (rd x j)).set j.toNat (rd x i)) p = if p = j then rd x i else rd (x.set i.toNat (rd x j)) p := rd_set (by omega) (by rw [List.length_set]; omega) p0
        have g2 : rd (x.set i.toNat (rd x j)) p = if p = i then rd x j else rd x p := rd_set h0 (by omega) p0
        have q1 := hp i h0 (by omega)
        have q2 := hp j (by omega) (by omega)
        have q3 := hp p p0 p1
        rw [if_neg (by omega)] at q1 q2
        rw [g1, g2]
        by_cases e1 : p = j
        · rw [if_pos e1, if_pos (by omega), q1]
          congr 1
          omega
        · rw [if_neg e1]
          by_cases e2 : p = i
          · rw [if_pos e2, if_pos (by omega), q2]
            congr 1
            omega
          · rw [if_neg e2, q3]
            by_cases e3 : p < i ∨ j < p
            · rw [if_pos e3, if_pos (by omega)]
            · rw [if_neg e3, if_neg (by omega)])
      refine ⟨k + 1, ?_⟩
      rw [slices_Reverse_int_int.l0, if_pos hlt, if_pos (by omega), if_pos (by omega), if_pos h0, if_pos (by omega), w1, w2]
      exact hk
    · refine ⟨1, ?_⟩
      rw [slices_Reverse_int_int.l0, if_neg hlt]
      congr 1
      refine rd_ext (by rw [List.length_reverse]; exact hx) fun p p0 p1 => ?_
      rw [hx] at p1
      rw [rd_reverse l p p0 p1, hp p p0 p1]
      split
      · rfl
      · rw [show (l.length : Int) - 1 - p = p by omega]
theorem reverse_ev (l : List Int) (hl : l.length ≤ 1000000) : ∃ k0, ∀ k, k0 ≤ k → slices_Reverse_int_int.f k l = some l.reverse := by
  refine ev_of (fun k => slices_Reverse_int_int.mono l k) ?_
  unfold slices_Reverse_int_int.f
  have w : wrap64 ((l.length : Int) - 1) = (l.length : Int) - 1 := by unfold wrap64; omega
  rw [w]
  exact rev_l0 l hl (l.length + 1) l 0 _ (by omega) (by omega) (by omega) (by omega) rfl (fun p p0 p1 => by rw [if_neg (by omega)])

theorem rorder_l0 (l : List Int) (hl : l.length ≤ 1000000) : ∀ (d : Nat) (o : List Int), d ≤ l.length → o.length + d = l.length → ∃ k, ontimeref25_Order.l0 k l o ((d : Int) - 1) = some (o ++ (l.take d).reverse) := by
  intro d
  induction d with
  | zero =>
    intro o hd ho
    refine ⟨1, ?_⟩
    rw [ontimeref25_Order.l0, if_neg (by omega)]
    simp
  | succ d ih =>
    intro o hd ho
    obtain ⟨k, hk⟩ := ih (o ++ [rd l d]) (by omega) (by rw [List.length_append, List.length_singleton]; omega)
    refine ⟨k + 1, ?_⟩
    have e : (((d + 1 : Nat) : Int) - 1) = (d : Int) := by omega
    have w : wrap64 ((d : Int) - 1) = (d : Int) - 1 := by unfold wrap64; omega
    rw [e, ontimeref25_Order.l0, if_pos (by omega), if_pos (by omega), if_pos (by omega), if_pos (by omega), w, hk]
    have : l.take (d + 1) = l.take d ++ [rd l d] := by
      rw [List.take_succ_eq_append_getElem (by omega)]
      congr 2
      unfold rd
      rw [List.getD_eq_getElem?_getD, Int.toNat_natCast, List.getElem?_eq_getElem (by omega)]
      rfl
    rw [this, List.reverse_append]
    simp

/-- What the order of a graph is. -/
structure Ord (nx : List (List Int)) (order : List Int) : Prop where
  head : ∃ t, order = 0 :: t
  nodup : order.Nodup
  mem : ∀ x, x ∈ order ↔ Rc (Ed nx) (-1) x
  before : ∀ l1 b l2, order = l1 ++ b :: l2 → b = 0 ∨ ∃ p ∈ l1, Ed nx p b

theorem reach_range {nx : List (List Int)} {n : Nat} (hn : 0 < n) (hE : ∀ a b, Ed nx a b → 0 ≤ b ∧ b < n) {x b : Int} (h : Rc (Ed nx) x b) : 0 ≤ b ∧ b < n := by
  cases h with
  | zero _ => exact ⟨by omega, by omega⟩
  | step _ e _ => exact hE _ _ e

theorem order_ev {bl : List S46} {pv : List (List Int)} (hn : bl.length ≤ 14) (hv : validB bl pv = true) :
    ∃ order, (∃ k0, ∀ k, k0 ≤ k → dominator_Order.f k bl pv = some order) ∧ (∃ k0, ∀ k, k0 ≤ k → ontimeref25_Order.f k (rowsOf bl) = some order) ∧ Ord (rowsOf bl) order ∧ order.length ≤ bl.length := by
  have g := good_of hv
  have hn0 := g.n0
  have hrep : ∀ x : Int, rdOf false (List.replicate bl.length false) x = false := by
    intro x
    unfold rdOf
    rw [List.getD_eq_getElem?_getD, List.getElem?_replicate]
    split <;> rfl
  obtain ⟨seen', D, h1, hd, k1, h2⟩ := vis_ok bl g.rng g.two (bl.length + 1) 0 (List.replicate bl.length false) [] (Int.le_refl _) (by omega) (by simp) (hrep 0) (by simp) (by simp; omega)
  have hlen : (D ++ [0]).length ≤ bl.length := by
    have := hd.cnt
    simp only [List.count_replicate_self] at this
    omega
  refine ⟨(D ++ [0]).reverse, ?_, ?_, ⟨⟨D.reverse, by simp⟩, ?_, fun x => ?_, fun l1 b l2 he => ?_⟩, by rw [List.length_reverse]; exact hlen⟩
  · obtain ⟨k2, hk2⟩ := valid_ev bl pv hn
    obtain ⟨k3, hk3⟩ := reverse_ev (D ++ [0]) (by omega)
    refine ⟨max k2 k3, fun k hk => ?_⟩
    unfold dominator_Order.f
    rw [hk2 k (by omega), hv, Option.bind_some, if_pos rfl, if_pos (by omega), h1, Option.bind_some]
    exact hk3 k (by omega)
  · refine ev_of (fun k => ontimeref25_Order.mono (rowsOf bl) k) ?_
    obtain ⟨k2, hk2⟩ := rorder_l0 (D ++ [0]) (by omega) (D ++ [0]).length [] (Nat.le_refl _) (by simp)
    refine ⟨max k1 k2, ?_⟩
    unfold ontimeref25_Order.f
    have w : wrap64 (((D ++ [0]).length : Int) - 1) = ((D ++ [0]).length : Int) - 1 := by unfold wrap64; omega
    rw [if_pos (by omega), Int.toNat_natCast, if_pos (by rw [rows_len]; omega), rows_len, at_rounds (fun k => (ontimeref25_leave.mono_l k).1 _ _ _ _) (Nat.le_max_left k1 k2) h2, Option.bind_some]
    dsimp only
    rw [List.nil_append, w, at_rounds (fun k => (ontimeref25_Order.mono_l k) _ _ _) (Nat.le_max_right k1 k2) hk2, List.nil_append, List.take_length]
  · unfold List.Nodup
    rw [List.pairwise_reverse]
    exact hd.nodup.imp (fun h => h.symm)
  · rw [List.mem_reverse]
    constructor
    · intro hx
      exact hd.reach (Rc (Ed (rowsOf bl)) (-1)) (fun y hy => by rw [hy]; exact .zero (by decide)) (fun a b ha e => .step ha e (by have := g.edge e; omega)) x hx
    · intro hx
      induction hx with
      | zero _ => simp
      | @step a b ha e _ ih =>
        have hb := (g.edge e).1
        rcases (hd.mem b hb).1 (hd.closed a ih b e) with h | h
        · rw [hrep b] at h; exact absurd h (by simp)
        · exact h
  · have he' : D ++ [0] = l2.reverse ++ b :: l1.reverse := by
      have := congrArg List.reverse he
      rw [List.reverse_reverse] at this
      rw [this]
      simp
    rcases hd.par _ _ _ he' with h | ⟨p, hp, e⟩
    · exact .inl h
    · exact .inr ⟨p, by simpa using hp, e⟩

theorem order_bad {bl : List S46} {pv : List (List Int)} (hn : bl.length ≤ 14) (hv : validB bl pv = false) : ∃ k0, ∀ k, k0 ≤ k → dominator_Order.f k bl pv = some [] := by
  obtain ⟨k2, hk2⟩ := valid_ev bl pv hn
  refine ⟨k2, fun k hk => ?_⟩
  unfold dominator_Order.f
  rw [hk2 k hk, hv]
  rfl

/-- The ranks. -/
theorem rankL_run : ∀ (ord : List Int) (i : Nat) (rank : List Int), ord.Nodup → (∀ x ∈ ord, 0 ≤ x ∧ x < rank.length) → ∃ rank', rankL ord i rank = some rank' ∧ rank'.length = rank.length ∧ (∀ x : Int, 0 ≤ x → x ∉ ord → rd rank' x = rd rank x) ∧ ∀ l1 b l2, ord = l1 ++ b :: l2 → rd rank' b = i + l1.length
  | [], i, rank, _, _ => ⟨rank, rfl, rfl, fun _ _ _ => rfl, fun l1 b l2 h => by simp at h⟩
  | b :: r, i, rank, hnd, hr => by
    have hb := hr b List.mem_cons_self
    have hnd' := List.nodup_cons.1 hnd
    obtain ⟨rank', h1, h2, h3, h4⟩ := rankL_run r (i + 1) (rank.set b.toNat (i : Int)) hnd'.2 (fun x hx => by rw [List.length_set]; exact hr x (List.mem_cons_of_mem _ hx))
    have hset : ∀ x : Int, 0 ≤ x → rd (rank.set b.toNat (i : Int)) x = if x = b then (i : Int) else rd rank x := fun x hx => rd_set hb.1 hb.2 hx
    refine ⟨rank', ?_, by rw [h2, List.length_set], fun x hx hxn => ?_, fun l1 c l2 he => ?_⟩
    · rw [rankL, if_pos ⟨hb.1, hb.2⟩]
      exact h1
    · have := List.not_mem_of_not_mem_cons hxn
      rw [h3 x hx this, hset x hx, if_neg (fun e => hxn (by rw [e]; exact List.mem_cons_self))]
    · cases l1 with
      | nil =>
        injection he with e1 e2
        subst e1
        rw [h3 b hb.1 hnd'.1, hset b hb.1, if_pos rfl]
        simp
      | cons d l1 =>
        injection he with e1 e2
        have := h4 l1 c l2 e2
        rw [this]
        simp only [List.length_cons]
        omega

/-- The ranks of an order. -/
structure Rk (nx : List (List Int)) (n : Nat) (order rank : List Int) : Prop where
  len : rank.length = n
  out : ∀ x : Int, 0 ≤ x → x < n → ¬ Rc (Ed nx) (-1) x → rd rank x = -1
  pos : ∀ l1 b l2, order = l1 ++ b :: l2 → rd rank b = l1.length
theorem rank_ev {nx : List (List Int)} {n : Nat} (hn : 0 < n) (hE : ∀ a b, Ed nx a b → 0 ≤ b ∧ b < n) {order : List Int} (ho : Ord nx order) : ∃ rank, rankL order 0 (List.replicate n (-1)) = some rank ∧ Rk nx n order rank := by
  obtain ⟨rank, h1, h2, h3, h4⟩ := rankL_run order 0 (List.replicate n (-1)) ho.nodup (fun x hx => by
    rw [List.length_replicate]
    exact reach_range hn hE ((ho.mem x).1 hx))
  refine ⟨rank, h1, by rw [h2, List.length_replicate], fun x h0 h1 hx => ?_, fun l1 b l2 he => ?_⟩
  · rw [h3 x h0 (fun h => hx ((ho.mem x).1 h))]
    exact gD_rep _ h0 h1
  · have := h4 l1 b l2 he
    omega
theorem Rk.ranked {nx : List (List Int)} {n : Nat} {order rank : List Int} (h : Rk nx n order rank) (ho : Ord nx order) : Ranked (Ed nx) (rd rank) := by
  refine ⟨fun b hb => ?_, fun b hb hb0 => ?_⟩
  · obtain ⟨l1, l2, e⟩ := List.append_of_mem ((ho.mem b).2 hb)
    rw [h.pos _ _ _ e]
    omega
  · obtain ⟨l1, l2, e⟩ := List.append_of_mem ((ho.mem b).2 hb)
    rcases ho.before _ _ _ e with h0 | ⟨p, hp, he⟩
    · exact absurd h0 hb0
    · refine ⟨p, (ho.mem p).1 (by rw [e]; exact List.mem_append_left _ hp), he, ?_⟩
      obtain ⟨l3, l4, e3⟩ := List.append_of_mem hp
      have q : rd rank p = l3.length := h.pos l3 p (l4 ++ b :: l2) (by rw [e, e3]; simp)
      rw [q, h.pos _ _ _ e, e3]
      simp only [List.length_append, List.length_cons]
      omega
theorem Rk.inj {nx : List (List Int)} {n : Nat} {order rank : List Int} (h : Rk nx n order rank) (ho : Ord nx order) {a b : Int} (ha : Rc (Ed nx) (-1) a) (hb : Rc (Ed nx) (-1) b) (e : rd rank a = rd rank b) : a = b := by
  obtain ⟨l1, l2, e1⟩ := List.append_of_mem ((ho.mem a).2 ha)
  obtain ⟨l3, l4, e2⟩ := List.append_of_mem ((ho.mem b).2 hb)
  rw [h.pos _ _ _ e1, h.pos _ _ _ e2] at e
  have hl : l1.length = l3.length := by omega
  have := List.append_inj (e1.symm.trans e2) hl
  injection this.2
end Go.Proofs.Ytnkbmpdghjhlfaa.M
