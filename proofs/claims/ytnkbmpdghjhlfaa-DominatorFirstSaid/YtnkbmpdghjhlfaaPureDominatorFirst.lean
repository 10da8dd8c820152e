/- The plain law of DominatorFirst: the order begins with 0, holds every reached block once, and each immediate dominator before its block. No conditions. -/
import Derived.Test.YtnkbmpdghjhlfaaMFacts
import Derived.Test.YtnkbmpdghjhlfaaPxF
namespace Go.Proofs.Ytnkbmpdghjhlfaa.Pure
open Go.RowKit Go.Proofs.Ytnkbmpdghjhlfaa.P Go.Proofs.Ytnkbmpdghjhlfaa.M Go.Proofs.YtnkbmpdghjhlfaaW.PrintWords
set_option linter.unusedVariables false

/-- How many of a list stand below j. -/
def below (l : List Int) (j : Int) : Nat := (l.filter fun x => decide (x < j)).length
theorem below_step : ∀ (l : List Int) (j : Int), l.Nodup → below l (j + 1) = below l j + if j ∈ l then 1 else 0
  | [], j, _ => by simp [below]
  | x :: l, j, h => by
    have hn := List.nodup_cons.1 h
    have ih := below_step l j hn.2
    unfold below at ih ⊢
    rw [List.filter_cons, List.filter_cons]
    by_cases e : j = x
    · subst e
      rw [if_pos (by simp; omega), if_neg (by simp), if_pos List.mem_cons_self, List.length_cons, ih, if_neg hn.1]
    · by_cases c : x < j
      · rw [if_pos (by simp; omega), if_pos (by simp; omega), List.length_cons, List.length_cons, ih]
        by_cases m : j ∈ l
        · rw [if_pos m, if_pos (List.mem_cons_of_mem _ m)]
        · rw [if_neg m, if_neg (by simp [e, m])]
      · rw [if_neg (by simp; omega), if_neg (by simp; omega), ih]
        by_cases m : j ∈ l
        · rw [if_pos m, if_pos (List.mem_cons_of_mem _ m)]
        · rw [if_neg m, if_neg (by simp [e, m])]
theorem below_all (l : List Int) (j : Int) (h : ∀ x ∈ l, x < j) : below l j = l.length := by
  unfold below
  rw [List.filter_eq_self.2 (fun x hx => decide_eq_true (h x hx))]
theorem below_none (l : List Int) (h : ∀ x ∈ l, 0 ≤ x) : below l 0 = 0 := by
  unfold below
  rw [List.filter_eq_nil_iff.2 (fun x hx => by have := h x hx; simp; omega)]
  rfl
theorem below_le (l : List Int) (j : Int) : below l j ≤ l.length := List.length_filter_le _ _

section
variable {nx : List (List Int)} {order idom : List Int} {r : Int → Int} {s : List Bool}
theorem fs_l1 (g : Gr nx) (ho : Ord nx order) (hol : order.length ≤ nx.length) (ht : TreeOk nx nx.length idom) (hs : s.length = nx.length) (hin : ∀ b : Int, 0 ≤ b → (rdOf false s b = true ↔ Rd nx b))
    (hr : Ranked (Ed nx) r) (hlt : ∀ b, Rd nx b → r b < nx.length) (at_ : List Int) (hal : at_.length = nx.length) (hat : ∀ b, Rd nx b → rd at_ b = r b + 1) :
    ∀ (d p : Nat), p + d = nx.length → ∃ k, ontimelaw25_DominatorFirst.l1 k nx order idom s at_ (below order p : Nat) p = some true := by
  have h14 := g.n14
  intro d
  induction d with
  | zero =>
    intro p hp
    refine ⟨1, ?_⟩
    rw [ontimelaw25_DominatorFirst.l1, if_neg (by omega), below_all order p (fun x hx => by
      have := (reach_range g.n0 g.rng ((ho.mem x).1 hx)).2
      omega)]
    simp
  | succ d ih =>
    intro p hp
    have hst := below_step order p ho.nodup
    have hle := below_le order p
    obtain ⟨k, hk⟩ := ih (p + 1) (by omega)
    have hp0 : (0 : Int) ≤ (p : Int) := by omega
    have hpI : (p : Int) < (nx.length : Int) := by omega
    have hps : (p : Int) < (s.length : Int) := by omega
    have hpi : (p : Int) < (idom.length : Int) := by rw [ht.len]; exact hpI
    have hpa : (p : Int) < (at_.length : Int) := by omega
    have hp2 : p < 1000000000000000000 := by omega
    have hb2 : below order (p : Int) < 1000000000000000000 := by omega
    have e1 : (((p + 1 : Nat)) : Int) = (p : Int) + 1 := by omega
    rw [e1, hst] at hk
    refine ⟨k + 1, ?_⟩
    rw [ontimelaw25_DominatorFirst.l1, if_pos hpI, if_pos hp0, if_pos hps, wrapN hp2, wrapN hb2, e1]
    by_cases c : rdOf false s p = true
    · have hR := (hin p hp0).1 c
      rw [if_pos ((ho.mem _).2 hR)] at hk
      rw [if_pos c]
      by_cases hz : (p : Int) = 0
      · rw [if_pos hz]; exact hk
      · have hi := ht.idom _ hR hz
        have hRi : Rd nx (rd idom p) := dom_reached hi.2.1 hR
        have hir := reach_range g.n0 g.rng hRi
        have hrk := dom_rank hr (r p).toNat (rd idom p) p (Nat.le_refl _) hR hi.2.1 hi.1
        have h0 := hr.1 _ hRi
        have a1 := hat _ hRi
        have a2 := hat _ hR
        rw [if_neg hz, if_pos hpi, if_neg (by omega), if_neg (by omega), if_pos hir.1, if_pos (by omega), if_neg (by omega), if_pos hpa, if_neg (by omega)]
        exact hk
    · rw [if_neg (fun h => c ((hin p hp0).2 ((ho.mem _).1 h)))] at hk
      rw [if_neg c]
      exact hk
theorem fs_l0 (g : Gr nx) (ho : Ord nx order) (hol : order.length ≤ nx.length) (ht : TreeOk nx nx.length idom) (hs : s.length = nx.length) (hin : ∀ b : Int, 0 ≤ b → (rdOf false s b = true ↔ Rd nx b))
    (hr : Ranked (Ed nx) r) (hlt : ∀ b, Rd nx b → r b < nx.length) (hpos : ∀ l1 b l2, order = l1 ++ b :: l2 → r b = l1.length) :
    ∀ (l1 l2 at_ : List Int), order = l1 ++ l2 → at_.length = nx.length → (∀ b : Int, 0 ≤ b → b < nx.length → rd at_ b = if b ∈ l1 then r b + 1 else 0) →
    ∃ k, ontimelaw25_DominatorFirst.l0 k nx order idom s at_ l1.length = some true := by
  have h14 := g.n14
  intro l1 l2
  induction l2 generalizing l1 with
  | nil =>
    intro at_ e hal hat
    rw [List.append_nil] at e
    obtain ⟨k, hk⟩ := fs_l1 g ho hol ht hs hin hr hlt at_ hal (fun b hb => by
      have hbr := reach_range g.n0 g.rng hb
      rw [hat b hbr.1 hbr.2, if_pos (by rw [← e]; exact (ho.mem b).2 hb)]) nx.length 0 (by omega)
    have hz := below_none order (fun x hx => (reach_range g.n0 g.rng ((ho.mem x).1 hx)).1)
    have e0 : ((0 : Nat) : Int) = 0 := rfl
    rw [e0, hz] at hk
    refine ⟨k + 1, ?_⟩
    rw [ontimelaw25_DominatorFirst.l0, if_neg (by rw [e]; omega)]
    exact hk
  | cons b l2 ih =>
    intro at_ e hal hat
    have hlen : order.length = l1.length + (l2.length + 1) := by rw [e, List.length_append, List.length_cons]
    have hrb : r b = l1.length := hpos _ _ _ e
    have hrd : rd order (l1.length : Int) = b := by
      unfold rd
      rw [e, Int.toNat_natCast, List.getD_eq_getElem?_getD, List.getElem?_append_right (Nat.le_refl _), Nat.sub_self]
      rfl
    have hR : Rd nx b := (ho.mem b).1 (by rw [e]; simp)
    have hbr := reach_range g.n0 g.rng hR
    have hnd : b ∉ l1 := by
      have := ho.nodup
      rw [e] at this
      intro hm
      exact (List.nodup_append.1 this).2.2 b hm b List.mem_cons_self rfl
    have hab : rd at_ b = 0 := by rw [hat b hbr.1 hbr.2, if_neg hnd]
    have hlb : b < (at_.length : Int) := by omega
    obtain ⟨k, hk⟩ := ih (l1 ++ [b]) (at_.set b.toNat ((l1.length + 1 : Nat) : Int)) (by rw [e]; simp) (by rw [List.length_set]; exact hal) (fun x x0 x1 => by
      have hxs : rd (at_.set b.toNat ((l1.length + 1 : Nat) : Int)) x = if x = b then ((l1.length + 1 : Nat) : Int) else rd at_ x := rd_set hbr.1 hlb x0
      rw [hxs]
      by_cases c : x = b
      · rw [if_pos c, if_pos (by rw [c]; simp), c, hrb]; omega
      · rw [if_neg c, hat x x0 x1]
        by_cases m : x ∈ l1
        · rw [if_pos m, if_pos (List.mem_append_left _ m)]
        · rw [if_neg m, if_neg (by simp [m, c])])
    rw [List.length_append, List.length_singleton] at hk
    refine ⟨k + 1, ?_⟩
    have hw : l1.length < 1000000000000000000 := by omega
    rw [ontimelaw25_DominatorFirst.l0, if_pos (by omega), if_pos (by omega), hrd, if_neg (by omega), if_neg (by omega), if_pos hbr.1, if_pos hlb, hab, if_neg (by omega), if_pos (by omega), if_pos ((hin b hbr.1).2 hR), wrapN hw]
    exact hk
end

theorem DominatorFirst : ontimelaw25_DominatorFirst.Pure := by
  intro bl pv _ _
  obtain ⟨k1, h1⟩ := next_ev bl pv
  by_cases hv : bl.length ≤ 14 ∧ validB bl pv = true
  · have g := gr_of hv.1 hv.2
    have h14 := g.n14
    have hn0 := g.n0
    obtain ⟨order, idom, r, ⟨k2, h2⟩, ⟨k3, h3⟩, ho, hol, ht, hr, hlt, hpos, _⟩ := facts hv.1 hv.2
    obtain ⟨s, ⟨k4, h4⟩, hs, hin⟩ := g.reach (-1)
    rw [← rows_len bl] at hol
    obtain ⟨k5, h5⟩ := fs_l0 g ho hol ht hs hin hr (fun b hb => by rw [rows_len]; exact hlt b hb) hpos [] order (List.replicate (rowsOf bl).length 0) rfl (by simp) (fun b h0 h1 => by
      rw [if_neg (by simp)]
      exact gD_rep _ h0 h1)
    refine ⟨max (max k1 k2) (max k3 (max k4 k5)) + 1, ?_⟩
    unfold ontimelaw25_DominatorFirst.f
    rw [h1 _ (by omega), if_pos hv, h2 _ (by omega)]
    simp only [ontimelaw25_awake.f, Option.bind_some, if_true]
    rw [h3 _ (by omega)]
    simp only [Option.bind_some]
    rw [h4 _ (by omega)]
    simp only [Option.bind_some]
    obtain ⟨t, ht0⟩ := ho.head
    have e2 : ((idom.length : Int) != ((rowsOf bl).length : Int)) = false := by rw [ht.len]; simp
    have e3 : ¬ (order.length : Int) = 0 := by rw [ht0, List.length_cons]; omega
    have e4 : (0 : Int) < (order.length : Int) := by omega
    have e5 : rd order 0 = 0 := by rw [ht0]; rfl
    rw [if_neg e3, if_pos e4, if_pos e5, e2, ontimelaw25_DominatorFirst.j0, if_neg (by simp), if_pos (by omega), Int.toNat_natCast, if_pos (by omega)]
    exact at_rounds (fun k => (ontimelaw25_DominatorFirst.mono_l k).2.1 _ _ _ _ _ _) (by omega) h5
  · refine ⟨k1, ?_⟩
    unfold ontimelaw25_DominatorFirst.f
    rw [h1 _ (by omega), if_neg hv]
    simp [ontimelaw25_awake.f]
end Go.Proofs.Ytnkbmpdghjhlfaa.Pure
