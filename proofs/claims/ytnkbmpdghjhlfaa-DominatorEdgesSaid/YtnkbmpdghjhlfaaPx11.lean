/- Written by xprint.py: functions, proofs of contracts. -/
import Derived.Test.YtnkbmpdghjhlfaaPx0
import Derived.Test.YtnkbmpdghjhlfaaPx2
import Derived.Test.YtnkbmpdghjhlfaaPx3
import Derived.Test.YtnkbmpdghjhlfaaPxIn
import Derived.Test.YtnkbmpdghjhlfaaXTree
import Derived.Test.YtnkbmpdghjhlfaaXDom
import Derived.Test.YtnkbmpdghjhlfaaXGraph
import Derived.Test.YtnkbmpdghjhlfaaXAwake
namespace Go.Proofs.Ytnkbmpdghjhlfaa.P
open Go.RowKit Go.Proofs.YtnkbmpdghjhlfaaW.PrintWords Go.Proofs.YtnkbmpdghjhlfaaW.PrintLast Go.Proofs.YtnkbmpdghjhlfaaW.PrintMore
attribute [local go_sem] max2_int min2_int max_two min_two max_three min_three max_four min_four   -- for this text's walks alone
set_option linter.unusedVariables false
set_option linter.unusedSimpArgs false

/-! ### ontimelaw25_DominatorEdges: function 11 -/
mutual
def ontimelaw25_DominatorEdges.l0 : Nat → List (List Int) → List Int → List Bool → Int → Option (Bool)
 | 0, _, _, _, _ => none
 | k + 1, x3, x5, x6, x7 => if x7 < (x3.length : Int) then (ontimelaw25_DominatorEdges.l1 k x3 x5 x6 x7 0) else (ontimelaw25_DominatorEdges.l2 k x3 x5 1)
def ontimelaw25_DominatorEdges.l1 : Nat → List (List Int) → List Int → List Bool → Int → Int → Option (Bool)
 | 0, _, _, _, _, _ => none
 | k + 1, x3, x5, x6, x7, x8 => if 0 ≤ x7 then (if x7 < (x3.length : Int) then (if x8 < ((rd_L1 x3 x7).length : Int) then (if x7 < (x6.length : Int) then (ontimelaw25_DominatorEdges.j2 k x3 x5 x6 x7 x8 (rdOf false x6 x7)) else (none)) else (ontimelaw25_DominatorEdges.j2 k x3 x5 x6 x7 x8 false)) else (none)) else (none)
def ontimelaw25_DominatorEdges.j2 : Nat → List (List Int) → List Int → List Bool → Int → Int → Bool → Option (Bool)
 | 0, _, _, _, _, _, _ => none
 | k + 1, x3, x5, x6, x7, x8, x49 => if x49 = true then (if 0 ≤ x7 then (if x7 < (x3.length : Int) then (if 0 ≤ x8 then (if x8 < ((rd_L1 x3 x7).length : Int) then (if (rd (rd_L1 x3 x7) x8) > 0 then (if 0 ≤ (rd (rd_L1 x3 x7) x8) then (if (rd (rd_L1 x3 x7) x8) < (x5.length : Int) then ((dominator_Dominates.f x5 (rd x5 (rd (rd_L1 x3 x7) x8)) x7).bind fun t358 => (if t358 = true then (ontimelaw25_DominatorEdges.l1 k x3 x5 x6 x7 (wrap64 (x8 + 1))) else (some false))) else (none)) else (none)) else (ontimelaw25_DominatorEdges.l1 k x3 x5 x6 x7 (wrap64 (x8 + 1)))) else (none)) else (none)) else (none)) else (none)) else (ontimelaw25_DominatorEdges.l0 k x3 x5 x6 (wrap64 (x7 + 1)))
def ontimelaw25_DominatorEdges.l2 : Nat → List (List Int) → List Int → Int → Option (Bool)
 | 0, _, _, _ => none
 | k + 1, x3, x5, x10 => if x10 < (x3.length : Int) then (if 0 ≤ x10 then (if x10 < (x5.length : Int) then (if (rd x5 x10) < 0 then (ontimelaw25_DominatorEdges.j4 k x3 x5 x10 (rd x5 x10) true) else (if (rd x5 x10) ≥ (x3.length : Int) then (ontimelaw25_DominatorEdges.j4 k x3 x5 x10 (rd x5 x10) true) else (if 0 ≤ (rd x5 x10) then (if (rd x5 x10) < (x3.length : Int) then (if ((rd_L1 x3 (rd x5 x10)).length : Int) > 1 then (ontimelaw25_DominatorEdges.j4 k x3 x5 x10 (rd x5 x10) true) else ((ontimeref25_In.f k (rd_L1 x3 (rd x5 x10)) x10).bind fun t362 => (ontimelaw25_DominatorEdges.j4 k x3 x5 x10 (rd x5 x10) t362))) else (none)) else (none)))) else (none)) else (none)) else (some true)
def ontimelaw25_DominatorEdges.j4 : Nat → List (List Int) → List Int → Int → Int → Bool → Option (Bool)
 | 0, _, _, _, _, _ => none
 | k + 1, x3, x5, x10, x11, x104 => if x104 = true then (ontimelaw25_DominatorEdges.l2 k x3 x5 (wrap64 (x10 + 1))) else ((some (([] : List (List Int)) : List (List Int))).bind fun y363 => (if y363.length + x3.length < 5864062014805 then ((some (y363 ++ x3 : List (List Int))).bind fun y366 => ((some (([] : List Int) : List Int)).bind fun y369 => (if 0 ≤ x11 then (if x11 < (x3.length : Int) then (if y369.length + (rd_L1 x3 x11).length < 17592186044416 then ((some (y369 ++ (rd_L1 x3 x11) : List Int)).bind fun y373 => (if y373.length < 17592186044416 then (if x11 < (y366.length : Int) then ((ontimelaw25_Graph.f (y366.set (x11 : Int).toNat (y373 ++ [x10]))).bind fun bt380 => ((dominator_Tree.f k bt380.1 bt380.2).bind fun t386 => ((ontimeref25_Ints.f k t386 x5).bind fun t389 => (if t389 = true then (some true) else (some false))))) else (none)) else (none))) else (none)) else (none)) else (none)))) else (none)))
end
def ontimelaw25_DominatorEdges.f (k : Nat) (l0_0 : List (S46)) (l0_1 : List (List Int)) : Option (Bool) := (ontimelaw25_awake.f).bind fun t342 => (if t342 = true then ((ontimelaw25_next.f k l0_0 l0_1).bind fun bt343 => (if bt343.2 = true then ((dominator_Tree.f k l0_0 l0_1).bind fun t347 => ((ontimeref25_Reach.f k bt343.1 (-1)).bind fun t350 => (if (t347.length : Int) = (bt343.1.length : Int) then (ontimelaw25_DominatorEdges.l0 k bt343.1 t347 t350 0) else (some false)))) else (some true))) else (some false))
theorem ontimelaw25_DominatorEdges.mono_l : ∀ k, (∀ y0 y1 y2 y3, LeO (ontimelaw25_DominatorEdges.l0 k y0 y1 y2 y3) (ontimelaw25_DominatorEdges.l0 (k + 1) y0 y1 y2 y3)) ∧ (∀ y0 y1 y2 y3 y4, LeO (ontimelaw25_DominatorEdges.l1 k y0 y1 y2 y3 y4) (ontimelaw25_DominatorEdges.l1 (k + 1) y0 y1 y2 y3 y4)) ∧ (∀ y0 y1 y2 y3 y4 y5, LeO (ontimelaw25_DominatorEdges.j2 k y0 y1 y2 y3 y4 y5) (ontimelaw25_DominatorEdges.j2 (k + 1) y0 y1 y2 y3 y4 y5)) ∧ (∀ y0 y1 y2, LeO (ontimelaw25_DominatorEdges.l2 k y0 y1 y2) (ontimelaw25_DominatorEdges.l2 (k + 1) y0 y1 y2)) ∧ (∀ y0 y1 y2 y3 y4, LeO (ontimelaw25_DominatorEdges.j4 k y0 y1 y2 y3 y4) (ontimelaw25_DominatorEdges.j4 (k + 1) y0 y1 y2 y3 y4))
 | 0 => ⟨fun _ _ _ _ r h => by simp [ontimelaw25_DominatorEdges.l0] at h, fun _ _ _ _ _ r h => by simp [ontimelaw25_DominatorEdges.l1] at h, fun _ _ _ _ _ _ r h => by simp [ontimelaw25_DominatorEdges.j2] at h, fun _ _ _ r h => by simp [ontimelaw25_DominatorEdges.l2] at h, fun _ _ _ _ _ r h => by simp [ontimelaw25_DominatorEdges.j4] at h⟩
 | k + 1 => by
  obtain ⟨ih0, ih1, ih2, ih3, ih4⟩ := ontimelaw25_DominatorEdges.mono_l k
  refine ⟨?_, ?_, ?_, ?_, ?_⟩
  ·intro y0 y1 y2 y3
   unfold ontimelaw25_DominatorEdges.l0
   repeat' first
   | (with_reducible exact ih0 _ _ _ _)
   | (with_reducible exact ih1 _ _ _ _ _)
   | (with_reducible exact ih2 _ _ _ _ _ _)
   | (with_reducible exact ih3 _ _ _)
   | (with_reducible exact ih4 _ _ _ _ _)
   | (with_reducible exact dominator_Tree.mono _ _ _)
   | (with_reducible exact ontimelaw25_next.mono _ _ _)
   | (with_reducible exact ontimeref25_In.mono _ _ _)
   | (with_reducible exact ontimeref25_Ints.mono _ _ _)
   | (with_reducible exact ontimeref25_Reach.mono _ _ _)
   | (with_reducible exact LeO.refl _)
   | (with_reducible exact LeO.none _)
   | (with_reducible refine LeO.ite ?_ ?_)
   | (with_reducible refine LeO.bind ?_ (fun _ => ?_))
   | exact ih0 _ _ _ _
   | exact ih1 _ _ _ _ _
   | exact ih2 _ _ _ _ _ _
   | exact ih3 _ _ _
   | exact ih4 _ _ _ _ _
   | exact dominator_Tree.mono _ _ _
   | exact ontimelaw25_next.mono _ _ _
   | exact ontimeref25_In.mono _ _ _
   | exact ontimeref25_Ints.mono _ _ _
   | exact ontimeref25_Reach.mono _ _ _
   | exact LeO.none _
   | refine LeO.ite ?_ ?_
   | refine LeO.bind ?_ (fun _ => ?_)
  ·intro y0 y1 y2 y3 y4
   unfold ontimelaw25_DominatorEdges.l1
   repeat' first
   | (with_reducible exact ih0 _ _ _ _)
   | (with_reducible exact ih1 _ _ _ _ _)
   | (with_reducible exact ih2 _ _ _ _ _ _)
   | (with_reducible exact ih3 _ _ _)
   | (with_reducible exact ih4 _ _ _ _ _)
   | (with_reducible exact dominator_Tree.mono _ _ _)
   | (with_reducible exact ontimelaw25_next.mono _ _ _)
   | (with_reducible exact ontimeref25_In.mono _ _ _)
   | (with_reducible exact ontimeref25_Ints.mono _ _ _)
   | (with_reducible exact ontimeref25_Reach.mono _ _ _)
   | (with_reducible exact LeO.refl _)
   | (with_reducible exact LeO.none _)
   | (with_reducible refine LeO.ite ?_ ?_)
   | (with_reducible refine LeO.bind ?_ (fun _ => ?_))
   | exact ih0 _ _ _ _
   | exact ih1 _ _ _ _ _
   | exact ih2 _ _ _ _ _ _
   | exact ih3 _ _ _
   | exact ih4 _ _ _ _ _
   | exact dominator_Tree.mono _ _ _
   | exact ontimelaw25_next.mono _ _ _
   | exact ontimeref25_In.mono _ _ _
   | exact ontimeref25_Ints.mono _ _ _
   | exact ontimeref25_Reach.mono _ _ _
   | exact LeO.none _
   | refine LeO.ite ?_ ?_
   | refine LeO.bind ?_ (fun _ => ?_)
  ·intro y0 y1 y2 y3 y4 y5
   unfold ontimelaw25_DominatorEdges.j2
   repeat' first
   | (with_reducible exact ih0 _ _ _ _)
   | (with_reducible exact ih1 _ _ _ _ _)
   | (with_reducible exact ih2 _ _ _ _ _ _)
   | (with_reducible exact ih3 _ _ _)
   | (with_reducible exact ih4 _ _ _ _ _)
   | (with_reducible exact dominator_Tree.mono _ _ _)
   | (with_reducible exact ontimelaw25_next.mono _ _ _)
   | (with_reducible exact ontimeref25_In.mono _ _ _)
   | (with_reducible exact ontimeref25_Ints.mono _ _ _)
   | (with_reducible exact ontimeref25_Reach.mono _ _ _)
   | (with_reducible exact LeO.refl _)
   | (with_reducible exact LeO.none _)
   | (with_reducible refine LeO.ite ?_ ?_)
   | (with_reducible refine LeO.bind ?_ (fun _ => ?_))
   | exact ih0 _ _ _ _
   | exact ih1 _ _ _ _ _
   | exact ih2 _ _ _ _ _ _
   | exact ih3 _ _ _
   | exact ih4 _ _ _ _ _
   | exact dominator_Tree.mono _ _ _
   | exact ontimelaw25_next.mono _ _ _
   | exact ontimeref25_In.mono _ _ _
   | exact ontimeref25_Ints.mono _ _ _
   | exact ontimeref25_Reach.mono _ _ _
   | exact LeO.none _
   | refine LeO.ite ?_ ?_
   | refine LeO.bind ?_ (fun _ => ?_)
  ·intro y0 y1 y2
   unfold ontimelaw25_DominatorEdges.l2
   repeat' first
   | (with_reducible exact ih0 _ _ _ _)
   | (with_reducible exact ih1 _ _ _ _ _)
   | (with_reducible exact ih2 _ _ _ _ _ _)
   | (with_reducible exact ih3 _ _ _)
   | (with_reducible exact ih4 _ _ _ _ _)
   | (with_reducible exact dominator_Tree.mono _ _ _)
   | (with_reducible exact ontimelaw25_next.mono _ _ _)
   | (with_reducible exact ontimeref25_In.mono _ _ _)
   | (with_reducible exact ontimeref25_Ints.mono _ _ _)
   | (with_reducible exact ontimeref25_Reach.mono _ _ _)
   | (with_reducible exact LeO.refl _)
   | (with_reducible exact LeO.none _)
   | (with_reducible refine LeO.ite ?_ ?_)
   | (with_reducible refine LeO.bind ?_ (fun _ => ?_))
   | exact ih0 _ _ _ _
   | exact ih1 _ _ _ _ _
   | exact ih2 _ _ _ _ _ _
   | exact ih3 _ _ _
   | exact ih4 _ _ _ _ _
   | exact dominator_Tree.mono _ _ _
   | exact ontimelaw25_next.mono _ _ _
   | exact ontimeref25_In.mono _ _ _
   | exact ontimeref25_Ints.mono _ _ _
   | exact ontimeref25_Reach.mono _ _ _
   | exact LeO.none _
   | refine LeO.ite ?_ ?_
   | refine LeO.bind ?_ (fun _ => ?_)
  ·intro y0 y1 y2 y3 y4
   unfold ontimelaw25_DominatorEdges.j4
   repeat' first
   | (with_reducible exact ih0 _ _ _ _)
   | (with_reducible exact ih1 _ _ _ _ _)
   | (with_reducible exact ih2 _ _ _ _ _ _)
   | (with_reducible exact ih3 _ _ _)
   | (with_reducible exact ih4 _ _ _ _ _)
   | (with_reducible exact dominator_Tree.mono _ _ _)
   | (with_reducible exact ontimelaw25_next.mono _ _ _)
   | (with_reducible exact ontimeref25_In.mono _ _ _)
   | (with_reducible exact ontimeref25_Ints.mono _ _ _)
   | (with_reducible exact ontimeref25_Reach.mono _ _ _)
   | (with_reducible exact LeO.refl _)
   | (with_reducible exact LeO.none _)
   | (with_reducible refine LeO.ite ?_ ?_)
   | (with_reducible refine LeO.bind ?_ (fun _ => ?_))
   | exact ih0 _ _ _ _
   | exact ih1 _ _ _ _ _
   | exact ih2 _ _ _ _ _ _
   | exact ih3 _ _ _
   | exact ih4 _ _ _ _ _
   | exact dominator_Tree.mono _ _ _
   | exact ontimelaw25_next.mono _ _ _
   | exact ontimeref25_In.mono _ _ _
   | exact ontimeref25_Ints.mono _ _ _
   | exact ontimeref25_Reach.mono _ _ _
   | exact LeO.none _
   | refine LeO.ite ?_ ?_
   | refine LeO.bind ?_ (fun _ => ?_)
theorem ontimelaw25_DominatorEdges.mono : ∀ a0 a1 k, LeO (ontimelaw25_DominatorEdges.f k a0 a1) (ontimelaw25_DominatorEdges.f (k + 1) a0 a1) := by
 intro a0 a1 k
 obtain ⟨ih0, ih1, ih2, ih3, ih4⟩ := ontimelaw25_DominatorEdges.mono_l k
 unfold ontimelaw25_DominatorEdges.f
 repeat' first
   | (with_reducible exact ih0 _ _ _ _)
   | (with_reducible exact ih1 _ _ _ _ _)
   | (with_reducible exact ih2 _ _ _ _ _ _)
   | (with_reducible exact ih3 _ _ _)
   | (with_reducible exact ih4 _ _ _ _ _)
   | (with_reducible exact dominator_Tree.mono _ _ _)
   | (with_reducible exact ontimelaw25_next.mono _ _ _)
   | (with_reducible exact ontimeref25_In.mono _ _ _)
   | (with_reducible exact ontimeref25_Ints.mono _ _ _)
   | (with_reducible exact ontimeref25_Reach.mono _ _ _)
   | (with_reducible exact LeO.refl _)
   | (with_reducible exact LeO.none _)
   | (with_reducible refine LeO.ite ?_ ?_)
   | (with_reducible refine LeO.bind ?_ (fun _ => ?_))
   | exact ih0 _ _ _ _
   | exact ih1 _ _ _ _ _
   | exact ih2 _ _ _ _ _ _
   | exact ih3 _ _ _
   | exact ih4 _ _ _ _ _
   | exact dominator_Tree.mono _ _ _
   | exact ontimelaw25_next.mono _ _ _
   | exact ontimeref25_In.mono _ _ _
   | exact ontimeref25_Ints.mono _ _ _
   | exact ontimeref25_Reach.mono _ _ _
   | exact LeO.none _
   | refine LeO.ite ?_ ?_
   | refine LeO.bind ?_ (fun _ => ?_)
set_option maxHeartbeats 8000000 in
set_option maxRecDepth 100000 in
theorem ontimelaw25_DominatorEdges.calls (k : Nat) (A0_0 : Option Addr) (c0_0 : Nat) (l0_0 : List (S46)) (A0_1 : Option Addr) (c0_1 : Nat) (l0_1 : List (List Int)) (r : Bool) (w : World) (hr0_0 : Kd.C k46 w A0_0 l0_0.length l0_0) (hc0_0 : l0_0.length ≤ c0_0) (hr0_1 : Kd.C (Kd.slice 3 (Kd.int .i64)) w A0_1 l0_1.length l0_1) (hc0_1 : l0_1.length ≤ c0_1) (h : ontimelaw25_DominatorEdges.f k l0_0 l0_1 = some r) :
  Calls Try.prog 11 #[.agg #[.slice A0_0 l0_0.length c0_0, .slice A0_1 l0_1.length c0_1]] w fun e w' => e = .returned (.bool r) ∧ Below w.heap.size w w' := by
 have hu25 := Try.underlying25
 have HR0_0 := Aside0.mk hr0_0
 have HC0_0 := Aside0.mk hc0_0
 clear hr0_0 hc0_0
 have HR0_1 := Aside0.mk hr0_1
 have HC0_1 := Aside0.mk hc0_1
 clear hr0_1 hc0_1
 have HB := Aside0.mk (Below.refl w.heap.size w)
 have H : ((ontimelaw25_awake.f).bind fun t342 => (if t342 = true then ((ontimelaw25_next.f k l0_0 l0_1).bind fun bt343 => (if bt343.2 = true then ((dominator_Tree.f k l0_0 l0_1).bind fun t347 => ((ontimeref25_Reach.f k bt343.1 (-1)).bind fun t350 => (if (t347.length : Int) = (bt343.1.length : Int) then (ontimelaw25_DominatorEdges.l0 k bt343.1 t347 t350 0) else (some false)))) else (some true))) else (some false))) = some r := h
 clear h
 replace H := Option.bind_eq_some_iff.mp H
 obtain ⟨t342, A20, H⟩ := H
 replace H : (if t342 = true then ((ontimelaw25_next.f k l0_0 l0_1).bind fun bt343 => (if bt343.2 = true then ((dominator_Tree.f k l0_0 l0_1).bind fun t347 => ((ontimeref25_Reach.f k bt343.1 (-1)).bind fun t350 => (if (t347.length : Int) = (bt343.1.length : Int) then (ontimelaw25_DominatorEdges.l0 k bt343.1 t347 t350 0) else (some false)))) else (some true))) else (some false)) = some r := H
 have A2 := Aside0.mk A20
 clear A20
 by_cases c3 : t342 = true
 ·subst c3
  have H1 : ((ontimelaw25_next.f k l0_0 l0_1).bind fun bt343 => (if bt343.2 = true then ((dominator_Tree.f k l0_0 l0_1).bind fun t347 => ((ontimeref25_Reach.f k bt343.1 (-1)).bind fun t350 => (if (t347.length : Int) = (bt343.1.length : Int) then (ontimelaw25_DominatorEdges.l0 k bt343.1 t347 t350 0) else (some false)))) else (some true))) = some r := by rw [if_pos rfl] at H; exact H
  clear H
  have H := H1
  clear H1
  replace H := Option.bind_eq_some_iff.mp H
  obtain ⟨⟨t343, t346⟩, A40, H⟩ := H
  replace H : (if t346 = true then ((dominator_Tree.f k l0_0 l0_1).bind fun t347 => ((ontimeref25_Reach.f k t343 (-1)).bind fun t350 => (if (t347.length : Int) = (t343.length : Int) then (ontimelaw25_DominatorEdges.l0 k t343 t347 t350 0) else (some false)))) else (some true)) = some r := H
  have A4 := Aside0.mk A40
  clear A40
  by_cases c5 : t346 = true
  ·subst c5
   have H1 : ((dominator_Tree.f k l0_0 l0_1).bind fun t347 => ((ontimeref25_Reach.f k t343 (-1)).bind fun t350 => (if (t347.length : Int) = (t343.length : Int) then (ontimelaw25_DominatorEdges.l0 k t343 t347 t350 0) else (some false)))) = some r := by rw [if_pos rfl] at H; exact H
   clear H
   have H := H1
   clear H1
   replace H := Option.bind_eq_some_iff.mp H
   obtain ⟨t347, A60, H⟩ := H
   replace H : ((ontimeref25_Reach.f k t343 (-1)).bind fun t350 => (if (t347.length : Int) = (t343.length : Int) then (ontimelaw25_DominatorEdges.l0 k t343 t347 t350 0) else (some false))) = some r := H
   have A6 := Aside0.mk A60
   clear A60
   replace H := Option.bind_eq_some_iff.mp H
   obtain ⟨t350, A70, H⟩ := H
   replace H : (if (t347.length : Int) = (t343.length : Int) then (ontimelaw25_DominatorEdges.l0 k t343 t347 t350 0) else (some false)) = some r := H
   have A7 := Aside0.mk A70
   clear A70
   by_cases c8 : (t347.length : Int) = (t343.length : Int)
   ·rw [if_pos c8] at H
    have c8b0 : ((t347.length : Int) == (t343.length : Int)) = true := beq_iff_eq.mpr c8
    have c8b1 : ((t347.length : Int) != (t343.length : Int)) = false := bne_eq_false_iff_eq.mpr c8
    have c8b2 : (t347.length == t343.length) = true := by first | simpa using c8 | (simp at c8 ⊢; omega)
    clear c8
    have H' := Aside0.mk H
    clear H
    go_enter Try.func11, Try.ntmps11
    go_wp2_with (first | ((with_reducible refine gate_dst (N := 1) rfl ?_); (try (refine gate_guard (by rfl) ?_; dsimp only)); refine box_event ?hg (N := 1) ?hd (cs := #[.slice A0_0 l0_0.length c0_0, .slice A0_1 l0_1.length c0_1]) (t := 25) ?hr ?_; (case hd => rfl); (case hg => rfl); (case hr => first | (go_simp; done) | (go_simp; rfl)); intro gb341 hg w9 hbox hb; have n0_ := Aside0.mk (below_step (by repeat (first | (with_reducible first | exact HB.out | apply below_alloc | apply pw_below_drewN | apply below_drew1) | exact HB.out)) hb); have n1_ := Aside0.mk (hbox); have n2_ := Aside0.mk ((by rw [hg]; exact (below_size (by repeat (first | (with_reducible first | exact HB.out | apply below_alloc | apply pw_below_drewN | apply below_drew1) | exact HB.out))) : w.heap.size ≤ gb341)); have n3_ := Aside0.mk ((by rw [hg]; exact (below_size (by repeat (first | (with_reducible first | exact HB.out | apply below_alloc | apply pw_below_drewN | apply below_drew1) | exact HB.out))) : w.heap.size ≤ gb341)); clear HB; have HB := n0_; have BK341 := n1_; have GW341 := n2_; have GE341 := n3_; clear n0_ n1_ n2_ n3_; clear hb hbox hg) | ((with_reducible refine gate_callee (f := 12) rfl ?_); refine goesL_ (some 13) rfl rfl Try.func12 (by kernel_rfl) rfl #[] rfl (by (try simp only [List.map_toArray, List.map_cons, List.map_nil]); first | done | rfl | (simp only [List.length_drop, List.length_take]; rfl)) ?_; (with_reducible refine (ontimelaw25_awake.calls  true _ A2.out).mono ?_); rintro e w10 ⟨rfl, hb⟩; refine ⟨_, rfl, ?_⟩; have n0_ := Aside0.mk (blk_below (g := gb341) (o := .cells #[.slice A0_0 l0_0.length c0_0, .slice A0_1 l0_1.length c0_1] 25 (0, 0)) (by (with_reducible repeat (first | refine blk_drewN ?_ _ | refine blk_drew ?_ | refine blk_alloc ?_ _)); exact BK341.out) hb); have n1_ := Aside0.mk (below_step (by repeat (first | (with_reducible first | exact HB.out | apply below_alloc | apply pw_below_drewN | apply below_drew1 | refine below_set ?_ GE341.out) | exact HB.out)) hb); clear BK341; clear HB; have BK341 := n0_; have HB := n1_; clear n0_ n1_; (try clear hb); (try clear hb2); (try clear hk); (try clear hi); have hcz11_0 : w10.cell? ⟨gb341, 0, none⟩ = some (.slice A0_0 l0_0.length c0_0) := (blk_cell BK341.out 0).trans rfl; have hcz11_1 : w10.cell? ⟨gb341, 1, none⟩ = some (.slice A0_1 l0_1.length c0_1) := (blk_cell BK341.out 1).trans rfl; have hfz11_0 := blk_frozen BK341.out 0; have hfz11_1 := blk_frozen BK341.out 1) | ((with_reducible refine gate_callee (f := 13) rfl ?_); refine goesL_ (some 17) rfl rfl Try.func13 (by kernel_rfl) rfl #[.agg #[.slice A0_0 l0_0.length c0_0, .slice A0_1 l0_1.length c0_1]] rfl (by (try simp only [List.map_toArray, List.map_cons, List.map_nil]); first | done | rfl | (simp only [List.length_drop, List.length_take]; rfl)) ?_; (with_reducible refine (ontimelaw25_next.calls k (fun k_ => k_ < w.heap.size) _ _ l0_0 _ _ l0_1 t343 true _ ?side1 ?side2 ?side3 A4.out).mono ?_); (case side1 => exact Kd.V_mk HC0_0.out (Kd.F_below (Kd.C_F k46_heap HR0_0.out) (by repeat (first | (with_reducible first | exact HB.out | apply below_alloc | apply pw_below_drewN | apply below_drew1 | refine below_set ?_ GE341.out) | exact HB.out)))); (case side2 => repeat (first | exact (Kd.C_below HR0_1.out HB.out) | (with_reducible refine Kd.C_alloc ?_ _) | (with_reducible refine Kd.C_drewN ?_ _) | (with_reducible refine Kd.C_drew ?_))); (case side3 => exact HC0_1.out); rintro e w12 ⟨v344, rfl, ho0, hb⟩; refine ⟨_, rfl, ?_⟩; have n0_ := Aside0.mk (Kd.N_lower (Kd.N_mono (ok' := fun k_ => k_ ≠ gb341) ho0 (fun k_ hk_ => Or.elim hk_ (fun hs_ => fun e_ => Nat.not_le.2 hs_ (by rw [e_]; exact GW341.out)) (fun hn_ => (Kd.freshB (g := gb341) (o := .cells #[.slice A0_0 l0_0.length c0_0, .slice A0_1 l0_1.length c0_1] 25 (0, 0)) (by (with_reducible repeat (first | refine blk_drewN ?_ _ | refine blk_drew ?_ | refine blk_alloc ?_ _)); exact BK341.out) k_ hn_)))) (below_size (by repeat (first | (with_reducible first | exact HB.out | apply below_alloc | apply pw_below_drewN | apply below_drew1 | refine below_set ?_ GE341.out) | exact HB.out)))); have n1_ := Aside0.mk (blk_below (g := gb341) (o := .cells #[.slice A0_0 l0_0.length c0_0, .slice A0_1 l0_1.length c0_1] 25 (0, 0)) (by (with_reducible repeat (first | refine blk_drewN ?_ _ | refine blk_drew ?_ | refine blk_alloc ?_ _)); exact BK341.out) hb); have n2_ := Aside0.mk (below_step (by repeat (first | (with_reducible first | exact HB.out | apply below_alloc | apply pw_below_drewN | apply below_drew1 | refine below_set ?_ GE341.out) | exact HB.out)) hb); clear BK341; clear HB; have HO345 := n0_; have BK341 := n1_; have HB := n2_; clear n0_ n1_ n2_; (try clear hb); (try clear hb2); (try clear hk); (try clear hi); (try clear ho0); have hcz13_0 : w12.cell? ⟨gb341, 0, none⟩ = some (.slice A0_0 l0_0.length c0_0) := (blk_cell BK341.out 0).trans rfl; have hcz13_1 : w12.cell? ⟨gb341, 1, none⟩ = some (.slice A0_1 l0_1.length c0_1) := (blk_cell BK341.out 1).trans rfl; have hfz13_0 := blk_frozen BK341.out 0; have hfz13_1 := blk_frozen BK341.out 1) | ((with_reducible refine gate_callee (f := 14) rfl ?_); refine goesL_ (some 23) rfl rfl Try.func14 (by kernel_rfl) rfl #[.agg #[.slice A0_0 l0_0.length c0_0, .slice A0_1 l0_1.length c0_1]] rfl (by (try simp only [List.map_toArray, List.map_cons, List.map_nil]); first | done | rfl | (simp only [List.length_drop, List.length_take]; rfl)) ?_; (with_reducible refine (dominator_Tree.calls k _ _ l0_0 _ _ l0_1 t347 _ ?side1 ?side2 ?side3 ?side4 A6.out).mono ?_); (case side1 => repeat (first | exact (Kd.C_below HR0_0.out HB.out) | (with_reducible refine Kd.C_alloc ?_ _) | (with_reducible refine Kd.C_drewN ?_ _) | (with_reducible refine Kd.C_drew ?_))); (case side2 => exact HC0_0.out); (case side3 => repeat (first | exact (Kd.C_below HR0_1.out HB.out) | (with_reducible refine Kd.C_alloc ?_ _) | (with_reducible refine Kd.C_drewN ?_ _) | (with_reducible refine Kd.C_drew ?_))); (case side4 => exact HC0_1.out); rintro e w14 ⟨v348, rfl, ho0, hb⟩; refine ⟨_, rfl, ?_⟩; have n0_ := Aside0.mk (Kd.N_elder' (by (with_reducible repeat (first | apply Kd.N_alloc | apply Kd.N_drewN | apply Kd.N_drew)); exact HO345.out) (Kd.R_base ho0) hb); have n1_ := Aside0.mk (Kd.R_lower ho0 (below_size (by repeat (first | (with_reducible first | exact HB.out | apply below_alloc | apply pw_below_drewN | apply below_drew1 | refine below_set ?_ GE341.out) | exact HB.out)))); have n2_ := Aside0.mk (blk_below (g := gb341) (o := .cells #[.slice A0_0 l0_0.length c0_0, .slice A0_1 l0_1.length c0_1] 25 (0, 0)) (by (with_reducible repeat (first | refine blk_drewN ?_ _ | refine blk_drew ?_ | refine blk_alloc ?_ _)); exact BK341.out) hb); have n3_ := Aside0.mk (below_step (by repeat (first | (with_reducible first | exact HB.out | apply below_alloc | apply pw_below_drewN | apply below_drew1 | refine below_set ?_ GE341.out) | exact HB.out)) hb); clear HO345; clear BK341; clear HB; have HO345 := n0_; have HO349 := n1_; have BK341 := n2_; have HB := n3_; clear n0_ n1_ n2_ n3_; (try clear hb); (try clear hb2); (try clear hk); (try clear hi); (try clear ho0); obtain ⟨Ao15, co15, eo15⟩ := Kd.N_slice HO345.out; subst eo15) | ((with_reducible refine gate_callee (f := 20) rfl ?_); refine goesL_ (some 25) rfl rfl Try.func20 (by kernel_rfl) rfl #[.slice Ao15 t343.length co15, .int .i64 (-1)] rfl (by (try simp only [List.map_toArray, List.map_cons, List.map_nil]); first | done | rfl | (simp only [List.length_drop, List.length_take]; rfl)) ?_; (with_reducible refine (ontimeref25_Reach.calls k _ _ t343 (-1) t350 _ ?side1 ?side2 A7.out).mono ?_); (case side1 => repeat (first | exact (Kd.N_reads' HO345.out).2.2 | (with_reducible refine Kd.C_alloc ?_ _) | (with_reducible refine Kd.C_drewN ?_ _) | (with_reducible refine Kd.C_drew ?_))); (case side2 => exact (Kd.N_reads' HO345.out).2.1); rintro e w16 ⟨v351, rfl, ho0, hb⟩; refine ⟨_, rfl, ?_⟩; have n0_ := Aside0.mk (Kd.N_elder' (by (with_reducible repeat (first | apply Kd.N_alloc | apply Kd.N_drewN | apply Kd.N_drew)); exact HO345.out) (Kd.R_base ho0) hb); have n1_ := Aside0.mk (Kd.R_below (by (with_reducible repeat (first | apply Kd.R_alloc | apply Kd.R_drewN | apply Kd.R_drew)); exact HO349.out) hb); have n2_ := Aside0.mk (Kd.R_lower ho0 (below_size (by repeat (first | (with_reducible first | exact HB.out | apply below_alloc | apply pw_below_drewN | apply below_drew1 | refine below_set ?_ GE341.out) | exact HB.out)))); have n3_ := Aside0.mk (blk_below (g := gb341) (o := .cells #[.slice A0_0 l0_0.length c0_0, .slice A0_1 l0_1.length c0_1] 25 (0, 0)) (by (with_reducible repeat (first | refine blk_drewN ?_ _ | refine blk_drew ?_ | refine blk_alloc ?_ _)); exact BK341.out) hb); have n4_ := Aside0.mk (below_step (by repeat (first | (with_reducible first | exact HB.out | apply below_alloc | apply pw_below_drewN | apply below_drew1 | refine below_set ?_ GE341.out) | exact HB.out)) hb); clear HO345; clear HO349; clear BK341; clear HB; have HO345 := n0_; have HO349 := n1_; have HO352 := n2_; have BK341 := n3_; have HB := n4_; clear n0_ n1_ n2_ n3_ n4_; (try clear hb); (try clear hb2); (try clear hk); (try clear hi); (try clear ho0); obtain ⟨Ao17, co17, eo17⟩ := Kd.R_slice HO349.out; subst eo17))
    go_loopg [7] k (fun kq v7 w' => ∃ (x7_1 : Int), v7 = .int .i64 x7_1 ∧ Aside0 (ontimelaw25_DominatorEdges.l0 kq t343 t347 t350 x7_1 = some r) ∧ Aside0 (kq ≤ k) ∧ Aside0 (Kd.N (Kd.slice 3 (Kd.int .i64)) 29 w' w.heap.size (fun k_ => some k_ ≠ ((.slice Ao17 t347.length co17) : Value).ownBlock ∧ some k_ ≠ (v351 : Value).ownBlock ∧ k_ ≠ gb341) (.slice Ao15 t343.length co15) t343) ∧ Aside0 (Kd.R (Kd.int .i64) 3 w' w.heap.size (fun _ => True) (.slice Ao17 t347.length co17) t347) ∧ Aside0 (Kd.R Kd.bool 4 w' w.heap.size (fun _ => True) v351 t350) ∧ Aside0 (w'.heap[gb341]? = some (.cells #[(.slice A0_0 l0_0.length c0_0), (.slice A0_1 l0_1.length c0_1)] 25 (0, 0))) ∧ Aside0 (Below w.heap.size w w'))
    case atStart => exact ⟨(0), (by first | rfl | (simp; done) | (simp [*]; done)), H', ⟨Nat.le_refl _⟩, ⟨by (with_reducible repeat (first | apply Kd.N_alloc | apply Kd.N_drewN | apply Kd.N_drew)); exact Kd.N_mono HO345.out (fun _ hk => ⟨hk.1.2, ⟨hk.2, hk.1.1⟩⟩)⟩, ⟨by (with_reducible repeat (first | apply Kd.R_alloc | apply Kd.R_drewN | apply Kd.R_drew)); exact HO349.out⟩, ⟨by (with_reducible repeat (first | apply Kd.R_alloc | apply Kd.R_drewN | apply Kd.R_drew)); exact HO352.out⟩, ⟨by (with_reducible repeat (first | refine blk_drewN ?_ _ | refine blk_drew ?_ | refine blk_alloc ?_ _)); exact BK341.out⟩, ⟨by repeat (first | (with_reducible first | exact HB.out | apply below_alloc | apply pw_below_drewN | apply below_drew1 | refine below_set ?_ GE341.out) | exact HB.out)⟩⟩
    case round =>
     clear H'
     try clear c1
     try clear c2
     try clear p2
     try clear c3
     try clear c5
     try clear c8
     try clear c8b0
     try clear c8b1
     try clear c8b2
     try clear c11
     try clear c12
     try clear c13
     try clear c14
     try clear hcz11_0
     try clear hcz11_1
     try clear hcz13_0
     try clear hcz13_1
     try clear hfz11_0
     try clear hfz11_1
     try clear hfz13_0
     try clear hfz13_1
     obtain ⟨x7_1, rfl, HA, HK1, HO_3, HO_5, HO_6, BK341, HB⟩ := hrel
     cases gk with
     | zero => exact absurd HA.out (by simp [ontimelaw25_DominatorEdges.l0])
     | succ k1 =>
      have H := HA.out
      clear HA
      simp only [ontimelaw25_DominatorEdges.l0] at H
      by_cases c18 : x7_1 < (t343.length : Int)
      ·rw [if_pos c18] at H
       have c18b0 : decide (x7_1 < (t343.length : Int)) = true := decide_eq_true c18
       clear c18
       have H' := Aside0.mk H
       clear H
       go_wp2
       go_loopg [8] k1 (fun kq v8 w' => ∃ (x8_2 : Int), v8 = .int .i64 x8_2 ∧ Aside0 (ontimelaw25_DominatorEdges.l1 kq t343 t347 t350 x7_1 x8_2 = some r) ∧ Aside0 (kq ≤ k1) ∧ Aside0 (Kd.N (Kd.slice 3 (Kd.int .i64)) 29 w' w.heap.size (fun k_ => some k_ ≠ ((.slice Ao17 t347.length co17) : Value).ownBlock ∧ some k_ ≠ (v351 : Value).ownBlock ∧ k_ ≠ gb341) (.slice Ao15 t343.length co15) t343) ∧ Aside0 (Kd.R (Kd.int .i64) 3 w' w.heap.size (fun _ => True) (.slice Ao17 t347.length co17) t347) ∧ Aside0 (Kd.R Kd.bool 4 w' w.heap.size (fun _ => True) v351 t350) ∧ Aside0 (w'.heap[gb341]? = some (.cells #[(.slice A0_0 l0_0.length c0_0), (.slice A0_1 l0_1.length c0_1)] 25 (0, 0))) ∧ Aside0 (Below w.heap.size w w'))
       case atStart => exact ⟨(0), (by first | rfl | (simp; done) | (simp [*]; done)), H', ⟨Nat.le_refl _⟩, ⟨by (with_reducible repeat (first | apply Kd.N_alloc | apply Kd.N_drewN | apply Kd.N_drew)); exact HO_3.out⟩, ⟨by (with_reducible repeat (first | apply Kd.R_alloc | apply Kd.R_drewN | apply Kd.R_drew)); exact HO_5.out⟩, ⟨by (with_reducible repeat (first | apply Kd.R_alloc | apply Kd.R_drewN | apply Kd.R_drew)); exact HO_6.out⟩, ⟨by (with_reducible repeat (first | refine blk_drewN ?_ _ | refine blk_drew ?_ | refine blk_alloc ?_ _)); exact BK341.out⟩, ⟨by repeat (first | (with_reducible first | exact HB.out | apply below_alloc | apply pw_below_drewN | apply below_drew1 | refine below_set ?_ GE341.out) | exact HB.out)⟩⟩
       case round =>
        clear H'
        try clear c1
        try clear c2
        try clear p2
        try clear c3
        try clear c5
        try clear c8
        try clear c8b0
        try clear c8b1
        try clear c8b2
        try clear c11
        try clear c12
        try clear c13
        try clear c14
        try clear c18
        try clear c18b0
        try clear hcz11_0
        try clear hcz11_1
        try clear hcz13_0
        try clear hcz13_1
        try clear hfz11_0
        try clear hfz11_1
        try clear hfz13_0
        try clear hfz13_1
        try clear p2
        obtain ⟨x8_2, rfl, HA, HK2, HO_3, HO_5, HO_6, BK341, HB⟩ := hrel
        cases gk with
        | zero => exact absurd HA.out (by simp [ontimelaw25_DominatorEdges.l1])
        | succ k2 =>
         have H := HA.out
         clear HA
         simp only [ontimelaw25_DominatorEdges.l1] at H
         have HC19 := Aside0.mk H
         clear H
         go_upto_region 13 with (fail)
         go_cut [49] (fun v49 wc => ∃ (kq : Nat) (x49_18 : Bool), v49 = .bool x49_18 ∧ Aside0 (ontimelaw25_DominatorEdges.j2 kq t343 t347 t350 x7_1 x8_2 x49_18 = some r) ∧ Aside0 (kq ≤ k2) ∧ Aside0 (Kd.N (Kd.slice 3 (Kd.int .i64)) 29 wc w.heap.size (fun k_ => some k_ ≠ ((.slice Ao17 t347.length co17) : Value).ownBlock ∧ some k_ ≠ (v351 : Value).ownBlock ∧ k_ ≠ gb341) (.slice Ao15 t343.length co15) t343) ∧ Aside0 (Kd.R (Kd.int .i64) 3 wc w.heap.size (fun _ => True) (.slice Ao17 t347.length co17) t347) ∧ Aside0 (Kd.R Kd.bool 4 wc w.heap.size (fun _ => True) v351 t350) ∧ Aside0 (wc.heap[gb341]? = some (.cells #[(.slice A0_0 l0_0.length c0_0), (.slice A0_1 l0_1.length c0_1)] 25 (0, 0))) ∧ Aside0 (Below w.heap.size w wc))
         case first =>
          have H := HC19.out
          clear HC19
          by_cases c20 : 0 ≤ x7_1
          ·rw [if_pos c20] at H
           have c20b0 : decide (0 ≤ x7_1) = true := decide_eq_true c20
           clear c20
           (first | rw [c20b0] | (simp only [i64_w, i32_w]; rw [c20b0]) | skip)
           by_cases c21 : x7_1 < (t343.length : Int)
           ·rw [if_pos c21] at H
            have c21b0 : decide (x7_1 < (t343.length : Int)) = true := decide_eq_true c21
            clear c21
            by_cases c22 : x8_2 < ((rd_L1 t343 x7_1).length : Int)
            ·rw [if_pos c22] at H
             have c22b0 : decide (x8_2 < ((rd_L1 t343 x7_1).length : Int)) = true := decide_eq_true c22
             clear c22
             by_cases c23 : x7_1 < (t350.length : Int)
             ·rw [if_pos c23] at H
              have c23b0 : decide (x7_1 < (t350.length : Int)) = true := decide_eq_true c23
              clear c23
              have H' := Aside0.mk H
              clear H
              have p353 : 0 ≤ (x7_1 : Int) := of_decide_eq_true (by first | (with_reducible assumption) | assumption)
              have q353 : x7_1 < (t343.length : Int) := of_decide_eq_true (by first | (with_reducible assumption) | assumption)
              obtain ⟨ad353, A353_0, c353_0, e353, hx353_0, hl353_0, hi353_0⟩ := at_L1 (Kd.N_reads' HO_3.out).2.2 x7_1 p353 q353
              cases e353
              obtain ⟨ce353, hce353, hMe353, hcc353⟩ := Kd.N_get HO_3.out [] x7_1 p353 (by first | exact q353 | exact of_decide_eq_true (by first | (with_reducible assumption) | assumption) | (have e_ := (Kd.N_reads' HO_3.out).1; omega))
              obtain ⟨ua353_0, uc353_0, rfl, ul353_0, ge353_0⟩ := Kd.FK_slice_open hMe353
              have hv353_0 := hcc353 0 _ rfl
              rw [Nat.add_zero, show ((Kd.slice 3 (Kd.int .i64))).sz = 1 from rfl, Nat.mul_one] at hv353_0
              replace hv353_0 := Option.some.inj (hv353_0.symm.trans hx353_0)
              injection hv353_0 with hva_ hvn_ hvc_
              rw [hva_] at ge353_0
              rw [hvc_] at ul353_0
              have HL353_0 := Aside0.mk (show Kd.V (Kd.int .i64) 3 _ w.heap.size _ _ (rd_L1 t343 x7_1) from Kd.V_mk ul353_0 ge353_0)
              clear hva_ hvn_ hvc_ ge353_0 ul353_0
              clear hcc353 hce353
              have HR353_0 := Aside0.mk hi353_0
              have HC353_0 := Aside0.mk hl353_0
              clear hi353_0 hl353_0
              replace p353 := eq_true p353
              replace q353 := eq_true q353
              obtain ⟨Ao24, co24, eo24⟩ := Kd.R_slice HO_6.out
              subst eo24
              have p354 : 0 ≤ (x7_1 : Int) := of_decide_eq_true (by first | (with_reducible assumption) | assumption)
              have q354 : x7_1 < (t350.length : Int) := of_decide_eq_true (by first | (with_reducible assumption) | assumption)
              obtain ⟨ad354, e354, hx354_0⟩ := Kd.at_bool (Kd.R_reads' HO_6.out).2.2 x7_1 p354 q354
              cases e354
              replace p354 := eq_true p354
              replace q354 := eq_true q354
              go_wp2
              go_meet
              case rel => exact ⟨_, (rdOf false t350 x7_1), (by first | rfl | (simp; done) | (simp [*]; done)), H', ⟨by have := HK1.out; have := HK2.out; first | omega | exact Nat.le_refl _⟩, ⟨by (with_reducible repeat (first | apply Kd.N_alloc | apply Kd.N_drewN | apply Kd.N_drew)); exact HO_3.out⟩, ⟨by (with_reducible repeat (first | apply Kd.R_alloc | apply Kd.R_drewN | apply Kd.R_drew)); exact HO_5.out⟩, ⟨by (with_reducible repeat (first | apply Kd.R_alloc | apply Kd.R_drewN | apply Kd.R_drew)); exact HO_6.out⟩, ⟨by (with_reducible repeat (first | refine blk_drewN ?_ _ | refine blk_drew ?_ | refine blk_alloc ?_ _)); exact BK341.out⟩, ⟨by repeat (first | (with_reducible first | exact HB.out | apply below_alloc | apply pw_below_drewN | apply below_drew1 | refine below_set ?_ GE341.out) | exact HB.out)⟩⟩
             ·rw [if_neg c23] at H
              exact absurd H (by simp)
            ·rw [if_neg c22] at H
             have c22b0 : decide (x8_2 < ((rd_L1 t343 x7_1).length : Int)) = false := decide_eq_false c22
             clear c22
             have H' := Aside0.mk H
             clear H
             have p353 : 0 ≤ (x7_1 : Int) := of_decide_eq_true (by first | (with_reducible assumption) | assumption)
             have q353 : x7_1 < (t343.length : Int) := of_decide_eq_true (by first | (with_reducible assumption) | assumption)
             obtain ⟨ad353, A353_0, c353_0, e353, hx353_0, hl353_0, hi353_0⟩ := at_L1 (Kd.N_reads' HO_3.out).2.2 x7_1 p353 q353
             cases e353
             obtain ⟨ce353, hce353, hMe353, hcc353⟩ := Kd.N_get HO_3.out [] x7_1 p353 (by first | exact q353 | exact of_decide_eq_true (by first | (with_reducible assumption) | assumption) | (have e_ := (Kd.N_reads' HO_3.out).1; omega))
             obtain ⟨ua353_0, uc353_0, rfl, ul353_0, ge353_0⟩ := Kd.FK_slice_open hMe353
             have hv353_0 := hcc353 0 _ rfl
             rw [Nat.add_zero, show ((Kd.slice 3 (Kd.int .i64))).sz = 1 from rfl, Nat.mul_one] at hv353_0
             replace hv353_0 := Option.some.inj (hv353_0.symm.trans hx353_0)
             injection hv353_0 with hva_ hvn_ hvc_
             rw [hva_] at ge353_0
             rw [hvc_] at ul353_0
             have HL353_0 := Aside0.mk (show Kd.V (Kd.int .i64) 3 _ w.heap.size _ _ (rd_L1 t343 x7_1) from Kd.V_mk ul353_0 ge353_0)
             clear hva_ hvn_ hvc_ ge353_0 ul353_0
             clear hcc353 hce353
             have HR353_0 := Aside0.mk hi353_0
             have HC353_0 := Aside0.mk hl353_0
             clear hi353_0 hl353_0
             replace p353 := eq_true p353
             replace q353 := eq_true q353
             go_wp2
             go_meet
             case rel => exact ⟨_, (false), (by first | rfl | (simp; done) | (simp [*]; done)), H', ⟨by have := HK1.out; have := HK2.out; first | omega | exact Nat.le_refl _⟩, ⟨by (with_reducible repeat (first | apply Kd.N_alloc | apply Kd.N_drewN | apply Kd.N_drew)); exact HO_3.out⟩, ⟨by (with_reducible repeat (first | apply Kd.R_alloc | apply Kd.R_drewN | apply Kd.R_drew)); exact HO_5.out⟩, ⟨by (with_reducible repeat (first | apply Kd.R_alloc | apply Kd.R_drewN | apply Kd.R_drew)); exact HO_6.out⟩, ⟨by (with_reducible repeat (first | refine blk_drewN ?_ _ | refine blk_drew ?_ | refine blk_alloc ?_ _)); exact BK341.out⟩, ⟨by repeat (first | (with_reducible first | exact HB.out | apply below_alloc | apply pw_below_drewN | apply below_drew1 | refine below_set ?_ GE341.out) | exact HB.out)⟩⟩
           ·rw [if_neg c21] at H
            exact absurd H (by simp)
          ·rw [if_neg c20] at H
           exact absurd H (by simp)
         case rest =>
          clear HC19
          try clear c1
          try clear c2
          try clear p2
          try clear c3
          try clear p3
          try clear q3
          try clear hx3
          try clear c5
          try clear c8
          try clear c8b0
          try clear c8b1
          try clear c8b2
          try clear c11
          try clear c12
          try clear c13
          try clear c14
          try clear c18
          try clear c18b0
          try clear c20
          try clear c20b0
          try clear c21
          try clear c21b0
          try clear c22
          try clear c22b0
          try clear c23
          try clear c23b0
          try clear hcz11_0
          try clear hcz11_1
          try clear hcz13_0
          try clear hcz13_1
          try clear hfz11_0
          try clear hfz11_1
          try clear hfz13_0
          try clear hfz13_1
          try clear hx353_0
          try clear hx354_0
          try clear p2
          try clear p353
          try clear p354
          try clear q353
          try clear q354
          obtain ⟨kq, x49_18, rfl, HA, HJ18, HO_3, HO_5, HO_6, BK341, HB⟩ := hcut
          cases kq with
          | zero => exact absurd HA.out (by simp [ontimelaw25_DominatorEdges.j2])
          | succ kj18 =>
           have H := HA.out
           clear HA
           simp only [ontimelaw25_DominatorEdges.j2] at H
           by_cases c25 : x49_18 = true
           ·subst c25
            have H1 : (if 0 ≤ x7_1 then (if x7_1 < (t343.length : Int) then (if 0 ≤ x8_2 then (if x8_2 < ((rd_L1 t343 x7_1).length : Int) then (if (rd (rd_L1 t343 x7_1) x8_2) > 0 then (if 0 ≤ (rd (rd_L1 t343 x7_1) x8_2) then (if (rd (rd_L1 t343 x7_1) x8_2) < (t347.length : Int) then ((dominator_Dominates.f t347 (rd t347 (rd (rd_L1 t343 x7_1) x8_2)) x7_1).bind fun t358 => (if t358 = true then (ontimelaw25_DominatorEdges.l1 kj18 t343 t347 t350 x7_1 (wrap64 (x8_2 + 1))) else (some false))) else (none)) else (none)) else (ontimelaw25_DominatorEdges.l1 kj18 t343 t347 t350 x7_1 (wrap64 (x8_2 + 1)))) else (none)) else (none)) else (none)) else (none)) = some r := by rw [if_pos rfl] at H; exact H
            clear H
            have H := H1
            clear H1
            by_cases c26 : 0 ≤ x7_1
            ·rw [if_pos c26] at H
             have c26b0 : decide (0 ≤ x7_1) = true := decide_eq_true c26
             clear c26
             by_cases c27 : x7_1 < (t343.length : Int)
             ·rw [if_pos c27] at H
              have c27b0 : decide (x7_1 < (t343.length : Int)) = true := decide_eq_true c27
              clear c27
              by_cases c28 : 0 ≤ x8_2
              ·rw [if_pos c28] at H
               have c28b0 : decide (0 ≤ x8_2) = true := decide_eq_true c28
               clear c28
               by_cases c29 : x8_2 < ((rd_L1 t343 x7_1).length : Int)
               ·rw [if_pos c29] at H
                have c29b0 : decide (x8_2 < ((rd_L1 t343 x7_1).length : Int)) = true := decide_eq_true c29
                clear c29
                by_cases c30 : (rd (rd_L1 t343 x7_1) x8_2) > 0
                ·rw [if_pos c30] at H
                 have c30b0 : decide (0 < (rd (rd_L1 t343 x7_1) x8_2)) = true := decide_eq_true c30
                 clear c30
                 by_cases c31 : 0 ≤ (rd (rd_L1 t343 x7_1) x8_2)
                 ·rw [if_pos c31] at H
                  have c31b0 : decide (0 ≤ (rd (rd_L1 t343 x7_1) x8_2)) = true := decide_eq_true c31
                  clear c31
                  by_cases c32 : (rd (rd_L1 t343 x7_1) x8_2) < (t347.length : Int)
                  ·rw [if_pos c32] at H
                   have c32b0 : decide ((rd (rd_L1 t343 x7_1) x8_2) < (t347.length : Int)) = true := decide_eq_true c32
                   clear c32
                   replace H := Option.bind_eq_some_iff.mp H
                   obtain ⟨t358, A330, H⟩ := H
                   replace H : (if t358 = true then (ontimelaw25_DominatorEdges.l1 kj18 t343 t347 t350 x7_1 (wrap64 (x8_2 + 1))) else (some false)) = some r := H
                   have A33 := Aside0.mk A330
                   clear A330
                   by_cases c34 : t358 = true
                   ·subst c34
                    have H1 : (ontimelaw25_DominatorEdges.l1 kj18 t343 t347 t350 x7_1 (wrap64 (x8_2 + 1))) = some r := by rw [if_pos rfl] at H; exact H
                    clear H
                    have H := H1
                    clear H1
                    have H' := Aside0.mk H
                    clear H
                    have p355 : 0 ≤ (x7_1 : Int) := of_decide_eq_true (by first | (with_reducible assumption) | assumption)
                    have q355 : x7_1 < (t343.length : Int) := of_decide_eq_true (by first | (with_reducible assumption) | assumption)
                    obtain ⟨ad355, A355_0, c355_0, e355, hx355_0, hl355_0, hi355_0⟩ := at_L1 (Kd.N_reads' HO_3.out).2.2 x7_1 p355 q355
                    cases e355
                    obtain ⟨ce355, hce355, hMe355, hcc355⟩ := Kd.N_get HO_3.out [] x7_1 p355 (by first | exact q355 | exact of_decide_eq_true (by first | (with_reducible assumption) | assumption) | (have e_ := (Kd.N_reads' HO_3.out).1; omega))
                    obtain ⟨ua355_0, uc355_0, rfl, ul355_0, ge355_0⟩ := Kd.FK_slice_open hMe355
                    have hv355_0 := hcc355 0 _ rfl
                    rw [Nat.add_zero, show ((Kd.slice 3 (Kd.int .i64))).sz = 1 from rfl, Nat.mul_one] at hv355_0
                    replace hv355_0 := Option.some.inj (hv355_0.symm.trans hx355_0)
                    injection hv355_0 with hva_ hvn_ hvc_
                    rw [hva_] at ge355_0
                    rw [hvc_] at ul355_0
                    have HL355_0 := Aside0.mk (show Kd.V (Kd.int .i64) 3 _ w.heap.size _ _ (rd_L1 t343 x7_1) from Kd.V_mk ul355_0 ge355_0)
                    clear hva_ hvn_ hvc_ ge355_0 ul355_0
                    clear hcc355 hce355
                    have HR355_0 := Aside0.mk hi355_0
                    have HC355_0 := Aside0.mk hl355_0
                    clear hi355_0 hl355_0
                    replace p355 := eq_true p355
                    replace q355 := eq_true q355
                    have p356 : 0 ≤ (x8_2 : Int) := of_decide_eq_true (by first | (with_reducible assumption) | assumption)
                    have q356 : x8_2 < ((rd_L1 t343 x7_1).length : Int) := of_decide_eq_true (by first | (with_reducible assumption) | assumption)
                    obtain ⟨ad356, e356, hx356_0⟩ := Kd.at_int (by repeat (first | (with_reducible exact HR355_0.out) | (with_reducible refine Kd.C_alloc ?_ _) | (with_reducible refine Kd.C_drewN ?_ _) | (with_reducible refine Kd.C_drew ?_) | exact HR355_0.out)) x8_2 p356 q356
                    cases e356
                    replace p356 := eq_true p356
                    replace q356 := eq_true q356
                    have p357 : 0 ≤ ((rd (rd_L1 t343 x7_1) x8_2) : Int) := of_decide_eq_true (by first | (with_reducible assumption) | assumption)
                    have q357 : (rd (rd_L1 t343 x7_1) x8_2) < (t347.length : Int) := of_decide_eq_true (by first | (with_reducible assumption) | assumption)
                    obtain ⟨ad357, e357, hx357_0⟩ := Kd.at_int (Kd.R_reads' HO_5.out).2.2 (rd (rd_L1 t343 x7_1) x8_2) p357 q357
                    cases e357
                    replace p357 := eq_true p357
                    replace q357 := eq_true q357
                    go_wp2_with (first | (go_at_call 19; (with_reducible refine (dominator_Dominates.calls _ _ t347 (rd t347 (rd (rd_L1 t343 x7_1) x8_2)) x7_1 true _ ?side1 ?side2 A33.out).mono ?_); (case side1 => repeat (first | exact (Kd.R_reads' HO_5.out).2.2 | (with_reducible refine Kd.C_alloc ?_ _) | (with_reducible refine Kd.C_drewN ?_ _) | (with_reducible refine Kd.C_drew ?_))); (case side2 => exact (Kd.R_reads' HO_5.out).2.1); rintro e w35 ⟨rfl, hb⟩; have n0_ := Aside0.mk (Kd.N_below (by (with_reducible repeat (first | apply Kd.N_alloc | apply Kd.N_drewN | apply Kd.N_drew)); exact HO_3.out) hb); have n1_ := Aside0.mk (Kd.R_below (by (with_reducible repeat (first | apply Kd.R_alloc | apply Kd.R_drewN | apply Kd.R_drew)); exact HO_5.out) hb); have n2_ := Aside0.mk (Kd.R_below (by (with_reducible repeat (first | apply Kd.R_alloc | apply Kd.R_drewN | apply Kd.R_drew)); exact HO_6.out) hb); have n3_ := Aside0.mk (Kd.V_below (by (with_reducible repeat (first | apply Kd.V_alloc | apply Kd.V_drewN | apply Kd.V_drew)); exact HL355_0.out) hb); have n4_ := Aside0.mk (blk_below (g := gb341) (o := .cells #[.slice A0_0 l0_0.length c0_0, .slice A0_1 l0_1.length c0_1] 25 (0, 0)) (by (with_reducible repeat (first | refine blk_drewN ?_ _ | refine blk_drew ?_ | refine blk_alloc ?_ _)); exact BK341.out) hb); have n5_ := Aside0.mk (Kd.C_below (by repeat (first | (with_reducible exact HR355_0.out) | (with_reducible refine Kd.C_alloc ?_ _) | (with_reducible refine Kd.C_drewN ?_ _) | (with_reducible refine Kd.C_drew ?_) | exact HR355_0.out)) hb); have n6_ := Aside0.mk (below_step (by repeat (first | (with_reducible first | exact HB.out | apply below_alloc | apply pw_below_drewN | apply below_drew1 | refine below_set ?_ GE341.out) | exact HB.out)) hb); clear HO_3; clear HO_5; clear HO_6; clear HL355_0; clear BK341; clear HR355_0; clear HB; have HO_3 := n0_; have HO_5 := n1_; have HO_6 := n2_; have HL355_0 := n3_; have BK341 := n4_; have HR355_0 := n5_; have HB := n6_; clear n0_ n1_ n2_ n3_ n4_ n5_ n6_; (try clear hb); (try clear hb2); (try clear hk); (try clear hi)))
                    go_roundg kj18
                    case measure => have := HK1.out; have := HK2.out; have := HJ18.out; omega
                    case rel => exact ⟨(wrap64 (x8_2 + 1)), (by first | rfl | (simp; done) | (simp [*]; done)), H', ⟨by have := HK1.out; have := HK2.out; have := HJ18.out; omega⟩, ⟨by (with_reducible repeat (first | apply Kd.N_alloc | apply Kd.N_drewN | apply Kd.N_drew)); exact HO_3.out⟩, ⟨by (with_reducible repeat (first | apply Kd.R_alloc | apply Kd.R_drewN | apply Kd.R_drew)); exact HO_5.out⟩, ⟨by (with_reducible repeat (first | apply Kd.R_alloc | apply Kd.R_drewN | apply Kd.R_drew)); exact HO_6.out⟩, ⟨by (with_reducible repeat (first | refine blk_drewN ?_ _ | refine blk_drew ?_ | refine blk_alloc ?_ _)); exact BK341.out⟩, ⟨by repeat (first | (with_reducible first | exact HB.out | apply below_alloc | apply pw_below_drewN | apply below_drew1 | refine below_set ?_ GE341.out) | exact HB.out)⟩⟩
                   ·replace c34 := Bool.eq_false_iff.mpr c34
                    subst c34
                    have H1 : (some false) = some r := by rw [if_neg (show ¬ (false = true) by decide)] at H; exact H
                    clear H
                    have H := H1
                    clear H1
                    obtain rfl := Option.some.inj H
                    have p355 : 0 ≤ (x7_1 : Int) := of_decide_eq_true (by first | (with_reducible assumption) | assumption)
                    have q355 : x7_1 < (t343.length : Int) := of_decide_eq_true (by first | (with_reducible assumption) | assumption)
                    obtain ⟨ad355, A355_0, c355_0, e355, hx355_0, hl355_0, hi355_0⟩ := at_L1 (Kd.N_reads' HO_3.out).2.2 x7_1 p355 q355
                    cases e355
                    obtain ⟨ce355, hce355, hMe355, hcc355⟩ := Kd.N_get HO_3.out [] x7_1 p355 (by first | exact q355 | exact of_decide_eq_true (by first | (with_reducible assumption) | assumption) | (have e_ := (Kd.N_reads' HO_3.out).1; omega))
                    obtain ⟨ua355_0, uc355_0, rfl, ul355_0, ge355_0⟩ := Kd.FK_slice_open hMe355
                    have hv355_0 := hcc355 0 _ rfl
                    rw [Nat.add_zero, show ((Kd.slice 3 (Kd.int .i64))).sz = 1 from rfl, Nat.mul_one] at hv355_0
                    replace hv355_0 := Option.some.inj (hv355_0.symm.trans hx355_0)
                    injection hv355_0 with hva_ hvn_ hvc_
                    rw [hva_] at ge355_0
                    rw [hvc_] at ul355_0
                    have HL355_0 := Aside0.mk (show Kd.V (Kd.int .i64) 3 _ w.heap.size _ _ (rd_L1 t343 x7_1) from Kd.V_mk ul355_0 ge355_0)
                    clear hva_ hvn_ hvc_ ge355_0 ul355_0
                    clear hcc355 hce355
                    have HR355_0 := Aside0.mk hi355_0
                    have HC355_0 := Aside0.mk hl355_0
                    clear hi355_0 hl355_0
                    replace p355 := eq_true p355
                    replace q355 := eq_true q355
                    have p356 : 0 ≤ (x8_2 : Int) := of_decide_eq_true (by first | (with_reducible assumption) | assumption)
                    have q356 : x8_2 < ((rd_L1 t343 x7_1).length : Int) := of_decide_eq_true (by first | (with_reducible assumption) | assumption)
                    obtain ⟨ad356, e356, hx356_0⟩ := Kd.at_int (by repeat (first | (with_reducible exact HR355_0.out) | (with_reducible refine Kd.C_alloc ?_ _) | (with_reducible refine Kd.C_drewN ?_ _) | (with_reducible refine Kd.C_drew ?_) | exact HR355_0.out)) x8_2 p356 q356
                    cases e356
                    replace p356 := eq_true p356
                    replace q356 := eq_true q356
                    have p357 : 0 ≤ ((rd (rd_L1 t343 x7_1) x8_2) : Int) := of_decide_eq_true (by first | (with_reducible assumption) | assumption)
                    have q357 : (rd (rd_L1 t343 x7_1) x8_2) < (t347.length : Int) := of_decide_eq_true (by first | (with_reducible assumption) | assumption)
                    obtain ⟨ad357, e357, hx357_0⟩ := Kd.at_int (Kd.R_reads' HO_5.out).2.2 (rd (rd_L1 t343 x7_1) x8_2) p357 q357
                    cases e357
                    replace p357 := eq_true p357
                    replace q357 := eq_true q357
                    go_wp2_with (first | (go_at_call 19; (with_reducible refine (dominator_Dominates.calls _ _ t347 (rd t347 (rd (rd_L1 t343 x7_1) x8_2)) x7_1 false _ ?side1 ?side2 A33.out).mono ?_); (case side1 => repeat (first | exact (Kd.R_reads' HO_5.out).2.2 | (with_reducible refine Kd.C_alloc ?_ _) | (with_reducible refine Kd.C_drewN ?_ _) | (with_reducible refine Kd.C_drew ?_))); (case side2 => exact (Kd.R_reads' HO_5.out).2.1); rintro e w36 ⟨rfl, hb⟩; have n0_ := Aside0.mk (Kd.N_below (by (with_reducible repeat (first | apply Kd.N_alloc | apply Kd.N_drewN | apply Kd.N_drew)); exact HO_3.out) hb); have n1_ := Aside0.mk (Kd.R_below (by (with_reducible repeat (first | apply Kd.R_alloc | apply Kd.R_drewN | apply Kd.R_drew)); exact HO_5.out) hb); have n2_ := Aside0.mk (Kd.R_below (by (with_reducible repeat (first | apply Kd.R_alloc | apply Kd.R_drewN | apply Kd.R_drew)); exact HO_6.out) hb); have n3_ := Aside0.mk (Kd.V_below (by (with_reducible repeat (first | apply Kd.V_alloc | apply Kd.V_drewN | apply Kd.V_drew)); exact HL355_0.out) hb); have n4_ := Aside0.mk (blk_below (g := gb341) (o := .cells #[.slice A0_0 l0_0.length c0_0, .slice A0_1 l0_1.length c0_1] 25 (0, 0)) (by (with_reducible repeat (first | refine blk_drewN ?_ _ | refine blk_drew ?_ | refine blk_alloc ?_ _)); exact BK341.out) hb); have n5_ := Aside0.mk (Kd.C_below (by repeat (first | (with_reducible exact HR355_0.out) | (with_reducible refine Kd.C_alloc ?_ _) | (with_reducible refine Kd.C_drewN ?_ _) | (with_reducible refine Kd.C_drew ?_) | exact HR355_0.out)) hb); have n6_ := Aside0.mk (below_step (by repeat (first | (with_reducible first | exact HB.out | apply below_alloc | apply pw_below_drewN | apply below_drew1 | refine below_set ?_ GE341.out) | exact HB.out)) hb); clear HO_3; clear HO_5; clear HO_6; clear HL355_0; clear BK341; clear HR355_0; clear HB; have HO_3 := n0_; have HO_5 := n1_; have HO_6 := n2_; have HL355_0 := n3_; have BK341 := n4_; have HR355_0 := n5_; have HB := n6_; clear n0_ n1_ n2_ n3_ n4_ n5_ n6_; (try clear hb); (try clear hb2); (try clear hk); (try clear hi)))
                    go_ret
                    exact ⟨by first | rfl | (simp [errW_none, errW_some] <;> rfl) | (simp [*, errW_none, errW_some] <;> rfl), by repeat (first | (with_reducible first | exact HB.out | apply below_alloc | apply pw_below_drewN | apply below_drew1 | refine below_set ?_ GE341.out) | exact HB.out)⟩
                  ·rw [if_neg c32] at H
                   exact absurd H (by simp)
                 ·rw [if_neg c31] at H
                  exact absurd H (by simp)
                ·rw [if_neg c30] at H
                 have c30b0 : decide (0 < (rd (rd_L1 t343 x7_1) x8_2)) = false := decide_eq_false c30
                 clear c30
                 have H' := Aside0.mk H
                 clear H
                 have p355 : 0 ≤ (x7_1 : Int) := of_decide_eq_true (by first | (with_reducible assumption) | assumption)
                 have q355 : x7_1 < (t343.length : Int) := of_decide_eq_true (by first | (with_reducible assumption) | assumption)
                 obtain ⟨ad355, A355_0, c355_0, e355, hx355_0, hl355_0, hi355_0⟩ := at_L1 (Kd.N_reads' HO_3.out).2.2 x7_1 p355 q355
                 cases e355
                 obtain ⟨ce355, hce355, hMe355, hcc355⟩ := Kd.N_get HO_3.out [] x7_1 p355 (by first | exact q355 | exact of_decide_eq_true (by first | (with_reducible assumption) | assumption) | (have e_ := (Kd.N_reads' HO_3.out).1; omega))
                 obtain ⟨ua355_0, uc355_0, rfl, ul355_0, ge355_0⟩ := Kd.FK_slice_open hMe355
                 have hv355_0 := hcc355 0 _ rfl
                 rw [Nat.add_zero, show ((Kd.slice 3 (Kd.int .i64))).sz = 1 from rfl, Nat.mul_one] at hv355_0
                 replace hv355_0 := Option.some.inj (hv355_0.symm.trans hx355_0)
                 injection hv355_0 with hva_ hvn_ hvc_
                 rw [hva_] at ge355_0
                 rw [hvc_] at ul355_0
                 have HL355_0 := Aside0.mk (show Kd.V (Kd.int .i64) 3 _ w.heap.size _ _ (rd_L1 t343 x7_1) from Kd.V_mk ul355_0 ge355_0)
                 clear hva_ hvn_ hvc_ ge355_0 ul355_0
                 clear hcc355 hce355
                 have HR355_0 := Aside0.mk hi355_0
                 have HC355_0 := Aside0.mk hl355_0
                 clear hi355_0 hl355_0
                 replace p355 := eq_true p355
                 replace q355 := eq_true q355
                 have p356 : 0 ≤ (x8_2 : Int) := of_decide_eq_true (by first | (with_reducible assumption) | assumption)
                 have q356 : x8_2 < ((rd_L1 t343 x7_1).length : Int) := of_decide_eq_true (by first | (with_reducible assumption) | assumption)
                 obtain ⟨ad356, e356, hx356_0⟩ := Kd.at_int (by repeat (first | (with_reducible exact HR355_0.out) | (with_reducible refine Kd.C_alloc ?_ _) | (with_reducible refine Kd.C_drewN ?_ _) | (with_reducible refine Kd.C_drew ?_) | exact HR355_0.out)) x8_2 p356 q356
                 cases e356
                 replace p356 := eq_true p356
                 replace q356 := eq_true q356
                 go_wp2
                 go_roundg kj18
                 case measure => have := HK1.out; have := HK2.out; have := HJ18.out; omega
                 case rel => exact ⟨(wrap64 (x8_2 + 1)), (by first | rfl | (simp; done) | (simp [*]; done)), H', ⟨by have := HK1.out; have := HK2.out; have := HJ18.out; omega⟩, ⟨by (with_reducible repeat (first | apply Kd.N_alloc | apply Kd.N_drewN | apply Kd.N_drew)); exact HO_3.out⟩, ⟨by (with_reducible repeat (first | apply Kd.R_alloc | apply Kd.R_drewN | apply Kd.R_drew)); exact HO_5.out⟩, ⟨by (with_reducible repeat (first | apply Kd.R_alloc | apply Kd.R_drewN | apply Kd.R_drew)); exact HO_6.out⟩, ⟨by (with_reducible repeat (first | refine blk_drewN ?_ _ | refine blk_drew ?_ | refine blk_alloc ?_ _)); exact BK341.out⟩, ⟨by repeat (first | (with_reducible first | exact HB.out | apply below_alloc | apply pw_below_drewN | apply below_drew1 | refine below_set ?_ GE341.out) | exact HB.out)⟩⟩
               ·rw [if_neg c29] at H
                exact absurd H (by simp)
              ·rw [if_neg c28] at H
               exact absurd H (by simp)
             ·rw [if_neg c27] at H
              exact absurd H (by simp)
            ·rw [if_neg c26] at H
             exact absurd H (by simp)
           ·replace c25 := Bool.eq_false_iff.mpr c25
            subst c25
            have H1 : (ontimelaw25_DominatorEdges.l0 kj18 t343 t347 t350 (wrap64 (x7_1 + 1))) = some r := by rw [if_neg (show ¬ (false = true) by decide)] at H; exact H
            clear H
            have H := H1
            clear H1
            have H' := Aside0.mk H
            clear H
            go_wp2
            go_roundg kj18
            case measure => have := HK1.out; have := HK2.out; have := HJ18.out; omega
            case rel => exact ⟨(wrap64 (x7_1 + 1)), (by first | rfl | (simp; done) | (simp [*]; done)), H', ⟨by have := HK1.out; have := HK2.out; have := HJ18.out; omega⟩, ⟨by (with_reducible repeat (first | apply Kd.N_alloc | apply Kd.N_drewN | apply Kd.N_drew)); exact HO_3.out⟩, ⟨by (with_reducible repeat (first | apply Kd.R_alloc | apply Kd.R_drewN | apply Kd.R_drew)); exact HO_5.out⟩, ⟨by (with_reducible repeat (first | apply Kd.R_alloc | apply Kd.R_drewN | apply Kd.R_drew)); exact HO_6.out⟩, ⟨by (with_reducible repeat (first | refine blk_drewN ?_ _ | refine blk_drew ?_ | refine blk_alloc ?_ _)); exact BK341.out⟩, ⟨by repeat (first | (with_reducible first | exact HB.out | apply below_alloc | apply pw_below_drewN | apply below_drew1 | refine below_set ?_ GE341.out) | exact HB.out)⟩⟩
      ·rw [if_neg c18] at H
       have c18b0 : decide (x7_1 < (t343.length : Int)) = false := decide_eq_false c18
       clear c18
       have H' := Aside0.mk H
       clear H
       go_wp2
       go_loopg [10] k1 (fun kq v10 w' => ∃ (x3_2 : List (List Int)) (x10_2 : Int), v10 = .int .i64 x10_2 ∧ Aside0 (ontimelaw25_DominatorEdges.l2 kq x3_2 t347 x10_2 = some r) ∧ Aside0 (kq ≤ k1) ∧ Aside0 (Kd.N (Kd.slice 3 (Kd.int .i64)) 29 w' w.heap.size (fun k_ => some k_ ≠ ((.slice Ao17 t347.length co17) : Value).ownBlock ∧ k_ ≠ gb341) (.slice Ao15 t343.length co15) x3_2) ∧ Aside0 (Kd.R (Kd.int .i64) 3 w' w.heap.size (fun _ => True) (.slice Ao17 t347.length co17) t347) ∧ Aside0 (w'.heap[gb341]? = some (.cells #[(.slice A0_0 l0_0.length c0_0), (.slice A0_1 l0_1.length c0_1)] 25 (0, 0))) ∧ Aside0 (Below w.heap.size w w'))
       case atStart => exact ⟨(t343), (1), (by first | rfl | (simp; done) | (simp [*]; done)), H', ⟨Nat.le_refl _⟩, ⟨by (with_reducible repeat (first | apply Kd.N_alloc | apply Kd.N_drewN | apply Kd.N_drew)); exact Kd.N_mono HO_3.out (fun _ hk => ⟨hk.1, hk.2.2⟩)⟩, ⟨by (with_reducible repeat (first | apply Kd.R_alloc | apply Kd.R_drewN | apply Kd.R_drew)); exact HO_5.out⟩, ⟨by (with_reducible repeat (first | refine blk_drewN ?_ _ | refine blk_drew ?_ | refine blk_alloc ?_ _)); exact BK341.out⟩, ⟨by repeat (first | (with_reducible first | exact HB.out | apply below_alloc | apply pw_below_drewN | apply below_drew1 | refine below_set ?_ GE341.out) | exact HB.out)⟩⟩
       case round =>
        clear H'
        try clear c1
        try clear c2
        try clear p2
        try clear c3
        try clear p3
        try clear q3
        try clear hx3
        try clear c5
        try clear p6
        try clear c8
        try clear c8b0
        try clear c8b1
        try clear c8b2
        try clear c11
        try clear c12
        try clear c13
        try clear c14
        try clear c18
        try clear c18b0
        try clear c20
        try clear c20b0
        try clear c21
        try clear c21b0
        try clear c22
        try clear c22b0
        try clear c23
        try clear c23b0
        try clear c25
        try clear c26
        try clear c26b0
        try clear c27
        try clear c27b0
        try clear c28
        try clear c28b0
        try clear c29
        try clear c29b0
        try clear c30
        try clear c30b0
        try clear c31
        try clear c31b0
        try clear c32
        try clear c32b0
        try clear c34
        try clear c35
        try clear p35
        try clear q35
        try clear hx35
        try clear hcz11_0
        try clear hcz11_1
        try clear hcz13_0
        try clear hcz13_1
        try clear hfz11_0
        try clear hfz11_1
        try clear hfz13_0
        try clear hfz13_1
        try clear hx353_0
        try clear hx354_0
        try clear hx355_0
        try clear hx356_0
        try clear hx357_0
        try clear p2
        try clear p3
        try clear p353
        try clear p354
        try clear p355
        try clear p356
        try clear p357
        try clear q3
        try clear q353
        try clear q354
        try clear q355
        try clear q356
        try clear q357
        obtain ⟨x3_2, x10_2, rfl, HA, HK2, HO_3, HO_5, BK341, HB⟩ := hrel
        have hl3_2 := (Kd.N_reads' HO_3.out).1
        rw [hl3_2] at HO_3
        (try simp only [hl3_2])
        (try simp only [hl3_2] at BK341)
        (try simp only [hl3_2] at HO_5)
        cases gk with
        | zero => exact absurd HA.out (by simp [ontimelaw25_DominatorEdges.l2])
        | succ k2 =>
         have H := HA.out
         clear HA
         simp only [ontimelaw25_DominatorEdges.l2] at H
         by_cases c37 : x10_2 < (x3_2.length : Int)
         ·rw [if_pos c37] at H
          have c37b0 : decide (x10_2 < (x3_2.length : Int)) = true := decide_eq_true c37
          clear c37
          by_cases c38 : 0 ≤ x10_2
          ·rw [if_pos c38] at H
           have c38b0 : decide (0 ≤ x10_2) = true := decide_eq_true c38
           clear c38
           by_cases c39 : x10_2 < (t347.length : Int)
           ·rw [if_pos c39] at H
            have c39b0 : decide (x10_2 < (t347.length : Int)) = true := decide_eq_true c39
            clear c39
            have HC40 := Aside0.mk H
            clear H
            have p359 : 0 ≤ (x10_2 : Int) := of_decide_eq_true (by first | (with_reducible assumption) | assumption)
            have q359 : x10_2 < (t347.length : Int) := of_decide_eq_true (by first | (with_reducible assumption) | assumption)
            obtain ⟨ad359, e359, hx359_0⟩ := Kd.at_int (Kd.R_reads' HO_5.out).2.2 x10_2 p359 q359
            cases e359
            replace p359 := eq_true p359
            replace q359 := eq_true q359
            go_upto_region 22 with (fail)
            go_cut [104] (fun v104 wc => ∃ (kq : Nat) (x104_39 : Bool), v104 = .bool x104_39 ∧ Aside0 (ontimelaw25_DominatorEdges.j4 kq x3_2 t347 x10_2 (rd t347 x10_2) x104_39 = some r) ∧ Aside0 (kq ≤ k2) ∧ Aside0 (Kd.N (Kd.slice 3 (Kd.int .i64)) 29 wc w.heap.size (fun k_ => some k_ ≠ ((.slice (some ad359) t347.length co17) : Value).ownBlock ∧ k_ ≠ gb341) (.slice Ao15 x3_2.length co15) x3_2) ∧ Aside0 (Kd.R (Kd.int .i64) 3 wc w.heap.size (fun _ => True) (.slice (some ad359) t347.length co17) t347) ∧ Aside0 (wc.heap[gb341]? = some (.cells #[(.slice A0_0 l0_0.length c0_0), (.slice A0_1 l0_1.length c0_1)] 25 (0, 0))) ∧ Aside0 (Below w.heap.size w wc))
            case first =>
             have H := HC40.out
             clear HC40
             by_cases c41 : (rd t347 x10_2) < 0
             ·rw [if_pos c41] at H
              have c41b0 : decide ((rd t347 x10_2) < 0) = true := decide_eq_true c41
              clear c41
              (first | rw [c41b0] | (simp only [i64_w, i32_w]; rw [c41b0]) | skip)
              have H' := Aside0.mk H
              clear H
              go_wp2
              go_meet
              case rel => exact ⟨_, (true), (by first | rfl | (simp; done) | (simp [*]; done)), H', ⟨by have := HK1.out; have := HK2.out; first | omega | exact Nat.le_refl _⟩, ⟨by (try simp only [hl3_2]); (with_reducible repeat (first | apply Kd.N_alloc | apply Kd.N_drewN | apply Kd.N_drew)); exact HO_3.out⟩, ⟨by (try simp only [hl3_2]); (with_reducible repeat (first | apply Kd.R_alloc | apply Kd.R_drewN | apply Kd.R_drew)); exact HO_5.out⟩, ⟨by (try simp only [hl3_2]); (with_reducible repeat (first | refine blk_drewN ?_ _ | refine blk_drew ?_ | refine blk_alloc ?_ _)); exact BK341.out⟩, ⟨by repeat (first | (with_reducible first | exact HB.out | apply below_alloc | apply pw_below_drewN | apply below_drew1 | refine below_set ?_ GE341.out) | exact HB.out)⟩⟩
             ·rw [if_neg c41] at H
              have c41b0 : decide ((rd t347 x10_2) < 0) = false := decide_eq_false c41
              clear c41
              (first | rw [c41b0] | (simp only [i64_w, i32_w]; rw [c41b0]) | skip)
              by_cases c42 : (rd t347 x10_2) ≥ (x3_2.length : Int)
              ·rw [if_pos c42] at H
               have c42b0 : decide ((x3_2.length : Int) ≤ (rd t347 x10_2)) = true := decide_eq_true c42
               clear c42
               have H' := Aside0.mk H
               clear H
               go_wp2
               go_meet
               case rel => exact ⟨_, (true), (by first | rfl | (simp; done) | (simp [*]; done)), H', ⟨by have := HK1.out; have := HK2.out; first | omega | exact Nat.le_refl _⟩, ⟨by (try simp only [hl3_2]); (with_reducible repeat (first | apply Kd.N_alloc | apply Kd.N_drewN | apply Kd.N_drew)); exact HO_3.out⟩, ⟨by (try simp only [hl3_2]); (with_reducible repeat (first | apply Kd.R_alloc | apply Kd.R_drewN | apply Kd.R_drew)); exact HO_5.out⟩, ⟨by (try simp only [hl3_2]); (with_reducible repeat (first | refine blk_drewN ?_ _ | refine blk_drew ?_ | refine blk_alloc ?_ _)); exact BK341.out⟩, ⟨by repeat (first | (with_reducible first | exact HB.out | apply below_alloc | apply pw_below_drewN | apply below_drew1 | refine below_set ?_ GE341.out) | exact HB.out)⟩⟩
              ·rw [if_neg c42] at H
               have c42b0 : decide ((x3_2.length : Int) ≤ (rd t347 x10_2)) = false := decide_eq_false c42
               clear c42
               by_cases c43 : 0 ≤ (rd t347 x10_2)
               ·rw [if_pos c43] at H
                have c43b0 : decide (0 ≤ (rd t347 x10_2)) = true := decide_eq_true c43
                clear c43
                by_cases c44 : (rd t347 x10_2) < (x3_2.length : Int)
                ·rw [if_pos c44] at H
                 have c44b0 : decide ((rd t347 x10_2) < (x3_2.length : Int)) = true := decide_eq_true c44
                 clear c44
                 by_cases c45 : ((rd_L1 x3_2 (rd t347 x10_2)).length : Int) > 1
                 ·rw [if_pos c45] at H
                  have c45b0 : decide (1 < ((rd_L1 x3_2 (rd t347 x10_2)).length : Int)) = true := decide_eq_true c45
                  have c45b1 : decide (1 < (rd_L1 x3_2 (rd t347 x10_2)).length) = true := decide_eq_true (by omega)
                  clear c45
                  have H' := Aside0.mk H
                  clear H
                  have p360 : 0 ≤ ((rd t347 x10_2) : Int) := of_decide_eq_true (by first | (with_reducible assumption) | assumption)
                  have q360 : (rd t347 x10_2) < (x3_2.length : Int) := of_decide_eq_true (by first | (with_reducible assumption) | assumption)
                  obtain ⟨ad360, A360_0, c360_0, e360, hx360_0, hl360_0, hi360_0⟩ := at_L1 (Kd.N_reads' HO_3.out).2.2 (rd t347 x10_2) p360 q360
                  cases e360
                  obtain ⟨ce360, hce360, hMe360, hcc360⟩ := Kd.N_get HO_3.out [] (rd t347 x10_2) p360 (by first | exact q360 | exact of_decide_eq_true (by first | (with_reducible assumption) | assumption) | (have e_ := (Kd.N_reads' HO_3.out).1; omega))
                  obtain ⟨ua360_0, uc360_0, rfl, ul360_0, ge360_0⟩ := Kd.FK_slice_open hMe360
                  have hv360_0 := hcc360 0 _ rfl
                  rw [Nat.add_zero, show ((Kd.slice 3 (Kd.int .i64))).sz = 1 from rfl, Nat.mul_one] at hv360_0
                  replace hv360_0 := Option.some.inj (hv360_0.symm.trans hx360_0)
                  injection hv360_0 with hva_ hvn_ hvc_
                  rw [hva_] at ge360_0
                  rw [hvc_] at ul360_0
                  have HL360_0 := Aside0.mk (show Kd.V (Kd.int .i64) 3 _ w.heap.size _ _ (rd_L1 x3_2 (rd t347 x10_2)) from Kd.V_mk ul360_0 ge360_0)
                  clear hva_ hvn_ hvc_ ge360_0 ul360_0
                  clear hcc360 hce360
                  have HR360_0 := Aside0.mk hi360_0
                  have HC360_0 := Aside0.mk hl360_0
                  clear hi360_0 hl360_0
                  replace p360 := eq_true p360
                  replace q360 := eq_true q360
                  go_wp2
                  go_meet
                  case rel => exact ⟨_, (true), (by first | rfl | (simp; done) | (simp [*]; done)), H', ⟨by have := HK1.out; have := HK2.out; first | omega | exact Nat.le_refl _⟩, ⟨by (try simp only [hl3_2]); (with_reducible repeat (first | apply Kd.N_alloc | apply Kd.N_drewN | apply Kd.N_drew)); exact HO_3.out⟩, ⟨by (try simp only [hl3_2]); (with_reducible repeat (first | apply Kd.R_alloc | apply Kd.R_drewN | apply Kd.R_drew)); exact HO_5.out⟩, ⟨by (try simp only [hl3_2]); (with_reducible repeat (first | refine blk_drewN ?_ _ | refine blk_drew ?_ | refine blk_alloc ?_ _)); exact BK341.out⟩, ⟨by repeat (first | (with_reducible first | exact HB.out | apply below_alloc | apply pw_below_drewN | apply below_drew1 | refine below_set ?_ GE341.out) | exact HB.out)⟩⟩
                 ·rw [if_neg c45] at H
                  have c45b0 : decide (1 < ((rd_L1 x3_2 (rd t347 x10_2)).length : Int)) = false := decide_eq_false c45
                  have c45b1 : decide (1 < (rd_L1 x3_2 (rd t347 x10_2)).length) = false := decide_eq_false (by omega)
                  clear c45
                  replace H := Option.bind_eq_some_iff.mp H
                  obtain ⟨t362, A460, H⟩ := H
                  replace H : (ontimelaw25_DominatorEdges.j4 k2 x3_2 t347 x10_2 (rd t347 x10_2) t362) = some r := H
                  have A46 := Aside0.mk A460
                  clear A460
                  have H' := Aside0.mk H
                  clear H
                  have p360 : 0 ≤ ((rd t347 x10_2) : Int) := of_decide_eq_true (by first | (with_reducible assumption) | assumption)
                  have q360 : (rd t347 x10_2) < (x3_2.length : Int) := of_decide_eq_true (by first | (with_reducible assumption) | assumption)
                  obtain ⟨ad360, A360_0, c360_0, e360, hx360_0, hl360_0, hi360_0⟩ := at_L1 (Kd.N_reads' HO_3.out).2.2 (rd t347 x10_2) p360 q360
                  cases e360
                  obtain ⟨ce360, hce360, hMe360, hcc360⟩ := Kd.N_get HO_3.out [] (rd t347 x10_2) p360 (by first | exact q360 | exact of_decide_eq_true (by first | (with_reducible assumption) | assumption) | (have e_ := (Kd.N_reads' HO_3.out).1; omega))
                  obtain ⟨ua360_0, uc360_0, rfl, ul360_0, ge360_0⟩ := Kd.FK_slice_open hMe360
                  have hv360_0 := hcc360 0 _ rfl
                  rw [Nat.add_zero, show ((Kd.slice 3 (Kd.int .i64))).sz = 1 from rfl, Nat.mul_one] at hv360_0
                  replace hv360_0 := Option.some.inj (hv360_0.symm.trans hx360_0)
                  injection hv360_0 with hva_ hvn_ hvc_
                  rw [hva_] at ge360_0
                  rw [hvc_] at ul360_0
                  have HL360_0 := Aside0.mk (show Kd.V (Kd.int .i64) 3 _ w.heap.size _ _ (rd_L1 x3_2 (rd t347 x10_2)) from Kd.V_mk ul360_0 ge360_0)
                  clear hva_ hvn_ hvc_ ge360_0 ul360_0
                  clear hcc360 hce360
                  have HR360_0 := Aside0.mk hi360_0
                  have HC360_0 := Aside0.mk hl360_0
                  clear hi360_0 hl360_0
                  replace p360 := eq_true p360
                  replace q360 := eq_true q360
                  have p361 : 0 ≤ ((rd t347 x10_2) : Int) := of_decide_eq_true (by first | (with_reducible assumption) | assumption)
                  have q361 : (rd t347 x10_2) < (x3_2.length : Int) := of_decide_eq_true (by first | (with_reducible assumption) | assumption)
                  obtain ⟨ad361, A361_0, c361_0, e361, hx361_0, hl361_0, hi361_0⟩ := at_L1 (Kd.N_reads' HO_3.out).2.2 (rd t347 x10_2) p361 q361
                  obtain rfl : ad360 = ad361 := (by injection e361)
                  obtain ⟨ce361, hce361, hMe361, hcc361⟩ := Kd.N_get HO_3.out [] (rd t347 x10_2) p361 (by first | exact q361 | exact of_decide_eq_true (by first | (with_reducible assumption) | assumption) | (have e_ := (Kd.N_reads' HO_3.out).1; omega))
                  obtain ⟨ua361_0, uc361_0, rfl, ul361_0, ge361_0⟩ := Kd.FK_slice_open hMe361
                  have hv361_0 := hcc361 0 _ rfl
                  rw [Nat.add_zero, show ((Kd.slice 3 (Kd.int .i64))).sz = 1 from rfl, Nat.mul_one] at hv361_0
                  replace hv361_0 := Option.some.inj (hv361_0.symm.trans hx361_0)
                  injection hv361_0 with hva_ hvn_ hvc_
                  rw [hva_] at ge361_0
                  rw [hvc_] at ul361_0
                  have HL361_0 := Aside0.mk (show Kd.V (Kd.int .i64) 3 _ w.heap.size _ _ (rd_L1 x3_2 (rd t347 x10_2)) from Kd.V_mk ul361_0 ge361_0)
                  clear hva_ hvn_ hvc_ ge361_0 ul361_0
                  clear hcc361 hce361
                  have HR361_0 := Aside0.mk hi361_0
                  have HC361_0 := Aside0.mk hl361_0
                  clear hi361_0 hl361_0
                  replace p361 := eq_true p361
                  replace q361 := eq_true q361
                  have ea_ := Option.some.inj (hx360_0.symm.trans hx361_0)
                  injection ea_ with ea_ en_ ec_
                  subst ea_
                  subst ec_
                  clear en_
                  go_wp2_with (first | (go_at_call 25; (with_reducible refine (ontimeref25_In.calls k2 _ _ (rd_L1 x3_2 (rd t347 x10_2)) x10_2 t362 _ ?side1 ?side2 A46.out).mono ?_); (case side1 => repeat (first | exact (by repeat (first | (with_reducible exact HR361_0.out) | (with_reducible refine Kd.C_alloc ?_ _) | (with_reducible refine Kd.C_drewN ?_ _) | (with_reducible refine Kd.C_drew ?_) | exact HR361_0.out)) | (with_reducible refine Kd.C_alloc ?_ _) | (with_reducible refine Kd.C_drewN ?_ _) | (with_reducible refine Kd.C_drew ?_))); (case side2 => exact HC361_0.out); rintro e w' ⟨rfl, ⟨nd, rfl⟩⟩))
                  go_meet
                  case rel => exact ⟨_, (t362), (by first | rfl | (simp; done) | (simp [*]; done)), H', ⟨by have := HK1.out; have := HK2.out; first | omega | exact Nat.le_refl _⟩, ⟨by (try simp only [hl3_2]); (with_reducible repeat (first | apply Kd.N_alloc | apply Kd.N_drewN | apply Kd.N_drew)); exact HO_3.out⟩, ⟨by (try simp only [hl3_2]); (with_reducible repeat (first | apply Kd.R_alloc | apply Kd.R_drewN | apply Kd.R_drew)); exact HO_5.out⟩, ⟨by (try simp only [hl3_2]); (with_reducible repeat (first | refine blk_drewN ?_ _ | refine blk_drew ?_ | refine blk_alloc ?_ _)); exact BK341.out⟩, ⟨by repeat (first | (with_reducible first | exact HB.out | apply below_alloc | apply pw_below_drewN | apply below_drew1 | refine below_set ?_ GE341.out) | exact HB.out)⟩⟩
                ·rw [if_neg c44] at H
                 exact absurd H (by simp)
               ·rw [if_neg c43] at H
                exact absurd H (by simp)
            case rest =>
             clear HC40
             try clear c1
             try clear c2
             try clear p2
             try clear c3
             try clear p3
             try clear q3
             try clear hx3
             try clear c4
             try clear c5
             try clear p6
             try clear c8
             try clear c8b0
             try clear c8b1
             try clear c8b2
             try clear c11
             try clear c12
             try clear c13
             try clear c14
             try clear c18
             try clear c18b0
             try clear c20
             try clear c20b0
             try clear c21
             try clear c21b0
             try clear c22
             try clear c22b0
             try clear c23
             try clear c23b0
             try clear c25
             try clear c26
             try clear c26b0
             try clear c27
             try clear c27b0
             try clear c28
             try clear c28b0
             try clear c29
             try clear c29b0
             try clear c30
             try clear c30b0
             try clear c31
             try clear c31b0
             try clear c32
             try clear c32b0
             try clear c34
             try clear c35
             try clear p35
             try clear q35
             try clear hx35
             try clear c36
             try clear p36
             try clear q36
             try clear hx36
             try clear c37
             try clear c37b0
             try clear c38
             try clear c38b0
             try clear c39
             try clear c39b0
             try clear c41
             try clear c41b0
             try clear c42
             try clear c42b0
             try clear c43
             try clear c43b0
             try clear c44
             try clear c44b0
             try clear c45
             try clear c45b0
             try clear c45b1
             try clear hcz11_0
             try clear hcz11_1
             try clear hcz13_0
             try clear hcz13_1
             try clear hfz11_0
             try clear hfz11_1
             try clear hfz13_0
             try clear hfz13_1
             try clear hx353_0
             try clear hx354_0
             try clear hx355_0
             try clear hx356_0
             try clear hx357_0
             try clear hx359_0
             try clear hx360_0
             try clear hx361_0
             try clear p2
             try clear p3
             try clear p35
             try clear p353
             try clear p354
             try clear p355
             try clear p356
             try clear p357
             try clear p359
             try clear p360
             try clear p361
             try clear p6
             try clear q3
             try clear q35
             try clear q353
             try clear q354
             try clear q355
             try clear q356
             try clear q357
             try clear q359
             try clear q360
             try clear q361
             obtain ⟨kq, x104_39, rfl, HA, HJ39, HO_3, HO_5, BK341, HB⟩ := hcut
             cases kq with
             | zero => exact absurd HA.out (by simp [ontimelaw25_DominatorEdges.j4])
             | succ kj39 =>
              have H := HA.out
              clear HA
              simp only [ontimelaw25_DominatorEdges.j4] at H
              by_cases c47 : x104_39 = true
              ·subst c47
               have H1 : (ontimelaw25_DominatorEdges.l2 kj39 x3_2 t347 (wrap64 (x10_2 + 1))) = some r := by rw [if_pos rfl] at H; exact H
               clear H
               have H := H1
               clear H1
               have H' := Aside0.mk H
               clear H
               go_wp2
               (try simp only [← hl3_2])
               go_roundg kj39
               case measure => have := HK1.out; have := HK2.out; have := HJ39.out; omega
               case rel => exact ⟨(x3_2), (wrap64 (x10_2 + 1)), (by first | rfl | (simp; done) | (simp [*]; done)), H', ⟨by have := HK1.out; have := HK2.out; have := HJ39.out; omega⟩, ⟨by (try simp only [hl3_2]); (with_reducible repeat (first | apply Kd.N_alloc | apply Kd.N_drewN | apply Kd.N_drew)); exact HO_3.out⟩, ⟨by (try simp only [hl3_2]); (with_reducible repeat (first | apply Kd.R_alloc | apply Kd.R_drewN | apply Kd.R_drew)); exact HO_5.out⟩, ⟨by (try simp only [hl3_2]); (with_reducible repeat (first | refine blk_drewN ?_ _ | refine blk_drew ?_ | refine blk_alloc ?_ _)); exact BK341.out⟩, ⟨by repeat (first | (with_reducible first | exact HB.out | apply below_alloc | apply pw_below_drewN | apply below_drew1 | refine below_set ?_ GE341.out) | exact HB.out)⟩⟩
              ·replace c47 := Bool.eq_false_iff.mpr c47
               subst c47
               have H1 : ((some (([] : List (List Int)) : List (List Int))).bind fun y363 => (if y363.length + x3_2.length < 5864062014805 then ((some (y363 ++ x3_2 : List (List Int))).bind fun y366 => ((some (([] : List Int) : List Int)).bind fun y369 => (if 0 ≤ (rd t347 x10_2) then (if (rd t347 x10_2) < (x3_2.length : Int) then (if y369.length + (rd_L1 x3_2 (rd t347 x10_2)).length < 17592186044416 then ((some (y369 ++ (rd_L1 x3_2 (rd t347 x10_2)) : List Int)).bind fun y373 => (if y373.length < 17592186044416 then (if (rd t347 x10_2) < (y366.length : Int) then ((ontimelaw25_Graph.f (y366.set ((rd t347 x10_2) : Int).toNat (y373 ++ [x10_2]))).bind fun bt380 => ((dominator_Tree.f kj39 bt380.1 bt380.2).bind fun t386 => ((ontimeref25_Ints.f kj39 t386 t347).bind fun t389 => (if t389 = true then (some true) else (some false))))) else (none)) else (none))) else (none)) else (none)) else (none)))) else (none))) = some r := by rw [if_neg (show ¬ (false = true) by decide)] at H; exact H
               clear H
               have H := H1
               clear H1
               obtain ⟨y363, hy363⟩ : ∃ y_ : List (List Int), y_ = (([] : List (List Int))) := ⟨_, rfl⟩
               replace H : (if y363.length + x3_2.length < 5864062014805 then ((some (y363 ++ x3_2 : List (List Int))).bind fun y366 => ((some (([] : List Int) : List Int)).bind fun y369 => (if 0 ≤ (rd t347 x10_2) then (if (rd t347 x10_2) < (x3_2.length : Int) then (if y369.length + (rd_L1 x3_2 (rd t347 x10_2)).length < 17592186044416 then ((some (y369 ++ (rd_L1 x3_2 (rd t347 x10_2)) : List Int)).bind fun y373 => (if y373.length < 17592186044416 then (if (rd t347 x10_2) < (y366.length : Int) then ((ontimelaw25_Graph.f (y366.set ((rd t347 x10_2) : Int).toNat (y373 ++ [x10_2]))).bind fun bt380 => ((dominator_Tree.f kj39 bt380.1 bt380.2).bind fun t386 => ((ontimeref25_Ints.f kj39 t386 t347).bind fun t389 => (if t389 = true then (some true) else (some false))))) else (none)) else (none))) else (none)) else (none)) else (none)))) else (none)) = some r := by first | (rw [hy363]; with_reducible exact H) | (have H2_ := (Option.bind_some _ _).symm.trans H; rw [hy363]; with_reducible exact H2_) | (have H2_ := (Option.bind_some _ _).symm.trans H; with_reducible exact H2_) | with_reducible exact H | (rw [hy363]; exact H) | exact H
               have Ny363 := Aside0.mk hy363
               clear hy363
               by_cases c48 : y363.length + x3_2.length < 5864062014805
               ·rw [if_pos c48] at H
                have LMc48 := Aside0.mk c48
                clear c48
                obtain ⟨y366, hy366⟩ : ∃ y_ : List (List Int), y_ = (y363 ++ x3_2) := ⟨_, rfl⟩
                replace H : ((some (([] : List Int) : List Int)).bind fun y369 => (if 0 ≤ (rd t347 x10_2) then (if (rd t347 x10_2) < (x3_2.length : Int) then (if y369.length + (rd_L1 x3_2 (rd t347 x10_2)).length < 17592186044416 then ((some (y369 ++ (rd_L1 x3_2 (rd t347 x10_2)) : List Int)).bind fun y373 => (if y373.length < 17592186044416 then (if (rd t347 x10_2) < (y366.length : Int) then ((ontimelaw25_Graph.f (y366.set ((rd t347 x10_2) : Int).toNat (y373 ++ [x10_2]))).bind fun bt380 => ((dominator_Tree.f kj39 bt380.1 bt380.2).bind fun t386 => ((ontimeref25_Ints.f kj39 t386 t347).bind fun t389 => (if t389 = true then (some true) else (some false))))) else (none)) else (none))) else (none)) else (none)) else (none))) = some r := by first | (rw [hy366]; with_reducible exact H) | (have H2_ := (Option.bind_some _ _).symm.trans H; rw [hy366]; with_reducible exact H2_) | (have H2_ := (Option.bind_some _ _).symm.trans H; with_reducible exact H2_) | with_reducible exact H | (rw [hy366]; exact H) | exact H
                have Ny366 := Aside0.mk hy366
                clear hy366
                obtain ⟨y369, hy369⟩ : ∃ y_ : List Int, y_ = (([] : List Int)) := ⟨_, rfl⟩
                replace H : (if 0 ≤ (rd t347 x10_2) then (if (rd t347 x10_2) < (x3_2.length : Int) then (if y369.length + (rd_L1 x3_2 (rd t347 x10_2)).length < 17592186044416 then ((some (y369 ++ (rd_L1 x3_2 (rd t347 x10_2)) : List Int)).bind fun y373 => (if y373.length < 17592186044416 then (if (rd t347 x10_2) < (y366.length : Int) then ((ontimelaw25_Graph.f (y366.set ((rd t347 x10_2) : Int).toNat (y373 ++ [x10_2]))).bind fun bt380 => ((dominator_Tree.f kj39 bt380.1 bt380.2).bind fun t386 => ((ontimeref25_Ints.f kj39 t386 t347).bind fun t389 => (if t389 = true then (some true) else (some false))))) else (none)) else (none))) else (none)) else (none)) else (none)) = some r := by first | (rw [hy369]; with_reducible exact H) | (have H2_ := (Option.bind_some _ _).symm.trans H; rw [hy369]; with_reducible exact H2_) | (have H2_ := (Option.bind_some _ _).symm.trans H; with_reducible exact H2_) | with_reducible exact H | (rw [hy369]; exact H) | exact H
                have Ny369 := Aside0.mk hy369
                clear hy369
                by_cases c49 : 0 ≤ (rd t347 x10_2)
                ·rw [if_pos c49] at H
                 have c49b0 : decide (0 ≤ (rd t347 x10_2)) = true := decide_eq_true c49
                 clear c49
                 by_cases c50 : (rd t347 x10_2) < (x3_2.length : Int)
                 ·rw [if_pos c50] at H
                  have c50b0 : decide ((rd t347 x10_2) < (x3_2.length : Int)) = true := decide_eq_true c50
                  clear c50
                  by_cases c51 : y369.length + (rd_L1 x3_2 (rd t347 x10_2)).length < 17592186044416
                  ·rw [if_pos c51] at H
                   have LMc51 := Aside0.mk c51
                   clear c51
                   obtain ⟨y373, hy373⟩ : ∃ y_ : List Int, y_ = (y369 ++ (rd_L1 x3_2 (rd t347 x10_2))) := ⟨_, rfl⟩
                   replace H : (if y373.length < 17592186044416 then (if (rd t347 x10_2) < (y366.length : Int) then ((ontimelaw25_Graph.f (y366.set ((rd t347 x10_2) : Int).toNat (y373 ++ [x10_2]))).bind fun bt380 => ((dominator_Tree.f kj39 bt380.1 bt380.2).bind fun t386 => ((ontimeref25_Ints.f kj39 t386 t347).bind fun t389 => (if t389 = true then (some true) else (some false))))) else (none)) else (none)) = some r := by first | (rw [hy373]; with_reducible exact H) | (have H2_ := (Option.bind_some _ _).symm.trans H; rw [hy373]; with_reducible exact H2_) | (have H2_ := (Option.bind_some _ _).symm.trans H; with_reducible exact H2_) | with_reducible exact H | (rw [hy373]; exact H) | exact H
                   have Ny373 := Aside0.mk hy373
                   clear hy373
                   by_cases c52 : y373.length < 17592186044416
                   ·rw [if_pos c52] at H
                    have LMc52 := Aside0.mk c52
                    clear c52
                    obtain ⟨y376, hy376⟩ : ∃ y_ : List Int, y_ = (y373 ++ [x10_2]) := ⟨_, rfl⟩
                    replace H : (if (rd t347 x10_2) < (y366.length : Int) then ((ontimelaw25_Graph.f (y366.set ((rd t347 x10_2) : Int).toNat y376)).bind fun bt380 => ((dominator_Tree.f kj39 bt380.1 bt380.2).bind fun t386 => ((ontimeref25_Ints.f kj39 t386 t347).bind fun t389 => (if t389 = true then (some true) else (some false))))) else (none)) = some r := by first | (rw [hy376]; with_reducible exact H) | (have H2_ := (Option.bind_some _ _).symm.trans H; rw [hy376]; with_reducible exact H2_) | (have H2_ := (Option.bind_some _ _).symm.trans H; with_reducible exact H2_) | with_reducible exact H | (rw [hy376]; exact H) | exact H
                    have Ny376 := Aside0.mk hy376
                    clear hy376
                    by_cases c53 : (rd t347 x10_2) < (y366.length : Int)
                    ·rw [if_pos c53] at H
                     have c53b0 : decide ((rd t347 x10_2) < (y366.length : Int)) = true := decide_eq_true c53
                     clear c53
                     obtain ⟨y379, hy379⟩ : ∃ y_ : List (List Int), y_ = (y366.set ((rd t347 x10_2) : Int).toNat y376) := ⟨_, rfl⟩
                     replace H : ((ontimelaw25_Graph.f y379).bind fun bt380 => ((dominator_Tree.f kj39 bt380.1 bt380.2).bind fun t386 => ((ontimeref25_Ints.f kj39 t386 t347).bind fun t389 => (if t389 = true then (some true) else (some false))))) = some r := by first | (rw [hy379]; with_reducible exact H) | (have H2_ := (Option.bind_some _ _).symm.trans H; rw [hy379]; with_reducible exact H2_) | (have H2_ := (Option.bind_some _ _).symm.trans H; with_reducible exact H2_) | with_reducible exact H | (rw [hy379]; exact H) | exact H
                     have Ny379 := Aside0.mk hy379
                     clear hy379
                     replace H := Option.bind_eq_some_iff.mp H
                     obtain ⟨⟨t380, t383⟩, A550, H⟩ := H
                     replace H : ((dominator_Tree.f kj39 t380 t383).bind fun t386 => ((ontimeref25_Ints.f kj39 t386 t347).bind fun t389 => (if t389 = true then (some true) else (some false)))) = some r := H
                     have A55 := Aside0.mk A550
                     clear A550
                     replace H := Option.bind_eq_some_iff.mp H
                     obtain ⟨t386, A560, H⟩ := H
                     replace H : ((ontimeref25_Ints.f kj39 t386 t347).bind fun t389 => (if t389 = true then (some true) else (some false))) = some r := H
                     have A56 := Aside0.mk A560
                     clear A560
                     replace H := Option.bind_eq_some_iff.mp H
                     obtain ⟨t389, A570, H⟩ := H
                     replace H : (if t389 = true then (some true) else (some false)) = some r := H
                     have A57 := Aside0.mk A570
                     clear A570
                     by_cases c58 : t389 = true
                     ·subst c58
                      have H1 : (some true) = some r := by rw [if_pos rfl] at H; exact H
                      clear H
                      have H := H1
                      clear H1
                      obtain rfl := Option.some.inj H
                      go_wp2_with (first | ((with_reducible refine gate_dst (N := 105) rfl ?_); (try (refine gate_guard (by rfl) ?_; dsimp only)); refine Kd.N_lit (Kd.slice 3 (Kd.int .i64)) _ 29 ?hg (N' := 105) ?hd (xs := ([] : List (List Int))) (inner := []) (ok := (fun k_ => some k_ ≠ (.slice Ao15 x3_2.length co15 : Value).ownBlock ∧ some k_ ≠ (.slice (some ad359) t347.length co17 : Value).ownBlock ∧ k_ ≠ gb341)) (okp := (fun k_ => some k_ ≠ (.slice Ao15 x3_2.length co15 : Value).ownBlock ∧ some k_ ≠ (.slice (some ad359) t347.length co17 : Value).ownBlock ∧ k_ ≠ gb341)) ?hr ?hp (fun _ hk => hk) ((show ∀ k_, wc.heap.size ≤ k_ → (fun k_ => some k_ ≠ (.slice Ao15 x3_2.length co15 : Value).ownBlock ∧ some k_ ≠ (.slice (some ad359) t347.length co17 : Value).ownBlock ∧ k_ ≠ gb341) k_ from fun k_ hk => ⟨Kd.fresh' (Kd.N_lt (by (with_reducible repeat (first | apply Kd.N_alloc | apply Kd.N_drewN | apply Kd.N_drew)); exact HO_3.out)) k_ hk, Kd.fresh' (Kd.R_lt (by (with_reducible repeat (first | apply Kd.R_alloc | apply Kd.R_drewN | apply Kd.R_drew)); exact HO_5.out)) k_ hk, Kd.freshB (g := gb341) (o := .cells #[.slice A0_0 l0_0.length c0_0, .slice A0_1 l0_1.length c0_1] 25 (0, 0)) (by (with_reducible repeat (first | refine blk_drewN ?_ _ | refine blk_drew ?_ | refine blk_alloc ?_ _)); exact BK341.out) k_ hk⟩) _ (Nat.le_refl _)) (Below.refl _ _) (Nat.le_refl _) (by simp) ?_; (case hd => rfl); (case hg => rfl); (case hr => first | (go_simp; done) | (go_simp; rfl)); (case hp => exact (Reps.none _ _)); intro v364 w59 ho60 hb hg_ hnew_; clear hg_ hnew_; (first | rw [← Ny363.out] at ho60 | (simp only [Int.reduceToNat] at ho60; rw [← Ny363.out] at ho60)); have n0_ := Aside0.mk (Kd.N_elder' (by (with_reducible repeat (first | apply Kd.N_alloc | apply Kd.N_drewN | apply Kd.N_drew)); exact HO_3.out) (Kd.N_base ho60) hb); have n1_ := Aside0.mk (Kd.R_below (by (with_reducible repeat (first | apply Kd.R_alloc | apply Kd.R_drewN | apply Kd.R_drew)); exact HO_5.out) hb); have n2_ := Aside0.mk (Kd.N_lower ho60 (below_size (by repeat (first | (with_reducible first | exact HB.out | apply below_alloc | apply pw_below_drewN | apply below_drew1 | refine below_set ?_ GE341.out) | exact HB.out)))); have n3_ := Aside0.mk (blk_below (g := gb341) (o := .cells #[.slice A0_0 l0_0.length c0_0, .slice A0_1 l0_1.length c0_1] 25 (0, 0)) (by (with_reducible repeat (first | refine blk_drewN ?_ _ | refine blk_drew ?_ | refine blk_alloc ?_ _)); exact BK341.out) hb); have n4_ := Aside0.mk (below_step (by repeat (first | (with_reducible first | exact HB.out | apply below_alloc | apply pw_below_drewN | apply below_drew1 | refine below_set ?_ GE341.out) | exact HB.out)) hb); clear HO_3; clear HO_5; clear BK341; clear HB; have HO_3 := n0_; have HO_5 := n1_; have HO365 := n2_; have BK341 := n3_; have HB := n4_; clear n0_ n1_ n2_ n3_ n4_; clear hb ho60) | ((with_reducible refine gate_builtin (b := .append) (xs := #[.tmp 105, .tmp 106]) rfl ?_); (try (refine gate_guard (by rfl) ?_; dsimp only)); at_builtin; refine Kd.N_append_rows (Kd.slice 3 (Kd.int .i64)) (w0 := w) w.heap.size rfl (.tmp 105) (.tmp 106) 23 29 (.slice none 0 0) 24 rfl Try.underlying23 info29 rfl (by decide) (by omega) v364 y363 x3_2 _ _ _ (fun k_ => some k_ ≠ (.slice (some ad359) t347.length co17 : Value).ownBlock ∧ k_ ≠ gb341) (fun k_ => ((fun k_ => some k_ ≠ (.slice (some ad359) t347.length co17 : Value).ownBlock ∧ k_ ≠ gb341)) k_ ∧ some k_ ≠ (v364 : Value).ownBlock) rfl rfl ?aO ?aR (fun _ hk => hk) ?aF ?aB ?aS ?aL ?_; (case aR => exact (by skip; exact Kd.N_F (Kd.N_mono (ok' := (fun k_ => ((fun k_ => some k_ ≠ (.slice (some ad359) t347.length co17 : Value).ownBlock ∧ k_ ≠ gb341)) k_ ∧ some k_ ≠ (v364 : Value).ownBlock)) (HO_3.out) (fun k_ hk => ⟨⟨hk.1.1, hk.1.2⟩, hk.2⟩)))); (case aB => exact (by repeat (first | (with_reducible first | exact HB.out | apply below_alloc | apply pw_below_drewN | apply below_drew1 | refine below_set ?_ GE341.out) | exact HB.out))); (case aF => exact (fun k_ hk => ⟨Kd.fresh' (Kd.R_lt (by (with_reducible repeat (first | apply Kd.R_alloc | apply Kd.R_drewN | apply Kd.R_drew)); exact HO_5.out)) k_ hk, Kd.freshB (g := gb341) (o := .cells #[.slice A0_0 l0_0.length c0_0, .slice A0_1 l0_1.length c0_1] 25 (0, 0)) (by (with_reducible repeat (first | refine blk_drewN ?_ _ | refine blk_drew ?_ | refine blk_alloc ?_ _)); exact BK341.out) k_ hk⟩)); (case aO => exact (by (with_reducible repeat (first | apply Kd.N_alloc | apply Kd.N_drewN | apply Kd.N_drew)); exact Kd.N_mono HO365.out (fun _ hk => ⟨hk.2.1, hk.2.2⟩))); (case aS => exact (below_size (by repeat (first | (with_reducible first | exact HB.out | apply below_alloc | apply pw_below_drewN | apply below_drew1 | refine below_set ?_ GE341.out) | exact HB.out)))); (case aL => have := LMc48.out; omega); intro v367 w61 ho hb hg hat; rw [← Ny366.out] at ho; have n0_ := Aside0.mk (Kd.N_afterv (ok := (fun k_ => some k_ ≠ (.slice (some ad359) t347.length co17 : Value).ownBlock ∧ k_ ≠ gb341)) (by (with_reducible repeat (first | apply Kd.N_alloc | apply Kd.N_drewN | apply Kd.N_drew)); exact HO_3.out) hg hat); have n1_ := Aside0.mk (Kd.R_over' (by (with_reducible repeat (first | apply Kd.R_alloc | apply Kd.R_drewN | apply Kd.R_drew)); exact HO_5.out) (Kd.N_typed (by (with_reducible repeat (first | apply Kd.N_alloc | apply Kd.N_drewN | apply Kd.N_drew)); exact HO365.out)) (by decide) hg); have n2_ := Aside0.mk (blk_grown (g := gb341) (o := .cells #[.slice A0_0 l0_0.length c0_0, .slice A0_1 l0_1.length c0_1] 25 (0, 0)) (by (with_reducible repeat (first | refine blk_drewN ?_ _ | refine blk_drew ?_ | refine blk_alloc ?_ _)); exact BK341.out) hg (Kd.N_ne HO365.out BK341.out (by decide))); have n3_ := Aside0.mk (hb); have n4_ := Aside0.mk (ho); clear HO_3; clear HO_5; clear BK341; clear HB; clear HO365; have HO_3 := n0_; have HO_5 := n1_; have BK341 := n2_; have HB := n3_; have HO368 := n4_; clear n0_ n1_ n2_ n3_ n4_; clear ho hb hg hat) | ((with_reducible refine gate_dst (N := 110) rfl ?_); (try (refine gate_guard (by rfl) ?_; dsimp only)); refine Kd.R_lit (Kd.int .i64) _ 3 ?hg (N := 110) ?hd (xs := ([] : List Int)) (inner := []) (ok := fun _ => True) (okp := fun _ => True) ?hr ?hp (fun _ hk => hk) trivial (Below.refl _ _) (Nat.le_refl _) (by simp) ?_; (case hd => rfl); (case hg => rfl); (case hr => first | (go_simp; done) | (go_simp; rfl)); (case hp => exact (Reps.none _ _)); intro v370 w62 ho63 hb hg_ hnew_; clear hg_ hnew_; (first | rw [← Ny369.out] at ho63 | (simp only [Int.reduceToNat] at ho63; rw [← Ny369.out] at ho63)); have n0_ := Aside0.mk (Kd.N_elder' (by (with_reducible repeat (first | apply Kd.N_alloc | apply Kd.N_drewN | apply Kd.N_drew)); exact HO_3.out) (Kd.R_base ho63) hb); have n1_ := Aside0.mk (Kd.R_elder' (by (with_reducible repeat (first | apply Kd.R_alloc | apply Kd.R_drewN | apply Kd.R_drew)); exact HO_5.out) (Kd.R_base ho63) hb); have n2_ := Aside0.mk (Kd.N_elder' (by (with_reducible repeat (first | apply Kd.N_alloc | apply Kd.N_drewN | apply Kd.N_drew)); exact HO368.out) (Kd.R_base ho63) hb); have n3_ := Aside0.mk (Kd.R_lower (Kd.R_new' ho63 (Kd.R_lt (by (with_reducible repeat (first | apply Kd.R_alloc | apply Kd.R_drewN | apply Kd.R_drew)); exact HO_5.out))) (below_size (by repeat (first | (with_reducible first | exact HB.out | apply below_alloc | apply pw_below_drewN | apply below_drew1 | refine below_set ?_ GE341.out) | exact HB.out)))); have n4_ := Aside0.mk (blk_below (g := gb341) (o := .cells #[.slice A0_0 l0_0.length c0_0, .slice A0_1 l0_1.length c0_1] 25 (0, 0)) (by (with_reducible repeat (first | refine blk_drewN ?_ _ | refine blk_drew ?_ | refine blk_alloc ?_ _)); exact BK341.out) hb); have n5_ := Aside0.mk (below_step (by repeat (first | (with_reducible first | exact HB.out | apply below_alloc | apply pw_below_drewN | apply below_drew1 | refine below_set ?_ GE341.out) | exact HB.out)) hb); clear HO_3; clear HO_5; clear HO368; clear BK341; clear HB; have HO_3 := n0_; have HO_5 := n1_; have HO368 := n2_; have HO371 := n3_; have BK341 := n4_; have HB := n5_; clear n0_ n1_ n2_ n3_ n4_ n5_; clear hb ho63; have p372 : 0 ≤ ((rd t347 x10_2) : Int) := of_decide_eq_true (by first | (with_reducible assumption) | assumption); have q372 : (rd t347 x10_2) < (x3_2.length : Int) := of_decide_eq_true (by first | (with_reducible assumption) | assumption); obtain ⟨ad372, A372_0, c372_0, e372, hx372_0, hl372_0, hi372_0⟩ := at_L1 (Kd.N_reads' HO_3.out).2.2 (rd t347 x10_2) p372 q372; cases e372; obtain ⟨ce372, hce372, hMe372, hcc372⟩ := Kd.N_get HO_3.out [] (rd t347 x10_2) p372 (by first | exact q372 | exact of_decide_eq_true (by first | (with_reducible assumption) | assumption) | (have e_ := (Kd.N_reads' HO_3.out).1; omega)); obtain ⟨ua372_0, uc372_0, rfl, ul372_0, ge372_0⟩ := Kd.FK_slice_open hMe372; have hv372_0 := hcc372 0 _ rfl; rw [Nat.add_zero, show ((Kd.slice 3 (Kd.int .i64))).sz = 1 from rfl, Nat.mul_one] at hv372_0; replace hv372_0 := Option.some.inj (hv372_0.symm.trans hx372_0); injection hv372_0 with hva_ hvn_ hvc_; rw [hva_] at ge372_0; rw [hvc_] at ul372_0; have HL372_0 := Aside0.mk (show Kd.V (Kd.int .i64) 3 _ w.heap.size _ _ (rd_L1 x3_2 (rd t347 x10_2)) from Kd.V_mk ul372_0 ge372_0); clear hva_ hvn_ hvc_ ge372_0 ul372_0; clear hcc372 hce372; have HR372_0 := Aside0.mk hi372_0; have HC372_0 := Aside0.mk hl372_0; clear hi372_0 hl372_0; replace p372 := eq_true p372; replace q372 := eq_true q372) | ((with_reducible refine gate_builtin (b := .append) (xs := #[.tmp 110, .tmp 114]) rfl ?_); (try (refine gate_guard (by rfl) ?_; dsimp only)); at_builtin; refine Kd.R_append_rows (Kd.int .i64) (w0 := w) w.heap.size rfl (.tmp 110) (.tmp 114) 29 3 (.int .i64 0) 8 rfl Try.underlying29 info3 rfl (by decide) (by omega) v370 y369 (rd_L1 x3_2 (rd t347 x10_2)) _ _ _ (fun k_ => some k_ ≠ (.slice (some ad359) t347.length co17 : Value).ownBlock) (fun _ => False) rfl rfl ?aO ?aR (fun _ _ h => h) (fun _ h => h.elim) ?aF ?aB ?aS ?aL ?_; (case aR => repeat (first | exact (by repeat (first | (with_reducible exact HR372_0.out) | (with_reducible refine Kd.C_alloc ?_ _) | (with_reducible refine Kd.C_drewN ?_ _) | (with_reducible refine Kd.C_drew ?_) | exact HR372_0.out)) | (with_reducible refine Kd.C_alloc ?_ _) | (with_reducible refine Kd.C_drewN ?_ _) | (with_reducible refine Kd.C_drew ?_))); (case aB => exact (by repeat (first | (with_reducible first | exact HB.out | apply below_alloc | apply pw_below_drewN | apply below_drew1 | refine below_set ?_ GE341.out) | exact HB.out))); (case aF => exact (fun k_ hk => Kd.fresh' (Kd.R_lt (by (with_reducible repeat (first | apply Kd.R_alloc | apply Kd.R_drewN | apply Kd.R_drew)); exact HO_5.out)) k_ hk)); (case aO => exact (by (with_reducible repeat (first | apply Kd.R_alloc | apply Kd.R_drewN | apply Kd.R_drew)); exact Kd.R_mono HO371.out (fun _ hk => hk.2))); (case aS => exact (below_size (by repeat (first | (with_reducible first | exact HB.out | apply below_alloc | apply pw_below_drewN | apply below_drew1 | refine below_set ?_ GE341.out) | exact HB.out)))); (case aL => have := LMc51.out; omega); intro v374 w64 ho hb hg hat; rw [← Ny373.out] at ho; have n0_ := Aside0.mk (Kd.N_afterv (ok := (fun k_ => some k_ ≠ (.slice (some ad359) t347.length co17 : Value).ownBlock ∧ some k_ ≠ (v367 : Value).ownBlock ∧ k_ ≠ gb341)) (by (with_reducible repeat (first | apply Kd.N_alloc | apply Kd.N_drewN | apply Kd.N_drew)); exact Kd.N_mono HO_3.out (fun _ hk => ⟨⟨hk.1.1.1, ⟨hk.1.2, hk.1.1.2⟩⟩, hk.2⟩)) hg hat); have n1_ := Aside0.mk (Kd.R_after (ok := (fun _ => True)) (by (with_reducible repeat (first | apply Kd.R_alloc | apply Kd.R_drewN | apply Kd.R_drew)); exact HO_5.out) hg hat); have n2_ := Aside0.mk (blk_grown (g := gb341) (o := .cells #[.slice A0_0 l0_0.length c0_0, .slice A0_1 l0_1.length c0_1] 25 (0, 0)) (by (with_reducible repeat (first | refine blk_drewN ?_ _ | refine blk_drew ?_ | refine blk_alloc ?_ _)); exact BK341.out) hg (Kd.R_ne HO371.out BK341.out (by decide))); have n3_ := Aside0.mk (Kd.N_afterv (ok := (fun k_ => some k_ ≠ (.slice (some ad359) t347.length co17 : Value).ownBlock ∧ k_ ≠ gb341)) (by (with_reducible repeat (first | apply Kd.N_alloc | apply Kd.N_drewN | apply Kd.N_drew)); exact HO368.out) hg hat); have n4_ := Aside0.mk (Kd.V_afterv (ok := (fun k_ => some k_ ≠ (.slice (some ad372) x3_2.length co15 : Value).ownBlock ∧ some k_ ≠ (.slice (some ad359) t347.length co17 : Value).ownBlock ∧ some k_ ≠ (v367 : Value).ownBlock ∧ k_ ≠ gb341)) (by (with_reducible repeat (first | apply Kd.V_alloc | apply Kd.V_drewN | apply Kd.V_drew)); exact Kd.V_mono HL372_0.out (fun _ hk => ⟨⟨hk.2, ⟨hk.1.1.1.1, ⟨hk.1.1.2, hk.1.1.1.2⟩⟩⟩, hk.1.2⟩)) hg hat); have n5_ := Aside0.mk (hb); have n6_ := Aside0.mk (ho); clear HO_3; clear HO_5; clear BK341; clear HO368; clear HL372_0; clear HB; clear HO371; have HO_3 := n0_; have HO_5 := n1_; have BK341 := n2_; have HO368 := n3_; have HL372_0 := n4_; have HB := n5_; have HO375 := n6_; clear n0_ n1_ n2_ n3_ n4_ n5_ n6_; clear ho hb hg hat) | ((with_reducible refine gate_builtin (b := .append) (xs := #[.tmp 115, .tmp 117]) rfl ?_); (try (refine gate_guard (by rfl) ?_; dsimp only)); at_builtin; refine Kd.R_append (Kd.int .i64) (w0 := w) w.heap.size rfl (.tmp 115) (.tmp 117) 29 3 (.int .i64 0) 8 rfl Try.underlying29 info3 rfl (by decide) (by omega) v374 y373 x10_2 [.int .i64 x10_2] (fun k_ => some k_ ≠ (.slice (some ad359) t347.length co17 : Value).ownBlock) (fun _ => False) rfl rfl ?aP (fun _ hk => hk.elim) ?aF ?aO ?aB ?aS ?aL ?_; (case aP => exact rfl); (case aB => exact (by repeat (first | (with_reducible first | exact HB.out | apply below_alloc | apply pw_below_drewN | apply below_drew1 | refine below_set ?_ GE341.out) | exact HB.out))); (case aF => exact (fun k_ hk => Kd.fresh' (Kd.R_lt (by (with_reducible repeat (first | apply Kd.R_alloc | apply Kd.R_drewN | apply Kd.R_drew)); exact HO_5.out)) k_ hk)); (case aO => exact (by (with_reducible repeat (first | apply Kd.R_alloc | apply Kd.R_drewN | apply Kd.R_drew)); exact HO375.out)); (case aS => exact (below_size (by repeat (first | (with_reducible first | exact HB.out | apply below_alloc | apply pw_below_drewN | apply below_drew1 | refine below_set ?_ GE341.out) | exact HB.out)))); (case aL => have := LMc52.out; omega); intro v377 w65 ho hb hg hat; rw [← Ny376.out] at ho; have n0_ := Aside0.mk (Kd.N_afterv (ok := (fun k_ => some k_ ≠ (.slice (some ad359) t347.length co17 : Value).ownBlock ∧ some k_ ≠ (v367 : Value).ownBlock ∧ k_ ≠ gb341)) (by (with_reducible repeat (first | apply Kd.N_alloc | apply Kd.N_drewN | apply Kd.N_drew)); exact HO_3.out) hg hat); have n1_ := Aside0.mk (Kd.R_after (ok := (fun _ => True)) (by (with_reducible repeat (first | apply Kd.R_alloc | apply Kd.R_drewN | apply Kd.R_drew)); exact HO_5.out) hg hat); have n2_ := Aside0.mk (blk_grown (g := gb341) (o := .cells #[.slice A0_0 l0_0.length c0_0, .slice A0_1 l0_1.length c0_1] 25 (0, 0)) (by (with_reducible repeat (first | refine blk_drewN ?_ _ | refine blk_drew ?_ | refine blk_alloc ?_ _)); exact BK341.out) hg (Kd.R_ne HO375.out BK341.out (by decide))); have n3_ := Aside0.mk (Kd.N_afterv (ok := (fun k_ => some k_ ≠ (.slice (some ad359) t347.length co17 : Value).ownBlock ∧ k_ ≠ gb341)) (by (with_reducible repeat (first | apply Kd.N_alloc | apply Kd.N_drewN | apply Kd.N_drew)); exact HO368.out) hg hat); have n4_ := Aside0.mk (Kd.V_afterv (ok := (fun k_ => some k_ ≠ (.slice (some ad372) x3_2.length co15 : Value).ownBlock ∧ some k_ ≠ (.slice (some ad359) t347.length co17 : Value).ownBlock ∧ some k_ ≠ (v367 : Value).ownBlock ∧ k_ ≠ gb341)) (by (with_reducible repeat (first | apply Kd.V_alloc | apply Kd.V_drewN | apply Kd.V_drew)); exact HL372_0.out) hg hat); have n5_ := Aside0.mk (hb); have n6_ := Aside0.mk (ho); clear HO_3; clear HO_5; clear BK341; clear HO368; clear HL372_0; clear HB; clear HO375; have HO_3 := n0_; have HO_5 := n1_; have BK341 := n2_; have HO368 := n3_; have HL372_0 := n4_; have HB := n5_; have HO378 := n6_; clear n0_ n1_ n2_ n3_ n4_ n5_ n6_; clear ho hb hg hat; obtain ⟨Ao377, co377, eo377⟩ := Kd.R_slice HO378.out; subst eo377; have p54 : 0 ≤ ((rd t347 x10_2) : Int) := of_decide_eq_true (by first | (with_reducible assumption) | assumption); have q54 : ((rd t347 x10_2) : Int) < ((y366.length : Int) : Int) := of_decide_eq_true (by first | (with_reducible assumption) | assumption); obtain ⟨go54, co54, eo54, gb54, gl54, cl54, HG54⟩ := Kd.N_form HO368.out (by omega); (first | cases eo54 | (injection eo54 with ea_ en_ ec_; (first | subst ea_ | (injection ea_ with ea_; subst ea_)); subst ec_; clear en_)); have GB54 := Aside0.mk gb54; have GG54 := Aside0.mk HG54; clear gb54 gl54 HG54; obtain ⟨ce54, hcl54, hM54, hcc54, hfr54⟩ := Kd.N_elem HO368.out [] ((rd t347 x10_2) : Int) p54 q54; obtain ⟨ua54_0, uc54_0, rfl, ul54_0, ge54_0⟩ := Kd.FK_slice_open hM54; have hx54_0 := hcc54 0 _ rfl; have hf54_0 := hfr54 0; (try simp only [show ((Kd.slice 3 (Kd.int .i64))).sz = 1 from rfl, Nat.mul_one, Nat.add_zero] at hx54_0); (try simp only [show ((Kd.slice 3 (Kd.int .i64))).sz = 1 from rfl, Nat.mul_one, Nat.add_zero] at hf54_0); clear hcl54 hcc54 hfr54 hM54; replace p54 := eq_true p54; replace q54 := eq_true q54; have n_ := Aside0.mk (Kd.N_mono (ok' := (fun k_ => some k_ ≠ (.slice (some ad359) t347.length co17 : Value).ownBlock ∧ some k_ ≠ (.slice Ao377 y376.length co377 : Value).ownBlock ∧ k_ ≠ gb341)) HO368.out (fun k_ hk => ⟨hk.1.1, ⟨hk.2, hk.1.2⟩⟩)); clear HO368; have HO368 := n_; clear n_; have HX66 := Aside0.mk (show Kd.N (Kd.slice 3 (Kd.int .i64)) 29 w65 w.heap.size (fun k_ => some k_ ≠ (.slice (some ad359) t347.length co17 : Value).ownBlock ∧ k_ ≠ gb341) (.slice (some ⟨go54, 0, none⟩) y366.length co54) y366 from (by (with_reducible repeat (first | apply Kd.N_alloc | apply Kd.N_drewN | apply Kd.N_drew)); exact Kd.N_mono HO368.out (fun _ hk => ⟨hk.1, hk.2.2⟩))); obtain ⟨ce66, hcl66, hM66, hcc66, hfr66⟩ := Kd.N_elem HX66.out [] ((rd t347 x10_2) : Int) (of_decide_eq_true (by first | (with_reducible assumption) | assumption)) (by have h_ : ((rd t347 x10_2) : Int) < ((y366.length : Int) : Int) := of_decide_eq_true (by first | (with_reducible assumption) | assumption); first | exact h_ | (have e_ := (Kd.N_reads' HO368.out).1; omega) | simpa using h_); obtain ⟨ua66_0, uc66_0, rfl, ul66_0, ge66_0⟩ := Kd.FK_slice_open hM66; have HP66 := Kd.N_seg HX66.out ((rd t347 x10_2) : Int) (of_decide_eq_true (by first | (with_reducible assumption) | assumption)) (by have h_ : ((rd t347 x10_2) : Int) < ((y366.length : Int) : Int) := of_decide_eq_true (by first | (with_reducible assumption) | assumption); first | exact h_ | (have e_ := (Kd.N_reads' HO368.out).1; omega) | simpa using h_) (seg := [(.slice Ao377 y376.length co377)]) (j := 0) hcl66 hcc66 (show 1 ≤ 1 from by decide) (x' := y376) (Kd.FK_slice_mk (Kd.R_reads' (Kd.R_mono (ok' := (fun k_ => ((fun k_ => some k_ ≠ (.slice (some ad359) t347.length co17 : Value).ownBlock ∧ k_ ≠ gb341)) k_ ∧ k_ ≠ go54)) (Kd.R_types (Kd.R_apart' (HO378.out) (Kd.N_typed HO368.out) (by decide)) BK341.out (by decide)) (fun k_ hk => ⟨⟨hk.1.1, hk.2⟩, fun e_ => (hk.1.2) (by rw [e_]; rfl)⟩))).2.1 (Kd.R_F (Kd.R_mono (ok' := (fun k_ => ((fun k_ => some k_ ≠ (.slice (some ad359) t347.length co17 : Value).ownBlock ∧ k_ ≠ gb341)) k_ ∧ k_ ≠ go54)) (Kd.R_types (Kd.R_apart' (HO378.out) (Kd.N_typed HO368.out) (by decide)) BK341.out (by decide)) (fun k_ hk => ⟨⟨hk.1.1, hk.2⟩, fun e_ => (hk.1.2) (by rw [e_]; rfl)⟩)))) (fun _ hk => hk); have hx66_0 := hcc66 0 _ rfl; (try simp only [show ((Kd.slice 3 (Kd.int .i64))).sz = 1 from rfl, Nat.mul_one, Nat.add_zero] at hx66_0); have hf66_0 := hfr66 0; (try simp only [show ((Kd.slice 3 (Kd.int .i64))).sz = 1 from rfl, Nat.mul_one, Nat.add_zero] at hf66_0); clear hcl66 hcc66 hfr66 hM66; (try simp only [show ((Kd.slice 3 (Kd.int .i64))).sz = 1 from rfl, Nat.mul_one, Nat.add_zero] at HP66); (try simp only [show ((Kd.slice 3 (Kd.int .i64))).sz = 1 from rfl, Nat.mul_one, Nat.add_zero] at HP66)) | ((with_reducible refine gate_store (t := 29) (p := 119) rfl ?_); refine store_event (t := 29) (p := 119) (v := ?vo_w67) (w1 := (w65.setCell ⟨go54, ((rd t347 x10_2) : Int).toNat, none⟩ ((.slice Ao377 y376.length co377)))) ?hg ?ho ?hn ?hr ?_; (case ho => rfl); (case hg => rfl); (case hn => rfl); (case hr => first | (go_simp; done) | (go_simp; rfl)); intro w67 hw; have hg : w65.grownBy w67 (some go54) := (by rw [hw]; exact HP66.2); have hp_ : Kd.N (Kd.slice 3 (Kd.int .i64)) 29 w67 w.heap.size (fun k_ => some k_ ≠ (.slice (some ad359) t347.length co17 : Value).ownBlock ∧ k_ ≠ gb341) (.slice (some ⟨go54, 0, none⟩) y366.length co54) y379 := (by rw [hw, Ny379.out]; exact HP66.1); clear HP66; have n0_ := Aside0.mk (Kd.N_afterv (v := (.slice (some ⟨go54, 0, none⟩) y366.length co54)) (v1 := (.slice (some ⟨go54, 0, none⟩) y366.length co54)) (ok := (fun k_ => some k_ ≠ (.slice (some ad359) t347.length co17 : Value).ownBlock ∧ some k_ ≠ (.slice Ao377 y376.length co377 : Value).ownBlock ∧ k_ ≠ gb341)) (by (with_reducible repeat (first | apply Kd.N_alloc | apply Kd.N_drewN | apply Kd.N_drew)); exact Kd.N_mono HO_3.out (fun _ hk => ⟨⟨hk.1.1, ⟨hk.2, hk.1.2.2⟩⟩, hk.1.2.1⟩)) hg (.inl rfl)); have n1_ := Aside0.mk (Kd.R_over' (v := (.slice (some ⟨go54, 0, none⟩) y366.length co54)) (by (with_reducible repeat (first | apply Kd.R_alloc | apply Kd.R_drewN | apply Kd.R_drew)); exact HO_5.out) (Kd.N_typed HO368.out) (by decide) hg); have n2_ := Aside0.mk (blk_grown (g := gb341) (o := .cells #[.slice A0_0 l0_0.length c0_0, .slice A0_1 l0_1.length c0_1] 25 (0, 0)) (by (with_reducible repeat (first | refine blk_drewN ?_ _ | refine blk_drew ?_ | refine blk_alloc ?_ _)); exact BK341.out) hg (Kd.N_ne HO368.out BK341.out (by decide))); have n3_ := Aside0.mk (hp_); have n4_ := Aside0.mk (Kd.V_afterv (v := (.slice (some ⟨go54, 0, none⟩) y366.length co54)) (v1 := (.slice (some ⟨go54, 0, none⟩) y366.length co54)) (ok := (fun k_ => some k_ ≠ (.slice (some ad372) x3_2.length co15 : Value).ownBlock ∧ some k_ ≠ (.slice (some ad359) t347.length co17 : Value).ownBlock ∧ some k_ ≠ (.slice Ao377 y376.length co377 : Value).ownBlock ∧ k_ ≠ gb341)) (by (with_reducible repeat (first | apply Kd.V_alloc | apply Kd.V_drewN | apply Kd.V_drew)); exact Kd.V_mono HL372_0.out (fun _ hk => ⟨⟨hk.1.1, ⟨hk.1.2.1, ⟨hk.2, hk.1.2.2.2⟩⟩⟩, hk.1.2.2.1⟩)) hg (.inl rfl)); have n5_ := Aside0.mk ((by rw [hw]; exact below_set (HB.out) GB54.out : Below w.heap.size w w67)); clear HO_3; clear HO_5; clear BK341; clear HO368; clear HL372_0; clear HB; clear HO378; have HO_3 := n0_; have HO_5 := n1_; have BK341 := n2_; have HO368 := n3_; have HL372_0 := n4_; have HB := n5_; clear n0_ n1_ n2_ n3_ n4_ n5_; clear hg hw hp_) | ((with_reducible refine gate_callee (f := 27) rfl ?_); refine goesL_ (some 121) rfl rfl Try.func27 (by kernel_rfl) rfl #[.slice (some ⟨go54, 0, none⟩) y379.length co54] rfl (by (try simp only [List.map_toArray, List.map_cons, List.map_nil]); first | done | (rw [show y379.length = y366.length from (Kd.N_reads' HO368.out).1.symm] <;> rfl) | rfl | (simp only [List.length_drop, List.length_take]; rfl)) ?_; (with_reducible refine (ontimelaw25_Graph.calls (fun k_ => (some k_ ≠ (.slice (some ad359) t347.length co17 : Value).ownBlock ∧ k_ ≠ gb341)) _ _ y379 t380 t383 _ ?side1 A55.out).mono ?_); (case side1 => rw [show y379.length = y366.length from (Kd.N_reads' HO368.out).1.symm]; exact Kd.N_V (HO368.out)); rintro e w68 ⟨v381, v384, rfl, ho0, ho1, hb⟩; refine ⟨_, rfl, ?_⟩; have n0_ := Aside0.mk (Kd.N_mono (Kd.N_told (Kd.N_told (Kd.N_old (by (with_reducible repeat (first | apply Kd.N_alloc | apply Kd.N_drewN | apply Kd.N_drew)); exact HO_3.out) hb) (by first | exact Kd.N_base ho0 | exact Kd.R_base (Kd.S_R ho0))) (Kd.N_base ho1)) (fun _ h_ => h_.1)); have n1_ := Aside0.mk (Kd.R_below (by (with_reducible repeat (first | apply Kd.R_alloc | apply Kd.R_drewN | apply Kd.R_drew)); exact HO_5.out) hb); have n2_ := Aside0.mk (Kd.N_mono (Kd.N_told (Kd.N_told (Kd.N_old (by (with_reducible repeat (first | apply Kd.N_alloc | apply Kd.N_drewN | apply Kd.N_drew)); exact HO368.out) hb) (by first | exact Kd.N_base ho0 | exact Kd.R_base (Kd.S_R ho0))) (Kd.N_base ho1)) (fun _ h_ => h_.1)); have n3_ := Aside0.mk (Kd.V_mono (Kd.V_told (Kd.V_told (Kd.V_old (by (with_reducible repeat (first | apply Kd.V_alloc | apply Kd.V_drewN | apply Kd.V_drew)); exact HL372_0.out) hb) (by first | exact Kd.N_base ho0 | exact Kd.R_base (Kd.S_R ho0))) (Kd.N_base ho1)) (fun _ h_ => h_.1)); have n4_ := Aside0.mk (Kd.N_lower (Kd.N_mono (ok' := fun k_ => some k_ ≠ (v384 : Value).ownBlock ∧ some k_ ≠ (.slice (some ad359) t347.length co17 : Value).ownBlock ∧ k_ ≠ gb341) ho0 (fun k_ hk_ => ⟨hk_.2, Or.elim hk_.1 (fun hs_ => hs_.1) (fun hn_ => (Kd.fresh' (Kd.R_lt (by (with_reducible repeat (first | apply Kd.R_alloc | apply Kd.R_drewN | apply Kd.R_drew)); exact HO_5.out)) k_ hn_)), Or.elim hk_.1 (fun hs_ => hs_.2) (fun hn_ => (Kd.freshB (g := gb341) (o := .cells #[.slice A0_0 l0_0.length c0_0, .slice A0_1 l0_1.length c0_1] 25 (0, 0)) (by (with_reducible repeat (first | refine blk_drewN ?_ _ | refine blk_drew ?_ | refine blk_alloc ?_ _)); exact BK341.out) k_ hn_))⟩)) (below_size (by repeat (first | (with_reducible first | exact HB.out | apply below_alloc | apply pw_below_drewN | apply below_drew1 | refine below_set ?_ GE341.out) | exact HB.out)))); have n5_ := Aside0.mk (Kd.N_lower (Kd.N_mono (ok' := fun k_ => some k_ ≠ (v381 : Value).ownBlock ∧ some k_ ≠ (.slice (some ad359) t347.length co17 : Value).ownBlock ∧ k_ ≠ gb341) ho1 (fun k_ hk_ => ⟨hk_.2, Or.elim hk_.1 (fun hs_ => hs_.1) (fun hn_ => (Kd.fresh' (Kd.R_lt (by (with_reducible repeat (first | apply Kd.R_alloc | apply Kd.R_drewN | apply Kd.R_drew)); exact HO_5.out)) k_ hn_)), Or.elim hk_.1 (fun hs_ => hs_.2) (fun hn_ => (Kd.freshB (g := gb341) (o := .cells #[.slice A0_0 l0_0.length c0_0, .slice A0_1 l0_1.length c0_1] 25 (0, 0)) (by (with_reducible repeat (first | refine blk_drewN ?_ _ | refine blk_drew ?_ | refine blk_alloc ?_ _)); exact BK341.out) k_ hn_))⟩)) (below_size (by repeat (first | (with_reducible first | exact HB.out | apply below_alloc | apply pw_below_drewN | apply below_drew1 | refine below_set ?_ GE341.out) | exact HB.out)))); have n6_ := Aside0.mk (blk_below (g := gb341) (o := .cells #[.slice A0_0 l0_0.length c0_0, .slice A0_1 l0_1.length c0_1] 25 (0, 0)) (by (with_reducible repeat (first | refine blk_drewN ?_ _ | refine blk_drew ?_ | refine blk_alloc ?_ _)); exact BK341.out) hb); have n7_ := Aside0.mk (below_step (by repeat (first | (with_reducible first | exact HB.out | apply below_alloc | apply pw_below_drewN | apply below_drew1 | refine below_set ?_ GE341.out) | exact HB.out)) hb); clear HO_3; clear HO_5; clear HO368; clear HL372_0; clear BK341; clear HB; have HO_3 := n0_; have HO_5 := n1_; have HO368 := n2_; have HL372_0 := n3_; have HO382 := n4_; have HO385 := n5_; have BK341 := n6_; have HB := n7_; clear n0_ n1_ n2_ n3_ n4_ n5_ n6_ n7_; (try clear hb); (try clear hb2); (try clear hk); (try clear hi); (try clear ho0); (try clear ho1); obtain ⟨Ao69, co69, eo69⟩ := Kd.N_slice HO382.out; subst eo69; obtain ⟨Ao70, co70, eo70⟩ := Kd.N_slice HO385.out; subst eo70) | ((with_reducible refine gate_callee (f := 14) rfl ?_); refine goesL_ (some 122) rfl rfl Try.func14 (by kernel_rfl) rfl #[.agg #[.slice Ao69 t380.length co69, .slice Ao70 t383.length co70]] rfl (by (try simp only [List.map_toArray, List.map_cons, List.map_nil]); first | done | rfl | (simp only [List.length_drop, List.length_take]; rfl)) ?_; (with_reducible refine (dominator_Tree.calls kj39 _ _ t380 _ _ t383 t386 _ ?side1 ?side2 ?side3 ?side4 A56.out).mono ?_); (case side1 => repeat (first | exact (Kd.N_reads' HO382.out).2.2 | (with_reducible refine Kd.C_alloc ?_ _) | (with_reducible refine Kd.C_drewN ?_ _) | (with_reducible refine Kd.C_drew ?_))); (case side2 => exact (Kd.N_reads' HO382.out).2.1); (case side3 => repeat (first | exact (Kd.N_reads' HO385.out).2.2 | (with_reducible refine Kd.C_alloc ?_ _) | (with_reducible refine Kd.C_drewN ?_ _) | (with_reducible refine Kd.C_drew ?_))); (case side4 => exact (Kd.N_reads' HO385.out).2.1); rintro e w71 ⟨v387, rfl, ho0, hb⟩; refine ⟨_, rfl, ?_⟩; have n0_ := Aside0.mk (Kd.N_elder' (by (with_reducible repeat (first | apply Kd.N_alloc | apply Kd.N_drewN | apply Kd.N_drew)); exact HO_3.out) (Kd.R_base ho0) hb); have n1_ := Aside0.mk (Kd.R_elder' (by (with_reducible repeat (first | apply Kd.R_alloc | apply Kd.R_drewN | apply Kd.R_drew)); exact HO_5.out) (Kd.R_base ho0) hb); have n2_ := Aside0.mk (Kd.N_elder' (by (with_reducible repeat (first | apply Kd.N_alloc | apply Kd.N_drewN | apply Kd.N_drew)); exact HO368.out) (Kd.R_base ho0) hb); have n3_ := Aside0.mk (Kd.V_elder' (by (with_reducible repeat (first | apply Kd.V_alloc | apply Kd.V_drewN | apply Kd.V_drew)); exact HL372_0.out) (Kd.R_base ho0) hb); have n4_ := Aside0.mk (Kd.N_elder' (by (with_reducible repeat (first | apply Kd.N_alloc | apply Kd.N_drewN | apply Kd.N_drew)); exact HO382.out) (Kd.R_base ho0) hb); have n5_ := Aside0.mk (Kd.N_elder' (by (with_reducible repeat (first | apply Kd.N_alloc | apply Kd.N_drewN | apply Kd.N_drew)); exact HO385.out) (Kd.R_base ho0) hb); have n6_ := Aside0.mk (Kd.R_lower (Kd.R_new' ho0 (Kd.R_lt (by (with_reducible repeat (first | apply Kd.R_alloc | apply Kd.R_drewN | apply Kd.R_drew)); exact HO_5.out))) (below_size (by repeat (first | (with_reducible first | exact HB.out | apply below_alloc | apply pw_below_drewN | apply below_drew1 | refine below_set ?_ GE341.out) | exact HB.out)))); have n7_ := Aside0.mk (blk_below (g := gb341) (o := .cells #[.slice A0_0 l0_0.length c0_0, .slice A0_1 l0_1.length c0_1] 25 (0, 0)) (by (with_reducible repeat (first | refine blk_drewN ?_ _ | refine blk_drew ?_ | refine blk_alloc ?_ _)); exact BK341.out) hb); have n8_ := Aside0.mk (below_step (by repeat (first | (with_reducible first | exact HB.out | apply below_alloc | apply pw_below_drewN | apply below_drew1 | refine below_set ?_ GE341.out) | exact HB.out)) hb); clear HO_3; clear HO_5; clear HO368; clear HL372_0; clear HO382; clear HO385; clear BK341; clear HB; have HO_3 := n0_; have HO_5 := n1_; have HO368 := n2_; have HL372_0 := n3_; have HO382 := n4_; have HO385 := n5_; have HO388 := n6_; have BK341 := n7_; have HB := n8_; clear n0_ n1_ n2_ n3_ n4_ n5_ n6_ n7_ n8_; (try clear hb); (try clear hb2); (try clear hk); (try clear hi); (try clear ho0); obtain ⟨Ao72, co72, eo72⟩ := Kd.R_slice HO388.out; subst eo72) | ((with_reducible refine gate_callee (f := 17) rfl ?_); refine goesL_ (some 124) rfl rfl Try.func17 (by kernel_rfl) rfl #[.slice Ao72 t386.length co72, .slice (some ad359) t347.length co17] rfl (by (try simp only [List.map_toArray, List.map_cons, List.map_nil]); first | done | rfl | (simp only [List.length_drop, List.length_take]; rfl)) ?_; (with_reducible refine (ontimeref25_Ints.calls kj39 _ _ t386 _ _ t347 true _ ?side1 ?side2 ?side3 ?side4 A57.out).mono ?_); (case side1 => repeat (first | exact (Kd.R_reads' HO388.out).2.2 | (with_reducible refine Kd.C_alloc ?_ _) | (with_reducible refine Kd.C_drewN ?_ _) | (with_reducible refine Kd.C_drew ?_))); (case side2 => exact (Kd.R_reads' HO388.out).2.1); (case side3 => repeat (first | exact (Kd.R_reads' HO_5.out).2.2 | (with_reducible refine Kd.C_alloc ?_ _) | (with_reducible refine Kd.C_drewN ?_ _) | (with_reducible refine Kd.C_drew ?_))); (case side4 => exact (Kd.R_reads' HO_5.out).2.1); rintro e w' ⟨rfl, ⟨nd, rfl⟩⟩; refine ⟨_, rfl, ?_⟩))
                      go_ret
                      exact ⟨by first | rfl | (simp [errW_none, errW_some] <;> rfl) | (simp [*, errW_none, errW_some] <;> rfl), by repeat (first | (with_reducible first | exact HB.out | apply below_alloc | apply pw_below_drewN | apply below_drew1 | refine below_set ?_ GE341.out) | exact HB.out)⟩
                     ·replace c58 := Bool.eq_false_iff.mpr c58
                      subst c58
                      have H1 : (some false) = some r := by rw [if_neg (show ¬ (false = true) by decide)] at H; exact H
                      clear H
                      have H := H1
                      clear H1
                      obtain rfl := Option.some.inj H
                      go_wp2_with (first | ((with_reducible refine gate_dst (N := 105) rfl ?_); (try (refine gate_guard (by rfl) ?_; dsimp only)); refine Kd.N_lit (Kd.slice 3 (Kd.int .i64)) _ 29 ?hg (N' := 105) ?hd (xs := ([] : List (List Int))) (inner := []) (ok := (fun k_ => some k_ ≠ (.slice Ao15 x3_2.length co15 : Value).ownBlock ∧ some k_ ≠ (.slice (some ad359) t347.length co17 : Value).ownBlock ∧ k_ ≠ gb341)) (okp := (fun k_ => some k_ ≠ (.slice Ao15 x3_2.length co15 : Value).ownBlock ∧ some k_ ≠ (.slice (some ad359) t347.length co17 : Value).ownBlock ∧ k_ ≠ gb341)) ?hr ?hp (fun _ hk => hk) ((show ∀ k_, wc.heap.size ≤ k_ → (fun k_ => some k_ ≠ (.slice Ao15 x3_2.length co15 : Value).ownBlock ∧ some k_ ≠ (.slice (some ad359) t347.length co17 : Value).ownBlock ∧ k_ ≠ gb341) k_ from fun k_ hk => ⟨Kd.fresh' (Kd.N_lt (by (with_reducible repeat (first | apply Kd.N_alloc | apply Kd.N_drewN | apply Kd.N_drew)); exact HO_3.out)) k_ hk, Kd.fresh' (Kd.R_lt (by (with_reducible repeat (first | apply Kd.R_alloc | apply Kd.R_drewN | apply Kd.R_drew)); exact HO_5.out)) k_ hk, Kd.freshB (g := gb341) (o := .cells #[.slice A0_0 l0_0.length c0_0, .slice A0_1 l0_1.length c0_1] 25 (0, 0)) (by (with_reducible repeat (first | refine blk_drewN ?_ _ | refine blk_drew ?_ | refine blk_alloc ?_ _)); exact BK341.out) k_ hk⟩) _ (Nat.le_refl _)) (Below.refl _ _) (Nat.le_refl _) (by simp) ?_; (case hd => rfl); (case hg => rfl); (case hr => first | (go_simp; done) | (go_simp; rfl)); (case hp => exact (Reps.none _ _)); intro v364 w73 ho74 hb hg_ hnew_; clear hg_ hnew_; (first | rw [← Ny363.out] at ho74 | (simp only [Int.reduceToNat] at ho74; rw [← Ny363.out] at ho74)); have n0_ := Aside0.mk (Kd.N_elder' (by (with_reducible repeat (first | apply Kd.N_alloc | apply Kd.N_drewN | apply Kd.N_drew)); exact HO_3.out) (Kd.N_base ho74) hb); have n1_ := Aside0.mk (Kd.R_below (by (with_reducible repeat (first | apply Kd.R_alloc | apply Kd.R_drewN | apply Kd.R_drew)); exact HO_5.out) hb); have n2_ := Aside0.mk (Kd.N_lower ho74 (below_size (by repeat (first | (with_reducible first | exact HB.out | apply below_alloc | apply pw_below_drewN | apply below_drew1 | refine below_set ?_ GE341.out) | exact HB.out)))); have n3_ := Aside0.mk (blk_below (g := gb341) (o := .cells #[.slice A0_0 l0_0.length c0_0, .slice A0_1 l0_1.length c0_1] 25 (0, 0)) (by (with_reducible repeat (first | refine blk_drewN ?_ _ | refine blk_drew ?_ | refine blk_alloc ?_ _)); exact BK341.out) hb); have n4_ := Aside0.mk (below_step (by repeat (first | (with_reducible first | exact HB.out | apply below_alloc | apply pw_below_drewN | apply below_drew1 | refine below_set ?_ GE341.out) | exact HB.out)) hb); clear HO_3; clear HO_5; clear BK341; clear HB; have HO_3 := n0_; have HO_5 := n1_; have HO365 := n2_; have BK341 := n3_; have HB := n4_; clear n0_ n1_ n2_ n3_ n4_; clear hb ho74) | ((with_reducible refine gate_builtin (b := .append) (xs := #[.tmp 105, .tmp 106]) rfl ?_); (try (refine gate_guard (by rfl) ?_; dsimp only)); at_builtin; refine Kd.N_append_rows (Kd.slice 3 (Kd.int .i64)) (w0 := w) w.heap.size rfl (.tmp 105) (.tmp 106) 23 29 (.slice none 0 0) 24 rfl Try.underlying23 info29 rfl (by decide) (by omega) v364 y363 x3_2 _ _ _ (fun k_ => some k_ ≠ (.slice (some ad359) t347.length co17 : Value).ownBlock ∧ k_ ≠ gb341) (fun k_ => ((fun k_ => some k_ ≠ (.slice (some ad359) t347.length co17 : Value).ownBlock ∧ k_ ≠ gb341)) k_ ∧ some k_ ≠ (v364 : Value).ownBlock) rfl rfl ?aO ?aR (fun _ hk => hk) ?aF ?aB ?aS ?aL ?_; (case aR => exact (by skip; exact Kd.N_F (Kd.N_mono (ok' := (fun k_ => ((fun k_ => some k_ ≠ (.slice (some ad359) t347.length co17 : Value).ownBlock ∧ k_ ≠ gb341)) k_ ∧ some k_ ≠ (v364 : Value).ownBlock)) (HO_3.out) (fun k_ hk => ⟨⟨hk.1.1, hk.1.2⟩, hk.2⟩)))); (case aB => exact (by repeat (first | (with_reducible first | exact HB.out | apply below_alloc | apply pw_below_drewN | apply below_drew1 | refine below_set ?_ GE341.out) | exact HB.out))); (case aF => exact (fun k_ hk => ⟨Kd.fresh' (Kd.R_lt (by (with_reducible repeat (first | apply Kd.R_alloc | apply Kd.R_drewN | apply Kd.R_drew)); exact HO_5.out)) k_ hk, Kd.freshB (g := gb341) (o := .cells #[.slice A0_0 l0_0.length c0_0, .slice A0_1 l0_1.length c0_1] 25 (0, 0)) (by (with_reducible repeat (first | refine blk_drewN ?_ _ | refine blk_drew ?_ | refine blk_alloc ?_ _)); exact BK341.out) k_ hk⟩)); (case aO => exact (by (with_reducible repeat (first | apply Kd.N_alloc | apply Kd.N_drewN | apply Kd.N_drew)); exact Kd.N_mono HO365.out (fun _ hk => ⟨hk.2.1, hk.2.2⟩))); (case aS => exact (below_size (by repeat (first | (with_reducible first | exact HB.out | apply below_alloc | apply pw_below_drewN | apply below_drew1 | refine below_set ?_ GE341.out) | exact HB.out)))); (case aL => have := LMc48.out; omega); intro v367 w75 ho hb hg hat; rw [← Ny366.out] at ho; have n0_ := Aside0.mk (Kd.N_afterv (ok := (fun k_ => some k_ ≠ (.slice (some ad359) t347.length co17 : Value).ownBlock ∧ k_ ≠ gb341)) (by (with_reducible repeat (first | apply Kd.N_alloc | apply Kd.N_drewN | apply Kd.N_drew)); exact HO_3.out) hg hat); have n1_ := Aside0.mk (Kd.R_over' (by (with_reducible repeat (first | apply Kd.R_alloc | apply Kd.R_drewN | apply Kd.R_drew)); exact HO_5.out) (Kd.N_typed (by (with_reducible repeat (first | apply Kd.N_alloc | apply Kd.N_drewN | apply Kd.N_drew)); exact HO365.out)) (by decide) hg); have n2_ := Aside0.mk (blk_grown (g := gb341) (o := .cells #[.slice A0_0 l0_0.length c0_0, .slice A0_1 l0_1.length c0_1] 25 (0, 0)) (by (with_reducible repeat (first | refine blk_drewN ?_ _ | refine blk_drew ?_ | refine blk_alloc ?_ _)); exact BK341.out) hg (Kd.N_ne HO365.out BK341.out (by decide))); have n3_ := Aside0.mk (hb); have n4_ := Aside0.mk (ho); clear HO_3; clear HO_5; clear BK341; clear HB; clear HO365; have HO_3 := n0_; have HO_5 := n1_; have BK341 := n2_; have HB := n3_; have HO368 := n4_; clear n0_ n1_ n2_ n3_ n4_; clear ho hb hg hat) | ((with_reducible refine gate_dst (N := 110) rfl ?_); (try (refine gate_guard (by rfl) ?_; dsimp only)); refine Kd.R_lit (Kd.int .i64) _ 3 ?hg (N := 110) ?hd (xs := ([] : List Int)) (inner := []) (ok := fun _ => True) (okp := fun _ => True) ?hr ?hp (fun _ hk => hk) trivial (Below.refl _ _) (Nat.le_refl _) (by simp) ?_; (case hd => rfl); (case hg => rfl); (case hr => first | (go_simp; done) | (go_simp; rfl)); (case hp => exact (Reps.none _ _)); intro v370 w76 ho77 hb hg_ hnew_; clear hg_ hnew_; (first | rw [← Ny369.out] at ho77 | (simp only [Int.reduceToNat] at ho77; rw [← Ny369.out] at ho77)); have n0_ := Aside0.mk (Kd.N_elder' (by (with_reducible repeat (first | apply Kd.N_alloc | apply Kd.N_drewN | apply Kd.N_drew)); exact HO_3.out) (Kd.R_base ho77) hb); have n1_ := Aside0.mk (Kd.R_elder' (by (with_reducible repeat (first | apply Kd.R_alloc | apply Kd.R_drewN | apply Kd.R_drew)); exact HO_5.out) (Kd.R_base ho77) hb); have n2_ := Aside0.mk (Kd.N_elder' (by (with_reducible repeat (first | apply Kd.N_alloc | apply Kd.N_drewN | apply Kd.N_drew)); exact HO368.out) (Kd.R_base ho77) hb); have n3_ := Aside0.mk (Kd.R_lower (Kd.R_new' ho77 (Kd.R_lt (by (with_reducible repeat (first | apply Kd.R_alloc | apply Kd.R_drewN | apply Kd.R_drew)); exact HO_5.out))) (below_size (by repeat (first | (with_reducible first | exact HB.out | apply below_alloc | apply pw_below_drewN | apply below_drew1 | refine below_set ?_ GE341.out) | exact HB.out)))); have n4_ := Aside0.mk (blk_below (g := gb341) (o := .cells #[.slice A0_0 l0_0.length c0_0, .slice A0_1 l0_1.length c0_1] 25 (0, 0)) (by (with_reducible repeat (first | refine blk_drewN ?_ _ | refine blk_drew ?_ | refine blk_alloc ?_ _)); exact BK341.out) hb); have n5_ := Aside0.mk (below_step (by repeat (first | (with_reducible first | exact HB.out | apply below_alloc | apply pw_below_drewN | apply below_drew1 | refine below_set ?_ GE341.out) | exact HB.out)) hb); clear HO_3; clear HO_5; clear HO368; clear BK341; clear HB; have HO_3 := n0_; have HO_5 := n1_; have HO368 := n2_; have HO371 := n3_; have BK341 := n4_; have HB := n5_; clear n0_ n1_ n2_ n3_ n4_ n5_; clear hb ho77; have p372 : 0 ≤ ((rd t347 x10_2) : Int) := of_decide_eq_true (by first | (with_reducible assumption) | assumption); have q372 : (rd t347 x10_2) < (x3_2.length : Int) := of_decide_eq_true (by first | (with_reducible assumption) | assumption); obtain ⟨ad372, A372_0, c372_0, e372, hx372_0, hl372_0, hi372_0⟩ := at_L1 (Kd.N_reads' HO_3.out).2.2 (rd t347 x10_2) p372 q372; cases e372; obtain ⟨ce372, hce372, hMe372, hcc372⟩ := Kd.N_get HO_3.out [] (rd t347 x10_2) p372 (by first | exact q372 | exact of_decide_eq_true (by first | (with_reducible assumption) | assumption) | (have e_ := (Kd.N_reads' HO_3.out).1; omega)); obtain ⟨ua372_0, uc372_0, rfl, ul372_0, ge372_0⟩ := Kd.FK_slice_open hMe372; have hv372_0 := hcc372 0 _ rfl; rw [Nat.add_zero, show ((Kd.slice 3 (Kd.int .i64))).sz = 1 from rfl, Nat.mul_one] at hv372_0; replace hv372_0 := Option.some.inj (hv372_0.symm.trans hx372_0); injection hv372_0 with hva_ hvn_ hvc_; rw [hva_] at ge372_0; rw [hvc_] at ul372_0; have HL372_0 := Aside0.mk (show Kd.V (Kd.int .i64) 3 _ w.heap.size _ _ (rd_L1 x3_2 (rd t347 x10_2)) from Kd.V_mk ul372_0 ge372_0); clear hva_ hvn_ hvc_ ge372_0 ul372_0; clear hcc372 hce372; have HR372_0 := Aside0.mk hi372_0; have HC372_0 := Aside0.mk hl372_0; clear hi372_0 hl372_0; replace p372 := eq_true p372; replace q372 := eq_true q372) | ((with_reducible refine gate_builtin (b := .append) (xs := #[.tmp 110, .tmp 114]) rfl ?_); (try (refine gate_guard (by rfl) ?_; dsimp only)); at_builtin; refine Kd.R_append_rows (Kd.int .i64) (w0 := w) w.heap.size rfl (.tmp 110) (.tmp 114) 29 3 (.int .i64 0) 8 rfl Try.underlying29 info3 rfl (by decide) (by omega) v370 y369 (rd_L1 x3_2 (rd t347 x10_2)) _ _ _ (fun k_ => some k_ ≠ (.slice (some ad359) t347.length co17 : Value).ownBlock) (fun _ => False) rfl rfl ?aO ?aR (fun _ _ h => h) (fun _ h => h.elim) ?aF ?aB ?aS ?aL ?_; (case aR => repeat (first | exact (by repeat (first | (with_reducible exact HR372_0.out) | (with_reducible refine Kd.C_alloc ?_ _) | (with_reducible refine Kd.C_drewN ?_ _) | (with_reducible refine Kd.C_drew ?_) | exact HR372_0.out)) | (with_reducible refine Kd.C_alloc ?_ _) | (with_reducible refine Kd.C_drewN ?_ _) | (with_reducible refine Kd.C_drew ?_))); (case aB => exact (by repeat (first | (with_reducible first | exact HB.out | apply below_alloc | apply pw_below_drewN | apply below_drew1 | refine below_set ?_ GE341.out) | exact HB.out))); (case aF => exact (fun k_ hk => Kd.fresh' (Kd.R_lt (by (with_reducible repeat (first | apply Kd.R_alloc | apply Kd.R_drewN | apply Kd.R_drew)); exact HO_5.out)) k_ hk)); (case aO => exact (by (with_reducible repeat (first | apply Kd.R_alloc | apply Kd.R_drewN | apply Kd.R_drew)); exact Kd.R_mono HO371.out (fun _ hk => hk.2))); (case aS => exact (below_size (by repeat (first | (with_reducible first | exact HB.out | apply below_alloc | apply pw_below_drewN | apply below_drew1 | refine below_set ?_ GE341.out) | exact HB.out)))); (case aL => have := LMc51.out; omega); intro v374 w78 ho hb hg hat; rw [← Ny373.out] at ho; have n0_ := Aside0.mk (Kd.N_afterv (ok := (fun k_ => some k_ ≠ (.slice (some ad359) t347.length co17 : Value).ownBlock ∧ some k_ ≠ (v367 : Value).ownBlock ∧ k_ ≠ gb341)) (by (with_reducible repeat (first | apply Kd.N_alloc | apply Kd.N_drewN | apply Kd.N_drew)); exact Kd.N_mono HO_3.out (fun _ hk => ⟨⟨hk.1.1.1, ⟨hk.1.2, hk.1.1.2⟩⟩, hk.2⟩)) hg hat); have n1_ := Aside0.mk (Kd.R_after (ok := (fun _ => True)) (by (with_reducible repeat (first | apply Kd.R_alloc | apply Kd.R_drewN | apply Kd.R_drew)); exact HO_5.out) hg hat); have n2_ := Aside0.mk (blk_grown (g := gb341) (o := .cells #[.slice A0_0 l0_0.length c0_0, .slice A0_1 l0_1.length c0_1] 25 (0, 0)) (by (with_reducible repeat (first | refine blk_drewN ?_ _ | refine blk_drew ?_ | refine blk_alloc ?_ _)); exact BK341.out) hg (Kd.R_ne HO371.out BK341.out (by decide))); have n3_ := Aside0.mk (Kd.N_afterv (ok := (fun k_ => some k_ ≠ (.slice (some ad359) t347.length co17 : Value).ownBlock ∧ k_ ≠ gb341)) (by (with_reducible repeat (first | apply Kd.N_alloc | apply Kd.N_drewN | apply Kd.N_drew)); exact HO368.out) hg hat); have n4_ := Aside0.mk (Kd.V_afterv (ok := (fun k_ => some k_ ≠ (.slice (some ad372) x3_2.length co15 : Value).ownBlock ∧ some k_ ≠ (.slice (some ad359) t347.length co17 : Value).ownBlock ∧ some k_ ≠ (v367 : Value).ownBlock ∧ k_ ≠ gb341)) (by (with_reducible repeat (first | apply Kd.V_alloc | apply Kd.V_drewN | apply Kd.V_drew)); exact Kd.V_mono HL372_0.out (fun _ hk => ⟨⟨hk.2, ⟨hk.1.1.1.1, ⟨hk.1.1.2, hk.1.1.1.2⟩⟩⟩, hk.1.2⟩)) hg hat); have n5_ := Aside0.mk (hb); have n6_ := Aside0.mk (ho); clear HO_3; clear HO_5; clear BK341; clear HO368; clear HL372_0; clear HB; clear HO371; have HO_3 := n0_; have HO_5 := n1_; have BK341 := n2_; have HO368 := n3_; have HL372_0 := n4_; have HB := n5_; have HO375 := n6_; clear n0_ n1_ n2_ n3_ n4_ n5_ n6_; clear ho hb hg hat) | ((with_reducible refine gate_builtin (b := .append) (xs := #[.tmp 115, .tmp 117]) rfl ?_); (try (refine gate_guard (by rfl) ?_; dsimp only)); at_builtin; refine Kd.R_append (Kd.int .i64) (w0 := w) w.heap.size rfl (.tmp 115) (.tmp 117) 29 3 (.int .i64 0) 8 rfl Try.underlying29 info3 rfl (by decide) (by omega) v374 y373 x10_2 [.int .i64 x10_2] (fun k_ => some k_ ≠ (.slice (some ad359) t347.length co17 : Value).ownBlock) (fun _ => False) rfl rfl ?aP (fun _ hk => hk.elim) ?aF ?aO ?aB ?aS ?aL ?_; (case aP => exact rfl); (case aB => exact (by repeat (first | (with_reducible first | exact HB.out | apply below_alloc | apply pw_below_drewN | apply below_drew1 | refine below_set ?_ GE341.out) | exact HB.out))); (case aF => exact (fun k_ hk => Kd.fresh' (Kd.R_lt (by (with_reducible repeat (first | apply Kd.R_alloc | apply Kd.R_drewN | apply Kd.R_drew)); exact HO_5.out)) k_ hk)); (case aO => exact (by (with_reducible repeat (first | apply Kd.R_alloc | apply Kd.R_drewN | apply Kd.R_drew)); exact HO375.out)); (case aS => exact (below_size (by repeat (first | (with_reducible first | exact HB.out | apply below_alloc | apply pw_below_drewN | apply below_drew1 | refine below_set ?_ GE341.out) | exact HB.out)))); (case aL => have := LMc52.out; omega); intro v377 w79 ho hb hg hat; rw [← Ny376.out] at ho; have n0_ := Aside0.mk (Kd.N_afterv (ok := (fun k_ => some k_ ≠ (.slice (some ad359) t347.length co17 : Value).ownBlock ∧ some k_ ≠ (v367 : Value).ownBlock ∧ k_ ≠ gb341)) (by (with_reducible repeat (first | apply Kd.N_alloc | apply Kd.N_drewN | apply Kd.N_drew)); exact HO_3.out) hg hat); have n1_ := Aside0.mk (Kd.R_after (ok := (fun _ => True)) (by (with_reducible repeat (first | apply Kd.R_alloc | apply Kd.R_drewN | apply Kd.R_drew)); exact HO_5.out) hg hat); have n2_ := Aside0.mk (blk_grown (g := gb341) (o := .cells #[.slice A0_0 l0_0.length c0_0, .slice A0_1 l0_1.length c0_1] 25 (0, 0)) (by (with_reducible repeat (first | refine blk_drewN ?_ _ | refine blk_drew ?_ | refine blk_alloc ?_ _)); exact BK341.out) hg (Kd.R_ne HO375.out BK341.out (by decide))); have n3_ := Aside0.mk (Kd.N_afterv (ok := (fun k_ => some k_ ≠ (.slice (some ad359) t347.length co17 : Value).ownBlock ∧ k_ ≠ gb341)) (by (with_reducible repeat (first | apply Kd.N_alloc | apply Kd.N_drewN | apply Kd.N_drew)); exact HO368.out) hg hat); have n4_ := Aside0.mk (Kd.V_afterv (ok := (fun k_ => some k_ ≠ (.slice (some ad372) x3_2.length co15 : Value).ownBlock ∧ some k_ ≠ (.slice (some ad359) t347.length co17 : Value).ownBlock ∧ some k_ ≠ (v367 : Value).ownBlock ∧ k_ ≠ gb341)) (by (with_reducible repeat (first | apply Kd.V_alloc | apply Kd.V_drewN | apply Kd.V_drew)); exact HL372_0.out) hg hat); have n5_ := Aside0.mk (hb); have n6_ := Aside0.mk (ho); clear HO_3; clear HO_5; clear BK341; clear HO368; clear HL372_0; clear HB; clear HO375; have HO_3 := n0_; have HO_5 := n1_; have BK341 := n2_; have HO368 := n3_; have HL372_0 := n4_; have HB := n5_; have HO378 := n6_; clear n0_ n1_ n2_ n3_ n4_ n5_ n6_; clear ho hb hg hat; obtain ⟨Ao377, co377, eo377⟩ := Kd.R_slice HO378.out; subst eo377; have p54 : 0 ≤ ((rd t347 x10_2) : Int) := of_decide_eq_true (by first | (with_reducible assumption) | assumption); have q54 : ((rd t347 x10_2) : Int) < ((y366.length : Int) : Int) := of_decide_eq_true (by first | (with_reducible assumption) | assumption); obtain ⟨go54, co54, eo54, gb54, gl54, cl54, HG54⟩ := Kd.N_form HO368.out (by omega); (first | cases eo54 | (injection eo54 with ea_ en_ ec_; (first | subst ea_ | (injection ea_ with ea_; subst ea_)); subst ec_; clear en_)); have GB54 := Aside0.mk gb54; have GG54 := Aside0.mk HG54; clear gb54 gl54 HG54; obtain ⟨ce54, hcl54, hM54, hcc54, hfr54⟩ := Kd.N_elem HO368.out [] ((rd t347 x10_2) : Int) p54 q54; obtain ⟨ua54_0, uc54_0, rfl, ul54_0, ge54_0⟩ := Kd.FK_slice_open hM54; have hx54_0 := hcc54 0 _ rfl; have hf54_0 := hfr54 0; (try simp only [show ((Kd.slice 3 (Kd.int .i64))).sz = 1 from rfl, Nat.mul_one, Nat.add_zero] at hx54_0); (try simp only [show ((Kd.slice 3 (Kd.int .i64))).sz = 1 from rfl, Nat.mul_one, Nat.add_zero] at hf54_0); clear hcl54 hcc54 hfr54 hM54; replace p54 := eq_true p54; replace q54 := eq_true q54; have n_ := Aside0.mk (Kd.N_mono (ok' := (fun k_ => some k_ ≠ (.slice (some ad359) t347.length co17 : Value).ownBlock ∧ some k_ ≠ (.slice Ao377 y376.length co377 : Value).ownBlock ∧ k_ ≠ gb341)) HO368.out (fun k_ hk => ⟨hk.1.1, ⟨hk.2, hk.1.2⟩⟩)); clear HO368; have HO368 := n_; clear n_; have HX80 := Aside0.mk (show Kd.N (Kd.slice 3 (Kd.int .i64)) 29 w79 w.heap.size (fun k_ => some k_ ≠ (.slice (some ad359) t347.length co17 : Value).ownBlock ∧ k_ ≠ gb341) (.slice (some ⟨go54, 0, none⟩) y366.length co54) y366 from (by (with_reducible repeat (first | apply Kd.N_alloc | apply Kd.N_drewN | apply Kd.N_drew)); exact Kd.N_mono HO368.out (fun _ hk => ⟨hk.1, hk.2.2⟩))); obtain ⟨ce80, hcl80, hM80, hcc80, hfr80⟩ := Kd.N_elem HX80.out [] ((rd t347 x10_2) : Int) (of_decide_eq_true (by first | (with_reducible assumption) | assumption)) (by have h_ : ((rd t347 x10_2) : Int) < ((y366.length : Int) : Int) := of_decide_eq_true (by first | (with_reducible assumption) | assumption); first | exact h_ | (have e_ := (Kd.N_reads' HO368.out).1; omega) | simpa using h_); obtain ⟨ua80_0, uc80_0, rfl, ul80_0, ge80_0⟩ := Kd.FK_slice_open hM80; have HP80 := Kd.N_seg HX80.out ((rd t347 x10_2) : Int) (of_decide_eq_true (by first | (with_reducible assumption) | assumption)) (by have h_ : ((rd t347 x10_2) : Int) < ((y366.length : Int) : Int) := of_decide_eq_true (by first | (with_reducible assumption) | assumption); first | exact h_ | (have e_ := (Kd.N_reads' HO368.out).1; omega) | simpa using h_) (seg := [(.slice Ao377 y376.length co377)]) (j := 0) hcl80 hcc80 (show 1 ≤ 1 from by decide) (x' := y376) (Kd.FK_slice_mk (Kd.R_reads' (Kd.R_mono (ok' := (fun k_ => ((fun k_ => some k_ ≠ (.slice (some ad359) t347.length co17 : Value).ownBlock ∧ k_ ≠ gb341)) k_ ∧ k_ ≠ go54)) (Kd.R_types (Kd.R_apart' (HO378.out) (Kd.N_typed HO368.out) (by decide)) BK341.out (by decide)) (fun k_ hk => ⟨⟨hk.1.1, hk.2⟩, fun e_ => (hk.1.2) (by rw [e_]; rfl)⟩))).2.1 (Kd.R_F (Kd.R_mono (ok' := (fun k_ => ((fun k_ => some k_ ≠ (.slice (some ad359) t347.length co17 : Value).ownBlock ∧ k_ ≠ gb341)) k_ ∧ k_ ≠ go54)) (Kd.R_types (Kd.R_apart' (HO378.out) (Kd.N_typed HO368.out) (by decide)) BK341.out (by decide)) (fun k_ hk => ⟨⟨hk.1.1, hk.2⟩, fun e_ => (hk.1.2) (by rw [e_]; rfl)⟩)))) (fun _ hk => hk); have hx80_0 := hcc80 0 _ rfl; (try simp only [show ((Kd.slice 3 (Kd.int .i64))).sz = 1 from rfl, Nat.mul_one, Nat.add_zero] at hx80_0); have hf80_0 := hfr80 0; (try simp only [show ((Kd.slice 3 (Kd.int .i64))).sz = 1 from rfl, Nat.mul_one, Nat.add_zero] at hf80_0); clear hcl80 hcc80 hfr80 hM80; (try simp only [show ((Kd.slice 3 (Kd.int .i64))).sz = 1 from rfl, Nat.mul_one, Nat.add_zero] at HP80); (try simp only [show ((Kd.slice 3 (Kd.int .i64))).sz = 1 from rfl, Nat.mul_one, Nat.add_zero] at HP80)) | ((with_reducible refine gate_store (t := 29) (p := 119) rfl ?_); refine store_event (t := 29) (p := 119) (v := ?vo_w81) (w1 := (w79.setCell ⟨go54, ((rd t347 x10_2) : Int).toNat, none⟩ ((.slice Ao377 y376.length co377)))) ?hg ?ho ?hn ?hr ?_; (case ho => rfl); (case hg => rfl); (case hn => rfl); (case hr => first | (go_simp; done) | (go_simp; rfl)); intro w81 hw; have hg : w79.grownBy w81 (some go54) := (by rw [hw]; exact HP80.2); have hp_ : Kd.N (Kd.slice 3 (Kd.int .i64)) 29 w81 w.heap.size (fun k_ => some k_ ≠ (.slice (some ad359) t347.length co17 : Value).ownBlock ∧ k_ ≠ gb341) (.slice (some ⟨go54, 0, none⟩) y366.length co54) y379 := (by rw [hw, Ny379.out]; exact HP80.1); clear HP80; have n0_ := Aside0.mk (Kd.N_afterv (v := (.slice (some ⟨go54, 0, none⟩) y366.length co54)) (v1 := (.slice (some ⟨go54, 0, none⟩) y366.length co54)) (ok := (fun k_ => some k_ ≠ (.slice (some ad359) t347.length co17 : Value).ownBlock ∧ some k_ ≠ (.slice Ao377 y376.length co377 : Value).ownBlock ∧ k_ ≠ gb341)) (by (with_reducible repeat (first | apply Kd.N_alloc | apply Kd.N_drewN | apply Kd.N_drew)); exact Kd.N_mono HO_3.out (fun _ hk => ⟨⟨hk.1.1, ⟨hk.2, hk.1.2.2⟩⟩, hk.1.2.1⟩)) hg (.inl rfl)); have n1_ := Aside0.mk (Kd.R_over' (v := (.slice (some ⟨go54, 0, none⟩) y366.length co54)) (by (with_reducible repeat (first | apply Kd.R_alloc | apply Kd.R_drewN | apply Kd.R_drew)); exact HO_5.out) (Kd.N_typed HO368.out) (by decide) hg); have n2_ := Aside0.mk (blk_grown (g := gb341) (o := .cells #[.slice A0_0 l0_0.length c0_0, .slice A0_1 l0_1.length c0_1] 25 (0, 0)) (by (with_reducible repeat (first | refine blk_drewN ?_ _ | refine blk_drew ?_ | refine blk_alloc ?_ _)); exact BK341.out) hg (Kd.N_ne HO368.out BK341.out (by decide))); have n3_ := Aside0.mk (hp_); have n4_ := Aside0.mk (Kd.V_afterv (v := (.slice (some ⟨go54, 0, none⟩) y366.length co54)) (v1 := (.slice (some ⟨go54, 0, none⟩) y366.length co54)) (ok := (fun k_ => some k_ ≠ (.slice (some ad372) x3_2.length co15 : Value).ownBlock ∧ some k_ ≠ (.slice (some ad359) t347.length co17 : Value).ownBlock ∧ some k_ ≠ (.slice Ao377 y376.length co377 : Value).ownBlock ∧ k_ ≠ gb341)) (by (with_reducible repeat (first | apply Kd.V_alloc | apply Kd.V_drewN | apply Kd.V_drew)); exact Kd.V_mono HL372_0.out (fun _ hk => ⟨⟨hk.1.1, ⟨hk.1.2.1, ⟨hk.2, hk.1.2.2.2⟩⟩⟩, hk.1.2.2.1⟩)) hg (.inl rfl)); have n5_ := Aside0.mk ((by rw [hw]; exact below_set (HB.out) GB54.out : Below w.heap.size w w81)); clear HO_3; clear HO_5; clear BK341; clear HO368; clear HL372_0; clear HB; clear HO378; have HO_3 := n0_; have HO_5 := n1_; have BK341 := n2_; have HO368 := n3_; have HL372_0 := n4_; have HB := n5_; clear n0_ n1_ n2_ n3_ n4_ n5_; clear hg hw hp_) | ((with_reducible refine gate_callee (f := 27) rfl ?_); refine goesL_ (some 121) rfl rfl Try.func27 (by kernel_rfl) rfl #[.slice (some ⟨go54, 0, none⟩) y379.length co54] rfl (by (try simp only [List.map_toArray, List.map_cons, List.map_nil]); first | done | (rw [show y379.length = y366.length from (Kd.N_reads' HO368.out).1.symm] <;> rfl) | rfl | (simp only [List.length_drop, List.length_take]; rfl)) ?_; (with_reducible refine (ontimelaw25_Graph.calls (fun k_ => (some k_ ≠ (.slice (some ad359) t347.length co17 : Value).ownBlock ∧ k_ ≠ gb341)) _ _ y379 t380 t383 _ ?side1 A55.out).mono ?_); (case side1 => rw [show y379.length = y366.length from (Kd.N_reads' HO368.out).1.symm]; exact Kd.N_V (HO368.out)); rintro e w82 ⟨v381, v384, rfl, ho0, ho1, hb⟩; refine ⟨_, rfl, ?_⟩; have n0_ := Aside0.mk (Kd.N_mono (Kd.N_told (Kd.N_told (Kd.N_old (by (with_reducible repeat (first | apply Kd.N_alloc | apply Kd.N_drewN | apply Kd.N_drew)); exact HO_3.out) hb) (by first | exact Kd.N_base ho0 | exact Kd.R_base (Kd.S_R ho0))) (Kd.N_base ho1)) (fun _ h_ => h_.1)); have n1_ := Aside0.mk (Kd.R_below (by (with_reducible repeat (first | apply Kd.R_alloc | apply Kd.R_drewN | apply Kd.R_drew)); exact HO_5.out) hb); have n2_ := Aside0.mk (Kd.N_mono (Kd.N_told (Kd.N_told (Kd.N_old (by (with_reducible repeat (first | apply Kd.N_alloc | apply Kd.N_drewN | apply Kd.N_drew)); exact HO368.out) hb) (by first | exact Kd.N_base ho0 | exact Kd.R_base (Kd.S_R ho0))) (Kd.N_base ho1)) (fun _ h_ => h_.1)); have n3_ := Aside0.mk (Kd.V_mono (Kd.V_told (Kd.V_told (Kd.V_old (by (with_reducible repeat (first | apply Kd.V_alloc | apply Kd.V_drewN | apply Kd.V_drew)); exact HL372_0.out) hb) (by first | exact Kd.N_base ho0 | exact Kd.R_base (Kd.S_R ho0))) (Kd.N_base ho1)) (fun _ h_ => h_.1)); have n4_ := Aside0.mk (Kd.N_lower (Kd.N_mono (ok' := fun k_ => some k_ ≠ (v384 : Value).ownBlock ∧ some k_ ≠ (.slice (some ad359) t347.length co17 : Value).ownBlock ∧ k_ ≠ gb341) ho0 (fun k_ hk_ => ⟨hk_.2, Or.elim hk_.1 (fun hs_ => hs_.1) (fun hn_ => (Kd.fresh' (Kd.R_lt (by (with_reducible repeat (first | apply Kd.R_alloc | apply Kd.R_drewN | apply Kd.R_drew)); exact HO_5.out)) k_ hn_)), Or.elim hk_.1 (fun hs_ => hs_.2) (fun hn_ => (Kd.freshB (g := gb341) (o := .cells #[.slice A0_0 l0_0.length c0_0, .slice A0_1 l0_1.length c0_1] 25 (0, 0)) (by (with_reducible repeat (first | refine blk_drewN ?_ _ | refine blk_drew ?_ | refine blk_alloc ?_ _)); exact BK341.out) k_ hn_))⟩)) (below_size (by repeat (first | (with_reducible first | exact HB.out | apply below_alloc | apply pw_below_drewN | apply below_drew1 | refine below_set ?_ GE341.out) | exact HB.out)))); have n5_ := Aside0.mk (Kd.N_lower (Kd.N_mono (ok' := fun k_ => some k_ ≠ (v381 : Value).ownBlock ∧ some k_ ≠ (.slice (some ad359) t347.length co17 : Value).ownBlock ∧ k_ ≠ gb341) ho1 (fun k_ hk_ => ⟨hk_.2, Or.elim hk_.1 (fun hs_ => hs_.1) (fun hn_ => (Kd.fresh' (Kd.R_lt (by (with_reducible repeat (first | apply Kd.R_alloc | apply Kd.R_drewN | apply Kd.R_drew)); exact HO_5.out)) k_ hn_)), Or.elim hk_.1 (fun hs_ => hs_.2) (fun hn_ => (Kd.freshB (g := gb341) (o := .cells #[.slice A0_0 l0_0.length c0_0, .slice A0_1 l0_1.length c0_1] 25 (0, 0)) (by (with_reducible repeat (first | refine blk_drewN ?_ _ | refine blk_drew ?_ | refine blk_alloc ?_ _)); exact BK341.out) k_ hn_))⟩)) (below_size (by repeat (first | (with_reducible first | exact HB.out | apply below_alloc | apply pw_below_drewN | apply below_drew1 | refine below_set ?_ GE341.out) | exact HB.out)))); have n6_ := Aside0.mk (blk_below (g := gb341) (o := .cells #[.slice A0_0 l0_0.length c0_0, .slice A0_1 l0_1.length c0_1] 25 (0, 0)) (by (with_reducible repeat (first | refine blk_drewN ?_ _ | refine blk_drew ?_ | refine blk_alloc ?_ _)); exact BK341.out) hb); have n7_ := Aside0.mk (below_step (by repeat (first | (with_reducible first | exact HB.out | apply below_alloc | apply pw_below_drewN | apply below_drew1 | refine below_set ?_ GE341.out) | exact HB.out)) hb); clear HO_3; clear HO_5; clear HO368; clear HL372_0; clear BK341; clear HB; have HO_3 := n0_; have HO_5 := n1_; have HO368 := n2_; have HL372_0 := n3_; have HO382 := n4_; have HO385 := n5_; have BK341 := n6_; have HB := n7_; clear n0_ n1_ n2_ n3_ n4_ n5_ n6_ n7_; (try clear hb); (try clear hb2); (try clear hk); (try clear hi); (try clear ho0); (try clear ho1); obtain ⟨Ao83, co83, eo83⟩ := Kd.N_slice HO382.out; subst eo83; obtain ⟨Ao84, co84, eo84⟩ := Kd.N_slice HO385.out; subst eo84) | ((with_reducible refine gate_callee (f := 14) rfl ?_); refine goesL_ (some 122) rfl rfl Try.func14 (by kernel_rfl) rfl #[.agg #[.slice Ao83 t380.length co83, .slice Ao84 t383.length co84]] rfl (by (try simp only [List.map_toArray, List.map_cons, List.map_nil]); first | done | rfl | (simp only [List.length_drop, List.length_take]; rfl)) ?_; (with_reducible refine (dominator_Tree.calls kj39 _ _ t380 _ _ t383 t386 _ ?side1 ?side2 ?side3 ?side4 A56.out).mono ?_); (case side1 => repeat (first | exact (Kd.N_reads' HO382.out).2.2 | (with_reducible refine Kd.C_alloc ?_ _) | (with_reducible refine Kd.C_drewN ?_ _) | (with_reducible refine Kd.C_drew ?_))); (case side2 => exact (Kd.N_reads' HO382.out).2.1); (case side3 => repeat (first | exact (Kd.N_reads' HO385.out).2.2 | (with_reducible refine Kd.C_alloc ?_ _) | (with_reducible refine Kd.C_drewN ?_ _) | (with_reducible refine Kd.C_drew ?_))); (case side4 => exact (Kd.N_reads' HO385.out).2.1); rintro e w85 ⟨v387, rfl, ho0, hb⟩; refine ⟨_, rfl, ?_⟩; have n0_ := Aside0.mk (Kd.N_elder' (by (with_reducible repeat (first | apply Kd.N_alloc | apply Kd.N_drewN | apply Kd.N_drew)); exact HO_3.out) (Kd.R_base ho0) hb); have n1_ := Aside0.mk (Kd.R_elder' (by (with_reducible repeat (first | apply Kd.R_alloc | apply Kd.R_drewN | apply Kd.R_drew)); exact HO_5.out) (Kd.R_base ho0) hb); have n2_ := Aside0.mk (Kd.N_elder' (by (with_reducible repeat (first | apply Kd.N_alloc | apply Kd.N_drewN | apply Kd.N_drew)); exact HO368.out) (Kd.R_base ho0) hb); have n3_ := Aside0.mk (Kd.V_elder' (by (with_reducible repeat (first | apply Kd.V_alloc | apply Kd.V_drewN | apply Kd.V_drew)); exact HL372_0.out) (Kd.R_base ho0) hb); have n4_ := Aside0.mk (Kd.N_elder' (by (with_reducible repeat (first | apply Kd.N_alloc | apply Kd.N_drewN | apply Kd.N_drew)); exact HO382.out) (Kd.R_base ho0) hb); have n5_ := Aside0.mk (Kd.N_elder' (by (with_reducible repeat (first | apply Kd.N_alloc | apply Kd.N_drewN | apply Kd.N_drew)); exact HO385.out) (Kd.R_base ho0) hb); have n6_ := Aside0.mk (Kd.R_lower (Kd.R_new' ho0 (Kd.R_lt (by (with_reducible repeat (first | apply Kd.R_alloc | apply Kd.R_drewN | apply Kd.R_drew)); exact HO_5.out))) (below_size (by repeat (first | (with_reducible first | exact HB.out | apply below_alloc | apply pw_below_drewN | apply below_drew1 | refine below_set ?_ GE341.out) | exact HB.out)))); have n7_ := Aside0.mk (blk_below (g := gb341) (o := .cells #[.slice A0_0 l0_0.length c0_0, .slice A0_1 l0_1.length c0_1] 25 (0, 0)) (by (with_reducible repeat (first | refine blk_drewN ?_ _ | refine blk_drew ?_ | refine blk_alloc ?_ _)); exact BK341.out) hb); have n8_ := Aside0.mk (below_step (by repeat (first | (with_reducible first | exact HB.out | apply below_alloc | apply pw_below_drewN | apply below_drew1 | refine below_set ?_ GE341.out) | exact HB.out)) hb); clear HO_3; clear HO_5; clear HO368; clear HL372_0; clear HO382; clear HO385; clear BK341; clear HB; have HO_3 := n0_; have HO_5 := n1_; have HO368 := n2_; have HL372_0 := n3_; have HO382 := n4_; have HO385 := n5_; have HO388 := n6_; have BK341 := n7_; have HB := n8_; clear n0_ n1_ n2_ n3_ n4_ n5_ n6_ n7_ n8_; (try clear hb); (try clear hb2); (try clear hk); (try clear hi); (try clear ho0); obtain ⟨Ao86, co86, eo86⟩ := Kd.R_slice HO388.out; subst eo86) | ((with_reducible refine gate_callee (f := 17) rfl ?_); refine goesL_ (some 124) rfl rfl Try.func17 (by kernel_rfl) rfl #[.slice Ao86 t386.length co86, .slice (some ad359) t347.length co17] rfl (by (try simp only [List.map_toArray, List.map_cons, List.map_nil]); first | done | rfl | (simp only [List.length_drop, List.length_take]; rfl)) ?_; (with_reducible refine (ontimeref25_Ints.calls kj39 _ _ t386 _ _ t347 false _ ?side1 ?side2 ?side3 ?side4 A57.out).mono ?_); (case side1 => repeat (first | exact (Kd.R_reads' HO388.out).2.2 | (with_reducible refine Kd.C_alloc ?_ _) | (with_reducible refine Kd.C_drewN ?_ _) | (with_reducible refine Kd.C_drew ?_))); (case side2 => exact (Kd.R_reads' HO388.out).2.1); (case side3 => repeat (first | exact (Kd.R_reads' HO_5.out).2.2 | (with_reducible refine Kd.C_alloc ?_ _) | (with_reducible refine Kd.C_drewN ?_ _) | (with_reducible refine Kd.C_drew ?_))); (case side4 => exact (Kd.R_reads' HO_5.out).2.1); rintro e w' ⟨rfl, ⟨nd, rfl⟩⟩; refine ⟨_, rfl, ?_⟩))
                      go_ret
                      exact ⟨by first | rfl | (simp [errW_none, errW_some] <;> rfl) | (simp [*, errW_none, errW_some] <;> rfl), by repeat (first | (with_reducible first | exact HB.out | apply below_alloc | apply pw_below_drewN | apply below_drew1 | refine below_set ?_ GE341.out) | exact HB.out)⟩
                    ·rw [if_neg c53] at H
                     exact absurd H (by simp)
                   ·rw [if_neg c52] at H
                    exact absurd H (by simp)
                  ·rw [if_neg c51] at H
                   exact absurd H (by simp)
                 ·rw [if_neg c50] at H
                  exact absurd H (by simp)
                ·rw [if_neg c49] at H
                 exact absurd H (by simp)
               ·rw [if_neg c48] at H
                exact absurd H (by simp)
           ·rw [if_neg c39] at H
            exact absurd H (by simp)
          ·rw [if_neg c38] at H
           exact absurd H (by simp)
         ·rw [if_neg c37] at H
          have c37b0 : decide (x10_2 < (x3_2.length : Int)) = false := decide_eq_false c37
          clear c37
          obtain rfl := Option.some.inj H
          go_wp2
          go_ret
          exact ⟨by first | rfl | (simp [errW_none, errW_some] <;> rfl) | (simp [*, errW_none, errW_some] <;> rfl), by repeat (first | (with_reducible first | exact HB.out | apply below_alloc | apply pw_below_drewN | apply below_drew1 | refine below_set ?_ GE341.out) | exact HB.out)⟩
   ·rw [if_neg c8] at H
    have c8b0 : ((t347.length : Int) == (t343.length : Int)) = false := beq_eq_false_iff_ne.mpr c8
    have c8b1 : ((t347.length : Int) != (t343.length : Int)) = true := bne_iff_ne.mpr c8
    have c8b2 : (t347.length == t343.length) = false := by first | simpa using c8 | (simp at c8 ⊢; omega)
    obtain rfl := Option.some.inj H
    go_enter Try.func11, Try.ntmps11
    go_wp2_with (first | ((with_reducible refine gate_dst (N := 1) rfl ?_); (try (refine gate_guard (by rfl) ?_; dsimp only)); refine box_event ?hg (N := 1) ?hd (cs := #[.slice A0_0 l0_0.length c0_0, .slice A0_1 l0_1.length c0_1]) (t := 25) ?hr ?_; (case hd => rfl); (case hg => rfl); (case hr => first | (go_simp; done) | (go_simp; rfl)); intro gb341 hg w87 hbox hb; have n0_ := Aside0.mk (below_step (by repeat (first | (with_reducible first | exact HB.out | apply below_alloc | apply pw_below_drewN | apply below_drew1) | exact HB.out)) hb); have n1_ := Aside0.mk (hbox); have n2_ := Aside0.mk ((by rw [hg]; exact (below_size (by repeat (first | (with_reducible first | exact HB.out | apply below_alloc | apply pw_below_drewN | apply below_drew1) | exact HB.out))) : w.heap.size ≤ gb341)); have n3_ := Aside0.mk ((by rw [hg]; exact (below_size (by repeat (first | (with_reducible first | exact HB.out | apply below_alloc | apply pw_below_drewN | apply below_drew1) | exact HB.out))) : w.heap.size ≤ gb341)); clear HB; have HB := n0_; have BK341 := n1_; have GW341 := n2_; have GE341 := n3_; clear n0_ n1_ n2_ n3_; clear hb hbox hg) | ((with_reducible refine gate_callee (f := 12) rfl ?_); refine goesL_ (some 13) rfl rfl Try.func12 (by kernel_rfl) rfl #[] rfl (by (try simp only [List.map_toArray, List.map_cons, List.map_nil]); first | done | rfl | (simp only [List.length_drop, List.length_take]; rfl)) ?_; (with_reducible refine (ontimelaw25_awake.calls  true _ A2.out).mono ?_); rintro e w88 ⟨rfl, hb⟩; refine ⟨_, rfl, ?_⟩; have n0_ := Aside0.mk (blk_below (g := gb341) (o := .cells #[.slice A0_0 l0_0.length c0_0, .slice A0_1 l0_1.length c0_1] 25 (0, 0)) (by (with_reducible repeat (first | refine blk_drewN ?_ _ | refine blk_drew ?_ | refine blk_alloc ?_ _)); exact BK341.out) hb); have n1_ := Aside0.mk (below_step (by repeat (first | (with_reducible first | exact HB.out | apply below_alloc | apply pw_below_drewN | apply below_drew1 | refine below_set ?_ GE341.out) | exact HB.out)) hb); clear BK341; clear HB; have BK341 := n0_; have HB := n1_; clear n0_ n1_; (try clear hb); (try clear hb2); (try clear hk); (try clear hi); have hcz89_0 : w88.cell? ⟨gb341, 0, none⟩ = some (.slice A0_0 l0_0.length c0_0) := (blk_cell BK341.out 0).trans rfl; have hcz89_1 : w88.cell? ⟨gb341, 1, none⟩ = some (.slice A0_1 l0_1.length c0_1) := (blk_cell BK341.out 1).trans rfl; have hfz89_0 := blk_frozen BK341.out 0; have hfz89_1 := blk_frozen BK341.out 1) | ((with_reducible refine gate_callee (f := 13) rfl ?_); refine goesL_ (some 17) rfl rfl Try.func13 (by kernel_rfl) rfl #[.agg #[.slice A0_0 l0_0.length c0_0, .slice A0_1 l0_1.length c0_1]] rfl (by (try simp only [List.map_toArray, List.map_cons, List.map_nil]); first | done | rfl | (simp only [List.length_drop, List.length_take]; rfl)) ?_; (with_reducible refine (ontimelaw25_next.calls k (fun k_ => k_ < w.heap.size) _ _ l0_0 _ _ l0_1 t343 true _ ?side1 ?side2 ?side3 A4.out).mono ?_); (case side1 => exact Kd.V_mk HC0_0.out (Kd.F_below (Kd.C_F k46_heap HR0_0.out) (by repeat (first | (with_reducible first | exact HB.out | apply below_alloc | apply pw_below_drewN | apply below_drew1 | refine below_set ?_ GE341.out) | exact HB.out)))); (case side2 => repeat (first | exact (Kd.C_below HR0_1.out HB.out) | (with_reducible refine Kd.C_alloc ?_ _) | (with_reducible refine Kd.C_drewN ?_ _) | (with_reducible refine Kd.C_drew ?_))); (case side3 => exact HC0_1.out); rintro e w90 ⟨v344, rfl, ho0, hb⟩; refine ⟨_, rfl, ?_⟩; have n0_ := Aside0.mk (Kd.N_lower (Kd.N_mono (ok' := fun k_ => k_ ≠ gb341) ho0 (fun k_ hk_ => Or.elim hk_ (fun hs_ => fun e_ => Nat.not_le.2 hs_ (by rw [e_]; exact GW341.out)) (fun hn_ => (Kd.freshB (g := gb341) (o := .cells #[.slice A0_0 l0_0.length c0_0, .slice A0_1 l0_1.length c0_1] 25 (0, 0)) (by (with_reducible repeat (first | refine blk_drewN ?_ _ | refine blk_drew ?_ | refine blk_alloc ?_ _)); exact BK341.out) k_ hn_)))) (below_size (by repeat (first | (with_reducible first | exact HB.out | apply below_alloc | apply pw_below_drewN | apply below_drew1 | refine below_set ?_ GE341.out) | exact HB.out)))); have n1_ := Aside0.mk (blk_below (g := gb341) (o := .cells #[.slice A0_0 l0_0.length c0_0, .slice A0_1 l0_1.length c0_1] 25 (0, 0)) (by (with_reducible repeat (first | refine blk_drewN ?_ _ | refine blk_drew ?_ | refine blk_alloc ?_ _)); exact BK341.out) hb); have n2_ := Aside0.mk (below_step (by repeat (first | (with_reducible first | exact HB.out | apply below_alloc | apply pw_below_drewN | apply below_drew1 | refine below_set ?_ GE341.out) | exact HB.out)) hb); clear BK341; clear HB; have HO345 := n0_; have BK341 := n1_; have HB := n2_; clear n0_ n1_ n2_; (try clear hb); (try clear hb2); (try clear hk); (try clear hi); (try clear ho0); have hcz91_0 : w90.cell? ⟨gb341, 0, none⟩ = some (.slice A0_0 l0_0.length c0_0) := (blk_cell BK341.out 0).trans rfl; have hcz91_1 : w90.cell? ⟨gb341, 1, none⟩ = some (.slice A0_1 l0_1.length c0_1) := (blk_cell BK341.out 1).trans rfl; have hfz91_0 := blk_frozen BK341.out 0; have hfz91_1 := blk_frozen BK341.out 1) | ((with_reducible refine gate_callee (f := 14) rfl ?_); refine goesL_ (some 23) rfl rfl Try.func14 (by kernel_rfl) rfl #[.agg #[.slice A0_0 l0_0.length c0_0, .slice A0_1 l0_1.length c0_1]] rfl (by (try simp only [List.map_toArray, List.map_cons, List.map_nil]); first | done | rfl | (simp only [List.length_drop, List.length_take]; rfl)) ?_; (with_reducible refine (dominator_Tree.calls k _ _ l0_0 _ _ l0_1 t347 _ ?side1 ?side2 ?side3 ?side4 A6.out).mono ?_); (case side1 => repeat (first | exact (Kd.C_below HR0_0.out HB.out) | (with_reducible refine Kd.C_alloc ?_ _) | (with_reducible refine Kd.C_drewN ?_ _) | (with_reducible refine Kd.C_drew ?_))); (case side2 => exact HC0_0.out); (case side3 => repeat (first | exact (Kd.C_below HR0_1.out HB.out) | (with_reducible refine Kd.C_alloc ?_ _) | (with_reducible refine Kd.C_drewN ?_ _) | (with_reducible refine Kd.C_drew ?_))); (case side4 => exact HC0_1.out); rintro e w92 ⟨v348, rfl, ho0, hb⟩; refine ⟨_, rfl, ?_⟩; have n0_ := Aside0.mk (Kd.N_elder' (by (with_reducible repeat (first | apply Kd.N_alloc | apply Kd.N_drewN | apply Kd.N_drew)); exact HO345.out) (Kd.R_base ho0) hb); have n1_ := Aside0.mk (Kd.R_lower ho0 (below_size (by repeat (first | (with_reducible first | exact HB.out | apply below_alloc | apply pw_below_drewN | apply below_drew1 | refine below_set ?_ GE341.out) | exact HB.out)))); have n2_ := Aside0.mk (blk_below (g := gb341) (o := .cells #[.slice A0_0 l0_0.length c0_0, .slice A0_1 l0_1.length c0_1] 25 (0, 0)) (by (with_reducible repeat (first | refine blk_drewN ?_ _ | refine blk_drew ?_ | refine blk_alloc ?_ _)); exact BK341.out) hb); have n3_ := Aside0.mk (below_step (by repeat (first | (with_reducible first | exact HB.out | apply below_alloc | apply pw_below_drewN | apply below_drew1 | refine below_set ?_ GE341.out) | exact HB.out)) hb); clear HO345; clear BK341; clear HB; have HO345 := n0_; have HO349 := n1_; have BK341 := n2_; have HB := n3_; clear n0_ n1_ n2_ n3_; (try clear hb); (try clear hb2); (try clear hk); (try clear hi); (try clear ho0); obtain ⟨Ao93, co93, eo93⟩ := Kd.N_slice HO345.out; subst eo93) | ((with_reducible refine gate_callee (f := 20) rfl ?_); refine goesL_ (some 25) rfl rfl Try.func20 (by kernel_rfl) rfl #[.slice Ao93 t343.length co93, .int .i64 (-1)] rfl (by (try simp only [List.map_toArray, List.map_cons, List.map_nil]); first | done | rfl | (simp only [List.length_drop, List.length_take]; rfl)) ?_; (with_reducible refine (ontimeref25_Reach.calls k _ _ t343 (-1) t350 _ ?side1 ?side2 A7.out).mono ?_); (case side1 => repeat (first | exact (Kd.N_reads' HO345.out).2.2 | (with_reducible refine Kd.C_alloc ?_ _) | (with_reducible refine Kd.C_drewN ?_ _) | (with_reducible refine Kd.C_drew ?_))); (case side2 => exact (Kd.N_reads' HO345.out).2.1); rintro e w94 ⟨v351, rfl, ho0, hb⟩; refine ⟨_, rfl, ?_⟩; have n0_ := Aside0.mk (Kd.N_elder' (by (with_reducible repeat (first | apply Kd.N_alloc | apply Kd.N_drewN | apply Kd.N_drew)); exact HO345.out) (Kd.R_base ho0) hb); have n1_ := Aside0.mk (Kd.R_below (by (with_reducible repeat (first | apply Kd.R_alloc | apply Kd.R_drewN | apply Kd.R_drew)); exact HO349.out) hb); have n2_ := Aside0.mk (Kd.R_lower ho0 (below_size (by repeat (first | (with_reducible first | exact HB.out | apply below_alloc | apply pw_below_drewN | apply below_drew1 | refine below_set ?_ GE341.out) | exact HB.out)))); have n3_ := Aside0.mk (blk_below (g := gb341) (o := .cells #[.slice A0_0 l0_0.length c0_0, .slice A0_1 l0_1.length c0_1] 25 (0, 0)) (by (with_reducible repeat (first | refine blk_drewN ?_ _ | refine blk_drew ?_ | refine blk_alloc ?_ _)); exact BK341.out) hb); have n4_ := Aside0.mk (below_step (by repeat (first | (with_reducible first | exact HB.out | apply below_alloc | apply pw_below_drewN | apply below_drew1 | refine below_set ?_ GE341.out) | exact HB.out)) hb); clear HO345; clear HO349; clear BK341; clear HB; have HO345 := n0_; have HO349 := n1_; have HO352 := n2_; have BK341 := n3_; have HB := n4_; clear n0_ n1_ n2_ n3_ n4_; (try clear hb); (try clear hb2); (try clear hk); (try clear hi); (try clear ho0); obtain ⟨Ao95, co95, eo95⟩ := Kd.R_slice HO349.out; subst eo95))
    go_ret
    exact ⟨by first | rfl | (simp [errW_none, errW_some] <;> rfl) | (simp [*, errW_none, errW_some] <;> rfl), by repeat (first | (with_reducible first | exact HB.out | apply below_alloc | apply pw_below_drewN | apply below_drew1 | refine below_set ?_ GE341.out) | exact HB.out)⟩
  ·replace c5 := Bool.eq_false_iff.mpr c5
   subst c5
   have H1 : (some true) = some r := by rw [if_neg (show ¬ (false = true) by decide)] at H; exact H
   clear H
   have H := H1
   clear H1
   obtain rfl := Option.some.inj H
   go_enter Try.func11, Try.ntmps11
   go_wp2_with (first | ((with_reducible refine gate_dst (N := 1) rfl ?_); (try (refine gate_guard (by rfl) ?_; dsimp only)); refine box_event ?hg (N := 1) ?hd (cs := #[.slice A0_0 l0_0.length c0_0, .slice A0_1 l0_1.length c0_1]) (t := 25) ?hr ?_; (case hd => rfl); (case hg => rfl); (case hr => first | (go_simp; done) | (go_simp; rfl)); intro gb341 hg w96 hbox hb; have n0_ := Aside0.mk (below_step (by repeat (first | (with_reducible first | exact HB.out | apply below_alloc | apply pw_below_drewN | apply below_drew1) | exact HB.out)) hb); have n1_ := Aside0.mk (hbox); have n2_ := Aside0.mk ((by rw [hg]; exact (below_size (by repeat (first | (with_reducible first | exact HB.out | apply below_alloc | apply pw_below_drewN | apply below_drew1) | exact HB.out))) : w.heap.size ≤ gb341)); have n3_ := Aside0.mk ((by rw [hg]; exact (below_size (by repeat (first | (with_reducible first | exact HB.out | apply below_alloc | apply pw_below_drewN | apply below_drew1) | exact HB.out))) : w.heap.size ≤ gb341)); clear HB; have HB := n0_; have BK341 := n1_; have GW341 := n2_; have GE341 := n3_; clear n0_ n1_ n2_ n3_; clear hb hbox hg) | ((with_reducible refine gate_callee (f := 12) rfl ?_); refine goesL_ (some 13) rfl rfl Try.func12 (by kernel_rfl) rfl #[] rfl (by (try simp only [List.map_toArray, List.map_cons, List.map_nil]); first | done | rfl | (simp only [List.length_drop, List.length_take]; rfl)) ?_; (with_reducible refine (ontimelaw25_awake.calls  true _ A2.out).mono ?_); rintro e w97 ⟨rfl, hb⟩; refine ⟨_, rfl, ?_⟩; have n0_ := Aside0.mk (blk_below (g := gb341) (o := .cells #[.slice A0_0 l0_0.length c0_0, .slice A0_1 l0_1.length c0_1] 25 (0, 0)) (by (with_reducible repeat (first | refine blk_drewN ?_ _ | refine blk_drew ?_ | refine blk_alloc ?_ _)); exact BK341.out) hb); have n1_ := Aside0.mk (below_step (by repeat (first | (with_reducible first | exact HB.out | apply below_alloc | apply pw_below_drewN | apply below_drew1 | refine below_set ?_ GE341.out) | exact HB.out)) hb); clear BK341; clear HB; have BK341 := n0_; have HB := n1_; clear n0_ n1_; (try clear hb); (try clear hb2); (try clear hk); (try clear hi); have hcz98_0 : w97.cell? ⟨gb341, 0, none⟩ = some (.slice A0_0 l0_0.length c0_0) := (blk_cell BK341.out 0).trans rfl; have hcz98_1 : w97.cell? ⟨gb341, 1, none⟩ = some (.slice A0_1 l0_1.length c0_1) := (blk_cell BK341.out 1).trans rfl; have hfz98_0 := blk_frozen BK341.out 0; have hfz98_1 := blk_frozen BK341.out 1) | ((with_reducible refine gate_callee (f := 13) rfl ?_); refine goesL_ (some 17) rfl rfl Try.func13 (by kernel_rfl) rfl #[.agg #[.slice A0_0 l0_0.length c0_0, .slice A0_1 l0_1.length c0_1]] rfl (by (try simp only [List.map_toArray, List.map_cons, List.map_nil]); first | done | rfl | (simp only [List.length_drop, List.length_take]; rfl)) ?_; (with_reducible refine (ontimelaw25_next.calls k (fun k_ => k_ < w.heap.size) _ _ l0_0 _ _ l0_1 t343 false _ ?side1 ?side2 ?side3 A4.out).mono ?_); (case side1 => exact Kd.V_mk HC0_0.out (Kd.F_below (Kd.C_F k46_heap HR0_0.out) (by repeat (first | (with_reducible first | exact HB.out | apply below_alloc | apply pw_below_drewN | apply below_drew1 | refine below_set ?_ GE341.out) | exact HB.out)))); (case side2 => repeat (first | exact (Kd.C_below HR0_1.out HB.out) | (with_reducible refine Kd.C_alloc ?_ _) | (with_reducible refine Kd.C_drewN ?_ _) | (with_reducible refine Kd.C_drew ?_))); (case side3 => exact HC0_1.out); rintro e w99 ⟨v344, rfl, ho0, hb⟩; refine ⟨_, rfl, ?_⟩; have n0_ := Aside0.mk (Kd.N_lower (Kd.N_mono (ok' := fun k_ => k_ ≠ gb341) ho0 (fun k_ hk_ => Or.elim hk_ (fun hs_ => fun e_ => Nat.not_le.2 hs_ (by rw [e_]; exact GW341.out)) (fun hn_ => (Kd.freshB (g := gb341) (o := .cells #[.slice A0_0 l0_0.length c0_0, .slice A0_1 l0_1.length c0_1] 25 (0, 0)) (by (with_reducible repeat (first | refine blk_drewN ?_ _ | refine blk_drew ?_ | refine blk_alloc ?_ _)); exact BK341.out) k_ hn_)))) (below_size (by repeat (first | (with_reducible first | exact HB.out | apply below_alloc | apply pw_below_drewN | apply below_drew1 | refine below_set ?_ GE341.out) | exact HB.out)))); have n1_ := Aside0.mk (blk_below (g := gb341) (o := .cells #[.slice A0_0 l0_0.length c0_0, .slice A0_1 l0_1.length c0_1] 25 (0, 0)) (by (with_reducible repeat (first | refine blk_drewN ?_ _ | refine blk_drew ?_ | refine blk_alloc ?_ _)); exact BK341.out) hb); have n2_ := Aside0.mk (below_step (by repeat (first | (with_reducible first | exact HB.out | apply below_alloc | apply pw_below_drewN | apply below_drew1 | refine below_set ?_ GE341.out) | exact HB.out)) hb); clear BK341; clear HB; have HO345 := n0_; have BK341 := n1_; have HB := n2_; clear n0_ n1_ n2_; (try clear hb); (try clear hb2); (try clear hk); (try clear hi); (try clear ho0)))
   go_ret
   exact ⟨by first | rfl | (simp [errW_none, errW_some] <;> rfl) | (simp [*, errW_none, errW_some] <;> rfl), by repeat (first | (with_reducible first | exact HB.out | apply below_alloc | apply pw_below_drewN | apply below_drew1 | refine below_set ?_ GE341.out) | exact HB.out)⟩
 ·replace c3 := Bool.eq_false_iff.mpr c3
  subst c3
  have H1 : (some false) = some r := by rw [if_neg (show ¬ (false = true) by decide)] at H; exact H
  clear H
  have H := H1
  clear H1
  obtain rfl := Option.some.inj H
  go_enter Try.func11, Try.ntmps11
  go_wp2_with (first | ((with_reducible refine gate_dst (N := 1) rfl ?_); (try (refine gate_guard (by rfl) ?_; dsimp only)); refine box_event ?hg (N := 1) ?hd (cs := #[.slice A0_0 l0_0.length c0_0, .slice A0_1 l0_1.length c0_1]) (t := 25) ?hr ?_; (case hd => rfl); (case hg => rfl); (case hr => first | (go_simp; done) | (go_simp; rfl)); intro gb341 hg w100 hbox hb; have n0_ := Aside0.mk (below_step (by repeat (first | (with_reducible first | exact HB.out | apply below_alloc | apply pw_below_drewN | apply below_drew1) | exact HB.out)) hb); have n1_ := Aside0.mk (hbox); have n2_ := Aside0.mk ((by rw [hg]; exact (below_size (by repeat (first | (with_reducible first | exact HB.out | apply below_alloc | apply pw_below_drewN | apply below_drew1) | exact HB.out))) : w.heap.size ≤ gb341)); have n3_ := Aside0.mk ((by rw [hg]; exact (below_size (by repeat (first | (with_reducible first | exact HB.out | apply below_alloc | apply pw_below_drewN | apply below_drew1) | exact HB.out))) : w.heap.size ≤ gb341)); clear HB; have HB := n0_; have BK341 := n1_; have GW341 := n2_; have GE341 := n3_; clear n0_ n1_ n2_ n3_; clear hb hbox hg) | ((with_reducible refine gate_callee (f := 12) rfl ?_); refine goesL_ (some 13) rfl rfl Try.func12 (by kernel_rfl) rfl #[] rfl (by (try simp only [List.map_toArray, List.map_cons, List.map_nil]); first | done | rfl | (simp only [List.length_drop, List.length_take]; rfl)) ?_; (with_reducible refine (ontimelaw25_awake.calls  false _ A2.out).mono ?_); rintro e w101 ⟨rfl, hb⟩; refine ⟨_, rfl, ?_⟩; have n0_ := Aside0.mk (blk_below (g := gb341) (o := .cells #[.slice A0_0 l0_0.length c0_0, .slice A0_1 l0_1.length c0_1] 25 (0, 0)) (by (with_reducible repeat (first | refine blk_drewN ?_ _ | refine blk_drew ?_ | refine blk_alloc ?_ _)); exact BK341.out) hb); have n1_ := Aside0.mk (below_step (by repeat (first | (with_reducible first | exact HB.out | apply below_alloc | apply pw_below_drewN | apply below_drew1 | refine below_set ?_ GE341.out) | exact HB.out)) hb); clear BK341; clear HB; have BK341 := n0_; have HB := n1_; clear n0_ n1_; (try clear hb); (try clear hb2); (try clear hk); (try clear hi)))
  go_ret
  exact ⟨by first | rfl | (simp [errW_none, errW_some] <;> rfl) | (simp [*, errW_none, errW_some] <;> rfl), by repeat (first | (with_reducible first | exact HB.out | apply below_alloc | apply pw_below_drewN | apply below_drew1 | refine below_set ?_ GE341.out) | exact HB.out)⟩

/-- The pure statement of ontimelaw25_DominatorEdges. -/
def ontimelaw25_DominatorEdges.Pure : Prop := ∀ (l0_0 : List (S46)) (l0_1 : List (List Int)), l0_0.length ≤ maxLen → l0_1.length ≤ maxLen → ∃ k, ontimelaw25_DominatorEdges.f k l0_0 l0_1 = some true
theorem ontimelaw25_DominatorEdges.walk (P : ontimelaw25_DominatorEdges.Pure) (A0_0 : Option Addr) (c0_0 : Nat) (l0_0 : List (S46)) (A0_1 : Option Addr) (c0_1 : Nat) (l0_1 : List (List Int)) (w : World) (hr0_0 : Kd.C k46 w A0_0 l0_0.length l0_0) (hc0_0 : l0_0.length ≤ c0_0) (hm0_0 : l0_0.length ≤ maxLen) (hr0_1 : Kd.C (Kd.slice 3 (Kd.int .i64)) w A0_1 l0_1.length l0_1) (hc0_1 : l0_1.length ≤ c0_1) (hm0_1 : l0_1.length ≤ maxLen) :
  Calls Try.prog 11 #[.agg #[.slice A0_0 l0_0.length c0_0, .slice A0_1 l0_1.length c0_1]] w fun e w' => e = .returned (.bool true) ∧ Below w.heap.size w w' := by
 obtain ⟨k, h⟩ := P l0_0 l0_1 hm0_0 hm0_1
 refine (ontimelaw25_DominatorEdges.calls k A0_0 c0_0 l0_0 A0_1 c0_1 l0_1 true w hr0_0 hc0_0 hr0_1 hc0_1 h).mono ?_
 rintro e w' ⟨rfl, hd⟩
 exact ⟨rfl, hd⟩

end Go.Proofs.Ytnkbmpdghjhlfaa.P
