/- Written by xprint.py: functions, proofs of contracts. -/
import Derived.Test.YtnkbmpdghjhlfaaPx0
import Derived.Test.YtnkbmpdghjhlfaaPx2
import Derived.Test.YtnkbmpdghjhlfaaPx3
import Derived.Test.YtnkbmpdghjhlfaaPxIn
import Derived.Test.YtnkbmpdghjhlfaaXTree
import Derived.Test.YtnkbmpdghjhlfaaXFrontier
import Derived.Test.YtnkbmpdghjhlfaaXAwake
namespace Go.Proofs.Ytnkbmpdghjhlfaa.P
open Go.RowKit Go.Proofs.YtnkbmpdghjhlfaaW.PrintWords Go.Proofs.YtnkbmpdghjhlfaaW.PrintLast Go.Proofs.YtnkbmpdghjhlfaaW.PrintMore
attribute [local go_sem] max2_int min2_int max_two min_two max_three min_three max_four min_four   -- for this text's walks alone
set_option linter.unusedVariables false
set_option linter.unusedSimpArgs false

/-! ### ontimelaw25_DominatorJoins: function 9 -/
mutual
def ontimelaw25_DominatorJoins.j0 : Nat → List (List Int) → List (List Int) → List Int → List Bool → Bool → Option (Bool)
 | 0, _, _, _, _, _ => none
 | k + 1, x3, x5, x6, x7, x39 => if x39 = true then (some false) else (ontimelaw25_DominatorJoins.l0 k x3 x5 x6 x7 0)
def ontimelaw25_DominatorJoins.l0 : Nat → List (List Int) → List (List Int) → List Int → List Bool → Int → Option (Bool)
 | 0, _, _, _, _, _ => none
 | k + 1, x3, x5, x6, x7, x8 => if x8 < (x3.length : Int) then (ontimelaw25_DominatorJoins.l1 k x3 x5 x6 x7 x8 0) else (some true)
def ontimelaw25_DominatorJoins.l1 : Nat → List (List Int) → List (List Int) → List Int → List Bool → Int → Int → Option (Bool)
 | 0, _, _, _, _, _, _ => none
 | k + 1, x3, x5, x6, x7, x8, x9 => if 0 ≤ x8 then (if x8 < (x3.length : Int) then (if x9 < ((rd_L1 x3 x8).length : Int) then (if x8 < (x7.length : Int) then (ontimelaw25_DominatorJoins.j3 k x3 x5 x6 x7 x8 x9 (rdOf false x7 x8)) else (none)) else (ontimelaw25_DominatorJoins.j3 k x3 x5 x6 x7 x8 x9 false)) else (none)) else (none)
def ontimelaw25_DominatorJoins.j3 : Nat → List (List Int) → List (List Int) → List Int → List Bool → Int → Int → Bool → Option (Bool)
 | 0, _, _, _, _, _, _, _ => none
 | k + 1, x3, x5, x6, x7, x8, x9, x58 => if x58 = true then (if 0 ≤ x8 then (if x8 < (x3.length : Int) then (if 0 ≤ x9 then (if x9 < ((rd_L1 x3 x8).length : Int) then (ontimelaw25_DominatorJoins.l2 k x3 x5 x6 x7 x8 x9 (rd (rd_L1 x3 x8) x9) x8 0) else (none)) else (none)) else (none)) else (none)) else (ontimelaw25_DominatorJoins.l0 k x3 x5 x6 x7 (wrap64 (x8 + 1)))
def ontimelaw25_DominatorJoins.l2 : Nat → List (List Int) → List (List Int) → List Int → List Bool → Int → Int → Int → Int → Int → Option (Bool)
 | 0, _, _, _, _, _, _, _, _, _ => none
 | k + 1, x3, x5, x6, x7, x8, x9, x10, x11, x12 => if x12 < (x3.length : Int) then (if x11 ≥ 0 then (if x11 < (x3.length : Int) then (if x10 = 0 then (ontimelaw25_DominatorJoins.j5 k x3 x5 x6 x7 x8 x9 x10 x11 x12 true) else (if 0 ≤ x10 then (if x10 < (x6.length : Int) then (ontimelaw25_DominatorJoins.j5 k x3 x5 x6 x7 x8 x9 x10 x11 x12 (x11 != (rd x6 x10))) else (none)) else (none))) else (ontimelaw25_DominatorJoins.j5 k x3 x5 x6 x7 x8 x9 x10 x11 x12 false)) else (ontimelaw25_DominatorJoins.j5 k x3 x5 x6 x7 x8 x9 x10 x11 x12 false)) else (ontimelaw25_DominatorJoins.j5 k x3 x5 x6 x7 x8 x9 x10 x11 x12 false)
def ontimelaw25_DominatorJoins.j5 : Nat → List (List Int) → List (List Int) → List Int → List Bool → Int → Int → Int → Int → Int → Bool → Option (Bool)
 | 0, _, _, _, _, _, _, _, _, _, _ => none
 | k + 1, x3, x5, x6, x7, x8, x9, x10, x11, x12, x94 => if x94 = true then (if 0 ≤ x11 then (if x11 < (x5.length : Int) then ((ontimeref25_In.f k (rd_L1 x5 x11) x10).bind fun t327 => (if t327 = true then (if x11 < (x6.length : Int) then (ontimelaw25_DominatorJoins.l2 k x3 x5 x6 x7 x8 x9 x10 (rd x6 x11) (wrap64 (x12 + 1))) else (none)) else (some false))) else (none)) else (none)) else (ontimelaw25_DominatorJoins.l1 k x3 x5 x6 x7 x8 (wrap64 (x9 + 1)))
end
def ontimelaw25_DominatorJoins.f (k : Nat) (l0_0 : List (S46)) (l0_1 : List (List Int)) : Option (Bool) := (ontimelaw25_awake.f).bind fun t307 => (if t307 = true then ((ontimelaw25_next.f k l0_0 l0_1).bind fun bt308 => (if bt308.2 = true then ((dominator_Frontier.f k l0_0 l0_1).bind fun t312 => ((dominator_Tree.f k l0_0 l0_1).bind fun t315 => ((ontimeref25_Reach.f k bt308.1 (-1)).bind fun t318 => (if (t312.length : Int) = (bt308.1.length : Int) then (ontimelaw25_DominatorJoins.j0 k bt308.1 t312 t315 t318 ((t315.length : Int) != (bt308.1.length : Int))) else (ontimelaw25_DominatorJoins.j0 k bt308.1 t312 t315 t318 true))))) else (some true))) else (some false))
theorem ontimelaw25_DominatorJoins.mono_l : ∀ k, (∀ y0 y1 y2 y3 y4, LeO (ontimelaw25_DominatorJoins.j0 k y0 y1 y2 y3 y4) (ontimelaw25_DominatorJoins.j0 (k + 1) y0 y1 y2 y3 y4)) ∧ (∀ y0 y1 y2 y3 y4, LeO (ontimelaw25_DominatorJoins.l0 k y0 y1 y2 y3 y4) (ontimelaw25_DominatorJoins.l0 (k + 1) y0 y1 y2 y3 y4)) ∧ (∀ y0 y1 y2 y3 y4 y5, LeO (ontimelaw25_DominatorJoins.l1 k y0 y1 y2 y3 y4 y5) (ontimelaw25_DominatorJoins.l1 (k + 1) y0 y1 y2 y3 y4 y5)) ∧ (∀ y0 y1 y2 y3 y4 y5 y6, LeO (ontimelaw25_DominatorJoins.j3 k y0 y1 y2 y3 y4 y5 y6) (ontimelaw25_DominatorJoins.j3 (k + 1) y0 y1 y2 y3 y4 y5 y6)) ∧ (∀ y0 y1 y2 y3 y4 y5 y6 y7 y8, LeO (ontimelaw25_DominatorJoins.l2 k y0 y1 y2 y3 y4 y5 y6 y7 y8) (ontimelaw25_DominatorJoins.l2 (k + 1) y0 y1 y2 y3 y4 y5 y6 y7 y8)) ∧ (∀ y0 y1 y2 y3 y4 y5 y6 y7 y8 y9, LeO (ontimelaw25_DominatorJoins.j5 k y0 y1 y2 y3 y4 y5 y6 y7 y8 y9) (ontimelaw25_DominatorJoins.j5 (k + 1) y0 y1 y2 y3 y4 y5 y6 y7 y8 y9))
 | 0 => ⟨fun _ _ _ _ _ r h => by simp [ontimelaw25_DominatorJoins.j0] at h, fun _ _ _ _ _ r h => by simp [ontimelaw25_DominatorJoins.l0] at h, fun _ _ _ _ _ _ r h => by simp [ontimelaw25_DominatorJoins.l1] at h, fun _ _ _ _ _ _ _ r h => by simp [ontimelaw25_DominatorJoins.j3] at h, fun _ _ _ _ _ _ _ _ _ r h => by simp [ontimelaw25_DominatorJoins.l2] at h, fun _ _ _ _ _ _ _ _ _ _ r h => by simp [ontimelaw25_DominatorJoins.j5] at h⟩
 | k + 1 => by
  obtain ⟨ih0, ih1, ih2, ih3, ih4, ih5⟩ := ontimelaw25_DominatorJoins.mono_l k
  refine ⟨?_, ?_, ?_, ?_, ?_, ?_⟩
  ·intro y0 y1 y2 y3 y4
   unfold ontimelaw25_DominatorJoins.j0
   repeat' first
   | (with_reducible exact ih0 _ _ _ _ _)
   | (with_reducible exact ih1 _ _ _ _ _)
   | (with_reducible exact ih2 _ _ _ _ _ _)
   | (with_reducible exact ih3 _ _ _ _ _ _ _)
   | (with_reducible exact ih4 _ _ _ _ _ _ _ _ _)
   | (with_reducible exact ih5 _ _ _ _ _ _ _ _ _ _)
   | (with_reducible exact dominator_Frontier.mono _ _ _)
   | (with_reducible exact dominator_Tree.mono _ _ _)
   | (with_reducible exact ontimelaw25_next.mono _ _ _)
   | (with_reducible exact ontimeref25_In.mono _ _ _)
   | (with_reducible exact ontimeref25_Reach.mono _ _ _)
   | (with_reducible exact LeO.refl _)
   | (with_reducible exact LeO.none _)
   | (with_reducible refine LeO.ite ?_ ?_)
   | (with_reducible refine LeO.bind ?_ (fun _ => ?_))
   | exact ih0 _ _ _ _ _
   | exact ih1 _ _ _ _ _
   | exact ih2 _ _ _ _ _ _
   | exact ih3 _ _ _ _ _ _ _
   | exact ih4 _ _ _ _ _ _ _ _ _
   | exact ih5 _ _ _ _ _ _ _ _ _ _
   | exact dominator_Frontier.mono _ _ _
   | exact dominator_Tree.mono _ _ _
   | exact ontimelaw25_next.mono _ _ _
   | exact ontimeref25_In.mono _ _ _
   | exact ontimeref25_Reach.mono _ _ _
   | exact LeO.none _
   | refine LeO.ite ?_ ?_
   | refine LeO.bind ?_ (fun _ => ?_)
  ·intro y0 y1 y2 y3 y4
   unfold ontimelaw25_DominatorJoins.l0
   repeat' first
   | (with_reducible exact ih0 _ _ _ _ _)
   | (with_reducible exact ih1 _ _ _ _ _)
   | (with_reducible exact ih2 _ _ _ _ _ _)
   | (with_reducible exact ih3 _ _ _ _ _ _ _)
   | (with_reducible exact ih4 _ _ _ _ _ _ _ _ _)
   | (with_reducible exact ih5 _ _ _ _ _ _ _ _ _ _)
   | (with_reducible exact dominator_Frontier.mono _ _ _)
   | (with_reducible exact dominator_Tree.mono _ _ _)
   | (with_reducible exact ontimelaw25_next.mono _ _ _)
   | (with_reducible exact ontimeref25_In.mono _ _ _)
   | (with_reducible exact ontimeref25_Reach.mono _ _ _)
   | (with_reducible exact LeO.refl _)
   | (with_reducible exact LeO.none _)
   | (with_reducible refine LeO.ite ?_ ?_)
   | (with_reducible refine LeO.bind ?_ (fun _ => ?_))
   | exact ih0 _ _ _ _ _
   | exact ih1 _ _ _ _ _
   | exact ih2 _ _ _ _ _ _
   | exact ih3 _ _ _ _ _ _ _
   | exact ih4 _ _ _ _ _ _ _ _ _
   | exact ih5 _ _ _ _ _ _ _ _ _ _
   | exact dominator_Frontier.mono _ _ _
   | exact dominator_Tree.mono _ _ _
   | exact ontimelaw25_next.mono _ _ _
   | exact ontimeref25_In.mono _ _ _
   | exact ontimeref25_Reach.mono _ _ _
   | exact LeO.none _
   | refine LeO.ite ?_ ?_
   | refine LeO.bind ?_ (fun _ => ?_)
  ·intro y0 y1 y2 y3 y4 y5
   unfold ontimelaw25_DominatorJoins.l1
   repeat' first
   | (with_reducible exact ih0 _ _ _ _ _)
   | (with_reducible exact ih1 _ _ _ _ _)
   | (with_reducible exact ih2 _ _ _ _ _ _)
   | (with_reducible exact ih3 _ _ _ _ _ _ _)
   | (with_reducible exact ih4 _ _ _ _ _ _ _ _ _)
   | (with_reducible exact ih5 _ _ _ _ _ _ _ _ _ _)
   | (with_reducible exact dominator_Frontier.mono _ _ _)
   | (with_reducible exact dominator_Tree.mono _ _ _)
   | (with_reducible exact ontimelaw25_next.mono _ _ _)
   | (with_reducible exact ontimeref25_In.mono _ _ _)
   | (with_reducible exact ontimeref25_Reach.mono _ _ _)
   | (with_reducible exact LeO.refl _)
   | (with_reducible exact LeO.none _)
   | (with_reducible refine LeO.ite ?_ ?_)
   | (with_reducible refine LeO.bind ?_ (fun _ => ?_))
   | exact ih0 _ _ _ _ _
   | exact ih1 _ _ _ _ _
   | exact ih2 _ _ _ _ _ _
   | exact ih3 _ _ _ _ _ _ _
   | exact ih4 _ _ _ _ _ _ _ _ _
   | exact ih5 _ _ _ _ _ _ _ _ _ _
   | exact dominator_Frontier.mono _ _ _
   | exact dominator_Tree.mono _ _ _
   | exact ontimelaw25_next.mono _ _ _
   | exact ontimeref25_In.mono _ _ _
   | exact ontimeref25_Reach.mono _ _ _
   | exact LeO.none _
   | refine LeO.ite ?_ ?_
   | refine LeO.bind ?_ (fun _ => ?_)
  ·intro y0 y1 y2 y3 y4 y5 y6
   unfold ontimelaw25_DominatorJoins.j3
   repeat' first
   | (with_reducible exact ih0 _ _ _ _ _)
   | (with_reducible exact ih1 _ _ _ _ _)
   | (with_reducible exact ih2 _ _ _ _ _ _)
   | (with_reducible exact ih3 _ _ _ _ _ _ _)
   | (with_reducible exact ih4 _ _ _ _ _ _ _ _ _)
   | (with_reducible exact ih5 _ _ _ _ _ _ _ _ _ _)
   | (with_reducible exact dominator_Frontier.mono _ _ _)
   | (with_reducible exact dominator_Tree.mono _ _ _)
   | (with_reducible exact ontimelaw25_next.mono _ _ _)
   | (with_reducible exact ontimeref25_In.mono _ _ _)
   | (with_reducible exact ontimeref25_Reach.mono _ _ _)
   | (with_reducible exact LeO.refl _)
   | (with_reducible exact LeO.none _)
   | (with_reducible refine LeO.ite ?_ ?_)
   | (with_reducible refine LeO.bind ?_ (fun _ => ?_))
   | exact ih0 _ _ _ _ _
   | exact ih1 _ _ _ _ _
   | exact ih2 _ _ _ _ _ _
   | exact ih3 _ _ _ _ _ _ _
   | exact ih4 _ _ _ _ _ _ _ _ _
   | exact ih5 _ _ _ _ _ _ _ _ _ _
   | exact dominator_Frontier.mono _ _ _
   | exact dominator_Tree.mono _ _ _
   | exact ontimelaw25_next.mono _ _ _
   | exact ontimeref25_In.mono _ _ _
   | exact ontimeref25_Reach.mono _ _ _
   | exact LeO.none _
   | refine LeO.ite ?_ ?_
   | refine LeO.bind ?_ (fun _ => ?_)
  ·intro y0 y1 y2 y3 y4 y5 y6 y7 y8
   unfold ontimelaw25_DominatorJoins.l2
   repeat' first
   | (with_reducible exact ih0 _ _ _ _ _)
   | (with_reducible exact ih1 _ _ _ _ _)
   | (with_reducible exact ih2 _ _ _ _ _ _)
   | (with_reducible exact ih3 _ _ _ _ _ _ _)
   | (with_reducible exact ih4 _ _ _ _ _ _ _ _ _)
   | (with_reducible exact ih5 _ _ _ _ _ _ _ _ _ _)
   | (with_reducible exact dominator_Frontier.mono _ _ _)
   | (with_reducible exact dominator_Tree.mono _ _ _)
   | (with_reducible exact ontimelaw25_next.mono _ _ _)
   | (with_reducible exact ontimeref25_In.mono _ _ _)
   | (with_reducible exact ontimeref25_Reach.mono _ _ _)
   | (with_reducible exact LeO.refl _)
   | (with_reducible exact LeO.none _)
   | (with_reducible refine LeO.ite ?_ ?_)
   | (with_reducible refine LeO.bind ?_ (fun _ => ?_))
   | exact ih0 _ _ _ _ _
   | exact ih1 _ _ _ _ _
   | exact ih2 _ _ _ _ _ _
   | exact ih3 _ _ _ _ _ _ _
   | exact ih4 _ _ _ _ _ _ _ _ _
   | exact ih5 _ _ _ _ _ _ _ _ _ _
   | exact dominator_Frontier.mono _ _ _
   | exact dominator_Tree.mono _ _ _
   | exact ontimelaw25_next.mono _ _ _
   | exact ontimeref25_In.mono _ _ _
   | exact ontimeref25_Reach.mono _ _ _
   | exact LeO.none _
   | refine LeO.ite ?_ ?_
   | refine LeO.bind ?_ (fun _ => ?_)
  ·intro y0 y1 y2 y3 y4 y5 y6 y7 y8 y9
   unfold ontimelaw25_DominatorJoins.j5
   repeat' first
   | (with_reducible exact ih0 _ _ _ _ _)
   | (with_reducible exact ih1 _ _ _ _ _)
   | (with_reducible exact ih2 _ _ _ _ _ _)
   | (with_reducible exact ih3 _ _ _ _ _ _ _)
   | (with_reducible exact ih4 _ _ _ _ _ _ _ _ _)
   | (with_reducible exact ih5 _ _ _ _ _ _ _ _ _ _)
   | (with_reducible exact dominator_Frontier.mono _ _ _)
   | (with_reducible exact dominator_Tree.mono _ _ _)
   | (with_reducible exact ontimelaw25_next.mono _ _ _)
   | (with_reducible exact ontimeref25_In.mono _ _ _)
   | (with_reducible exact ontimeref25_Reach.mono _ _ _)
   | (with_reducible exact LeO.refl _)
   | (with_reducible exact LeO.none _)
   | (with_reducible refine LeO.ite ?_ ?_)
   | (with_reducible refine LeO.bind ?_ (fun _ => ?_))
   | exact ih0 _ _ _ _ _
   | exact ih1 _ _ _ _ _
   | exact ih2 _ _ _ _ _ _
   | exact ih3 _ _ _ _ _ _ _
   | exact ih4 _ _ _ _ _ _ _ _ _
   | exact ih5 _ _ _ _ _ _ _ _ _ _
   | exact dominator_Frontier.mono _ _ _
   | exact dominator_Tree.mono _ _ _
   | exact ontimelaw25_next.mono _ _ _
   | exact ontimeref25_In.mono _ _ _
   | exact ontimeref25_Reach.mono _ _ _
   | exact LeO.none _
   | refine LeO.ite ?_ ?_
   | refine LeO.bind ?_ (fun _ => ?_)
theorem ontimelaw25_DominatorJoins.mono : ∀ a0 a1 k, LeO (ontimelaw25_DominatorJoins.f k a0 a1) (ontimelaw25_DominatorJoins.f (k + 1) a0 a1) := by
 intro a0 a1 k
 obtain ⟨ih0, ih1, ih2, ih3, ih4, ih5⟩ := ontimelaw25_DominatorJoins.mono_l k
 unfold ontimelaw25_DominatorJoins.f
 repeat' first
   | (with_reducible exact ih0 _ _ _ _ _)
   | (with_reducible exact ih1 _ _ _ _ _)
   | (with_reducible exact ih2 _ _ _ _ _ _)
   | (with_reducible exact ih3 _ _ _ _ _ _ _)
   | (with_reducible exact ih4 _ _ _ _ _ _ _ _ _)
   | (with_reducible exact ih5 _ _ _ _ _ _ _ _ _ _)
   | (with_reducible exact dominator_Frontier.mono _ _ _)
   | (with_reducible exact dominator_Tree.mono _ _ _)
   | (with_reducible exact ontimelaw25_next.mono _ _ _)
   | (with_reducible exact ontimeref25_In.mono _ _ _)
   | (with_reducible exact ontimeref25_Reach.mono _ _ _)
   | (with_reducible exact LeO.refl _)
   | (with_reducible exact LeO.none _)
   | (with_reducible refine LeO.ite ?_ ?_)
   | (with_reducible refine LeO.bind ?_ (fun _ => ?_))
   | exact ih0 _ _ _ _ _
   | exact ih1 _ _ _ _ _
   | exact ih2 _ _ _ _ _ _
   | exact ih3 _ _ _ _ _ _ _
   | exact ih4 _ _ _ _ _ _ _ _ _
   | exact ih5 _ _ _ _ _ _ _ _ _ _
   | exact dominator_Frontier.mono _ _ _
   | exact dominator_Tree.mono _ _ _
   | exact ontimelaw25_next.mono _ _ _
   | exact ontimeref25_In.mono _ _ _
   | exact ontimeref25_Reach.mono _ _ _
   | exact LeO.none _
   | refine LeO.ite ?_ ?_
   | refine LeO.bind ?_ (fun _ => ?_)
def ontimelaw25_DominatorJoins.T6 : Bool × List (List Nat × List Nat) := (true, [([], []), ([0], [0]), ([], []), ([2, 1], [2]), ([], []), ([4, 3], [4]), ([1, 5, 0, 1], [1]), ([3, 6, 0, 1, 2, 3, 6], [3]), ([5, 7, 0, 1, 2, 3, 4, 5, 6, 7], [5])])
def ontimelaw25_DominatorJoins.B6 : List Nat := [0, 1, 0, 7, 0, 31, 63, 127, 255]
theorem ontimelaw25_DominatorJoins.tab6 : rtab .any (opsOf Try.f9 6) = ontimelaw25_DominatorJoins.T6 := by kernel_rfl
theorem ontimelaw25_DominatorJoins.bits6 : waitsOk ontimelaw25_DominatorJoins.T6.2 ontimelaw25_DominatorJoins.B6 = true := by kernel_rfl
set_option maxHeartbeats 8000000 in
set_option maxRecDepth 100000 in
theorem ontimelaw25_DominatorJoins.calls (k : Nat) (A0_0 : Option Addr) (c0_0 : Nat) (l0_0 : List (S46)) (A0_1 : Option Addr) (c0_1 : Nat) (l0_1 : List (List Int)) (r : Bool) (w : World) (hr0_0 : Kd.C k46 w A0_0 l0_0.length l0_0) (hc0_0 : l0_0.length ≤ c0_0) (hr0_1 : Kd.C (Kd.slice 3 (Kd.int .i64)) w A0_1 l0_1.length l0_1) (hc0_1 : l0_1.length ≤ c0_1) (h : ontimelaw25_DominatorJoins.f k l0_0 l0_1 = some r) :
  Calls Try.prog 9 #[.agg #[.slice A0_0 l0_0.length c0_0, .slice A0_1 l0_1.length c0_1]] w fun e w' => e = .returned (.bool r) ∧ Below w.heap.size w w' := by
 have hu25 := Try.underlying25
 have HR0_0 := Aside0.mk hr0_0
 have HC0_0 := Aside0.mk hc0_0
 clear hr0_0 hc0_0
 have HR0_1 := Aside0.mk hr0_1
 have HC0_1 := Aside0.mk hc0_1
 clear hr0_1 hc0_1
 have HB := Aside0.mk (Below.refl w.heap.size w)
 have H : ((ontimelaw25_awake.f).bind fun t307 => (if t307 = true then ((ontimelaw25_next.f k l0_0 l0_1).bind fun bt308 => (if bt308.2 = true then ((dominator_Frontier.f k l0_0 l0_1).bind fun t312 => ((dominator_Tree.f k l0_0 l0_1).bind fun t315 => ((ontimeref25_Reach.f k bt308.1 (-1)).bind fun t318 => (if (t312.length : Int) = (bt308.1.length : Int) then (ontimelaw25_DominatorJoins.j0 k bt308.1 t312 t315 t318 ((t315.length : Int) != (bt308.1.length : Int))) else (ontimelaw25_DominatorJoins.j0 k bt308.1 t312 t315 t318 true))))) else (some true))) else (some false))) = some r := h
 clear h
 replace H := Option.bind_eq_some_iff.mp H
 obtain ⟨t307, A20, H⟩ := H
 replace H : (if t307 = true then ((ontimelaw25_next.f k l0_0 l0_1).bind fun bt308 => (if bt308.2 = true then ((dominator_Frontier.f k l0_0 l0_1).bind fun t312 => ((dominator_Tree.f k l0_0 l0_1).bind fun t315 => ((ontimeref25_Reach.f k bt308.1 (-1)).bind fun t318 => (if (t312.length : Int) = (bt308.1.length : Int) then (ontimelaw25_DominatorJoins.j0 k bt308.1 t312 t315 t318 ((t315.length : Int) != (bt308.1.length : Int))) else (ontimelaw25_DominatorJoins.j0 k bt308.1 t312 t315 t318 true))))) else (some true))) else (some false)) = some r := H
 have A2 := Aside0.mk A20
 clear A20
 by_cases c3 : t307 = true
 ·subst c3
  have H1 : ((ontimelaw25_next.f k l0_0 l0_1).bind fun bt308 => (if bt308.2 = true then ((dominator_Frontier.f k l0_0 l0_1).bind fun t312 => ((dominator_Tree.f k l0_0 l0_1).bind fun t315 => ((ontimeref25_Reach.f k bt308.1 (-1)).bind fun t318 => (if (t312.length : Int) = (bt308.1.length : Int) then (ontimelaw25_DominatorJoins.j0 k bt308.1 t312 t315 t318 ((t315.length : Int) != (bt308.1.length : Int))) else (ontimelaw25_DominatorJoins.j0 k bt308.1 t312 t315 t318 true))))) else (some true))) = some r := by rw [if_pos rfl] at H; exact H
  clear H
  have H := H1
  clear H1
  replace H := Option.bind_eq_some_iff.mp H
  obtain ⟨⟨t308, t311⟩, A40, H⟩ := H
  replace H : (if t311 = true then ((dominator_Frontier.f k l0_0 l0_1).bind fun t312 => ((dominator_Tree.f k l0_0 l0_1).bind fun t315 => ((ontimeref25_Reach.f k t308 (-1)).bind fun t318 => (if (t312.length : Int) = (t308.length : Int) then (ontimelaw25_DominatorJoins.j0 k t308 t312 t315 t318 ((t315.length : Int) != (t308.length : Int))) else (ontimelaw25_DominatorJoins.j0 k t308 t312 t315 t318 true))))) else (some true)) = some r := H
  have A4 := Aside0.mk A40
  clear A40
  by_cases c5 : t311 = true
  ·subst c5
   have H1 : ((dominator_Frontier.f k l0_0 l0_1).bind fun t312 => ((dominator_Tree.f k l0_0 l0_1).bind fun t315 => ((ontimeref25_Reach.f k t308 (-1)).bind fun t318 => (if (t312.length : Int) = (t308.length : Int) then (ontimelaw25_DominatorJoins.j0 k t308 t312 t315 t318 ((t315.length : Int) != (t308.length : Int))) else (ontimelaw25_DominatorJoins.j0 k t308 t312 t315 t318 true))))) = some r := by rw [if_pos rfl] at H; exact H
   clear H
   have H := H1
   clear H1
   replace H := Option.bind_eq_some_iff.mp H
   obtain ⟨t312, A60, H⟩ := H
   replace H : ((dominator_Tree.f k l0_0 l0_1).bind fun t315 => ((ontimeref25_Reach.f k t308 (-1)).bind fun t318 => (if (t312.length : Int) = (t308.length : Int) then (ontimelaw25_DominatorJoins.j0 k t308 t312 t315 t318 ((t315.length : Int) != (t308.length : Int))) else (ontimelaw25_DominatorJoins.j0 k t308 t312 t315 t318 true)))) = some r := H
   have A6 := Aside0.mk A60
   clear A60
   replace H := Option.bind_eq_some_iff.mp H
   obtain ⟨t315, A70, H⟩ := H
   replace H : ((ontimeref25_Reach.f k t308 (-1)).bind fun t318 => (if (t312.length : Int) = (t308.length : Int) then (ontimelaw25_DominatorJoins.j0 k t308 t312 t315 t318 ((t315.length : Int) != (t308.length : Int))) else (ontimelaw25_DominatorJoins.j0 k t308 t312 t315 t318 true))) = some r := H
   have A7 := Aside0.mk A70
   clear A70
   replace H := Option.bind_eq_some_iff.mp H
   obtain ⟨t318, A80, H⟩ := H
   replace H : (if (t312.length : Int) = (t308.length : Int) then (ontimelaw25_DominatorJoins.j0 k t308 t312 t315 t318 ((t315.length : Int) != (t308.length : Int))) else (ontimelaw25_DominatorJoins.j0 k t308 t312 t315 t318 true)) = some r := H
   have A8 := Aside0.mk A80
   clear A80
   have HC9 := Aside0.mk H
   clear H
   go_enter Try.func9, Try.ntmps9
   try go_wp2_with (first | ((with_reducible refine gate_dst (N := 1) rfl ?_); (try (refine gate_guard (by rfl) ?_; dsimp only)); refine box_event ?hg (N := 1) ?hd (cs := #[.slice A0_0 l0_0.length c0_0, .slice A0_1 l0_1.length c0_1]) (t := 25) ?hr ?_; (case hd => rfl); (case hg => rfl); (case hr => first | (go_simp; done) | (go_simp; rfl)); intro gb306 hg w10 hbox hb; have n0_ := Aside0.mk (below_step (by repeat (first | (with_reducible first | exact HB.out | apply below_alloc | apply pw_below_drewN | apply below_drew1) | exact HB.out)) hb); have n1_ := Aside0.mk (hbox); have n2_ := Aside0.mk ((by rw [hg]; exact (below_size (by repeat (first | (with_reducible first | exact HB.out | apply below_alloc | apply pw_below_drewN | apply below_drew1) | exact HB.out))) : w.heap.size ≤ gb306)); have n3_ := Aside0.mk ((by rw [hg]; exact (below_size (by repeat (first | (with_reducible first | exact HB.out | apply below_alloc | apply pw_below_drewN | apply below_drew1) | exact HB.out))) : w.heap.size ≤ gb306)); clear HB; have HB := n0_; have BK306 := n1_; have GW306 := n2_; have GE306 := n3_; clear n0_ n1_ n2_ n3_; clear hb hbox hg) | ((with_reducible refine gate_callee (f := 12) rfl ?_); refine goesL_ (some 13) rfl rfl Try.func12 (by kernel_rfl) rfl #[] rfl (by (try simp only [List.map_toArray, List.map_cons, List.map_nil]); first | done | rfl | (simp only [List.length_drop, List.length_take]; rfl)) ?_; (with_reducible refine (ontimelaw25_awake.calls  true _ A2.out).mono ?_); rintro e w11 ⟨rfl, hb⟩; refine ⟨_, rfl, ?_⟩; have n0_ := Aside0.mk (blk_below (g := gb306) (o := .cells #[.slice A0_0 l0_0.length c0_0, .slice A0_1 l0_1.length c0_1] 25 (0, 0)) (by (with_reducible repeat (first | refine blk_drewN ?_ _ | refine blk_drew ?_ | refine blk_alloc ?_ _)); exact BK306.out) hb); have n1_ := Aside0.mk (below_step (by repeat (first | (with_reducible first | exact HB.out | apply below_alloc | apply pw_below_drewN | apply below_drew1 | refine below_set ?_ GE306.out) | exact HB.out)) hb); clear BK306; clear HB; have BK306 := n0_; have HB := n1_; clear n0_ n1_; (try clear hb); (try clear hb2); (try clear hk); (try clear hi); have hcz12_0 : w11.cell? ⟨gb306, 0, none⟩ = some (.slice A0_0 l0_0.length c0_0) := (blk_cell BK306.out 0).trans rfl; have hcz12_1 : w11.cell? ⟨gb306, 1, none⟩ = some (.slice A0_1 l0_1.length c0_1) := (blk_cell BK306.out 1).trans rfl; have hfz12_0 := blk_frozen BK306.out 0; have hfz12_1 := blk_frozen BK306.out 1) | ((with_reducible refine gate_callee (f := 13) rfl ?_); refine goesL_ (some 17) rfl rfl Try.func13 (by kernel_rfl) rfl #[.agg #[.slice A0_0 l0_0.length c0_0, .slice A0_1 l0_1.length c0_1]] rfl (by (try simp only [List.map_toArray, List.map_cons, List.map_nil]); first | done | rfl | (simp only [List.length_drop, List.length_take]; rfl)) ?_; (with_reducible refine (ontimelaw25_next.calls k (fun k_ => k_ < w.heap.size) _ _ l0_0 _ _ l0_1 t308 true _ ?side1 ?side2 ?side3 A4.out).mono ?_); (case side1 => exact Kd.V_mk HC0_0.out (Kd.F_below (Kd.C_F k46_heap HR0_0.out) (by repeat (first | (with_reducible first | exact HB.out | apply below_alloc | apply pw_below_drewN | apply below_drew1 | refine below_set ?_ GE306.out) | exact HB.out)))); (case side2 => repeat (first | exact (Kd.C_below HR0_1.out HB.out) | (with_reducible refine Kd.C_alloc ?_ _) | (with_reducible refine Kd.C_drewN ?_ _) | (with_reducible refine Kd.C_drew ?_))); (case side3 => exact HC0_1.out); rintro e w13 ⟨v309, rfl, ho0, hb⟩; refine ⟨_, rfl, ?_⟩; have n0_ := Aside0.mk (Kd.N_lower (Kd.N_mono (ok' := fun k_ => k_ ≠ gb306) ho0 (fun k_ hk_ => Or.elim hk_ (fun hs_ => fun e_ => Nat.not_le.2 hs_ (by rw [e_]; exact GW306.out)) (fun hn_ => (Kd.freshB (g := gb306) (o := .cells #[.slice A0_0 l0_0.length c0_0, .slice A0_1 l0_1.length c0_1] 25 (0, 0)) (by (with_reducible repeat (first | refine blk_drewN ?_ _ | refine blk_drew ?_ | refine blk_alloc ?_ _)); exact BK306.out) k_ hn_)))) (below_size (by repeat (first | (with_reducible first | exact HB.out | apply below_alloc | apply pw_below_drewN | apply below_drew1 | refine below_set ?_ GE306.out) | exact HB.out)))); have n1_ := Aside0.mk (blk_below (g := gb306) (o := .cells #[.slice A0_0 l0_0.length c0_0, .slice A0_1 l0_1.length c0_1] 25 (0, 0)) (by (with_reducible repeat (first | refine blk_drewN ?_ _ | refine blk_drew ?_ | refine blk_alloc ?_ _)); exact BK306.out) hb); have n2_ := Aside0.mk (below_step (by repeat (first | (with_reducible first | exact HB.out | apply below_alloc | apply pw_below_drewN | apply below_drew1 | refine below_set ?_ GE306.out) | exact HB.out)) hb); clear BK306; clear HB; have HO310 := n0_; have BK306 := n1_; have HB := n2_; clear n0_ n1_ n2_; (try clear hb); (try clear hb2); (try clear hk); (try clear hi); (try clear ho0)))
   have n0_ := Aside0.mk (Kd.N_drew HO310.out)
   have n1_ := Aside0.mk (blk_drew BK306.out)
   have n2_ := Aside0.mk (below_drew1 HB.out)
   clear HO310
   clear BK306
   clear HB
   have HO310 := n0_
   have BK306 := n1_
   have HB := n2_
   clear n0_ n1_ n2_
   refine start_ (n := 9) (S := fun w' => w'.cell? ⟨gb306, 0, none⟩ = some (.slice A0_0 l0_0.length c0_0) ∧ w'.cell? ⟨gb306, 1, none⟩ = some (.slice A0_1 l0_1.length c0_1)) (ds := []) #[false, false, false, false, false, false, false, false, false] (by kernel_rfl) rfl rfl ⟨(blk_cell BK306.out 0).trans rfl, (blk_cell BK306.out 1).trans rfl⟩ (fun hHeld => ?_); refine with_tabW ontimelaw25_DominatorJoins.tab6 ontimelaw25_DominatorJoins.bits6 (fun HT_ HW_ => ?_)
   generalize w13.drew = w14 at HO310 BK306 HB hHeld ⊢
   refine pure_ (i := 4) (N := some 26) (v := ?_) (a' := ?_) #[false, false, false, false, true, false, false, false, false] rfl rfl (any_of HT_.out (by kernel_rfl)) (fun _ _ _ h => h) (Or.inl ⟨by rfl, ?_⟩) ?_ ?_
   rotate_left
   ·intro w'
    go_simp
    with_reducible rfl
   rotate_left
   ·simp only [Act.put, List.setIfInBounds_toArray, List.set_cons_zero, List.set_cons_succ, i64_w, i32_w]
    rfl
   refine take_ (i := 0) (N := some 22) (v := ?_) (a' := ?_) #[true, false, false, false, true, false, false, false, false] rfl rfl (take_ofW HT_.out HW_.out (by kernel_rfl)) (fun _ _ _ h => h) (Or.inl ⟨by rfl, ?_⟩) hHeld ?_ ?_
   rotate_left
   ·rintro w' ⟨s0, s1⟩
    go_simp
    with_reducible rfl
   rotate_left
   ·simp only [Act.put, List.setIfInBounds_toArray, List.set_cons_zero, List.set_cons_succ, i64_w, i32_w]
    rfl
   refine take_ (i := 2) (N := some 24) (v := ?_) (a' := ?_) #[true, false, true, false, true, false, false, false, false] rfl rfl (take_ofW HT_.out HW_.out (by kernel_rfl)) (fun _ _ _ h => h) (Or.inl ⟨by rfl, ?_⟩) hHeld ?_ ?_
   rotate_left
   ·rintro w' ⟨s0, s1⟩
    go_simp
    with_reducible rfl
   rotate_left
   ·simp only [Act.put, List.setIfInBounds_toArray, List.set_cons_zero, List.set_cons_succ, i64_w, i32_w]
    rfl
   refine one_ (i := 1) (N := some 23) #[true, true, true, false, true, false, false, false, false] rfl rfl (one_of HT_.out (by kernel_rfl)) (by decide) (fun K hK => ?_)
   refine goes_ Try.func16 (by kernel_rfl) rfl #[.agg #[.slice A0_0 l0_0.length c0_0, .slice A0_1 l0_1.length c0_1]] (by rfl) rfl rfl (by (try simp only [List.map_toArray, List.map_cons, List.map_nil]); first | done | rfl | (simp only [List.length_drop, List.length_take]; rfl)) ?_
   with_reducible refine (dominator_Frontier.calls k _ _ l0_0 _ _ l0_1 t312 _ ?side1 ?side2 ?side3 ?side4 A6.out).mono ?_
   (case side1 => repeat (first | exact (Kd.C_below HR0_0.out HB.out) | (with_reducible refine Kd.C_alloc ?_ _) | (with_reducible refine Kd.C_drewN ?_ _) | (with_reducible refine Kd.C_drew ?_)))
   (case side2 => exact HC0_0.out)
   (case side3 => repeat (first | exact (Kd.C_below HR0_1.out HB.out) | (with_reducible refine Kd.C_alloc ?_ _) | (with_reducible refine Kd.C_drewN ?_ _) | (with_reducible refine Kd.C_drew ?_)))
   (case side4 => exact HC0_1.out)
   rintro e w15 ⟨v313, rfl, ho0, hb⟩
   refine ⟨_, rfl, ?_⟩
   have n0_ := Aside0.mk (Kd.N_elder' (by (with_reducible repeat (first | apply Kd.N_alloc | apply Kd.N_drewN | apply Kd.N_drew)); exact HO310.out) (by first | exact Kd.N_base ho0 | exact Kd.R_base (Kd.S_R ho0)) hb)
   have n1_ := Aside0.mk (Kd.N_lower (Kd.N_mono (ok' := fun k_ => some k_ ≠ (v309 : Value).ownBlock ∧ k_ ≠ gb306) (Kd.S_N (Kd.S_bound ho0)) (fun k_ hk_ => ⟨(Kd.fresh' (Kd.N_lt (by (with_reducible repeat (first | apply Kd.N_alloc | apply Kd.N_drewN | apply Kd.N_drew)); exact HO310.out)) k_ hk_.2.1), (Kd.freshB (g := gb306) (o := .cells #[.slice A0_0 l0_0.length c0_0, .slice A0_1 l0_1.length c0_1] 25 (0, 0)) (by (with_reducible repeat (first | refine blk_drewN ?_ _ | refine blk_drew ?_ | refine blk_alloc ?_ _)); exact BK306.out) k_ hk_.2.1)⟩)) (below_size (by repeat (first | (with_reducible first | exact HB.out | apply below_alloc | apply pw_below_drewN | apply below_drew1 | refine below_set ?_ GE306.out) | exact HB.out))))
   have n2_ := Aside0.mk (blk_below (g := gb306) (o := .cells #[.slice A0_0 l0_0.length c0_0, .slice A0_1 l0_1.length c0_1] 25 (0, 0)) (by (with_reducible repeat (first | refine blk_drewN ?_ _ | refine blk_drew ?_ | refine blk_alloc ?_ _)); exact BK306.out) hb)
   have n3_ := Aside0.mk (below_step (by repeat (first | (with_reducible first | exact HB.out | apply below_alloc | apply pw_below_drewN | apply below_drew1 | refine below_set ?_ GE306.out) | exact HB.out)) hb)
   clear HO310
   clear BK306
   clear HB
   have HO310 := n0_
   have HO314 := n1_
   have BK306 := n2_
   have HB := n3_
   clear n0_ n1_ n2_ n3_
   (try clear hb)
   (try clear hb2)
   (try clear hk)
   (try clear hi)
   (try clear ho0)
   refine hK.out _ _ ⟨(blk_cell BK306.out 0).trans rfl, (blk_cell BK306.out 1).trans rfl⟩ (fun hHeld => ?_)
   clear hK K
   refine norm_ (a' := ?_) ?_ ?_
   rotate_left
   ·show Act.put _ (some 23) _ = _
    simp only [Act.put, List.setIfInBounds_toArray, List.set_cons_zero, List.set_cons_succ, i64_w, i32_w]
    rfl
   refine one_ (i := 3) (N := some 25) #[true, true, true, true, true, false, false, false, false] rfl rfl (one_of HT_.out (by kernel_rfl)) (by decide) (fun K hK => ?_)
   refine goes_ Try.func14 (by kernel_rfl) rfl #[.agg #[.slice A0_0 l0_0.length c0_0, .slice A0_1 l0_1.length c0_1]] (by rfl) rfl rfl (by (try simp only [List.map_toArray, List.map_cons, List.map_nil]); first | done | rfl | (simp only [List.length_drop, List.length_take]; rfl)) ?_
   with_reducible refine (dominator_Tree.calls k _ _ l0_0 _ _ l0_1 t315 _ ?side1 ?side2 ?side3 ?side4 A7.out).mono ?_
   (case side1 => repeat (first | exact (Kd.C_below HR0_0.out HB.out) | (with_reducible refine Kd.C_alloc ?_ _) | (with_reducible refine Kd.C_drewN ?_ _) | (with_reducible refine Kd.C_drew ?_)))
   (case side2 => exact HC0_0.out)
   (case side3 => repeat (first | exact (Kd.C_below HR0_1.out HB.out) | (with_reducible refine Kd.C_alloc ?_ _) | (with_reducible refine Kd.C_drewN ?_ _) | (with_reducible refine Kd.C_drew ?_)))
   (case side4 => exact HC0_1.out)
   rintro e w16 ⟨v316, rfl, ho0, hb⟩
   refine ⟨_, rfl, ?_⟩
   have n0_ := Aside0.mk (Kd.N_elder' (by (with_reducible repeat (first | apply Kd.N_alloc | apply Kd.N_drewN | apply Kd.N_drew)); exact HO310.out) (Kd.R_base ho0) hb)
   have n1_ := Aside0.mk (Kd.N_elder' (by (with_reducible repeat (first | apply Kd.N_alloc | apply Kd.N_drewN | apply Kd.N_drew)); exact HO314.out) (Kd.R_base ho0) hb)
   have n2_ := Aside0.mk (Kd.R_lower ho0 (below_size (by repeat (first | (with_reducible first | exact HB.out | apply below_alloc | apply pw_below_drewN | apply below_drew1 | refine below_set ?_ GE306.out) | exact HB.out))))
   have n3_ := Aside0.mk (blk_below (g := gb306) (o := .cells #[.slice A0_0 l0_0.length c0_0, .slice A0_1 l0_1.length c0_1] 25 (0, 0)) (by (with_reducible repeat (first | refine blk_drewN ?_ _ | refine blk_drew ?_ | refine blk_alloc ?_ _)); exact BK306.out) hb)
   have n4_ := Aside0.mk (below_step (by repeat (first | (with_reducible first | exact HB.out | apply below_alloc | apply pw_below_drewN | apply below_drew1 | refine below_set ?_ GE306.out) | exact HB.out)) hb)
   clear HO310
   clear HO314
   clear BK306
   clear HB
   have HO310 := n0_
   have HO314 := n1_
   have HO317 := n2_
   have BK306 := n3_
   have HB := n4_
   clear n0_ n1_ n2_ n3_ n4_
   (try clear hb)
   (try clear hb2)
   (try clear hk)
   (try clear hi)
   (try clear ho0)
   obtain ⟨Ao17, co17, eo17⟩ := Kd.N_slice HO310.out
   (first | subst eo17 | (injection eo17 with f1_ f2_ f3_; have f4_ := f1_.symm; have f5_ := f3_.symm; clear f1_ f2_ f3_; subst f4_; subst f5_))
   refine hK.out _ _ ⟨(blk_cell BK306.out 0).trans rfl, (blk_cell BK306.out 1).trans rfl⟩ (fun hHeld => ?_)
   clear hK K
   refine norm_ (a' := ?_) ?_ ?_
   rotate_left
   ·show Act.put _ (some 25) _ = _
    simp only [Act.put, List.setIfInBounds_toArray, List.set_cons_zero, List.set_cons_succ, i64_w, i32_w]
    rfl
   refine one_ (i := 5) (N := some 27) #[true, true, true, true, true, true, false, false, false] rfl rfl (one_of HT_.out (by kernel_rfl)) (by decide) (fun K hK => ?_)
   refine goes_ Try.func20 (by kernel_rfl) rfl #[.slice Ao17 t308.length co17, .int .i64 (-1)] (by rfl) rfl rfl (by (try simp only [List.map_toArray, List.map_cons, List.map_nil]); first | done | rfl | (simp only [List.length_drop, List.length_take]; rfl)) ?_
   with_reducible refine (ontimeref25_Reach.calls k _ _ t308 (-1) t318 _ ?side1 ?side2 A8.out).mono ?_
   (case side1 => repeat (first | exact (Kd.N_reads' HO310.out).2.2 | (with_reducible refine Kd.C_alloc ?_ _) | (with_reducible refine Kd.C_drewN ?_ _) | (with_reducible refine Kd.C_drew ?_)))
   (case side2 => exact (Kd.N_reads' HO310.out).2.1)
   rintro e w18 ⟨v319, rfl, ho0, hb⟩
   refine ⟨_, rfl, ?_⟩
   have n0_ := Aside0.mk (Kd.N_elder' (by (with_reducible repeat (first | apply Kd.N_alloc | apply Kd.N_drewN | apply Kd.N_drew)); exact HO310.out) (Kd.R_base ho0) hb)
   have n1_ := Aside0.mk (Kd.N_elder' (by (with_reducible repeat (first | apply Kd.N_alloc | apply Kd.N_drewN | apply Kd.N_drew)); exact HO314.out) (Kd.R_base ho0) hb)
   have n2_ := Aside0.mk (Kd.R_below (by (with_reducible repeat (first | apply Kd.R_alloc | apply Kd.R_drewN | apply Kd.R_drew)); exact HO317.out) hb)
   have n3_ := Aside0.mk (Kd.R_lower ho0 (below_size (by repeat (first | (with_reducible first | exact HB.out | apply below_alloc | apply pw_below_drewN | apply below_drew1 | refine below_set ?_ GE306.out) | exact HB.out))))
   have n4_ := Aside0.mk (blk_below (g := gb306) (o := .cells #[.slice A0_0 l0_0.length c0_0, .slice A0_1 l0_1.length c0_1] 25 (0, 0)) (by (with_reducible repeat (first | refine blk_drewN ?_ _ | refine blk_drew ?_ | refine blk_alloc ?_ _)); exact BK306.out) hb)
   have n5_ := Aside0.mk (below_step (by repeat (first | (with_reducible first | exact HB.out | apply below_alloc | apply pw_below_drewN | apply below_drew1 | refine below_set ?_ GE306.out) | exact HB.out)) hb)
   clear HO310
   clear HO314
   clear HO317
   clear BK306
   clear HB
   have HO310 := n0_
   have HO314 := n1_
   have HO317 := n2_
   have HO320 := n3_
   have BK306 := n4_
   have HB := n5_
   clear n0_ n1_ n2_ n3_ n4_ n5_
   (try clear hb)
   (try clear hb2)
   (try clear hk)
   (try clear hi)
   (try clear ho0)
   refine hK.out _ _ ⟨(blk_cell BK306.out 0).trans rfl, (blk_cell BK306.out 1).trans rfl⟩ (fun hHeld => ?_)
   clear hK K
   refine norm_ (a' := ?_) ?_ ?_
   rotate_left
   ·show Act.put _ (some 27) _ = _
    simp only [Act.put, List.setIfInBounds_toArray, List.set_cons_zero, List.set_cons_succ, i64_w, i32_w]
    rfl
   refine pure_ (i := 6) (N := some 5) (v := ?_) (a' := ?_) #[true, true, true, true, true, true, true, false, false] rfl rfl (any_of HT_.out (by kernel_rfl)) (fun _ _ _ h => h) (Or.inl ⟨by rfl, ?_⟩) ?_ ?_
   rotate_left
   ·intro w'
    go_simp
    with_reducible rfl
   rotate_left
   ·simp only [Act.put, List.setIfInBounds_toArray, List.set_cons_zero, List.set_cons_succ, i64_w, i32_w]
    rfl
   refine pure_ (i := 7) (N := some 6) (v := ?_) (a' := ?_) #[true, true, true, true, true, true, true, true, false] rfl rfl (any_of HT_.out (by kernel_rfl)) (fun _ _ _ h => h) (Or.inl ⟨by rfl, ?_⟩) ?_ ?_
   rotate_left
   ·intro w'
    go_simp
    with_reducible rfl
   rotate_left
   ·simp only [Act.put, List.setIfInBounds_toArray, List.set_cons_zero, List.set_cons_succ, i64_w, i32_w]
    rfl
   refine pure_ (i := 8) (N := some 7) (v := ?_) (a' := ?_) #[true, true, true, true, true, true, true, true, true] rfl rfl (any_of HT_.out (by kernel_rfl)) (fun _ _ _ h => h) (Or.inl ⟨by rfl, ?_⟩) ?_ ?_
   rotate_left
   ·intro w'
    go_simp
    with_reducible rfl
   rotate_left
   ·simp only [Act.put, List.setIfInBounds_toArray, List.set_cons_zero, List.set_cons_succ, i64_w, i32_w]
    rfl
   refine done_ (done_of HT_.out (by kernel_rfl)) ?_
   go_upto_region 7 with (fail)
   go_cut [39] (fun v39 wc => ∃ (kq : Nat) (x39_8 : Bool), v39 = .bool x39_8 ∧ Aside0 (ontimelaw25_DominatorJoins.j0 kq t308 t312 t315 t318 x39_8 = some r) ∧ Aside0 (kq ≤ k) ∧ Aside0 (Kd.N (Kd.slice 3 (Kd.int .i64)) 29 wc w.heap.size (fun k_ => some k_ ≠ (v313 : Value).ownBlock ∧ some k_ ≠ (v316 : Value).ownBlock ∧ some k_ ≠ (v319 : Value).ownBlock ∧ k_ ≠ gb306) (.slice Ao17 t308.length co17) t308) ∧ Aside0 (Kd.N (Kd.slice 3 (Kd.int .i64)) 29 wc w.heap.size (fun k_ => some k_ ≠ ((.slice Ao17 t308.length co17) : Value).ownBlock ∧ some k_ ≠ (v316 : Value).ownBlock ∧ some k_ ≠ (v319 : Value).ownBlock ∧ k_ ≠ gb306) v313 t312) ∧ Aside0 (Kd.R (Kd.int .i64) 3 wc w.heap.size (fun _ => True) v316 t315) ∧ Aside0 (Kd.R Kd.bool 4 wc w.heap.size (fun _ => True) v319 t318) ∧ Aside0 (wc.heap[gb306]? = some (.cells #[(.slice A0_0 l0_0.length c0_0), (.slice A0_1 l0_1.length c0_1)] 25 (0, 0))) ∧ Aside0 (Below w.heap.size w wc))
   case first =>
    have H := HC9.out
    clear HC9
    by_cases c19 : (t312.length : Int) = (t308.length : Int)
    ·rw [if_pos c19] at H
     have c19b0 : ((t312.length : Int) == (t308.length : Int)) = true := beq_iff_eq.mpr c19
     have c19b1 : ((t312.length : Int) != (t308.length : Int)) = false := bne_eq_false_iff_eq.mpr c19
     have c19b2 : (t312.length == t308.length) = true := by first | simpa using c19 | (simp at c19 ⊢; omega)
     clear c19
     (first | rw [c19b0] | (simp only [i64_w, i32_w]; rw [c19b0]) | skip)
     have H' := Aside0.mk H
     clear H
     obtain ⟨Ao20, co20, eo20⟩ := Kd.N_slice HO314.out
     subst eo20
     obtain ⟨Ao21, co21, eo21⟩ := Kd.R_slice HO317.out
     subst eo21
     go_wp2
     go_meet
     case rel => exact ⟨_, (((t315.length : Int) != (t308.length : Int))), (by first | rfl | (simp; done) | (simp [*]; done)), H', ⟨by first | omega | exact Nat.le_refl _⟩, ⟨by (with_reducible repeat (first | apply Kd.N_alloc | apply Kd.N_drewN | apply Kd.N_drew)); exact Kd.N_mono HO310.out (fun _ hk => ⟨hk.1.1.2, ⟨hk.1.2, ⟨hk.2, hk.1.1.1⟩⟩⟩)⟩, ⟨by (with_reducible repeat (first | apply Kd.N_alloc | apply Kd.N_drewN | apply Kd.N_drew)); exact Kd.N_mono HO314.out (fun _ hk => ⟨hk.1.1.1, ⟨hk.1.2, ⟨hk.2, hk.1.1.2⟩⟩⟩)⟩, ⟨by (with_reducible repeat (first | apply Kd.R_alloc | apply Kd.R_drewN | apply Kd.R_drew)); exact HO317.out⟩, ⟨by (with_reducible repeat (first | apply Kd.R_alloc | apply Kd.R_drewN | apply Kd.R_drew)); exact HO320.out⟩, ⟨by (with_reducible repeat (first | refine blk_drewN ?_ _ | refine blk_drew ?_ | refine blk_alloc ?_ _)); exact BK306.out⟩, ⟨by repeat (first | (with_reducible first | exact HB.out | apply below_alloc | apply pw_below_drewN | apply below_drew1 | refine below_set ?_ GE306.out) | exact HB.out)⟩⟩
    ·rw [if_neg c19] at H
     have c19b0 : ((t312.length : Int) == (t308.length : Int)) = false := beq_eq_false_iff_ne.mpr c19
     have c19b1 : ((t312.length : Int) != (t308.length : Int)) = true := bne_iff_ne.mpr c19
     have c19b2 : (t312.length == t308.length) = false := by first | simpa using c19 | (simp at c19 ⊢; omega)
     (first | rw [c19b0] | (simp only [i64_w, i32_w]; rw [c19b0]) | skip)
     have H' := Aside0.mk H
     clear H
     obtain ⟨Ao22, co22, eo22⟩ := Kd.N_slice HO314.out
     subst eo22
     go_wp2
     go_meet
     case rel => exact ⟨_, (true), (by first | rfl | (simp; done) | (simp [*]; done)), H', ⟨by first | omega | exact Nat.le_refl _⟩, ⟨by (with_reducible repeat (first | apply Kd.N_alloc | apply Kd.N_drewN | apply Kd.N_drew)); exact Kd.N_mono HO310.out (fun _ hk => ⟨hk.1.1.2, ⟨hk.1.2, ⟨hk.2, hk.1.1.1⟩⟩⟩)⟩, ⟨by (with_reducible repeat (first | apply Kd.N_alloc | apply Kd.N_drewN | apply Kd.N_drew)); exact Kd.N_mono HO314.out (fun _ hk => ⟨hk.1.1.1, ⟨hk.1.2, ⟨hk.2, hk.1.1.2⟩⟩⟩)⟩, ⟨by (with_reducible repeat (first | apply Kd.R_alloc | apply Kd.R_drewN | apply Kd.R_drew)); exact HO317.out⟩, ⟨by (with_reducible repeat (first | apply Kd.R_alloc | apply Kd.R_drewN | apply Kd.R_drew)); exact HO320.out⟩, ⟨by (with_reducible repeat (first | refine blk_drewN ?_ _ | refine blk_drew ?_ | refine blk_alloc ?_ _)); exact BK306.out⟩, ⟨by repeat (first | (with_reducible first | exact HB.out | apply below_alloc | apply pw_below_drewN | apply below_drew1 | refine below_set ?_ GE306.out) | exact HB.out)⟩⟩
   case rest =>
    clear HC9
    try clear c1
    try clear c2
    try clear p2
    try clear c3
    try clear c5
    try clear c9
    try clear c12
    try clear c13
    try clear c14
    try clear c16
    try clear c19
    try clear c19b0
    try clear c19b1
    try clear c19b2
    try clear c20
    try clear hcz12_0
    try clear hcz12_1
    try clear hfz12_0
    try clear hfz12_1
    obtain ⟨kq, x39_8, rfl, HA, HJ8, HO_3, HO_5, HO_6, HO_7, BK306, HB⟩ := hcut
    cases kq with
    | zero => exact absurd HA.out (by simp [ontimelaw25_DominatorJoins.j0])
    | succ kj8 =>
     have H := HA.out
     clear HA
     simp only [ontimelaw25_DominatorJoins.j0] at H
     by_cases c23 : x39_8 = true
     ·subst c23
      have H1 : (some false) = some r := by rw [if_pos rfl] at H; exact H
      clear H
      have H := H1
      clear H1
      obtain rfl := Option.some.inj H
      go_wp2
      go_ret
      exact ⟨by first | rfl | (simp [errW_none, errW_some] <;> rfl) | (simp [*, errW_none, errW_some] <;> rfl), by repeat (first | (with_reducible first | exact HB.out | apply below_alloc | apply pw_below_drewN | apply below_drew1 | refine below_set ?_ GE306.out) | exact HB.out)⟩
     ·replace c23 := Bool.eq_false_iff.mpr c23
      subst c23
      have H1 : (ontimelaw25_DominatorJoins.l0 kj8 t308 t312 t315 t318 0) = some r := by rw [if_neg (show ¬ (false = true) by decide)] at H; exact H
      clear H
      have H := H1
      clear H1
      have H' := Aside0.mk H
      clear H
      go_wp2
      go_loopg [8] kj8 (fun kq v8 w' => ∃ (x8_2 : Int), v8 = .int .i64 x8_2 ∧ Aside0 (ontimelaw25_DominatorJoins.l0 kq t308 t312 t315 t318 x8_2 = some r) ∧ Aside0 (kq ≤ kj8) ∧ Aside0 (Kd.N (Kd.slice 3 (Kd.int .i64)) 29 w' w.heap.size (fun k_ => some k_ ≠ (v313 : Value).ownBlock ∧ some k_ ≠ (v316 : Value).ownBlock ∧ some k_ ≠ (v319 : Value).ownBlock ∧ k_ ≠ gb306) (.slice Ao17 t308.length co17) t308) ∧ Aside0 (Kd.N (Kd.slice 3 (Kd.int .i64)) 29 w' w.heap.size (fun k_ => some k_ ≠ ((.slice Ao17 t308.length co17) : Value).ownBlock ∧ some k_ ≠ (v316 : Value).ownBlock ∧ some k_ ≠ (v319 : Value).ownBlock ∧ k_ ≠ gb306) v313 t312) ∧ Aside0 (Kd.R (Kd.int .i64) 3 w' w.heap.size (fun _ => True) v316 t315) ∧ Aside0 (Kd.R Kd.bool 4 w' w.heap.size (fun _ => True) v319 t318) ∧ Aside0 (w'.heap[gb306]? = some (.cells #[(.slice A0_0 l0_0.length c0_0), (.slice A0_1 l0_1.length c0_1)] 25 (0, 0))) ∧ Aside0 (Below w.heap.size w w'))
      case atStart => exact ⟨(0), (by first | rfl | (simp; done) | (simp [*]; done)), H', ⟨Nat.le_refl _⟩, ⟨by (with_reducible repeat (first | apply Kd.N_alloc | apply Kd.N_drewN | apply Kd.N_drew)); exact HO_3.out⟩, ⟨by (with_reducible repeat (first | apply Kd.N_alloc | apply Kd.N_drewN | apply Kd.N_drew)); exact HO_5.out⟩, ⟨by (with_reducible repeat (first | apply Kd.R_alloc | apply Kd.R_drewN | apply Kd.R_drew)); exact HO_6.out⟩, ⟨by (with_reducible repeat (first | apply Kd.R_alloc | apply Kd.R_drewN | apply Kd.R_drew)); exact HO_7.out⟩, ⟨by (with_reducible repeat (first | refine blk_drewN ?_ _ | refine blk_drew ?_ | refine blk_alloc ?_ _)); exact BK306.out⟩, ⟨by repeat (first | (with_reducible first | exact HB.out | apply below_alloc | apply pw_below_drewN | apply below_drew1 | refine below_set ?_ GE306.out) | exact HB.out)⟩⟩
      case round =>
       clear H'
       try clear c1
       try clear c2
       try clear p2
       try clear c3
       try clear c5
       try clear c9
       try clear c12
       try clear c13
       try clear c14
       try clear c16
       try clear c19
       try clear c19b0
       try clear c19b1
       try clear c19b2
       try clear c20
       try clear c23
       try clear hcz12_0
       try clear hcz12_1
       try clear hfz12_0
       try clear hfz12_1
       try clear p2
       obtain ⟨x8_2, rfl, HA, HK2, HO_3, HO_5, HO_6, HO_7, BK306, HB⟩ := hrel
       cases gk with
       | zero => exact absurd HA.out (by simp [ontimelaw25_DominatorJoins.l0])
       | succ k2 =>
        have H := HA.out
        clear HA
        simp only [ontimelaw25_DominatorJoins.l0] at H
        by_cases c24 : x8_2 < (t308.length : Int)
        ·rw [if_pos c24] at H
         have c24b0 : decide (x8_2 < (t308.length : Int)) = true := decide_eq_true c24
         clear c24
         have H' := Aside0.mk H
         clear H
         go_wp2
         go_loopg [9] k2 (fun kq v9 w' => ∃ (x9_3 : Int), v9 = .int .i64 x9_3 ∧ Aside0 (ontimelaw25_DominatorJoins.l1 kq t308 t312 t315 t318 x8_2 x9_3 = some r) ∧ Aside0 (kq ≤ k2) ∧ Aside0 (Kd.N (Kd.slice 3 (Kd.int .i64)) 29 w' w.heap.size (fun k_ => some k_ ≠ (v313 : Value).ownBlock ∧ some k_ ≠ (v316 : Value).ownBlock ∧ some k_ ≠ (v319 : Value).ownBlock ∧ k_ ≠ gb306) (.slice Ao17 t308.length co17) t308) ∧ Aside0 (Kd.N (Kd.slice 3 (Kd.int .i64)) 29 w' w.heap.size (fun k_ => some k_ ≠ ((.slice Ao17 t308.length co17) : Value).ownBlock ∧ some k_ ≠ (v316 : Value).ownBlock ∧ some k_ ≠ (v319 : Value).ownBlock ∧ k_ ≠ gb306) v313 t312) ∧ Aside0 (Kd.R (Kd.int .i64) 3 w' w.heap.size (fun _ => True) v316 t315) ∧ Aside0 (Kd.R Kd.bool 4 w' w.heap.size (fun _ => True) v319 t318) ∧ Aside0 (w'.heap[gb306]? = some (.cells #[(.slice A0_0 l0_0.length c0_0), (.slice A0_1 l0_1.length c0_1)] 25 (0, 0))) ∧ Aside0 (Below w.heap.size w w'))
         case atStart => exact ⟨(0), (by first | rfl | (simp; done) | (simp [*]; done)), H', ⟨Nat.le_refl _⟩, ⟨by (with_reducible repeat (first | apply Kd.N_alloc | apply Kd.N_drewN | apply Kd.N_drew)); exact HO_3.out⟩, ⟨by (with_reducible repeat (first | apply Kd.N_alloc | apply Kd.N_drewN | apply Kd.N_drew)); exact HO_5.out⟩, ⟨by (with_reducible repeat (first | apply Kd.R_alloc | apply Kd.R_drewN | apply Kd.R_drew)); exact HO_6.out⟩, ⟨by (with_reducible repeat (first | apply Kd.R_alloc | apply Kd.R_drewN | apply Kd.R_drew)); exact HO_7.out⟩, ⟨by (with_reducible repeat (first | refine blk_drewN ?_ _ | refine blk_drew ?_ | refine blk_alloc ?_ _)); exact BK306.out⟩, ⟨by repeat (first | (with_reducible first | exact HB.out | apply below_alloc | apply pw_below_drewN | apply below_drew1 | refine below_set ?_ GE306.out) | exact HB.out)⟩⟩
         case round =>
          clear H'
          try clear c1
          try clear c2
          try clear p2
          try clear c3
          try clear c5
          try clear c9
          try clear c12
          try clear c13
          try clear c14
          try clear c16
          try clear c19
          try clear c19b0
          try clear c19b1
          try clear c19b2
          try clear c20
          try clear c23
          try clear c24
          try clear c24b0
          try clear hcz12_0
          try clear hcz12_1
          try clear hfz12_0
          try clear hfz12_1
          try clear p2
          obtain ⟨x9_3, rfl, HA, HK3, HO_3, HO_5, HO_6, HO_7, BK306, HB⟩ := hrel
          cases gk with
          | zero => exact absurd HA.out (by simp [ontimelaw25_DominatorJoins.l1])
          | succ k3 =>
           have H := HA.out
           clear HA
           simp only [ontimelaw25_DominatorJoins.l1] at H
           have HC25 := Aside0.mk H
           clear H
           go_upto_region 13 with (fail)
           go_cut [58] (fun v58 wc => ∃ (kq : Nat) (x58_24 : Bool), v58 = .bool x58_24 ∧ Aside0 (ontimelaw25_DominatorJoins.j3 kq t308 t312 t315 t318 x8_2 x9_3 x58_24 = some r) ∧ Aside0 (kq ≤ k3) ∧ Aside0 (Kd.N (Kd.slice 3 (Kd.int .i64)) 29 wc w.heap.size (fun k_ => some k_ ≠ (v313 : Value).ownBlock ∧ some k_ ≠ (v316 : Value).ownBlock ∧ some k_ ≠ (v319 : Value).ownBlock ∧ k_ ≠ gb306) (.slice Ao17 t308.length co17) t308) ∧ Aside0 (Kd.N (Kd.slice 3 (Kd.int .i64)) 29 wc w.heap.size (fun k_ => some k_ ≠ ((.slice Ao17 t308.length co17) : Value).ownBlock ∧ some k_ ≠ (v316 : Value).ownBlock ∧ some k_ ≠ (v319 : Value).ownBlock ∧ k_ ≠ gb306) v313 t312) ∧ Aside0 (Kd.R (Kd.int .i64) 3 wc w.heap.size (fun _ => True) v316 t315) ∧ Aside0 (Kd.R Kd.bool 4 wc w.heap.size (fun _ => True) v319 t318) ∧ Aside0 (wc.heap[gb306]? = some (.cells #[(.slice A0_0 l0_0.length c0_0), (.slice A0_1 l0_1.length c0_1)] 25 (0, 0))) ∧ Aside0 (Below w.heap.size w wc))
           case first =>
            have H := HC25.out
            clear HC25
            by_cases c26 : 0 ≤ x8_2
            ·rw [if_pos c26] at H
             have c26b0 : decide (0 ≤ x8_2) = true := decide_eq_true c26
             clear c26
             (first | rw [c26b0] | (simp only [i64_w, i32_w]; rw [c26b0]) | skip)
             by_cases c27 : x8_2 < (t308.length : Int)
             ·rw [if_pos c27] at H
              have c27b0 : decide (x8_2 < (t308.length : Int)) = true := decide_eq_true c27
              clear c27
              by_cases c28 : x9_3 < ((rd_L1 t308 x8_2).length : Int)
              ·rw [if_pos c28] at H
               have c28b0 : decide (x9_3 < ((rd_L1 t308 x8_2).length : Int)) = true := decide_eq_true c28
               clear c28
               by_cases c29 : x8_2 < (t318.length : Int)
               ·rw [if_pos c29] at H
                have c29b0 : decide (x8_2 < (t318.length : Int)) = true := decide_eq_true c29
                clear c29
                have H' := Aside0.mk H
                clear H
                have p321 : 0 ≤ (x8_2 : Int) := of_decide_eq_true (by first | (with_reducible assumption) | assumption)
                have q321 : x8_2 < (t308.length : Int) := of_decide_eq_true (by first | (with_reducible assumption) | assumption)
                obtain ⟨ad321, A321_0, c321_0, e321, hx321_0, hl321_0, hi321_0⟩ := at_L1 (Kd.N_reads' HO_3.out).2.2 x8_2 p321 q321
                cases e321
                obtain ⟨ce321, hce321, hMe321, hcc321⟩ := Kd.N_get HO_3.out [] x8_2 p321 (by first | exact q321 | exact of_decide_eq_true (by first | (with_reducible assumption) | assumption) | (have e_ := (Kd.N_reads' HO_3.out).1; omega))
                obtain ⟨ua321_0, uc321_0, rfl, ul321_0, ge321_0⟩ := Kd.FK_slice_open hMe321
                have hv321_0 := hcc321 0 _ rfl
                rw [Nat.add_zero, show ((Kd.slice 3 (Kd.int .i64))).sz = 1 from rfl, Nat.mul_one] at hv321_0
                replace hv321_0 := Option.some.inj (hv321_0.symm.trans hx321_0)
                injection hv321_0 with hva_ hvn_ hvc_
                rw [hva_] at ge321_0
                rw [hvc_] at ul321_0
                have HL321_0 := Aside0.mk (show Kd.V (Kd.int .i64) 3 _ w.heap.size _ _ (rd_L1 t308 x8_2) from Kd.V_mk ul321_0 ge321_0)
                clear hva_ hvn_ hvc_ ge321_0 ul321_0
                clear hcc321 hce321
                have HR321_0 := Aside0.mk hi321_0
                have HC321_0 := Aside0.mk hl321_0
                clear hi321_0 hl321_0
                replace p321 := eq_true p321
                replace q321 := eq_true q321
                obtain ⟨Ao30, co30, eo30⟩ := Kd.R_slice HO_7.out
                subst eo30
                have p322 : 0 ≤ (x8_2 : Int) := of_decide_eq_true (by first | (with_reducible assumption) | assumption)
                have q322 : x8_2 < (t318.length : Int) := of_decide_eq_true (by first | (with_reducible assumption) | assumption)
                obtain ⟨ad322, e322, hx322_0⟩ := Kd.at_bool (Kd.R_reads' HO_7.out).2.2 x8_2 p322 q322
                cases e322
                replace p322 := eq_true p322
                replace q322 := eq_true q322
                go_wp2
                go_meet
                case rel => exact ⟨_, (rdOf false t318 x8_2), (by first | rfl | (simp; done) | (simp [*]; done)), H', ⟨by have := HJ8.out; have := HK2.out; have := HK3.out; first | omega | exact Nat.le_refl _⟩, ⟨by (with_reducible repeat (first | apply Kd.N_alloc | apply Kd.N_drewN | apply Kd.N_drew)); exact HO_3.out⟩, ⟨by (with_reducible repeat (first | apply Kd.N_alloc | apply Kd.N_drewN | apply Kd.N_drew)); exact HO_5.out⟩, ⟨by (with_reducible repeat (first | apply Kd.R_alloc | apply Kd.R_drewN | apply Kd.R_drew)); exact HO_6.out⟩, ⟨by (with_reducible repeat (first | apply Kd.R_alloc | apply Kd.R_drewN | apply Kd.R_drew)); exact HO_7.out⟩, ⟨by (with_reducible repeat (first | refine blk_drewN ?_ _ | refine blk_drew ?_ | refine blk_alloc ?_ _)); exact BK306.out⟩, ⟨by repeat (first | (with_reducible first | exact HB.out | apply below_alloc | apply pw_below_drewN | apply below_drew1 | refine below_set ?_ GE306.out) | exact HB.out)⟩⟩
               ·rw [if_neg c29] at H
                exact absurd H (by simp)
              ·rw [if_neg c28] at H
               have c28b0 : decide (x9_3 < ((rd_L1 t308 x8_2).length : Int)) = false := decide_eq_false c28
               clear c28
               have H' := Aside0.mk H
               clear H
               have p321 : 0 ≤ (x8_2 : Int) := of_decide_eq_true (by first | (with_reducible assumption) | assumption)
               have q321 : x8_2 < (t308.length : Int) := of_decide_eq_true (by first | (with_reducible assumption) | assumption)
               obtain ⟨ad321, A321_0, c321_0, e321, hx321_0, hl321_0, hi321_0⟩ := at_L1 (Kd.N_reads' HO_3.out).2.2 x8_2 p321 q321
               cases e321
               obtain ⟨ce321, hce321, hMe321, hcc321⟩ := Kd.N_get HO_3.out [] x8_2 p321 (by first | exact q321 | exact of_decide_eq_true (by first | (with_reducible assumption) | assumption) | (have e_ := (Kd.N_reads' HO_3.out).1; omega))
               obtain ⟨ua321_0, uc321_0, rfl, ul321_0, ge321_0⟩ := Kd.FK_slice_open hMe321
               have hv321_0 := hcc321 0 _ rfl
               rw [Nat.add_zero, show ((Kd.slice 3 (Kd.int .i64))).sz = 1 from rfl, Nat.mul_one] at hv321_0
               replace hv321_0 := Option.some.inj (hv321_0.symm.trans hx321_0)
               injection hv321_0 with hva_ hvn_ hvc_
               rw [hva_] at ge321_0
               rw [hvc_] at ul321_0
               have HL321_0 := Aside0.mk (show Kd.V (Kd.int .i64) 3 _ w.heap.size _ _ (rd_L1 t308 x8_2) from Kd.V_mk ul321_0 ge321_0)
               clear hva_ hvn_ hvc_ ge321_0 ul321_0
               clear hcc321 hce321
               have HR321_0 := Aside0.mk hi321_0
               have HC321_0 := Aside0.mk hl321_0
               clear hi321_0 hl321_0
               replace p321 := eq_true p321
               replace q321 := eq_true q321
               go_wp2
               go_meet
               case rel => exact ⟨_, (false), (by first | rfl | (simp; done) | (simp [*]; done)), H', ⟨by have := HJ8.out; have := HK2.out; have := HK3.out; first | omega | exact Nat.le_refl _⟩, ⟨by (with_reducible repeat (first | apply Kd.N_alloc | apply Kd.N_drewN | apply Kd.N_drew)); exact HO_3.out⟩, ⟨by (with_reducible repeat (first | apply Kd.N_alloc | apply Kd.N_drewN | apply Kd.N_drew)); exact HO_5.out⟩, ⟨by (with_reducible repeat (first | apply Kd.R_alloc | apply Kd.R_drewN | apply Kd.R_drew)); exact HO_6.out⟩, ⟨by (with_reducible repeat (first | apply Kd.R_alloc | apply Kd.R_drewN | apply Kd.R_drew)); exact HO_7.out⟩, ⟨by (with_reducible repeat (first | refine blk_drewN ?_ _ | refine blk_drew ?_ | refine blk_alloc ?_ _)); exact BK306.out⟩, ⟨by repeat (first | (with_reducible first | exact HB.out | apply below_alloc | apply pw_below_drewN | apply below_drew1 | refine below_set ?_ GE306.out) | exact HB.out)⟩⟩
             ·rw [if_neg c27] at H
              exact absurd H (by simp)
            ·rw [if_neg c26] at H
             exact absurd H (by simp)
           case rest =>
            clear HC25
            try clear c1
            try clear c2
            try clear p2
            try clear c3
            try clear p3
            try clear q3
            try clear hx3
            try clear c5
            try clear c9
            try clear c12
            try clear c13
            try clear c14
            try clear c16
            try clear c19
            try clear c19b0
            try clear c19b1
            try clear c19b2
            try clear c20
            try clear c23
            try clear c24
            try clear c24b0
            try clear c26
            try clear c26b0
            try clear c27
            try clear c27b0
            try clear c28
            try clear c28b0
            try clear c29
            try clear c29b0
            try clear hcz12_0
            try clear hcz12_1
            try clear hfz12_0
            try clear hfz12_1
            try clear hx321_0
            try clear hx322_0
            try clear p2
            try clear p321
            try clear p322
            try clear q321
            try clear q322
            obtain ⟨kq, x58_24, rfl, HA, HJ24, HO_3, HO_5, HO_6, HO_7, BK306, HB⟩ := hcut
            cases kq with
            | zero => exact absurd HA.out (by simp [ontimelaw25_DominatorJoins.j3])
            | succ kj24 =>
             have H := HA.out
             clear HA
             simp only [ontimelaw25_DominatorJoins.j3] at H
             by_cases c31 : x58_24 = true
             ·subst c31
              have H1 : (if 0 ≤ x8_2 then (if x8_2 < (t308.length : Int) then (if 0 ≤ x9_3 then (if x9_3 < ((rd_L1 t308 x8_2).length : Int) then (ontimelaw25_DominatorJoins.l2 kj24 t308 t312 t315 t318 x8_2 x9_3 (rd (rd_L1 t308 x8_2) x9_3) x8_2 0) else (none)) else (none)) else (none)) else (none)) = some r := by rw [if_pos rfl] at H; exact H
              clear H
              have H := H1
              clear H1
              by_cases c32 : 0 ≤ x8_2
              ·rw [if_pos c32] at H
               have c32b0 : decide (0 ≤ x8_2) = true := decide_eq_true c32
               clear c32
               by_cases c33 : x8_2 < (t308.length : Int)
               ·rw [if_pos c33] at H
                have c33b0 : decide (x8_2 < (t308.length : Int)) = true := decide_eq_true c33
                clear c33
                by_cases c34 : 0 ≤ x9_3
                ·rw [if_pos c34] at H
                 have c34b0 : decide (0 ≤ x9_3) = true := decide_eq_true c34
                 clear c34
                 by_cases c35 : x9_3 < ((rd_L1 t308 x8_2).length : Int)
                 ·rw [if_pos c35] at H
                  have c35b0 : decide (x9_3 < ((rd_L1 t308 x8_2).length : Int)) = true := decide_eq_true c35
                  clear c35
                  have H' := Aside0.mk H
                  clear H
                  have p323 : 0 ≤ (x8_2 : Int) := of_decide_eq_true (by first | (with_reducible assumption) | assumption)
                  have q323 : x8_2 < (t308.length : Int) := of_decide_eq_true (by first | (with_reducible assumption) | assumption)
                  obtain ⟨ad323, A323_0, c323_0, e323, hx323_0, hl323_0, hi323_0⟩ := at_L1 (Kd.N_reads' HO_3.out).2.2 x8_2 p323 q323
                  cases e323
                  obtain ⟨ce323, hce323, hMe323, hcc323⟩ := Kd.N_get HO_3.out [] x8_2 p323 (by first | exact q323 | exact of_decide_eq_true (by first | (with_reducible assumption) | assumption) | (have e_ := (Kd.N_reads' HO_3.out).1; omega))
                  obtain ⟨ua323_0, uc323_0, rfl, ul323_0, ge323_0⟩ := Kd.FK_slice_open hMe323
                  have hv323_0 := hcc323 0 _ rfl
                  rw [Nat.add_zero, show ((Kd.slice 3 (Kd.int .i64))).sz = 1 from rfl, Nat.mul_one] at hv323_0
                  replace hv323_0 := Option.some.inj (hv323_0.symm.trans hx323_0)
                  injection hv323_0 with hva_ hvn_ hvc_
                  rw [hva_] at ge323_0
                  rw [hvc_] at ul323_0
                  have HL323_0 := Aside0.mk (show Kd.V (Kd.int .i64) 3 _ w.heap.size _ _ (rd_L1 t308 x8_2) from Kd.V_mk ul323_0 ge323_0)
                  clear hva_ hvn_ hvc_ ge323_0 ul323_0
                  clear hcc323 hce323
                  have HR323_0 := Aside0.mk hi323_0
                  have HC323_0 := Aside0.mk hl323_0
                  clear hi323_0 hl323_0
                  replace p323 := eq_true p323
                  replace q323 := eq_true q323
                  have p324 : 0 ≤ (x9_3 : Int) := of_decide_eq_true (by first | (with_reducible assumption) | assumption)
                  have q324 : x9_3 < ((rd_L1 t308 x8_2).length : Int) := of_decide_eq_true (by first | (with_reducible assumption) | assumption)
                  obtain ⟨ad324, e324, hx324_0⟩ := Kd.at_int (by repeat (first | (with_reducible exact HR323_0.out) | (with_reducible refine Kd.C_alloc ?_ _) | (with_reducible refine Kd.C_drewN ?_ _) | (with_reducible refine Kd.C_drew ?_) | exact HR323_0.out)) x9_3 p324 q324
                  cases e324
                  replace p324 := eq_true p324
                  replace q324 := eq_true q324
                  go_wp2
                  go_loopg [11, 12] kj24 (fun kq v11 v12 w' => ∃ (x11_5 : Int) (x12_5 : Int), v11 = .int .i64 x11_5 ∧ v12 = .int .i64 x12_5 ∧ Aside0 (ontimelaw25_DominatorJoins.l2 kq t308 t312 t315 t318 x8_2 x9_3 (rd (rd_L1 t308 x8_2) x9_3) x11_5 x12_5 = some r) ∧ Aside0 (kq ≤ kj24) ∧ Aside0 (Kd.N (Kd.slice 3 (Kd.int .i64)) 29 w' w.heap.size (fun k_ => some k_ ≠ (v313 : Value).ownBlock ∧ some k_ ≠ (v316 : Value).ownBlock ∧ some k_ ≠ (v319 : Value).ownBlock ∧ k_ ≠ gb306) (.slice (some ad323) t308.length co17) t308) ∧ Aside0 (Kd.N (Kd.slice 3 (Kd.int .i64)) 29 w' w.heap.size (fun k_ => some k_ ≠ ((.slice (some ad323) t308.length co17) : Value).ownBlock ∧ some k_ ≠ (v316 : Value).ownBlock ∧ some k_ ≠ (v319 : Value).ownBlock ∧ k_ ≠ gb306) v313 t312) ∧ Aside0 (Kd.R (Kd.int .i64) 3 w' w.heap.size (fun _ => True) v316 t315) ∧ Aside0 (Kd.R Kd.bool 4 w' w.heap.size (fun _ => True) v319 t318) ∧ Aside0 (w'.heap[gb306]? = some (.cells #[(.slice A0_0 l0_0.length c0_0), (.slice A0_1 l0_1.length c0_1)] 25 (0, 0))) ∧ Aside0 (Kd.C (Kd.int .i64) w' (some ad324) (rd_L1 t308 x8_2).length (rd_L1 t308 x8_2)) ∧ Aside0 (Below w.heap.size w w'))
                  case atStart => exact ⟨(x8_2), (0), (by first | rfl | (simp; done) | (simp [*]; done)), (by first | rfl | (simp; done) | (simp [*]; done)), H', ⟨Nat.le_refl _⟩, ⟨by (with_reducible repeat (first | apply Kd.N_alloc | apply Kd.N_drewN | apply Kd.N_drew)); exact HO_3.out⟩, ⟨by (with_reducible repeat (first | apply Kd.N_alloc | apply Kd.N_drewN | apply Kd.N_drew)); exact HO_5.out⟩, ⟨by (with_reducible repeat (first | apply Kd.R_alloc | apply Kd.R_drewN | apply Kd.R_drew)); exact HO_6.out⟩, ⟨by (with_reducible repeat (first | apply Kd.R_alloc | apply Kd.R_drewN | apply Kd.R_drew)); exact HO_7.out⟩, ⟨by (with_reducible repeat (first | refine blk_drewN ?_ _ | refine blk_drew ?_ | refine blk_alloc ?_ _)); exact BK306.out⟩, ⟨by repeat (first | (with_reducible exact HR323_0.out) | (with_reducible refine Kd.C_alloc ?_ _) | (with_reducible refine Kd.C_drewN ?_ _) | (with_reducible refine Kd.C_drew ?_) | exact HR323_0.out)⟩, ⟨by repeat (first | (with_reducible first | exact HB.out | apply below_alloc | apply pw_below_drewN | apply below_drew1 | refine below_set ?_ GE306.out) | exact HB.out)⟩⟩
                  case round =>
                   clear H'
                   try clear c1
                   try clear c2
                   try clear p2
                   try clear c3
                   try clear p3
                   try clear q3
                   try clear hx3
                   try clear c5
                   try clear c9
                   try clear c12
                   try clear c13
                   try clear c14
                   try clear c16
                   try clear c19
                   try clear c19b0
                   try clear c19b1
                   try clear c19b2
                   try clear c20
                   try clear c23
                   try clear c24
                   try clear c24b0
                   try clear c26
                   try clear c26b0
                   try clear c27
                   try clear c27b0
                   try clear c28
                   try clear c28b0
                   try clear c29
                   try clear c29b0
                   try clear c31
                   try clear c32
                   try clear c32b0
                   try clear p32
                   try clear q32
                   try clear hx32
                   try clear c33
                   try clear c33b0
                   try clear c34
                   try clear c34b0
                   try clear c35
                   try clear c35b0
                   try clear hcz12_0
                   try clear hcz12_1
                   try clear hfz12_0
                   try clear hfz12_1
                   try clear hx321_0
                   try clear hx322_0
                   try clear hx323_0
                   try clear hx324_0
                   try clear p2
                   try clear p3
                   try clear p321
                   try clear p322
                   try clear p323
                   try clear p324
                   try clear q3
                   try clear q321
                   try clear q322
                   try clear q323
                   try clear q324
                   obtain ⟨x11_5, x12_5, rfl, rfl, HA, HK5, HO_3, HO_5, HO_6, HO_7, BK306, HR323_0, HB⟩ := hrel
                   cases gk with
                   | zero => exact absurd HA.out (by simp [ontimelaw25_DominatorJoins.l2])
                   | succ k5 =>
                    have H := HA.out
                    clear HA
                    simp only [ontimelaw25_DominatorJoins.l2] at H
                    have HC36 := Aside0.mk H
                    clear H
                    go_upto_region 17 with (fail)
                    go_cut [94] (fun v94 wc => ∃ (kq : Nat) (x94_35 : Bool), v94 = .bool x94_35 ∧ Aside0 (ontimelaw25_DominatorJoins.j5 kq t308 t312 t315 t318 x8_2 x9_3 (rd (rd_L1 t308 x8_2) x9_3) x11_5 x12_5 x94_35 = some r) ∧ Aside0 (kq ≤ k5) ∧ Aside0 (Kd.N (Kd.slice 3 (Kd.int .i64)) 29 wc w.heap.size (fun k_ => some k_ ≠ (v313 : Value).ownBlock ∧ some k_ ≠ (v316 : Value).ownBlock ∧ some k_ ≠ (v319 : Value).ownBlock ∧ k_ ≠ gb306) (.slice (some ad323) t308.length co17) t308) ∧ Aside0 (Kd.N (Kd.slice 3 (Kd.int .i64)) 29 wc w.heap.size (fun k_ => some k_ ≠ ((.slice (some ad323) t308.length co17) : Value).ownBlock ∧ some k_ ≠ (v316 : Value).ownBlock ∧ some k_ ≠ (v319 : Value).ownBlock ∧ k_ ≠ gb306) v313 t312) ∧ Aside0 (Kd.R (Kd.int .i64) 3 wc w.heap.size (fun _ => True) v316 t315) ∧ Aside0 (Kd.R Kd.bool 4 wc w.heap.size (fun _ => True) v319 t318) ∧ Aside0 (wc.heap[gb306]? = some (.cells #[(.slice A0_0 l0_0.length c0_0), (.slice A0_1 l0_1.length c0_1)] 25 (0, 0))) ∧ Aside0 (Kd.C (Kd.int .i64) wc (some ad324) (rd_L1 t308 x8_2).length (rd_L1 t308 x8_2)) ∧ Aside0 (Below w.heap.size w wc))
                    case first =>
                     have H := HC36.out
                     clear HC36
                     by_cases c37 : x12_5 < (t308.length : Int)
                     ·rw [if_pos c37] at H
                      have c37b0 : decide (x12_5 < (t308.length : Int)) = true := decide_eq_true c37
                      clear c37
                      (first | rw [c37b0] | (simp only [i64_w, i32_w]; rw [c37b0]) | skip)
                      by_cases c38 : x11_5 ≥ 0
                      ·rw [if_pos c38] at H
                       have c38b0 : decide (0 ≤ x11_5) = true := decide_eq_true c38
                       clear c38
                       by_cases c39 : x11_5 < (t308.length : Int)
                       ·rw [if_pos c39] at H
                        have c39b0 : decide (x11_5 < (t308.length : Int)) = true := decide_eq_true c39
                        clear c39
                        by_cases c40 : (rd (rd_L1 t308 x8_2) x9_3) = 0
                        ·rw [if_pos c40] at H
                         have c40b0 : ((rd (rd_L1 t308 x8_2) x9_3) == 0) = true := beq_iff_eq.mpr c40
                         have c40b1 : ((rd (rd_L1 t308 x8_2) x9_3) != 0) = false := bne_eq_false_iff_eq.mpr c40
                         clear c40
                         have H' := Aside0.mk H
                         clear H
                         go_wp2
                         go_meet
                         case rel => exact ⟨_, (true), (by first | rfl | (simp; done) | (simp [*]; done)), H', ⟨by have := HJ8.out; have := HK2.out; have := HK3.out; have := HJ24.out; have := HK5.out; first | omega | exact Nat.le_refl _⟩, ⟨by (with_reducible repeat (first | apply Kd.N_alloc | apply Kd.N_drewN | apply Kd.N_drew)); exact HO_3.out⟩, ⟨by (with_reducible repeat (first | apply Kd.N_alloc | apply Kd.N_drewN | apply Kd.N_drew)); exact HO_5.out⟩, ⟨by (with_reducible repeat (first | apply Kd.R_alloc | apply Kd.R_drewN | apply Kd.R_drew)); exact HO_6.out⟩, ⟨by (with_reducible repeat (first | apply Kd.R_alloc | apply Kd.R_drewN | apply Kd.R_drew)); exact HO_7.out⟩, ⟨by (with_reducible repeat (first | refine blk_drewN ?_ _ | refine blk_drew ?_ | refine blk_alloc ?_ _)); exact BK306.out⟩, ⟨by repeat (first | (with_reducible exact HR323_0.out) | (with_reducible refine Kd.C_alloc ?_ _) | (with_reducible refine Kd.C_drewN ?_ _) | (with_reducible refine Kd.C_drew ?_) | exact HR323_0.out)⟩, ⟨by repeat (first | (with_reducible first | exact HB.out | apply below_alloc | apply pw_below_drewN | apply below_drew1 | refine below_set ?_ GE306.out) | exact HB.out)⟩⟩
                        ·rw [if_neg c40] at H
                         have c40b0 : ((rd (rd_L1 t308 x8_2) x9_3) == 0) = false := beq_eq_false_iff_ne.mpr c40
                         have c40b1 : ((rd (rd_L1 t308 x8_2) x9_3) != 0) = true := bne_iff_ne.mpr c40
                         by_cases c41 : 0 ≤ (rd (rd_L1 t308 x8_2) x9_3)
                         ·rw [if_pos c41] at H
                          have c41b0 : decide (0 ≤ (rd (rd_L1 t308 x8_2) x9_3)) = true := decide_eq_true c41
                          clear c41
                          by_cases c42 : (rd (rd_L1 t308 x8_2) x9_3) < (t315.length : Int)
                          ·rw [if_pos c42] at H
                           have c42b0 : decide ((rd (rd_L1 t308 x8_2) x9_3) < (t315.length : Int)) = true := decide_eq_true c42
                           clear c42
                           have H' := Aside0.mk H
                           clear H
                           obtain ⟨Ao43, co43, eo43⟩ := Kd.R_slice HO_6.out
                           subst eo43
                           have p325 : 0 ≤ ((rd (rd_L1 t308 x8_2) x9_3) : Int) := of_decide_eq_true (by first | (with_reducible assumption) | assumption)
                           have q325 : (rd (rd_L1 t308 x8_2) x9_3) < (t315.length : Int) := of_decide_eq_true (by first | (with_reducible assumption) | assumption)
                           obtain ⟨ad325, e325, hx325_0⟩ := Kd.at_int (Kd.R_reads' HO_6.out).2.2 (rd (rd_L1 t308 x8_2) x9_3) p325 q325
                           cases e325
                           replace p325 := eq_true p325
                           replace q325 := eq_true q325
                           go_wp2
                           go_meet
                           case rel => exact ⟨_, ((x11_5 != (rd t315 (rd (rd_L1 t308 x8_2) x9_3)))), (by first | rfl | (simp; done) | (simp [*]; done)), H', ⟨by have := HJ8.out; have := HK2.out; have := HK3.out; have := HJ24.out; have := HK5.out; first | omega | exact Nat.le_refl _⟩, ⟨by (with_reducible repeat (first | apply Kd.N_alloc | apply Kd.N_drewN | apply Kd.N_drew)); exact HO_3.out⟩, ⟨by (with_reducible repeat (first | apply Kd.N_alloc | apply Kd.N_drewN | apply Kd.N_drew)); exact HO_5.out⟩, ⟨by (with_reducible repeat (first | apply Kd.R_alloc | apply Kd.R_drewN | apply Kd.R_drew)); exact HO_6.out⟩, ⟨by (with_reducible repeat (first | apply Kd.R_alloc | apply Kd.R_drewN | apply Kd.R_drew)); exact HO_7.out⟩, ⟨by (with_reducible repeat (first | refine blk_drewN ?_ _ | refine blk_drew ?_ | refine blk_alloc ?_ _)); exact BK306.out⟩, ⟨by repeat (first | (with_reducible exact HR323_0.out) | (with_reducible refine Kd.C_alloc ?_ _) | (with_reducible refine Kd.C_drewN ?_ _) | (with_reducible refine Kd.C_drew ?_) | exact HR323_0.out)⟩, ⟨by repeat (first | (with_reducible first | exact HB.out | apply below_alloc | apply pw_below_drewN | apply below_drew1 | refine below_set ?_ GE306.out) | exact HB.out)⟩⟩
                          ·rw [if_neg c42] at H
                           exact absurd H (by simp)
                         ·rw [if_neg c41] at H
                          exact absurd H (by simp)
                       ·rw [if_neg c39] at H
                        have c39b0 : decide (x11_5 < (t308.length : Int)) = false := decide_eq_false c39
                        clear c39
                        have H' := Aside0.mk H
                        clear H
                        go_wp2
                        go_meet
                        case rel => exact ⟨_, (false), (by first | rfl | (simp; done) | (simp [*]; done)), H', ⟨by have := HJ8.out; have := HK2.out; have := HK3.out; have := HJ24.out; have := HK5.out; first | omega | exact Nat.le_refl _⟩, ⟨by (with_reducible repeat (first | apply Kd.N_alloc | apply Kd.N_drewN | apply Kd.N_drew)); exact HO_3.out⟩, ⟨by (with_reducible repeat (first | apply Kd.N_alloc | apply Kd.N_drewN | apply Kd.N_drew)); exact HO_5.out⟩, ⟨by (with_reducible repeat (first | apply Kd.R_alloc | apply Kd.R_drewN | apply Kd.R_drew)); exact HO_6.out⟩, ⟨by (with_reducible repeat (first | apply Kd.R_alloc | apply Kd.R_drewN | apply Kd.R_drew)); exact HO_7.out⟩, ⟨by (with_reducible repeat (first | refine blk_drewN ?_ _ | refine blk_drew ?_ | refine blk_alloc ?_ _)); exact BK306.out⟩, ⟨by repeat (first | (with_reducible exact HR323_0.out) | (with_reducible refine Kd.C_alloc ?_ _) | (with_reducible refine Kd.C_drewN ?_ _) | (with_reducible refine Kd.C_drew ?_) | exact HR323_0.out)⟩, ⟨by repeat (first | (with_reducible first | exact HB.out | apply below_alloc | apply pw_below_drewN | apply below_drew1 | refine below_set ?_ GE306.out) | exact HB.out)⟩⟩
                      ·rw [if_neg c38] at H
                       have c38b0 : decide (0 ≤ x11_5) = false := decide_eq_false c38
                       clear c38
                       have H' := Aside0.mk H
                       clear H
                       go_wp2
                       go_meet
                       case rel => exact ⟨_, (false), (by first | rfl | (simp; done) | (simp [*]; done)), H', ⟨by have := HJ8.out; have := HK2.out; have := HK3.out; have := HJ24.out; have := HK5.out; first | omega | exact Nat.le_refl _⟩, ⟨by (with_reducible repeat (first | apply Kd.N_alloc | apply Kd.N_drewN | apply Kd.N_drew)); exact HO_3.out⟩, ⟨by (with_reducible repeat (first | apply Kd.N_alloc | apply Kd.N_drewN | apply Kd.N_drew)); exact HO_5.out⟩, ⟨by (with_reducible repeat (first | apply Kd.R_alloc | apply Kd.R_drewN | apply Kd.R_drew)); exact HO_6.out⟩, ⟨by (with_reducible repeat (first | apply Kd.R_alloc | apply Kd.R_drewN | apply Kd.R_drew)); exact HO_7.out⟩, ⟨by (with_reducible repeat (first | refine blk_drewN ?_ _ | refine blk_drew ?_ | refine blk_alloc ?_ _)); exact BK306.out⟩, ⟨by repeat (first | (with_reducible exact HR323_0.out) | (with_reducible refine Kd.C_alloc ?_ _) | (with_reducible refine Kd.C_drewN ?_ _) | (with_reducible refine Kd.C_drew ?_) | exact HR323_0.out)⟩, ⟨by repeat (first | (with_reducible first | exact HB.out | apply below_alloc | apply pw_below_drewN | apply below_drew1 | refine below_set ?_ GE306.out) | exact HB.out)⟩⟩
                     ·rw [if_neg c37] at H
                      have c37b0 : decide (x12_5 < (t308.length : Int)) = false := decide_eq_false c37
                      clear c37
                      (first | rw [c37b0] | (simp only [i64_w, i32_w]; rw [c37b0]) | skip)
                      have H' := Aside0.mk H
                      clear H
                      go_wp2
                      go_meet
                      case rel => exact ⟨_, (false), (by first | rfl | (simp; done) | (simp [*]; done)), H', ⟨by have := HJ8.out; have := HK2.out; have := HK3.out; have := HJ24.out; have := HK5.out; first | omega | exact Nat.le_refl _⟩, ⟨by (with_reducible repeat (first | apply Kd.N_alloc | apply Kd.N_drewN | apply Kd.N_drew)); exact HO_3.out⟩, ⟨by (with_reducible repeat (first | apply Kd.N_alloc | apply Kd.N_drewN | apply Kd.N_drew)); exact HO_5.out⟩, ⟨by (with_reducible repeat (first | apply Kd.R_alloc | apply Kd.R_drewN | apply Kd.R_drew)); exact HO_6.out⟩, ⟨by (with_reducible repeat (first | apply Kd.R_alloc | apply Kd.R_drewN | apply Kd.R_drew)); exact HO_7.out⟩, ⟨by (with_reducible repeat (first | refine blk_drewN ?_ _ | refine blk_drew ?_ | refine blk_alloc ?_ _)); exact BK306.out⟩, ⟨by repeat (first | (with_reducible exact HR323_0.out) | (with_reducible refine Kd.C_alloc ?_ _) | (with_reducible refine Kd.C_drewN ?_ _) | (with_reducible refine Kd.C_drew ?_) | exact HR323_0.out)⟩, ⟨by repeat (first | (with_reducible first | exact HB.out | apply below_alloc | apply pw_below_drewN | apply below_drew1 | refine below_set ?_ GE306.out) | exact HB.out)⟩⟩
                    case rest =>
                     clear HC36
                     try clear c1
                     try clear c2
                     try clear p2
                     try clear c3
                     try clear p3
                     try clear q3
                     try clear hx3
                     try clear c4
                     try clear c5
                     try clear c9
                     try clear c12
                     try clear c13
                     try clear c14
                     try clear c16
                     try clear c19
                     try clear c19b0
                     try clear c19b1
                     try clear c19b2
                     try clear c20
                     try clear c23
                     try clear c24
                     try clear c24b0
                     try clear c26
                     try clear c26b0
                     try clear c27
                     try clear c27b0
                     try clear c28
                     try clear c28b0
                     try clear c29
                     try clear c29b0
                     try clear c31
                     try clear c32
                     try clear c32b0
                     try clear p32
                     try clear q32
                     try clear hx32
                     try clear c33
                     try clear c33b0
                     try clear c34
                     try clear c34b0
                     try clear c35
                     try clear c35b0
                     try clear c37
                     try clear c37b0
                     try clear c38
                     try clear c38b0
                     try clear c39
                     try clear c39b0
                     try clear c40
                     try clear c40b0
                     try clear c40b1
                     try clear c41
                     try clear c41b0
                     try clear c42
                     try clear c42b0
                     try clear hcz12_0
                     try clear hcz12_1
                     try clear hfz12_0
                     try clear hfz12_1
                     try clear hx321_0
                     try clear hx322_0
                     try clear hx323_0
                     try clear hx324_0
                     try clear hx325_0
                     try clear p2
                     try clear p3
                     try clear p32
                     try clear p321
                     try clear p322
                     try clear p323
                     try clear p324
                     try clear p325
                     try clear q3
                     try clear q32
                     try clear q321
                     try clear q322
                     try clear q323
                     try clear q324
                     try clear q325
                     obtain ⟨kq, x94_35, rfl, HA, HJ35, HO_3, HO_5, HO_6, HO_7, BK306, HR323_0, HB⟩ := hcut
                     cases kq with
                     | zero => exact absurd HA.out (by simp [ontimelaw25_DominatorJoins.j5])
                     | succ kj35 =>
                      have H := HA.out
                      clear HA
                      simp only [ontimelaw25_DominatorJoins.j5] at H
                      by_cases c44 : x94_35 = true
                      ·subst c44
                       have H1 : (if 0 ≤ x11_5 then (if x11_5 < (t312.length : Int) then ((ontimeref25_In.f kj35 (rd_L1 t312 x11_5) (rd (rd_L1 t308 x8_2) x9_3)).bind fun t327 => (if t327 = true then (if x11_5 < (t315.length : Int) then (ontimelaw25_DominatorJoins.l2 kj35 t308 t312 t315 t318 x8_2 x9_3 (rd (rd_L1 t308 x8_2) x9_3) (rd t315 x11_5) (wrap64 (x12_5 + 1))) else (none)) else (some false))) else (none)) else (none)) = some r := by rw [if_pos rfl] at H; exact H
                       clear H
                       have H := H1
                       clear H1
                       by_cases c45 : 0 ≤ x11_5
                       ·rw [if_pos c45] at H
                        have c45b0 : decide (0 ≤ x11_5) = true := decide_eq_true c45
                        clear c45
                        by_cases c46 : x11_5 < (t312.length : Int)
                        ·rw [if_pos c46] at H
                         have c46b0 : decide (x11_5 < (t312.length : Int)) = true := decide_eq_true c46
                         clear c46
                         replace H := Option.bind_eq_some_iff.mp H
                         obtain ⟨t327, A470, H⟩ := H
                         replace H : (if t327 = true then (if x11_5 < (t315.length : Int) then (ontimelaw25_DominatorJoins.l2 kj35 t308 t312 t315 t318 x8_2 x9_3 (rd (rd_L1 t308 x8_2) x9_3) (rd t315 x11_5) (wrap64 (x12_5 + 1))) else (none)) else (some false)) = some r := H
                         have A47 := Aside0.mk A470
                         clear A470
                         by_cases c48 : t327 = true
                         ·subst c48
                          have H1 : (if x11_5 < (t315.length : Int) then (ontimelaw25_DominatorJoins.l2 kj35 t308 t312 t315 t318 x8_2 x9_3 (rd (rd_L1 t308 x8_2) x9_3) (rd t315 x11_5) (wrap64 (x12_5 + 1))) else (none)) = some r := by rw [if_pos rfl] at H; exact H
                          clear H
                          have H := H1
                          clear H1
                          by_cases c49 : x11_5 < (t315.length : Int)
                          ·rw [if_pos c49] at H
                           have c49b0 : decide (x11_5 < (t315.length : Int)) = true := decide_eq_true c49
                           clear c49
                           have H' := Aside0.mk H
                           clear H
                           obtain ⟨Ao50, co50, eo50⟩ := Kd.N_slice HO_5.out
                           subst eo50
                           have p326 : 0 ≤ (x11_5 : Int) := of_decide_eq_true (by first | (with_reducible assumption) | assumption)
                           have q326 : x11_5 < (t312.length : Int) := of_decide_eq_true (by first | (with_reducible assumption) | assumption)
                           obtain ⟨ad326, A326_0, c326_0, e326, hx326_0, hl326_0, hi326_0⟩ := at_L1 (Kd.N_reads' HO_5.out).2.2 x11_5 p326 q326
                           cases e326
                           obtain ⟨ce326, hce326, hMe326, hcc326⟩ := Kd.N_get HO_5.out [] x11_5 p326 (by first | exact q326 | exact of_decide_eq_true (by first | (with_reducible assumption) | assumption) | (have e_ := (Kd.N_reads' HO_5.out).1; omega))
                           obtain ⟨ua326_0, uc326_0, rfl, ul326_0, ge326_0⟩ := Kd.FK_slice_open hMe326
                           have hv326_0 := hcc326 0 _ rfl
                           rw [Nat.add_zero, show ((Kd.slice 3 (Kd.int .i64))).sz = 1 from rfl, Nat.mul_one] at hv326_0
                           replace hv326_0 := Option.some.inj (hv326_0.symm.trans hx326_0)
                           injection hv326_0 with hva_ hvn_ hvc_
                           rw [hva_] at ge326_0
                           rw [hvc_] at ul326_0
                           have HL326_0 := Aside0.mk (show Kd.V (Kd.int .i64) 3 _ w.heap.size _ _ (rd_L1 t312 x11_5) from Kd.V_mk ul326_0 ge326_0)
                           clear hva_ hvn_ hvc_ ge326_0 ul326_0
                           clear hcc326 hce326
                           have HR326_0 := Aside0.mk hi326_0
                           have HC326_0 := Aside0.mk hl326_0
                           clear hi326_0 hl326_0
                           replace p326 := eq_true p326
                           replace q326 := eq_true q326
                           go_wp2_with (first | ((with_reducible refine gate_callee (f := 25) rfl ?_); refine goesL_ (some 102) rfl rfl Try.func25 (by kernel_rfl) rfl #[.slice A326_0 (rd_L1 t312 x11_5).length c326_0, .int .i64 (rd (rd_L1 t308 x8_2) x9_3)] rfl (by (try simp only [List.map_toArray, List.map_cons, List.map_nil]); first | done | rfl | (simp only [List.length_drop, List.length_take]; rfl)) ?_; (with_reducible refine (ontimeref25_In.calls kj35 _ _ (rd_L1 t312 x11_5) (rd (rd_L1 t308 x8_2) x9_3) true _ ?side1 ?side2 A47.out).mono ?_); (case side1 => repeat (first | exact (by repeat (first | (with_reducible exact HR326_0.out) | (with_reducible refine Kd.C_alloc ?_ _) | (with_reducible refine Kd.C_drewN ?_ _) | (with_reducible refine Kd.C_drew ?_) | exact HR326_0.out)) | (with_reducible refine Kd.C_alloc ?_ _) | (with_reducible refine Kd.C_drewN ?_ _) | (with_reducible refine Kd.C_drew ?_))); (case side2 => exact HC326_0.out); rintro e w' ⟨rfl, ⟨nd, rfl⟩⟩; refine ⟨_, rfl, ?_⟩; obtain ⟨Ao51, co51, eo51⟩ := Kd.R_slice HO_6.out; subst eo51; have p328 : 0 ≤ (x11_5 : Int) := of_decide_eq_true (by first | (with_reducible assumption) | assumption); have q328 : x11_5 < (t315.length : Int) := of_decide_eq_true (by first | (with_reducible assumption) | assumption); obtain ⟨ad328, e328, hx328_0⟩ := Kd.at_int (Kd.R_reads' HO_6.out).2.2 x11_5 p328 q328; cases e328; replace p328 := eq_true p328; replace q328 := eq_true q328))
                           go_roundg kj35
                           case measure => have := HJ8.out; have := HK2.out; have := HK3.out; have := HJ24.out; have := HK5.out; have := HJ35.out; omega
                           case rel => exact ⟨(rd t315 x11_5), (wrap64 (x12_5 + 1)), (by first | rfl | (simp; done) | (simp [*]; done)), (by first | rfl | (simp; done) | (simp [*]; done)), H', ⟨by have := HJ8.out; have := HK2.out; have := HK3.out; have := HJ24.out; have := HK5.out; have := HJ35.out; omega⟩, ⟨by (with_reducible repeat (first | apply Kd.N_alloc | apply Kd.N_drewN | apply Kd.N_drew)); exact HO_3.out⟩, ⟨by (with_reducible repeat (first | apply Kd.N_alloc | apply Kd.N_drewN | apply Kd.N_drew)); exact HO_5.out⟩, ⟨by (with_reducible repeat (first | apply Kd.R_alloc | apply Kd.R_drewN | apply Kd.R_drew)); exact HO_6.out⟩, ⟨by (with_reducible repeat (first | apply Kd.R_alloc | apply Kd.R_drewN | apply Kd.R_drew)); exact HO_7.out⟩, ⟨by (with_reducible repeat (first | refine blk_drewN ?_ _ | refine blk_drew ?_ | refine blk_alloc ?_ _)); exact BK306.out⟩, ⟨by repeat (first | (with_reducible exact HR323_0.out) | (with_reducible refine Kd.C_alloc ?_ _) | (with_reducible refine Kd.C_drewN ?_ _) | (with_reducible refine Kd.C_drew ?_) | exact HR323_0.out)⟩, ⟨by repeat (first | (with_reducible first | exact HB.out | apply below_alloc | apply pw_below_drewN | apply below_drew1 | refine below_set ?_ GE306.out) | exact HB.out)⟩⟩
                          ·rw [if_neg c49] at H
                           exact absurd H (by simp)
                         ·replace c48 := Bool.eq_false_iff.mpr c48
                          subst c48
                          have H1 : (some false) = some r := by rw [if_neg (show ¬ (false = true) by decide)] at H; exact H
                          clear H
                          have H := H1
                          clear H1
                          obtain rfl := Option.some.inj H
                          obtain ⟨Ao52, co52, eo52⟩ := Kd.N_slice HO_5.out
                          subst eo52
                          have p326 : 0 ≤ (x11_5 : Int) := of_decide_eq_true (by first | (with_reducible assumption) | assumption)
                          have q326 : x11_5 < (t312.length : Int) := of_decide_eq_true (by first | (with_reducible assumption) | assumption)
                          obtain ⟨ad326, A326_0, c326_0, e326, hx326_0, hl326_0, hi326_0⟩ := at_L1 (Kd.N_reads' HO_5.out).2.2 x11_5 p326 q326
                          cases e326
                          obtain ⟨ce326, hce326, hMe326, hcc326⟩ := Kd.N_get HO_5.out [] x11_5 p326 (by first | exact q326 | exact of_decide_eq_true (by first | (with_reducible assumption) | assumption) | (have e_ := (Kd.N_reads' HO_5.out).1; omega))
                          obtain ⟨ua326_0, uc326_0, rfl, ul326_0, ge326_0⟩ := Kd.FK_slice_open hMe326
                          have hv326_0 := hcc326 0 _ rfl
                          rw [Nat.add_zero, show ((Kd.slice 3 (Kd.int .i64))).sz = 1 from rfl, Nat.mul_one] at hv326_0
                          replace hv326_0 := Option.some.inj (hv326_0.symm.trans hx326_0)
                          injection hv326_0 with hva_ hvn_ hvc_
                          rw [hva_] at ge326_0
                          rw [hvc_] at ul326_0
                          have HL326_0 := Aside0.mk (show Kd.V (Kd.int .i64) 3 _ w.heap.size _ _ (rd_L1 t312 x11_5) from Kd.V_mk ul326_0 ge326_0)
                          clear hva_ hvn_ hvc_ ge326_0 ul326_0
                          clear hcc326 hce326
                          have HR326_0 := Aside0.mk hi326_0
                          have HC326_0 := Aside0.mk hl326_0
                          clear hi326_0 hl326_0
                          replace p326 := eq_true p326
                          replace q326 := eq_true q326
                          go_wp2_with (first | ((with_reducible refine gate_callee (f := 25) rfl ?_); refine goesL_ (some 102) rfl rfl Try.func25 (by kernel_rfl) rfl #[.slice A326_0 (rd_L1 t312 x11_5).length c326_0, .int .i64 (rd (rd_L1 t308 x8_2) x9_3)] rfl (by (try simp only [List.map_toArray, List.map_cons, List.map_nil]); first | done | rfl | (simp only [List.length_drop, List.length_take]; rfl)) ?_; (with_reducible refine (ontimeref25_In.calls kj35 _ _ (rd_L1 t312 x11_5) (rd (rd_L1 t308 x8_2) x9_3) false _ ?side1 ?side2 A47.out).mono ?_); (case side1 => repeat (first | exact (by repeat (first | (with_reducible exact HR326_0.out) | (with_reducible refine Kd.C_alloc ?_ _) | (with_reducible refine Kd.C_drewN ?_ _) | (with_reducible refine Kd.C_drew ?_) | exact HR326_0.out)) | (with_reducible refine Kd.C_alloc ?_ _) | (with_reducible refine Kd.C_drewN ?_ _) | (with_reducible refine Kd.C_drew ?_))); (case side2 => exact HC326_0.out); rintro e w' ⟨rfl, ⟨nd, rfl⟩⟩; refine ⟨_, rfl, ?_⟩))
                          go_ret
                          exact ⟨by first | rfl | (simp [errW_none, errW_some] <;> rfl) | (simp [*, errW_none, errW_some] <;> rfl), by repeat (first | (with_reducible first | exact HB.out | apply below_alloc | apply pw_below_drewN | apply below_drew1 | refine below_set ?_ GE306.out) | exact HB.out)⟩
                        ·rw [if_neg c46] at H
                         exact absurd H (by simp)
                       ·rw [if_neg c45] at H
                        exact absurd H (by simp)
                      ·replace c44 := Bool.eq_false_iff.mpr c44
                       subst c44
                       have H1 : (ontimelaw25_DominatorJoins.l1 kj35 t308 t312 t315 t318 x8_2 (wrap64 (x9_3 + 1))) = some r := by rw [if_neg (show ¬ (false = true) by decide)] at H; exact H
                       clear H
                       have H := H1
                       clear H1
                       have H' := Aside0.mk H
                       clear H
                       go_wp2
                       go_roundg kj35
                       case measure => have := HJ8.out; have := HK2.out; have := HK3.out; have := HJ24.out; have := HK5.out; have := HJ35.out; omega
                       case rel => exact ⟨(wrap64 (x9_3 + 1)), (by first | rfl | (simp; done) | (simp [*]; done)), H', ⟨by have := HJ8.out; have := HK2.out; have := HK3.out; have := HJ24.out; have := HK5.out; have := HJ35.out; omega⟩, ⟨by (with_reducible repeat (first | apply Kd.N_alloc | apply Kd.N_drewN | apply Kd.N_drew)); exact HO_3.out⟩, ⟨by (with_reducible repeat (first | apply Kd.N_alloc | apply Kd.N_drewN | apply Kd.N_drew)); exact HO_5.out⟩, ⟨by (with_reducible repeat (first | apply Kd.R_alloc | apply Kd.R_drewN | apply Kd.R_drew)); exact HO_6.out⟩, ⟨by (with_reducible repeat (first | apply Kd.R_alloc | apply Kd.R_drewN | apply Kd.R_drew)); exact HO_7.out⟩, ⟨by (with_reducible repeat (first | refine blk_drewN ?_ _ | refine blk_drew ?_ | refine blk_alloc ?_ _)); exact BK306.out⟩, ⟨by repeat (first | (with_reducible first | exact HB.out | apply below_alloc | apply pw_below_drewN | apply below_drew1 | refine below_set ?_ GE306.out) | exact HB.out)⟩⟩
                 ·rw [if_neg c35] at H
                  exact absurd H (by simp)
                ·rw [if_neg c34] at H
                 exact absurd H (by simp)
               ·rw [if_neg c33] at H
                exact absurd H (by simp)
              ·rw [if_neg c32] at H
               exact absurd H (by simp)
             ·replace c31 := Bool.eq_false_iff.mpr c31
              subst c31
              have H1 : (ontimelaw25_DominatorJoins.l0 kj24 t308 t312 t315 t318 (wrap64 (x8_2 + 1))) = some r := by rw [if_neg (show ¬ (false = true) by decide)] at H; exact H
              clear H
              have H := H1
              clear H1
              have H' := Aside0.mk H
              clear H
              go_wp2
              go_roundg kj24
              case measure => have := HJ8.out; have := HK2.out; have := HK3.out; have := HJ24.out; omega
              case rel => exact ⟨(wrap64 (x8_2 + 1)), (by first | rfl | (simp; done) | (simp [*]; done)), H', ⟨by have := HJ8.out; have := HK2.out; have := HK3.out; have := HJ24.out; omega⟩, ⟨by (with_reducible repeat (first | apply Kd.N_alloc | apply Kd.N_drewN | apply Kd.N_drew)); exact HO_3.out⟩, ⟨by (with_reducible repeat (first | apply Kd.N_alloc | apply Kd.N_drewN | apply Kd.N_drew)); exact HO_5.out⟩, ⟨by (with_reducible repeat (first | apply Kd.R_alloc | apply Kd.R_drewN | apply Kd.R_drew)); exact HO_6.out⟩, ⟨by (with_reducible repeat (first | apply Kd.R_alloc | apply Kd.R_drewN | apply Kd.R_drew)); exact HO_7.out⟩, ⟨by (with_reducible repeat (first | refine blk_drewN ?_ _ | refine blk_drew ?_ | refine blk_alloc ?_ _)); exact BK306.out⟩, ⟨by repeat (first | (with_reducible first | exact HB.out | apply below_alloc | apply pw_below_drewN | apply below_drew1 | refine below_set ?_ GE306.out) | exact HB.out)⟩⟩
        ·rw [if_neg c24] at H
         have c24b0 : decide (x8_2 < (t308.length : Int)) = false := decide_eq_false c24
         clear c24
         obtain rfl := Option.some.inj H
         go_wp2
         go_ret
         exact ⟨by first | rfl | (simp [errW_none, errW_some] <;> rfl) | (simp [*, errW_none, errW_some] <;> rfl), by repeat (first | (with_reducible first | exact HB.out | apply below_alloc | apply pw_below_drewN | apply below_drew1 | refine below_set ?_ GE306.out) | exact HB.out)⟩
  ·replace c5 := Bool.eq_false_iff.mpr c5
   subst c5
   have H1 : (some true) = some r := by rw [if_neg (show ¬ (false = true) by decide)] at H; exact H
   clear H
   have H := H1
   clear H1
   obtain rfl := Option.some.inj H
   go_enter Try.func9, Try.ntmps9
   go_wp2_with (first | ((with_reducible refine gate_dst (N := 1) rfl ?_); (try (refine gate_guard (by rfl) ?_; dsimp only)); refine box_event ?hg (N := 1) ?hd (cs := #[.slice A0_0 l0_0.length c0_0, .slice A0_1 l0_1.length c0_1]) (t := 25) ?hr ?_; (case hd => rfl); (case hg => rfl); (case hr => first | (go_simp; done) | (go_simp; rfl)); intro gb306 hg w53 hbox hb; have n0_ := Aside0.mk (below_step (by repeat (first | (with_reducible first | exact HB.out | apply below_alloc | apply pw_below_drewN | apply below_drew1) | exact HB.out)) hb); have n1_ := Aside0.mk (hbox); have n2_ := Aside0.mk ((by rw [hg]; exact (below_size (by repeat (first | (with_reducible first | exact HB.out | apply below_alloc | apply pw_below_drewN | apply below_drew1) | exact HB.out))) : w.heap.size ≤ gb306)); have n3_ := Aside0.mk ((by rw [hg]; exact (below_size (by repeat (first | (with_reducible first | exact HB.out | apply below_alloc | apply pw_below_drewN | apply below_drew1) | exact HB.out))) : w.heap.size ≤ gb306)); clear HB; have HB := n0_; have BK306 := n1_; have GW306 := n2_; have GE306 := n3_; clear n0_ n1_ n2_ n3_; clear hb hbox hg) | ((with_reducible refine gate_callee (f := 12) rfl ?_); refine goesL_ (some 13) rfl rfl Try.func12 (by kernel_rfl) rfl #[] rfl (by (try simp only [List.map_toArray, List.map_cons, List.map_nil]); first | done | rfl | (simp only [List.length_drop, List.length_take]; rfl)) ?_; (with_reducible refine (ontimelaw25_awake.calls  true _ A2.out).mono ?_); rintro e w54 ⟨rfl, hb⟩; refine ⟨_, rfl, ?_⟩; have n0_ := Aside0.mk (blk_below (g := gb306) (o := .cells #[.slice A0_0 l0_0.length c0_0, .slice A0_1 l0_1.length c0_1] 25 (0, 0)) (by (with_reducible repeat (first | refine blk_drewN ?_ _ | refine blk_drew ?_ | refine blk_alloc ?_ _)); exact BK306.out) hb); have n1_ := Aside0.mk (below_step (by repeat (first | (with_reducible first | exact HB.out | apply below_alloc | apply pw_below_drewN | apply below_drew1 | refine below_set ?_ GE306.out) | exact HB.out)) hb); clear BK306; clear HB; have BK306 := n0_; have HB := n1_; clear n0_ n1_; (try clear hb); (try clear hb2); (try clear hk); (try clear hi); have hcz55_0 : w54.cell? ⟨gb306, 0, none⟩ = some (.slice A0_0 l0_0.length c0_0) := (blk_cell BK306.out 0).trans rfl; have hcz55_1 : w54.cell? ⟨gb306, 1, none⟩ = some (.slice A0_1 l0_1.length c0_1) := (blk_cell BK306.out 1).trans rfl; have hfz55_0 := blk_frozen BK306.out 0; have hfz55_1 := blk_frozen BK306.out 1) | ((with_reducible refine gate_callee (f := 13) rfl ?_); refine goesL_ (some 17) rfl rfl Try.func13 (by kernel_rfl) rfl #[.agg #[.slice A0_0 l0_0.length c0_0, .slice A0_1 l0_1.length c0_1]] rfl (by (try simp only [List.map_toArray, List.map_cons, List.map_nil]); first | done | rfl | (simp only [List.length_drop, List.length_take]; rfl)) ?_; (with_reducible refine (ontimelaw25_next.calls k (fun k_ => k_ < w.heap.size) _ _ l0_0 _ _ l0_1 t308 false _ ?side1 ?side2 ?side3 A4.out).mono ?_); (case side1 => exact Kd.V_mk HC0_0.out (Kd.F_below (Kd.C_F k46_heap HR0_0.out) (by repeat (first | (with_reducible first | exact HB.out | apply below_alloc | apply pw_below_drewN | apply below_drew1 | refine below_set ?_ GE306.out) | exact HB.out)))); (case side2 => repeat (first | exact (Kd.C_below HR0_1.out HB.out) | (with_reducible refine Kd.C_alloc ?_ _) | (with_reducible refine Kd.C_drewN ?_ _) | (with_reducible refine Kd.C_drew ?_))); (case side3 => exact HC0_1.out); rintro e w56 ⟨v309, rfl, ho0, hb⟩; refine ⟨_, rfl, ?_⟩; have n0_ := Aside0.mk (Kd.N_lower (Kd.N_mono (ok' := fun k_ => k_ ≠ gb306) ho0 (fun k_ hk_ => Or.elim hk_ (fun hs_ => fun e_ => Nat.not_le.2 hs_ (by rw [e_]; exact GW306.out)) (fun hn_ => (Kd.freshB (g := gb306) (o := .cells #[.slice A0_0 l0_0.length c0_0, .slice A0_1 l0_1.length c0_1] 25 (0, 0)) (by (with_reducible repeat (first | refine blk_drewN ?_ _ | refine blk_drew ?_ | refine blk_alloc ?_ _)); exact BK306.out) k_ hn_)))) (below_size (by repeat (first | (with_reducible first | exact HB.out | apply below_alloc | apply pw_below_drewN | apply below_drew1 | refine below_set ?_ GE306.out) | exact HB.out)))); have n1_ := Aside0.mk (blk_below (g := gb306) (o := .cells #[.slice A0_0 l0_0.length c0_0, .slice A0_1 l0_1.length c0_1] 25 (0, 0)) (by (with_reducible repeat (first | refine blk_drewN ?_ _ | refine blk_drew ?_ | refine blk_alloc ?_ _)); exact BK306.out) hb); have n2_ := Aside0.mk (below_step (by repeat (first | (with_reducible first | exact HB.out | apply below_alloc | apply pw_below_drewN | apply below_drew1 | refine below_set ?_ GE306.out) | exact HB.out)) hb); clear BK306; clear HB; have HO310 := n0_; have BK306 := n1_; have HB := n2_; clear n0_ n1_ n2_; (try clear hb); (try clear hb2); (try clear hk); (try clear hi); (try clear ho0)))
   go_ret
   exact ⟨by first | rfl | (simp [errW_none, errW_some] <;> rfl) | (simp [*, errW_none, errW_some] <;> rfl), by repeat (first | (with_reducible first | exact HB.out | apply below_alloc | apply pw_below_drewN | apply below_drew1 | refine below_set ?_ GE306.out) | exact HB.out)⟩
 ·replace c3 := Bool.eq_false_iff.mpr c3
  subst c3
  have H1 : (some false) = some r := by rw [if_neg (show ¬ (false = true) by decide)] at H; exact H
  clear H
  have H := H1
  clear H1
  obtain rfl := Option.some.inj H
  go_enter Try.func9, Try.ntmps9
  go_wp2_with (first | ((with_reducible refine gate_dst (N := 1) rfl ?_); (try (refine gate_guard (by rfl) ?_; dsimp only)); refine box_event ?hg (N := 1) ?hd (cs := #[.slice A0_0 l0_0.length c0_0, .slice A0_1 l0_1.length c0_1]) (t := 25) ?hr ?_; (case hd => rfl); (case hg => rfl); (case hr => first | (go_simp; done) | (go_simp; rfl)); intro gb306 hg w57 hbox hb; have n0_ := Aside0.mk (below_step (by repeat (first | (with_reducible first | exact HB.out | apply below_alloc | apply pw_below_drewN | apply below_drew1) | exact HB.out)) hb); have n1_ := Aside0.mk (hbox); have n2_ := Aside0.mk ((by rw [hg]; exact (below_size (by repeat (first | (with_reducible first | exact HB.out | apply below_alloc | apply pw_below_drewN | apply below_drew1) | exact HB.out))) : w.heap.size ≤ gb306)); have n3_ := Aside0.mk ((by rw [hg]; exact (below_size (by repeat (first | (with_reducible first | exact HB.out | apply below_alloc | apply pw_below_drewN | apply below_drew1) | exact HB.out))) : w.heap.size ≤ gb306)); clear HB; have HB := n0_; have BK306 := n1_; have GW306 := n2_; have GE306 := n3_; clear n0_ n1_ n2_ n3_; clear hb hbox hg) | ((with_reducible refine gate_callee (f := 12) rfl ?_); refine goesL_ (some 13) rfl rfl Try.func12 (by kernel_rfl) rfl #[] rfl (by (try simp only [List.map_toArray, List.map_cons, List.map_nil]); first | done | rfl | (simp only [List.length_drop, List.length_take]; rfl)) ?_; (with_reducible refine (ontimelaw25_awake.calls  false _ A2.out).mono ?_); rintro e w58 ⟨rfl, hb⟩; refine ⟨_, rfl, ?_⟩; have n0_ := Aside0.mk (blk_below (g := gb306) (o := .cells #[.slice A0_0 l0_0.length c0_0, .slice A0_1 l0_1.length c0_1] 25 (0, 0)) (by (with_reducible repeat (first | refine blk_drewN ?_ _ | refine blk_drew ?_ | refine blk_alloc ?_ _)); exact BK306.out) hb); have n1_ := Aside0.mk (below_step (by repeat (first | (with_reducible first | exact HB.out | apply below_alloc | apply pw_below_drewN | apply below_drew1 | refine below_set ?_ GE306.out) | exact HB.out)) hb); clear BK306; clear HB; have BK306 := n0_; have HB := n1_; clear n0_ n1_; (try clear hb); (try clear hb2); (try clear hk); (try clear hi)))
  go_ret
  exact ⟨by first | rfl | (simp [errW_none, errW_some] <;> rfl) | (simp [*, errW_none, errW_some] <;> rfl), by repeat (first | (with_reducible first | exact HB.out | apply below_alloc | apply pw_below_drewN | apply below_drew1 | refine below_set ?_ GE306.out) | exact HB.out)⟩

/-- The pure statement of ontimelaw25_DominatorJoins. -/
def ontimelaw25_DominatorJoins.Pure : Prop := ∀ (l0_0 : List (S46)) (l0_1 : List (List Int)), l0_0.length ≤ maxLen → l0_1.length ≤ maxLen → ∃ k, ontimelaw25_DominatorJoins.f k l0_0 l0_1 = some true
theorem ontimelaw25_DominatorJoins.walk (P : ontimelaw25_DominatorJoins.Pure) (A0_0 : Option Addr) (c0_0 : Nat) (l0_0 : List (S46)) (A0_1 : Option Addr) (c0_1 : Nat) (l0_1 : List (List Int)) (w : World) (hr0_0 : Kd.C k46 w A0_0 l0_0.length l0_0) (hc0_0 : l0_0.length ≤ c0_0) (hm0_0 : l0_0.length ≤ maxLen) (hr0_1 : Kd.C (Kd.slice 3 (Kd.int .i64)) w A0_1 l0_1.length l0_1) (hc0_1 : l0_1.length ≤ c0_1) (hm0_1 : l0_1.length ≤ maxLen) :
  Calls Try.prog 9 #[.agg #[.slice A0_0 l0_0.length c0_0, .slice A0_1 l0_1.length c0_1]] w fun e w' => e = .returned (.bool true) ∧ Below w.heap.size w w' := by
 obtain ⟨k, h⟩ := P l0_0 l0_1 hm0_0 hm0_1
 refine (ontimelaw25_DominatorJoins.calls k A0_0 c0_0 l0_0 A0_1 c0_1 l0_1 true w hr0_0 hc0_0 hr0_1 hc0_1 h).mono ?_
 rintro e w' ⟨rfl, hd⟩
 exact ⟨rfl, hd⟩

end Go.Proofs.Ytnkbmpdghjhlfaa.P
