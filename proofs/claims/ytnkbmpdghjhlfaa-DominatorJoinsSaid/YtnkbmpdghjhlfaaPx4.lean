/- Written by xprint.py: functions, proofs of contracts. -/
import Derived.Test.YtnkbmpdghjhlfaaPx0
import Derived.Test.YtnkbmpdghjhlfaaPx3
namespace Go.Proofs.Ytnkbmpdghjhlfaa.P
open Go.RowKit Go.Proofs.YtnkbmpdghjhlfaaW.PrintWords Go.Proofs.YtnkbmpdghjhlfaaW.PrintLast Go.Proofs.YtnkbmpdghjhlfaaW.PrintMore
attribute [local go_sem] max2_int min2_int max_two min_two max_three min_three max_four min_four   -- for this text's walks alone
set_option linter.unusedVariables false
set_option linter.unusedSimpArgs false

/-! ### ontimeref25_Tree: function 18 -/
mutual
def ontimeref25_Tree.l0 : Nat → List (List Int) → List Int → List Bool → Int → Option (List Int)
 | 0, _, _, _, _ => none
 | k + 1, x0, x3, x4, x5 => if x5 < (x0.length : Int) then (ontimeref25_Tree.l1 k x0 x3 x4 x5 (-1) 0) else (some x3)
def ontimeref25_Tree.l1 : Nat → List (List Int) → List Int → List Bool → Int → Int → Int → Option (List Int)
 | 0, _, _, _, _, _, _ => none
 | k + 1, x0, x3, x4, x5, x6, x7 => if x7 < (x0.length : Int) then (if x5 > 0 then (if 0 ≤ x5 then (if x5 < (x4.length : Int) then (ontimeref25_Tree.j2 k x0 x3 x4 x5 x6 x7 (rdOf false x4 x5)) else (none)) else (none)) else (ontimeref25_Tree.j2 k x0 x3 x4 x5 x6 x7 false)) else (ontimeref25_Tree.j2 k x0 x3 x4 x5 x6 x7 false)
def ontimeref25_Tree.j2 : Nat → List (List Int) → List Int → List Bool → Int → Int → Int → Bool → Option (List Int)
 | 0, _, _, _, _, _, _, _ => none
 | k + 1, x0, x3, x4, x5, x6, x7, x31 => if x31 = true then (if x7 = x5 then (ontimeref25_Tree.j3 k x0 x3 x4 x5 x6 x7 true) else (if 0 ≤ x7 then (if x7 < (x4.length : Int) then (if rdOf false x4 x7 = true then ((ontimeref25_Dominates.f k x0 x7 x5).bind fun t155 => (ontimeref25_Tree.j3 k x0 x3 x4 x5 x6 x7 (!t155))) else (ontimeref25_Tree.j3 k x0 x3 x4 x5 x6 x7 true)) else (none)) else (none))) else (if x3.length < 17592186044416 then (ontimeref25_Tree.l0 k x0 (x3 ++ [x6]) x4 (wrap64 (x5 + 1))) else (none))
def ontimeref25_Tree.j3 : Nat → List (List Int) → List Int → List Bool → Int → Int → Int → Bool → Option (List Int)
 | 0, _, _, _, _, _, _, _ => none
 | k + 1, x0, x3, x4, x5, x6, x7, x50 => if x50 = true then (ontimeref25_Tree.l1 k x0 x3 x4 x5 x6 (wrap64 (x7 + 1))) else (ontimeref25_Tree.l2 k x0 x3 x4 x5 x6 x7 true 0)
def ontimeref25_Tree.l2 : Nat → List (List Int) → List Int → List Bool → Int → Int → Int → Bool → Int → Option (List Int)
 | 0, _, _, _, _, _, _, _, _ => none
 | k + 1, x0, x3, x4, x5, x6, x7, x8, x9 => if x9 < (x0.length : Int) then (if x9 = x5 then (ontimeref25_Tree.l2 k x0 x3 x4 x5 x6 x7 x8 (wrap64 (x9 + 1))) else (if x9 = x7 then (ontimeref25_Tree.l2 k x0 x3 x4 x5 x6 x7 x8 (wrap64 (x9 + 1))) else (if 0 ≤ x9 then (if x9 < (x4.length : Int) then (if rdOf false x4 x9 = true then ((ontimeref25_Dominates.f k x0 x9 x5).bind fun t157 => (if t157 = true then ((ontimeref25_Dominates.f k x0 x9 x7).bind fun t158 => (if t158 = true then (ontimeref25_Tree.l2 k x0 x3 x4 x5 x6 x7 x8 (wrap64 (x9 + 1))) else (ontimeref25_Tree.l2 k x0 x3 x4 x5 x6 x7 false (wrap64 (x9 + 1))))) else (ontimeref25_Tree.l2 k x0 x3 x4 x5 x6 x7 x8 (wrap64 (x9 + 1))))) else (ontimeref25_Tree.l2 k x0 x3 x4 x5 x6 x7 x8 (wrap64 (x9 + 1)))) else (none)) else (none)))) else (if x8 = true then (ontimeref25_Tree.l1 k x0 x3 x4 x5 x7 (wrap64 (x7 + 1))) else (ontimeref25_Tree.l1 k x0 x3 x4 x5 x6 (wrap64 (x7 + 1))))
end
def ontimeref25_Tree.f (k : Nat) (l0 : List (List Int)) : Option (List Int) := (ontimeref25_Reach.f k l0 (-1)).bind fun t147 => (ontimeref25_Tree.l0 k l0 ([] : List Int) t147 0)
theorem ontimeref25_Tree.mono_l : ∀ k, (∀ y0 y1 y2 y3, LeO (ontimeref25_Tree.l0 k y0 y1 y2 y3) (ontimeref25_Tree.l0 (k + 1) y0 y1 y2 y3)) ∧ (∀ y0 y1 y2 y3 y4 y5, LeO (ontimeref25_Tree.l1 k y0 y1 y2 y3 y4 y5) (ontimeref25_Tree.l1 (k + 1) y0 y1 y2 y3 y4 y5)) ∧ (∀ y0 y1 y2 y3 y4 y5 y6, LeO (ontimeref25_Tree.j2 k y0 y1 y2 y3 y4 y5 y6) (ontimeref25_Tree.j2 (k + 1) y0 y1 y2 y3 y4 y5 y6)) ∧ (∀ y0 y1 y2 y3 y4 y5 y6, LeO (ontimeref25_Tree.j3 k y0 y1 y2 y3 y4 y5 y6) (ontimeref25_Tree.j3 (k + 1) y0 y1 y2 y3 y4 y5 y6)) ∧ (∀ y0 y1 y2 y3 y4 y5 y6 y7, LeO (ontimeref25_Tree.l2 k y0 y1 y2 y3 y4 y5 y6 y7) (ontimeref25_Tree.l2 (k + 1) y0 y1 y2 y3 y4 y5 y6 y7))
 | 0 => ⟨fun _ _ _ _ r h => by simp [ontimeref25_Tree.l0] at h, fun _ _ _ _ _ _ r h => by simp [ontimeref25_Tree.l1] at h, fun _ _ _ _ _ _ _ r h => by simp [ontimeref25_Tree.j2] at h, fun _ _ _ _ _ _ _ r h => by simp [ontimeref25_Tree.j3] at h, fun _ _ _ _ _ _ _ _ r h => by simp [ontimeref25_Tree.l2] at h⟩
 | k + 1 => by
  obtain ⟨ih0, ih1, ih2, ih3, ih4⟩ := ontimeref25_Tree.mono_l k
  refine ⟨?_, ?_, ?_, ?_, ?_⟩
  ·intro y0 y1 y2 y3
   unfold ontimeref25_Tree.l0
   repeat' first
   | (with_reducible exact ih0 _ _ _ _)
   | (with_reducible exact ih1 _ _ _ _ _ _)
   | (with_reducible exact ih2 _ _ _ _ _ _ _)
   | (with_reducible exact ih3 _ _ _ _ _ _ _)
   | (with_reducible exact ih4 _ _ _ _ _ _ _ _)
   | (with_reducible exact ontimeref25_Dominates.mono _ _ _ _)
   | (with_reducible exact ontimeref25_Reach.mono _ _ _)
   | (with_reducible exact LeO.refl _)
   | (with_reducible exact LeO.none _)
   | (with_reducible refine LeO.ite ?_ ?_)
   | (with_reducible refine LeO.bind ?_ (fun _ => ?_))
   | exact ih0 _ _ _ _
   | exact ih1 _ _ _ _ _ _
   | exact ih2 _ _ _ _ _ _ _
   | exact ih3 _ _ _ _ _ _ _
   | exact ih4 _ _ _ _ _ _ _ _
   | exact ontimeref25_Dominates.mono _ _ _ _
   | exact ontimeref25_Reach.mono _ _ _
   | exact LeO.none _
   | refine LeO.ite ?_ ?_
   | refine LeO.bind ?_ (fun _ => ?_)
  ·intro y0 y1 y2 y3 y4 y5
   unfold ontimeref25_Tree.l1
   repeat' first
   | (with_reducible exact ih0 _ _ _ _)
   | (with_reducible exact ih1 _ _ _ _ _ _)
   | (with_reducible exact ih2 _ _ _ _ _ _ _)
   | (with_reducible exact ih3 _ _ _ _ _ _ _)
   | (with_reducible exact ih4 _ _ _ _ _ _ _ _)
   | (with_reducible exact ontimeref25_Dominates.mono _ _ _ _)
   | (with_reducible exact ontimeref25_Reach.mono _ _ _)
   | (with_reducible exact LeO.refl _)
   | (with_reducible exact LeO.none _)
   | (with_reducible refine LeO.ite ?_ ?_)
   | (with_reducible refine LeO.bind ?_ (fun _ => ?_))
   | exact ih0 _ _ _ _
   | exact ih1 _ _ _ _ _ _
   | exact ih2 _ _ _ _ _ _ _
   | exact ih3 _ _ _ _ _ _ _
   | exact ih4 _ _ _ _ _ _ _ _
   | exact ontimeref25_Dominates.mono _ _ _ _
   | exact ontimeref25_Reach.mono _ _ _
   | exact LeO.none _
   | refine LeO.ite ?_ ?_
   | refine LeO.bind ?_ (fun _ => ?_)
  ·intro y0 y1 y2 y3 y4 y5 y6
   unfold ontimeref25_Tree.j2
   repeat' first
   | (with_reducible exact ih0 _ _ _ _)
   | (with_reducible exact ih1 _ _ _ _ _ _)
   | (with_reducible exact ih2 _ _ _ _ _ _ _)
   | (with_reducible exact ih3 _ _ _ _ _ _ _)
   | (with_reducible exact ih4 _ _ _ _ _ _ _ _)
   | (with_reducible exact ontimeref25_Dominates.mono _ _ _ _)
   | (with_reducible exact ontimeref25_Reach.mono _ _ _)
   | (with_reducible exact LeO.refl _)
   | (with_reducible exact LeO.none _)
   | (with_reducible refine LeO.ite ?_ ?_)
   | (with_reducible refine LeO.bind ?_ (fun _ => ?_))
   | exact ih0 _ _ _ _
   | exact ih1 _ _ _ _ _ _
   | exact ih2 _ _ _ _ _ _ _
   | exact ih3 _ _ _ _ _ _ _
   | exact ih4 _ _ _ _ _ _ _ _
   | exact ontimeref25_Dominates.mono _ _ _ _
   | exact ontimeref25_Reach.mono _ _ _
   | exact LeO.none _
   | refine LeO.ite ?_ ?_
   | refine LeO.bind ?_ (fun _ => ?_)
  ·intro y0 y1 y2 y3 y4 y5 y6
   unfold ontimeref25_Tree.j3
   repeat' first
   | (with_reducible exact ih0 _ _ _ _)
   | (with_reducible exact ih1 _ _ _ _ _ _)
   | (with_reducible exact ih2 _ _ _ _ _ _ _)
   | (with_reducible exact ih3 _ _ _ _ _ _ _)
   | (with_reducible exact ih4 _ _ _ _ _ _ _ _)
   | (with_reducible exact ontimeref25_Dominates.mono _ _ _ _)
   | (with_reducible exact ontimeref25_Reach.mono _ _ _)
   | (with_reducible exact LeO.refl _)
   | (with_reducible exact LeO.none _)
   | (with_reducible refine LeO.ite ?_ ?_)
   | (with_reducible refine LeO.bind ?_ (fun _ => ?_))
   | exact ih0 _ _ _ _
   | exact ih1 _ _ _ _ _ _
   | exact ih2 _ _ _ _ _ _ _
   | exact ih3 _ _ _ _ _ _ _
   | exact ih4 _ _ _ _ _ _ _ _
   | exact ontimeref25_Dominates.mono _ _ _ _
   | exact ontimeref25_Reach.mono _ _ _
   | exact LeO.none _
   | refine LeO.ite ?_ ?_
   | refine LeO.bind ?_ (fun _ => ?_)
  ·intro y0 y1 y2 y3 y4 y5 y6 y7
   unfold ontimeref25_Tree.l2
   repeat' first
   | (with_reducible exact ih0 _ _ _ _)
   | (with_reducible exact ih1 _ _ _ _ _ _)
   | (with_reducible exact ih2 _ _ _ _ _ _ _)
   | (with_reducible exact ih3 _ _ _ _ _ _ _)
   | (with_reducible exact ih4 _ _ _ _ _ _ _ _)
   | (with_reducible exact ontimeref25_Dominates.mono _ _ _ _)
   | (with_reducible exact ontimeref25_Reach.mono _ _ _)
   | (with_reducible exact LeO.refl _)
   | (with_reducible exact LeO.none _)
   | (with_reducible refine LeO.ite ?_ ?_)
   | (with_reducible refine LeO.bind ?_ (fun _ => ?_))
   | exact ih0 _ _ _ _
   | exact ih1 _ _ _ _ _ _
   | exact ih2 _ _ _ _ _ _ _
   | exact ih3 _ _ _ _ _ _ _
   | exact ih4 _ _ _ _ _ _ _ _
   | exact ontimeref25_Dominates.mono _ _ _ _
   | exact ontimeref25_Reach.mono _ _ _
   | exact LeO.none _
   | refine LeO.ite ?_ ?_
   | refine LeO.bind ?_ (fun _ => ?_)
theorem ontimeref25_Tree.mono : ∀ a0 k, LeO (ontimeref25_Tree.f k a0) (ontimeref25_Tree.f (k + 1) a0) := by
 intro a0 k
 obtain ⟨ih0, ih1, ih2, ih3, ih4⟩ := ontimeref25_Tree.mono_l k
 unfold ontimeref25_Tree.f
 repeat' first
   | (with_reducible exact ih0 _ _ _ _)
   | (with_reducible exact ih1 _ _ _ _ _ _)
   | (with_reducible exact ih2 _ _ _ _ _ _ _)
   | (with_reducible exact ih3 _ _ _ _ _ _ _)
   | (with_reducible exact ih4 _ _ _ _ _ _ _ _)
   | (with_reducible exact ontimeref25_Dominates.mono _ _ _ _)
   | (with_reducible exact ontimeref25_Reach.mono _ _ _)
   | (with_reducible exact LeO.refl _)
   | (with_reducible exact LeO.none _)
   | (with_reducible refine LeO.ite ?_ ?_)
   | (with_reducible refine LeO.bind ?_ (fun _ => ?_))
   | exact ih0 _ _ _ _
   | exact ih1 _ _ _ _ _ _
   | exact ih2 _ _ _ _ _ _ _
   | exact ih3 _ _ _ _ _ _ _
   | exact ih4 _ _ _ _ _ _ _ _
   | exact ontimeref25_Dominates.mono _ _ _ _
   | exact ontimeref25_Reach.mono _ _ _
   | exact LeO.none _
   | refine LeO.ite ?_ ?_
   | refine LeO.bind ?_ (fun _ => ?_)
set_option maxHeartbeats 8000000 in
set_option maxRecDepth 100000 in
theorem ontimeref25_Tree.calls (k : Nat) (A0 : Option Addr) (c0 : Nat) (l0 : List (List Int)) (r : List Int) (w : World) (hr0 : Kd.C (Kd.slice 3 (Kd.int .i64)) w A0 l0.length l0) (hc0 : l0.length ≤ c0) (h : ontimeref25_Tree.f k l0 = some r) :
  Calls Try.prog 18 #[.slice A0 l0.length c0] w fun e w' => ∃ v0_ : Value, e = .returned (v0_) ∧ Kd.R (Kd.int .i64) 3 w' w.heap.size (fun _ => True) v0_ r ∧ Below w.heap.size w w' := by
 have HR0 := Aside0.mk hr0
 have HC0 := Aside0.mk hc0
 clear hr0 hc0
 have HB := Aside0.mk (Below.refl w.heap.size w)
 have H : ((ontimeref25_Reach.f k l0 (-1)).bind fun t147 => (ontimeref25_Tree.l0 k l0 ([] : List Int) t147 0)) = some r := h
 clear h
 replace H := Option.bind_eq_some_iff.mp H
 obtain ⟨t147, A20, H⟩ := H
 replace H : (ontimeref25_Tree.l0 k l0 ([] : List Int) t147 0) = some r := H
 have A2 := Aside0.mk A20
 clear A20
 have H' := Aside0.mk H
 clear H
 go_enter Try.func18, Try.ntmps18
 go_wp2_with (first | ((with_reducible refine gate_callee (f := 20) rfl ?_); refine goesL_ (some 11) rfl rfl Try.func20 (by kernel_rfl) rfl #[.slice A0 l0.length c0, .int .i64 (-1)] rfl (by (try simp only [List.map_toArray, List.map_cons, List.map_nil]); first | done | rfl | (simp only [List.length_drop, List.length_take]; rfl)) ?_; (with_reducible refine (ontimeref25_Reach.calls k _ _ l0 (-1) t147 _ ?side1 ?side2 A2.out).mono ?_); (case side1 => repeat (first | exact HR0.out | (with_reducible refine Kd.C_alloc ?_ _) | (with_reducible refine Kd.C_drewN ?_ _) | (with_reducible refine Kd.C_drew ?_))); (case side2 => exact HC0.out); rintro e w3 ⟨v148, rfl, ho0, hb⟩; refine ⟨_, rfl, ?_⟩; have n0_ := Aside0.mk (Kd.R_lower ho0 (below_size (by repeat (first | (with_reducible first | exact HB.out | apply below_alloc | apply pw_below_drewN | apply below_drew1) | exact HB.out)))); have n1_ := Aside0.mk (below_step (by repeat (first | (with_reducible first | exact HB.out | apply below_alloc | apply pw_below_drewN | apply below_drew1) | exact HB.out)) hb); clear HB; have HO149 := n0_; have HB := n1_; clear n0_ n1_; (try clear hb); (try clear hb2); (try clear hk); (try clear hi); (try clear ho0)))
 go_loopg [3, 5] k (fun kq v3 v5 w' => ∃ (x3_1 : List Int) (x5_1 : Int), v5 = .int .i64 x5_1 ∧ Aside0 (ontimeref25_Tree.l0 kq l0 x3_1 t147 x5_1 = some r) ∧ Aside0 (kq ≤ k) ∧ Aside0 (Kd.R (Kd.int .i64) 3 w' w.heap.size (fun _ => True) v3 x3_1) ∧ Aside0 (Kd.R Kd.bool 4 w' w.heap.size (fun _ => True) v148 t147) ∧ Aside0 (Below w.heap.size w w'))
 case atStart => exact ⟨(([] : List Int)), (0), (by first | rfl | (simp; done) | (simp [*]; done)), H', ⟨Nat.le_refl _⟩, ⟨by first | exact Kd.R_nil _ _ _ _ _ | exact Kd.N_nil _ _ _ _ _ | exact Kd.V_nil _ _ _ _ _ | exact Kd.Q_nil _ _ _ _ _ | exact Kd.S_nil _ _ _ _ _⟩, ⟨by (with_reducible repeat (first | apply Kd.R_alloc | apply Kd.R_drewN | apply Kd.R_drew)); exact HO149.out⟩, ⟨by repeat (first | (with_reducible first | exact HB.out | apply below_alloc | apply pw_below_drewN | apply below_drew1) | exact HB.out)⟩⟩
 case round =>
  clear H'
  try clear c1
  try clear c2
  try clear p2
  obtain ⟨x3_1, x5_1, rfl, HA, HK1, HO_3, HO_4, HB⟩ := hrel
  cases gk with
  | zero => exact absurd HA.out (by simp [ontimeref25_Tree.l0])
  | succ k1 =>
   have H := HA.out
   clear HA
   simp only [ontimeref25_Tree.l0] at H
   by_cases c4 : x5_1 < (l0.length : Int)
   ·rw [if_pos c4] at H
    have c4b0 : decide (x5_1 < (l0.length : Int)) = true := decide_eq_true c4
    clear c4
    have H' := Aside0.mk H
    clear H
    go_wp2
    go_loopg [6, 7] k1 (fun kq v6 v7 w' => ∃ (x6_2 : Int) (x7_2 : Int), v6 = .int .i64 x6_2 ∧ v7 = .int .i64 x7_2 ∧ Aside0 (ontimeref25_Tree.l1 kq l0 x3_1 t147 x5_1 x6_2 x7_2 = some r) ∧ Aside0 (kq ≤ k1) ∧ Aside0 (Kd.R (Kd.int .i64) 3 w' w.heap.size (fun _ => True) u3 x3_1) ∧ Aside0 (Kd.R Kd.bool 4 w' w.heap.size (fun _ => True) v148 t147) ∧ Aside0 (Below w.heap.size w w'))
    case atStart => exact ⟨((-1)), (0), (by first | rfl | (simp; done) | (simp [*]; done)), (by first | rfl | (simp; done) | (simp [*]; done)), H', ⟨Nat.le_refl _⟩, ⟨by (with_reducible repeat (first | apply Kd.R_alloc | apply Kd.R_drewN | apply Kd.R_drew)); exact HO_3.out⟩, ⟨by (with_reducible repeat (first | apply Kd.R_alloc | apply Kd.R_drewN | apply Kd.R_drew)); exact HO_4.out⟩, ⟨by repeat (first | (with_reducible first | exact HB.out | apply below_alloc | apply pw_below_drewN | apply below_drew1) | exact HB.out)⟩⟩
    case round =>
     clear H'
     try clear c1
     try clear c2
     try clear p2
     try clear c4
     try clear c4b0
     try clear p2
     obtain ⟨x6_2, x7_2, rfl, rfl, HA, HK2, HO_3, HO_4, HB⟩ := hrel
     cases gk with
     | zero => exact absurd HA.out (by simp [ontimeref25_Tree.l1])
     | succ k2 =>
      have H := HA.out
      clear HA
      simp only [ontimeref25_Tree.l1] at H
      have HC5 := Aside0.mk H
      clear H
      go_upto_region 8 with (fail)
      go_cut [31] (fun v31 wc => ∃ (kq : Nat) (x31_4 : Bool), v31 = .bool x31_4 ∧ Aside0 (ontimeref25_Tree.j2 kq l0 x3_1 t147 x5_1 x6_2 x7_2 x31_4 = some r) ∧ Aside0 (kq ≤ k2) ∧ Aside0 (Kd.R (Kd.int .i64) 3 wc w.heap.size (fun _ => True) u3 x3_1) ∧ Aside0 (Kd.R Kd.bool 4 wc w.heap.size (fun _ => True) v148 t147) ∧ Aside0 (Below w.heap.size w wc))
      case first =>
       have H := HC5.out
       clear HC5
       by_cases c6 : x7_2 < (l0.length : Int)
       ·rw [if_pos c6] at H
        have c6b0 : decide (x7_2 < (l0.length : Int)) = true := decide_eq_true c6
        clear c6
        (first | rw [c6b0] | (simp only [i64_w, i32_w]; rw [c6b0]) | skip)
        by_cases c7 : x5_1 > 0
        ·rw [if_pos c7] at H
         have c7b0 : decide (0 < x5_1) = true := decide_eq_true c7
         clear c7
         by_cases c8 : 0 ≤ x5_1
         ·rw [if_pos c8] at H
          have c8b0 : decide (0 ≤ x5_1) = true := decide_eq_true c8
          clear c8
          by_cases c9 : x5_1 < (t147.length : Int)
          ·rw [if_pos c9] at H
           have c9b0 : decide (x5_1 < (t147.length : Int)) = true := decide_eq_true c9
           clear c9
           have H' := Aside0.mk H
           clear H
           obtain ⟨Ao10, co10, eo10⟩ := Kd.R_slice HO_4.out
           subst eo10
           have p150 : 0 ≤ (x5_1 : Int) := of_decide_eq_true (by first | (with_reducible assumption) | assumption)
           have q150 : x5_1 < (t147.length : Int) := of_decide_eq_true (by first | (with_reducible assumption) | assumption)
           obtain ⟨ad150, e150, hx150_0⟩ := Kd.at_bool (Kd.R_reads' HO_4.out).2.2 x5_1 p150 q150
           cases e150
           replace p150 := eq_true p150
           replace q150 := eq_true q150
           go_wp2
           go_meet
           case rel => exact ⟨_, (rdOf false t147 x5_1), (by first | rfl | (simp; done) | (simp [*]; done)), H', ⟨by have := HK1.out; have := HK2.out; first | omega | exact Nat.le_refl _⟩, ⟨by (with_reducible repeat (first | apply Kd.R_alloc | apply Kd.R_drewN | apply Kd.R_drew)); exact HO_3.out⟩, ⟨by (with_reducible repeat (first | apply Kd.R_alloc | apply Kd.R_drewN | apply Kd.R_drew)); exact HO_4.out⟩, ⟨by repeat (first | (with_reducible first | exact HB.out | apply below_alloc | apply pw_below_drewN | apply below_drew1) | exact HB.out)⟩⟩
          ·rw [if_neg c9] at H
           exact absurd H (by simp)
         ·rw [if_neg c8] at H
          exact absurd H (by simp)
        ·rw [if_neg c7] at H
         have c7b0 : decide (0 < x5_1) = false := decide_eq_false c7
         clear c7
         have H' := Aside0.mk H
         clear H
         go_wp2
         go_meet
         case rel => exact ⟨_, (false), (by first | rfl | (simp; done) | (simp [*]; done)), H', ⟨by have := HK1.out; have := HK2.out; first | omega | exact Nat.le_refl _⟩, ⟨by (with_reducible repeat (first | apply Kd.R_alloc | apply Kd.R_drewN | apply Kd.R_drew)); exact HO_3.out⟩, ⟨by (with_reducible repeat (first | apply Kd.R_alloc | apply Kd.R_drewN | apply Kd.R_drew)); exact HO_4.out⟩, ⟨by repeat (first | (with_reducible first | exact HB.out | apply below_alloc | apply pw_below_drewN | apply below_drew1) | exact HB.out)⟩⟩
       ·rw [if_neg c6] at H
        have c6b0 : decide (x7_2 < (l0.length : Int)) = false := decide_eq_false c6
        clear c6
        (first | rw [c6b0] | (simp only [i64_w, i32_w]; rw [c6b0]) | skip)
        have H' := Aside0.mk H
        clear H
        go_wp2
        go_meet
        case rel => exact ⟨_, (false), (by first | rfl | (simp; done) | (simp [*]; done)), H', ⟨by have := HK1.out; have := HK2.out; first | omega | exact Nat.le_refl _⟩, ⟨by (with_reducible repeat (first | apply Kd.R_alloc | apply Kd.R_drewN | apply Kd.R_drew)); exact HO_3.out⟩, ⟨by (with_reducible repeat (first | apply Kd.R_alloc | apply Kd.R_drewN | apply Kd.R_drew)); exact HO_4.out⟩, ⟨by repeat (first | (with_reducible first | exact HB.out | apply below_alloc | apply pw_below_drewN | apply below_drew1) | exact HB.out)⟩⟩
      case rest =>
       clear HC5
       try clear c1
       try clear p1
       try clear q1
       try clear hx1
       try clear c2
       try clear p2
       try clear c4
       try clear c4b0
       try clear c6
       try clear c6b0
       try clear c7
       try clear c7b0
       try clear c8
       try clear c8b0
       try clear c9
       try clear c9b0
       try clear hx150_0
       try clear p150
       try clear p2
       try clear q150
       obtain ⟨kq, x31_4, rfl, HA, HJ4, HO_3, HO_4, HB⟩ := hcut
       cases kq with
       | zero => exact absurd HA.out (by simp [ontimeref25_Tree.j2])
       | succ kj4 =>
        have H := HA.out
        clear HA
        simp only [ontimeref25_Tree.j2] at H
        by_cases c11 : x31_4 = true
        ·subst c11
         have H1 : (if x7_2 = x5_1 then (ontimeref25_Tree.j3 kj4 l0 x3_1 t147 x5_1 x6_2 x7_2 true) else (if 0 ≤ x7_2 then (if x7_2 < (t147.length : Int) then (if rdOf false t147 x7_2 = true then ((ontimeref25_Dominates.f kj4 l0 x7_2 x5_1).bind fun t155 => (ontimeref25_Tree.j3 kj4 l0 x3_1 t147 x5_1 x6_2 x7_2 (!t155))) else (ontimeref25_Tree.j3 kj4 l0 x3_1 t147 x5_1 x6_2 x7_2 true)) else (none)) else (none))) = some r := by rw [if_pos rfl] at H; exact H
         clear H
         have H := H1
         clear H1
         have HC12 := Aside0.mk H
         clear H
         go_upto_region 10 with (fail)
         go_cut [50] (fun v50 wc => ∃ (kq : Nat) (x50_11 : Bool), v50 = .bool x50_11 ∧ Aside0 (ontimeref25_Tree.j3 kq l0 x3_1 t147 x5_1 x6_2 x7_2 x50_11 = some r) ∧ Aside0 (kq ≤ kj4) ∧ Aside0 (Kd.R (Kd.int .i64) 3 wc w.heap.size (fun _ => True) u3 x3_1) ∧ Aside0 (Kd.R Kd.bool 4 wc w.heap.size (fun _ => True) v148 t147) ∧ Aside0 (Below w.heap.size w wc))
         case first =>
          have H := HC12.out
          clear HC12
          by_cases c13 : x7_2 = x5_1
          ·rw [if_pos c13] at H
           have c13b0 : (x7_2 == x5_1) = true := beq_iff_eq.mpr c13
           have c13b1 : (x7_2 != x5_1) = false := bne_eq_false_iff_eq.mpr c13
           clear c13
           (first | rw [c13b0] | (simp only [i64_w, i32_w]; rw [c13b0]) | skip)
           have H' := Aside0.mk H
           clear H
           go_wp2
           go_meet
           case rel => exact ⟨_, (true), (by first | rfl | (simp; done) | (simp [*]; done)), H', ⟨by have := HK1.out; have := HK2.out; have := HJ4.out; first | omega | exact Nat.le_refl _⟩, ⟨by (with_reducible repeat (first | apply Kd.R_alloc | apply Kd.R_drewN | apply Kd.R_drew)); exact HO_3.out⟩, ⟨by (with_reducible repeat (first | apply Kd.R_alloc | apply Kd.R_drewN | apply Kd.R_drew)); exact HO_4.out⟩, ⟨by repeat (first | (with_reducible first | exact HB.out | apply below_alloc | apply pw_below_drewN | apply below_drew1) | exact HB.out)⟩⟩
          ·rw [if_neg c13] at H
           have c13b0 : (x7_2 == x5_1) = false := beq_eq_false_iff_ne.mpr c13
           have c13b1 : (x7_2 != x5_1) = true := bne_iff_ne.mpr c13
           (first | rw [c13b0] | (simp only [i64_w, i32_w]; rw [c13b0]) | skip)
           by_cases c14 : 0 ≤ x7_2
           ·rw [if_pos c14] at H
            have c14b0 : decide (0 ≤ x7_2) = true := decide_eq_true c14
            clear c14
            by_cases c15 : x7_2 < (t147.length : Int)
            ·rw [if_pos c15] at H
             have c15b0 : decide (x7_2 < (t147.length : Int)) = true := decide_eq_true c15
             clear c15
             obtain ⟨bq16, hbq16⟩ : ∃ b_ : Bool, b_ = (rdOf false t147 x7_2) := ⟨_, rfl⟩
             replace H : (if bq16 = true then ((ontimeref25_Dominates.f kj4 l0 x7_2 x5_1).bind fun t155 => (ontimeref25_Tree.j3 kj4 l0 x3_1 t147 x5_1 x6_2 x7_2 (!t155))) else (ontimeref25_Tree.j3 kj4 l0 x3_1 t147 x5_1 x6_2 x7_2 true)) = some r := by rw [← hbq16] at H; exact H
             have Nbq16 := Aside0.mk hbq16
             clear hbq16
             by_cases c17 : bq16 = true
             ·subst c17
              have H1 : ((ontimeref25_Dominates.f kj4 l0 x7_2 x5_1).bind fun t155 => (ontimeref25_Tree.j3 kj4 l0 x3_1 t147 x5_1 x6_2 x7_2 (!t155))) = some r := by rw [if_pos rfl] at H; exact H
              clear H
              have H := H1
              clear H1
              replace H := Option.bind_eq_some_iff.mp H
              obtain ⟨t155, A180, H⟩ := H
              replace H : (ontimeref25_Tree.j3 kj4 l0 x3_1 t147 x5_1 x6_2 x7_2 (!t155)) = some r := H
              have A18 := Aside0.mk A180
              clear A180
              have H' := Aside0.mk H
              clear H
              obtain ⟨Ao19, co19, eo19⟩ := Kd.R_slice HO_4.out
              subst eo19
              have p154 : 0 ≤ (x7_2 : Int) := of_decide_eq_true (by first | (with_reducible assumption) | assumption)
              have q154 : x7_2 < (t147.length : Int) := of_decide_eq_true (by first | (with_reducible assumption) | assumption)
              obtain ⟨ad154, e154, hx154_0⟩ := Kd.at_bool (Kd.R_reads' HO_4.out).2.2 x7_2 p154 q154
              (try rw [← Nbq16.out] at hx154_0)
              cases e154
              replace p154 := eq_true p154
              replace q154 := eq_true q154
              go_wp2_with (first | (go_at_call 21; (with_reducible refine (ontimeref25_Dominates.calls kj4 _ _ l0 x7_2 x5_1 t155 _ ?side1 ?side2 A18.out).mono ?_); (case side1 => repeat (first | exact (Kd.C_below HR0.out HB.out) | (with_reducible refine Kd.C_alloc ?_ _) | (with_reducible refine Kd.C_drewN ?_ _) | (with_reducible refine Kd.C_drew ?_))); (case side2 => exact HC0.out); rintro e w20 ⟨rfl, hb⟩; have n0_ := Aside0.mk (Kd.R_below (by (with_reducible repeat (first | apply Kd.R_alloc | apply Kd.R_drewN | apply Kd.R_drew)); exact HO_3.out) hb); have n1_ := Aside0.mk (Kd.R_below (by (with_reducible repeat (first | apply Kd.R_alloc | apply Kd.R_drewN | apply Kd.R_drew)); exact HO_4.out) hb); have n2_ := Aside0.mk (below_step (by repeat (first | (with_reducible first | exact HB.out | apply below_alloc | apply pw_below_drewN | apply below_drew1) | exact HB.out)) hb); clear HO_3; clear HO_4; clear HB; have HO_3 := n0_; have HO_4 := n1_; have HB := n2_; clear n0_ n1_ n2_; (try clear hb); (try clear hb2); (try clear hk); (try clear hi)))
              go_meet
              case rel => exact ⟨_, (!t155), (by first | rfl | (simp; done) | (simp [*]; done)), H', ⟨by have := HK1.out; have := HK2.out; have := HJ4.out; first | omega | exact Nat.le_refl _⟩, ⟨by (with_reducible repeat (first | apply Kd.R_alloc | apply Kd.R_drewN | apply Kd.R_drew)); exact HO_3.out⟩, ⟨by (with_reducible repeat (first | apply Kd.R_alloc | apply Kd.R_drewN | apply Kd.R_drew)); exact HO_4.out⟩, ⟨by repeat (first | (with_reducible first | exact HB.out | apply below_alloc | apply pw_below_drewN | apply below_drew1) | exact HB.out)⟩⟩
             ·replace c17 := Bool.eq_false_iff.mpr c17
              subst c17
              have H1 : (ontimeref25_Tree.j3 kj4 l0 x3_1 t147 x5_1 x6_2 x7_2 true) = some r := by rw [if_neg (show ¬ (false = true) by decide)] at H; exact H
              clear H
              have H := H1
              clear H1
              have H' := Aside0.mk H
              clear H
              obtain ⟨Ao21, co21, eo21⟩ := Kd.R_slice HO_4.out
              subst eo21
              have p154 : 0 ≤ (x7_2 : Int) := of_decide_eq_true (by first | (with_reducible assumption) | assumption)
              have q154 : x7_2 < (t147.length : Int) := of_decide_eq_true (by first | (with_reducible assumption) | assumption)
              obtain ⟨ad154, e154, hx154_0⟩ := Kd.at_bool (Kd.R_reads' HO_4.out).2.2 x7_2 p154 q154
              (try rw [← Nbq16.out] at hx154_0)
              cases e154
              replace p154 := eq_true p154
              replace q154 := eq_true q154
              go_wp2
              go_meet
              case rel => exact ⟨_, (true), (by first | rfl | (simp; done) | (simp [*]; done)), H', ⟨by have := HK1.out; have := HK2.out; have := HJ4.out; first | omega | exact Nat.le_refl _⟩, ⟨by (with_reducible repeat (first | apply Kd.R_alloc | apply Kd.R_drewN | apply Kd.R_drew)); exact HO_3.out⟩, ⟨by (with_reducible repeat (first | apply Kd.R_alloc | apply Kd.R_drewN | apply Kd.R_drew)); exact HO_4.out⟩, ⟨by repeat (first | (with_reducible first | exact HB.out | apply below_alloc | apply pw_below_drewN | apply below_drew1) | exact HB.out)⟩⟩
            ·rw [if_neg c15] at H
             exact absurd H (by simp)
           ·rw [if_neg c14] at H
            exact absurd H (by simp)
         case rest =>
          clear HC12
          try clear c1
          try clear p1
          try clear q1
          try clear hx1
          try clear c2
          try clear p2
          try clear c4
          try clear c4b0
          try clear c6
          try clear c6b0
          try clear c7
          try clear c7b0
          try clear c8
          try clear c8b0
          try clear c9
          try clear c9b0
          try clear c11
          try clear c13
          try clear c13b0
          try clear c13b1
          try clear c14
          try clear c14b0
          try clear c15
          try clear c15b0
          try clear p15
          try clear q15
          try clear hx15
          try clear q16
          try clear c17
          try clear c18
          try clear c20
          try clear hx150_0
          try clear hx154_0
          try clear p1
          try clear p150
          try clear p154
          try clear p2
          try clear q1
          try clear q150
          try clear q154
          obtain ⟨kq, x50_11, rfl, HA, HJ11, HO_3, HO_4, HB⟩ := hcut
          cases kq with
          | zero => exact absurd HA.out (by simp [ontimeref25_Tree.j3])
          | succ kj11 =>
           have H := HA.out
           clear HA
           simp only [ontimeref25_Tree.j3] at H
           by_cases c22 : x50_11 = true
           ·subst c22
            have H1 : (ontimeref25_Tree.l1 kj11 l0 x3_1 t147 x5_1 x6_2 (wrap64 (x7_2 + 1))) = some r := by rw [if_pos rfl] at H; exact H
            clear H
            have H := H1
            clear H1
            have H' := Aside0.mk H
            clear H
            go_wp2
            go_roundg kj11
            case measure => have := HK1.out; have := HK2.out; have := HJ4.out; have := HJ11.out; omega
            case rel => exact ⟨(x6_2), (wrap64 (x7_2 + 1)), (by first | rfl | (simp; done) | (simp [*]; done)), (by first | rfl | (simp; done) | (simp [*]; done)), H', ⟨by have := HK1.out; have := HK2.out; have := HJ4.out; have := HJ11.out; omega⟩, ⟨by (with_reducible repeat (first | apply Kd.R_alloc | apply Kd.R_drewN | apply Kd.R_drew)); exact HO_3.out⟩, ⟨by (with_reducible repeat (first | apply Kd.R_alloc | apply Kd.R_drewN | apply Kd.R_drew)); exact HO_4.out⟩, ⟨by repeat (first | (with_reducible first | exact HB.out | apply below_alloc | apply pw_below_drewN | apply below_drew1) | exact HB.out)⟩⟩
           ·replace c22 := Bool.eq_false_iff.mpr c22
            subst c22
            have H1 : (ontimeref25_Tree.l2 kj11 l0 x3_1 t147 x5_1 x6_2 x7_2 true 0) = some r := by rw [if_neg (show ¬ (false = true) by decide)] at H; exact H
            clear H
            have H := H1
            clear H1
            have H' := Aside0.mk H
            clear H
            go_wp2
            go_loopg [8, 9] kj11 (fun kq v8 v9 w' => ∃ (x8_5 : Bool) (x9_5 : Int), v8 = .bool x8_5 ∧ v9 = .int .i64 x9_5 ∧ Aside0 (ontimeref25_Tree.l2 kq l0 x3_1 t147 x5_1 x6_2 x7_2 x8_5 x9_5 = some r) ∧ Aside0 (kq ≤ kj11) ∧ Aside0 (Kd.R (Kd.int .i64) 3 w' w.heap.size (fun _ => True) u3 x3_1) ∧ Aside0 (Kd.R Kd.bool 4 w' w.heap.size (fun _ => True) v148 t147) ∧ Aside0 (Below w.heap.size w w'))
            case atStart => exact ⟨(true), (0), (by first | rfl | (simp; done) | (simp [*]; done)), (by first | rfl | (simp; done) | (simp [*]; done)), H', ⟨Nat.le_refl _⟩, ⟨by (with_reducible repeat (first | apply Kd.R_alloc | apply Kd.R_drewN | apply Kd.R_drew)); exact HO_3.out⟩, ⟨by (with_reducible repeat (first | apply Kd.R_alloc | apply Kd.R_drewN | apply Kd.R_drew)); exact HO_4.out⟩, ⟨by repeat (first | (with_reducible first | exact HB.out | apply below_alloc | apply pw_below_drewN | apply below_drew1) | exact HB.out)⟩⟩
            case round =>
             clear H'
             try clear c1
             try clear p1
             try clear q1
             try clear hx1
             try clear c2
             try clear p2
             try clear c4
             try clear c4b0
             try clear c6
             try clear c6b0
             try clear p6
             try clear c7
             try clear c7b0
             try clear c8
             try clear c8b0
             try clear c9
             try clear c9b0
             try clear c11
             try clear c13
             try clear c13b0
             try clear c13b1
             try clear c14
             try clear c14b0
             try clear c15
             try clear c15b0
             try clear p15
             try clear q15
             try clear hx15
             try clear q16
             try clear c17
             try clear c18
             try clear c20
             try clear c22
             try clear hx150_0
             try clear hx154_0
             try clear p1
             try clear p15
             try clear p150
             try clear p154
             try clear p2
             try clear q1
             try clear q15
             try clear q150
             try clear q154
             try clear q16
             obtain ⟨x8_5, x9_5, rfl, rfl, HA, HK5, HO_3, HO_4, HB⟩ := hrel
             cases gk with
             | zero => exact absurd HA.out (by simp [ontimeref25_Tree.l2])
             | succ k5 =>
              have H := HA.out
              clear HA
              simp only [ontimeref25_Tree.l2] at H
              by_cases c23 : x9_5 < (l0.length : Int)
              ·rw [if_pos c23] at H
               have c23b0 : decide (x9_5 < (l0.length : Int)) = true := decide_eq_true c23
               clear c23
               by_cases c24 : x9_5 = x5_1
               ·rw [if_pos c24] at H
                have c24b0 : (x9_5 == x5_1) = true := beq_iff_eq.mpr c24
                have c24b1 : (x9_5 != x5_1) = false := bne_eq_false_iff_eq.mpr c24
                clear c24
                have H' := Aside0.mk H
                clear H
                go_wp2
                go_roundg k5
                case measure => have := HK1.out; have := HK2.out; have := HJ4.out; have := HJ11.out; have := HK5.out; omega
                case rel => exact ⟨(x8_5), (wrap64 (x9_5 + 1)), (by first | rfl | (simp; done) | (simp [*]; done)), (by first | rfl | (simp; done) | (simp [*]; done)), H', ⟨by have := HK1.out; have := HK2.out; have := HJ4.out; have := HJ11.out; have := HK5.out; omega⟩, ⟨by (with_reducible repeat (first | apply Kd.R_alloc | apply Kd.R_drewN | apply Kd.R_drew)); exact HO_3.out⟩, ⟨by (with_reducible repeat (first | apply Kd.R_alloc | apply Kd.R_drewN | apply Kd.R_drew)); exact HO_4.out⟩, ⟨by repeat (first | (with_reducible first | exact HB.out | apply below_alloc | apply pw_below_drewN | apply below_drew1) | exact HB.out)⟩⟩
               ·rw [if_neg c24] at H
                have c24b0 : (x9_5 == x5_1) = false := beq_eq_false_iff_ne.mpr c24
                have c24b1 : (x9_5 != x5_1) = true := bne_iff_ne.mpr c24
                by_cases c25 : x9_5 = x7_2
                ·rw [if_pos c25] at H
                 have c25b0 : (x9_5 == x7_2) = true := beq_iff_eq.mpr c25
                 have c25b1 : (x9_5 != x7_2) = false := bne_eq_false_iff_eq.mpr c25
                 clear c25
                 have H' := Aside0.mk H
                 clear H
                 go_wp2
                 go_roundg k5
                 case measure => have := HK1.out; have := HK2.out; have := HJ4.out; have := HJ11.out; have := HK5.out; omega
                 case rel => exact ⟨(x8_5), (wrap64 (x9_5 + 1)), (by first | rfl | (simp; done) | (simp [*]; done)), (by first | rfl | (simp; done) | (simp [*]; done)), H', ⟨by have := HK1.out; have := HK2.out; have := HJ4.out; have := HJ11.out; have := HK5.out; omega⟩, ⟨by (with_reducible repeat (first | apply Kd.R_alloc | apply Kd.R_drewN | apply Kd.R_drew)); exact HO_3.out⟩, ⟨by (with_reducible repeat (first | apply Kd.R_alloc | apply Kd.R_drewN | apply Kd.R_drew)); exact HO_4.out⟩, ⟨by repeat (first | (with_reducible first | exact HB.out | apply below_alloc | apply pw_below_drewN | apply below_drew1) | exact HB.out)⟩⟩
                ·rw [if_neg c25] at H
                 have c25b0 : (x9_5 == x7_2) = false := beq_eq_false_iff_ne.mpr c25
                 have c25b1 : (x9_5 != x7_2) = true := bne_iff_ne.mpr c25
                 by_cases c26 : 0 ≤ x9_5
                 ·rw [if_pos c26] at H
                  have c26b0 : decide (0 ≤ x9_5) = true := decide_eq_true c26
                  clear c26
                  by_cases c27 : x9_5 < (t147.length : Int)
                  ·rw [if_pos c27] at H
                   have c27b0 : decide (x9_5 < (t147.length : Int)) = true := decide_eq_true c27
                   clear c27
                   obtain ⟨bq28, hbq28⟩ : ∃ b_ : Bool, b_ = (rdOf false t147 x9_5) := ⟨_, rfl⟩
                   replace H : (if bq28 = true then ((ontimeref25_Dominates.f k5 l0 x9_5 x5_1).bind fun t157 => (if t157 = true then ((ontimeref25_Dominates.f k5 l0 x9_5 x7_2).bind fun t158 => (if t158 = true then (ontimeref25_Tree.l2 k5 l0 x3_1 t147 x5_1 x6_2 x7_2 x8_5 (wrap64 (x9_5 + 1))) else (ontimeref25_Tree.l2 k5 l0 x3_1 t147 x5_1 x6_2 x7_2 false (wrap64 (x9_5 + 1))))) else (ontimeref25_Tree.l2 k5 l0 x3_1 t147 x5_1 x6_2 x7_2 x8_5 (wrap64 (x9_5 + 1))))) else (ontimeref25_Tree.l2 k5 l0 x3_1 t147 x5_1 x6_2 x7_2 x8_5 (wrap64 (x9_5 + 1)))) = some r := by rw [← hbq28] at H; exact H
                   have Nbq28 := Aside0.mk hbq28
                   clear hbq28
                   by_cases c29 : bq28 = true
                   ·subst c29
                    have H1 : ((ontimeref25_Dominates.f k5 l0 x9_5 x5_1).bind fun t157 => (if t157 = true then ((ontimeref25_Dominates.f k5 l0 x9_5 x7_2).bind fun t158 => (if t158 = true then (ontimeref25_Tree.l2 k5 l0 x3_1 t147 x5_1 x6_2 x7_2 x8_5 (wrap64 (x9_5 + 1))) else (ontimeref25_Tree.l2 k5 l0 x3_1 t147 x5_1 x6_2 x7_2 false (wrap64 (x9_5 + 1))))) else (ontimeref25_Tree.l2 k5 l0 x3_1 t147 x5_1 x6_2 x7_2 x8_5 (wrap64 (x9_5 + 1))))) = some r := by rw [if_pos rfl] at H; exact H
                    clear H
                    have H := H1
                    clear H1
                    replace H := Option.bind_eq_some_iff.mp H
                    obtain ⟨t157, A300, H⟩ := H
                    replace H : (if t157 = true then ((ontimeref25_Dominates.f k5 l0 x9_5 x7_2).bind fun t158 => (if t158 = true then (ontimeref25_Tree.l2 k5 l0 x3_1 t147 x5_1 x6_2 x7_2 x8_5 (wrap64 (x9_5 + 1))) else (ontimeref25_Tree.l2 k5 l0 x3_1 t147 x5_1 x6_2 x7_2 false (wrap64 (x9_5 + 1))))) else (ontimeref25_Tree.l2 k5 l0 x3_1 t147 x5_1 x6_2 x7_2 x8_5 (wrap64 (x9_5 + 1)))) = some r := H
                    have A30 := Aside0.mk A300
                    clear A300
                    by_cases c31 : t157 = true
                    ·subst c31
                     have H1 : ((ontimeref25_Dominates.f k5 l0 x9_5 x7_2).bind fun t158 => (if t158 = true then (ontimeref25_Tree.l2 k5 l0 x3_1 t147 x5_1 x6_2 x7_2 x8_5 (wrap64 (x9_5 + 1))) else (ontimeref25_Tree.l2 k5 l0 x3_1 t147 x5_1 x6_2 x7_2 false (wrap64 (x9_5 + 1))))) = some r := by rw [if_pos rfl] at H; exact H
                     clear H
                     have H := H1
                     clear H1
                     replace H := Option.bind_eq_some_iff.mp H
                     obtain ⟨t158, A320, H⟩ := H
                     replace H : (if t158 = true then (ontimeref25_Tree.l2 k5 l0 x3_1 t147 x5_1 x6_2 x7_2 x8_5 (wrap64 (x9_5 + 1))) else (ontimeref25_Tree.l2 k5 l0 x3_1 t147 x5_1 x6_2 x7_2 false (wrap64 (x9_5 + 1)))) = some r := H
                     have A32 := Aside0.mk A320
                     clear A320
                     by_cases c33 : t158 = true
                     ·subst c33
                      have H1 : (ontimeref25_Tree.l2 k5 l0 x3_1 t147 x5_1 x6_2 x7_2 x8_5 (wrap64 (x9_5 + 1))) = some r := by rw [if_pos rfl] at H; exact H
                      clear H
                      have H := H1
                      clear H1
                      have H' := Aside0.mk H
                      clear H
                      obtain ⟨Ao34, co34, eo34⟩ := Kd.R_slice HO_4.out
                      subst eo34
                      have p156 : 0 ≤ (x9_5 : Int) := of_decide_eq_true (by first | (with_reducible assumption) | assumption)
                      have q156 : x9_5 < (t147.length : Int) := of_decide_eq_true (by first | (with_reducible assumption) | assumption)
                      obtain ⟨ad156, e156, hx156_0⟩ := Kd.at_bool (Kd.R_reads' HO_4.out).2.2 x9_5 p156 q156
                      (try rw [← Nbq28.out] at hx156_0)
                      cases e156
                      replace p156 := eq_true p156
                      replace q156 := eq_true q156
                      go_wp2_with (first | (go_at_call 21; (with_reducible refine (ontimeref25_Dominates.calls k5 _ _ l0 x9_5 x5_1 true _ ?side1 ?side2 A30.out).mono ?_); (case side1 => repeat (first | exact (Kd.C_below HR0.out HB.out) | (with_reducible refine Kd.C_alloc ?_ _) | (with_reducible refine Kd.C_drewN ?_ _) | (with_reducible refine Kd.C_drew ?_))); (case side2 => exact HC0.out); rintro e w35 ⟨rfl, hb⟩; have n0_ := Aside0.mk (Kd.R_below (by (with_reducible repeat (first | apply Kd.R_alloc | apply Kd.R_drewN | apply Kd.R_drew)); exact HO_3.out) hb); have n1_ := Aside0.mk (Kd.R_below (by (with_reducible repeat (first | apply Kd.R_alloc | apply Kd.R_drewN | apply Kd.R_drew)); exact HO_4.out) hb); have n2_ := Aside0.mk (below_step (by repeat (first | (with_reducible first | exact HB.out | apply below_alloc | apply pw_below_drewN | apply below_drew1) | exact HB.out)) hb); clear HO_3; clear HO_4; clear HB; have HO_3 := n0_; have HO_4 := n1_; have HB := n2_; clear n0_ n1_ n2_; (try clear hb); (try clear hb2); (try clear hk); (try clear hi)) | (go_at_call 21; (with_reducible refine (ontimeref25_Dominates.calls k5 _ _ l0 x9_5 x7_2 true _ ?side1 ?side2 A32.out).mono ?_); (case side1 => repeat (first | exact (Kd.C_below HR0.out HB.out) | (with_reducible refine Kd.C_alloc ?_ _) | (with_reducible refine Kd.C_drewN ?_ _) | (with_reducible refine Kd.C_drew ?_))); (case side2 => exact HC0.out); rintro e w36 ⟨rfl, hb⟩; have n0_ := Aside0.mk (Kd.R_below (by (with_reducible repeat (first | apply Kd.R_alloc | apply Kd.R_drewN | apply Kd.R_drew)); exact HO_3.out) hb); have n1_ := Aside0.mk (Kd.R_below (by (with_reducible repeat (first | apply Kd.R_alloc | apply Kd.R_drewN | apply Kd.R_drew)); exact HO_4.out) hb); have n2_ := Aside0.mk (below_step (by repeat (first | (with_reducible first | exact HB.out | apply below_alloc | apply pw_below_drewN | apply below_drew1) | exact HB.out)) hb); clear HO_3; clear HO_4; clear HB; have HO_3 := n0_; have HO_4 := n1_; have HB := n2_; clear n0_ n1_ n2_; (try clear hb); (try clear hb2); (try clear hk); (try clear hi)))
                      go_roundg k5
                      case measure => have := HK1.out; have := HK2.out; have := HJ4.out; have := HJ11.out; have := HK5.out; omega
                      case rel => exact ⟨(x8_5), (wrap64 (x9_5 + 1)), (by first | rfl | (simp; done) | (simp [*]; done)), (by first | rfl | (simp; done) | (simp [*]; done)), H', ⟨by have := HK1.out; have := HK2.out; have := HJ4.out; have := HJ11.out; have := HK5.out; omega⟩, ⟨by (with_reducible repeat (first | apply Kd.R_alloc | apply Kd.R_drewN | apply Kd.R_drew)); exact HO_3.out⟩, ⟨by (with_reducible repeat (first | apply Kd.R_alloc | apply Kd.R_drewN | apply Kd.R_drew)); exact HO_4.out⟩, ⟨by repeat (first | (with_reducible first | exact HB.out | apply below_alloc | apply pw_below_drewN | apply below_drew1) | exact HB.out)⟩⟩
                     ·replace c33 := Bool.eq_false_iff.mpr c33
                      subst c33
                      have H1 : (ontimeref25_Tree.l2 k5 l0 x3_1 t147 x5_1 x6_2 x7_2 false (wrap64 (x9_5 + 1))) = some r := by rw [if_neg (show ¬ (false = true) by decide)] at H; exact H
                      clear H
                      have H := H1
                      clear H1
                      have H' := Aside0.mk H
                      clear H
                      obtain ⟨Ao37, co37, eo37⟩ := Kd.R_slice HO_4.out
                      subst eo37
                      have p156 : 0 ≤ (x9_5 : Int) := of_decide_eq_true (by first | (with_reducible assumption) | assumption)
                      have q156 : x9_5 < (t147.length : Int) := of_decide_eq_true (by first | (with_reducible assumption) | assumption)
                      obtain ⟨ad156, e156, hx156_0⟩ := Kd.at_bool (Kd.R_reads' HO_4.out).2.2 x9_5 p156 q156
                      (try rw [← Nbq28.out] at hx156_0)
                      cases e156
                      replace p156 := eq_true p156
                      replace q156 := eq_true q156
                      go_wp2_with (first | (go_at_call 21; (with_reducible refine (ontimeref25_Dominates.calls k5 _ _ l0 x9_5 x5_1 true _ ?side1 ?side2 A30.out).mono ?_); (case side1 => repeat (first | exact (Kd.C_below HR0.out HB.out) | (with_reducible refine Kd.C_alloc ?_ _) | (with_reducible refine Kd.C_drewN ?_ _) | (with_reducible refine Kd.C_drew ?_))); (case side2 => exact HC0.out); rintro e w38 ⟨rfl, hb⟩; have n0_ := Aside0.mk (Kd.R_below (by (with_reducible repeat (first | apply Kd.R_alloc | apply Kd.R_drewN | apply Kd.R_drew)); exact HO_3.out) hb); have n1_ := Aside0.mk (Kd.R_below (by (with_reducible repeat (first | apply Kd.R_alloc | apply Kd.R_drewN | apply Kd.R_drew)); exact HO_4.out) hb); have n2_ := Aside0.mk (below_step (by repeat (first | (with_reducible first | exact HB.out | apply below_alloc | apply pw_below_drewN | apply below_drew1) | exact HB.out)) hb); clear HO_3; clear HO_4; clear HB; have HO_3 := n0_; have HO_4 := n1_; have HB := n2_; clear n0_ n1_ n2_; (try clear hb); (try clear hb2); (try clear hk); (try clear hi)) | (go_at_call 21; (with_reducible refine (ontimeref25_Dominates.calls k5 _ _ l0 x9_5 x7_2 false _ ?side1 ?side2 A32.out).mono ?_); (case side1 => repeat (first | exact (Kd.C_below HR0.out HB.out) | (with_reducible refine Kd.C_alloc ?_ _) | (with_reducible refine Kd.C_drewN ?_ _) | (with_reducible refine Kd.C_drew ?_))); (case side2 => exact HC0.out); rintro e w39 ⟨rfl, hb⟩; have n0_ := Aside0.mk (Kd.R_below (by (with_reducible repeat (first | apply Kd.R_alloc | apply Kd.R_drewN | apply Kd.R_drew)); exact HO_3.out) hb); have n1_ := Aside0.mk (Kd.R_below (by (with_reducible repeat (first | apply Kd.R_alloc | apply Kd.R_drewN | apply Kd.R_drew)); exact HO_4.out) hb); have n2_ := Aside0.mk (below_step (by repeat (first | (with_reducible first | exact HB.out | apply below_alloc | apply pw_below_drewN | apply below_drew1) | exact HB.out)) hb); clear HO_3; clear HO_4; clear HB; have HO_3 := n0_; have HO_4 := n1_; have HB := n2_; clear n0_ n1_ n2_; (try clear hb); (try clear hb2); (try clear hk); (try clear hi)))
                      go_roundg k5
                      case measure => have := HK1.out; have := HK2.out; have := HJ4.out; have := HJ11.out; have := HK5.out; omega
                      case rel => exact ⟨(false), (wrap64 (x9_5 + 1)), (by first | rfl | (simp; done) | (simp [*]; done)), (by first | rfl | (simp; done) | (simp [*]; done)), H', ⟨by have := HK1.out; have := HK2.out; have := HJ4.out; have := HJ11.out; have := HK5.out; omega⟩, ⟨by (with_reducible repeat (first | apply Kd.R_alloc | apply Kd.R_drewN | apply Kd.R_drew)); exact HO_3.out⟩, ⟨by (with_reducible repeat (first | apply Kd.R_alloc | apply Kd.R_drewN | apply Kd.R_drew)); exact HO_4.out⟩, ⟨by repeat (first | (with_reducible first | exact HB.out | apply below_alloc | apply pw_below_drewN | apply below_drew1) | exact HB.out)⟩⟩
                    ·replace c31 := Bool.eq_false_iff.mpr c31
                     subst c31
                     have H1 : (ontimeref25_Tree.l2 k5 l0 x3_1 t147 x5_1 x6_2 x7_2 x8_5 (wrap64 (x9_5 + 1))) = some r := by rw [if_neg (show ¬ (false = true) by decide)] at H; exact H
                     clear H
                     have H := H1
                     clear H1
                     have H' := Aside0.mk H
                     clear H
                     obtain ⟨Ao40, co40, eo40⟩ := Kd.R_slice HO_4.out
                     subst eo40
                     have p156 : 0 ≤ (x9_5 : Int) := of_decide_eq_true (by first | (with_reducible assumption) | assumption)
                     have q156 : x9_5 < (t147.length : Int) := of_decide_eq_true (by first | (with_reducible assumption) | assumption)
                     obtain ⟨ad156, e156, hx156_0⟩ := Kd.at_bool (Kd.R_reads' HO_4.out).2.2 x9_5 p156 q156
                     (try rw [← Nbq28.out] at hx156_0)
                     cases e156
                     replace p156 := eq_true p156
                     replace q156 := eq_true q156
                     go_wp2_with (first | (go_at_call 21; (with_reducible refine (ontimeref25_Dominates.calls k5 _ _ l0 x9_5 x5_1 false _ ?side1 ?side2 A30.out).mono ?_); (case side1 => repeat (first | exact (Kd.C_below HR0.out HB.out) | (with_reducible refine Kd.C_alloc ?_ _) | (with_reducible refine Kd.C_drewN ?_ _) | (with_reducible refine Kd.C_drew ?_))); (case side2 => exact HC0.out); rintro e w41 ⟨rfl, hb⟩; have n0_ := Aside0.mk (Kd.R_below (by (with_reducible repeat (first | apply Kd.R_alloc | apply Kd.R_drewN | apply Kd.R_drew)); exact HO_3.out) hb); have n1_ := Aside0.mk (Kd.R_below (by (with_reducible repeat (first | apply Kd.R_alloc | apply Kd.R_drewN | apply Kd.R_drew)); exact HO_4.out) hb); have n2_ := Aside0.mk (below_step (by repeat (first | (with_reducible first | exact HB.out | apply below_alloc | apply pw_below_drewN | apply below_drew1) | exact HB.out)) hb); clear HO_3; clear HO_4; clear HB; have HO_3 := n0_; have HO_4 := n1_; have HB := n2_; clear n0_ n1_ n2_; (try clear hb); (try clear hb2); (try clear hk); (try clear hi)))
                     go_roundg k5
                     case measure => have := HK1.out; have := HK2.out; have := HJ4.out; have := HJ11.out; have := HK5.out; omega
                     case rel => exact ⟨(x8_5), (wrap64 (x9_5 + 1)), (by first | rfl | (simp; done) | (simp [*]; done)), (by first | rfl | (simp; done) | (simp [*]; done)), H', ⟨by have := HK1.out; have := HK2.out; have := HJ4.out; have := HJ11.out; have := HK5.out; omega⟩, ⟨by (with_reducible repeat (first | apply Kd.R_alloc | apply Kd.R_drewN | apply Kd.R_drew)); exact HO_3.out⟩, ⟨by (with_reducible repeat (first | apply Kd.R_alloc | apply Kd.R_drewN | apply Kd.R_drew)); exact HO_4.out⟩, ⟨by repeat (first | (with_reducible first | exact HB.out | apply below_alloc | apply pw_below_drewN | apply below_drew1) | exact HB.out)⟩⟩
                   ·replace c29 := Bool.eq_false_iff.mpr c29
                    subst c29
                    have H1 : (ontimeref25_Tree.l2 k5 l0 x3_1 t147 x5_1 x6_2 x7_2 x8_5 (wrap64 (x9_5 + 1))) = some r := by rw [if_neg (show ¬ (false = true) by decide)] at H; exact H
                    clear H
                    have H := H1
                    clear H1
                    have H' := Aside0.mk H
                    clear H
                    obtain ⟨Ao42, co42, eo42⟩ := Kd.R_slice HO_4.out
                    subst eo42
                    have p156 : 0 ≤ (x9_5 : Int) := of_decide_eq_true (by first | (with_reducible assumption) | assumption)
                    have q156 : x9_5 < (t147.length : Int) := of_decide_eq_true (by first | (with_reducible assumption) | assumption)
                    obtain ⟨ad156, e156, hx156_0⟩ := Kd.at_bool (Kd.R_reads' HO_4.out).2.2 x9_5 p156 q156
                    (try rw [← Nbq28.out] at hx156_0)
                    cases e156
                    replace p156 := eq_true p156
                    replace q156 := eq_true q156
                    go_wp2
                    go_roundg k5
                    case measure => have := HK1.out; have := HK2.out; have := HJ4.out; have := HJ11.out; have := HK5.out; omega
                    case rel => exact ⟨(x8_5), (wrap64 (x9_5 + 1)), (by first | rfl | (simp; done) | (simp [*]; done)), (by first | rfl | (simp; done) | (simp [*]; done)), H', ⟨by have := HK1.out; have := HK2.out; have := HJ4.out; have := HJ11.out; have := HK5.out; omega⟩, ⟨by (with_reducible repeat (first | apply Kd.R_alloc | apply Kd.R_drewN | apply Kd.R_drew)); exact HO_3.out⟩, ⟨by (with_reducible repeat (first | apply Kd.R_alloc | apply Kd.R_drewN | apply Kd.R_drew)); exact HO_4.out⟩, ⟨by repeat (first | (with_reducible first | exact HB.out | apply below_alloc | apply pw_below_drewN | apply below_drew1) | exact HB.out)⟩⟩
                  ·rw [if_neg c27] at H
                   exact absurd H (by simp)
                 ·rw [if_neg c26] at H
                  exact absurd H (by simp)
              ·rw [if_neg c23] at H
               have c23b0 : decide (x9_5 < (l0.length : Int)) = false := decide_eq_false c23
               clear c23
               by_cases c43 : x8_5 = true
               ·subst c43
                have H1 : (ontimeref25_Tree.l1 k5 l0 x3_1 t147 x5_1 x7_2 (wrap64 (x7_2 + 1))) = some r := by rw [if_pos rfl] at H; exact H
                clear H
                have H := H1
                clear H1
                have H' := Aside0.mk H
                clear H
                go_wp2
                go_roundg k5
                case measure => have := HK1.out; have := HK2.out; have := HJ4.out; have := HJ11.out; have := HK5.out; omega
                case rel => exact ⟨(x7_2), (wrap64 (x7_2 + 1)), (by first | rfl | (simp; done) | (simp [*]; done)), (by first | rfl | (simp; done) | (simp [*]; done)), H', ⟨by have := HK1.out; have := HK2.out; have := HJ4.out; have := HJ11.out; have := HK5.out; omega⟩, ⟨by (with_reducible repeat (first | apply Kd.R_alloc | apply Kd.R_drewN | apply Kd.R_drew)); exact HO_3.out⟩, ⟨by (with_reducible repeat (first | apply Kd.R_alloc | apply Kd.R_drewN | apply Kd.R_drew)); exact HO_4.out⟩, ⟨by repeat (first | (with_reducible first | exact HB.out | apply below_alloc | apply pw_below_drewN | apply below_drew1) | exact HB.out)⟩⟩
               ·replace c43 := Bool.eq_false_iff.mpr c43
                subst c43
                have H1 : (ontimeref25_Tree.l1 k5 l0 x3_1 t147 x5_1 x6_2 (wrap64 (x7_2 + 1))) = some r := by rw [if_neg (show ¬ (false = true) by decide)] at H; exact H
                clear H
                have H := H1
                clear H1
                have H' := Aside0.mk H
                clear H
                go_wp2
                go_roundg k5
                case measure => have := HK1.out; have := HK2.out; have := HJ4.out; have := HJ11.out; have := HK5.out; omega
                case rel => exact ⟨(x6_2), (wrap64 (x7_2 + 1)), (by first | rfl | (simp; done) | (simp [*]; done)), (by first | rfl | (simp; done) | (simp [*]; done)), H', ⟨by have := HK1.out; have := HK2.out; have := HJ4.out; have := HJ11.out; have := HK5.out; omega⟩, ⟨by (with_reducible repeat (first | apply Kd.R_alloc | apply Kd.R_drewN | apply Kd.R_drew)); exact HO_3.out⟩, ⟨by (with_reducible repeat (first | apply Kd.R_alloc | apply Kd.R_drewN | apply Kd.R_drew)); exact HO_4.out⟩, ⟨by repeat (first | (with_reducible first | exact HB.out | apply below_alloc | apply pw_below_drewN | apply below_drew1) | exact HB.out)⟩⟩
        ·replace c11 := Bool.eq_false_iff.mpr c11
         subst c11
         have H1 : (if x3_1.length < 17592186044416 then (ontimeref25_Tree.l0 kj4 l0 (x3_1 ++ [x6_2]) t147 (wrap64 (x5_1 + 1))) else (none)) = some r := by rw [if_neg (show ¬ (false = true) by decide)] at H; exact H
         clear H
         have H := H1
         clear H1
         by_cases c44 : x3_1.length < 17592186044416
         ·rw [if_pos c44] at H
          have LMc44 := Aside0.mk c44
          clear c44
          obtain ⟨y151, hy151⟩ : ∃ y_ : List Int, y_ = (x3_1 ++ [x6_2]) := ⟨_, rfl⟩
          replace H : (ontimeref25_Tree.l0 kj4 l0 y151 t147 (wrap64 (x5_1 + 1))) = some r := by first | (rw [hy151]; with_reducible exact H) | (have H2_ := (Option.bind_some _ _).symm.trans H; rw [hy151]; with_reducible exact H2_) | (have H2_ := (Option.bind_some _ _).symm.trans H; with_reducible exact H2_) | with_reducible exact H | (rw [hy151]; exact H) | exact H
          have Ny151 := Aside0.mk hy151
          clear hy151
          have H' := Aside0.mk H
          clear H
          go_wp2_with (first | ((with_reducible refine gate_builtin (b := .append) (xs := #[.tmp 86, .tmp 88]) rfl ?_); at_builtin; refine Kd.R_append (Kd.int .i64) (w0 := w) w.heap.size rfl (.tmp 86) (.tmp 88) 29 3 (.int .i64 0) 8 rfl Try.underlying29 info3 rfl (by decide) (by omega) u3 x3_1 x6_2 [.int .i64 x6_2] (fun _ => True) (fun _ => False) rfl rfl ?aP (fun _ hk => hk.elim) ?aF ?aO ?aB ?aS ?aL ?_; (case aP => exact rfl); (case aB => exact (by repeat (first | (with_reducible first | exact HB.out | apply below_alloc | apply pw_below_drewN | apply below_drew1) | exact HB.out))); (case aF => exact (fun _ _ => trivial)); (case aO => exact (by (with_reducible repeat (first | apply Kd.R_alloc | apply Kd.R_drewN | apply Kd.R_drew)); exact HO_3.out)); (case aS => exact (below_size (by repeat (first | (with_reducible first | exact HB.out | apply below_alloc | apply pw_below_drewN | apply below_drew1) | exact HB.out)))); (case aL => have := LMc44.out; omega); intro v152 w45 ho hb hg hat; rw [← Ny151.out] at ho; have n0_ := Aside0.mk (Kd.R_over' (by (with_reducible repeat (first | apply Kd.R_alloc | apply Kd.R_drewN | apply Kd.R_drew)); exact HO_4.out) (Kd.R_typed (by (with_reducible repeat (first | apply Kd.R_alloc | apply Kd.R_drewN | apply Kd.R_drew)); exact HO_3.out)) (by decide) hg); have n1_ := Aside0.mk (hb); have n2_ := Aside0.mk (ho); clear HO_4; clear HB; clear HO_3; have HO_4 := n0_; have HB := n1_; have HO153 := n2_; clear n0_ n1_ n2_; clear ho hb hg hat))
          go_roundg kj4
          case measure => have := HK1.out; have := HK2.out; have := HJ4.out; omega
          case rel => exact ⟨(y151), (wrap64 (x5_1 + 1)), (by first | rfl | (simp; done) | (simp [*]; done)), H', ⟨by have := HK1.out; have := HK2.out; have := HJ4.out; omega⟩, ⟨by (with_reducible repeat (first | apply Kd.R_alloc | apply Kd.R_drewN | apply Kd.R_drew)); exact HO153.out⟩, ⟨by (with_reducible repeat (first | apply Kd.R_alloc | apply Kd.R_drewN | apply Kd.R_drew)); exact HO_4.out⟩, ⟨by repeat (first | (with_reducible first | exact HB.out | apply below_alloc | apply pw_below_drewN | apply below_drew1) | exact HB.out)⟩⟩
         ·rw [if_neg c44] at H
          exact absurd H (by simp)
   ·rw [if_neg c4] at H
    have c4b0 : decide (x5_1 < (l0.length : Int)) = false := decide_eq_false c4
    clear c4
    obtain rfl := Option.some.inj H
    go_wp2
    go_ret
    exact ⟨_, by first | rfl | (simp [errW_none, errW_some] <;> rfl) | (simp [*, errW_none, errW_some] <;> rfl), by (with_reducible repeat (first | apply Kd.R_alloc | apply Kd.R_drewN | apply Kd.R_drew)); exact HO_3.out, by repeat (first | (with_reducible first | exact HB.out | apply below_alloc | apply pw_below_drewN | apply below_drew1) | exact HB.out)⟩

end Go.Proofs.Ytnkbmpdghjhlfaa.P
