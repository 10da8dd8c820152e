/- Written by xprint.py: functions, proofs of contracts. -/
import Derived.Test.YtnkbmpdghjhlfaaPx0
import Derived.Test.YtnkbmpdghjhlfaaPx3
namespace Go.Proofs.Ytnkbmpdghjhlfaa.P
open Go.RowKit Go.Proofs.YtnkbmpdghjhlfaaW.PrintWords Go.Proofs.YtnkbmpdghjhlfaaW.PrintLast Go.Proofs.YtnkbmpdghjhlfaaW.PrintMore
attribute [local go_sem] max2_int min2_int max_two min_two max_three min_three max_four min_four   -- for this text's walks alone
set_option linter.unusedVariables false
set_option linter.unusedSimpArgs false

/-! ### ontimeref25_Frontier: function 24 -/
mutual
def ontimeref25_Frontier.l0 : Nat → List (List Int) → List Bool → List (List Int) → Int → Option ((List (List Int)))
 | 0, _, _, _, _ => none
 | k + 1, x0, x3, x4, x5 => if x5 < (x0.length : Int) then (ontimeref25_Frontier.l1 k x0 x3 x4 x5 0) else (some x4)
def ontimeref25_Frontier.l1 : Nat → List (List Int) → List Bool → List (List Int) → Int → Int → Option ((List (List Int)))
 | 0, _, _, _, _, _ => none
 | k + 1, x0, x3, x4, x5, x6 => if x6 < (x0.length : Int) then (if 0 ≤ x5 then (if x5 < (x3.length : Int) then (ontimeref25_Frontier.j2 k x0 x3 x4 x5 x6 (rdOf false x3 x5)) else (none)) else (none)) else (ontimeref25_Frontier.j2 k x0 x3 x4 x5 x6 false)
def ontimeref25_Frontier.j2 : Nat → List (List Int) → List Bool → List (List Int) → Int → Int → Bool → Option ((List (List Int)))
 | 0, _, _, _, _, _, _ => none
 | k + 1, x0, x3, x4, x5, x6, x30 => if x30 = true then (ontimeref25_Frontier.l2 k x0 x3 x4 x5 x6 false 0) else (ontimeref25_Frontier.l0 k x0 x3 x4 (wrap64 (x5 + 1)))
def ontimeref25_Frontier.l2 : Nat → List (List Int) → List Bool → List (List Int) → Int → Int → Bool → Int → Option ((List (List Int)))
 | 0, _, _, _, _, _, _, _ => none
 | k + 1, x0, x3, x4, x5, x6, x7, x8 => if x8 < (x0.length : Int) then (ontimeref25_Frontier.l3 k x0 x3 x4 x5 x6 x7 x8 0) else (if x7 = true then (if x5 = x6 then (if 0 ≤ x5 then (if x5 < (x4.length : Int) then (if (rd_L1 x4 x5).length < 17592186044416 then (ontimeref25_Frontier.l1 k x0 x3 (x4.set (x5 : Int).toNat ((rd_L1 x4 x5) ++ [x6])) x5 (wrap64 (x6 + 1))) else (none)) else (none)) else (none)) else ((ontimeref25_Dominates.f k x0 x5 x6).bind fun t284 => (if t284 = true then (ontimeref25_Frontier.l1 k x0 x3 x4 x5 (wrap64 (x6 + 1))) else (if 0 ≤ x5 then (if x5 < (x4.length : Int) then (if (rd_L1 x4 x5).length < 17592186044416 then (ontimeref25_Frontier.l1 k x0 x3 (x4.set (x5 : Int).toNat ((rd_L1 x4 x5) ++ [x6])) x5 (wrap64 (x6 + 1))) else (none)) else (none)) else (none))))) else (ontimeref25_Frontier.l1 k x0 x3 x4 x5 (wrap64 (x6 + 1))))
def ontimeref25_Frontier.l3 : Nat → List (List Int) → List Bool → List (List Int) → Int → Int → Bool → Int → Int → Option ((List (List Int)))
 | 0, _, _, _, _, _, _, _, _ => none
 | k + 1, x0, x3, x4, x5, x6, x7, x8, x9 => if 0 ≤ x8 then (if x8 < (x0.length : Int) then (if x9 < ((rd_L1 x0 x8).length : Int) then (if x7 = true then (ontimeref25_Frontier.l3 k x0 x3 x4 x5 x6 true x8 (wrap64 (x9 + 1))) else (if x8 < (x3.length : Int) then (if rdOf false x3 x8 = true then (if 0 ≤ x9 then (if (rd (rd_L1 x0 x8) x9) = x6 then ((ontimeref25_Dominates.f k x0 x5 x8).bind fun t278 => (ontimeref25_Frontier.l3 k x0 x3 x4 x5 x6 t278 x8 (wrap64 (x9 + 1)))) else (ontimeref25_Frontier.l3 k x0 x3 x4 x5 x6 false x8 (wrap64 (x9 + 1)))) else (none)) else (ontimeref25_Frontier.l3 k x0 x3 x4 x5 x6 false x8 (wrap64 (x9 + 1)))) else (none))) else (ontimeref25_Frontier.l2 k x0 x3 x4 x5 x6 x7 (wrap64 (x8 + 1)))) else (none)) else (none)
end
def ontimeref25_Frontier.f (k : Nat) (l0 : List (List Int)) : Option ((List (List Int))) := (ontimeref25_Reach.f k l0 (-1)).bind fun t267 => (if 0 ≤ (l0.length : Int) then (if ((l0.length : Int) : Int).toNat ≤ 11728124029610 then (ontimeref25_Frontier.l0 k l0 t267 (List.replicate ((l0.length : Int) : Int).toNat []) 0) else (none)) else (none))
theorem ontimeref25_Frontier.mono_l : ∀ k, (∀ y0 y1 y2 y3, LeO (ontimeref25_Frontier.l0 k y0 y1 y2 y3) (ontimeref25_Frontier.l0 (k + 1) y0 y1 y2 y3)) ∧ (∀ y0 y1 y2 y3 y4, LeO (ontimeref25_Frontier.l1 k y0 y1 y2 y3 y4) (ontimeref25_Frontier.l1 (k + 1) y0 y1 y2 y3 y4)) ∧ (∀ y0 y1 y2 y3 y4 y5, LeO (ontimeref25_Frontier.j2 k y0 y1 y2 y3 y4 y5) (ontimeref25_Frontier.j2 (k + 1) y0 y1 y2 y3 y4 y5)) ∧ (∀ y0 y1 y2 y3 y4 y5 y6, LeO (ontimeref25_Frontier.l2 k y0 y1 y2 y3 y4 y5 y6) (ontimeref25_Frontier.l2 (k + 1) y0 y1 y2 y3 y4 y5 y6)) ∧ (∀ y0 y1 y2 y3 y4 y5 y6 y7, LeO (ontimeref25_Frontier.l3 k y0 y1 y2 y3 y4 y5 y6 y7) (ontimeref25_Frontier.l3 (k + 1) y0 y1 y2 y3 y4 y5 y6 y7))
 | 0 => ⟨fun _ _ _ _ r h => by simp [ontimeref25_Frontier.l0] at h, fun _ _ _ _ _ r h => by simp [ontimeref25_Frontier.l1] at h, fun _ _ _ _ _ _ r h => by simp [ontimeref25_Frontier.j2] at h, fun _ _ _ _ _ _ _ r h => by simp [ontimeref25_Frontier.l2] at h, fun _ _ _ _ _ _ _ _ r h => by simp [ontimeref25_Frontier.l3] at h⟩
 | k + 1 => by
  obtain ⟨ih0, ih1, ih2, ih3, ih4⟩ := ontimeref25_Frontier.mono_l k
  refine ⟨?_, ?_, ?_, ?_, ?_⟩
  ·intro y0 y1 y2 y3
   unfold ontimeref25_Frontier.l0
   repeat' first
   | (with_reducible exact ih0 _ _ _ _)
   | (with_reducible exact ih1 _ _ _ _ _)
   | (with_reducible exact ih2 _ _ _ _ _ _)
   | (with_reducible exact ih3 _ _ _ _ _ _ _)
   | (with_reducible exact ih4 _ _ _ _ _ _ _ _)
   | (with_reducible exact ontimeref25_Dominates.mono _ _ _ _)
   | (with_reducible exact ontimeref25_Reach.mono _ _ _)
   | (with_reducible exact LeO.refl _)
   | (with_reducible exact LeO.none _)
   | (with_reducible refine LeO.ite ?_ ?_)
   | (with_reducible refine LeO.bind ?_ (fun _ => ?_))
   | exact ih0 _ _ _ _
   | exact ih1 _ _ _ _ _
   | exact ih2 _ _ _ _ _ _
   | exact ih3 _ _ _ _ _ _ _
   | exact ih4 _ _ _ _ _ _ _ _
   | exact ontimeref25_Dominates.mono _ _ _ _
   | exact ontimeref25_Reach.mono _ _ _
   | exact LeO.none _
   | refine LeO.ite ?_ ?_
   | refine LeO.bind ?_ (fun _ => ?_)
  ·intro y0 y1 y2 y3 y4
   unfold ontimeref25_Frontier.l1
   repeat' first
   | (with_reducible exact ih0 _ _ _ _)
   | (with_reducible exact ih1 _ _ _ _ _)
   | (with_reducible exact ih2 _ _ _ _ _ _)
   | (with_reducible exact ih3 _ _ _ _ _ _ _)
   | (with_reducible exact ih4 _ _ _ _ _ _ _ _)
   | (with_reducible exact ontimeref25_Dominates.mono _ _ _ _)
   | (with_reducible exact ontimeref25_Reach.mono _ _ _)
   | (with_reducible exact LeO.refl _)
   | (with_reducible exact LeO.none _)
   | (with_reducible refine LeO.ite ?_ ?_)
   | (with_reducible refine LeO.bind ?_ (fun _ => ?_))
   | exact ih0 _ _ _ _
   | exact ih1 _ _ _ _ _
   | exact ih2 _ _ _ _ _ _
   | exact ih3 _ _ _ _ _ _ _
   | exact ih4 _ _ _ _ _ _ _ _
   | exact ontimeref25_Dominates.mono _ _ _ _
   | exact ontimeref25_Reach.mono _ _ _
   | exact LeO.none _
   | refine LeO.ite ?_ ?_
   | refine LeO.bind ?_ (fun _ => ?_)
  ·intro y0 y1 y2 y3 y4 y5
   unfold ontimeref25_Frontier.j2
   repeat' first
   | (with_reducible exact ih0 _ _ _ _)
   | (with_reducible exact ih1 _ _ _ _ _)
   | (with_reducible exact ih2 _ _ _ _ _ _)
   | (with_reducible exact ih3 _ _ _ _ _ _ _)
   | (with_reducible exact ih4 _ _ _ _ _ _ _ _)
   | (with_reducible exact ontimeref25_Dominates.mono _ _ _ _)
   | (with_reducible exact ontimeref25_Reach.mono _ _ _)
   | (with_reducible exact LeO.refl _)
   | (with_reducible exact LeO.none _)
   | (with_reducible refine LeO.ite ?_ ?_)
   | (with_reducible refine LeO.bind ?_ (fun _ => ?_))
   | exact ih0 _ _ _ _
   | exact ih1 _ _ _ _ _
   | exact ih2 _ _ _ _ _ _
   | exact ih3 _ _ _ _ _ _ _
   | exact ih4 _ _ _ _ _ _ _ _
   | exact ontimeref25_Dominates.mono _ _ _ _
   | exact ontimeref25_Reach.mono _ _ _
   | exact LeO.none _
   | refine LeO.ite ?_ ?_
   | refine LeO.bind ?_ (fun _ => ?_)
  ·intro y0 y1 y2 y3 y4 y5 y6
   unfold ontimeref25_Frontier.l2
   repeat' first
   | (with_reducible exact ih0 _ _ _ _)
   | (with_reducible exact ih1 _ _ _ _ _)
   | (with_reducible exact ih2 _ _ _ _ _ _)
   | (with_reducible exact ih3 _ _ _ _ _ _ _)
   | (with_reducible exact ih4 _ _ _ _ _ _ _ _)
   | (with_reducible exact ontimeref25_Dominates.mono _ _ _ _)
   | (with_reducible exact ontimeref25_Reach.mono _ _ _)
   | (with_reducible exact LeO.refl _)
   | (with_reducible exact LeO.none _)
   | (with_reducible refine LeO.ite ?_ ?_)
   | (with_reducible refine LeO.bind ?_ (fun _ => ?_))
   | exact ih0 _ _ _ _
   | exact ih1 _ _ _ _ _
   | exact ih2 _ _ _ _ _ _
   | exact ih3 _ _ _ _ _ _ _
   | exact ih4 _ _ _ _ _ _ _ _
   | exact ontimeref25_Dominates.mono _ _ _ _
   | exact ontimeref25_Reach.mono _ _ _
   | exact LeO.none _
   | refine LeO.ite ?_ ?_
   | refine LeO.bind ?_ (fun _ => ?_)
  ·intro y0 y1 y2 y3 y4 y5 y6 y7
   unfold ontimeref25_Frontier.l3
   repeat' first
   | (with_reducible exact ih0 _ _ _ _)
   | (with_reducible exact ih1 _ _ _ _ _)
   | (with_reducible exact ih2 _ _ _ _ _ _)
   | (with_reducible exact ih3 _ _ _ _ _ _ _)
   | (with_reducible exact ih4 _ _ _ _ _ _ _ _)
   | (with_reducible exact ontimeref25_Dominates.mono _ _ _ _)
   | (with_reducible exact ontimeref25_Reach.mono _ _ _)
   | (with_reducible exact LeO.refl _)
   | (with_reducible exact LeO.none _)
   | (with_reducible refine LeO.ite ?_ ?_)
   | (with_reducible refine LeO.bind ?_ (fun _ => ?_))
   | exact ih0 _ _ _ _
   | exact ih1 _ _ _ _ _
   | exact ih2 _ _ _ _ _ _
   | exact ih3 _ _ _ _ _ _ _
   | exact ih4 _ _ _ _ _ _ _ _
   | exact ontimeref25_Dominates.mono _ _ _ _
   | exact ontimeref25_Reach.mono _ _ _
   | exact LeO.none _
   | refine LeO.ite ?_ ?_
   | refine LeO.bind ?_ (fun _ => ?_)
theorem ontimeref25_Frontier.mono : ∀ a0 k, LeO (ontimeref25_Frontier.f k a0) (ontimeref25_Frontier.f (k + 1) a0) := by
 intro a0 k
 obtain ⟨ih0, ih1, ih2, ih3, ih4⟩ := ontimeref25_Frontier.mono_l k
 unfold ontimeref25_Frontier.f
 repeat' first
   | (with_reducible exact ih0 _ _ _ _)
   | (with_reducible exact ih1 _ _ _ _ _)
   | (with_reducible exact ih2 _ _ _ _ _ _)
   | (with_reducible exact ih3 _ _ _ _ _ _ _)
   | (with_reducible exact ih4 _ _ _ _ _ _ _ _)
   | (with_reducible exact ontimeref25_Dominates.mono _ _ _ _)
   | (with_reducible exact ontimeref25_Reach.mono _ _ _)
   | (with_reducible exact LeO.refl _)
   | (with_reducible exact LeO.none _)
   | (with_reducible refine LeO.ite ?_ ?_)
   | (with_reducible refine LeO.bind ?_ (fun _ => ?_))
   | exact ih0 _ _ _ _
   | exact ih1 _ _ _ _ _
   | exact ih2 _ _ _ _ _ _
   | exact ih3 _ _ _ _ _ _ _
   | exact ih4 _ _ _ _ _ _ _ _
   | exact ontimeref25_Dominates.mono _ _ _ _
   | exact ontimeref25_Reach.mono _ _ _
   | exact LeO.none _
   | refine LeO.ite ?_ ?_
   | refine LeO.bind ?_ (fun _ => ?_)
set_option maxHeartbeats 8000000 in
set_option maxRecDepth 100000 in
theorem ontimeref25_Frontier.calls (k : Nat) (A0 : Option Addr) (c0 : Nat) (l0 : List (List Int)) (r : List (List Int)) (w : World) (hr0 : Kd.C (Kd.slice 3 (Kd.int .i64)) w A0 l0.length l0) (hc0 : l0.length ≤ c0) (h : ontimeref25_Frontier.f k l0 = some r) :
  Calls Try.prog 24 #[.slice A0 l0.length c0] w fun e w' => ∃ v0_ : Value, e = .returned (v0_) ∧ Kd.S (Kd.slice 3 (Kd.int .i64)) 29 w' w.heap.size (fun _ => True) v0_ r ∧ Below w.heap.size w w' := by
 have HR0 := Aside0.mk hr0
 have HC0 := Aside0.mk hc0
 clear hr0 hc0
 have HB := Aside0.mk (Below.refl w.heap.size w)
 have H : ((ontimeref25_Reach.f k l0 (-1)).bind fun t267 => (if 0 ≤ (l0.length : Int) then (if ((l0.length : Int) : Int).toNat ≤ 11728124029610 then (ontimeref25_Frontier.l0 k l0 t267 (List.replicate ((l0.length : Int) : Int).toNat []) 0) else (none)) else (none))) = some r := h
 clear h
 replace H := Option.bind_eq_some_iff.mp H
 obtain ⟨t267, A20, H⟩ := H
 replace H : (if 0 ≤ (l0.length : Int) then (if ((l0.length : Int) : Int).toNat ≤ 11728124029610 then (ontimeref25_Frontier.l0 k l0 t267 (List.replicate ((l0.length : Int) : Int).toNat []) 0) else (none)) else (none)) = some r := H
 have A2 := Aside0.mk A20
 clear A20
 by_cases c3 : 0 ≤ (l0.length : Int)
 ·rw [if_pos c3] at H
  have c3b0 := eq_true c3
  have c3b1 : decide (0 ≤ (l0.length : Int)) = true := decide_eq_true c3
  clear c3
  by_cases c4 : ((l0.length : Int) : Int).toNat ≤ 11728124029610
  ·rw [if_pos c4] at H
   have c4b0 := eq_true c4
   have c4b1 : decide (((l0.length : Int) : Int).toNat ≤ 11728124029610) = true := decide_eq_true c4
   clear c4
   obtain ⟨y270, hy270⟩ : ∃ y_ : List (List Int), y_ = (List.replicate ((l0.length : Int) : Int).toNat []) := ⟨_, rfl⟩
   replace H : (ontimeref25_Frontier.l0 k l0 t267 y270 0) = some r := by first | (rw [hy270]; with_reducible exact H) | (have H2_ := (Option.bind_some _ _).symm.trans H; rw [hy270]; with_reducible exact H2_) | (have H2_ := (Option.bind_some _ _).symm.trans H; with_reducible exact H2_) | with_reducible exact H | (rw [hy270]; exact H) | exact H
   have Ny270 := Aside0.mk hy270
   clear hy270
   have H' := Aside0.mk H
   clear H
   go_enter Try.func24, Try.ntmps24
   go_wp2_with (first | ((with_reducible refine gate_callee (f := 20) rfl ?_); refine goesL_ (some 11) rfl rfl Try.func20 (by kernel_rfl) rfl #[.slice A0 l0.length c0, .int .i64 (-1)] rfl (by (try simp only [List.map_toArray, List.map_cons, List.map_nil]); first | done | rfl | (simp only [List.length_drop, List.length_take]; rfl)) ?_; (with_reducible refine (ontimeref25_Reach.calls k _ _ l0 (-1) t267 _ ?side1 ?side2 A2.out).mono ?_); (case side1 => repeat (first | exact HR0.out | (with_reducible refine Kd.C_alloc ?_ _) | (with_reducible refine Kd.C_drewN ?_ _) | (with_reducible refine Kd.C_drew ?_))); (case side2 => exact HC0.out); rintro e w5 ⟨v268, rfl, ho0, hb⟩; refine ⟨_, rfl, ?_⟩; have n0_ := Aside0.mk (Kd.R_lower ho0 (below_size (by repeat (first | (with_reducible first | exact HB.out | apply below_alloc | apply pw_below_drewN | apply below_drew1) | exact HB.out)))); have n1_ := Aside0.mk (below_step (by repeat (first | (with_reducible first | exact HB.out | apply below_alloc | apply pw_below_drewN | apply below_drew1) | exact HB.out)) hb); clear HB; have HO269 := n0_; have HB := n1_; clear n0_ n1_; (try clear hb); (try clear hb2); (try clear hk); (try clear hi); (try clear ho0)) | ((with_reducible refine gate_dst (N := 14) rfl ?_); refine Kd.S_make (Kd.slice 3 (Kd.int .i64)) _ 29 rfl (N := 14) rfl 23 _ _ rfl (l0.length : Int) rfl rfl Try.underlying23 (.slice none 0 0) 24 info29 rfl (by decide) (by omega) [] (ok := fun _ => True) (okp := fun _ => True) ⟨_, rfl, Kd.R_nil _ _ _ _ _⟩ (fun _ hk => hk) trivial (of_decide_eq_true (by first | (with_reducible assumption) | assumption)) (Nat.le_trans (Nat.mul_le_mul_right _ (of_decide_eq_true (by first | (with_reducible assumption) | assumption) : (l0.length : Int).toNat ≤ 11728124029610)) (by omega)) (Below.refl _ _) (Nat.le_refl _) ?_; intro v271 w6 ho7 hb hg_ hnew_; clear hg_ hnew_; (first | rw [← Ny270.out] at ho7 | (simp only [Int.reduceToNat] at ho7; rw [← Ny270.out] at ho7)); have n0_ := Aside0.mk (Kd.R_below (by (with_reducible repeat (first | apply Kd.R_alloc | apply Kd.R_drewN | apply Kd.R_drew)); exact HO269.out) hb); have n1_ := Aside0.mk (Kd.S_lower ho7 (below_size (by repeat (first | (with_reducible first | exact HB.out | apply below_alloc | apply pw_below_drewN | apply below_drew1) | exact HB.out)))); have n2_ := Aside0.mk (below_step (by repeat (first | (with_reducible first | exact HB.out | apply below_alloc | apply pw_below_drewN | apply below_drew1) | exact HB.out)) hb); clear HO269; clear HB; have HO269 := n0_; have HO272 := n1_; have HB := n2_; clear n0_ n1_ n2_; clear hb ho7))
   go_loopg [5] k (fun kq v5 w' => ∃ (x4_1 : List (List Int)) (x5_1 : Int), v5 = .int .i64 x5_1 ∧ Aside0 (ontimeref25_Frontier.l0 kq l0 t267 x4_1 x5_1 = some r) ∧ Aside0 (kq ≤ k) ∧ Aside0 (Kd.R Kd.bool 4 w' w.heap.size (fun _ => True) v268 t267) ∧ Aside0 (Kd.S (Kd.slice 3 (Kd.int .i64)) 29 w' w.heap.size (fun _ => True) v271 x4_1) ∧ Aside0 (Below w.heap.size w w'))
   case atStart => exact ⟨(y270), (0), (by first | rfl | (simp; done) | (simp [*]; done)), H', ⟨Nat.le_refl _⟩, ⟨by (with_reducible repeat (first | apply Kd.R_alloc | apply Kd.R_drewN | apply Kd.R_drew)); exact HO269.out⟩, ⟨by (with_reducible repeat (first | apply Kd.S_alloc | apply Kd.S_drewN | apply Kd.S_drew)); exact HO272.out⟩, ⟨by repeat (first | (with_reducible first | exact HB.out | apply below_alloc | apply pw_below_drewN | apply below_drew1) | exact HB.out)⟩⟩
   case round =>
    clear H'
    try clear c2
    try clear p2
    try clear c3
    try clear c3b0
    try clear c3b1
    try clear c4
    try clear c4b0
    try clear c4b1
    obtain ⟨x4_1, x5_1, rfl, HA, HK1, HO_3, HO_4, HB⟩ := hrel
    cases gk with
    | zero => exact absurd HA.out (by simp [ontimeref25_Frontier.l0])
    | succ k1 =>
     have H := HA.out
     clear HA
     simp only [ontimeref25_Frontier.l0] at H
     by_cases c8 : x5_1 < (l0.length : Int)
     ·rw [if_pos c8] at H
      have c8b0 : decide (x5_1 < (l0.length : Int)) = true := decide_eq_true c8
      clear c8
      have H' := Aside0.mk H
      clear H
      go_wp2
      go_loopg [6] k1 (fun kq v6 w' => ∃ (x4_2 : List (List Int)) (x6_2 : Int), v6 = .int .i64 x6_2 ∧ Aside0 (ontimeref25_Frontier.l1 kq l0 t267 x4_2 x5_1 x6_2 = some r) ∧ Aside0 (kq ≤ k1) ∧ Aside0 (Kd.R Kd.bool 4 w' w.heap.size (fun _ => True) v268 t267) ∧ Aside0 (Kd.S (Kd.slice 3 (Kd.int .i64)) 29 w' w.heap.size (fun _ => True) v271 x4_2) ∧ Aside0 (Below w.heap.size w w'))
      case atStart => exact ⟨(x4_1), (0), (by first | rfl | (simp; done) | (simp [*]; done)), H', ⟨Nat.le_refl _⟩, ⟨by (with_reducible repeat (first | apply Kd.R_alloc | apply Kd.R_drewN | apply Kd.R_drew)); exact HO_3.out⟩, ⟨by (with_reducible repeat (first | apply Kd.S_alloc | apply Kd.S_drewN | apply Kd.S_drew)); exact HO_4.out⟩, ⟨by repeat (first | (with_reducible first | exact HB.out | apply below_alloc | apply pw_below_drewN | apply below_drew1) | exact HB.out)⟩⟩
      case round =>
       clear H'
       try clear c2
       try clear p2
       try clear c3
       try clear c3b0
       try clear c3b1
       try clear c4
       try clear c4b0
       try clear c4b1
       try clear c8
       try clear c8b0
       try clear p2
       obtain ⟨x4_2, x6_2, rfl, HA, HK2, HO_3, HO_4, HB⟩ := hrel
       cases gk with
       | zero => exact absurd HA.out (by simp [ontimeref25_Frontier.l1])
       | succ k2 =>
        have H := HA.out
        clear HA
        simp only [ontimeref25_Frontier.l1] at H
        have HC9 := Aside0.mk H
        clear H
        go_upto_region 7 with (fail)
        go_cut [30] (fun v30 wc => ∃ (kq : Nat) (x30_8 : Bool), v30 = .bool x30_8 ∧ Aside0 (ontimeref25_Frontier.j2 kq l0 t267 x4_2 x5_1 x6_2 x30_8 = some r) ∧ Aside0 (kq ≤ k2) ∧ Aside0 (Kd.R Kd.bool 4 wc w.heap.size (fun _ => True) v268 t267) ∧ Aside0 (Kd.S (Kd.slice 3 (Kd.int .i64)) 29 wc w.heap.size (fun _ => True) v271 x4_2) ∧ Aside0 (Below w.heap.size w wc))
        case first =>
         have H := HC9.out
         clear HC9
         by_cases c10 : x6_2 < (l0.length : Int)
         ·rw [if_pos c10] at H
          have c10b0 : decide (x6_2 < (l0.length : Int)) = true := decide_eq_true c10
          clear c10
          (first | rw [c10b0] | (simp only [i64_w, i32_w]; rw [c10b0]) | skip)
          by_cases c11 : 0 ≤ x5_1
          ·rw [if_pos c11] at H
           have c11b0 : decide (0 ≤ x5_1) = true := decide_eq_true c11
           clear c11
           by_cases c12 : x5_1 < (t267.length : Int)
           ·rw [if_pos c12] at H
            have c12b0 : decide (x5_1 < (t267.length : Int)) = true := decide_eq_true c12
            clear c12
            have H' := Aside0.mk H
            clear H
            obtain ⟨Ao13, co13, eo13⟩ := Kd.R_slice HO_3.out
            subst eo13
            have p273 : 0 ≤ (x5_1 : Int) := of_decide_eq_true (by first | (with_reducible assumption) | assumption)
            have q273 : x5_1 < (t267.length : Int) := of_decide_eq_true (by first | (with_reducible assumption) | assumption)
            obtain ⟨ad273, e273, hx273_0⟩ := Kd.at_bool (Kd.R_reads' HO_3.out).2.2 x5_1 p273 q273
            cases e273
            replace p273 := eq_true p273
            replace q273 := eq_true q273
            go_wp2
            go_meet
            case rel => exact ⟨_, (rdOf false t267 x5_1), (by first | rfl | (simp; done) | (simp [*]; done)), H', ⟨by have := HK1.out; have := HK2.out; first | omega | exact Nat.le_refl _⟩, ⟨by (with_reducible repeat (first | apply Kd.R_alloc | apply Kd.R_drewN | apply Kd.R_drew)); exact HO_3.out⟩, ⟨by (with_reducible repeat (first | apply Kd.S_alloc | apply Kd.S_drewN | apply Kd.S_drew)); exact HO_4.out⟩, ⟨by repeat (first | (with_reducible first | exact HB.out | apply below_alloc | apply pw_below_drewN | apply below_drew1) | exact HB.out)⟩⟩
           ·rw [if_neg c12] at H
            exact absurd H (by simp)
          ·rw [if_neg c11] at H
           exact absurd H (by simp)
         ·rw [if_neg c10] at H
          have c10b0 : decide (x6_2 < (l0.length : Int)) = false := decide_eq_false c10
          clear c10
          (first | rw [c10b0] | (simp only [i64_w, i32_w]; rw [c10b0]) | skip)
          have H' := Aside0.mk H
          clear H
          go_wp2
          go_meet
          case rel => exact ⟨_, (false), (by first | rfl | (simp; done) | (simp [*]; done)), H', ⟨by have := HK1.out; have := HK2.out; first | omega | exact Nat.le_refl _⟩, ⟨by (with_reducible repeat (first | apply Kd.R_alloc | apply Kd.R_drewN | apply Kd.R_drew)); exact HO_3.out⟩, ⟨by (with_reducible repeat (first | apply Kd.S_alloc | apply Kd.S_drewN | apply Kd.S_drew)); exact HO_4.out⟩, ⟨by repeat (first | (with_reducible first | exact HB.out | apply below_alloc | apply pw_below_drewN | apply below_drew1) | exact HB.out)⟩⟩
        case rest =>
         clear HC9
         try clear c1
         try clear c2
         try clear p2
         try clear q2
         try clear hx2
         try clear c3
         try clear c3b0
         try clear c3b1
         try clear c4
         try clear c4b0
         try clear c4b1
         try clear c8
         try clear c8b0
         try clear c10
         try clear c10b0
         try clear c11
         try clear c11b0
         try clear c12
         try clear c12b0
         try clear hx273_0
         try clear p2
         try clear p273
         try clear q273
         obtain ⟨kq, x30_8, rfl, HA, HJ8, HO_3, HO_4, HB⟩ := hcut
         cases kq with
         | zero => exact absurd HA.out (by simp [ontimeref25_Frontier.j2])
         | succ kj8 =>
          have H := HA.out
          clear HA
          simp only [ontimeref25_Frontier.j2] at H
          by_cases c14 : x30_8 = true
          ·subst c14
           have H1 : (ontimeref25_Frontier.l2 kj8 l0 t267 x4_2 x5_1 x6_2 false 0) = some r := by rw [if_pos rfl] at H; exact H
           clear H
           have H := H1
           clear H1
           have H' := Aside0.mk H
           clear H
           go_wp2
           go_loopg [7, 8] kj8 (fun kq v7 v8 w' => ∃ (x7_4 : Bool) (x8_4 : Int), v7 = .bool x7_4 ∧ v8 = .int .i64 x8_4 ∧ Aside0 (ontimeref25_Frontier.l2 kq l0 t267 x4_2 x5_1 x6_2 x7_4 x8_4 = some r) ∧ Aside0 (kq ≤ kj8) ∧ Aside0 (Kd.R Kd.bool 4 w' w.heap.size (fun _ => True) v268 t267) ∧ Aside0 (Kd.S (Kd.slice 3 (Kd.int .i64)) 29 w' w.heap.size (fun _ => True) v271 x4_2) ∧ Aside0 (Below w.heap.size w w'))
           case atStart => exact ⟨(false), (0), (by first | rfl | (simp; done) | (simp [*]; done)), (by first | rfl | (simp; done) | (simp [*]; done)), H', ⟨Nat.le_refl _⟩, ⟨by (with_reducible repeat (first | apply Kd.R_alloc | apply Kd.R_drewN | apply Kd.R_drew)); exact HO_3.out⟩, ⟨by (with_reducible repeat (first | apply Kd.S_alloc | apply Kd.S_drewN | apply Kd.S_drew)); exact HO_4.out⟩, ⟨by repeat (first | (with_reducible first | exact HB.out | apply below_alloc | apply pw_below_drewN | apply below_drew1) | exact HB.out)⟩⟩
           case round =>
            clear H'
            try clear c1
            try clear c2
            try clear p2
            try clear q2
            try clear hx2
            try clear c3
            try clear c3b0
            try clear c3b1
            try clear c4
            try clear c4b0
            try clear c4b1
            try clear c8
            try clear c8b0
            try clear c10
            try clear c10b0
            try clear c11
            try clear c11b0
            try clear c12
            try clear c12b0
            try clear c14
            try clear hx273_0
            try clear p2
            try clear p273
            try clear q2
            try clear q273
            obtain ⟨x7_4, x8_4, rfl, rfl, HA, HK4, HO_3, HO_4, HB⟩ := hrel
            cases gk with
            | zero => exact absurd HA.out (by simp [ontimeref25_Frontier.l2])
            | succ k4 =>
             have H := HA.out
             clear HA
             simp only [ontimeref25_Frontier.l2] at H
             by_cases c15 : x8_4 < (l0.length : Int)
             ·rw [if_pos c15] at H
              have c15b0 : decide (x8_4 < (l0.length : Int)) = true := decide_eq_true c15
              clear c15
              have H' := Aside0.mk H
              clear H
              go_wp2
              go_loopg [7, 9] k4 (fun kq v7 v9 w' => ∃ (x7_5 : Bool) (x9_5 : Int), v7 = .bool x7_5 ∧ v9 = .int .i64 x9_5 ∧ Aside0 (ontimeref25_Frontier.l3 kq l0 t267 x4_2 x5_1 x6_2 x7_5 x8_4 x9_5 = some r) ∧ Aside0 (kq ≤ k4) ∧ Aside0 (Kd.R Kd.bool 4 w' w.heap.size (fun _ => True) v268 t267) ∧ Aside0 (Kd.S (Kd.slice 3 (Kd.int .i64)) 29 w' w.heap.size (fun _ => True) v271 x4_2) ∧ Aside0 (Below w.heap.size w w'))
              case atStart => exact ⟨(x7_4), (0), (by first | rfl | (simp; done) | (simp [*]; done)), (by first | rfl | (simp; done) | (simp [*]; done)), H', ⟨Nat.le_refl _⟩, ⟨by (with_reducible repeat (first | apply Kd.R_alloc | apply Kd.R_drewN | apply Kd.R_drew)); exact HO_3.out⟩, ⟨by (with_reducible repeat (first | apply Kd.S_alloc | apply Kd.S_drewN | apply Kd.S_drew)); exact HO_4.out⟩, ⟨by repeat (first | (with_reducible first | exact HB.out | apply below_alloc | apply pw_below_drewN | apply below_drew1) | exact HB.out)⟩⟩
              case round =>
               clear H'
               try clear c1
               try clear c2
               try clear p2
               try clear q2
               try clear hx2
               try clear c3
               try clear c3b0
               try clear c3b1
               try clear c4
               try clear c4b0
               try clear c4b1
               try clear c8
               try clear c8b0
               try clear c10
               try clear c10b0
               try clear c11
               try clear c11b0
               try clear c12
               try clear c12b0
               try clear c14
               try clear c15
               try clear c15b0
               try clear hx273_0
               try clear p2
               try clear p273
               try clear q2
               try clear q273
               obtain ⟨x7_5, x9_5, rfl, rfl, HA, HK5, HO_3, HO_4, HB⟩ := hrel
               cases gk with
               | zero => exact absurd HA.out (by simp [ontimeref25_Frontier.l3])
               | succ k5 =>
                have H := HA.out
                clear HA
                simp only [ontimeref25_Frontier.l3] at H
                by_cases c16 : 0 ≤ x8_4
                ·rw [if_pos c16] at H
                 have c16b0 : decide (0 ≤ x8_4) = true := decide_eq_true c16
                 clear c16
                 by_cases c17 : x8_4 < (l0.length : Int)
                 ·rw [if_pos c17] at H
                  have c17b0 : decide (x8_4 < (l0.length : Int)) = true := decide_eq_true c17
                  clear c17
                  by_cases c18 : x9_5 < ((rd_L1 l0 x8_4).length : Int)
                  ·rw [if_pos c18] at H
                   have c18b0 : decide (x9_5 < ((rd_L1 l0 x8_4).length : Int)) = true := decide_eq_true c18
                   clear c18
                   by_cases c19 : x7_5 = true
                   ·subst c19
                    have H1 : (ontimeref25_Frontier.l3 k5 l0 t267 x4_2 x5_1 x6_2 true x8_4 (wrap64 (x9_5 + 1))) = some r := by rw [if_pos rfl] at H; exact H
                    clear H
                    have H := H1
                    clear H1
                    have H' := Aside0.mk H
                    clear H
                    have p274 : 0 ≤ (x8_4 : Int) := of_decide_eq_true (by first | (with_reducible assumption) | assumption)
                    have q274 : x8_4 < (l0.length : Int) := of_decide_eq_true (by first | (with_reducible assumption) | assumption)
                    obtain ⟨ad274, A274_0, c274_0, e274, hx274_0, hl274_0, hi274_0⟩ := at_L1 HR0.out x8_4 p274 q274
                    cases e274
                    replace hx274_0 := (HB.out.cell (World.block_lt_of_cell? w _ hx274_0)).trans hx274_0
                    have HR274_0 := Aside0.mk hi274_0
                    have HC274_0 := Aside0.mk hl274_0
                    clear hi274_0 hl274_0
                    replace p274 := eq_true p274
                    replace q274 := eq_true q274
                    go_wp2
                    go_roundg k5
                    case measure => have := HK1.out; have := HK2.out; have := HJ8.out; have := HK4.out; have := HK5.out; omega
                    case rel => exact ⟨(true), (wrap64 (x9_5 + 1)), (by first | rfl | (simp; done) | (simp [*]; done)), (by first | rfl | (simp; done) | (simp [*]; done)), H', ⟨by have := HK1.out; have := HK2.out; have := HJ8.out; have := HK4.out; have := HK5.out; omega⟩, ⟨by (with_reducible repeat (first | apply Kd.R_alloc | apply Kd.R_drewN | apply Kd.R_drew)); exact HO_3.out⟩, ⟨by (with_reducible repeat (first | apply Kd.S_alloc | apply Kd.S_drewN | apply Kd.S_drew)); exact HO_4.out⟩, ⟨by repeat (first | (with_reducible first | exact HB.out | apply below_alloc | apply pw_below_drewN | apply below_drew1) | exact HB.out)⟩⟩
                   ·replace c19 := Bool.eq_false_iff.mpr c19
                    subst c19
                    have H1 : (if x8_4 < (t267.length : Int) then (if rdOf false t267 x8_4 = true then (if 0 ≤ x9_5 then (if (rd (rd_L1 l0 x8_4) x9_5) = x6_2 then ((ontimeref25_Dominates.f k5 l0 x5_1 x8_4).bind fun t278 => (ontimeref25_Frontier.l3 k5 l0 t267 x4_2 x5_1 x6_2 t278 x8_4 (wrap64 (x9_5 + 1)))) else (ontimeref25_Frontier.l3 k5 l0 t267 x4_2 x5_1 x6_2 false x8_4 (wrap64 (x9_5 + 1)))) else (none)) else (ontimeref25_Frontier.l3 k5 l0 t267 x4_2 x5_1 x6_2 false x8_4 (wrap64 (x9_5 + 1)))) else (none)) = some r := by rw [if_neg (show ¬ (false = true) by decide)] at H; exact H
                    clear H
                    have H := H1
                    clear H1
                    by_cases c20 : x8_4 < (t267.length : Int)
                    ·rw [if_pos c20] at H
                     have c20b0 : decide (x8_4 < (t267.length : Int)) = true := decide_eq_true c20
                     clear c20
                     obtain ⟨bq21, hbq21⟩ : ∃ b_ : Bool, b_ = (rdOf false t267 x8_4) := ⟨_, rfl⟩
                     replace H : (if bq21 = true then (if 0 ≤ x9_5 then (if (rd (rd_L1 l0 x8_4) x9_5) = x6_2 then ((ontimeref25_Dominates.f k5 l0 x5_1 x8_4).bind fun t278 => (ontimeref25_Frontier.l3 k5 l0 t267 x4_2 x5_1 x6_2 t278 x8_4 (wrap64 (x9_5 + 1)))) else (ontimeref25_Frontier.l3 k5 l0 t267 x4_2 x5_1 x6_2 false x8_4 (wrap64 (x9_5 + 1)))) else (none)) else (ontimeref25_Frontier.l3 k5 l0 t267 x4_2 x5_1 x6_2 false x8_4 (wrap64 (x9_5 + 1)))) = some r := by rw [← hbq21] at H; exact H
                     have Nbq21 := Aside0.mk hbq21
                     clear hbq21
                     by_cases c22 : bq21 = true
                     ·subst c22
                      have H1 : (if 0 ≤ x9_5 then (if (rd (rd_L1 l0 x8_4) x9_5) = x6_2 then ((ontimeref25_Dominates.f k5 l0 x5_1 x8_4).bind fun t278 => (ontimeref25_Frontier.l3 k5 l0 t267 x4_2 x5_1 x6_2 t278 x8_4 (wrap64 (x9_5 + 1)))) else (ontimeref25_Frontier.l3 k5 l0 t267 x4_2 x5_1 x6_2 false x8_4 (wrap64 (x9_5 + 1)))) else (none)) = some r := by rw [if_pos rfl] at H; exact H
                      clear H
                      have H := H1
                      clear H1
                      by_cases c23 : 0 ≤ x9_5
                      ·rw [if_pos c23] at H
                       have c23b0 : decide (0 ≤ x9_5) = true := decide_eq_true c23
                       clear c23
                       by_cases c24 : (rd (rd_L1 l0 x8_4) x9_5) = x6_2
                       ·rw [if_pos c24] at H
                        have c24b0 : ((rd (rd_L1 l0 x8_4) x9_5) == x6_2) = true := beq_iff_eq.mpr c24
                        have c24b1 : ((rd (rd_L1 l0 x8_4) x9_5) != x6_2) = false := bne_eq_false_iff_eq.mpr c24
                        clear c24
                        replace H := Option.bind_eq_some_iff.mp H
                        obtain ⟨t278, A250, H⟩ := H
                        replace H : (ontimeref25_Frontier.l3 k5 l0 t267 x4_2 x5_1 x6_2 t278 x8_4 (wrap64 (x9_5 + 1))) = some r := H
                        have A25 := Aside0.mk A250
                        clear A250
                        have H' := Aside0.mk H
                        clear H
                        have p274 : 0 ≤ (x8_4 : Int) := of_decide_eq_true (by first | (with_reducible assumption) | assumption)
                        have q274 : x8_4 < (l0.length : Int) := of_decide_eq_true (by first | (with_reducible assumption) | assumption)
                        obtain ⟨ad274, A274_0, c274_0, e274, hx274_0, hl274_0, hi274_0⟩ := at_L1 HR0.out x8_4 p274 q274
                        cases e274
                        replace hx274_0 := (HB.out.cell (World.block_lt_of_cell? w _ hx274_0)).trans hx274_0
                        have HR274_0 := Aside0.mk hi274_0
                        have HC274_0 := Aside0.mk hl274_0
                        clear hi274_0 hl274_0
                        replace p274 := eq_true p274
                        replace q274 := eq_true q274
                        obtain ⟨Ao26, co26, eo26⟩ := Kd.R_slice HO_3.out
                        subst eo26
                        have p275 : 0 ≤ (x8_4 : Int) := of_decide_eq_true (by first | (with_reducible assumption) | assumption)
                        have q275 : x8_4 < (t267.length : Int) := of_decide_eq_true (by first | (with_reducible assumption) | assumption)
                        obtain ⟨ad275, e275, hx275_0⟩ := Kd.at_bool (Kd.R_reads' HO_3.out).2.2 x8_4 p275 q275
                        (try rw [← Nbq21.out] at hx275_0)
                        cases e275
                        replace p275 := eq_true p275
                        replace q275 := eq_true q275
                        have p276 : 0 ≤ (x8_4 : Int) := of_decide_eq_true (by first | (with_reducible assumption) | assumption)
                        have q276 : x8_4 < (l0.length : Int) := of_decide_eq_true (by first | (with_reducible assumption) | assumption)
                        obtain ⟨ad276, A276_0, c276_0, e276, hx276_0, hl276_0, hi276_0⟩ := at_L1 HR0.out x8_4 p276 q276
                        obtain rfl : ad274 = ad276 := (by injection e276)
                        replace hx276_0 := (HB.out.cell (World.block_lt_of_cell? w _ hx276_0)).trans hx276_0
                        have HR276_0 := Aside0.mk hi276_0
                        have HC276_0 := Aside0.mk hl276_0
                        clear hi276_0 hl276_0
                        replace p276 := eq_true p276
                        replace q276 := eq_true q276
                        have ea_ := Option.some.inj (hx274_0.symm.trans hx276_0)
                        injection ea_ with ea_ en_ ec_
                        subst ea_
                        subst ec_
                        clear en_
                        have p277 : 0 ≤ (x9_5 : Int) := of_decide_eq_true (by first | (with_reducible assumption) | assumption)
                        have q277 : x9_5 < ((rd_L1 l0 x8_4).length : Int) := of_decide_eq_true (by first | (with_reducible assumption) | assumption)
                        obtain ⟨ad277, e277, hx277_0⟩ := Kd.at_int HR276_0.out x9_5 p277 q277
                        cases e277
                        replace hx277_0 := (HB.out.cell (World.block_lt_of_cell? w _ hx277_0)).trans hx277_0
                        replace p277 := eq_true p277
                        replace q277 := eq_true q277
                        go_wp2_with (first | (go_at_call 21; (with_reducible refine (ontimeref25_Dominates.calls k5 _ _ l0 x5_1 x8_4 t278 _ ?side1 ?side2 A25.out).mono ?_); (case side1 => repeat (first | exact (Kd.C_below HR0.out HB.out) | (with_reducible refine Kd.C_alloc ?_ _) | (with_reducible refine Kd.C_drewN ?_ _) | (with_reducible refine Kd.C_drew ?_))); (case side2 => exact HC0.out); rintro e w27 ⟨rfl, hb⟩; have n0_ := Aside0.mk (Kd.R_below (by (with_reducible repeat (first | apply Kd.R_alloc | apply Kd.R_drewN | apply Kd.R_drew)); exact HO_3.out) hb); have n1_ := Aside0.mk (Kd.S_below (by (with_reducible repeat (first | apply Kd.S_alloc | apply Kd.S_drewN | apply Kd.S_drew)); exact HO_4.out) hb); have n2_ := Aside0.mk (below_step (by repeat (first | (with_reducible first | exact HB.out | apply below_alloc | apply pw_below_drewN | apply below_drew1) | exact HB.out)) hb); clear HO_3; clear HO_4; clear HB; have HO_3 := n0_; have HO_4 := n1_; have HB := n2_; clear n0_ n1_ n2_; (try clear hb); (try clear hb2); (try clear hk); (try clear hi)))
                        go_roundg k5
                        case measure => have := HK1.out; have := HK2.out; have := HJ8.out; have := HK4.out; have := HK5.out; omega
                        case rel => exact ⟨(t278), (wrap64 (x9_5 + 1)), (by first | rfl | (simp; done) | (simp [*]; done)), (by first | rfl | (simp; done) | (simp [*]; done)), H', ⟨by have := HK1.out; have := HK2.out; have := HJ8.out; have := HK4.out; have := HK5.out; omega⟩, ⟨by (with_reducible repeat (first | apply Kd.R_alloc | apply Kd.R_drewN | apply Kd.R_drew)); exact HO_3.out⟩, ⟨by (with_reducible repeat (first | apply Kd.S_alloc | apply Kd.S_drewN | apply Kd.S_drew)); exact HO_4.out⟩, ⟨by repeat (first | (with_reducible first | exact HB.out | apply below_alloc | apply pw_below_drewN | apply below_drew1) | exact HB.out)⟩⟩
                       ·rw [if_neg c24] at H
                        have c24b0 : ((rd (rd_L1 l0 x8_4) x9_5) == x6_2) = false := beq_eq_false_iff_ne.mpr c24
                        have c24b1 : ((rd (rd_L1 l0 x8_4) x9_5) != x6_2) = true := bne_iff_ne.mpr c24
                        have H' := Aside0.mk H
                        clear H
                        have p274 : 0 ≤ (x8_4 : Int) := of_decide_eq_true (by first | (with_reducible assumption) | assumption)
                        have q274 : x8_4 < (l0.length : Int) := of_decide_eq_true (by first | (with_reducible assumption) | assumption)
                        obtain ⟨ad274, A274_0, c274_0, e274, hx274_0, hl274_0, hi274_0⟩ := at_L1 HR0.out x8_4 p274 q274
                        cases e274
                        replace hx274_0 := (HB.out.cell (World.block_lt_of_cell? w _ hx274_0)).trans hx274_0
                        have HR274_0 := Aside0.mk hi274_0
                        have HC274_0 := Aside0.mk hl274_0
                        clear hi274_0 hl274_0
                        replace p274 := eq_true p274
                        replace q274 := eq_true q274
                        obtain ⟨Ao28, co28, eo28⟩ := Kd.R_slice HO_3.out
                        subst eo28
                        have p275 : 0 ≤ (x8_4 : Int) := of_decide_eq_true (by first | (with_reducible assumption) | assumption)
                        have q275 : x8_4 < (t267.length : Int) := of_decide_eq_true (by first | (with_reducible assumption) | assumption)
                        obtain ⟨ad275, e275, hx275_0⟩ := Kd.at_bool (Kd.R_reads' HO_3.out).2.2 x8_4 p275 q275
                        (try rw [← Nbq21.out] at hx275_0)
                        cases e275
                        replace p275 := eq_true p275
                        replace q275 := eq_true q275
                        have p276 : 0 ≤ (x8_4 : Int) := of_decide_eq_true (by first | (with_reducible assumption) | assumption)
                        have q276 : x8_4 < (l0.length : Int) := of_decide_eq_true (by first | (with_reducible assumption) | assumption)
                        obtain ⟨ad276, A276_0, c276_0, e276, hx276_0, hl276_0, hi276_0⟩ := at_L1 HR0.out x8_4 p276 q276
                        obtain rfl : ad274 = ad276 := (by injection e276)
                        replace hx276_0 := (HB.out.cell (World.block_lt_of_cell? w _ hx276_0)).trans hx276_0
                        have HR276_0 := Aside0.mk hi276_0
                        have HC276_0 := Aside0.mk hl276_0
                        clear hi276_0 hl276_0
                        replace p276 := eq_true p276
                        replace q276 := eq_true q276
                        have ea_ := Option.some.inj (hx274_0.symm.trans hx276_0)
                        injection ea_ with ea_ en_ ec_
                        subst ea_
                        subst ec_
                        clear en_
                        have p277 : 0 ≤ (x9_5 : Int) := of_decide_eq_true (by first | (with_reducible assumption) | assumption)
                        have q277 : x9_5 < ((rd_L1 l0 x8_4).length : Int) := of_decide_eq_true (by first | (with_reducible assumption) | assumption)
                        obtain ⟨ad277, e277, hx277_0⟩ := Kd.at_int HR276_0.out x9_5 p277 q277
                        cases e277
                        replace hx277_0 := (HB.out.cell (World.block_lt_of_cell? w _ hx277_0)).trans hx277_0
                        replace p277 := eq_true p277
                        replace q277 := eq_true q277
                        go_wp2
                        go_roundg k5
                        case measure => have := HK1.out; have := HK2.out; have := HJ8.out; have := HK4.out; have := HK5.out; omega
                        case rel => exact ⟨(false), (wrap64 (x9_5 + 1)), (by first | rfl | (simp; done) | (simp [*]; done)), (by first | rfl | (simp; done) | (simp [*]; done)), H', ⟨by have := HK1.out; have := HK2.out; have := HJ8.out; have := HK4.out; have := HK5.out; omega⟩, ⟨by (with_reducible repeat (first | apply Kd.R_alloc | apply Kd.R_drewN | apply Kd.R_drew)); exact HO_3.out⟩, ⟨by (with_reducible repeat (first | apply Kd.S_alloc | apply Kd.S_drewN | apply Kd.S_drew)); exact HO_4.out⟩, ⟨by repeat (first | (with_reducible first | exact HB.out | apply below_alloc | apply pw_below_drewN | apply below_drew1) | exact HB.out)⟩⟩
                      ·rw [if_neg c23] at H
                       exact absurd H (by simp)
                     ·replace c22 := Bool.eq_false_iff.mpr c22
                      subst c22
                      have H1 : (ontimeref25_Frontier.l3 k5 l0 t267 x4_2 x5_1 x6_2 false x8_4 (wrap64 (x9_5 + 1))) = some r := by rw [if_neg (show ¬ (false = true) by decide)] at H; exact H
                      clear H
                      have H := H1
                      clear H1
                      have H' := Aside0.mk H
                      clear H
                      have p274 : 0 ≤ (x8_4 : Int) := of_decide_eq_true (by first | (with_reducible assumption) | assumption)
                      have q274 : x8_4 < (l0.length : Int) := of_decide_eq_true (by first | (with_reducible assumption) | assumption)
                      obtain ⟨ad274, A274_0, c274_0, e274, hx274_0, hl274_0, hi274_0⟩ := at_L1 HR0.out x8_4 p274 q274
                      cases e274
                      replace hx274_0 := (HB.out.cell (World.block_lt_of_cell? w _ hx274_0)).trans hx274_0
                      have HR274_0 := Aside0.mk hi274_0
                      have HC274_0 := Aside0.mk hl274_0
                      clear hi274_0 hl274_0
                      replace p274 := eq_true p274
                      replace q274 := eq_true q274
                      obtain ⟨Ao29, co29, eo29⟩ := Kd.R_slice HO_3.out
                      subst eo29
                      have p275 : 0 ≤ (x8_4 : Int) := of_decide_eq_true (by first | (with_reducible assumption) | assumption)
                      have q275 : x8_4 < (t267.length : Int) := of_decide_eq_true (by first | (with_reducible assumption) | assumption)
                      obtain ⟨ad275, e275, hx275_0⟩ := Kd.at_bool (Kd.R_reads' HO_3.out).2.2 x8_4 p275 q275
                      (try rw [← Nbq21.out] at hx275_0)
                      cases e275
                      replace p275 := eq_true p275
                      replace q275 := eq_true q275
                      go_wp2
                      go_roundg k5
                      case measure => have := HK1.out; have := HK2.out; have := HJ8.out; have := HK4.out; have := HK5.out; omega
                      case rel => exact ⟨(false), (wrap64 (x9_5 + 1)), (by first | rfl | (simp; done) | (simp [*]; done)), (by first | rfl | (simp; done) | (simp [*]; done)), H', ⟨by have := HK1.out; have := HK2.out; have := HJ8.out; have := HK4.out; have := HK5.out; omega⟩, ⟨by (with_reducible repeat (first | apply Kd.R_alloc | apply Kd.R_drewN | apply Kd.R_drew)); exact HO_3.out⟩, ⟨by (with_reducible repeat (first | apply Kd.S_alloc | apply Kd.S_drewN | apply Kd.S_drew)); exact HO_4.out⟩, ⟨by repeat (first | (with_reducible first | exact HB.out | apply below_alloc | apply pw_below_drewN | apply below_drew1) | exact HB.out)⟩⟩
                    ·rw [if_neg c20] at H
                     exact absurd H (by simp)
                  ·rw [if_neg c18] at H
                   have c18b0 : decide (x9_5 < ((rd_L1 l0 x8_4).length : Int)) = false := decide_eq_false c18
                   clear c18
                   have H' := Aside0.mk H
                   clear H
                   have p274 : 0 ≤ (x8_4 : Int) := of_decide_eq_true (by first | (with_reducible assumption) | assumption)
                   have q274 : x8_4 < (l0.length : Int) := of_decide_eq_true (by first | (with_reducible assumption) | assumption)
                   obtain ⟨ad274, A274_0, c274_0, e274, hx274_0, hl274_0, hi274_0⟩ := at_L1 HR0.out x8_4 p274 q274
                   cases e274
                   replace hx274_0 := (HB.out.cell (World.block_lt_of_cell? w _ hx274_0)).trans hx274_0
                   have HR274_0 := Aside0.mk hi274_0
                   have HC274_0 := Aside0.mk hl274_0
                   clear hi274_0 hl274_0
                   replace p274 := eq_true p274
                   replace q274 := eq_true q274
                   go_wp2
                   go_roundg k5
                   case measure => have := HK1.out; have := HK2.out; have := HJ8.out; have := HK4.out; have := HK5.out; omega
                   case rel => exact ⟨(x7_5), (wrap64 (x8_4 + 1)), (by first | rfl | (simp; done) | (simp [*]; done)), (by first | rfl | (simp; done) | (simp [*]; done)), H', ⟨by have := HK1.out; have := HK2.out; have := HJ8.out; have := HK4.out; have := HK5.out; omega⟩, ⟨by (with_reducible repeat (first | apply Kd.R_alloc | apply Kd.R_drewN | apply Kd.R_drew)); exact HO_3.out⟩, ⟨by (with_reducible repeat (first | apply Kd.S_alloc | apply Kd.S_drewN | apply Kd.S_drew)); exact HO_4.out⟩, ⟨by repeat (first | (with_reducible first | exact HB.out | apply below_alloc | apply pw_below_drewN | apply below_drew1) | exact HB.out)⟩⟩
                 ·rw [if_neg c17] at H
                  exact absurd H (by simp)
                ·rw [if_neg c16] at H
                 exact absurd H (by simp)
             ·rw [if_neg c15] at H
              have c15b0 : decide (x8_4 < (l0.length : Int)) = false := decide_eq_false c15
              clear c15
              by_cases c30 : x7_4 = true
              ·subst c30
               have H1 : (if x5_1 = x6_2 then (if 0 ≤ x5_1 then (if x5_1 < (x4_2.length : Int) then (if (rd_L1 x4_2 x5_1).length < 17592186044416 then (ontimeref25_Frontier.l1 k4 l0 t267 (x4_2.set (x5_1 : Int).toNat ((rd_L1 x4_2 x5_1) ++ [x6_2])) x5_1 (wrap64 (x6_2 + 1))) else (none)) else (none)) else (none)) else ((ontimeref25_Dominates.f k4 l0 x5_1 x6_2).bind fun t284 => (if t284 = true then (ontimeref25_Frontier.l1 k4 l0 t267 x4_2 x5_1 (wrap64 (x6_2 + 1))) else (if 0 ≤ x5_1 then (if x5_1 < (x4_2.length : Int) then (if (rd_L1 x4_2 x5_1).length < 17592186044416 then (ontimeref25_Frontier.l1 k4 l0 t267 (x4_2.set (x5_1 : Int).toNat ((rd_L1 x4_2 x5_1) ++ [x6_2])) x5_1 (wrap64 (x6_2 + 1))) else (none)) else (none)) else (none))))) = some r := by rw [if_pos rfl] at H; exact H
               clear H
               have H := H1
               clear H1
               by_cases c31 : x5_1 = x6_2
               ·rw [if_pos c31] at H
                have c31b0 : (x5_1 == x6_2) = true := beq_iff_eq.mpr c31
                have c31b1 : (x5_1 != x6_2) = false := bne_eq_false_iff_eq.mpr c31
                clear c31
                by_cases c32 : 0 ≤ x5_1
                ·rw [if_pos c32] at H
                 have c32b0 : decide (0 ≤ x5_1) = true := decide_eq_true c32
                 clear c32
                 by_cases c33 : x5_1 < (x4_2.length : Int)
                 ·rw [if_pos c33] at H
                  have c33b0 : decide (x5_1 < (x4_2.length : Int)) = true := decide_eq_true c33
                  clear c33
                  by_cases c34 : (rd_L1 x4_2 x5_1).length < 17592186044416
                  ·rw [if_pos c34] at H
                   have LMc34 := Aside0.mk c34
                   clear c34
                   obtain ⟨y280, hy280⟩ : ∃ y_ : List Int, y_ = ((rd_L1 x4_2 x5_1) ++ [x6_2]) := ⟨_, rfl⟩
                   replace H : (ontimeref25_Frontier.l1 k4 l0 t267 (x4_2.set (x5_1 : Int).toNat y280) x5_1 (wrap64 (x6_2 + 1))) = some r := by first | (rw [hy280]; with_reducible exact H) | (have H2_ := (Option.bind_some _ _).symm.trans H; rw [hy280]; with_reducible exact H2_) | (have H2_ := (Option.bind_some _ _).symm.trans H; with_reducible exact H2_) | with_reducible exact H | (rw [hy280]; exact H) | exact H
                   have Ny280 := Aside0.mk hy280
                   clear hy280
                   obtain ⟨y283, hy283⟩ : ∃ y_ : List (List Int), y_ = (x4_2.set (x5_1 : Int).toNat y280) := ⟨_, rfl⟩
                   replace H : (ontimeref25_Frontier.l1 k4 l0 t267 y283 x5_1 (wrap64 (x6_2 + 1))) = some r := by first | (rw [hy283]; with_reducible exact H) | (have H2_ := (Option.bind_some _ _).symm.trans H; rw [hy283]; with_reducible exact H2_) | (have H2_ := (Option.bind_some _ _).symm.trans H; with_reducible exact H2_) | with_reducible exact H | (rw [hy283]; exact H) | exact H
                   have Ny283 := Aside0.mk hy283
                   clear hy283
                   have H' := Aside0.mk H
                   clear H
                   obtain ⟨Ao36, co36, eo36⟩ := Kd.S_slice HO_4.out
                   subst eo36
                   have p279 : 0 ≤ (x5_1 : Int) := of_decide_eq_true (by first | (with_reducible assumption) | assumption)
                   have q279 : x5_1 < (x4_2.length : Int) := of_decide_eq_true (by first | (with_reducible assumption) | assumption)
                   obtain ⟨ad279, A279_0, c279_0, e279, hx279_0, hl279_0, hi279_0⟩ := at_L1 (Kd.S_reads' HO_4.out).2.2 x5_1 p279 q279
                   cases e279
                   obtain ⟨ce279, hce279, hMe279, hcc279⟩ := Kd.S_get HO_4.out [] x5_1 p279 (by first | exact q279 | exact of_decide_eq_true (by first | (with_reducible assumption) | assumption) | (have e_ := (Kd.S_reads' HO_4.out).1; omega))
                   obtain ⟨ve279_0, rfl, ge279_0⟩ := hMe279
                   have hv279_0 := hcc279 0 _ rfl
                   rw [Nat.add_zero, show ((Kd.slice 3 (Kd.int .i64))).sz = 1 from rfl, Nat.mul_one] at hv279_0
                   replace hv279_0 := Option.some.inj (hv279_0.symm.trans hx279_0)
                   rw [hv279_0] at ge279_0
                   have HL279_0 := Aside0.mk (show Kd.R (Kd.int .i64) 3 _ _ _ _ (rd_L1 x4_2 x5_1) from ge279_0)
                   clear hv279_0 ge279_0
                   have HX279_0 := Aside0.mk hx279_0
                   clear hcc279 hce279
                   have HR279_0 := Aside0.mk hi279_0
                   have HC279_0 := Aside0.mk hl279_0
                   clear hi279_0 hl279_0
                   replace p279 := eq_true p279
                   replace q279 := eq_true q279
                   obtain ⟨go37, co37, eo37, gb37, gl37, cl37, HG37⟩ := Kd.S_form HO_4.out (by have h_ : (x5_1 : Int) < ((x4_2.length : Int) : Int) := of_decide_eq_true (by first | (with_reducible assumption) | assumption); have h2_ : 0 ≤ (x5_1 : Int) := (of_decide_eq_true (by first | (with_reducible assumption) | assumption)); omega)
                   (first | cases eo37 | (injection eo37 with ea_ en_ ec_; (first | subst ea_ | (injection ea_ with ea_; subst ea_)); subst ec_; clear en_))
                   have GB37 := Aside0.mk gb37
                   have GG37 := Aside0.mk HG37
                   clear gb37 gl37 HG37
                   (first | simp only [add_plain] at hx279_0 | skip)
                   obtain ⟨oki37, ce37, hcl37, hM37, hcc37, _, _, hH37⟩ := Kd.S_elem HO_4.out [] (x5_1 : Int) (of_decide_eq_true (by first | (with_reducible assumption) | assumption)) (by have h_ : (x5_1 : Int) < ((x4_2.length : Int) : Int) := of_decide_eq_true (by first | (with_reducible assumption) | assumption); first | exact h_ | (have e_ := (Kd.S_reads' HO_4.out).1; omega) | simpa using h_)
                   obtain ⟨ve37_0, rfl, ge37_0⟩ := hM37
                   have hv37 := hcc37 0 _ rfl
                   have hX37 := HX279_0.out
                   (try simp only [add_plain] at hX37)
                   (try simp only [Nat.add_zero] at hv37)
                   (try rw [show ((Kd.slice 3 (Kd.int .i64))).sz = 1 from rfl, Nat.mul_one] at hv37)
                   replace hv37 := Option.some.inj (hv37.symm.trans hX37)
                   subst hv37
                   clear hX37 hcc37 hcl37
                   have UU37 := Aside0.mk (show Kd.R (Kd.int .i64) 3 _ w.heap.size oki37 (.slice A279_0 (rd_L1 x4_2 x5_1).length c279_0) (rd_L1 x4_2 x5_1) from ge37_0)
                   have HH37 := Aside0.mk hH37
                   have HN37 := Aside0.mk (Kd.S_reads' HO_4.out).1
                   clear hH37 ge37_0
                   go_wp2_with (first | ((with_reducible refine gate_builtin (b := .append) (xs := #[.tmp 90, .tmp 92]) rfl ?_); at_builtin; refine Kd.R_append (Kd.int .i64) (w0 := w) w.heap.size rfl (.tmp 90) (.tmp 92) 29 3 (.int .i64 0) 8 rfl Try.underlying29 info3 rfl (by decide) (by omega) (.slice A279_0 (rd_L1 x4_2 x5_1).length c279_0) (rd_L1 x4_2 x5_1) x6_2 [.int .i64 x6_2] (fun k_ => oki37 k_ ∨ ((fun _ => True)) k_ ∧ wr.heap.size ≤ k_) (fun _ => False) rfl rfl ?aP (fun _ hk => hk.elim) ?aF ?aO ?aB ?aS ?aL ?_; (case aP => exact rfl); (case aB => exact (by repeat (first | (with_reducible first | exact HB.out | apply below_alloc | apply pw_below_drewN | apply below_drew1) | exact HB.out))); (case aF => exact (fun k_ hk => .inr ⟨trivial, hk⟩)); (case aO => exact (by (with_reducible repeat (first | apply Kd.R_alloc | apply Kd.R_drewN | apply Kd.R_drew)); exact Kd.R_mono UU37.out (fun _ hk => .inl hk))); (case aS => exact (below_size (by repeat (first | (with_reducible first | exact HB.out | apply below_alloc | apply pw_below_drewN | apply below_drew1) | exact HB.out)))); (case aL => have := LMc34.out; omega); intro v281 w38 ho hb hg hat; rw [← Ny280.out] at ho; have n0_ := Aside0.mk (Kd.R_over' (v := (.slice A279_0 (rd_L1 x4_2 x5_1).length c279_0)) (by (with_reducible repeat (first | apply Kd.R_alloc | apply Kd.R_drewN | apply Kd.R_drew)); exact HO_3.out) (Kd.R_typed HL279_0.out) (by decide) hg); have n1_ := Aside0.mk (hb); have n2_ := Aside0.mk (Kd.H_grown (Kd.H_widen (by repeat (first | exact HH37.out | refine Kd.H_alloc ?_ _ | refine Kd.H_drewN ?_ _ | refine Kd.H_drew ?_))) hg (fun k_ e_ => .inl (UU37.out.1 k_ e_))); have n3_ := Aside0.mk (ho); clear HO_3; clear HB; clear HH37; clear HO_4; clear UU37; clear HL279_0; have HO_3 := n0_; have HB := n1_; have HH37 := n2_; have HO282 := n3_; clear n0_ n1_ n2_ n3_; clear ho hb hg hat; have p35 : 0 ≤ (x5_1 : Int) := of_decide_eq_true (by first | (with_reducible assumption) | assumption); have q35 : (x5_1 : Int) < ((x4_2.length : Int) : Int) := of_decide_eq_true (by first | (with_reducible assumption) | assumption); replace p35 := eq_true p35; replace q35 := eq_true q35; obtain ⟨Ao41, co41, eo41⟩ := Kd.R_slice HO282.out; subst eo41; obtain ⟨_, _, hraw39, _, _, hcc39, _⟩ := Kd.H_raw HH37.out (of_decide_eq_true (by first | (with_reducible assumption) | assumption)) (by have h_ : (x5_1 : Int) < ((x4_2.length : Int) : Int) := of_decide_eq_true (by first | (with_reducible assumption) | assumption); first | exact h_ | (have e_ := (HN37.out); omega) | simpa using h_); obtain ⟨_, hfr39⟩ := Kd.H_at HH37.out (of_decide_eq_true (by first | (with_reducible assumption) | assumption)) (by have h_ : (x5_1 : Int) < ((x4_2.length : Int) : Int) := of_decide_eq_true (by first | (with_reducible assumption) | assumption); first | exact h_ | (have e_ := (HN37.out); omega) | simpa using h_); have hx39_0 := hcc39 0 _ rfl; have hf39_0 := hfr39 0; (try simp only [Nat.add_zero] at hx39_0 hf39_0); (try rw [show ((Kd.slice 3 (Kd.int .i64))).sz = 1 from rfl, Nat.mul_one] at hx39_0); (try rw [show ((Kd.slice 3 (Kd.int .i64))).sz = 1 from rfl, Nat.mul_one] at hf39_0); have HP39 := Kd.S_seg0 HH37.out (of_decide_eq_true (by first | (with_reducible assumption) | assumption)) (by have h_ : (x5_1 : Int) < ((x4_2.length : Int) : Int) := of_decide_eq_true (by first | (with_reducible assumption) | assumption); first | exact h_ | (have e_ := (HN37.out); omega) | simpa using h_) (seg := [.slice Ao41 y280.length co41]) (j := 0) (show 1 ≤ 1 from by decide) (x' := y280) (Kd.M_row HO282.out) (fun _ hk => hk); (try simp only [show ((Kd.slice 3 (Kd.int .i64))).sz = 1 from rfl, Nat.mul_one, Nat.add_zero] at HP39); clear hcc39 hfr39) | ((with_reducible refine gate_store (t := 29) (p := 94) rfl ?_); refine store_event (t := 29) (p := 94) (v := ?vo_w40) (w1 := (w38.setCell ⟨go37, (x5_1 : Int).toNat, none⟩ (.slice Ao41 y280.length co41))) ?hg ?ho ?hn ?hr ?_; (case ho => rfl); (case hg => rfl); (case hn => rfl); (case hr => first | (go_simp; done) | (go_simp; rfl)); intro w40 hw; have hg : w38.grownBy w40 (some go37) := (by rw [hw]; exact HP39.2); have hp_ : Kd.S (Kd.slice 3 (Kd.int .i64)) 29 w40 w.heap.size (fun _ => True) (.slice (some ⟨go37, 0, none⟩) x4_2.length co36) y283 := (by rw [hw, Ny283.out]; exact HP39.1); clear HP39; have n0_ := Aside0.mk (Kd.R_over' (v := (.slice (some ⟨go37, 0, none⟩) x4_2.length co36)) (by (with_reducible repeat (first | apply Kd.R_alloc | apply Kd.R_drewN | apply Kd.R_drew)); exact HO_3.out) (Kd.R_typed hraw39) (by decide) hg); have n1_ := Aside0.mk ((by rw [hw]; exact below_set HB.out GB37.out : Below w.heap.size w w40)); have n2_ := Aside0.mk (hp_); clear HO_3; clear HB; clear HO282; clear HH37; have HO_3 := n0_; have HB := n1_; have HO_4 := n2_; clear n0_ n1_ n2_; clear hg hw hp_ hraw39))
                   go_roundg k4
                   case measure => have := HK1.out; have := HK2.out; have := HJ8.out; have := HK4.out; omega
                   case rel => exact ⟨(y283), (wrap64 (x6_2 + 1)), (by first | rfl | (simp; done) | (simp [*]; done)), H', ⟨by have := HK1.out; have := HK2.out; have := HJ8.out; have := HK4.out; omega⟩, ⟨by (with_reducible repeat (first | apply Kd.R_alloc | apply Kd.R_drewN | apply Kd.R_drew)); exact HO_3.out⟩, ⟨by (with_reducible repeat (first | apply Kd.S_alloc | apply Kd.S_drewN | apply Kd.S_drew)); exact HO_4.out⟩, ⟨by repeat (first | (with_reducible first | exact HB.out | apply below_alloc | apply pw_below_drewN | apply below_drew1) | exact HB.out)⟩⟩
                  ·rw [if_neg c34] at H
                   exact absurd H (by simp)
                 ·rw [if_neg c33] at H
                  exact absurd H (by simp)
                ·rw [if_neg c32] at H
                 exact absurd H (by simp)
               ·rw [if_neg c31] at H
                have c31b0 : (x5_1 == x6_2) = false := beq_eq_false_iff_ne.mpr c31
                have c31b1 : (x5_1 != x6_2) = true := bne_iff_ne.mpr c31
                replace H := Option.bind_eq_some_iff.mp H
                obtain ⟨t284, A420, H⟩ := H
                replace H : (if t284 = true then (ontimeref25_Frontier.l1 k4 l0 t267 x4_2 x5_1 (wrap64 (x6_2 + 1))) else (if 0 ≤ x5_1 then (if x5_1 < (x4_2.length : Int) then (if (rd_L1 x4_2 x5_1).length < 17592186044416 then (ontimeref25_Frontier.l1 k4 l0 t267 (x4_2.set (x5_1 : Int).toNat ((rd_L1 x4_2 x5_1) ++ [x6_2])) x5_1 (wrap64 (x6_2 + 1))) else (none)) else (none)) else (none))) = some r := H
                have A42 := Aside0.mk A420
                clear A420
                by_cases c43 : t284 = true
                ·subst c43
                 have H1 : (ontimeref25_Frontier.l1 k4 l0 t267 x4_2 x5_1 (wrap64 (x6_2 + 1))) = some r := by rw [if_pos rfl] at H; exact H
                 clear H
                 have H := H1
                 clear H1
                 have H' := Aside0.mk H
                 clear H
                 go_wp2_with (first | (go_at_call 21; (with_reducible refine (ontimeref25_Dominates.calls k4 _ _ l0 x5_1 x6_2 true _ ?side1 ?side2 A42.out).mono ?_); (case side1 => repeat (first | exact (Kd.C_below HR0.out HB.out) | (with_reducible refine Kd.C_alloc ?_ _) | (with_reducible refine Kd.C_drewN ?_ _) | (with_reducible refine Kd.C_drew ?_))); (case side2 => exact HC0.out); rintro e w44 ⟨rfl, hb⟩; have n0_ := Aside0.mk (Kd.R_below (by (with_reducible repeat (first | apply Kd.R_alloc | apply Kd.R_drewN | apply Kd.R_drew)); exact HO_3.out) hb); have n1_ := Aside0.mk (Kd.S_below (by (with_reducible repeat (first | apply Kd.S_alloc | apply Kd.S_drewN | apply Kd.S_drew)); exact HO_4.out) hb); have n2_ := Aside0.mk (below_step (by repeat (first | (with_reducible first | exact HB.out | apply below_alloc | apply pw_below_drewN | apply below_drew1) | exact HB.out)) hb); clear HO_3; clear HO_4; clear HB; have HO_3 := n0_; have HO_4 := n1_; have HB := n2_; clear n0_ n1_ n2_; (try clear hb); (try clear hb2); (try clear hk); (try clear hi)))
                 go_roundg k4
                 case measure => have := HK1.out; have := HK2.out; have := HJ8.out; have := HK4.out; omega
                 case rel => exact ⟨(x4_2), (wrap64 (x6_2 + 1)), (by first | rfl | (simp; done) | (simp [*]; done)), H', ⟨by have := HK1.out; have := HK2.out; have := HJ8.out; have := HK4.out; omega⟩, ⟨by (with_reducible repeat (first | apply Kd.R_alloc | apply Kd.R_drewN | apply Kd.R_drew)); exact HO_3.out⟩, ⟨by (with_reducible repeat (first | apply Kd.S_alloc | apply Kd.S_drewN | apply Kd.S_drew)); exact HO_4.out⟩, ⟨by repeat (first | (with_reducible first | exact HB.out | apply below_alloc | apply pw_below_drewN | apply below_drew1) | exact HB.out)⟩⟩
                ·replace c43 := Bool.eq_false_iff.mpr c43
                 subst c43
                 have H1 : (if 0 ≤ x5_1 then (if x5_1 < (x4_2.length : Int) then (if (rd_L1 x4_2 x5_1).length < 17592186044416 then (ontimeref25_Frontier.l1 k4 l0 t267 (x4_2.set (x5_1 : Int).toNat ((rd_L1 x4_2 x5_1) ++ [x6_2])) x5_1 (wrap64 (x6_2 + 1))) else (none)) else (none)) else (none)) = some r := by rw [if_neg (show ¬ (false = true) by decide)] at H; exact H
                 clear H
                 have H := H1
                 clear H1
                 by_cases c45 : 0 ≤ x5_1
                 ·rw [if_pos c45] at H
                  have c45b0 : decide (0 ≤ x5_1) = true := decide_eq_true c45
                  clear c45
                  by_cases c46 : x5_1 < (x4_2.length : Int)
                  ·rw [if_pos c46] at H
                   have c46b0 : decide (x5_1 < (x4_2.length : Int)) = true := decide_eq_true c46
                   clear c46
                   by_cases c47 : (rd_L1 x4_2 x5_1).length < 17592186044416
                   ·rw [if_pos c47] at H
                    have LMc47 := Aside0.mk c47
                    clear c47
                    obtain ⟨y286, hy286⟩ : ∃ y_ : List Int, y_ = ((rd_L1 x4_2 x5_1) ++ [x6_2]) := ⟨_, rfl⟩
                    replace H : (ontimeref25_Frontier.l1 k4 l0 t267 (x4_2.set (x5_1 : Int).toNat y286) x5_1 (wrap64 (x6_2 + 1))) = some r := by first | (rw [hy286]; with_reducible exact H) | (have H2_ := (Option.bind_some _ _).symm.trans H; rw [hy286]; with_reducible exact H2_) | (have H2_ := (Option.bind_some _ _).symm.trans H; with_reducible exact H2_) | with_reducible exact H | (rw [hy286]; exact H) | exact H
                    have Ny286 := Aside0.mk hy286
                    clear hy286
                    obtain ⟨y289, hy289⟩ : ∃ y_ : List (List Int), y_ = (x4_2.set (x5_1 : Int).toNat y286) := ⟨_, rfl⟩
                    replace H : (ontimeref25_Frontier.l1 k4 l0 t267 y289 x5_1 (wrap64 (x6_2 + 1))) = some r := by first | (rw [hy289]; with_reducible exact H) | (have H2_ := (Option.bind_some _ _).symm.trans H; rw [hy289]; with_reducible exact H2_) | (have H2_ := (Option.bind_some _ _).symm.trans H; with_reducible exact H2_) | with_reducible exact H | (rw [hy289]; exact H) | exact H
                    have Ny289 := Aside0.mk hy289
                    clear hy289
                    have H' := Aside0.mk H
                    clear H
                    go_wp2_with (first | (go_at_call 21; (with_reducible refine (ontimeref25_Dominates.calls k4 _ _ l0 x5_1 x6_2 false _ ?side1 ?side2 A42.out).mono ?_); (case side1 => repeat (first | exact (Kd.C_below HR0.out HB.out) | (with_reducible refine Kd.C_alloc ?_ _) | (with_reducible refine Kd.C_drewN ?_ _) | (with_reducible refine Kd.C_drew ?_))); (case side2 => exact HC0.out); rintro e w49 ⟨rfl, hb⟩; have n0_ := Aside0.mk (Kd.R_below (by (with_reducible repeat (first | apply Kd.R_alloc | apply Kd.R_drewN | apply Kd.R_drew)); exact HO_3.out) hb); have n1_ := Aside0.mk (Kd.S_below (by (with_reducible repeat (first | apply Kd.S_alloc | apply Kd.S_drewN | apply Kd.S_drew)); exact HO_4.out) hb); have n2_ := Aside0.mk (below_step (by repeat (first | (with_reducible first | exact HB.out | apply below_alloc | apply pw_below_drewN | apply below_drew1) | exact HB.out)) hb); clear HO_3; clear HO_4; clear HB; have HO_3 := n0_; have HO_4 := n1_; have HB := n2_; clear n0_ n1_ n2_; (try clear hb); (try clear hb2); (try clear hk); (try clear hi); obtain ⟨Ao50, co50, eo50⟩ := Kd.S_slice HO_4.out; subst eo50; have p285 : 0 ≤ (x5_1 : Int) := of_decide_eq_true (by first | (with_reducible assumption) | assumption); have q285 : x5_1 < (x4_2.length : Int) := of_decide_eq_true (by first | (with_reducible assumption) | assumption); obtain ⟨ad285, A285_0, c285_0, e285, hx285_0, hl285_0, hi285_0⟩ := at_L1 (Kd.S_reads' HO_4.out).2.2 x5_1 p285 q285; cases e285; obtain ⟨ce285, hce285, hMe285, hcc285⟩ := Kd.S_get HO_4.out [] x5_1 p285 (by first | exact q285 | exact of_decide_eq_true (by first | (with_reducible assumption) | assumption) | (have e_ := (Kd.S_reads' HO_4.out).1; omega)); obtain ⟨ve285_0, rfl, ge285_0⟩ := hMe285; have hv285_0 := hcc285 0 _ rfl; rw [Nat.add_zero, show ((Kd.slice 3 (Kd.int .i64))).sz = 1 from rfl, Nat.mul_one] at hv285_0; replace hv285_0 := Option.some.inj (hv285_0.symm.trans hx285_0); rw [hv285_0] at ge285_0; have HL285_0 := Aside0.mk (show Kd.R (Kd.int .i64) 3 _ _ _ _ (rd_L1 x4_2 x5_1) from ge285_0); clear hv285_0 ge285_0; have HX285_0 := Aside0.mk hx285_0; clear hcc285 hce285; have HR285_0 := Aside0.mk hi285_0; have HC285_0 := Aside0.mk hl285_0; clear hi285_0 hl285_0; replace p285 := eq_true p285; replace q285 := eq_true q285; obtain ⟨go51, co51, eo51, gb51, gl51, cl51, HG51⟩ := Kd.S_form HO_4.out (by have h_ : (x5_1 : Int) < ((x4_2.length : Int) : Int) := of_decide_eq_true (by first | (with_reducible assumption) | assumption); have h2_ : 0 ≤ (x5_1 : Int) := (of_decide_eq_true (by first | (with_reducible assumption) | assumption)); omega); (first | cases eo51 | (injection eo51 with ea_ en_ ec_; (first | subst ea_ | (injection ea_ with ea_; subst ea_)); subst ec_; clear en_)); have GB51 := Aside0.mk gb51; have GG51 := Aside0.mk HG51; clear gb51 gl51 HG51; (first | simp only [add_plain] at hx285_0 | skip); obtain ⟨oki51, ce51, hcl51, hM51, hcc51, _, _, hH51⟩ := Kd.S_elem HO_4.out [] (x5_1 : Int) (of_decide_eq_true (by first | (with_reducible assumption) | assumption)) (by have h_ : (x5_1 : Int) < ((x4_2.length : Int) : Int) := of_decide_eq_true (by first | (with_reducible assumption) | assumption); first | exact h_ | (have e_ := (Kd.S_reads' HO_4.out).1; omega) | simpa using h_); obtain ⟨ve51_0, rfl, ge51_0⟩ := hM51; have hv51 := hcc51 0 _ rfl; have hX51 := HX285_0.out; (try simp only [add_plain] at hX51); (try simp only [Nat.add_zero] at hv51); (try rw [show ((Kd.slice 3 (Kd.int .i64))).sz = 1 from rfl, Nat.mul_one] at hv51); replace hv51 := Option.some.inj (hv51.symm.trans hX51); subst hv51; clear hX51 hcc51 hcl51; have UU51 := Aside0.mk (show Kd.R (Kd.int .i64) 3 _ w.heap.size oki51 (.slice A285_0 (rd_L1 x4_2 x5_1).length c285_0) (rd_L1 x4_2 x5_1) from ge51_0); have HH51 := Aside0.mk hH51; have HN51 := Aside0.mk (Kd.S_reads' HO_4.out).1; clear hH51 ge51_0) | ((with_reducible refine gate_builtin (b := .append) (xs := #[.tmp 90, .tmp 92]) rfl ?_); at_builtin; refine Kd.R_append (Kd.int .i64) (w0 := w) w.heap.size rfl (.tmp 90) (.tmp 92) 29 3 (.int .i64 0) 8 rfl Try.underlying29 info3 rfl (by decide) (by omega) (.slice A285_0 (rd_L1 x4_2 x5_1).length c285_0) (rd_L1 x4_2 x5_1) x6_2 [.int .i64 x6_2] (fun k_ => oki51 k_ ∨ ((fun _ => True)) k_ ∧ w49.heap.size ≤ k_) (fun _ => False) rfl rfl ?aP (fun _ hk => hk.elim) ?aF ?aO ?aB ?aS ?aL ?_; (case aP => exact rfl); (case aB => exact (by repeat (first | (with_reducible first | exact HB.out | apply below_alloc | apply pw_below_drewN | apply below_drew1) | exact HB.out))); (case aF => exact (fun k_ hk => .inr ⟨trivial, hk⟩)); (case aO => exact (by (with_reducible repeat (first | apply Kd.R_alloc | apply Kd.R_drewN | apply Kd.R_drew)); exact Kd.R_mono UU51.out (fun _ hk => .inl hk))); (case aS => exact (below_size (by repeat (first | (with_reducible first | exact HB.out | apply below_alloc | apply pw_below_drewN | apply below_drew1) | exact HB.out)))); (case aL => have := LMc47.out; omega); intro v287 w52 ho hb hg hat; rw [← Ny286.out] at ho; have n0_ := Aside0.mk (Kd.R_over' (v := (.slice A285_0 (rd_L1 x4_2 x5_1).length c285_0)) (by (with_reducible repeat (first | apply Kd.R_alloc | apply Kd.R_drewN | apply Kd.R_drew)); exact HO_3.out) (Kd.R_typed HL285_0.out) (by decide) hg); have n1_ := Aside0.mk (hb); have n2_ := Aside0.mk (Kd.H_grown (Kd.H_widen (by repeat (first | exact HH51.out | refine Kd.H_alloc ?_ _ | refine Kd.H_drewN ?_ _ | refine Kd.H_drew ?_))) hg (fun k_ e_ => .inl (UU51.out.1 k_ e_))); have n3_ := Aside0.mk (ho); clear HO_3; clear HB; clear HH51; clear HO_4; clear UU51; clear HL285_0; have HO_3 := n0_; have HB := n1_; have HH51 := n2_; have HO288 := n3_; clear n0_ n1_ n2_ n3_; clear ho hb hg hat; have p48 : 0 ≤ (x5_1 : Int) := of_decide_eq_true (by first | (with_reducible assumption) | assumption); have q48 : (x5_1 : Int) < ((x4_2.length : Int) : Int) := of_decide_eq_true (by first | (with_reducible assumption) | assumption); replace p48 := eq_true p48; replace q48 := eq_true q48; obtain ⟨Ao55, co55, eo55⟩ := Kd.R_slice HO288.out; subst eo55; obtain ⟨_, _, hraw53, _, _, hcc53, _⟩ := Kd.H_raw HH51.out (of_decide_eq_true (by first | (with_reducible assumption) | assumption)) (by have h_ : (x5_1 : Int) < ((x4_2.length : Int) : Int) := of_decide_eq_true (by first | (with_reducible assumption) | assumption); first | exact h_ | (have e_ := (HN51.out); omega) | simpa using h_); obtain ⟨_, hfr53⟩ := Kd.H_at HH51.out (of_decide_eq_true (by first | (with_reducible assumption) | assumption)) (by have h_ : (x5_1 : Int) < ((x4_2.length : Int) : Int) := of_decide_eq_true (by first | (with_reducible assumption) | assumption); first | exact h_ | (have e_ := (HN51.out); omega) | simpa using h_); have hx53_0 := hcc53 0 _ rfl; have hf53_0 := hfr53 0; (try simp only [Nat.add_zero] at hx53_0 hf53_0); (try rw [show ((Kd.slice 3 (Kd.int .i64))).sz = 1 from rfl, Nat.mul_one] at hx53_0); (try rw [show ((Kd.slice 3 (Kd.int .i64))).sz = 1 from rfl, Nat.mul_one] at hf53_0); have HP53 := Kd.S_seg0 HH51.out (of_decide_eq_true (by first | (with_reducible assumption) | assumption)) (by have h_ : (x5_1 : Int) < ((x4_2.length : Int) : Int) := of_decide_eq_true (by first | (with_reducible assumption) | assumption); first | exact h_ | (have e_ := (HN51.out); omega) | simpa using h_) (seg := [.slice Ao55 y286.length co55]) (j := 0) (show 1 ≤ 1 from by decide) (x' := y286) (Kd.M_row HO288.out) (fun _ hk => hk); (try simp only [show ((Kd.slice 3 (Kd.int .i64))).sz = 1 from rfl, Nat.mul_one, Nat.add_zero] at HP53); clear hcc53 hfr53) | ((with_reducible refine gate_store (t := 29) (p := 94) rfl ?_); refine store_event (t := 29) (p := 94) (v := ?vo_w54) (w1 := (w52.setCell ⟨go51, (x5_1 : Int).toNat, none⟩ (.slice Ao55 y286.length co55))) ?hg ?ho ?hn ?hr ?_; (case ho => rfl); (case hg => rfl); (case hn => rfl); (case hr => first | (go_simp; done) | (go_simp; rfl)); intro w54 hw; have hg : w52.grownBy w54 (some go51) := (by rw [hw]; exact HP53.2); have hp_ : Kd.S (Kd.slice 3 (Kd.int .i64)) 29 w54 w.heap.size (fun _ => True) (.slice (some ⟨go51, 0, none⟩) x4_2.length co50) y289 := (by rw [hw, Ny289.out]; exact HP53.1); clear HP53; have n0_ := Aside0.mk (Kd.R_over' (v := (.slice (some ⟨go51, 0, none⟩) x4_2.length co50)) (by (with_reducible repeat (first | apply Kd.R_alloc | apply Kd.R_drewN | apply Kd.R_drew)); exact HO_3.out) (Kd.R_typed hraw53) (by decide) hg); have n1_ := Aside0.mk ((by rw [hw]; exact below_set HB.out GB51.out : Below w.heap.size w w54)); have n2_ := Aside0.mk (hp_); clear HO_3; clear HB; clear HO288; clear HH51; have HO_3 := n0_; have HB := n1_; have HO_4 := n2_; clear n0_ n1_ n2_; clear hg hw hp_ hraw53))
                    go_roundg k4
                    case measure => have := HK1.out; have := HK2.out; have := HJ8.out; have := HK4.out; omega
                    case rel => exact ⟨(y289), (wrap64 (x6_2 + 1)), (by first | rfl | (simp; done) | (simp [*]; done)), H', ⟨by have := HK1.out; have := HK2.out; have := HJ8.out; have := HK4.out; omega⟩, ⟨by (with_reducible repeat (first | apply Kd.R_alloc | apply Kd.R_drewN | apply Kd.R_drew)); exact HO_3.out⟩, ⟨by (with_reducible repeat (first | apply Kd.S_alloc | apply Kd.S_drewN | apply Kd.S_drew)); exact HO_4.out⟩, ⟨by repeat (first | (with_reducible first | exact HB.out | apply below_alloc | apply pw_below_drewN | apply below_drew1) | exact HB.out)⟩⟩
                   ·rw [if_neg c47] at H
                    exact absurd H (by simp)
                  ·rw [if_neg c46] at H
                   exact absurd H (by simp)
                 ·rw [if_neg c45] at H
                  exact absurd H (by simp)
              ·replace c30 := Bool.eq_false_iff.mpr c30
               subst c30
               have H1 : (ontimeref25_Frontier.l1 k4 l0 t267 x4_2 x5_1 (wrap64 (x6_2 + 1))) = some r := by rw [if_neg (show ¬ (false = true) by decide)] at H; exact H
               clear H
               have H := H1
               clear H1
               have H' := Aside0.mk H
               clear H
               go_wp2
               go_roundg k4
               case measure => have := HK1.out; have := HK2.out; have := HJ8.out; have := HK4.out; omega
               case rel => exact ⟨(x4_2), (wrap64 (x6_2 + 1)), (by first | rfl | (simp; done) | (simp [*]; done)), H', ⟨by have := HK1.out; have := HK2.out; have := HJ8.out; have := HK4.out; omega⟩, ⟨by (with_reducible repeat (first | apply Kd.R_alloc | apply Kd.R_drewN | apply Kd.R_drew)); exact HO_3.out⟩, ⟨by (with_reducible repeat (first | apply Kd.S_alloc | apply Kd.S_drewN | apply Kd.S_drew)); exact HO_4.out⟩, ⟨by repeat (first | (with_reducible first | exact HB.out | apply below_alloc | apply pw_below_drewN | apply below_drew1) | exact HB.out)⟩⟩
          ·replace c14 := Bool.eq_false_iff.mpr c14
           subst c14
           have H1 : (ontimeref25_Frontier.l0 kj8 l0 t267 x4_2 (wrap64 (x5_1 + 1))) = some r := by rw [if_neg (show ¬ (false = true) by decide)] at H; exact H
           clear H
           have H := H1
           clear H1
           have H' := Aside0.mk H
           clear H
           go_wp2
           go_roundg kj8
           case measure => have := HK1.out; have := HK2.out; have := HJ8.out; omega
           case rel => exact ⟨(x4_2), (wrap64 (x5_1 + 1)), (by first | rfl | (simp; done) | (simp [*]; done)), H', ⟨by have := HK1.out; have := HK2.out; have := HJ8.out; omega⟩, ⟨by (with_reducible repeat (first | apply Kd.R_alloc | apply Kd.R_drewN | apply Kd.R_drew)); exact HO_3.out⟩, ⟨by (with_reducible repeat (first | apply Kd.S_alloc | apply Kd.S_drewN | apply Kd.S_drew)); exact HO_4.out⟩, ⟨by repeat (first | (with_reducible first | exact HB.out | apply below_alloc | apply pw_below_drewN | apply below_drew1) | exact HB.out)⟩⟩
     ·rw [if_neg c8] at H
      have c8b0 : decide (x5_1 < (l0.length : Int)) = false := decide_eq_false c8
      clear c8
      obtain rfl := Option.some.inj H
      go_wp2
      go_ret
      exact ⟨_, by first | rfl | (simp [errW_none, errW_some] <;> rfl) | (simp [*, errW_none, errW_some] <;> rfl), by (with_reducible repeat (first | apply Kd.S_alloc | apply Kd.S_drewN | apply Kd.S_drew)); exact HO_4.out, by repeat (first | (with_reducible first | exact HB.out | apply below_alloc | apply pw_below_drewN | apply below_drew1) | exact HB.out)⟩
  ·rw [if_neg c4] at H
   exact absurd H (by simp)
 ·rw [if_neg c3] at H
  exact absurd H (by simp)

end Go.Proofs.Ytnkbmpdghjhlfaa.P
