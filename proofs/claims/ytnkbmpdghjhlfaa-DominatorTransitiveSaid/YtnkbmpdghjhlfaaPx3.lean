/- Written by xprint.py: functions, proofs of contracts. -/
import Derived.Test.YtnkbmpdghjhlfaaPx0
namespace Go.Proofs.Ytnkbmpdghjhlfaa.P
open Go.RowKit Go.Proofs.YtnkbmpdghjhlfaaW.PrintWords Go.Proofs.YtnkbmpdghjhlfaaW.PrintLast Go.Proofs.YtnkbmpdghjhlfaaW.PrintMore
attribute [local go_sem] max2_int min2_int max_two min_two max_three min_three max_four min_four   -- for this text's walks alone
set_option linter.unusedVariables false
set_option linter.unusedSimpArgs false

/-! ### ontimeref25_Reach: function 20 -/
mutual
def ontimeref25_Reach.j0 : Nat → List (List Int) → Int → List Bool → Bool → Option (List Bool)
 | 0, _, _, _, _ => none
 | k + 1, x0, x1, x5, x18 => if x18 = true then (some x5) else (if 0 < (x5.length : Int) then (ontimeref25_Reach.l0 k x0 x1 (x5.set (0 : Int).toNat true) 0) else (none))
def ontimeref25_Reach.l0 : Nat → List (List Int) → Int → List Bool → Int → Option (List Bool)
 | 0, _, _, _, _ => none
 | k + 1, x0, x1, x5, x6 => if x6 < (x0.length : Int) then (ontimeref25_Reach.l1 k x0 x1 x5 x6 0) else (some x5)
def ontimeref25_Reach.l1 : Nat → List (List Int) → Int → List Bool → Int → Int → Option (List Bool)
 | 0, _, _, _, _, _ => none
 | k + 1, x0, x1, x5, x6, x7 => if x7 < (x0.length : Int) then (ontimeref25_Reach.l2 k x0 x1 x5 x6 x7 0) else (ontimeref25_Reach.l0 k x0 x1 x5 (wrap64 (x6 + 1)))
def ontimeref25_Reach.l2 : Nat → List (List Int) → Int → List Bool → Int → Int → Int → Option (List Bool)
 | 0, _, _, _, _, _, _ => none
 | k + 1, x0, x1, x5, x6, x7, x8 => if 0 ≤ x7 then (if x7 < (x0.length : Int) then (if x8 < ((rd_L1 x0 x7).length : Int) then (if x7 < (x5.length : Int) then (if rdOf false x5 x7 = true then (if 0 ≤ x8 then (if (rd (rd_L1 x0 x7) x8) = x1 then (ontimeref25_Reach.l2 k x0 x1 x5 x6 x7 (wrap64 (x8 + 1))) else (if 0 ≤ (rd (rd_L1 x0 x7) x8) then (if (rd (rd_L1 x0 x7) x8) < (x5.length : Int) then (ontimeref25_Reach.l2 k x0 x1 (x5.set ((rd (rd_L1 x0 x7) x8) : Int).toNat true) x6 x7 (wrap64 (x8 + 1))) else (none)) else (none))) else (none)) else (ontimeref25_Reach.l2 k x0 x1 x5 x6 x7 (wrap64 (x8 + 1)))) else (none)) else (ontimeref25_Reach.l1 k x0 x1 x5 x6 (wrap64 (x7 + 1)))) else (none)) else (none)
end
def ontimeref25_Reach.f (k : Nat) (l0 : List (List Int)) (a1 : Int) : Option (List Bool) := if 0 ≤ (l0.length : Int) then (if ((l0.length : Int) : Int).toNat ≤ 281474976710656 then ((some (List.replicate ((l0.length : Int) : Int).toNat false : List Bool)).bind fun y128 => (if (l0.length : Int) = 0 then (ontimeref25_Reach.j0 k l0 a1 y128 true) else (ontimeref25_Reach.j0 k l0 a1 y128 (a1 == 0)))) else (none)) else (none)
theorem ontimeref25_Reach.mono_l : ∀ k, (∀ y0 y1 y2 y3, LeO (ontimeref25_Reach.j0 k y0 y1 y2 y3) (ontimeref25_Reach.j0 (k + 1) y0 y1 y2 y3)) ∧ (∀ y0 y1 y2 y3, LeO (ontimeref25_Reach.l0 k y0 y1 y2 y3) (ontimeref25_Reach.l0 (k + 1) y0 y1 y2 y3)) ∧ (∀ y0 y1 y2 y3 y4, LeO (ontimeref25_Reach.l1 k y0 y1 y2 y3 y4) (ontimeref25_Reach.l1 (k + 1) y0 y1 y2 y3 y4)) ∧ (∀ y0 y1 y2 y3 y4 y5, LeO (ontimeref25_Reach.l2 k y0 y1 y2 y3 y4 y5) (ontimeref25_Reach.l2 (k + 1) y0 y1 y2 y3 y4 y5))
 | 0 => ⟨fun _ _ _ _ r h => by simp [ontimeref25_Reach.j0] at h, fun _ _ _ _ r h => by simp [ontimeref25_Reach.l0] at h, fun _ _ _ _ _ r h => by simp [ontimeref25_Reach.l1] at h, fun _ _ _ _ _ _ r h => by simp [ontimeref25_Reach.l2] at h⟩
 | k + 1 => by
  obtain ⟨ih0, ih1, ih2, ih3⟩ := ontimeref25_Reach.mono_l k
  refine ⟨?_, ?_, ?_, ?_⟩
  ·intro y0 y1 y2 y3
   unfold ontimeref25_Reach.j0
   repeat' first
   | (with_reducible exact ih0 _ _ _ _)
   | (with_reducible exact ih1 _ _ _ _)
   | (with_reducible exact ih2 _ _ _ _ _)
   | (with_reducible exact ih3 _ _ _ _ _ _)
   | (with_reducible exact LeO.refl _)
   | (with_reducible exact LeO.none _)
   | (with_reducible refine LeO.ite ?_ ?_)
   | (with_reducible refine LeO.bind ?_ (fun _ => ?_))
   | exact ih0 _ _ _ _
   | exact ih1 _ _ _ _
   | exact ih2 _ _ _ _ _
   | exact ih3 _ _ _ _ _ _
   | exact LeO.none _
   | refine LeO.ite ?_ ?_
   | refine LeO.bind ?_ (fun _ => ?_)
  ·intro y0 y1 y2 y3
   unfold ontimeref25_Reach.l0
   repeat' first
   | (with_reducible exact ih0 _ _ _ _)
   | (with_reducible exact ih1 _ _ _ _)
   | (with_reducible exact ih2 _ _ _ _ _)
   | (with_reducible exact ih3 _ _ _ _ _ _)
   | (with_reducible exact LeO.refl _)
   | (with_reducible exact LeO.none _)
   | (with_reducible refine LeO.ite ?_ ?_)
   | (with_reducible refine LeO.bind ?_ (fun _ => ?_))
   | exact ih0 _ _ _ _
   | exact ih1 _ _ _ _
   | exact ih2 _ _ _ _ _
   | exact ih3 _ _ _ _ _ _
   | exact LeO.none _
   | refine LeO.ite ?_ ?_
   | refine LeO.bind ?_ (fun _ => ?_)
  ·intro y0 y1 y2 y3 y4
   unfold ontimeref25_Reach.l1
   repeat' first
   | (with_reducible exact ih0 _ _ _ _)
   | (with_reducible exact ih1 _ _ _ _)
   | (with_reducible exact ih2 _ _ _ _ _)
   | (with_reducible exact ih3 _ _ _ _ _ _)
   | (with_reducible exact LeO.refl _)
   | (with_reducible exact LeO.none _)
   | (with_reducible refine LeO.ite ?_ ?_)
   | (with_reducible refine LeO.bind ?_ (fun _ => ?_))
   | exact ih0 _ _ _ _
   | exact ih1 _ _ _ _
   | exact ih2 _ _ _ _ _
   | exact ih3 _ _ _ _ _ _
   | exact LeO.none _
   | refine LeO.ite ?_ ?_
   | refine LeO.bind ?_ (fun _ => ?_)
  ·intro y0 y1 y2 y3 y4 y5
   unfold ontimeref25_Reach.l2
   repeat' first
   | (with_reducible exact ih0 _ _ _ _)
   | (with_reducible exact ih1 _ _ _ _)
   | (with_reducible exact ih2 _ _ _ _ _)
   | (with_reducible exact ih3 _ _ _ _ _ _)
   | (with_reducible exact LeO.refl _)
   | (with_reducible exact LeO.none _)
   | (with_reducible refine LeO.ite ?_ ?_)
   | (with_reducible refine LeO.bind ?_ (fun _ => ?_))
   | exact ih0 _ _ _ _
   | exact ih1 _ _ _ _
   | exact ih2 _ _ _ _ _
   | exact ih3 _ _ _ _ _ _
   | exact LeO.none _
   | refine LeO.ite ?_ ?_
   | refine LeO.bind ?_ (fun _ => ?_)
theorem ontimeref25_Reach.mono : ∀ a0 a1 k, LeO (ontimeref25_Reach.f k a0 a1) (ontimeref25_Reach.f (k + 1) a0 a1) := by
 intro a0 a1 k
 obtain ⟨ih0, ih1, ih2, ih3⟩ := ontimeref25_Reach.mono_l k
 unfold ontimeref25_Reach.f
 repeat' first
   | (with_reducible exact ih0 _ _ _ _)
   | (with_reducible exact ih1 _ _ _ _)
   | (with_reducible exact ih2 _ _ _ _ _)
   | (with_reducible exact ih3 _ _ _ _ _ _)
   | (with_reducible exact LeO.refl _)
   | (with_reducible exact LeO.none _)
   | (with_reducible refine LeO.ite ?_ ?_)
   | (with_reducible refine LeO.bind ?_ (fun _ => ?_))
   | exact ih0 _ _ _ _
   | exact ih1 _ _ _ _
   | exact ih2 _ _ _ _ _
   | exact ih3 _ _ _ _ _ _
   | exact LeO.none _
   | refine LeO.ite ?_ ?_
   | refine LeO.bind ?_ (fun _ => ?_)
set_option maxHeartbeats 8000000 in
set_option maxRecDepth 100000 in
theorem ontimeref25_Reach.calls (k : Nat) (A0 : Option Addr) (c0 : Nat) (l0 : List (List Int)) (a1 : Int) (r : List Bool) (w : World) (hr0 : Kd.C (Kd.slice 3 (Kd.int .i64)) w A0 l0.length l0) (hc0 : l0.length ≤ c0) (h : ontimeref25_Reach.f k l0 a1 = some r) :
  Calls Try.prog 20 #[.slice A0 l0.length c0, .int .i64 a1] w fun e w' => ∃ v0_ : Value, e = .returned (v0_) ∧ Kd.R Kd.bool 4 w' w.heap.size (fun _ => True) v0_ r ∧ Below w.heap.size w w' := by
 have HR0 := Aside0.mk hr0
 have HC0 := Aside0.mk hc0
 clear hr0 hc0
 have HB := Aside0.mk (Below.refl w.heap.size w)
 have H : (if 0 ≤ (l0.length : Int) then (if ((l0.length : Int) : Int).toNat ≤ 281474976710656 then ((some (List.replicate ((l0.length : Int) : Int).toNat false : List Bool)).bind fun y128 => (if (l0.length : Int) = 0 then (ontimeref25_Reach.j0 k l0 a1 y128 true) else (ontimeref25_Reach.j0 k l0 a1 y128 (a1 == 0)))) else (none)) else (none)) = some r := h
 clear h
 by_cases c3 : 0 ≤ (l0.length : Int)
 ·rw [if_pos c3] at H
  have c3b0 := eq_true c3
  have c3b1 : decide (0 ≤ (l0.length : Int)) = true := decide_eq_true c3
  clear c3
  by_cases c4 : ((l0.length : Int) : Int).toNat ≤ 281474976710656
  ·rw [if_pos c4] at H
   have c4b0 := eq_true c4
   have c4b1 : decide (((l0.length : Int) : Int).toNat ≤ 281474976710656) = true := decide_eq_true c4
   clear c4
   obtain ⟨y128, hy128⟩ : ∃ y_ : List Bool, y_ = (List.replicate ((l0.length : Int) : Int).toNat false) := ⟨_, rfl⟩
   replace H : (if (l0.length : Int) = 0 then (ontimeref25_Reach.j0 k l0 a1 y128 true) else (ontimeref25_Reach.j0 k l0 a1 y128 (a1 == 0))) = some r := by first | (rw [hy128]; with_reducible exact H) | (have H2_ := (Option.bind_some _ _).symm.trans H; rw [hy128]; with_reducible exact H2_) | (have H2_ := (Option.bind_some _ _).symm.trans H; with_reducible exact H2_) | with_reducible exact H | (rw [hy128]; exact H) | exact H
   have Ny128 := Aside0.mk hy128
   clear hy128
   have HC5 := Aside0.mk H
   clear H
   go_enter Try.func20, Try.ntmps20
   go_upto_region 2 with (first | ((with_reducible refine gate_dst (N := 11) rfl ?_); refine Kd.R_make Kd.bool _ 4 rfl (N := 11) rfl 36 _ _ rfl (l0.length : Int) rfl rfl Try.underlying36 (.bool false) 1 info4 rfl (by decide) (by omega) false (ok := fun _ => True) (okp := fun _ => True) rfl (fun _ hk => hk) trivial (of_decide_eq_true (by first | (with_reducible assumption) | assumption)) (Nat.le_trans (Nat.mul_le_mul_right _ (of_decide_eq_true (by first | (with_reducible assumption) | assumption) : (l0.length : Int).toNat ≤ 281474976710656)) (by omega)) (Below.refl _ _) (Nat.le_refl _) ?_; intro v129 w6 ho7 hb hg_ hnew_; clear hg_ hnew_; (first | rw [← Ny128.out] at ho7 | (simp only [Int.reduceToNat] at ho7; rw [← Ny128.out] at ho7)); have n0_ := Aside0.mk (Kd.R_lower ho7 (below_size (by repeat (first | (with_reducible first | exact HB.out | apply below_alloc | apply pw_below_drewN | apply below_drew1) | exact HB.out)))); have n1_ := Aside0.mk (below_step (by repeat (first | (with_reducible first | exact HB.out | apply below_alloc | apply pw_below_drewN | apply below_drew1) | exact HB.out)) hb); clear HB; have HO130 := n0_; have HB := n1_; clear n0_ n1_; clear hb ho7))
   (try simp only [Act.put, List.setIfInBounds_toArray, List.set_cons_zero, List.set_cons_succ])
   go_cut [18] (fun v18 wc => ∃ (kq : Nat) (x18_4 : Bool), v18 = .bool x18_4 ∧ Aside0 (ontimeref25_Reach.j0 kq l0 a1 y128 x18_4 = some r) ∧ Aside0 (kq ≤ k) ∧ Aside0 (Kd.R Kd.bool 4 wc w.heap.size (fun _ => True) v129 y128) ∧ Aside0 (Below w.heap.size w wc))
   case first =>
    have H := HC5.out
    clear HC5
    by_cases c8 : (l0.length : Int) = 0
    ·rw [if_pos c8] at H
     have c8b0 : ((l0.length : Int) == 0) = true := beq_iff_eq.mpr c8
     have c8b1 : ((l0.length : Int) != 0) = false := bne_eq_false_iff_eq.mpr c8
     clear c8
     (first | rw [c8b0] | (simp only [i64_w, i32_w]; rw [c8b0]) | skip)
     have H' := Aside0.mk H
     clear H
     go_wp2
     go_meet
     case rel => exact ⟨_, (true), (by first | rfl | (simp; done) | (simp [*]; done)), H', ⟨by first | omega | exact Nat.le_refl _⟩, ⟨by (with_reducible repeat (first | apply Kd.R_alloc | apply Kd.R_drewN | apply Kd.R_drew)); exact HO130.out⟩, ⟨by repeat (first | (with_reducible first | exact HB.out | apply below_alloc | apply pw_below_drewN | apply below_drew1) | exact HB.out)⟩⟩
    ·rw [if_neg c8] at H
     have c8b0 : ((l0.length : Int) == 0) = false := beq_eq_false_iff_ne.mpr c8
     have c8b1 : ((l0.length : Int) != 0) = true := bne_iff_ne.mpr c8
     have c8b2 : ¬ (l0 = []) := fun h_ => c8 (by rw [h_]; rfl)
     (first | rw [c8b0] | (simp only [i64_w, i32_w]; rw [c8b0]) | skip)
     have H' := Aside0.mk H
     clear H
     go_wp2
     go_meet
     case rel => exact ⟨_, ((a1 == 0)), (by first | rfl | (simp; done) | (simp [*]; done)), H', ⟨by first | omega | exact Nat.le_refl _⟩, ⟨by (with_reducible repeat (first | apply Kd.R_alloc | apply Kd.R_drewN | apply Kd.R_drew)); exact HO130.out⟩, ⟨by repeat (first | (with_reducible first | exact HB.out | apply below_alloc | apply pw_below_drewN | apply below_drew1) | exact HB.out)⟩⟩
   case rest =>
    clear HC5
    try clear c2
    try clear p2
    try clear c3
    try clear c3b0
    try clear c3b1
    try clear c4
    try clear c4b0
    try clear c4b1
    try clear c8
    try clear c8b0
    try clear c8b1
    try clear c8b2
    obtain ⟨kq, x18_4, rfl, HA, HJ4, HO_5, HB⟩ := hcut
    cases kq with
    | zero => exact absurd HA.out (by simp [ontimeref25_Reach.j0])
    | succ kj4 =>
     have H := HA.out
     clear HA
     simp only [ontimeref25_Reach.j0] at H
     by_cases c9 : x18_4 = true
     ·subst c9
      have H1 : (some y128) = some r := by rw [if_pos rfl] at H; exact H
      clear H
      have H := H1
      clear H1
      obtain rfl := Option.some.inj H
      go_wp2
      go_ret
      exact ⟨_, by first | rfl | (simp [errW_none, errW_some] <;> rfl) | (simp [*, errW_none, errW_some] <;> rfl), by (with_reducible repeat (first | apply Kd.R_alloc | apply Kd.R_drewN | apply Kd.R_drew)); exact HO_5.out, by repeat (first | (with_reducible first | exact HB.out | apply below_alloc | apply pw_below_drewN | apply below_drew1) | exact HB.out)⟩
     ·replace c9 := Bool.eq_false_iff.mpr c9
      subst c9
      have H1 : (if 0 < (y128.length : Int) then (ontimeref25_Reach.l0 kj4 l0 a1 (y128.set (0 : Int).toNat true) 0) else (none)) = some r := by rw [if_neg (show ¬ (false = true) by decide)] at H; exact H
      clear H
      have H := H1
      clear H1
      by_cases c10 : 0 < (y128.length : Int)
      ·rw [if_pos c10] at H
       have c10b0 : decide (0 < (y128.length : Int)) = true := decide_eq_true c10
       have c10b1 : decide (0 < y128.length) = true := decide_eq_true (by omega)
       clear c10
       obtain ⟨y131, hy131⟩ : ∃ y_ : List Bool, y_ = (y128.set (0 : Int).toNat true) := ⟨_, rfl⟩
       replace H : (ontimeref25_Reach.l0 kj4 l0 a1 y131 0) = some r := by first | (rw [hy131]; with_reducible exact H) | (have H2_ := (Option.bind_some _ _).symm.trans H; rw [hy131]; with_reducible exact H2_) | (have H2_ := (Option.bind_some _ _).symm.trans H; with_reducible exact H2_) | with_reducible exact H | (rw [hy131]; exact H) | exact H
       have Ny131 := Aside0.mk hy131
       clear hy131
       have H' := Aside0.mk H
       clear H
       have p11 : 0 ≤ (0 : Int) := (by omega)
       have q11 : (0 : Int) < ((y128.length : Int) : Int) := of_decide_eq_true (by first | (with_reducible assumption) | assumption)
       have qi11 : (0 < y128.length) = True := eq_true (by omega)
       obtain ⟨go11, co11, eo11, gb11, gl11, cl11, HG11⟩ := Kd.R_form HO_5.out (by omega)
       (first | cases eo11 | (injection eo11 with ea_ en_ ec_; (first | subst ea_ | (injection ea_ with ea_; subst ea_)); subst ec_; clear en_))
       have GB11 := Aside0.mk gb11
       have GG11 := Aside0.mk HG11
       clear gb11 gl11 HG11
       obtain ⟨hx11_0, hf11_0⟩ := Kd.R_celln false HO_5.out (0 : Int) p11 q11
       (try rw [show ((0 : Int)).toNat = 0 from rfl] at hx11_0)
       (try simp only [Nat.reduceMul, Nat.zero_mul, Nat.zero_add, Nat.reduceAdd] at hx11_0)
       (try rw [show ((0 : Int)).toNat = 0 from rfl] at hf11_0)
       (try simp only [Nat.reduceMul, Nat.zero_mul, Nat.zero_add, Nat.reduceAdd] at hf11_0)
       replace p11 := eq_true p11
       replace q11 := eq_true q11
       have HP12 := Kd.R_putg HO_5.out (0 : Int) true
       go_wp2_with (first | ((with_reducible refine gate_store (t := 4) (p := 21) rfl ?_); refine store_event (t := 4) (p := 21) (v := ?vo_w13) (w1 := (wc.setCell ⟨go11, (0 : Int).toNat, none⟩ (.bool true))) ?hg ?ho ?hn ?hr ?_; (case ho => rfl); (case hg => rfl); (case hn => rfl); (case hr => first | (go_simp; done) | (go_simp; rfl)); intro w13 hw; have hg : wc.grownBy w13 (some go11) := (by rw [hw]; exact HP12.2); have hp_ : Kd.R Kd.bool 4 w13 w.heap.size (fun _ => True) (.slice (some ⟨go11, 0, none⟩) y128.length co11) y131 := (by rw [hw, Ny131.out]; exact HP12.1); clear HP12; have n0_ := Aside0.mk (hp_); have n1_ := Aside0.mk ((by rw [hw]; exact below_set (HB.out) GB11.out : Below w.heap.size w w13)); clear HO_5; clear HB; have HO_5 := n0_; have HB := n1_; clear n0_ n1_; clear hg hw hp_))
       go_loopg [6] kj4 (fun kq v6 w' => ∃ (x5_2 : List Bool) (x6_2 : Int), v6 = .int .i64 x6_2 ∧ Aside0 (ontimeref25_Reach.l0 kq l0 a1 x5_2 x6_2 = some r) ∧ Aside0 (kq ≤ kj4) ∧ Aside0 (Kd.R Kd.bool 4 w' w.heap.size (fun _ => True) (.slice (some ⟨go11, 0, none⟩) y128.length co11) x5_2) ∧ Aside0 (Below w.heap.size w w'))
       case atStart => exact ⟨(y131), (0), (by first | rfl | (simp; done) | (simp [*]; done)), H', ⟨Nat.le_refl _⟩, ⟨by (with_reducible repeat (first | apply Kd.R_alloc | apply Kd.R_drewN | apply Kd.R_drew)); exact HO_5.out⟩, ⟨by repeat (first | (with_reducible first | exact HB.out | apply below_alloc | apply pw_below_drewN | apply below_drew1) | exact HB.out)⟩⟩
       case round =>
        clear H'
        try clear c1
        try clear p1
        try clear q1
        try clear hx1
        try clear qi1
        try clear c2
        try clear p2
        try clear c3
        try clear c3b0
        try clear c3b1
        try clear c4
        try clear c4b0
        try clear c4b1
        try clear c8
        try clear c8b0
        try clear c8b1
        try clear c8b2
        try clear c9
        try clear c10
        try clear c10b0
        try clear c10b1
        try clear p11
        try clear q11
        try clear hx11
        try clear qi11
        try clear hf11
        try clear hx11_0
        try clear p11
        try clear p2
        try clear q11
        obtain ⟨x5_2, x6_2, rfl, HA, HK2, HO_5, HB⟩ := hrel
        have hl5_2 := (Kd.R_reads' HO_5.out).1
        rw [hl5_2] at HO_5
        (try simp only [hl5_2])
        cases gk with
        | zero => exact absurd HA.out (by simp [ontimeref25_Reach.l0])
        | succ k2 =>
         have H := HA.out
         clear HA
         simp only [ontimeref25_Reach.l0] at H
         by_cases c14 : x6_2 < (l0.length : Int)
         ·rw [if_pos c14] at H
          have c14b0 : decide (x6_2 < (l0.length : Int)) = true := decide_eq_true c14
          clear c14
          have H' := Aside0.mk H
          clear H
          go_wp2
          go_loopg [7] k2 (fun kq v7 w' => ∃ (x5_3 : List Bool) (x7_3 : Int), v7 = .int .i64 x7_3 ∧ Aside0 (ontimeref25_Reach.l1 kq l0 a1 x5_3 x6_2 x7_3 = some r) ∧ Aside0 (kq ≤ k2) ∧ Aside0 (Kd.R Kd.bool 4 w' w.heap.size (fun _ => True) (.slice (some ⟨go11, 0, none⟩) x5_2.length co11) x5_3) ∧ Aside0 (Below w.heap.size w w'))
          case atStart => exact ⟨(x5_2), (0), (by first | rfl | (simp; done) | (simp [*]; done)), H', ⟨Nat.le_refl _⟩, ⟨by (try simp only [hl5_2]); (with_reducible repeat (first | apply Kd.R_alloc | apply Kd.R_drewN | apply Kd.R_drew)); exact HO_5.out⟩, ⟨by repeat (first | (with_reducible first | exact HB.out | apply below_alloc | apply pw_below_drewN | apply below_drew1) | exact HB.out)⟩⟩
          case round =>
           clear H'
           try clear c1
           try clear p1
           try clear q1
           try clear hx1
           try clear qi1
           try clear c2
           try clear p2
           try clear c3
           try clear c3b0
           try clear c3b1
           try clear c4
           try clear c4b0
           try clear c4b1
           try clear c8
           try clear c8b0
           try clear c8b1
           try clear c8b2
           try clear c9
           try clear c10
           try clear c10b0
           try clear c10b1
           try clear p11
           try clear q11
           try clear hx11
           try clear qi11
           try clear hf11
           try clear c14
           try clear c14b0
           try clear hx11_0
           try clear p1
           try clear p11
           try clear p2
           try clear q1
           try clear q11
           obtain ⟨x5_3, x7_3, rfl, HA, HK3, HO_5, HB⟩ := hrel
           have hl5_3 := (Kd.R_reads' HO_5.out).1
           rw [hl5_3] at HO_5
           (try simp only [hl5_3])
           cases gk with
           | zero => exact absurd HA.out (by simp [ontimeref25_Reach.l1])
           | succ k3 =>
            have H := HA.out
            clear HA
            simp only [ontimeref25_Reach.l1] at H
            by_cases c15 : x7_3 < (l0.length : Int)
            ·rw [if_pos c15] at H
             have c15b0 : decide (x7_3 < (l0.length : Int)) = true := decide_eq_true c15
             clear c15
             have H' := Aside0.mk H
             clear H
             go_wp2
             go_loopg [8] k3 (fun kq v8 w' => ∃ (x5_4 : List Bool) (x8_4 : Int), v8 = .int .i64 x8_4 ∧ Aside0 (ontimeref25_Reach.l2 kq l0 a1 x5_4 x6_2 x7_3 x8_4 = some r) ∧ Aside0 (kq ≤ k3) ∧ Aside0 (Kd.R Kd.bool 4 w' w.heap.size (fun _ => True) (.slice (some ⟨go11, 0, none⟩) x5_3.length co11) x5_4) ∧ Aside0 (Below w.heap.size w w'))
             case atStart => exact ⟨(x5_3), (0), (by first | rfl | (simp; done) | (simp [*]; done)), H', ⟨Nat.le_refl _⟩, ⟨by (try simp only [hl5_2]); (try simp only [hl5_3]); (with_reducible repeat (first | apply Kd.R_alloc | apply Kd.R_drewN | apply Kd.R_drew)); exact HO_5.out⟩, ⟨by repeat (first | (with_reducible first | exact HB.out | apply below_alloc | apply pw_below_drewN | apply below_drew1) | exact HB.out)⟩⟩
             case round =>
              clear H'
              try clear c1
              try clear p1
              try clear q1
              try clear hx1
              try clear qi1
              try clear c2
              try clear p2
              try clear c3
              try clear c3b0
              try clear c3b1
              try clear c4
              try clear c4b0
              try clear c4b1
              try clear c8
              try clear c8b0
              try clear c8b1
              try clear c8b2
              try clear c9
              try clear c10
              try clear c10b0
              try clear c10b1
              try clear p11
              try clear q11
              try clear hx11
              try clear qi11
              try clear hf11
              try clear c14
              try clear c14b0
              try clear c15
              try clear c15b0
              try clear hx11_0
              try clear p1
              try clear p11
              try clear p2
              try clear q1
              try clear q11
              obtain ⟨x5_4, x8_4, rfl, HA, HK4, HO_5, HB⟩ := hrel
              have hl5_4 := (Kd.R_reads' HO_5.out).1
              rw [hl5_4] at HO_5
              (try simp only [hl5_4])
              cases gk with
              | zero => exact absurd HA.out (by simp [ontimeref25_Reach.l2])
              | succ k4 =>
               have H := HA.out
               clear HA
               simp only [ontimeref25_Reach.l2] at H
               by_cases c16 : 0 ≤ x7_3
               ·rw [if_pos c16] at H
                have c16b0 : decide (0 ≤ x7_3) = true := decide_eq_true c16
                clear c16
                by_cases c17 : x7_3 < (l0.length : Int)
                ·rw [if_pos c17] at H
                 have c17b0 : decide (x7_3 < (l0.length : Int)) = true := decide_eq_true c17
                 clear c17
                 by_cases c18 : x8_4 < ((rd_L1 l0 x7_3).length : Int)
                 ·rw [if_pos c18] at H
                  have c18b0 : decide (x8_4 < ((rd_L1 l0 x7_3).length : Int)) = true := decide_eq_true c18
                  clear c18
                  by_cases c19 : x7_3 < (x5_4.length : Int)
                  ·rw [if_pos c19] at H
                   have c19b0 : decide (x7_3 < (x5_4.length : Int)) = true := decide_eq_true c19
                   clear c19
                   obtain ⟨bq20, hbq20⟩ : ∃ b_ : Bool, b_ = (rdOf false x5_4 x7_3) := ⟨_, rfl⟩
                   replace H : (if bq20 = true then (if 0 ≤ x8_4 then (if (rd (rd_L1 l0 x7_3) x8_4) = a1 then (ontimeref25_Reach.l2 k4 l0 a1 x5_4 x6_2 x7_3 (wrap64 (x8_4 + 1))) else (if 0 ≤ (rd (rd_L1 l0 x7_3) x8_4) then (if (rd (rd_L1 l0 x7_3) x8_4) < (x5_4.length : Int) then (ontimeref25_Reach.l2 k4 l0 a1 (x5_4.set ((rd (rd_L1 l0 x7_3) x8_4) : Int).toNat true) x6_2 x7_3 (wrap64 (x8_4 + 1))) else (none)) else (none))) else (none)) else (ontimeref25_Reach.l2 k4 l0 a1 x5_4 x6_2 x7_3 (wrap64 (x8_4 + 1)))) = some r := by rw [← hbq20] at H; exact H
                   have Nbq20 := Aside0.mk hbq20
                   clear hbq20
                   by_cases c21 : bq20 = true
                   ·subst c21
                    have H1 : (if 0 ≤ x8_4 then (if (rd (rd_L1 l0 x7_3) x8_4) = a1 then (ontimeref25_Reach.l2 k4 l0 a1 x5_4 x6_2 x7_3 (wrap64 (x8_4 + 1))) else (if 0 ≤ (rd (rd_L1 l0 x7_3) x8_4) then (if (rd (rd_L1 l0 x7_3) x8_4) < (x5_4.length : Int) then (ontimeref25_Reach.l2 k4 l0 a1 (x5_4.set ((rd (rd_L1 l0 x7_3) x8_4) : Int).toNat true) x6_2 x7_3 (wrap64 (x8_4 + 1))) else (none)) else (none))) else (none)) = some r := by rw [if_pos rfl] at H; exact H
                    clear H
                    have H := H1
                    clear H1
                    by_cases c22 : 0 ≤ x8_4
                    ·rw [if_pos c22] at H
                     have c22b0 : decide (0 ≤ x8_4) = true := decide_eq_true c22
                     clear c22
                     by_cases c23 : (rd (rd_L1 l0 x7_3) x8_4) = a1
                     ·rw [if_pos c23] at H
                      have c23b0 : ((rd (rd_L1 l0 x7_3) x8_4) == a1) = true := beq_iff_eq.mpr c23
                      have c23b1 : ((rd (rd_L1 l0 x7_3) x8_4) != a1) = false := bne_eq_false_iff_eq.mpr c23
                      clear c23
                      have H' := Aside0.mk H
                      clear H
                      have p132 : 0 ≤ (x7_3 : Int) := of_decide_eq_true (by first | (with_reducible assumption) | assumption)
                      have q132 : x7_3 < (l0.length : Int) := of_decide_eq_true (by first | (with_reducible assumption) | assumption)
                      obtain ⟨ad132, A132_0, c132_0, e132, hx132_0, hl132_0, hi132_0⟩ := at_L1 HR0.out x7_3 p132 q132
                      cases e132
                      replace hx132_0 := (HB.out.cell (World.block_lt_of_cell? w _ hx132_0)).trans hx132_0
                      have HR132_0 := Aside0.mk hi132_0
                      have HC132_0 := Aside0.mk hl132_0
                      clear hi132_0 hl132_0
                      replace p132 := eq_true p132
                      replace q132 := eq_true q132
                      have p133 : 0 ≤ (x7_3 : Int) := of_decide_eq_true (by first | (with_reducible assumption) | assumption)
                      have q133 : x7_3 < (x5_4.length : Int) := of_decide_eq_true (by first | (with_reducible assumption) | assumption)
                      obtain ⟨ad133, e133, hx133_0⟩ := Kd.at_bool (Kd.R_reads' HO_5.out).2.2 x7_3 p133 q133
                      (try rw [← Nbq20.out] at hx133_0)
                      obtain rfl : (⟨go11, 0, none⟩ : Addr) = ad133 := (by injection e133)
                      (first | simp only [add_plain] at hx133_0 | simp only [add_at] at hx133_0 | simp only [Addr.add, Nat.zero_add] at hx133_0 | skip)
                      replace p133 := eq_true p133
                      replace q133 := eq_true q133
                      have p134 : 0 ≤ (x7_3 : Int) := of_decide_eq_true (by first | (with_reducible assumption) | assumption)
                      have q134 : x7_3 < (l0.length : Int) := of_decide_eq_true (by first | (with_reducible assumption) | assumption)
                      obtain ⟨ad134, A134_0, c134_0, e134, hx134_0, hl134_0, hi134_0⟩ := at_L1 HR0.out x7_3 p134 q134
                      obtain rfl : ad132 = ad134 := (by injection e134)
                      replace hx134_0 := (HB.out.cell (World.block_lt_of_cell? w _ hx134_0)).trans hx134_0
                      have HR134_0 := Aside0.mk hi134_0
                      have HC134_0 := Aside0.mk hl134_0
                      clear hi134_0 hl134_0
                      replace p134 := eq_true p134
                      replace q134 := eq_true q134
                      have ea_ := Option.some.inj (hx132_0.symm.trans hx134_0)
                      injection ea_ with ea_ en_ ec_
                      subst ea_
                      subst ec_
                      clear en_
                      have p135 : 0 ≤ (x8_4 : Int) := of_decide_eq_true (by first | (with_reducible assumption) | assumption)
                      have q135 : x8_4 < ((rd_L1 l0 x7_3).length : Int) := of_decide_eq_true (by first | (with_reducible assumption) | assumption)
                      obtain ⟨ad135, e135, hx135_0⟩ := Kd.at_int HR134_0.out x8_4 p135 q135
                      cases e135
                      replace hx135_0 := (HB.out.cell (World.block_lt_of_cell? w _ hx135_0)).trans hx135_0
                      replace p135 := eq_true p135
                      replace q135 := eq_true q135
                      go_wp2
                      (try simp only [← hl5_4])
                      go_roundg k4
                      case measure => have := HJ4.out; have := HK2.out; have := HK3.out; have := HK4.out; omega
                      case rel => exact ⟨(x5_4), (wrap64 (x8_4 + 1)), (by first | rfl | (simp; done) | (simp [*]; done)), H', ⟨by have := HJ4.out; have := HK2.out; have := HK3.out; have := HK4.out; omega⟩, ⟨by (try simp only [hl5_2]); (try simp only [hl5_3]); (try simp only [hl5_4]); (with_reducible repeat (first | apply Kd.R_alloc | apply Kd.R_drewN | apply Kd.R_drew)); exact HO_5.out⟩, ⟨by repeat (first | (with_reducible first | exact HB.out | apply below_alloc | apply pw_below_drewN | apply below_drew1) | exact HB.out)⟩⟩
                     ·rw [if_neg c23] at H
                      have c23b0 : ((rd (rd_L1 l0 x7_3) x8_4) == a1) = false := beq_eq_false_iff_ne.mpr c23
                      have c23b1 : ((rd (rd_L1 l0 x7_3) x8_4) != a1) = true := bne_iff_ne.mpr c23
                      by_cases c24 : 0 ≤ (rd (rd_L1 l0 x7_3) x8_4)
                      ·rw [if_pos c24] at H
                       have c24b0 : decide (0 ≤ (rd (rd_L1 l0 x7_3) x8_4)) = true := decide_eq_true c24
                       clear c24
                       by_cases c25 : (rd (rd_L1 l0 x7_3) x8_4) < (x5_4.length : Int)
                       ·rw [if_pos c25] at H
                        have c25b0 : decide ((rd (rd_L1 l0 x7_3) x8_4) < (x5_4.length : Int)) = true := decide_eq_true c25
                        clear c25
                        obtain ⟨y138, hy138⟩ : ∃ y_ : List Bool, y_ = (x5_4.set ((rd (rd_L1 l0 x7_3) x8_4) : Int).toNat true) := ⟨_, rfl⟩
                        replace H : (ontimeref25_Reach.l2 k4 l0 a1 y138 x6_2 x7_3 (wrap64 (x8_4 + 1))) = some r := by first | (rw [hy138]; with_reducible exact H) | (have H2_ := (Option.bind_some _ _).symm.trans H; rw [hy138]; with_reducible exact H2_) | (have H2_ := (Option.bind_some _ _).symm.trans H; with_reducible exact H2_) | with_reducible exact H | (rw [hy138]; exact H) | exact H
                        have Ny138 := Aside0.mk hy138
                        clear hy138
                        have H' := Aside0.mk H
                        clear H
                        have p132 : 0 ≤ (x7_3 : Int) := of_decide_eq_true (by first | (with_reducible assumption) | assumption)
                        have q132 : x7_3 < (l0.length : Int) := of_decide_eq_true (by first | (with_reducible assumption) | assumption)
                        obtain ⟨ad132, A132_0, c132_0, e132, hx132_0, hl132_0, hi132_0⟩ := at_L1 HR0.out x7_3 p132 q132
                        cases e132
                        replace hx132_0 := (HB.out.cell (World.block_lt_of_cell? w _ hx132_0)).trans hx132_0
                        have HR132_0 := Aside0.mk hi132_0
                        have HC132_0 := Aside0.mk hl132_0
                        clear hi132_0 hl132_0
                        replace p132 := eq_true p132
                        replace q132 := eq_true q132
                        have p133 : 0 ≤ (x7_3 : Int) := of_decide_eq_true (by first | (with_reducible assumption) | assumption)
                        have q133 : x7_3 < (x5_4.length : Int) := of_decide_eq_true (by first | (with_reducible assumption) | assumption)
                        obtain ⟨ad133, e133, hx133_0⟩ := Kd.at_bool (Kd.R_reads' HO_5.out).2.2 x7_3 p133 q133
                        (try rw [← Nbq20.out] at hx133_0)
                        obtain rfl : (⟨go11, 0, none⟩ : Addr) = ad133 := (by injection e133)
                        (first | simp only [add_plain] at hx133_0 | simp only [add_at] at hx133_0 | simp only [Addr.add, Nat.zero_add] at hx133_0 | skip)
                        replace p133 := eq_true p133
                        replace q133 := eq_true q133
                        have p134 : 0 ≤ (x7_3 : Int) := of_decide_eq_true (by first | (with_reducible assumption) | assumption)
                        have q134 : x7_3 < (l0.length : Int) := of_decide_eq_true (by first | (with_reducible assumption) | assumption)
                        obtain ⟨ad134, A134_0, c134_0, e134, hx134_0, hl134_0, hi134_0⟩ := at_L1 HR0.out x7_3 p134 q134
                        obtain rfl : ad132 = ad134 := (by injection e134)
                        replace hx134_0 := (HB.out.cell (World.block_lt_of_cell? w _ hx134_0)).trans hx134_0
                        have HR134_0 := Aside0.mk hi134_0
                        have HC134_0 := Aside0.mk hl134_0
                        clear hi134_0 hl134_0
                        replace p134 := eq_true p134
                        replace q134 := eq_true q134
                        have ea_ := Option.some.inj (hx132_0.symm.trans hx134_0)
                        injection ea_ with ea_ en_ ec_
                        subst ea_
                        subst ec_
                        clear en_
                        have p135 : 0 ≤ (x8_4 : Int) := of_decide_eq_true (by first | (with_reducible assumption) | assumption)
                        have q135 : x8_4 < ((rd_L1 l0 x7_3).length : Int) := of_decide_eq_true (by first | (with_reducible assumption) | assumption)
                        obtain ⟨ad135, e135, hx135_0⟩ := Kd.at_int HR134_0.out x8_4 p135 q135
                        cases e135
                        replace hx135_0 := (HB.out.cell (World.block_lt_of_cell? w _ hx135_0)).trans hx135_0
                        replace p135 := eq_true p135
                        replace q135 := eq_true q135
                        have p136 : 0 ≤ (x7_3 : Int) := of_decide_eq_true (by first | (with_reducible assumption) | assumption)
                        have q136 : x7_3 < (l0.length : Int) := of_decide_eq_true (by first | (with_reducible assumption) | assumption)
                        obtain ⟨ad136, A136_0, c136_0, e136, hx136_0, hl136_0, hi136_0⟩ := at_L1 HR0.out x7_3 p136 q136
                        obtain rfl : ad132 = ad136 := (by injection e136)
                        replace hx136_0 := (HB.out.cell (World.block_lt_of_cell? w _ hx136_0)).trans hx136_0
                        have HR136_0 := Aside0.mk hi136_0
                        have HC136_0 := Aside0.mk hl136_0
                        clear hi136_0 hl136_0
                        replace p136 := eq_true p136
                        replace q136 := eq_true q136
                        have ea_ := Option.some.inj (hx132_0.symm.trans hx136_0)
                        injection ea_ with ea_ en_ ec_
                        subst ea_
                        subst ec_
                        clear en_
                        have p137 : 0 ≤ (x8_4 : Int) := of_decide_eq_true (by first | (with_reducible assumption) | assumption)
                        have q137 : x8_4 < ((rd_L1 l0 x7_3).length : Int) := of_decide_eq_true (by first | (with_reducible assumption) | assumption)
                        obtain ⟨ad137, e137, hx137_0⟩ := Kd.at_int HR136_0.out x8_4 p137 q137
                        cases e137
                        replace hx137_0 := (HB.out.cell (World.block_lt_of_cell? w _ hx137_0)).trans hx137_0
                        replace p137 := eq_true p137
                        replace q137 := eq_true q137
                        have p26 : 0 ≤ ((rd (rd_L1 l0 x7_3) x8_4) : Int) := of_decide_eq_true (by first | (with_reducible assumption) | assumption)
                        have q26 : ((rd (rd_L1 l0 x7_3) x8_4) : Int) < ((x5_4.length : Int) : Int) := of_decide_eq_true (by first | (with_reducible assumption) | assumption)
                        obtain ⟨hx26_0, hf26_0⟩ := Kd.R_celln false HO_5.out ((rd (rd_L1 l0 x7_3) x8_4) : Int) p26 q26
                        replace p26 := eq_true p26
                        replace q26 := eq_true q26
                        have HP27 := Kd.R_putg HO_5.out ((rd (rd_L1 l0 x7_3) x8_4) : Int) true
                        go_wp2_with (first | ((with_reducible refine gate_store (t := 4) (p := 66) rfl ?_); refine store_event (t := 4) (p := 66) (v := ?vo_w28) (w1 := (wr.setCell ⟨go11, ((rd (rd_L1 l0 x7_3) x8_4) : Int).toNat, none⟩ (.bool true))) ?hg ?ho ?hn ?hr ?_; (case ho => rfl); (case hg => rfl); (case hn => rfl); (case hr => first | (go_simp; done) | (go_simp; rfl)); intro w28 hw; have hg : wr.grownBy w28 (some go11) := (by rw [hw]; exact HP27.2); have hp_ : Kd.R Kd.bool 4 w28 w.heap.size (fun _ => True) (.slice (some ⟨go11, 0, none⟩) x5_4.length co11) y138 := (by rw [hw, Ny138.out]; exact HP27.1); clear HP27; have n0_ := Aside0.mk (hp_); have n1_ := Aside0.mk ((by rw [hw]; exact below_set (HB.out) GB11.out : Below w.heap.size w w28)); clear HO_5; clear HB; have HO_5 := n0_; have HB := n1_; clear n0_ n1_; clear hg hw hp_))
                        (try simp only [← hl5_4])
                        go_roundg k4
                        case measure => have := HJ4.out; have := HK2.out; have := HK3.out; have := HK4.out; omega
                        case rel => exact ⟨(y138), (wrap64 (x8_4 + 1)), (by first | rfl | (simp; done) | (simp [*]; done)), H', ⟨by have := HJ4.out; have := HK2.out; have := HK3.out; have := HK4.out; omega⟩, ⟨by (try simp only [hl5_2]); (try simp only [hl5_3]); (try simp only [hl5_4]); (with_reducible repeat (first | apply Kd.R_alloc | apply Kd.R_drewN | apply Kd.R_drew)); exact HO_5.out⟩, ⟨by repeat (first | (with_reducible first | exact HB.out | apply below_alloc | apply pw_below_drewN | apply below_drew1) | exact HB.out)⟩⟩
                       ·rw [if_neg c25] at H
                        exact absurd H (by simp)
                      ·rw [if_neg c24] at H
                       exact absurd H (by simp)
                    ·rw [if_neg c22] at H
                     exact absurd H (by simp)
                   ·replace c21 := Bool.eq_false_iff.mpr c21
                    subst c21
                    have H1 : (ontimeref25_Reach.l2 k4 l0 a1 x5_4 x6_2 x7_3 (wrap64 (x8_4 + 1))) = some r := by rw [if_neg (show ¬ (false = true) by decide)] at H; exact H
                    clear H
                    have H := H1
                    clear H1
                    have H' := Aside0.mk H
                    clear H
                    have p132 : 0 ≤ (x7_3 : Int) := of_decide_eq_true (by first | (with_reducible assumption) | assumption)
                    have q132 : x7_3 < (l0.length : Int) := of_decide_eq_true (by first | (with_reducible assumption) | assumption)
                    obtain ⟨ad132, A132_0, c132_0, e132, hx132_0, hl132_0, hi132_0⟩ := at_L1 HR0.out x7_3 p132 q132
                    cases e132
                    replace hx132_0 := (HB.out.cell (World.block_lt_of_cell? w _ hx132_0)).trans hx132_0
                    have HR132_0 := Aside0.mk hi132_0
                    have HC132_0 := Aside0.mk hl132_0
                    clear hi132_0 hl132_0
                    replace p132 := eq_true p132
                    replace q132 := eq_true q132
                    have p133 : 0 ≤ (x7_3 : Int) := of_decide_eq_true (by first | (with_reducible assumption) | assumption)
                    have q133 : x7_3 < (x5_4.length : Int) := of_decide_eq_true (by first | (with_reducible assumption) | assumption)
                    obtain ⟨ad133, e133, hx133_0⟩ := Kd.at_bool (Kd.R_reads' HO_5.out).2.2 x7_3 p133 q133
                    (try rw [← Nbq20.out] at hx133_0)
                    obtain rfl : (⟨go11, 0, none⟩ : Addr) = ad133 := (by injection e133)
                    (first | simp only [add_plain] at hx133_0 | simp only [add_at] at hx133_0 | simp only [Addr.add, Nat.zero_add] at hx133_0 | skip)
                    replace p133 := eq_true p133
                    replace q133 := eq_true q133
                    go_wp2
                    (try simp only [← hl5_4])
                    go_roundg k4
                    case measure => have := HJ4.out; have := HK2.out; have := HK3.out; have := HK4.out; omega
                    case rel => exact ⟨(x5_4), (wrap64 (x8_4 + 1)), (by first | rfl | (simp; done) | (simp [*]; done)), H', ⟨by have := HJ4.out; have := HK2.out; have := HK3.out; have := HK4.out; omega⟩, ⟨by (try simp only [hl5_2]); (try simp only [hl5_3]); (try simp only [hl5_4]); (with_reducible repeat (first | apply Kd.R_alloc | apply Kd.R_drewN | apply Kd.R_drew)); exact HO_5.out⟩, ⟨by repeat (first | (with_reducible first | exact HB.out | apply below_alloc | apply pw_below_drewN | apply below_drew1) | exact HB.out)⟩⟩
                  ·rw [if_neg c19] at H
                   exact absurd H (by simp)
                 ·rw [if_neg c18] at H
                  have c18b0 : decide (x8_4 < ((rd_L1 l0 x7_3).length : Int)) = false := decide_eq_false c18
                  clear c18
                  have H' := Aside0.mk H
                  clear H
                  have p132 : 0 ≤ (x7_3 : Int) := of_decide_eq_true (by first | (with_reducible assumption) | assumption)
                  have q132 : x7_3 < (l0.length : Int) := of_decide_eq_true (by first | (with_reducible assumption) | assumption)
                  obtain ⟨ad132, A132_0, c132_0, e132, hx132_0, hl132_0, hi132_0⟩ := at_L1 HR0.out x7_3 p132 q132
                  cases e132
                  replace hx132_0 := (HB.out.cell (World.block_lt_of_cell? w _ hx132_0)).trans hx132_0
                  have HR132_0 := Aside0.mk hi132_0
                  have HC132_0 := Aside0.mk hl132_0
                  clear hi132_0 hl132_0
                  replace p132 := eq_true p132
                  replace q132 := eq_true q132
                  go_wp2
                  (try simp only [← hl5_3, ← hl5_4])
                  go_roundg k4
                  case measure => have := HJ4.out; have := HK2.out; have := HK3.out; have := HK4.out; omega
                  case rel => exact ⟨(x5_4), (wrap64 (x7_3 + 1)), (by first | rfl | (simp; done) | (simp [*]; done)), H', ⟨by have := HJ4.out; have := HK2.out; have := HK3.out; have := HK4.out; omega⟩, ⟨by (try simp only [hl5_2]); (try simp only [hl5_3]); (try simp only [hl5_4]); (with_reducible repeat (first | apply Kd.R_alloc | apply Kd.R_drewN | apply Kd.R_drew)); exact HO_5.out⟩, ⟨by repeat (first | (with_reducible first | exact HB.out | apply below_alloc | apply pw_below_drewN | apply below_drew1) | exact HB.out)⟩⟩
                ·rw [if_neg c17] at H
                 exact absurd H (by simp)
               ·rw [if_neg c16] at H
                exact absurd H (by simp)
            ·rw [if_neg c15] at H
             have c15b0 : decide (x7_3 < (l0.length : Int)) = false := decide_eq_false c15
             clear c15
             have H' := Aside0.mk H
             clear H
             go_wp2
             (try simp only [← hl5_2, ← hl5_3])
             go_roundg k3
             case measure => have := HJ4.out; have := HK2.out; have := HK3.out; omega
             case rel => exact ⟨(x5_3), (wrap64 (x6_2 + 1)), (by first | rfl | (simp; done) | (simp [*]; done)), H', ⟨by have := HJ4.out; have := HK2.out; have := HK3.out; omega⟩, ⟨by (try simp only [hl5_2]); (try simp only [hl5_3]); (with_reducible repeat (first | apply Kd.R_alloc | apply Kd.R_drewN | apply Kd.R_drew)); exact HO_5.out⟩, ⟨by repeat (first | (with_reducible first | exact HB.out | apply below_alloc | apply pw_below_drewN | apply below_drew1) | exact HB.out)⟩⟩
         ·rw [if_neg c14] at H
          have c14b0 : decide (x6_2 < (l0.length : Int)) = false := decide_eq_false c14
          clear c14
          obtain rfl := Option.some.inj H
          go_wp2
          go_ret
          exact ⟨_, by first | rfl | (simp [errW_none, errW_some] <;> rfl) | (simp [*, errW_none, errW_some] <;> rfl), by (with_reducible repeat (first | apply Kd.R_alloc | apply Kd.R_drewN | apply Kd.R_drew)); exact HO_5.out, by repeat (first | (with_reducible first | exact HB.out | apply below_alloc | apply pw_below_drewN | apply below_drew1) | exact HB.out)⟩
      ·rw [if_neg c10] at H
       exact absurd H (by simp)
  ·rw [if_neg c4] at H
   exact absurd H (by simp)
 ·rw [if_neg c3] at H
  exact absurd H (by simp)

/-! ### ontimeref25_Dominates: function 21 -/
def ontimeref25_Dominates.f (k : Nat) (l0 : List (List Int)) (a1 : Int) (a2 : Int) : Option (Bool) := if a1 = a2 then (some true) else ((ontimeref25_Reach.f k l0 (-1)).bind fun t139 => (if 0 ≤ a1 then (if a1 < (t139.length : Int) then (if rdOf false t139 a1 = true then ((ontimeref25_Reach.f k l0 a1).bind fun t143 => (if 0 ≤ a2 then (if a2 < (t143.length : Int) then (some (!(rdOf false t143 a2))) else (none)) else (none))) else (some false)) else (none)) else (none)))
theorem ontimeref25_Dominates.mono : ∀ a0 a1 a2 k, LeO (ontimeref25_Dominates.f k a0 a1 a2) (ontimeref25_Dominates.f (k + 1) a0 a1 a2) := by
 intro a0 a1 a2 k
 unfold ontimeref25_Dominates.f
 repeat' first
   | (with_reducible exact ontimeref25_Reach.mono _ _ _)
   | (with_reducible exact LeO.refl _)
   | (with_reducible exact LeO.none _)
   | (with_reducible refine LeO.ite ?_ ?_)
   | (with_reducible refine LeO.bind ?_ (fun _ => ?_))
   | exact ontimeref25_Reach.mono _ _ _
   | exact LeO.none _
   | refine LeO.ite ?_ ?_
   | refine LeO.bind ?_ (fun _ => ?_)
set_option maxHeartbeats 8000000 in
set_option maxRecDepth 100000 in
theorem ontimeref25_Dominates.calls (k : Nat) (A0 : Option Addr) (c0 : Nat) (l0 : List (List Int)) (a1 : Int) (a2 : Int) (r : Bool) (w : World) (hr0 : Kd.C (Kd.slice 3 (Kd.int .i64)) w A0 l0.length l0) (hc0 : l0.length ≤ c0) (h : ontimeref25_Dominates.f k l0 a1 a2 = some r) :
  Calls Try.prog 21 #[.slice A0 l0.length c0, .int .i64 a1, .int .i64 a2] w fun e w' => e = .returned (.bool r) ∧ Below w.heap.size w w' := by
 have HR0 := Aside0.mk hr0
 have HC0 := Aside0.mk hc0
 clear hr0 hc0
 have HB := Aside0.mk (Below.refl w.heap.size w)
 have H : (if a1 = a2 then (some true) else ((ontimeref25_Reach.f k l0 (-1)).bind fun t139 => (if 0 ≤ a1 then (if a1 < (t139.length : Int) then (if rdOf false t139 a1 = true then ((ontimeref25_Reach.f k l0 a1).bind fun t143 => (if 0 ≤ a2 then (if a2 < (t143.length : Int) then (some (!(rdOf false t143 a2))) else (none)) else (none))) else (some false)) else (none)) else (none)))) = some r := h
 clear h
 by_cases c4 : a1 = a2
 ·rw [if_pos c4] at H
  have c4b0 : (a1 == a2) = true := beq_iff_eq.mpr c4
  have c4b1 : (a1 != a2) = false := bne_eq_false_iff_eq.mpr c4
  clear c4
  obtain rfl := Option.some.inj H
  go_enter Try.func21, Try.ntmps21
  go_wp2
  go_ret
  exact ⟨by first | rfl | (simp [errW_none, errW_some] <;> rfl) | (simp [*, errW_none, errW_some] <;> rfl), by repeat (first | (with_reducible first | exact HB.out | apply below_alloc | apply pw_below_drewN | apply below_drew1) | exact HB.out)⟩
 ·rw [if_neg c4] at H
  have c4b0 : (a1 == a2) = false := beq_eq_false_iff_ne.mpr c4
  have c4b1 : (a1 != a2) = true := bne_iff_ne.mpr c4
  replace H := Option.bind_eq_some_iff.mp H
  obtain ⟨t139, A50, H⟩ := H
  replace H : (if 0 ≤ a1 then (if a1 < (t139.length : Int) then (if rdOf false t139 a1 = true then ((ontimeref25_Reach.f k l0 a1).bind fun t143 => (if 0 ≤ a2 then (if a2 < (t143.length : Int) then (some (!(rdOf false t143 a2))) else (none)) else (none))) else (some false)) else (none)) else (none)) = some r := H
  have A5 := Aside0.mk A50
  clear A50
  by_cases c6 : 0 ≤ a1
  ·rw [if_pos c6] at H
   have c6b0 : decide (0 ≤ a1) = true := decide_eq_true c6
   clear c6
   by_cases c7 : a1 < (t139.length : Int)
   ·rw [if_pos c7] at H
    have c7b0 : decide (a1 < (t139.length : Int)) = true := decide_eq_true c7
    clear c7
    obtain ⟨bq8, hbq8⟩ : ∃ b_ : Bool, b_ = (rdOf false t139 a1) := ⟨_, rfl⟩
    replace H : (if bq8 = true then ((ontimeref25_Reach.f k l0 a1).bind fun t143 => (if 0 ≤ a2 then (if a2 < (t143.length : Int) then (some (!(rdOf false t143 a2))) else (none)) else (none))) else (some false)) = some r := by rw [← hbq8] at H; exact H
    have Nbq8 := Aside0.mk hbq8
    clear hbq8
    by_cases c9 : bq8 = true
    ·subst c9
     have H1 : ((ontimeref25_Reach.f k l0 a1).bind fun t143 => (if 0 ≤ a2 then (if a2 < (t143.length : Int) then (some (!(rdOf false t143 a2))) else (none)) else (none))) = some r := by rw [if_pos rfl] at H; exact H
     clear H
     have H := H1
     clear H1
     replace H := Option.bind_eq_some_iff.mp H
     obtain ⟨t143, A100, H⟩ := H
     replace H : (if 0 ≤ a2 then (if a2 < (t143.length : Int) then (some (!(rdOf false t143 a2))) else (none)) else (none)) = some r := H
     have A10 := Aside0.mk A100
     clear A100
     by_cases c11 : 0 ≤ a2
     ·rw [if_pos c11] at H
      have c11b0 : decide (0 ≤ a2) = true := decide_eq_true c11
      clear c11
      by_cases c12 : a2 < (t143.length : Int)
      ·rw [if_pos c12] at H
       have c12b0 : decide (a2 < (t143.length : Int)) = true := decide_eq_true c12
       clear c12
       obtain rfl := Option.some.inj H
       go_enter Try.func21, Try.ntmps21
       go_wp2_with (first | (go_at_call 20; (with_reducible refine (ontimeref25_Reach.calls k _ _ l0 (-1) t139 _ ?side1 ?side2 A5.out).mono ?_); (case side1 => repeat (first | exact HR0.out | (with_reducible refine Kd.C_alloc ?_ _) | (with_reducible refine Kd.C_drewN ?_ _) | (with_reducible refine Kd.C_drew ?_))); (case side2 => exact HC0.out); rintro e w13 ⟨v140, rfl, ho0, hb⟩; have n0_ := Aside0.mk (Kd.R_lower ho0 (below_size (by repeat (first | (with_reducible first | exact HB.out | apply below_alloc | apply pw_below_drewN | apply below_drew1) | exact HB.out)))); have n1_ := Aside0.mk (below_step (by repeat (first | (with_reducible first | exact HB.out | apply below_alloc | apply pw_below_drewN | apply below_drew1) | exact HB.out)) hb); clear HB; have HO141 := n0_; have HB := n1_; clear n0_ n1_; (try clear hb); (try clear hb2); (try clear hk); (try clear hi); (try clear ho0); obtain ⟨Ao14, co14, eo14⟩ := Kd.R_slice HO141.out; subst eo14; have p142 : 0 ≤ (a1 : Int) := of_decide_eq_true (by first | (with_reducible assumption) | assumption); have q142 : a1 < (t139.length : Int) := of_decide_eq_true (by first | (with_reducible assumption) | assumption); obtain ⟨ad142, e142, hx142_0⟩ := Kd.at_bool (Kd.R_reads' HO141.out).2.2 a1 p142 q142; (try rw [← Nbq8.out] at hx142_0); cases e142; replace p142 := eq_true p142; replace q142 := eq_true q142) | (go_at_call 20; (with_reducible refine (ontimeref25_Reach.calls k _ _ l0 a1 t143 _ ?side1 ?side2 A10.out).mono ?_); (case side1 => repeat (first | exact (Kd.C_below HR0.out HB.out) | (with_reducible refine Kd.C_alloc ?_ _) | (with_reducible refine Kd.C_drewN ?_ _) | (with_reducible refine Kd.C_drew ?_))); (case side2 => exact HC0.out); rintro e w15 ⟨v144, rfl, ho0, hb⟩; have n0_ := Aside0.mk (Kd.R_elder' (by (with_reducible repeat (first | apply Kd.R_alloc | apply Kd.R_drewN | apply Kd.R_drew)); exact HO141.out) (Kd.R_base ho0) hb); have n1_ := Aside0.mk (Kd.R_lower (Kd.R_new' ho0 (Kd.R_lt (by (with_reducible repeat (first | apply Kd.R_alloc | apply Kd.R_drewN | apply Kd.R_drew)); exact HO141.out))) (below_size (by repeat (first | (with_reducible first | exact HB.out | apply below_alloc | apply pw_below_drewN | apply below_drew1) | exact HB.out)))); have n2_ := Aside0.mk (below_step (by repeat (first | (with_reducible first | exact HB.out | apply below_alloc | apply pw_below_drewN | apply below_drew1) | exact HB.out)) hb); clear HO141; clear HB; have HO141 := n0_; have HO145 := n1_; have HB := n2_; clear n0_ n1_ n2_; (try clear hb); (try clear hb2); (try clear hk); (try clear hi); (try clear ho0); obtain ⟨Ao16, co16, eo16⟩ := Kd.R_slice HO145.out; subst eo16; have p146 : 0 ≤ (a2 : Int) := of_decide_eq_true (by first | (with_reducible assumption) | assumption); have q146 : a2 < (t143.length : Int) := of_decide_eq_true (by first | (with_reducible assumption) | assumption); obtain ⟨ad146, e146, hx146_0⟩ := Kd.at_bool (Kd.R_reads' HO145.out).2.2 a2 p146 q146; (try rw [← Nbq8.out] at hx146_0); cases e146; replace p146 := eq_true p146; replace q146 := eq_true q146))
       go_ret
       exact ⟨by first | rfl | (simp [errW_none, errW_some] <;> rfl) | (simp [*, errW_none, errW_some] <;> rfl), by repeat (first | (with_reducible first | exact HB.out | apply below_alloc | apply pw_below_drewN | apply below_drew1) | exact HB.out)⟩
      ·rw [if_neg c12] at H
       exact absurd H (by simp)
     ·rw [if_neg c11] at H
      exact absurd H (by simp)
    ·replace c9 := Bool.eq_false_iff.mpr c9
     subst c9
     have H1 : (some false) = some r := by rw [if_neg (show ¬ (false = true) by decide)] at H; exact H
     clear H
     have H := H1
     clear H1
     obtain rfl := Option.some.inj H
     go_enter Try.func21, Try.ntmps21
     go_wp2_with (first | (go_at_call 20; (with_reducible refine (ontimeref25_Reach.calls k _ _ l0 (-1) t139 _ ?side1 ?side2 A5.out).mono ?_); (case side1 => repeat (first | exact HR0.out | (with_reducible refine Kd.C_alloc ?_ _) | (with_reducible refine Kd.C_drewN ?_ _) | (with_reducible refine Kd.C_drew ?_))); (case side2 => exact HC0.out); rintro e w17 ⟨v140, rfl, ho0, hb⟩; have n0_ := Aside0.mk (Kd.R_lower ho0 (below_size (by repeat (first | (with_reducible first | exact HB.out | apply below_alloc | apply pw_below_drewN | apply below_drew1) | exact HB.out)))); have n1_ := Aside0.mk (below_step (by repeat (first | (with_reducible first | exact HB.out | apply below_alloc | apply pw_below_drewN | apply below_drew1) | exact HB.out)) hb); clear HB; have HO141 := n0_; have HB := n1_; clear n0_ n1_; (try clear hb); (try clear hb2); (try clear hk); (try clear hi); (try clear ho0); obtain ⟨Ao18, co18, eo18⟩ := Kd.R_slice HO141.out; subst eo18; have p142 : 0 ≤ (a1 : Int) := of_decide_eq_true (by first | (with_reducible assumption) | assumption); have q142 : a1 < (t139.length : Int) := of_decide_eq_true (by first | (with_reducible assumption) | assumption); obtain ⟨ad142, e142, hx142_0⟩ := Kd.at_bool (Kd.R_reads' HO141.out).2.2 a1 p142 q142; (try rw [← Nbq8.out] at hx142_0); cases e142; replace p142 := eq_true p142; replace q142 := eq_true q142))
     go_ret
     exact ⟨by first | rfl | (simp [errW_none, errW_some] <;> rfl) | (simp [*, errW_none, errW_some] <;> rfl), by repeat (first | (with_reducible first | exact HB.out | apply below_alloc | apply pw_below_drewN | apply below_drew1) | exact HB.out)⟩
   ·rw [if_neg c7] at H
    exact absurd H (by simp)
  ·rw [if_neg c6] at H
   exact absurd H (by simp)

end Go.Proofs.Ytnkbmpdghjhlfaa.P
