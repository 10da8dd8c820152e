/- Written by xprint.py: functions, proofs of contracts. -/
import Derived.Test.YthdjhgidccmlfaaPx0
namespace Go.Proofs.Ythdjhgidccmlfaa.P
open Go.RowKit Go.Proofs.YthdjhgidccmlfaaW.PrintWords Go.Proofs.YthdjhgidccmlfaaW.PrintLast Go.Proofs.YthdjhgidccmlfaaW.PrintMore
attribute [local go_sem] max2_int min2_int max_two min_two max_three min_three max_four min_four   -- for this text's walks alone
set_option linter.unusedVariables false
set_option linter.unusedSimpArgs false

/-! ### ontimelaw47_schedules: function 50 -/
mutual
def ontimelaw47_schedules.l0 : Nat → List (S83) → Int → List (List Int) → Int → List (S83) → Int → Int → Option (Bool)
 | 0, _, _, _, _, _, _, _ => none
 | k + 1, x0, x1, x2, x7, x17, x18, x19 => if x19 < x18 then (if 0 ≤ x19 then (if x19 < (x17.length : Int) then (ontimelaw47_schedules.l0 k x0 x1 x2 (mx x7 ((rd_T83 x17 x19).f1)) x17 x18 (wrap64 (x19 + 1))) else (none)) else (none)) else (if (x2.length : Int) = x7 then (if 0 ≤ (x0.length : Int) then (if ((x0.length : Int) : Int).toNat ≤ 35184372088832 then (ontimelaw47_schedules.l1 k x0 x1 (List.replicate ((x0.length : Int) : Int).toNat 0) x2 (x2.length : Int) 0) else (none)) else (none)) else (some false))
def ontimelaw47_schedules.l1 : Nat → List (S83) → Int → List Int → List (List Int) → Int → Int → Option (Bool)
 | 0, _, _, _, _, _, _ => none
 | k + 1, x0, x1, x10, x35, x36, x37 => if x37 < x36 then (if 0 ≤ x37 then (if x37 < (x35.length : Int) then (if ((rd_L4 x35 x37).length : Int) > x1 then (some false) else (ontimelaw47_schedules.l2 k x0 x1 x10 x37 (rd_L4 x35 x37) x35 x36 x37 (rd_L4 x35 x37) ((rd_L4 x35 x37).length : Int) 0)) else (none)) else (none)) else (ontimelaw47_schedules.l3 k x10 x0 (x0.length : Int) 0)
def ontimelaw47_schedules.l2 : Nat → List (S83) → Int → List Int → Int → List Int → List (List Int) → Int → Int → List Int → Int → Int → Option (Bool)
 | 0, _, _, _, _, _, _, _, _, _, _, _ => none
 | k + 1, x0, x1, x10, x11, x12, x35, x36, x37, x46, x47, x48 => if x48 < x47 then (if 0 ≤ x48 then (if x48 < (x46.length : Int) then (if (rd x46 x48) < 0 then (some false) else (if (rd x46 x48) ≥ (x0.length : Int) then (some false) else (if x48 > 0 then (if 0 ≤ (wrap64 (x48 - 1)) then (if (wrap64 (x48 - 1)) < (x12.length : Int) then (if (rd x12 (wrap64 (x48 - 1))) ≥ (rd x46 x48) then (some false) else (if 0 ≤ (rd x46 x48) then (if (rd x46 x48) < (x0.length : Int) then (if x11 < ((rd_T83 x0 (rd x46 x48)).f0) then (some false) else (if x11 ≥ ((rd_T83 x0 (rd x46 x48)).f1) then (some false) else (if (rd x46 x48) < (x10.length : Int) then (ontimelaw47_schedules.l2 k x0 x1 (x10.set ((rd x46 x48) : Int).toNat (wrap64 ((rd x10 (rd x46 x48)) + 1))) x11 x12 x35 x36 x37 x46 x47 (wrap64 (x48 + 1))) else (none)))) else (none)) else (none))) else (none)) else (none)) else (if 0 ≤ (rd x46 x48) then (if (rd x46 x48) < (x0.length : Int) then (if x11 < ((rd_T83 x0 (rd x46 x48)).f0) then (some false) else (if x11 ≥ ((rd_T83 x0 (rd x46 x48)).f1) then (some false) else (if (rd x46 x48) < (x10.length : Int) then (ontimelaw47_schedules.l2 k x0 x1 (x10.set ((rd x46 x48) : Int).toNat (wrap64 ((rd x10 (rd x46 x48)) + 1))) x11 x12 x35 x36 x37 x46 x47 (wrap64 (x48 + 1))) else (none)))) else (none)) else (none))))) else (none)) else (none)) else (ontimelaw47_schedules.l1 k x0 x1 x10 x35 x36 (wrap64 (x37 + 1)))
def ontimelaw47_schedules.l3 : Nat → List Int → List (S83) → Int → Int → Option (Bool)
 | 0, _, _, _, _ => none
 | k + 1, x10, x100, x101, x102 => if x102 < x101 then (if 0 ≤ x102 then (if x102 < (x100.length : Int) then (if x102 < (x10.length : Int) then (if (rd x10 x102) = ((rd_T83 x100 x102).f2) then (ontimelaw47_schedules.l3 k x10 x100 x101 (wrap64 (x102 + 1))) else (some false)) else (none)) else (none)) else (none)) else (some true)
end
def ontimelaw47_schedules.f (k : Nat) (l0 : List (S83)) (a1 : Int) (l2 : List (List Int)) : Option (Bool) := ontimelaw47_schedules.l0 k l0 a1 l2 0 l0 (l0.length : Int) 0
theorem ontimelaw47_schedules.mono_l : ∀ k, (∀ y0 y1 y2 y3 y4 y5 y6, LeO (ontimelaw47_schedules.l0 k y0 y1 y2 y3 y4 y5 y6) (ontimelaw47_schedules.l0 (k + 1) y0 y1 y2 y3 y4 y5 y6)) ∧ (∀ y0 y1 y2 y3 y4 y5, LeO (ontimelaw47_schedules.l1 k y0 y1 y2 y3 y4 y5) (ontimelaw47_schedules.l1 (k + 1) y0 y1 y2 y3 y4 y5)) ∧ (∀ y0 y1 y2 y3 y4 y5 y6 y7 y8 y9 y10, LeO (ontimelaw47_schedules.l2 k y0 y1 y2 y3 y4 y5 y6 y7 y8 y9 y10) (ontimelaw47_schedules.l2 (k + 1) y0 y1 y2 y3 y4 y5 y6 y7 y8 y9 y10)) ∧ (∀ y0 y1 y2 y3, LeO (ontimelaw47_schedules.l3 k y0 y1 y2 y3) (ontimelaw47_schedules.l3 (k + 1) y0 y1 y2 y3))
 | 0 => ⟨fun _ _ _ _ _ _ _ r h => by simp [ontimelaw47_schedules.l0] at h, fun _ _ _ _ _ _ r h => by simp [ontimelaw47_schedules.l1] at h, fun _ _ _ _ _ _ _ _ _ _ _ r h => by simp [ontimelaw47_schedules.l2] at h, fun _ _ _ _ r h => by simp [ontimelaw47_schedules.l3] at h⟩
 | k + 1 => by
  obtain ⟨ih0, ih1, ih2, ih3⟩ := ontimelaw47_schedules.mono_l k
  refine ⟨?_, ?_, ?_, ?_⟩
  ·intro y0 y1 y2 y3 y4 y5 y6
   unfold ontimelaw47_schedules.l0
   repeat' first
   | (with_reducible exact ih0 _ _ _ _ _ _ _)
   | (with_reducible exact ih1 _ _ _ _ _ _)
   | (with_reducible exact ih2 _ _ _ _ _ _ _ _ _ _ _)
   | (with_reducible exact ih3 _ _ _ _)
   | (with_reducible exact LeO.refl _)
   | (with_reducible exact LeO.none _)
   | (with_reducible refine LeO.ite ?_ ?_)
   | (with_reducible refine LeO.bind ?_ (fun _ => ?_))
   | exact ih0 _ _ _ _ _ _ _
   | exact ih1 _ _ _ _ _ _
   | exact ih2 _ _ _ _ _ _ _ _ _ _ _
   | exact ih3 _ _ _ _
   | exact LeO.none _
   | refine LeO.ite ?_ ?_
   | refine LeO.bind ?_ (fun _ => ?_)
  ·intro y0 y1 y2 y3 y4 y5
   unfold ontimelaw47_schedules.l1
   repeat' first
   | (with_reducible exact ih0 _ _ _ _ _ _ _)
   | (with_reducible exact ih1 _ _ _ _ _ _)
   | (with_reducible exact ih2 _ _ _ _ _ _ _ _ _ _ _)
   | (with_reducible exact ih3 _ _ _ _)
   | (with_reducible exact LeO.refl _)
   | (with_reducible exact LeO.none _)
   | (with_reducible refine LeO.ite ?_ ?_)
   | (with_reducible refine LeO.bind ?_ (fun _ => ?_))
   | exact ih0 _ _ _ _ _ _ _
   | exact ih1 _ _ _ _ _ _
   | exact ih2 _ _ _ _ _ _ _ _ _ _ _
   | exact ih3 _ _ _ _
   | exact LeO.none _
   | refine LeO.ite ?_ ?_
   | refine LeO.bind ?_ (fun _ => ?_)
  ·intro y0 y1 y2 y3 y4 y5 y6 y7 y8 y9 y10
   unfold ontimelaw47_schedules.l2
   repeat' first
   | (with_reducible exact ih0 _ _ _ _ _ _ _)
   | (with_reducible exact ih1 _ _ _ _ _ _)
   | (with_reducible exact ih2 _ _ _ _ _ _ _ _ _ _ _)
   | (with_reducible exact ih3 _ _ _ _)
   | (with_reducible exact LeO.refl _)
   | (with_reducible exact LeO.none _)
   | (with_reducible refine LeO.ite ?_ ?_)
   | (with_reducible refine LeO.bind ?_ (fun _ => ?_))
   | exact ih0 _ _ _ _ _ _ _
   | exact ih1 _ _ _ _ _ _
   | exact ih2 _ _ _ _ _ _ _ _ _ _ _
   | exact ih3 _ _ _ _
   | exact LeO.none _
   | refine LeO.ite ?_ ?_
   | refine LeO.bind ?_ (fun _ => ?_)
  ·intro y0 y1 y2 y3
   unfold ontimelaw47_schedules.l3
   repeat' first
   | (with_reducible exact ih0 _ _ _ _ _ _ _)
   | (with_reducible exact ih1 _ _ _ _ _ _)
   | (with_reducible exact ih2 _ _ _ _ _ _ _ _ _ _ _)
   | (with_reducible exact ih3 _ _ _ _)
   | (with_reducible exact LeO.refl _)
   | (with_reducible exact LeO.none _)
   | (with_reducible refine LeO.ite ?_ ?_)
   | (with_reducible refine LeO.bind ?_ (fun _ => ?_))
   | exact ih0 _ _ _ _ _ _ _
   | exact ih1 _ _ _ _ _ _
   | exact ih2 _ _ _ _ _ _ _ _ _ _ _
   | exact ih3 _ _ _ _
   | exact LeO.none _
   | refine LeO.ite ?_ ?_
   | refine LeO.bind ?_ (fun _ => ?_)
theorem ontimelaw47_schedules.mono : ∀ a0 a1 a2 k, LeO (ontimelaw47_schedules.f k a0 a1 a2) (ontimelaw47_schedules.f (k + 1) a0 a1 a2) := by
 intro a0 a1 a2 k
 obtain ⟨ih0, ih1, ih2, ih3⟩ := ontimelaw47_schedules.mono_l k
 unfold ontimelaw47_schedules.f
 repeat' first
   | (with_reducible exact ih0 _ _ _ _ _ _ _)
   | (with_reducible exact ih1 _ _ _ _ _ _)
   | (with_reducible exact ih2 _ _ _ _ _ _ _ _ _ _ _)
   | (with_reducible exact ih3 _ _ _ _)
   | (with_reducible exact LeO.refl _)
   | (with_reducible exact LeO.none _)
   | (with_reducible refine LeO.ite ?_ ?_)
   | (with_reducible refine LeO.bind ?_ (fun _ => ?_))
   | exact ih0 _ _ _ _ _ _ _
   | exact ih1 _ _ _ _ _ _
   | exact ih2 _ _ _ _ _ _ _ _ _ _ _
   | exact ih3 _ _ _ _
   | exact LeO.none _
   | refine LeO.ite ?_ ?_
   | refine LeO.bind ?_ (fun _ => ?_)
set_option maxHeartbeats 8000000 in
set_option maxRecDepth 100000 in
theorem ontimelaw47_schedules.calls (k : Nat) (A0 : Option Addr) (c0 : Nat) (l0 : List (S83)) (a1 : Int) (A2 : Option Addr) (c2 : Nat) (l2 : List (List Int)) (r : Bool) (w : World) (hr0 : Kd.C k83 w A0 l0.length l0) (hc0 : l0.length ≤ c0) (hr2 : Kd.C (Kd.slice 3 (Kd.int .i64)) w A2 l2.length l2) (hc2 : l2.length ≤ c2) (h : ontimelaw47_schedules.f k l0 a1 l2 = some r) :
  Calls Try.prog 50 #[.slice A0 l0.length c0, .int .i64 a1, .slice A2 l2.length c2] w fun e w' => e = .returned (.bool r) ∧ Below w.heap.size w w' := by
 have hu83 := Try.underlying83
 have HR0 := Aside0.mk hr0
 have HC0 := Aside0.mk hc0
 clear hr0 hc0
 have HR2 := Aside0.mk hr2
 have HC2 := Aside0.mk hc2
 clear hr2 hc2
 have HB := Aside0.mk (Below.refl w.heap.size w)
 have H : (ontimelaw47_schedules.l0 k l0 a1 l2 0 l0 (l0.length : Int) 0) = some r := h
 clear h
 have H' := Aside0.mk H
 clear H
 go_enter Try.func50, Try.ntmps50
 go_wp2
 repeat (go_quiet (fail); try go_wp2)
 go_loopg [7, 19] k (fun kq v7 v19 w' => ∃ (x7_1 : Int) (x19_1 : Int), v7 = .int .i64 x7_1 ∧ v19 = .int .i64 x19_1 ∧ Aside0 (ontimelaw47_schedules.l0 kq l0 a1 l2 x7_1 l0 (l0.length : Int) x19_1 = some r) ∧ Aside0 (kq ≤ k) ∧ Aside0 (Below w.heap.size w w'))
 case atStart => exact ⟨(0), (0), (by first | rfl | (simp; done) | (simp [*]; done)), (by first | rfl | (simp; done) | (simp [*]; done)), H', ⟨Nat.le_refl _⟩, ⟨by repeat (first | (with_reducible first | exact HB.out | apply below_alloc | apply pw_below_drewN | apply below_drew1) | exact HB.out)⟩⟩
 case round =>
  clear H'
  try clear c2
  try clear p2
  obtain ⟨x7_1, x19_1, rfl, rfl, HA, HK1, HB⟩ := hrel
  cases gk with
  | zero => exact absurd HA.out (by simp [ontimelaw47_schedules.l0])
  | succ k1 =>
   have H := HA.out
   clear HA
   simp only [ontimelaw47_schedules.l0] at H
   by_cases c4 : x19_1 < (l0.length : Int)
   ·rw [if_pos c4] at H
    have c4b0 : decide (x19_1 < (l0.length : Int)) = true := decide_eq_true c4
    clear c4
    by_cases c5 : 0 ≤ x19_1
    ·rw [if_pos c5] at H
     have c5b0 : decide (0 ≤ x19_1) = true := decide_eq_true c5
     clear c5
     by_cases c6 : x19_1 < (l0.length : Int)
     ·rw [if_pos c6] at H
      have c6b0 : decide (x19_1 < (l0.length : Int)) = true := decide_eq_true c6
      clear c6
      obtain ⟨ji7, hji7⟩ : ∃ j_ : Int, (mx x7_1 ((rd_T83 l0 x19_1).f1)) = j_ := ⟨_, rfl⟩
      replace H : (ontimelaw47_schedules.l0 k1 l0 a1 l2 ji7 l0 (l0.length : Int) (wrap64 (x19_1 + 1))) = some r := by first | (rw [hji7] at H; exact H) | (simp only [hji7] at H ⊢; exact H)
      have hji7_ : (if x7_1 < ((rd_T83 l0 x19_1).f1) then ((rd_T83 l0 x19_1).f1) else x7_1) = ji7 := hji7
      have H' := Aside0.mk H
      clear H
      have p309 : 0 ≤ (x19_1 : Int) := of_decide_eq_true (by first | (with_reducible assumption) | assumption)
      have q309 : x19_1 < (l0.length : Int) := of_decide_eq_true (by first | (with_reducible assumption) | assumption)
      obtain ⟨ad309, e309, hx309_0, hx309_1, hx309_2⟩ := at_T83 HR0.out x19_1 p309 q309
      cases e309
      replace hx309_0 := (HB.out.cell (World.block_lt_of_cell? w _ hx309_0)).trans hx309_0
      replace hx309_1 := (HB.out.cell (World.block_lt_of_cell? w _ hx309_1)).trans hx309_1
      replace hx309_2 := (HB.out.cell (World.block_lt_of_cell? w _ hx309_2)).trans hx309_2
      replace p309 := eq_true p309
      replace q309 := eq_true q309
      go_wp2_with (first | ((with_reducible refine gate_dst (N := 9) rfl ?_); (try (refine gate_guard (by rfl) ?_; dsimp only)); refine box_event ?hg (N := 9) ?hd (cs := #[.int .i64 0, .int .i64 0, .int .i64 0]) (t := 83) ?hr ?_; (case hd => rfl); (case hg => rfl); (case hr => first | (go_simp; done) | (go_simp; rfl)); intro gb310 hg w8 hbox hb; have n0_ := Aside0.mk (below_step (by repeat (first | (with_reducible first | exact HB.out | apply below_alloc | apply pw_below_drewN | apply below_drew1) | exact HB.out)) hb); have n1_ := Aside0.mk (hbox); have n2_ := Aside0.mk ((by rw [hg]; exact (below_size (by repeat (first | (with_reducible first | exact HB.out | apply below_alloc | apply pw_below_drewN | apply below_drew1) | exact HB.out))) : w.heap.size ≤ gb310)); have n3_ := Aside0.mk ((by rw [hg]; exact (below_size (by repeat (first | (with_reducible first | exact HB.out | apply below_alloc | apply pw_below_drewN | apply below_drew1) | exact HB.out))) : w.heap.size ≤ gb310)); clear HB; have HB := n0_; have BK310 := n1_; have GW310 := n2_; have GE310 := n3_; clear n0_ n1_ n2_ n3_; clear hb hbox hg; have hcz9_0 : w8.cell? ⟨gb310, 0, none⟩ = some (.int .i64 0) := (blk_cell BK310.out 0).trans rfl; have hcz9_1 : w8.cell? ⟨gb310, 1, none⟩ = some (.int .i64 0) := (blk_cell BK310.out 1).trans rfl; have hcz9_2 : w8.cell? ⟨gb310, 2, none⟩ = some (.int .i64 0) := (blk_cell BK310.out 2).trans rfl; have hfz9_0 := blk_frozen BK310.out 0; have hfz9_1 := blk_frozen BK310.out 1; have hfz9_2 := blk_frozen BK310.out 2))
      repeat (go_quiet (first | ((with_reducible refine gate_dst (N := 9) rfl ?_); (try (refine gate_guard (by rfl) ?_; dsimp only)); refine box_event ?hg (N := 9) ?hd (cs := #[.int .i64 0, .int .i64 0, .int .i64 0]) (t := 83) ?hr ?_; (case hd => rfl); (case hg => rfl); (case hr => first | (go_simp; done) | (go_simp; rfl)); intro gb310 hg w8 hbox hb; have n0_ := Aside0.mk (below_step (by repeat (first | (with_reducible first | exact HB.out | apply below_alloc | apply pw_below_drewN | apply below_drew1) | exact HB.out)) hb); have n1_ := Aside0.mk (hbox); have n2_ := Aside0.mk ((by rw [hg]; exact (below_size (by repeat (first | (with_reducible first | exact HB.out | apply below_alloc | apply pw_below_drewN | apply below_drew1) | exact HB.out))) : w.heap.size ≤ gb310)); have n3_ := Aside0.mk ((by rw [hg]; exact (below_size (by repeat (first | (with_reducible first | exact HB.out | apply below_alloc | apply pw_below_drewN | apply below_drew1) | exact HB.out))) : w.heap.size ≤ gb310)); clear HB; have HB := n0_; have BK310 := n1_; have GW310 := n2_; have GE310 := n3_; clear n0_ n1_ n2_ n3_; clear hb hbox hg; have hcz9_0 : w8.cell? ⟨gb310, 0, none⟩ = some (.int .i64 0) := (blk_cell BK310.out 0).trans rfl; have hcz9_1 : w8.cell? ⟨gb310, 1, none⟩ = some (.int .i64 0) := (blk_cell BK310.out 1).trans rfl; have hcz9_2 : w8.cell? ⟨gb310, 2, none⟩ = some (.int .i64 0) := (blk_cell BK310.out 2).trans rfl; have hfz9_0 := blk_frozen BK310.out 0; have hfz9_1 := blk_frozen BK310.out 1; have hfz9_2 := blk_frozen BK310.out 2)); try go_wp2_with (first | ((with_reducible refine gate_dst (N := 9) rfl ?_); (try (refine gate_guard (by rfl) ?_; dsimp only)); refine box_event ?hg (N := 9) ?hd (cs := #[.int .i64 0, .int .i64 0, .int .i64 0]) (t := 83) ?hr ?_; (case hd => rfl); (case hg => rfl); (case hr => first | (go_simp; done) | (go_simp; rfl)); intro gb310 hg w8 hbox hb; have n0_ := Aside0.mk (below_step (by repeat (first | (with_reducible first | exact HB.out | apply below_alloc | apply pw_below_drewN | apply below_drew1) | exact HB.out)) hb); have n1_ := Aside0.mk (hbox); have n2_ := Aside0.mk ((by rw [hg]; exact (below_size (by repeat (first | (with_reducible first | exact HB.out | apply below_alloc | apply pw_below_drewN | apply below_drew1) | exact HB.out))) : w.heap.size ≤ gb310)); have n3_ := Aside0.mk ((by rw [hg]; exact (below_size (by repeat (first | (with_reducible first | exact HB.out | apply below_alloc | apply pw_below_drewN | apply below_drew1) | exact HB.out))) : w.heap.size ≤ gb310)); clear HB; have HB := n0_; have BK310 := n1_; have GW310 := n2_; have GE310 := n3_; clear n0_ n1_ n2_ n3_; clear hb hbox hg; have hcz9_0 : w8.cell? ⟨gb310, 0, none⟩ = some (.int .i64 0) := (blk_cell BK310.out 0).trans rfl; have hcz9_1 : w8.cell? ⟨gb310, 1, none⟩ = some (.int .i64 0) := (blk_cell BK310.out 1).trans rfl; have hcz9_2 : w8.cell? ⟨gb310, 2, none⟩ = some (.int .i64 0) := (blk_cell BK310.out 2).trans rfl; have hfz9_0 := blk_frozen BK310.out 0; have hfz9_1 := blk_frozen BK310.out 1; have hfz9_2 := blk_frozen BK310.out 2)))
      go_roundg k1
      case measure => have := HK1.out; omega
      case rel => exact ⟨(ji7), (wrap64 (x19_1 + 1)), (by first | rfl | (simp; done) | (simp only [← hji7] <;> (first | rfl | simp)) | (simp [*]; done)), (by first | rfl | (simp; done) | (simp [*]; done)), H', ⟨by have := HK1.out; omega⟩, ⟨by repeat (first | (with_reducible first | exact HB.out | apply below_alloc | apply pw_below_drewN | apply below_drew1 | refine below_set ?_ GE310.out) | exact HB.out)⟩⟩
     ·rw [if_neg c6] at H
      exact absurd H (by simp)
    ·rw [if_neg c5] at H
     exact absurd H (by simp)
   ·rw [if_neg c4] at H
    have c4b0 : decide (x19_1 < (l0.length : Int)) = false := decide_eq_false c4
    clear c4
    by_cases c10 : (l2.length : Int) = x7_1
    ·rw [if_pos c10] at H
     have c10b0 : ((l2.length : Int) == x7_1) = true := beq_iff_eq.mpr c10
     have c10b1 : ((l2.length : Int) != x7_1) = false := bne_eq_false_iff_eq.mpr c10
     clear c10
     by_cases c11 : 0 ≤ (l0.length : Int)
     ·rw [if_pos c11] at H
      have c11b0 := eq_true c11
      have c11b1 : decide (0 ≤ (l0.length : Int)) = true := decide_eq_true c11
      clear c11
      by_cases c12 : ((l0.length : Int) : Int).toNat ≤ 35184372088832
      ·rw [if_pos c12] at H
       have c12b0 := eq_true c12
       have c12b1 : decide (((l0.length : Int) : Int).toNat ≤ 35184372088832) = true := decide_eq_true c12
       clear c12
       obtain ⟨y311, hy311⟩ : ∃ y_ : List Int, y_ = (List.replicate ((l0.length : Int) : Int).toNat 0) := ⟨_, rfl⟩
       replace H : (ontimelaw47_schedules.l1 k1 l0 a1 y311 l2 (l2.length : Int) 0) = some r := by first | (rw [hy311]; with_reducible exact H) | (have H2_ := (Option.bind_some _ _).symm.trans H; rw [hy311]; with_reducible exact H2_) | (have H2_ := (Option.bind_some _ _).symm.trans H; with_reducible exact H2_) | with_reducible exact H | (rw [hy311]; exact H) | exact H
       have Ny311 := Aside0.mk hy311
       clear hy311
       have H' := Aside0.mk H
       clear H
       go_wp2_with (first | ((with_reducible refine gate_dst (N := 34) rfl ?_); (try (refine gate_guard (by rfl) ?_; dsimp only)); refine Kd.R_make (Kd.int .i64) _ 3 rfl (N := 34) rfl 55 _ _ rfl (l0.length : Int) rfl rfl Try.underlying55 (.int .i64 0) 8 info3 rfl (by decide) (by omega) 0 (ok := fun _ => True) (okp := fun _ => True) rfl (fun _ hk => hk) trivial (of_decide_eq_true (by first | (with_reducible assumption) | assumption)) (Nat.le_trans (Nat.mul_le_mul_right _ (of_decide_eq_true (by first | (with_reducible assumption) | assumption) : (l0.length : Int).toNat ≤ 35184372088832)) (by omega)) (Below.refl _ _) (Nat.le_refl _) ?_; intro v312 w13 ho14 hb hg_ hnew_; clear hg_ hnew_; (first | rw [← Ny311.out] at ho14 | (simp only [Int.reduceToNat] at ho14; rw [← Ny311.out] at ho14)); have n0_ := Aside0.mk (Kd.R_lower ho14 (below_size (by repeat (first | (with_reducible first | exact HB.out | apply below_alloc | apply pw_below_drewN | apply below_drew1) | exact HB.out)))); have n1_ := Aside0.mk (below_step (by repeat (first | (with_reducible first | exact HB.out | apply below_alloc | apply pw_below_drewN | apply below_drew1) | exact HB.out)) hb); clear HB; have HO313 := n0_; have HB := n1_; clear n0_ n1_; clear hb ho14))
       repeat (go_quiet (first | ((with_reducible refine gate_dst (N := 34) rfl ?_); (try (refine gate_guard (by rfl) ?_; dsimp only)); refine Kd.R_make (Kd.int .i64) _ 3 rfl (N := 34) rfl 55 _ _ rfl (l0.length : Int) rfl rfl Try.underlying55 (.int .i64 0) 8 info3 rfl (by decide) (by omega) 0 (ok := fun _ => True) (okp := fun _ => True) rfl (fun _ hk => hk) trivial (of_decide_eq_true (by first | (with_reducible assumption) | assumption)) (Nat.le_trans (Nat.mul_le_mul_right _ (of_decide_eq_true (by first | (with_reducible assumption) | assumption) : (l0.length : Int).toNat ≤ 35184372088832)) (by omega)) (Below.refl _ _) (Nat.le_refl _) ?_; intro v312 w13 ho14 hb hg_ hnew_; clear hg_ hnew_; (first | rw [← Ny311.out] at ho14 | (simp only [Int.reduceToNat] at ho14; rw [← Ny311.out] at ho14)); have n0_ := Aside0.mk (Kd.R_lower ho14 (below_size (by repeat (first | (with_reducible first | exact HB.out | apply below_alloc | apply pw_below_drewN | apply below_drew1) | exact HB.out)))); have n1_ := Aside0.mk (below_step (by repeat (first | (with_reducible first | exact HB.out | apply below_alloc | apply pw_below_drewN | apply below_drew1) | exact HB.out)) hb); clear HB; have HO313 := n0_; have HB := n1_; clear n0_ n1_; clear hb ho14)); try go_wp2_with (first | ((with_reducible refine gate_dst (N := 34) rfl ?_); (try (refine gate_guard (by rfl) ?_; dsimp only)); refine Kd.R_make (Kd.int .i64) _ 3 rfl (N := 34) rfl 55 _ _ rfl (l0.length : Int) rfl rfl Try.underlying55 (.int .i64 0) 8 info3 rfl (by decide) (by omega) 0 (ok := fun _ => True) (okp := fun _ => True) rfl (fun _ hk => hk) trivial (of_decide_eq_true (by first | (with_reducible assumption) | assumption)) (Nat.le_trans (Nat.mul_le_mul_right _ (of_decide_eq_true (by first | (with_reducible assumption) | assumption) : (l0.length : Int).toNat ≤ 35184372088832)) (by omega)) (Below.refl _ _) (Nat.le_refl _) ?_; intro v312 w13 ho14 hb hg_ hnew_; clear hg_ hnew_; (first | rw [← Ny311.out] at ho14 | (simp only [Int.reduceToNat] at ho14; rw [← Ny311.out] at ho14)); have n0_ := Aside0.mk (Kd.R_lower ho14 (below_size (by repeat (first | (with_reducible first | exact HB.out | apply below_alloc | apply pw_below_drewN | apply below_drew1) | exact HB.out)))); have n1_ := Aside0.mk (below_step (by repeat (first | (with_reducible first | exact HB.out | apply below_alloc | apply pw_below_drewN | apply below_drew1) | exact HB.out)) hb); clear HB; have HO313 := n0_; have HB := n1_; clear n0_ n1_; clear hb ho14)))
       go_loopg [37] k1 (fun kq v37 w' => ∃ (x10_2 : List Int) (x37_2 : Int), v37 = .int .i64 x37_2 ∧ Aside0 (ontimelaw47_schedules.l1 kq l0 a1 x10_2 l2 (l2.length : Int) x37_2 = some r) ∧ Aside0 (kq ≤ k1) ∧ Aside0 (Kd.R (Kd.int .i64) 3 w' w.heap.size (fun _ => True) v312 x10_2) ∧ Aside0 (Below w.heap.size w w'))
       case atStart => exact ⟨(y311), (0), (by first | rfl | (simp; done) | (simp [*]; done)), H', ⟨Nat.le_refl _⟩, ⟨by (with_reducible repeat (first | apply Kd.R_alloc | apply Kd.R_drewN | apply Kd.R_drew)); exact HO313.out⟩, ⟨by repeat (first | (with_reducible first | exact HB.out | apply below_alloc | apply pw_below_drewN | apply below_drew1) | exact HB.out)⟩⟩
       case round =>
        clear H'
        try clear c1
        try clear c2
        try clear p2
        try clear p3
        try clear q3
        try clear hx3
        try clear c4
        try clear c4b0
        try clear c5
        try clear c5b0
        try clear c6
        try clear c6b0
        try clear p6
        try clear c10
        try clear c10b0
        try clear c10b1
        try clear c11
        try clear c11b0
        try clear c11b1
        try clear c12
        try clear c12b0
        try clear c12b1
        try clear hcz9_0
        try clear hcz9_1
        try clear hcz9_2
        try clear hfz9_0
        try clear hfz9_1
        try clear hfz9_2
        try clear hx309_0
        try clear hx309_1
        try clear hx309_2
        try clear p2
        try clear p309
        try clear q309
        obtain ⟨x10_2, x37_2, rfl, HA, HK2, HO_10, HB⟩ := hrel
        cases gk with
        | zero => exact absurd HA.out (by simp [ontimelaw47_schedules.l1])
        | succ k2 =>
         have H := HA.out
         clear HA
         simp only [ontimelaw47_schedules.l1] at H
         by_cases c15 : x37_2 < (l2.length : Int)
         ·rw [if_pos c15] at H
          have c15b0 : decide (x37_2 < (l2.length : Int)) = true := decide_eq_true c15
          clear c15
          by_cases c16 : 0 ≤ x37_2
          ·rw [if_pos c16] at H
           have c16b0 : decide (0 ≤ x37_2) = true := decide_eq_true c16
           clear c16
           by_cases c17 : x37_2 < (l2.length : Int)
           ·rw [if_pos c17] at H
            have c17b0 : decide (x37_2 < (l2.length : Int)) = true := decide_eq_true c17
            clear c17
            by_cases c18 : ((rd_L4 l2 x37_2).length : Int) > a1
            ·rw [if_pos c18] at H
             have c18b0 : decide (a1 < ((rd_L4 l2 x37_2).length : Int)) = true := decide_eq_true c18
             clear c18
             obtain rfl := Option.some.inj H
             have p314 : 0 ≤ (x37_2 : Int) := of_decide_eq_true (by first | (with_reducible assumption) | assumption)
             have q314 : x37_2 < (l2.length : Int) := of_decide_eq_true (by first | (with_reducible assumption) | assumption)
             obtain ⟨ad314, A314_0, c314_0, e314, hx314_0, hl314_0, hi314_0⟩ := at_L4 HR2.out x37_2 p314 q314
             cases e314
             replace hx314_0 := (HB.out.cell (World.block_lt_of_cell? w _ hx314_0)).trans hx314_0
             have HR314_0 := Aside0.mk hi314_0
             have HC314_0 := Aside0.mk hl314_0
             clear hi314_0 hl314_0
             replace p314 := eq_true p314
             replace q314 := eq_true q314
             go_wp2
             repeat (go_quiet (fail); try go_wp2)
             go_ret
             exact ⟨by first | rfl | (simp [errW_none, errW_some] <;> rfl) | (simp [*, errW_none, errW_some] <;> rfl), by repeat (first | (with_reducible first | exact HB.out | apply below_alloc | apply pw_below_drewN | apply below_drew1) | exact HB.out)⟩
            ·rw [if_neg c18] at H
             have c18b0 : decide (a1 < ((rd_L4 l2 x37_2).length : Int)) = false := decide_eq_false c18
             clear c18
             have H' := Aside0.mk H
             clear H
             have p314 : 0 ≤ (x37_2 : Int) := of_decide_eq_true (by first | (with_reducible assumption) | assumption)
             have q314 : x37_2 < (l2.length : Int) := of_decide_eq_true (by first | (with_reducible assumption) | assumption)
             obtain ⟨ad314, A314_0, c314_0, e314, hx314_0, hl314_0, hi314_0⟩ := at_L4 HR2.out x37_2 p314 q314
             cases e314
             replace hx314_0 := (HB.out.cell (World.block_lt_of_cell? w _ hx314_0)).trans hx314_0
             have HR314_0 := Aside0.mk hi314_0
             have HC314_0 := Aside0.mk hl314_0
             clear hi314_0 hl314_0
             replace p314 := eq_true p314
             replace q314 := eq_true q314
             go_wp2
             repeat (go_quiet (fail); try go_wp2)
             go_loopg [48] k2 (fun kq v48 w' => ∃ (x10_3 : List Int) (x48_3 : Int), v48 = .int .i64 x48_3 ∧ Aside0 (ontimelaw47_schedules.l2 kq l0 a1 x10_3 x37_2 (rd_L4 l2 x37_2) l2 (l2.length : Int) x37_2 (rd_L4 l2 x37_2) ((rd_L4 l2 x37_2).length : Int) x48_3 = some r) ∧ Aside0 (kq ≤ k2) ∧ Aside0 (Kd.R (Kd.int .i64) 3 w' w.heap.size (fun _ => True) v312 x10_3) ∧ Aside0 (Below w.heap.size w w'))
             case atStart => exact ⟨(x10_2), (0), (by first | rfl | (simp; done) | (simp [*]; done)), H', ⟨Nat.le_refl _⟩, ⟨by (with_reducible repeat (first | apply Kd.R_alloc | apply Kd.R_drewN | apply Kd.R_drew)); exact HO_10.out⟩, ⟨by repeat (first | (with_reducible first | exact HB.out | apply below_alloc | apply pw_below_drewN | apply below_drew1) | exact HB.out)⟩⟩
             case round =>
              clear H'
              try clear c1
              try clear c2
              try clear p2
              try clear c3
              try clear p3
              try clear q3
              try clear hx3
              try clear c4
              try clear c4b0
              try clear c5
              try clear c5b0
              try clear c6
              try clear c6b0
              try clear p6
              try clear c10
              try clear c10b0
              try clear c10b1
              try clear c11
              try clear c11b0
              try clear c11b1
              try clear c12
              try clear c12b0
              try clear c12b1
              try clear c15
              try clear c15b0
              try clear c16
              try clear c16b0
              try clear c17
              try clear c17b0
              try clear c18
              try clear c18b0
              try clear hcz9_0
              try clear hcz9_1
              try clear hcz9_2
              try clear hfz9_0
              try clear hfz9_1
              try clear hfz9_2
              try clear hx309_0
              try clear hx309_1
              try clear hx309_2
              try clear hx314_0
              try clear p2
              try clear p3
              try clear p309
              try clear p314
              try clear p6
              try clear q3
              try clear q309
              try clear q314
              obtain ⟨x10_3, x48_3, rfl, HA, HK3, HO_10, HB⟩ := hrel
              cases gk with
              | zero => exact absurd HA.out (by simp [ontimelaw47_schedules.l2])
              | succ k3 =>
               have H := HA.out
               clear HA
               simp only [ontimelaw47_schedules.l2] at H
               by_cases c19 : x48_3 < ((rd_L4 l2 x37_2).length : Int)
               ·rw [if_pos c19] at H
                have c19b0 : decide (x48_3 < ((rd_L4 l2 x37_2).length : Int)) = true := decide_eq_true c19
                clear c19
                by_cases c20 : 0 ≤ x48_3
                ·rw [if_pos c20] at H
                 have c20b0 : decide (0 ≤ x48_3) = true := decide_eq_true c20
                 clear c20
                 by_cases c21 : x48_3 < ((rd_L4 l2 x37_2).length : Int)
                 ·rw [if_pos c21] at H
                  have c21b0 : decide (x48_3 < ((rd_L4 l2 x37_2).length : Int)) = true := decide_eq_true c21
                  clear c21
                  by_cases c22 : (rd (rd_L4 l2 x37_2) x48_3) < 0
                  ·rw [if_pos c22] at H
                   have c22b0 : decide ((rd (rd_L4 l2 x37_2) x48_3) < 0) = true := decide_eq_true c22
                   clear c22
                   obtain rfl := Option.some.inj H
                   have p315 : 0 ≤ (x48_3 : Int) := of_decide_eq_true (by first | (with_reducible assumption) | assumption)
                   have q315 : x48_3 < ((rd_L4 l2 x37_2).length : Int) := of_decide_eq_true (by first | (with_reducible assumption) | assumption)
                   obtain ⟨ad315, e315, hx315_0⟩ := Kd.at_int HR314_0.out x48_3 p315 q315
                   cases e315
                   replace hx315_0 := (HB.out.cell (World.block_lt_of_cell? w _ hx315_0)).trans hx315_0
                   replace p315 := eq_true p315
                   replace q315 := eq_true q315
                   go_wp2
                   repeat (go_quiet (fail); try go_wp2)
                   go_ret
                   exact ⟨by first | rfl | (simp [errW_none, errW_some] <;> rfl) | (simp [*, errW_none, errW_some] <;> rfl), by repeat (first | (with_reducible first | exact HB.out | apply below_alloc | apply pw_below_drewN | apply below_drew1) | exact HB.out)⟩
                  ·rw [if_neg c22] at H
                   have c22b0 : decide ((rd (rd_L4 l2 x37_2) x48_3) < 0) = false := decide_eq_false c22
                   clear c22
                   by_cases c23 : (rd (rd_L4 l2 x37_2) x48_3) ≥ (l0.length : Int)
                   ·rw [if_pos c23] at H
                    have c23b0 : decide ((l0.length : Int) ≤ (rd (rd_L4 l2 x37_2) x48_3)) = true := decide_eq_true c23
                    clear c23
                    obtain rfl := Option.some.inj H
                    have p315 : 0 ≤ (x48_3 : Int) := of_decide_eq_true (by first | (with_reducible assumption) | assumption)
                    have q315 : x48_3 < ((rd_L4 l2 x37_2).length : Int) := of_decide_eq_true (by first | (with_reducible assumption) | assumption)
                    obtain ⟨ad315, e315, hx315_0⟩ := Kd.at_int HR314_0.out x48_3 p315 q315
                    cases e315
                    replace hx315_0 := (HB.out.cell (World.block_lt_of_cell? w _ hx315_0)).trans hx315_0
                    replace p315 := eq_true p315
                    replace q315 := eq_true q315
                    go_wp2
                    repeat (go_quiet (fail); try go_wp2)
                    go_ret
                    exact ⟨by first | rfl | (simp [errW_none, errW_some] <;> rfl) | (simp [*, errW_none, errW_some] <;> rfl), by repeat (first | (with_reducible first | exact HB.out | apply below_alloc | apply pw_below_drewN | apply below_drew1) | exact HB.out)⟩
                   ·rw [if_neg c23] at H
                    have c23b0 : decide ((l0.length : Int) ≤ (rd (rd_L4 l2 x37_2) x48_3)) = false := decide_eq_false c23
                    clear c23
                    by_cases c24 : x48_3 > 0
                    ·rw [if_pos c24] at H
                     have c24b0 : decide (0 < x48_3) = true := decide_eq_true c24
                     clear c24
                     obtain ⟨ji25, hji25⟩ : ∃ j_ : Int, (wrap64 (x48_3 - 1)) = j_ := ⟨_, rfl⟩
                     replace H : (if 0 ≤ (ji25) then (if (ji25) < ((rd_L4 l2 x37_2).length : Int) then (if (rd (rd_L4 l2 x37_2) (ji25)) ≥ (rd (rd_L4 l2 x37_2) x48_3) then (some false) else (if 0 ≤ (rd (rd_L4 l2 x37_2) x48_3) then (if (rd (rd_L4 l2 x37_2) x48_3) < (l0.length : Int) then (if x37_2 < ((rd_T83 l0 (rd (rd_L4 l2 x37_2) x48_3)).f0) then (some false) else (if x37_2 ≥ ((rd_T83 l0 (rd (rd_L4 l2 x37_2) x48_3)).f1) then (some false) else (if (rd (rd_L4 l2 x37_2) x48_3) < (x10_3.length : Int) then (ontimelaw47_schedules.l2 k3 l0 a1 (x10_3.set ((rd (rd_L4 l2 x37_2) x48_3) : Int).toNat (wrap64 ((rd x10_3 (rd (rd_L4 l2 x37_2) x48_3)) + 1))) x37_2 (rd_L4 l2 x37_2) l2 (l2.length : Int) x37_2 (rd_L4 l2 x37_2) ((rd_L4 l2 x37_2).length : Int) (wrap64 (x48_3 + 1))) else (none)))) else (none)) else (none))) else (none)) else (none)) = some r := by first | (rw [hji25] at H; exact H) | (simp only [hji25] at H ⊢; exact H)
                     have hji25w : (IntKind.i64.wrap (x48_3 - 1)) = ji25 := (i64_w _).trans hji25
                     by_cases c26 : 0 ≤ (ji25)
                     ·rw [if_pos c26] at H
                      have c26b0 : decide (0 ≤ (ji25)) = true := decide_eq_true c26
                      clear c26
                      by_cases c27 : (ji25) < ((rd_L4 l2 x37_2).length : Int)
                      ·rw [if_pos c27] at H
                       have c27b0 : decide ((ji25) < ((rd_L4 l2 x37_2).length : Int)) = true := decide_eq_true c27
                       clear c27
                       by_cases c28 : (rd (rd_L4 l2 x37_2) (ji25)) ≥ (rd (rd_L4 l2 x37_2) x48_3)
                       ·rw [if_pos c28] at H
                        have c28b0 : decide ((rd (rd_L4 l2 x37_2) x48_3) ≤ (rd (rd_L4 l2 x37_2) (ji25))) = true := decide_eq_true c28
                        clear c28
                        obtain rfl := Option.some.inj H
                        have p315 : 0 ≤ (x48_3 : Int) := of_decide_eq_true (by first | (with_reducible assumption) | assumption)
                        have q315 : x48_3 < ((rd_L4 l2 x37_2).length : Int) := of_decide_eq_true (by first | (with_reducible assumption) | assumption)
                        obtain ⟨ad315, e315, hx315_0⟩ := Kd.at_int HR314_0.out x48_3 p315 q315
                        cases e315
                        replace hx315_0 := (HB.out.cell (World.block_lt_of_cell? w _ hx315_0)).trans hx315_0
                        replace p315 := eq_true p315
                        replace q315 := eq_true q315
                        have p316 : 0 ≤ ((ji25) : Int) := of_decide_eq_true (by first | (with_reducible assumption) | assumption)
                        have q316 : (ji25) < ((rd_L4 l2 x37_2).length : Int) := of_decide_eq_true (by first | (with_reducible assumption) | assumption)
                        obtain ⟨ad316, e316, hx316_0⟩ := Kd.at_int HR314_0.out (ji25) p316 q316
                        obtain rfl : ad315 = ad316 := (by injection e316)
                        replace hx316_0 := (HB.out.cell (World.block_lt_of_cell? w _ hx316_0)).trans hx316_0
                        replace p316 := eq_true p316
                        replace q316 := eq_true q316
                        go_wp2
                        repeat (go_quiet (fail); try go_wp2)
                        go_ret
                        exact ⟨by first | rfl | (simp [errW_none, errW_some] <;> rfl) | (simp only [← hji25]; first | rfl | (simp [errW_none, errW_some] <;> rfl)) | (simp [*, errW_none, errW_some] <;> rfl), by repeat (first | (with_reducible first | exact HB.out | apply below_alloc | apply pw_below_drewN | apply below_drew1) | exact HB.out)⟩
                       ·rw [if_neg c28] at H
                        have c28b0 : decide ((rd (rd_L4 l2 x37_2) x48_3) ≤ (rd (rd_L4 l2 x37_2) (ji25))) = false := decide_eq_false c28
                        clear c28
                        by_cases c29 : 0 ≤ (rd (rd_L4 l2 x37_2) x48_3)
                        ·rw [if_pos c29] at H
                         have c29b0 : decide (0 ≤ (rd (rd_L4 l2 x37_2) x48_3)) = true := decide_eq_true c29
                         clear c29
                         by_cases c30 : (rd (rd_L4 l2 x37_2) x48_3) < (l0.length : Int)
                         ·rw [if_pos c30] at H
                          have c30b0 : decide ((rd (rd_L4 l2 x37_2) x48_3) < (l0.length : Int)) = true := decide_eq_true c30
                          clear c30
                          by_cases c31 : x37_2 < ((rd_T83 l0 (rd (rd_L4 l2 x37_2) x48_3)).f0)
                          ·rw [if_pos c31] at H
                           have c31b0 : decide (x37_2 < ((rd_T83 l0 (rd (rd_L4 l2 x37_2) x48_3)).f0)) = true := decide_eq_true c31
                           clear c31
                           obtain rfl := Option.some.inj H
                           have p315 : 0 ≤ (x48_3 : Int) := of_decide_eq_true (by first | (with_reducible assumption) | assumption)
                           have q315 : x48_3 < ((rd_L4 l2 x37_2).length : Int) := of_decide_eq_true (by first | (with_reducible assumption) | assumption)
                           obtain ⟨ad315, e315, hx315_0⟩ := Kd.at_int HR314_0.out x48_3 p315 q315
                           cases e315
                           replace hx315_0 := (HB.out.cell (World.block_lt_of_cell? w _ hx315_0)).trans hx315_0
                           replace p315 := eq_true p315
                           replace q315 := eq_true q315
                           have p316 : 0 ≤ ((ji25) : Int) := of_decide_eq_true (by first | (with_reducible assumption) | assumption)
                           have q316 : (ji25) < ((rd_L4 l2 x37_2).length : Int) := of_decide_eq_true (by first | (with_reducible assumption) | assumption)
                           obtain ⟨ad316, e316, hx316_0⟩ := Kd.at_int HR314_0.out (ji25) p316 q316
                           obtain rfl : ad315 = ad316 := (by injection e316)
                           replace hx316_0 := (HB.out.cell (World.block_lt_of_cell? w _ hx316_0)).trans hx316_0
                           replace p316 := eq_true p316
                           replace q316 := eq_true q316
                           have p317 : 0 ≤ ((rd (rd_L4 l2 x37_2) x48_3) : Int) := of_decide_eq_true (by first | (with_reducible assumption) | assumption)
                           have q317 : (rd (rd_L4 l2 x37_2) x48_3) < (l0.length : Int) := of_decide_eq_true (by first | (with_reducible assumption) | assumption)
                           obtain ⟨ad317, e317, hx317_0, hx317_1, hx317_2⟩ := at_T83 HR0.out (rd (rd_L4 l2 x37_2) x48_3) p317 q317
                           cases e317
                           replace hx317_0 := (HB.out.cell (World.block_lt_of_cell? w _ hx317_0)).trans hx317_0
                           replace hx317_1 := (HB.out.cell (World.block_lt_of_cell? w _ hx317_1)).trans hx317_1
                           replace hx317_2 := (HB.out.cell (World.block_lt_of_cell? w _ hx317_2)).trans hx317_2
                           replace p317 := eq_true p317
                           replace q317 := eq_true q317
                           go_wp2
                           repeat (go_quiet (fail); try go_wp2)
                           go_ret
                           exact ⟨by first | rfl | (simp [errW_none, errW_some] <;> rfl) | (simp only [← hji25]; first | rfl | (simp [errW_none, errW_some] <;> rfl)) | (simp [*, errW_none, errW_some] <;> rfl), by repeat (first | (with_reducible first | exact HB.out | apply below_alloc | apply pw_below_drewN | apply below_drew1) | exact HB.out)⟩
                          ·rw [if_neg c31] at H
                           have c31b0 : decide (x37_2 < ((rd_T83 l0 (rd (rd_L4 l2 x37_2) x48_3)).f0)) = false := decide_eq_false c31
                           clear c31
                           by_cases c32 : x37_2 ≥ ((rd_T83 l0 (rd (rd_L4 l2 x37_2) x48_3)).f1)
                           ·rw [if_pos c32] at H
                            have c32b0 : decide (((rd_T83 l0 (rd (rd_L4 l2 x37_2) x48_3)).f1) ≤ x37_2) = true := decide_eq_true c32
                            clear c32
                            obtain rfl := Option.some.inj H
                            have p315 : 0 ≤ (x48_3 : Int) := of_decide_eq_true (by first | (with_reducible assumption) | assumption)
                            have q315 : x48_3 < ((rd_L4 l2 x37_2).length : Int) := of_decide_eq_true (by first | (with_reducible assumption) | assumption)
                            obtain ⟨ad315, e315, hx315_0⟩ := Kd.at_int HR314_0.out x48_3 p315 q315
                            cases e315
                            replace hx315_0 := (HB.out.cell (World.block_lt_of_cell? w _ hx315_0)).trans hx315_0
                            replace p315 := eq_true p315
                            replace q315 := eq_true q315
                            have p316 : 0 ≤ ((ji25) : Int) := of_decide_eq_true (by first | (with_reducible assumption) | assumption)
                            have q316 : (ji25) < ((rd_L4 l2 x37_2).length : Int) := of_decide_eq_true (by first | (with_reducible assumption) | assumption)
                            obtain ⟨ad316, e316, hx316_0⟩ := Kd.at_int HR314_0.out (ji25) p316 q316
                            obtain rfl : ad315 = ad316 := (by injection e316)
                            replace hx316_0 := (HB.out.cell (World.block_lt_of_cell? w _ hx316_0)).trans hx316_0
                            replace p316 := eq_true p316
                            replace q316 := eq_true q316
                            have p317 : 0 ≤ ((rd (rd_L4 l2 x37_2) x48_3) : Int) := of_decide_eq_true (by first | (with_reducible assumption) | assumption)
                            have q317 : (rd (rd_L4 l2 x37_2) x48_3) < (l0.length : Int) := of_decide_eq_true (by first | (with_reducible assumption) | assumption)
                            obtain ⟨ad317, e317, hx317_0, hx317_1, hx317_2⟩ := at_T83 HR0.out (rd (rd_L4 l2 x37_2) x48_3) p317 q317
                            cases e317
                            replace hx317_0 := (HB.out.cell (World.block_lt_of_cell? w _ hx317_0)).trans hx317_0
                            replace hx317_1 := (HB.out.cell (World.block_lt_of_cell? w _ hx317_1)).trans hx317_1
                            replace hx317_2 := (HB.out.cell (World.block_lt_of_cell? w _ hx317_2)).trans hx317_2
                            replace p317 := eq_true p317
                            replace q317 := eq_true q317
                            have p318 : 0 ≤ ((rd (rd_L4 l2 x37_2) x48_3) : Int) := of_decide_eq_true (by first | (with_reducible assumption) | assumption)
                            have q318 : (rd (rd_L4 l2 x37_2) x48_3) < (l0.length : Int) := of_decide_eq_true (by first | (with_reducible assumption) | assumption)
                            obtain ⟨ad318, e318, hx318_0, hx318_1, hx318_2⟩ := at_T83 HR0.out (rd (rd_L4 l2 x37_2) x48_3) p318 q318
                            obtain rfl : ad317 = ad318 := (by injection e318)
                            replace hx318_0 := (HB.out.cell (World.block_lt_of_cell? w _ hx318_0)).trans hx318_0
                            replace hx318_1 := (HB.out.cell (World.block_lt_of_cell? w _ hx318_1)).trans hx318_1
                            replace hx318_2 := (HB.out.cell (World.block_lt_of_cell? w _ hx318_2)).trans hx318_2
                            replace p318 := eq_true p318
                            replace q318 := eq_true q318
                            go_wp2
                            repeat (go_quiet (fail); try go_wp2)
                            go_ret
                            exact ⟨by first | rfl | (simp [errW_none, errW_some] <;> rfl) | (simp only [← hji25]; first | rfl | (simp [errW_none, errW_some] <;> rfl)) | (simp [*, errW_none, errW_some] <;> rfl), by repeat (first | (with_reducible first | exact HB.out | apply below_alloc | apply pw_below_drewN | apply below_drew1) | exact HB.out)⟩
                           ·rw [if_neg c32] at H
                            have c32b0 : decide (((rd_T83 l0 (rd (rd_L4 l2 x37_2) x48_3)).f1) ≤ x37_2) = false := decide_eq_false c32
                            clear c32
                            by_cases c33 : (rd (rd_L4 l2 x37_2) x48_3) < (x10_3.length : Int)
                            ·rw [if_pos c33] at H
                             have c33b0 : decide ((rd (rd_L4 l2 x37_2) x48_3) < (x10_3.length : Int)) = true := decide_eq_true c33
                             clear c33
                             obtain ⟨y320, hy320⟩ : ∃ y_ : List Int, y_ = (x10_3.set ((rd (rd_L4 l2 x37_2) x48_3) : Int).toNat (wrap64 ((rd x10_3 (rd (rd_L4 l2 x37_2) x48_3)) + 1))) := ⟨_, rfl⟩
                             replace H : (ontimelaw47_schedules.l2 k3 l0 a1 y320 x37_2 (rd_L4 l2 x37_2) l2 (l2.length : Int) x37_2 (rd_L4 l2 x37_2) ((rd_L4 l2 x37_2).length : Int) (wrap64 (x48_3 + 1))) = some r := by first | (rw [hy320]; with_reducible exact H) | (have H2_ := (Option.bind_some _ _).symm.trans H; rw [hy320]; with_reducible exact H2_) | (have H2_ := (Option.bind_some _ _).symm.trans H; with_reducible exact H2_) | with_reducible exact H | (rw [hy320]; exact H) | exact H
                             have Ny320 := Aside0.mk hy320
                             clear hy320
                             have H' := Aside0.mk H
                             clear H
                             have p315 : 0 ≤ (x48_3 : Int) := of_decide_eq_true (by first | (with_reducible assumption) | assumption)
                             have q315 : x48_3 < ((rd_L4 l2 x37_2).length : Int) := of_decide_eq_true (by first | (with_reducible assumption) | assumption)
                             obtain ⟨ad315, e315, hx315_0⟩ := Kd.at_int HR314_0.out x48_3 p315 q315
                             cases e315
                             replace hx315_0 := (HB.out.cell (World.block_lt_of_cell? w _ hx315_0)).trans hx315_0
                             replace p315 := eq_true p315
                             replace q315 := eq_true q315
                             have p316 : 0 ≤ ((ji25) : Int) := of_decide_eq_true (by first | (with_reducible assumption) | assumption)
                             have q316 : (ji25) < ((rd_L4 l2 x37_2).length : Int) := of_decide_eq_true (by first | (with_reducible assumption) | assumption)
                             obtain ⟨ad316, e316, hx316_0⟩ := Kd.at_int HR314_0.out (ji25) p316 q316
                             obtain rfl : ad315 = ad316 := (by injection e316)
                             replace hx316_0 := (HB.out.cell (World.block_lt_of_cell? w _ hx316_0)).trans hx316_0
                             replace p316 := eq_true p316
                             replace q316 := eq_true q316
                             have p317 : 0 ≤ ((rd (rd_L4 l2 x37_2) x48_3) : Int) := of_decide_eq_true (by first | (with_reducible assumption) | assumption)
                             have q317 : (rd (rd_L4 l2 x37_2) x48_3) < (l0.length : Int) := of_decide_eq_true (by first | (with_reducible assumption) | assumption)
                             obtain ⟨ad317, e317, hx317_0, hx317_1, hx317_2⟩ := at_T83 HR0.out (rd (rd_L4 l2 x37_2) x48_3) p317 q317
                             cases e317
                             replace hx317_0 := (HB.out.cell (World.block_lt_of_cell? w _ hx317_0)).trans hx317_0
                             replace hx317_1 := (HB.out.cell (World.block_lt_of_cell? w _ hx317_1)).trans hx317_1
                             replace hx317_2 := (HB.out.cell (World.block_lt_of_cell? w _ hx317_2)).trans hx317_2
                             replace p317 := eq_true p317
                             replace q317 := eq_true q317
                             have p318 : 0 ≤ ((rd (rd_L4 l2 x37_2) x48_3) : Int) := of_decide_eq_true (by first | (with_reducible assumption) | assumption)
                             have q318 : (rd (rd_L4 l2 x37_2) x48_3) < (l0.length : Int) := of_decide_eq_true (by first | (with_reducible assumption) | assumption)
                             obtain ⟨ad318, e318, hx318_0, hx318_1, hx318_2⟩ := at_T83 HR0.out (rd (rd_L4 l2 x37_2) x48_3) p318 q318
                             obtain rfl : ad317 = ad318 := (by injection e318)
                             replace hx318_0 := (HB.out.cell (World.block_lt_of_cell? w _ hx318_0)).trans hx318_0
                             replace hx318_1 := (HB.out.cell (World.block_lt_of_cell? w _ hx318_1)).trans hx318_1
                             replace hx318_2 := (HB.out.cell (World.block_lt_of_cell? w _ hx318_2)).trans hx318_2
                             replace p318 := eq_true p318
                             replace q318 := eq_true q318
                             obtain ⟨Ao35, co35, eo35⟩ := Kd.R_slice HO_10.out
                             subst eo35
                             have p319 : 0 ≤ ((rd (rd_L4 l2 x37_2) x48_3) : Int) := of_decide_eq_true (by first | (with_reducible assumption) | assumption)
                             have q319 : (rd (rd_L4 l2 x37_2) x48_3) < (x10_3.length : Int) := of_decide_eq_true (by first | (with_reducible assumption) | assumption)
                             obtain ⟨ad319, e319, hx319_0⟩ := Kd.at_int (Kd.R_reads' HO_10.out).2.2 (rd (rd_L4 l2 x37_2) x48_3) p319 q319
                             cases e319
                             replace p319 := eq_true p319
                             replace q319 := eq_true q319
                             have p34 : 0 ≤ ((rd (rd_L4 l2 x37_2) x48_3) : Int) := of_decide_eq_true (by first | (with_reducible assumption) | assumption)
                             have q34 : ((rd (rd_L4 l2 x37_2) x48_3) : Int) < ((x10_3.length : Int) : Int) := of_decide_eq_true (by first | (with_reducible assumption) | assumption)
                             obtain ⟨go34, co34, eo34, gb34, gl34, cl34, HG34⟩ := Kd.R_form HO_10.out (by omega)
                             (first | cases eo34 | (injection eo34 with ea_ en_ ec_; (first | subst ea_ | (injection ea_ with ea_; subst ea_)); subst ec_; clear en_))
                             have GB34 := Aside0.mk gb34
                             have GG34 := Aside0.mk HG34
                             clear gb34 gl34 HG34
                             (first | simp only [add_plain] at hx319_0 | skip)
                             obtain ⟨hx34_0, hf34_0⟩ := Kd.R_celln 0 HO_10.out ((rd (rd_L4 l2 x37_2) x48_3) : Int) p34 q34
                             replace p34 := eq_true p34
                             replace q34 := eq_true q34
                             have HP36 := Kd.R_putg HO_10.out ((rd (rd_L4 l2 x37_2) x48_3) : Int) (wrap64 ((rd x10_3 (rd (rd_L4 l2 x37_2) x48_3)) + 1))
                             go_wp2_with (first | ((with_reducible refine gate_store (t := 3) (p := 97) rfl ?_); (try (rw [drewN_self wr]; generalize hq_ : World.drewN wr _ = wr; have n0_ := Aside0.mk (Kd.R_at hq_ HO_10.out); have n1_ := Aside0.mk (below_at hq_ HB.out); clear hq_ HO_10 HB; have HO_10 := n0_; have HB := n1_; clear n0_ n1_; (try (have HP36 := Kd.R_putg HO_10.out ((rd (rd_L4 l2 x37_2) x48_3) : Int) (wrap64 ((rd x10_3 (rd (rd_L4 l2 x37_2) x48_3)) + 1)))))); refine store_event (t := 3) (p := 97) (v := ?vo_w37) (w1 := (wr.setCell ⟨go34, ((rd (rd_L4 l2 x37_2) x48_3) : Int).toNat, none⟩ (.int .i64 (wrap64 ((rd x10_3 (rd (rd_L4 l2 x37_2) x48_3)) + 1))))) ?hg ?ho ?hn ?hr ?_; (case ho => rfl); (case hg => rfl); (case hn => rfl); (case hr => first | (go_simp; done) | (go_simp; rfl)); intro w37 hw; have hg : wr.grownBy w37 (some go34) := (by rw [hw]; exact HP36.2); have hp_ : Kd.R (Kd.int .i64) 3 w37 w.heap.size (fun _ => True) (.slice (some ⟨go34, 0, none⟩) x10_3.length co35) y320 := (by rw [hw, Ny320.out]; exact HP36.1); clear HP36; have n0_ := Aside0.mk (hp_); have n1_ := Aside0.mk ((by rw [hw]; exact below_set (HB.out) GB34.out : Below w.heap.size w w37)); clear HO_10; clear HB; have HO_10 := n0_; have HB := n1_; clear n0_ n1_; clear hg hw hp_))
                             repeat (go_quiet (first | ((with_reducible refine gate_store (t := 3) (p := 97) rfl ?_); (try (rw [drewN_self wr]; generalize hq_ : World.drewN wr _ = wr; have n0_ := Aside0.mk (Kd.R_at hq_ HO_10.out); have n1_ := Aside0.mk (below_at hq_ HB.out); clear hq_ HO_10 HB; have HO_10 := n0_; have HB := n1_; clear n0_ n1_; (try (have HP36 := Kd.R_putg HO_10.out ((rd (rd_L4 l2 x37_2) x48_3) : Int) (wrap64 ((rd x10_3 (rd (rd_L4 l2 x37_2) x48_3)) + 1)))))); refine store_event (t := 3) (p := 97) (v := ?vo_w37) (w1 := (wr.setCell ⟨go34, ((rd (rd_L4 l2 x37_2) x48_3) : Int).toNat, none⟩ (.int .i64 (wrap64 ((rd x10_3 (rd (rd_L4 l2 x37_2) x48_3)) + 1))))) ?hg ?ho ?hn ?hr ?_; (case ho => rfl); (case hg => rfl); (case hn => rfl); (case hr => first | (go_simp; done) | (go_simp; rfl)); intro w37 hw; have hg : wr.grownBy w37 (some go34) := (by rw [hw]; exact HP36.2); have hp_ : Kd.R (Kd.int .i64) 3 w37 w.heap.size (fun _ => True) (.slice (some ⟨go34, 0, none⟩) x10_3.length co35) y320 := (by rw [hw, Ny320.out]; exact HP36.1); clear HP36; have n0_ := Aside0.mk (hp_); have n1_ := Aside0.mk ((by rw [hw]; exact below_set (HB.out) GB34.out : Below w.heap.size w w37)); clear HO_10; clear HB; have HO_10 := n0_; have HB := n1_; clear n0_ n1_; clear hg hw hp_)); try go_wp2_with (first | ((with_reducible refine gate_store (t := 3) (p := 97) rfl ?_); (try (rw [drewN_self wr]; generalize hq_ : World.drewN wr _ = wr; have n0_ := Aside0.mk (Kd.R_at hq_ HO_10.out); have n1_ := Aside0.mk (below_at hq_ HB.out); clear hq_ HO_10 HB; have HO_10 := n0_; have HB := n1_; clear n0_ n1_; (try (have HP36 := Kd.R_putg HO_10.out ((rd (rd_L4 l2 x37_2) x48_3) : Int) (wrap64 ((rd x10_3 (rd (rd_L4 l2 x37_2) x48_3)) + 1)))))); refine store_event (t := 3) (p := 97) (v := ?vo_w37) (w1 := (wr.setCell ⟨go34, ((rd (rd_L4 l2 x37_2) x48_3) : Int).toNat, none⟩ (.int .i64 (wrap64 ((rd x10_3 (rd (rd_L4 l2 x37_2) x48_3)) + 1))))) ?hg ?ho ?hn ?hr ?_; (case ho => rfl); (case hg => rfl); (case hn => rfl); (case hr => first | (go_simp; done) | (go_simp; rfl)); intro w37 hw; have hg : wr.grownBy w37 (some go34) := (by rw [hw]; exact HP36.2); have hp_ : Kd.R (Kd.int .i64) 3 w37 w.heap.size (fun _ => True) (.slice (some ⟨go34, 0, none⟩) x10_3.length co35) y320 := (by rw [hw, Ny320.out]; exact HP36.1); clear HP36; have n0_ := Aside0.mk (hp_); have n1_ := Aside0.mk ((by rw [hw]; exact below_set (HB.out) GB34.out : Below w.heap.size w w37)); clear HO_10; clear HB; have HO_10 := n0_; have HB := n1_; clear n0_ n1_; clear hg hw hp_)))
                             go_roundg k3
                             case measure => have := HK1.out; have := HK2.out; have := HK3.out; omega
                             case rel => exact ⟨(y320), (wrap64 (x48_3 + 1)), (by first | rfl | (simp; done) | (simp [*]; done)), H', ⟨by have := HK1.out; have := HK2.out; have := HK3.out; omega⟩, ⟨by (with_reducible repeat (first | apply Kd.R_alloc | apply Kd.R_drewN | apply Kd.R_drew)); exact HO_10.out⟩, ⟨by repeat (first | (with_reducible first | exact HB.out | apply below_alloc | apply pw_below_drewN | apply below_drew1) | exact HB.out)⟩⟩
                            ·rw [if_neg c33] at H
                             exact absurd H (by simp)
                         ·rw [if_neg c30] at H
                          exact absurd H (by simp)
                        ·rw [if_neg c29] at H
                         exact absurd H (by simp)
                      ·rw [if_neg c27] at H
                       exact absurd H (by simp)
                     ·rw [if_neg c26] at H
                      exact absurd H (by simp)
                    ·rw [if_neg c24] at H
                     have c24b0 : decide (0 < x48_3) = false := decide_eq_false c24
                     clear c24
                     by_cases c38 : 0 ≤ (rd (rd_L4 l2 x37_2) x48_3)
                     ·rw [if_pos c38] at H
                      have c38b0 : decide (0 ≤ (rd (rd_L4 l2 x37_2) x48_3)) = true := decide_eq_true c38
                      clear c38
                      by_cases c39 : (rd (rd_L4 l2 x37_2) x48_3) < (l0.length : Int)
                      ·rw [if_pos c39] at H
                       have c39b0 : decide ((rd (rd_L4 l2 x37_2) x48_3) < (l0.length : Int)) = true := decide_eq_true c39
                       clear c39
                       by_cases c40 : x37_2 < ((rd_T83 l0 (rd (rd_L4 l2 x37_2) x48_3)).f0)
                       ·rw [if_pos c40] at H
                        have c40b0 : decide (x37_2 < ((rd_T83 l0 (rd (rd_L4 l2 x37_2) x48_3)).f0)) = true := decide_eq_true c40
                        clear c40
                        obtain rfl := Option.some.inj H
                        have p315 : 0 ≤ (x48_3 : Int) := of_decide_eq_true (by first | (with_reducible assumption) | assumption)
                        have q315 : x48_3 < ((rd_L4 l2 x37_2).length : Int) := of_decide_eq_true (by first | (with_reducible assumption) | assumption)
                        obtain ⟨ad315, e315, hx315_0⟩ := Kd.at_int HR314_0.out x48_3 p315 q315
                        cases e315
                        replace hx315_0 := (HB.out.cell (World.block_lt_of_cell? w _ hx315_0)).trans hx315_0
                        replace p315 := eq_true p315
                        replace q315 := eq_true q315
                        have p321 : 0 ≤ ((rd (rd_L4 l2 x37_2) x48_3) : Int) := of_decide_eq_true (by first | (with_reducible assumption) | assumption)
                        have q321 : (rd (rd_L4 l2 x37_2) x48_3) < (l0.length : Int) := of_decide_eq_true (by first | (with_reducible assumption) | assumption)
                        obtain ⟨ad321, e321, hx321_0, hx321_1, hx321_2⟩ := at_T83 HR0.out (rd (rd_L4 l2 x37_2) x48_3) p321 q321
                        cases e321
                        replace hx321_0 := (HB.out.cell (World.block_lt_of_cell? w _ hx321_0)).trans hx321_0
                        replace hx321_1 := (HB.out.cell (World.block_lt_of_cell? w _ hx321_1)).trans hx321_1
                        replace hx321_2 := (HB.out.cell (World.block_lt_of_cell? w _ hx321_2)).trans hx321_2
                        replace p321 := eq_true p321
                        replace q321 := eq_true q321
                        go_wp2
                        repeat (go_quiet (fail); try go_wp2)
                        go_ret
                        exact ⟨by first | rfl | (simp [errW_none, errW_some] <;> rfl) | (simp [*, errW_none, errW_some] <;> rfl), by repeat (first | (with_reducible first | exact HB.out | apply below_alloc | apply pw_below_drewN | apply below_drew1) | exact HB.out)⟩
                       ·rw [if_neg c40] at H
                        have c40b0 : decide (x37_2 < ((rd_T83 l0 (rd (rd_L4 l2 x37_2) x48_3)).f0)) = false := decide_eq_false c40
                        clear c40
                        by_cases c41 : x37_2 ≥ ((rd_T83 l0 (rd (rd_L4 l2 x37_2) x48_3)).f1)
                        ·rw [if_pos c41] at H
                         have c41b0 : decide (((rd_T83 l0 (rd (rd_L4 l2 x37_2) x48_3)).f1) ≤ x37_2) = true := decide_eq_true c41
                         clear c41
                         obtain rfl := Option.some.inj H
                         have p315 : 0 ≤ (x48_3 : Int) := of_decide_eq_true (by first | (with_reducible assumption) | assumption)
                         have q315 : x48_3 < ((rd_L4 l2 x37_2).length : Int) := of_decide_eq_true (by first | (with_reducible assumption) | assumption)
                         obtain ⟨ad315, e315, hx315_0⟩ := Kd.at_int HR314_0.out x48_3 p315 q315
                         cases e315
                         replace hx315_0 := (HB.out.cell (World.block_lt_of_cell? w _ hx315_0)).trans hx315_0
                         replace p315 := eq_true p315
                         replace q315 := eq_true q315
                         have p321 : 0 ≤ ((rd (rd_L4 l2 x37_2) x48_3) : Int) := of_decide_eq_true (by first | (with_reducible assumption) | assumption)
                         have q321 : (rd (rd_L4 l2 x37_2) x48_3) < (l0.length : Int) := of_decide_eq_true (by first | (with_reducible assumption) | assumption)
                         obtain ⟨ad321, e321, hx321_0, hx321_1, hx321_2⟩ := at_T83 HR0.out (rd (rd_L4 l2 x37_2) x48_3) p321 q321
                         cases e321
                         replace hx321_0 := (HB.out.cell (World.block_lt_of_cell? w _ hx321_0)).trans hx321_0
                         replace hx321_1 := (HB.out.cell (World.block_lt_of_cell? w _ hx321_1)).trans hx321_1
                         replace hx321_2 := (HB.out.cell (World.block_lt_of_cell? w _ hx321_2)).trans hx321_2
                         replace p321 := eq_true p321
                         replace q321 := eq_true q321
                         have p322 : 0 ≤ ((rd (rd_L4 l2 x37_2) x48_3) : Int) := of_decide_eq_true (by first | (with_reducible assumption) | assumption)
                         have q322 : (rd (rd_L4 l2 x37_2) x48_3) < (l0.length : Int) := of_decide_eq_true (by first | (with_reducible assumption) | assumption)
                         obtain ⟨ad322, e322, hx322_0, hx322_1, hx322_2⟩ := at_T83 HR0.out (rd (rd_L4 l2 x37_2) x48_3) p322 q322
                         obtain rfl : ad321 = ad322 := (by injection e322)
                         replace hx322_0 := (HB.out.cell (World.block_lt_of_cell? w _ hx322_0)).trans hx322_0
                         replace hx322_1 := (HB.out.cell (World.block_lt_of_cell? w _ hx322_1)).trans hx322_1
                         replace hx322_2 := (HB.out.cell (World.block_lt_of_cell? w _ hx322_2)).trans hx322_2
                         replace p322 := eq_true p322
                         replace q322 := eq_true q322
                         go_wp2
                         repeat (go_quiet (fail); try go_wp2)
                         go_ret
                         exact ⟨by first | rfl | (simp [errW_none, errW_some] <;> rfl) | (simp [*, errW_none, errW_some] <;> rfl), by repeat (first | (with_reducible first | exact HB.out | apply below_alloc | apply pw_below_drewN | apply below_drew1) | exact HB.out)⟩
                        ·rw [if_neg c41] at H
                         have c41b0 : decide (((rd_T83 l0 (rd (rd_L4 l2 x37_2) x48_3)).f1) ≤ x37_2) = false := decide_eq_false c41
                         clear c41
                         by_cases c42 : (rd (rd_L4 l2 x37_2) x48_3) < (x10_3.length : Int)
                         ·rw [if_pos c42] at H
                          have c42b0 : decide ((rd (rd_L4 l2 x37_2) x48_3) < (x10_3.length : Int)) = true := decide_eq_true c42
                          clear c42
                          obtain ⟨y324, hy324⟩ : ∃ y_ : List Int, y_ = (x10_3.set ((rd (rd_L4 l2 x37_2) x48_3) : Int).toNat (wrap64 ((rd x10_3 (rd (rd_L4 l2 x37_2) x48_3)) + 1))) := ⟨_, rfl⟩
                          replace H : (ontimelaw47_schedules.l2 k3 l0 a1 y324 x37_2 (rd_L4 l2 x37_2) l2 (l2.length : Int) x37_2 (rd_L4 l2 x37_2) ((rd_L4 l2 x37_2).length : Int) (wrap64 (x48_3 + 1))) = some r := by first | (rw [hy324]; with_reducible exact H) | (have H2_ := (Option.bind_some _ _).symm.trans H; rw [hy324]; with_reducible exact H2_) | (have H2_ := (Option.bind_some _ _).symm.trans H; with_reducible exact H2_) | with_reducible exact H | (rw [hy324]; exact H) | exact H
                          have Ny324 := Aside0.mk hy324
                          clear hy324
                          have H' := Aside0.mk H
                          clear H
                          have p315 : 0 ≤ (x48_3 : Int) := of_decide_eq_true (by first | (with_reducible assumption) | assumption)
                          have q315 : x48_3 < ((rd_L4 l2 x37_2).length : Int) := of_decide_eq_true (by first | (with_reducible assumption) | assumption)
                          obtain ⟨ad315, e315, hx315_0⟩ := Kd.at_int HR314_0.out x48_3 p315 q315
                          cases e315
                          replace hx315_0 := (HB.out.cell (World.block_lt_of_cell? w _ hx315_0)).trans hx315_0
                          replace p315 := eq_true p315
                          replace q315 := eq_true q315
                          have p321 : 0 ≤ ((rd (rd_L4 l2 x37_2) x48_3) : Int) := of_decide_eq_true (by first | (with_reducible assumption) | assumption)
                          have q321 : (rd (rd_L4 l2 x37_2) x48_3) < (l0.length : Int) := of_decide_eq_true (by first | (with_reducible assumption) | assumption)
                          obtain ⟨ad321, e321, hx321_0, hx321_1, hx321_2⟩ := at_T83 HR0.out (rd (rd_L4 l2 x37_2) x48_3) p321 q321
                          cases e321
                          replace hx321_0 := (HB.out.cell (World.block_lt_of_cell? w _ hx321_0)).trans hx321_0
                          replace hx321_1 := (HB.out.cell (World.block_lt_of_cell? w _ hx321_1)).trans hx321_1
                          replace hx321_2 := (HB.out.cell (World.block_lt_of_cell? w _ hx321_2)).trans hx321_2
                          replace p321 := eq_true p321
                          replace q321 := eq_true q321
                          have p322 : 0 ≤ ((rd (rd_L4 l2 x37_2) x48_3) : Int) := of_decide_eq_true (by first | (with_reducible assumption) | assumption)
                          have q322 : (rd (rd_L4 l2 x37_2) x48_3) < (l0.length : Int) := of_decide_eq_true (by first | (with_reducible assumption) | assumption)
                          obtain ⟨ad322, e322, hx322_0, hx322_1, hx322_2⟩ := at_T83 HR0.out (rd (rd_L4 l2 x37_2) x48_3) p322 q322
                          obtain rfl : ad321 = ad322 := (by injection e322)
                          replace hx322_0 := (HB.out.cell (World.block_lt_of_cell? w _ hx322_0)).trans hx322_0
                          replace hx322_1 := (HB.out.cell (World.block_lt_of_cell? w _ hx322_1)).trans hx322_1
                          replace hx322_2 := (HB.out.cell (World.block_lt_of_cell? w _ hx322_2)).trans hx322_2
                          replace p322 := eq_true p322
                          replace q322 := eq_true q322
                          obtain ⟨Ao44, co44, eo44⟩ := Kd.R_slice HO_10.out
                          subst eo44
                          have p323 : 0 ≤ ((rd (rd_L4 l2 x37_2) x48_3) : Int) := of_decide_eq_true (by first | (with_reducible assumption) | assumption)
                          have q323 : (rd (rd_L4 l2 x37_2) x48_3) < (x10_3.length : Int) := of_decide_eq_true (by first | (with_reducible assumption) | assumption)
                          obtain ⟨ad323, e323, hx323_0⟩ := Kd.at_int (Kd.R_reads' HO_10.out).2.2 (rd (rd_L4 l2 x37_2) x48_3) p323 q323
                          cases e323
                          replace p323 := eq_true p323
                          replace q323 := eq_true q323
                          have p43 : 0 ≤ ((rd (rd_L4 l2 x37_2) x48_3) : Int) := of_decide_eq_true (by first | (with_reducible assumption) | assumption)
                          have q43 : ((rd (rd_L4 l2 x37_2) x48_3) : Int) < ((x10_3.length : Int) : Int) := of_decide_eq_true (by first | (with_reducible assumption) | assumption)
                          obtain ⟨go43, co43, eo43, gb43, gl43, cl43, HG43⟩ := Kd.R_form HO_10.out (by omega)
                          (first | cases eo43 | (injection eo43 with ea_ en_ ec_; (first | subst ea_ | (injection ea_ with ea_; subst ea_)); subst ec_; clear en_))
                          have GB43 := Aside0.mk gb43
                          have GG43 := Aside0.mk HG43
                          clear gb43 gl43 HG43
                          (first | simp only [add_plain] at hx323_0 | skip)
                          obtain ⟨hx43_0, hf43_0⟩ := Kd.R_celln 0 HO_10.out ((rd (rd_L4 l2 x37_2) x48_3) : Int) p43 q43
                          replace p43 := eq_true p43
                          replace q43 := eq_true q43
                          have HP45 := Kd.R_putg HO_10.out ((rd (rd_L4 l2 x37_2) x48_3) : Int) (wrap64 ((rd x10_3 (rd (rd_L4 l2 x37_2) x48_3)) + 1))
                          go_wp2_with (first | ((with_reducible refine gate_store (t := 3) (p := 97) rfl ?_); (try (rw [drewN_self wr]; generalize hq_ : World.drewN wr _ = wr; have n0_ := Aside0.mk (Kd.R_at hq_ HO_10.out); have n1_ := Aside0.mk (below_at hq_ HB.out); clear hq_ HO_10 HB; have HO_10 := n0_; have HB := n1_; clear n0_ n1_; (try (have HP45 := Kd.R_putg HO_10.out ((rd (rd_L4 l2 x37_2) x48_3) : Int) (wrap64 ((rd x10_3 (rd (rd_L4 l2 x37_2) x48_3)) + 1)))))); refine store_event (t := 3) (p := 97) (v := ?vo_w46) (w1 := (wr.setCell ⟨go43, ((rd (rd_L4 l2 x37_2) x48_3) : Int).toNat, none⟩ (.int .i64 (wrap64 ((rd x10_3 (rd (rd_L4 l2 x37_2) x48_3)) + 1))))) ?hg ?ho ?hn ?hr ?_; (case ho => rfl); (case hg => rfl); (case hn => rfl); (case hr => first | (go_simp; done) | (go_simp; rfl)); intro w46 hw; have hg : wr.grownBy w46 (some go43) := (by rw [hw]; exact HP45.2); have hp_ : Kd.R (Kd.int .i64) 3 w46 w.heap.size (fun _ => True) (.slice (some ⟨go43, 0, none⟩) x10_3.length co44) y324 := (by rw [hw, Ny324.out]; exact HP45.1); clear HP45; have n0_ := Aside0.mk (hp_); have n1_ := Aside0.mk ((by rw [hw]; exact below_set (HB.out) GB43.out : Below w.heap.size w w46)); clear HO_10; clear HB; have HO_10 := n0_; have HB := n1_; clear n0_ n1_; clear hg hw hp_))
                          repeat (go_quiet (first | ((with_reducible refine gate_store (t := 3) (p := 97) rfl ?_); (try (rw [drewN_self wr]; generalize hq_ : World.drewN wr _ = wr; have n0_ := Aside0.mk (Kd.R_at hq_ HO_10.out); have n1_ := Aside0.mk (below_at hq_ HB.out); clear hq_ HO_10 HB; have HO_10 := n0_; have HB := n1_; clear n0_ n1_; (try (have HP45 := Kd.R_putg HO_10.out ((rd (rd_L4 l2 x37_2) x48_3) : Int) (wrap64 ((rd x10_3 (rd (rd_L4 l2 x37_2) x48_3)) + 1)))))); refine store_event (t := 3) (p := 97) (v := ?vo_w46) (w1 := (wr.setCell ⟨go43, ((rd (rd_L4 l2 x37_2) x48_3) : Int).toNat, none⟩ (.int .i64 (wrap64 ((rd x10_3 (rd (rd_L4 l2 x37_2) x48_3)) + 1))))) ?hg ?ho ?hn ?hr ?_; (case ho => rfl); (case hg => rfl); (case hn => rfl); (case hr => first | (go_simp; done) | (go_simp; rfl)); intro w46 hw; have hg : wr.grownBy w46 (some go43) := (by rw [hw]; exact HP45.2); have hp_ : Kd.R (Kd.int .i64) 3 w46 w.heap.size (fun _ => True) (.slice (some ⟨go43, 0, none⟩) x10_3.length co44) y324 := (by rw [hw, Ny324.out]; exact HP45.1); clear HP45; have n0_ := Aside0.mk (hp_); have n1_ := Aside0.mk ((by rw [hw]; exact below_set (HB.out) GB43.out : Below w.heap.size w w46)); clear HO_10; clear HB; have HO_10 := n0_; have HB := n1_; clear n0_ n1_; clear hg hw hp_)); try go_wp2_with (first | ((with_reducible refine gate_store (t := 3) (p := 97) rfl ?_); (try (rw [drewN_self wr]; generalize hq_ : World.drewN wr _ = wr; have n0_ := Aside0.mk (Kd.R_at hq_ HO_10.out); have n1_ := Aside0.mk (below_at hq_ HB.out); clear hq_ HO_10 HB; have HO_10 := n0_; have HB := n1_; clear n0_ n1_; (try (have HP45 := Kd.R_putg HO_10.out ((rd (rd_L4 l2 x37_2) x48_3) : Int) (wrap64 ((rd x10_3 (rd (rd_L4 l2 x37_2) x48_3)) + 1)))))); refine store_event (t := 3) (p := 97) (v := ?vo_w46) (w1 := (wr.setCell ⟨go43, ((rd (rd_L4 l2 x37_2) x48_3) : Int).toNat, none⟩ (.int .i64 (wrap64 ((rd x10_3 (rd (rd_L4 l2 x37_2) x48_3)) + 1))))) ?hg ?ho ?hn ?hr ?_; (case ho => rfl); (case hg => rfl); (case hn => rfl); (case hr => first | (go_simp; done) | (go_simp; rfl)); intro w46 hw; have hg : wr.grownBy w46 (some go43) := (by rw [hw]; exact HP45.2); have hp_ : Kd.R (Kd.int .i64) 3 w46 w.heap.size (fun _ => True) (.slice (some ⟨go43, 0, none⟩) x10_3.length co44) y324 := (by rw [hw, Ny324.out]; exact HP45.1); clear HP45; have n0_ := Aside0.mk (hp_); have n1_ := Aside0.mk ((by rw [hw]; exact below_set (HB.out) GB43.out : Below w.heap.size w w46)); clear HO_10; clear HB; have HO_10 := n0_; have HB := n1_; clear n0_ n1_; clear hg hw hp_)))
                          go_roundg k3
                          case measure => have := HK1.out; have := HK2.out; have := HK3.out; omega
                          case rel => exact ⟨(y324), (wrap64 (x48_3 + 1)), (by first | rfl | (simp; done) | (simp [*]; done)), H', ⟨by have := HK1.out; have := HK2.out; have := HK3.out; omega⟩, ⟨by (with_reducible repeat (first | apply Kd.R_alloc | apply Kd.R_drewN | apply Kd.R_drew)); exact HO_10.out⟩, ⟨by repeat (first | (with_reducible first | exact HB.out | apply below_alloc | apply pw_below_drewN | apply below_drew1) | exact HB.out)⟩⟩
                         ·rw [if_neg c42] at H
                          exact absurd H (by simp)
                      ·rw [if_neg c39] at H
                       exact absurd H (by simp)
                     ·rw [if_neg c38] at H
                      exact absurd H (by simp)
                 ·rw [if_neg c21] at H
                  exact absurd H (by simp)
                ·rw [if_neg c20] at H
                 exact absurd H (by simp)
               ·rw [if_neg c19] at H
                have c19b0 : decide (x48_3 < ((rd_L4 l2 x37_2).length : Int)) = false := decide_eq_false c19
                clear c19
                have H' := Aside0.mk H
                clear H
                go_wp2
                repeat (go_quiet (fail); try go_wp2)
                go_roundg k3
                case measure => have := HK1.out; have := HK2.out; have := HK3.out; omega
                case rel => exact ⟨(x10_3), (wrap64 (x37_2 + 1)), (by first | rfl | (simp; done) | (simp [*]; done)), H', ⟨by have := HK1.out; have := HK2.out; have := HK3.out; omega⟩, ⟨by (with_reducible repeat (first | apply Kd.R_alloc | apply Kd.R_drewN | apply Kd.R_drew)); exact HO_10.out⟩, ⟨by repeat (first | (with_reducible first | exact HB.out | apply below_alloc | apply pw_below_drewN | apply below_drew1) | exact HB.out)⟩⟩
           ·rw [if_neg c17] at H
            exact absurd H (by simp)
          ·rw [if_neg c16] at H
           exact absurd H (by simp)
         ·rw [if_neg c15] at H
          have c15b0 : decide (x37_2 < (l2.length : Int)) = false := decide_eq_false c15
          clear c15
          have H' := Aside0.mk H
          clear H
          go_wp2
          repeat (go_quiet (fail); try go_wp2)
          go_loopg [102] k2 (fun kq v102 w' => ∃ (x102_3 : Int), v102 = .int .i64 x102_3 ∧ Aside0 (ontimelaw47_schedules.l3 kq x10_2 l0 (l0.length : Int) x102_3 = some r) ∧ Aside0 (kq ≤ k2) ∧ Aside0 (Kd.R (Kd.int .i64) 3 w' w.heap.size (fun _ => True) v312 x10_2) ∧ Aside0 (Below w.heap.size w w'))
          case atStart => exact ⟨(0), (by first | rfl | (simp; done) | (simp [*]; done)), H', ⟨Nat.le_refl _⟩, ⟨by (with_reducible repeat (first | apply Kd.R_alloc | apply Kd.R_drewN | apply Kd.R_drew)); exact HO_10.out⟩, ⟨by repeat (first | (with_reducible first | exact HB.out | apply below_alloc | apply pw_below_drewN | apply below_drew1) | exact HB.out)⟩⟩
          case round =>
           clear H'
           try clear c1
           try clear c2
           try clear p2
           try clear c3
           try clear p3
           try clear q3
           try clear hx3
           try clear hf3
           try clear c4
           try clear c4b0
           try clear p4
           try clear q4
           try clear hx4
           try clear hf4
           try clear c5
           try clear c5b0
           try clear c6
           try clear c6b0
           try clear p6
           try clear c10
           try clear c10b0
           try clear c10b1
           try clear c11
           try clear c11b0
           try clear c11b1
           try clear c12
           try clear c12b0
           try clear c12b1
           try clear c15
           try clear c15b0
           try clear c16
           try clear c16b0
           try clear c17
           try clear c17b0
           try clear c18
           try clear c18b0
           try clear c19
           try clear c19b0
           try clear c20
           try clear c20b0
           try clear c21
           try clear c21b0
           try clear c22
           try clear c22b0
           try clear c23
           try clear c23b0
           try clear c24
           try clear c24b0
           try clear c26
           try clear c26b0
           try clear c27
           try clear c27b0
           try clear c28
           try clear c28b0
           try clear c29
           try clear c29b0
           try clear c30
           try clear c30b0
           try clear p30
           try clear q30
           try clear hx30
           try clear c31
           try clear c31b0
           try clear p31
           try clear q31
           try clear hx31
           try clear c32
           try clear c32b0
           try clear p32
           try clear q32
           try clear hx32
           try clear c33
           try clear c33b0
           try clear p34
           try clear q34
           try clear hx34
           try clear hf34
           try clear c38
           try clear c38b0
           try clear c39
           try clear c39b0
           try clear c40
           try clear c40b0
           try clear c41
           try clear c41b0
           try clear c42
           try clear c42b0
           try clear p43
           try clear q43
           try clear hx43
           try clear hf43
           try clear hcz9_0
           try clear hcz9_1
           try clear hcz9_2
           try clear hfz9_0
           try clear hfz9_1
           try clear hfz9_2
           try clear hx309_0
           try clear hx309_1
           try clear hx309_2
           try clear hx314_0
           try clear hx315_0
           try clear hx316_0
           try clear hx317_0
           try clear hx317_1
           try clear hx317_2
           try clear hx318_0
           try clear hx318_1
           try clear hx318_2
           try clear hx319_0
           try clear hx321_0
           try clear hx321_1
           try clear hx321_2
           try clear hx322_0
           try clear hx322_1
           try clear hx322_2
           try clear hx323_0
           try clear hx34_0
           try clear hx43_0
           try clear p2
           try clear p3
           try clear p309
           try clear p314
           try clear p315
           try clear p316
           try clear p317
           try clear p318
           try clear p319
           try clear p321
           try clear p322
           try clear p323
           try clear p34
           try clear p43
           try clear p6
           try clear q3
           try clear q309
           try clear q314
           try clear q315
           try clear q316
           try clear q317
           try clear q318
           try clear q319
           try clear q321
           try clear q322
           try clear q323
           try clear q34
           try clear q43
           obtain ⟨x102_3, rfl, HA, HK3, HO_10, HB⟩ := hrel
           cases gk with
           | zero => exact absurd HA.out (by simp [ontimelaw47_schedules.l3])
           | succ k3 =>
            have H := HA.out
            clear HA
            simp only [ontimelaw47_schedules.l3] at H
            by_cases c47 : x102_3 < (l0.length : Int)
            ·rw [if_pos c47] at H
             have c47b0 : decide (x102_3 < (l0.length : Int)) = true := decide_eq_true c47
             clear c47
             by_cases c48 : 0 ≤ x102_3
             ·rw [if_pos c48] at H
              have c48b0 : decide (0 ≤ x102_3) = true := decide_eq_true c48
              clear c48
              by_cases c49 : x102_3 < (l0.length : Int)
              ·rw [if_pos c49] at H
               have c49b0 : decide (x102_3 < (l0.length : Int)) = true := decide_eq_true c49
               clear c49
               by_cases c50 : x102_3 < (x10_2.length : Int)
               ·rw [if_pos c50] at H
                have c50b0 : decide (x102_3 < (x10_2.length : Int)) = true := decide_eq_true c50
                clear c50
                by_cases c51 : (rd x10_2 x102_3) = ((rd_T83 l0 x102_3).f2)
                ·rw [if_pos c51] at H
                 have c51b0 : ((rd x10_2 x102_3) == ((rd_T83 l0 x102_3).f2)) = true := beq_iff_eq.mpr c51
                 have c51b1 : ((rd x10_2 x102_3) != ((rd_T83 l0 x102_3).f2)) = false := bne_eq_false_iff_eq.mpr c51
                 clear c51
                 have H' := Aside0.mk H
                 clear H
                 have p325 : 0 ≤ (x102_3 : Int) := of_decide_eq_true (by first | (with_reducible assumption) | assumption)
                 have q325 : x102_3 < (l0.length : Int) := of_decide_eq_true (by first | (with_reducible assumption) | assumption)
                 obtain ⟨ad325, e325, hx325_0, hx325_1, hx325_2⟩ := at_T83 HR0.out x102_3 p325 q325
                 cases e325
                 replace hx325_0 := (HB.out.cell (World.block_lt_of_cell? w _ hx325_0)).trans hx325_0
                 replace hx325_1 := (HB.out.cell (World.block_lt_of_cell? w _ hx325_1)).trans hx325_1
                 replace hx325_2 := (HB.out.cell (World.block_lt_of_cell? w _ hx325_2)).trans hx325_2
                 replace p325 := eq_true p325
                 replace q325 := eq_true q325
                 go_wp2_with (first | ((with_reducible refine gate_dst (N := 16) rfl ?_); (try (refine gate_guard (by rfl) ?_; dsimp only)); refine box_event ?hg (N := 16) ?hd (cs := #[.int .i64 0, .int .i64 0, .int .i64 0]) (t := 83) ?hr ?_; (case hd => rfl); (case hg => rfl); (case hr => first | (go_simp; done) | (go_simp; rfl)); intro gb326 hg w52 hbox hb; have n0_ := Aside0.mk (Kd.R_below (by (with_reducible repeat (first | apply Kd.R_alloc | apply Kd.R_drewN | apply Kd.R_drew)); exact HO_10.out) hb); have n1_ := Aside0.mk (below_step (by repeat (first | (with_reducible first | exact HB.out | apply below_alloc | apply pw_below_drewN | apply below_drew1) | exact HB.out)) hb); have n2_ := Aside0.mk (hbox); have n3_ := Aside0.mk ((by rw [hg]; exact (below_size (by repeat (first | (with_reducible first | exact HB.out | apply below_alloc | apply pw_below_drewN | apply below_drew1) | exact HB.out))) : w.heap.size ≤ gb326)); have n4_ := Aside0.mk ((by rw [hg]; exact (below_size (by repeat (first | (with_reducible first | exact HB.out | apply below_alloc | apply pw_below_drewN | apply below_drew1) | exact HB.out))) : w.heap.size ≤ gb326)); clear HO_10; clear HB; have HO_10 := n0_; have HB := n1_; have BK326 := n2_; have GW326 := n3_; have GE326 := n4_; clear n0_ n1_ n2_ n3_ n4_; clear hb hbox hg; have hcz53_0 : w52.cell? ⟨gb326, 0, none⟩ = some (.int .i64 0) := (blk_cell BK326.out 0).trans rfl; have hcz53_1 : w52.cell? ⟨gb326, 1, none⟩ = some (.int .i64 0) := (blk_cell BK326.out 1).trans rfl; have hcz53_2 : w52.cell? ⟨gb326, 2, none⟩ = some (.int .i64 0) := (blk_cell BK326.out 2).trans rfl; have hfz53_0 := blk_frozen BK326.out 0; have hfz53_1 := blk_frozen BK326.out 1; have hfz53_2 := blk_frozen BK326.out 2; obtain ⟨Ao54, co54, eo54⟩ := Kd.R_slice HO_10.out; subst eo54; have p327 : 0 ≤ (x102_3 : Int) := of_decide_eq_true (by first | (with_reducible assumption) | assumption); have q327 : x102_3 < (x10_2.length : Int) := of_decide_eq_true (by first | (with_reducible assumption) | assumption); obtain ⟨ad327, e327, hx327_0⟩ := Kd.at_int (Kd.R_reads' HO_10.out).2.2 x102_3 p327 q327; cases e327; have hn327_0 : ad327.block ≠ gb326 := Kd.own_blk (Kd.R_ne HO_10.out BK326.out (by decide)); have hn327_1 : ad327.block ≠ gb326 := Kd.own_blk (Kd.R_ne HO_10.out BK326.out (by decide)); have hn327_2 : ad327.block ≠ gb326 := Kd.own_blk (Kd.R_ne HO_10.out BK326.out (by decide)); replace hx327_0 := (cell_far (p := ⟨gb326, 0, none⟩) (by first | (rw [add_block]; exact hn327_0) | (show (Addr.add _ _).block ≠ _; rw [add_block]; exact hn327_0) | exact hn327_0) (.int .i64 ((rd_T83 l0 x102_3).f0))).trans hx327_0; replace hx327_0 := (cell_far (p := ⟨gb326, 1, none⟩) (by first | (rw [add_block]; exact hn327_1) | (show (Addr.add _ _).block ≠ _; rw [add_block]; exact hn327_1) | exact hn327_1) (.int .i64 ((rd_T83 l0 x102_3).f1))).trans hx327_0; replace hx327_0 := (cell_far (p := ⟨gb326, 2, none⟩) (by first | (rw [add_block]; exact hn327_2) | (show (Addr.add _ _).block ≠ _; rw [add_block]; exact hn327_2) | exact hn327_2) (.int .i64 ((rd_T83 l0 x102_3).f2))).trans hx327_0; (try have hy327_0 := fun (n_ : Nat) => (show (((((w52.drewN n_).setCell ⟨gb326, 0, none⟩ (.int .i64 ((rd_T83 l0 x102_3).f0))).setCell ⟨gb326, 1, none⟩ (.int .i64 ((rd_T83 l0 x102_3).f1))).setCell ⟨gb326, 2, none⟩ (.int .i64 ((rd_T83 l0 x102_3).f2)))).cell? _ = some _ from hx327_0)); clear hn327_0; clear hn327_1; clear hn327_2; replace p327 := eq_true p327; replace q327 := eq_true q327))
                 repeat (go_quiet (first | ((with_reducible refine gate_dst (N := 16) rfl ?_); (try (refine gate_guard (by rfl) ?_; dsimp only)); refine box_event ?hg (N := 16) ?hd (cs := #[.int .i64 0, .int .i64 0, .int .i64 0]) (t := 83) ?hr ?_; (case hd => rfl); (case hg => rfl); (case hr => first | (go_simp; done) | (go_simp; rfl)); intro gb326 hg w52 hbox hb; have n0_ := Aside0.mk (Kd.R_below (by (with_reducible repeat (first | apply Kd.R_alloc | apply Kd.R_drewN | apply Kd.R_drew)); exact HO_10.out) hb); have n1_ := Aside0.mk (below_step (by repeat (first | (with_reducible first | exact HB.out | apply below_alloc | apply pw_below_drewN | apply below_drew1) | exact HB.out)) hb); have n2_ := Aside0.mk (hbox); have n3_ := Aside0.mk ((by rw [hg]; exact (below_size (by repeat (first | (with_reducible first | exact HB.out | apply below_alloc | apply pw_below_drewN | apply below_drew1) | exact HB.out))) : w.heap.size ≤ gb326)); have n4_ := Aside0.mk ((by rw [hg]; exact (below_size (by repeat (first | (with_reducible first | exact HB.out | apply below_alloc | apply pw_below_drewN | apply below_drew1) | exact HB.out))) : w.heap.size ≤ gb326)); clear HO_10; clear HB; have HO_10 := n0_; have HB := n1_; have BK326 := n2_; have GW326 := n3_; have GE326 := n4_; clear n0_ n1_ n2_ n3_ n4_; clear hb hbox hg; have hcz53_0 : w52.cell? ⟨gb326, 0, none⟩ = some (.int .i64 0) := (blk_cell BK326.out 0).trans rfl; have hcz53_1 : w52.cell? ⟨gb326, 1, none⟩ = some (.int .i64 0) := (blk_cell BK326.out 1).trans rfl; have hcz53_2 : w52.cell? ⟨gb326, 2, none⟩ = some (.int .i64 0) := (blk_cell BK326.out 2).trans rfl; have hfz53_0 := blk_frozen BK326.out 0; have hfz53_1 := blk_frozen BK326.out 1; have hfz53_2 := blk_frozen BK326.out 2; obtain ⟨Ao54, co54, eo54⟩ := Kd.R_slice HO_10.out; subst eo54; have p327 : 0 ≤ (x102_3 : Int) := of_decide_eq_true (by first | (with_reducible assumption) | assumption); have q327 : x102_3 < (x10_2.length : Int) := of_decide_eq_true (by first | (with_reducible assumption) | assumption); obtain ⟨ad327, e327, hx327_0⟩ := Kd.at_int (Kd.R_reads' HO_10.out).2.2 x102_3 p327 q327; cases e327; have hn327_0 : ad327.block ≠ gb326 := Kd.own_blk (Kd.R_ne HO_10.out BK326.out (by decide)); have hn327_1 : ad327.block ≠ gb326 := Kd.own_blk (Kd.R_ne HO_10.out BK326.out (by decide)); have hn327_2 : ad327.block ≠ gb326 := Kd.own_blk (Kd.R_ne HO_10.out BK326.out (by decide)); replace hx327_0 := (cell_far (p := ⟨gb326, 0, none⟩) (by first | (rw [add_block]; exact hn327_0) | (show (Addr.add _ _).block ≠ _; rw [add_block]; exact hn327_0) | exact hn327_0) (.int .i64 ((rd_T83 l0 x102_3).f0))).trans hx327_0; replace hx327_0 := (cell_far (p := ⟨gb326, 1, none⟩) (by first | (rw [add_block]; exact hn327_1) | (show (Addr.add _ _).block ≠ _; rw [add_block]; exact hn327_1) | exact hn327_1) (.int .i64 ((rd_T83 l0 x102_3).f1))).trans hx327_0; replace hx327_0 := (cell_far (p := ⟨gb326, 2, none⟩) (by first | (rw [add_block]; exact hn327_2) | (show (Addr.add _ _).block ≠ _; rw [add_block]; exact hn327_2) | exact hn327_2) (.int .i64 ((rd_T83 l0 x102_3).f2))).trans hx327_0; (try have hy327_0 := fun (n_ : Nat) => (show (((((w52.drewN n_).setCell ⟨gb326, 0, none⟩ (.int .i64 ((rd_T83 l0 x102_3).f0))).setCell ⟨gb326, 1, none⟩ (.int .i64 ((rd_T83 l0 x102_3).f1))).setCell ⟨gb326, 2, none⟩ (.int .i64 ((rd_T83 l0 x102_3).f2)))).cell? _ = some _ from hx327_0)); clear hn327_0; clear hn327_1; clear hn327_2; replace p327 := eq_true p327; replace q327 := eq_true q327)); try go_wp2_with (first | ((with_reducible refine gate_dst (N := 16) rfl ?_); (try (refine gate_guard (by rfl) ?_; dsimp only)); refine box_event ?hg (N := 16) ?hd (cs := #[.int .i64 0, .int .i64 0, .int .i64 0]) (t := 83) ?hr ?_; (case hd => rfl); (case hg => rfl); (case hr => first | (go_simp; done) | (go_simp; rfl)); intro gb326 hg w52 hbox hb; have n0_ := Aside0.mk (Kd.R_below (by (with_reducible repeat (first | apply Kd.R_alloc | apply Kd.R_drewN | apply Kd.R_drew)); exact HO_10.out) hb); have n1_ := Aside0.mk (below_step (by repeat (first | (with_reducible first | exact HB.out | apply below_alloc | apply pw_below_drewN | apply below_drew1) | exact HB.out)) hb); have n2_ := Aside0.mk (hbox); have n3_ := Aside0.mk ((by rw [hg]; exact (below_size (by repeat (first | (with_reducible first | exact HB.out | apply below_alloc | apply pw_below_drewN | apply below_drew1) | exact HB.out))) : w.heap.size ≤ gb326)); have n4_ := Aside0.mk ((by rw [hg]; exact (below_size (by repeat (first | (with_reducible first | exact HB.out | apply below_alloc | apply pw_below_drewN | apply below_drew1) | exact HB.out))) : w.heap.size ≤ gb326)); clear HO_10; clear HB; have HO_10 := n0_; have HB := n1_; have BK326 := n2_; have GW326 := n3_; have GE326 := n4_; clear n0_ n1_ n2_ n3_ n4_; clear hb hbox hg; have hcz53_0 : w52.cell? ⟨gb326, 0, none⟩ = some (.int .i64 0) := (blk_cell BK326.out 0).trans rfl; have hcz53_1 : w52.cell? ⟨gb326, 1, none⟩ = some (.int .i64 0) := (blk_cell BK326.out 1).trans rfl; have hcz53_2 : w52.cell? ⟨gb326, 2, none⟩ = some (.int .i64 0) := (blk_cell BK326.out 2).trans rfl; have hfz53_0 := blk_frozen BK326.out 0; have hfz53_1 := blk_frozen BK326.out 1; have hfz53_2 := blk_frozen BK326.out 2; obtain ⟨Ao54, co54, eo54⟩ := Kd.R_slice HO_10.out; subst eo54; have p327 : 0 ≤ (x102_3 : Int) := of_decide_eq_true (by first | (with_reducible assumption) | assumption); have q327 : x102_3 < (x10_2.length : Int) := of_decide_eq_true (by first | (with_reducible assumption) | assumption); obtain ⟨ad327, e327, hx327_0⟩ := Kd.at_int (Kd.R_reads' HO_10.out).2.2 x102_3 p327 q327; cases e327; have hn327_0 : ad327.block ≠ gb326 := Kd.own_blk (Kd.R_ne HO_10.out BK326.out (by decide)); have hn327_1 : ad327.block ≠ gb326 := Kd.own_blk (Kd.R_ne HO_10.out BK326.out (by decide)); have hn327_2 : ad327.block ≠ gb326 := Kd.own_blk (Kd.R_ne HO_10.out BK326.out (by decide)); replace hx327_0 := (cell_far (p := ⟨gb326, 0, none⟩) (by first | (rw [add_block]; exact hn327_0) | (show (Addr.add _ _).block ≠ _; rw [add_block]; exact hn327_0) | exact hn327_0) (.int .i64 ((rd_T83 l0 x102_3).f0))).trans hx327_0; replace hx327_0 := (cell_far (p := ⟨gb326, 1, none⟩) (by first | (rw [add_block]; exact hn327_1) | (show (Addr.add _ _).block ≠ _; rw [add_block]; exact hn327_1) | exact hn327_1) (.int .i64 ((rd_T83 l0 x102_3).f1))).trans hx327_0; replace hx327_0 := (cell_far (p := ⟨gb326, 2, none⟩) (by first | (rw [add_block]; exact hn327_2) | (show (Addr.add _ _).block ≠ _; rw [add_block]; exact hn327_2) | exact hn327_2) (.int .i64 ((rd_T83 l0 x102_3).f2))).trans hx327_0; (try have hy327_0 := fun (n_ : Nat) => (show (((((w52.drewN n_).setCell ⟨gb326, 0, none⟩ (.int .i64 ((rd_T83 l0 x102_3).f0))).setCell ⟨gb326, 1, none⟩ (.int .i64 ((rd_T83 l0 x102_3).f1))).setCell ⟨gb326, 2, none⟩ (.int .i64 ((rd_T83 l0 x102_3).f2)))).cell? _ = some _ from hx327_0)); clear hn327_0; clear hn327_1; clear hn327_2; replace p327 := eq_true p327; replace q327 := eq_true q327)))
                 go_roundg k3
                 case measure => have := HK1.out; have := HK2.out; have := HK3.out; omega
                 case rel => exact ⟨(wrap64 (x102_3 + 1)), (by first | rfl | (simp; done) | (simp [*]; done)), H', ⟨by have := HK1.out; have := HK2.out; have := HK3.out; omega⟩, ⟨by (with_reducible repeat (first | apply Kd.R_alloc | apply Kd.R_drewN | apply Kd.R_drew)); exact Kd.R_mono (Kd.R_far (p := ⟨gb326, 2, none⟩) (Kd.R_far (p := ⟨gb326, 1, none⟩) (Kd.R_far (p := ⟨gb326, 0, none⟩) (Kd.R_types HO_10.out BK326.out (by decide)) (fun _ hk => hk.2) (.int .i64 ((rd_T83 l0 x102_3).f0))) (fun _ hk => hk.2) (.int .i64 ((rd_T83 l0 x102_3).f1))) (fun _ hk => hk.2) (.int .i64 ((rd_T83 l0 x102_3).f2))) (fun _ hk => trivial)⟩, ⟨by repeat (first | (with_reducible first | exact HB.out | apply below_alloc | apply pw_below_drewN | apply below_drew1 | refine below_set ?_ GE326.out) | exact HB.out)⟩⟩
                ·rw [if_neg c51] at H
                 have c51b0 : ((rd x10_2 x102_3) == ((rd_T83 l0 x102_3).f2)) = false := beq_eq_false_iff_ne.mpr c51
                 have c51b1 : ((rd x10_2 x102_3) != ((rd_T83 l0 x102_3).f2)) = true := bne_iff_ne.mpr c51
                 obtain rfl := Option.some.inj H
                 have p325 : 0 ≤ (x102_3 : Int) := of_decide_eq_true (by first | (with_reducible assumption) | assumption)
                 have q325 : x102_3 < (l0.length : Int) := of_decide_eq_true (by first | (with_reducible assumption) | assumption)
                 obtain ⟨ad325, e325, hx325_0, hx325_1, hx325_2⟩ := at_T83 HR0.out x102_3 p325 q325
                 cases e325
                 replace hx325_0 := (HB.out.cell (World.block_lt_of_cell? w _ hx325_0)).trans hx325_0
                 replace hx325_1 := (HB.out.cell (World.block_lt_of_cell? w _ hx325_1)).trans hx325_1
                 replace hx325_2 := (HB.out.cell (World.block_lt_of_cell? w _ hx325_2)).trans hx325_2
                 replace p325 := eq_true p325
                 replace q325 := eq_true q325
                 go_wp2_with (first | ((with_reducible refine gate_dst (N := 16) rfl ?_); (try (refine gate_guard (by rfl) ?_; dsimp only)); refine box_event ?hg (N := 16) ?hd (cs := #[.int .i64 0, .int .i64 0, .int .i64 0]) (t := 83) ?hr ?_; (case hd => rfl); (case hg => rfl); (case hr => first | (go_simp; done) | (go_simp; rfl)); intro gb326 hg w55 hbox hb; have n0_ := Aside0.mk (Kd.R_below (by (with_reducible repeat (first | apply Kd.R_alloc | apply Kd.R_drewN | apply Kd.R_drew)); exact HO_10.out) hb); have n1_ := Aside0.mk (below_step (by repeat (first | (with_reducible first | exact HB.out | apply below_alloc | apply pw_below_drewN | apply below_drew1) | exact HB.out)) hb); have n2_ := Aside0.mk (hbox); have n3_ := Aside0.mk ((by rw [hg]; exact (below_size (by repeat (first | (with_reducible first | exact HB.out | apply below_alloc | apply pw_below_drewN | apply below_drew1) | exact HB.out))) : w.heap.size ≤ gb326)); have n4_ := Aside0.mk ((by rw [hg]; exact (below_size (by repeat (first | (with_reducible first | exact HB.out | apply below_alloc | apply pw_below_drewN | apply below_drew1) | exact HB.out))) : w.heap.size ≤ gb326)); clear HO_10; clear HB; have HO_10 := n0_; have HB := n1_; have BK326 := n2_; have GW326 := n3_; have GE326 := n4_; clear n0_ n1_ n2_ n3_ n4_; clear hb hbox hg; have hcz56_0 : w55.cell? ⟨gb326, 0, none⟩ = some (.int .i64 0) := (blk_cell BK326.out 0).trans rfl; have hcz56_1 : w55.cell? ⟨gb326, 1, none⟩ = some (.int .i64 0) := (blk_cell BK326.out 1).trans rfl; have hcz56_2 : w55.cell? ⟨gb326, 2, none⟩ = some (.int .i64 0) := (blk_cell BK326.out 2).trans rfl; have hfz56_0 := blk_frozen BK326.out 0; have hfz56_1 := blk_frozen BK326.out 1; have hfz56_2 := blk_frozen BK326.out 2; obtain ⟨Ao57, co57, eo57⟩ := Kd.R_slice HO_10.out; subst eo57; have p327 : 0 ≤ (x102_3 : Int) := of_decide_eq_true (by first | (with_reducible assumption) | assumption); have q327 : x102_3 < (x10_2.length : Int) := of_decide_eq_true (by first | (with_reducible assumption) | assumption); obtain ⟨ad327, e327, hx327_0⟩ := Kd.at_int (Kd.R_reads' HO_10.out).2.2 x102_3 p327 q327; cases e327; have hn327_0 : ad327.block ≠ gb326 := Kd.own_blk (Kd.R_ne HO_10.out BK326.out (by decide)); have hn327_1 : ad327.block ≠ gb326 := Kd.own_blk (Kd.R_ne HO_10.out BK326.out (by decide)); have hn327_2 : ad327.block ≠ gb326 := Kd.own_blk (Kd.R_ne HO_10.out BK326.out (by decide)); replace hx327_0 := (cell_far (p := ⟨gb326, 0, none⟩) (by first | (rw [add_block]; exact hn327_0) | (show (Addr.add _ _).block ≠ _; rw [add_block]; exact hn327_0) | exact hn327_0) (.int .i64 ((rd_T83 l0 x102_3).f0))).trans hx327_0; replace hx327_0 := (cell_far (p := ⟨gb326, 1, none⟩) (by first | (rw [add_block]; exact hn327_1) | (show (Addr.add _ _).block ≠ _; rw [add_block]; exact hn327_1) | exact hn327_1) (.int .i64 ((rd_T83 l0 x102_3).f1))).trans hx327_0; replace hx327_0 := (cell_far (p := ⟨gb326, 2, none⟩) (by first | (rw [add_block]; exact hn327_2) | (show (Addr.add _ _).block ≠ _; rw [add_block]; exact hn327_2) | exact hn327_2) (.int .i64 ((rd_T83 l0 x102_3).f2))).trans hx327_0; (try have hy327_0 := fun (n_ : Nat) => (show (((((w55.drewN n_).setCell ⟨gb326, 0, none⟩ (.int .i64 ((rd_T83 l0 x102_3).f0))).setCell ⟨gb326, 1, none⟩ (.int .i64 ((rd_T83 l0 x102_3).f1))).setCell ⟨gb326, 2, none⟩ (.int .i64 ((rd_T83 l0 x102_3).f2)))).cell? _ = some _ from hx327_0)); clear hn327_0; clear hn327_1; clear hn327_2; replace p327 := eq_true p327; replace q327 := eq_true q327))
                 repeat (go_quiet (first | ((with_reducible refine gate_dst (N := 16) rfl ?_); (try (refine gate_guard (by rfl) ?_; dsimp only)); refine box_event ?hg (N := 16) ?hd (cs := #[.int .i64 0, .int .i64 0, .int .i64 0]) (t := 83) ?hr ?_; (case hd => rfl); (case hg => rfl); (case hr => first | (go_simp; done) | (go_simp; rfl)); intro gb326 hg w55 hbox hb; have n0_ := Aside0.mk (Kd.R_below (by (with_reducible repeat (first | apply Kd.R_alloc | apply Kd.R_drewN | apply Kd.R_drew)); exact HO_10.out) hb); have n1_ := Aside0.mk (below_step (by repeat (first | (with_reducible first | exact HB.out | apply below_alloc | apply pw_below_drewN | apply below_drew1) | exact HB.out)) hb); have n2_ := Aside0.mk (hbox); have n3_ := Aside0.mk ((by rw [hg]; exact (below_size (by repeat (first | (with_reducible first | exact HB.out | apply below_alloc | apply pw_below_drewN | apply below_drew1) | exact HB.out))) : w.heap.size ≤ gb326)); have n4_ := Aside0.mk ((by rw [hg]; exact (below_size (by repeat (first | (with_reducible first | exact HB.out | apply below_alloc | apply pw_below_drewN | apply below_drew1) | exact HB.out))) : w.heap.size ≤ gb326)); clear HO_10; clear HB; have HO_10 := n0_; have HB := n1_; have BK326 := n2_; have GW326 := n3_; have GE326 := n4_; clear n0_ n1_ n2_ n3_ n4_; clear hb hbox hg; have hcz56_0 : w55.cell? ⟨gb326, 0, none⟩ = some (.int .i64 0) := (blk_cell BK326.out 0).trans rfl; have hcz56_1 : w55.cell? ⟨gb326, 1, none⟩ = some (.int .i64 0) := (blk_cell BK326.out 1).trans rfl; have hcz56_2 : w55.cell? ⟨gb326, 2, none⟩ = some (.int .i64 0) := (blk_cell BK326.out 2).trans rfl; have hfz56_0 := blk_frozen BK326.out 0; have hfz56_1 := blk_frozen BK326.out 1; have hfz56_2 := blk_frozen BK326.out 2; obtain ⟨Ao57, co57, eo57⟩ := Kd.R_slice HO_10.out; subst eo57; have p327 : 0 ≤ (x102_3 : Int) := of_decide_eq_true (by first | (with_reducible assumption) | assumption); have q327 : x102_3 < (x10_2.length : Int) := of_decide_eq_true (by first | (with_reducible assumption) | assumption); obtain ⟨ad327, e327, hx327_0⟩ := Kd.at_int (Kd.R_reads' HO_10.out).2.2 x102_3 p327 q327; cases e327; have hn327_0 : ad327.block ≠ gb326 := Kd.own_blk (Kd.R_ne HO_10.out BK326.out (by decide)); have hn327_1 : ad327.block ≠ gb326 := Kd.own_blk (Kd.R_ne HO_10.out BK326.out (by decide)); have hn327_2 : ad327.block ≠ gb326 := Kd.own_blk (Kd.R_ne HO_10.out BK326.out (by decide)); replace hx327_0 := (cell_far (p := ⟨gb326, 0, none⟩) (by first | (rw [add_block]; exact hn327_0) | (show (Addr.add _ _).block ≠ _; rw [add_block]; exact hn327_0) | exact hn327_0) (.int .i64 ((rd_T83 l0 x102_3).f0))).trans hx327_0; replace hx327_0 := (cell_far (p := ⟨gb326, 1, none⟩) (by first | (rw [add_block]; exact hn327_1) | (show (Addr.add _ _).block ≠ _; rw [add_block]; exact hn327_1) | exact hn327_1) (.int .i64 ((rd_T83 l0 x102_3).f1))).trans hx327_0; replace hx327_0 := (cell_far (p := ⟨gb326, 2, none⟩) (by first | (rw [add_block]; exact hn327_2) | (show (Addr.add _ _).block ≠ _; rw [add_block]; exact hn327_2) | exact hn327_2) (.int .i64 ((rd_T83 l0 x102_3).f2))).trans hx327_0; (try have hy327_0 := fun (n_ : Nat) => (show (((((w55.drewN n_).setCell ⟨gb326, 0, none⟩ (.int .i64 ((rd_T83 l0 x102_3).f0))).setCell ⟨gb326, 1, none⟩ (.int .i64 ((rd_T83 l0 x102_3).f1))).setCell ⟨gb326, 2, none⟩ (.int .i64 ((rd_T83 l0 x102_3).f2)))).cell? _ = some _ from hx327_0)); clear hn327_0; clear hn327_1; clear hn327_2; replace p327 := eq_true p327; replace q327 := eq_true q327)); try go_wp2_with (first | ((with_reducible refine gate_dst (N := 16) rfl ?_); (try (refine gate_guard (by rfl) ?_; dsimp only)); refine box_event ?hg (N := 16) ?hd (cs := #[.int .i64 0, .int .i64 0, .int .i64 0]) (t := 83) ?hr ?_; (case hd => rfl); (case hg => rfl); (case hr => first | (go_simp; done) | (go_simp; rfl)); intro gb326 hg w55 hbox hb; have n0_ := Aside0.mk (Kd.R_below (by (with_reducible repeat (first | apply Kd.R_alloc | apply Kd.R_drewN | apply Kd.R_drew)); exact HO_10.out) hb); have n1_ := Aside0.mk (below_step (by repeat (first | (with_reducible first | exact HB.out | apply below_alloc | apply pw_below_drewN | apply below_drew1) | exact HB.out)) hb); have n2_ := Aside0.mk (hbox); have n3_ := Aside0.mk ((by rw [hg]; exact (below_size (by repeat (first | (with_reducible first | exact HB.out | apply below_alloc | apply pw_below_drewN | apply below_drew1) | exact HB.out))) : w.heap.size ≤ gb326)); have n4_ := Aside0.mk ((by rw [hg]; exact (below_size (by repeat (first | (with_reducible first | exact HB.out | apply below_alloc | apply pw_below_drewN | apply below_drew1) | exact HB.out))) : w.heap.size ≤ gb326)); clear HO_10; clear HB; have HO_10 := n0_; have HB := n1_; have BK326 := n2_; have GW326 := n3_; have GE326 := n4_; clear n0_ n1_ n2_ n3_ n4_; clear hb hbox hg; have hcz56_0 : w55.cell? ⟨gb326, 0, none⟩ = some (.int .i64 0) := (blk_cell BK326.out 0).trans rfl; have hcz56_1 : w55.cell? ⟨gb326, 1, none⟩ = some (.int .i64 0) := (blk_cell BK326.out 1).trans rfl; have hcz56_2 : w55.cell? ⟨gb326, 2, none⟩ = some (.int .i64 0) := (blk_cell BK326.out 2).trans rfl; have hfz56_0 := blk_frozen BK326.out 0; have hfz56_1 := blk_frozen BK326.out 1; have hfz56_2 := blk_frozen BK326.out 2; obtain ⟨Ao57, co57, eo57⟩ := Kd.R_slice HO_10.out; subst eo57; have p327 : 0 ≤ (x102_3 : Int) := of_decide_eq_true (by first | (with_reducible assumption) | assumption); have q327 : x102_3 < (x10_2.length : Int) := of_decide_eq_true (by first | (with_reducible assumption) | assumption); obtain ⟨ad327, e327, hx327_0⟩ := Kd.at_int (Kd.R_reads' HO_10.out).2.2 x102_3 p327 q327; cases e327; have hn327_0 : ad327.block ≠ gb326 := Kd.own_blk (Kd.R_ne HO_10.out BK326.out (by decide)); have hn327_1 : ad327.block ≠ gb326 := Kd.own_blk (Kd.R_ne HO_10.out BK326.out (by decide)); have hn327_2 : ad327.block ≠ gb326 := Kd.own_blk (Kd.R_ne HO_10.out BK326.out (by decide)); replace hx327_0 := (cell_far (p := ⟨gb326, 0, none⟩) (by first | (rw [add_block]; exact hn327_0) | (show (Addr.add _ _).block ≠ _; rw [add_block]; exact hn327_0) | exact hn327_0) (.int .i64 ((rd_T83 l0 x102_3).f0))).trans hx327_0; replace hx327_0 := (cell_far (p := ⟨gb326, 1, none⟩) (by first | (rw [add_block]; exact hn327_1) | (show (Addr.add _ _).block ≠ _; rw [add_block]; exact hn327_1) | exact hn327_1) (.int .i64 ((rd_T83 l0 x102_3).f1))).trans hx327_0; replace hx327_0 := (cell_far (p := ⟨gb326, 2, none⟩) (by first | (rw [add_block]; exact hn327_2) | (show (Addr.add _ _).block ≠ _; rw [add_block]; exact hn327_2) | exact hn327_2) (.int .i64 ((rd_T83 l0 x102_3).f2))).trans hx327_0; (try have hy327_0 := fun (n_ : Nat) => (show (((((w55.drewN n_).setCell ⟨gb326, 0, none⟩ (.int .i64 ((rd_T83 l0 x102_3).f0))).setCell ⟨gb326, 1, none⟩ (.int .i64 ((rd_T83 l0 x102_3).f1))).setCell ⟨gb326, 2, none⟩ (.int .i64 ((rd_T83 l0 x102_3).f2)))).cell? _ = some _ from hx327_0)); clear hn327_0; clear hn327_1; clear hn327_2; replace p327 := eq_true p327; replace q327 := eq_true q327)))
                 go_ret
                 exact ⟨by first | rfl | (simp [errW_none, errW_some] <;> rfl) | (simp [*, errW_none, errW_some] <;> rfl), by repeat (first | (with_reducible first | exact HB.out | apply below_alloc | apply pw_below_drewN | apply below_drew1 | refine below_set ?_ GE326.out) | exact HB.out)⟩
               ·rw [if_neg c50] at H
                exact absurd H (by simp)
              ·rw [if_neg c49] at H
               exact absurd H (by simp)
             ·rw [if_neg c48] at H
              exact absurd H (by simp)
            ·rw [if_neg c47] at H
             have c47b0 : decide (x102_3 < (l0.length : Int)) = false := decide_eq_false c47
             clear c47
             obtain rfl := Option.some.inj H
             go_wp2
             repeat (go_quiet (fail); try go_wp2)
             go_ret
             exact ⟨by first | rfl | (simp [errW_none, errW_some] <;> rfl) | (simp [*, errW_none, errW_some] <;> rfl), by repeat (first | (with_reducible first | exact HB.out | apply below_alloc | apply pw_below_drewN | apply below_drew1) | exact HB.out)⟩
      ·rw [if_neg c12] at H
       exact absurd H (by simp)
     ·rw [if_neg c11] at H
      exact absurd H (by simp)
    ·rw [if_neg c10] at H
     have c10b0 : ((l2.length : Int) == x7_1) = false := beq_eq_false_iff_ne.mpr c10
     have c10b1 : ((l2.length : Int) != x7_1) = true := bne_iff_ne.mpr c10
     obtain rfl := Option.some.inj H
     go_wp2
     repeat (go_quiet (fail); try go_wp2)
     go_ret
     exact ⟨by first | rfl | (simp [errW_none, errW_some] <;> rfl) | (simp [*, errW_none, errW_some] <;> rfl), by repeat (first | (with_reducible first | exact HB.out | apply below_alloc | apply pw_below_drewN | apply below_drew1) | exact HB.out)⟩

end Go.Proofs.Ythdjhgidccmlfaa.P
