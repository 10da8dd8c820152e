/- Written by xprint.py: functions, proofs of contracts. -/
import Derived.Test.YthdjhgidccmlfaaPx0
import Derived.Test.YthdjhgidccmlfaaXMaximize
namespace Go.Proofs.Ythdjhgidccmlfaa.P
open Go.RowKit Go.Proofs.YthdjhgidccmlfaaW.PrintWords Go.Proofs.YthdjhgidccmlfaaW.PrintLast Go.Proofs.YthdjhgidccmlfaaW.PrintMore
attribute [local go_sem] max2_int min2_int max_two min_two max_three min_three max_four min_four   -- for this text's walks alone
set_option linter.unusedVariables false
set_option linter.unusedSimpArgs false

theorem pos_of_idx {a : Int} {n : Nat} (h0 : 0 ≤ a) (h1 : a < (n : Int)) : 0 < n := by omega
/-! ### flow_assign: function 70 -/
mutual
def flow_assign.l0 : Nat → List (S83) → Int → List (S83) → Int → Int → Int → Int → Int → Int → Option (Int × Int × Int × Int × (List (List Int)))
 | 0, _, _, _, _, _, _, _, _, _ => none
 | k + 1, x0, x1, x18, x19, x20, x133000, x133001, x133002, x133003 => if x20 < x19 then (if 0 ≤ x20 then (if x20 < (x18.length : Int) then (flow_assign.l0 k x0 x1 x18 x19 (wrap64 (x20 + 1)) x133000 (mx x133001 ((rd_T83 x18 x20).f1)) (wrap64 (x133002 + ((rd_T83 x18 x20).f2))) x133003) else (none)) else (none)) else (if 0 ≤ (wrap64 ((wrap64 (2 + x133000)) + x133001)) then (if (wrap64 ((wrap64 (2 + x133000)) + x133001) : Int).toNat ≤ 11728124029610 then ((some (List.replicate (wrap64 ((wrap64 (2 + x133000)) + x133001) : Int).toNat [] : List (List Int))).bind fun y135 => (flow_assign.l1 k x0 x1 (wrap64 ((wrap64 (2 + x133000)) + x133001)) y135 (y135.length : Int) 0 x133000 x133001 x133002 x133003)) else (none)) else (none))
def flow_assign.l1 : Nat → List (S83) → Int → Int → List (List Int) → Int → Int → Int → Int → Int → Int → Option (Int × Int × Int × Int × (List (List Int)))
 | 0, _, _, _, _, _, _, _, _, _, _ => none
 | k + 1, x0, x1, x8, x9, x46, x47, x133000, x133001, x133002, x133003 => if x47 < x46 then (if 0 ≤ x8 then (if (x8 : Int).toNat ≤ 35184372088832 then (if 0 ≤ x47 then (if x47 < (x9.length : Int) then (flow_assign.l1 k x0 x1 x8 (x9.set (x47 : Int).toNat (List.replicate (x8 : Int).toNat 0)) x46 (wrap64 (x47 + 1)) x133000 x133001 x133002 x133003) else (none)) else (none)) else (none)) else (none)) else (flow_assign.l2 k x1 x8 x9 x0 (x0.length : Int) 0 x133000 x133001 x133002 x133003)
def flow_assign.l2 : Nat → Int → Int → List (List Int) → List (S83) → Int → Int → Int → Int → Int → Int → Option (Int × Int × Int × Int × (List (List Int)))
 | 0, _, _, _, _, _, _, _, _, _, _ => none
 | k + 1, x1, x8, x9, x56, x57, x58, x133000, x133001, x133002, x133003 => if x58 < x57 then (if 0 ≤ x58 then (if x58 < (x56.length : Int) then (if 0 < (x9.length : Int) then (if 0 ≤ (wrap64 (1 + x58)) then (if (wrap64 (1 + x58)) < ((rd_L4 x9 0).length : Int) then (flow_assign.l3 k x1 x8 (x9.set (0 : Int).toNat ((rd_L4 x9 0).set ((wrap64 (1 + x58)) : Int).toNat ((rd_T83 x56 x58).f2))) x58 ((rd_T83 x56 x58).f0) x56 x57 x58 x133000 x133001 x133002 x133003 ((rd_T83 x56 x58).f0) ((rd_T83 x56 x58).f1) ((rd_T83 x56 x58).f2)) else (none)) else (none)) else (none)) else (none)) else (none)) else (flow_assign.l4 k x1 x8 x9 x133001 0 x133000 x133001 x133002 x133003)
def flow_assign.l3 : Nat → Int → Int → List (List Int) → Int → Int → List (S83) → Int → Int → Int → Int → Int → Int → Int → Int → Int → Option (Int × Int × Int × Int × (List (List Int)))
 | 0, _, _, _, _, _, _, _, _, _, _, _, _, _, _, _ => none
 | k + 1, x1, x8, x9, x11, x13, x56, x57, x58, x133000, x133001, x133002, x133003, x144000, x144001, x144002 => if x13 < x144001 then (if 0 ≤ (wrap64 (1 + x11)) then (if (wrap64 (1 + x11)) < (x9.length : Int) then (if 0 ≤ (wrap64 ((wrap64 (1 + x133000)) + x13)) then (if (wrap64 ((wrap64 (1 + x133000)) + x13)) < ((rd_L4 x9 (wrap64 (1 + x11))).length : Int) then (flow_assign.l3 k x1 x8 (x9.set ((wrap64 (1 + x11)) : Int).toNat ((rd_L4 x9 (wrap64 (1 + x11))).set ((wrap64 ((wrap64 (1 + x133000)) + x13)) : Int).toNat 1)) x11 (wrap64 (x13 + 1)) x56 x57 x58 x133000 x133001 x133002 x133003 x144000 x144001 x144002) else (none)) else (none)) else (none)) else (none)) else (flow_assign.l2 k x1 x8 x9 x56 x57 (wrap64 (x58 + 1)) x133000 x133001 x133002 x133003)
def flow_assign.l4 : Nat → Int → Int → List (List Int) → Int → Int → Int → Int → Int → Int → Option (Int × Int × Int × Int × (List (List Int)))
 | 0, _, _, _, _, _, _, _, _, _ => none
 | k + 1, x1, x8, x9, x92, x93, x133000, x133001, x133002, x133003 => if x93 < x92 then (if 0 ≤ (wrap64 ((wrap64 (1 + x133000)) + x93)) then (if (wrap64 ((wrap64 (1 + x133000)) + x93)) < (x9.length : Int) then (if 0 ≤ (wrap64 (x8 - 1)) then (if (wrap64 (x8 - 1)) < ((rd_L4 x9 (wrap64 ((wrap64 (1 + x133000)) + x93))).length : Int) then (flow_assign.l4 k x1 x8 (x9.set ((wrap64 ((wrap64 (1 + x133000)) + x93)) : Int).toNat ((rd_L4 x9 (wrap64 ((wrap64 (1 + x133000)) + x93))).set ((wrap64 (x8 - 1)) : Int).toNat x1)) x92 (wrap64 (x93 + 1)) x133000 x133001 x133002 x133003) else (none)) else (none)) else (none)) else (none)) else ((flow_maximize.f k x9 0 (wrap64 (x8 - 1))).bind fun bt156 => (some (x133000, x133001, x133002, bt156.1, bt156.2)))
end
def flow_assign.f (k : Nat) (l0 : List (S83)) (a1 : Int) : Option (Int × Int × Int × Int × (List (List Int))) := flow_assign.l0 k l0 a1 l0 (l0.length : Int) 0 (l0.length : Int) 0 0 0
theorem flow_assign.mono_l : ∀ k, (∀ y0 y1 y2 y3 y4 y5 y6 y7 y8, LeO (flow_assign.l0 k y0 y1 y2 y3 y4 y5 y6 y7 y8) (flow_assign.l0 (k + 1) y0 y1 y2 y3 y4 y5 y6 y7 y8)) ∧ (∀ y0 y1 y2 y3 y4 y5 y6 y7 y8 y9, LeO (flow_assign.l1 k y0 y1 y2 y3 y4 y5 y6 y7 y8 y9) (flow_assign.l1 (k + 1) y0 y1 y2 y3 y4 y5 y6 y7 y8 y9)) ∧ (∀ y0 y1 y2 y3 y4 y5 y6 y7 y8 y9, LeO (flow_assign.l2 k y0 y1 y2 y3 y4 y5 y6 y7 y8 y9) (flow_assign.l2 (k + 1) y0 y1 y2 y3 y4 y5 y6 y7 y8 y9)) ∧ (∀ y0 y1 y2 y3 y4 y5 y6 y7 y8 y9 y10 y11 y12 y13 y14, LeO (flow_assign.l3 k y0 y1 y2 y3 y4 y5 y6 y7 y8 y9 y10 y11 y12 y13 y14) (flow_assign.l3 (k + 1) y0 y1 y2 y3 y4 y5 y6 y7 y8 y9 y10 y11 y12 y13 y14)) ∧ (∀ y0 y1 y2 y3 y4 y5 y6 y7 y8, LeO (flow_assign.l4 k y0 y1 y2 y3 y4 y5 y6 y7 y8) (flow_assign.l4 (k + 1) y0 y1 y2 y3 y4 y5 y6 y7 y8))
 | 0 => ⟨fun _ _ _ _ _ _ _ _ _ r h => by simp [flow_assign.l0] at h, fun _ _ _ _ _ _ _ _ _ _ r h => by simp [flow_assign.l1] at h, fun _ _ _ _ _ _ _ _ _ _ r h => by simp [flow_assign.l2] at h, fun _ _ _ _ _ _ _ _ _ _ _ _ _ _ _ r h => by simp [flow_assign.l3] at h, fun _ _ _ _ _ _ _ _ _ r h => by simp [flow_assign.l4] at h⟩
 | k + 1 => by
  obtain ⟨ih0, ih1, ih2, ih3, ih4⟩ := flow_assign.mono_l k
  refine ⟨?_, ?_, ?_, ?_, ?_⟩
  ·intro y0 y1 y2 y3 y4 y5 y6 y7 y8
   unfold flow_assign.l0
   repeat' first
   | (with_reducible exact ih0 _ _ _ _ _ _ _ _ _)
   | (with_reducible exact ih1 _ _ _ _ _ _ _ _ _ _)
   | (with_reducible exact ih2 _ _ _ _ _ _ _ _ _ _)
   | (with_reducible exact ih3 _ _ _ _ _ _ _ _ _ _ _ _ _ _ _)
   | (with_reducible exact ih4 _ _ _ _ _ _ _ _ _)
   | (with_reducible exact flow_maximize.mono _ _ _ _)
   | (with_reducible exact LeO.refl _)
   | (with_reducible exact LeO.none _)
   | (with_reducible refine LeO.ite ?_ ?_)
   | (with_reducible refine LeO.bind ?_ (fun _ => ?_))
   | exact ih0 _ _ _ _ _ _ _ _ _
   | exact ih1 _ _ _ _ _ _ _ _ _ _
   | exact ih2 _ _ _ _ _ _ _ _ _ _
   | exact ih3 _ _ _ _ _ _ _ _ _ _ _ _ _ _ _
   | exact ih4 _ _ _ _ _ _ _ _ _
   | exact flow_maximize.mono _ _ _ _
   | exact LeO.none _
   | refine LeO.ite ?_ ?_
   | refine LeO.bind ?_ (fun _ => ?_)
  ·intro y0 y1 y2 y3 y4 y5 y6 y7 y8 y9
   unfold flow_assign.l1
   repeat' first
   | (with_reducible exact ih0 _ _ _ _ _ _ _ _ _)
   | (with_reducible exact ih1 _ _ _ _ _ _ _ _ _ _)
   | (with_reducible exact ih2 _ _ _ _ _ _ _ _ _ _)
   | (with_reducible exact ih3 _ _ _ _ _ _ _ _ _ _ _ _ _ _ _)
   | (with_reducible exact ih4 _ _ _ _ _ _ _ _ _)
   | (with_reducible exact flow_maximize.mono _ _ _ _)
   | (with_reducible exact LeO.refl _)
   | (with_reducible exact LeO.none _)
   | (with_reducible refine LeO.ite ?_ ?_)
   | (with_reducible refine LeO.bind ?_ (fun _ => ?_))
   | exact ih0 _ _ _ _ _ _ _ _ _
   | exact ih1 _ _ _ _ _ _ _ _ _ _
   | exact ih2 _ _ _ _ _ _ _ _ _ _
   | exact ih3 _ _ _ _ _ _ _ _ _ _ _ _ _ _ _
   | exact ih4 _ _ _ _ _ _ _ _ _
   | exact flow_maximize.mono _ _ _ _
   | exact LeO.none _
   | refine LeO.ite ?_ ?_
   | refine LeO.bind ?_ (fun _ => ?_)
  ·intro y0 y1 y2 y3 y4 y5 y6 y7 y8 y9
   unfold flow_assign.l2
   repeat' first
   | (with_reducible exact ih0 _ _ _ _ _ _ _ _ _)
   | (with_reducible exact ih1 _ _ _ _ _ _ _ _ _ _)
   | (with_reducible exact ih2 _ _ _ _ _ _ _ _ _ _)
   | (with_reducible exact ih3 _ _ _ _ _ _ _ _ _ _ _ _ _ _ _)
   | (with_reducible exact ih4 _ _ _ _ _ _ _ _ _)
   | (with_reducible exact flow_maximize.mono _ _ _ _)
   | (with_reducible exact LeO.refl _)
   | (with_reducible exact LeO.none _)
   | (with_reducible refine LeO.ite ?_ ?_)
   | (with_reducible refine LeO.bind ?_ (fun _ => ?_))
   | exact ih0 _ _ _ _ _ _ _ _ _
   | exact ih1 _ _ _ _ _ _ _ _ _ _
   | exact ih2 _ _ _ _ _ _ _ _ _ _
   | exact ih3 _ _ _ _ _ _ _ _ _ _ _ _ _ _ _
   | exact ih4 _ _ _ _ _ _ _ _ _
   | exact flow_maximize.mono _ _ _ _
   | exact LeO.none _
   | refine LeO.ite ?_ ?_
   | refine LeO.bind ?_ (fun _ => ?_)
  ·intro y0 y1 y2 y3 y4 y5 y6 y7 y8 y9 y10 y11 y12 y13 y14
   unfold flow_assign.l3
   repeat' first
   | (with_reducible exact ih0 _ _ _ _ _ _ _ _ _)
   | (with_reducible exact ih1 _ _ _ _ _ _ _ _ _ _)
   | (with_reducible exact ih2 _ _ _ _ _ _ _ _ _ _)
   | (with_reducible exact ih3 _ _ _ _ _ _ _ _ _ _ _ _ _ _ _)
   | (with_reducible exact ih4 _ _ _ _ _ _ _ _ _)
   | (with_reducible exact flow_maximize.mono _ _ _ _)
   | (with_reducible exact LeO.refl _)
   | (with_reducible exact LeO.none _)
   | (with_reducible refine LeO.ite ?_ ?_)
   | (with_reducible refine LeO.bind ?_ (fun _ => ?_))
   | exact ih0 _ _ _ _ _ _ _ _ _
   | exact ih1 _ _ _ _ _ _ _ _ _ _
   | exact ih2 _ _ _ _ _ _ _ _ _ _
   | exact ih3 _ _ _ _ _ _ _ _ _ _ _ _ _ _ _
   | exact ih4 _ _ _ _ _ _ _ _ _
   | exact flow_maximize.mono _ _ _ _
   | exact LeO.none _
   | refine LeO.ite ?_ ?_
   | refine LeO.bind ?_ (fun _ => ?_)
  ·intro y0 y1 y2 y3 y4 y5 y6 y7 y8
   unfold flow_assign.l4
   repeat' first
   | (with_reducible exact ih0 _ _ _ _ _ _ _ _ _)
   | (with_reducible exact ih1 _ _ _ _ _ _ _ _ _ _)
   | (with_reducible exact ih2 _ _ _ _ _ _ _ _ _ _)
   | (with_reducible exact ih3 _ _ _ _ _ _ _ _ _ _ _ _ _ _ _)
   | (with_reducible exact ih4 _ _ _ _ _ _ _ _ _)
   | (with_reducible exact flow_maximize.mono _ _ _ _)
   | (with_reducible exact LeO.refl _)
   | (with_reducible exact LeO.none _)
   | (with_reducible refine LeO.ite ?_ ?_)
   | (with_reducible refine LeO.bind ?_ (fun _ => ?_))
   | exact ih0 _ _ _ _ _ _ _ _ _
   | exact ih1 _ _ _ _ _ _ _ _ _ _
   | exact ih2 _ _ _ _ _ _ _ _ _ _
   | exact ih3 _ _ _ _ _ _ _ _ _ _ _ _ _ _ _
   | exact ih4 _ _ _ _ _ _ _ _ _
   | exact flow_maximize.mono _ _ _ _
   | exact LeO.none _
   | refine LeO.ite ?_ ?_
   | refine LeO.bind ?_ (fun _ => ?_)
theorem flow_assign.mono : ∀ a0 a1 k, LeO (flow_assign.f k a0 a1) (flow_assign.f (k + 1) a0 a1) := by
 intro a0 a1 k
 obtain ⟨ih0, ih1, ih2, ih3, ih4⟩ := flow_assign.mono_l k
 unfold flow_assign.f
 repeat' first
   | (with_reducible exact ih0 _ _ _ _ _ _ _ _ _)
   | (with_reducible exact ih1 _ _ _ _ _ _ _ _ _ _)
   | (with_reducible exact ih2 _ _ _ _ _ _ _ _ _ _)
   | (with_reducible exact ih3 _ _ _ _ _ _ _ _ _ _ _ _ _ _ _)
   | (with_reducible exact ih4 _ _ _ _ _ _ _ _ _)
   | (with_reducible exact flow_maximize.mono _ _ _ _)
   | (with_reducible exact LeO.refl _)
   | (with_reducible exact LeO.none _)
   | (with_reducible refine LeO.ite ?_ ?_)
   | (with_reducible refine LeO.bind ?_ (fun _ => ?_))
   | exact ih0 _ _ _ _ _ _ _ _ _
   | exact ih1 _ _ _ _ _ _ _ _ _ _
   | exact ih2 _ _ _ _ _ _ _ _ _ _
   | exact ih3 _ _ _ _ _ _ _ _ _ _ _ _ _ _ _
   | exact ih4 _ _ _ _ _ _ _ _ _
   | exact flow_maximize.mono _ _ _ _
   | exact LeO.none _
   | refine LeO.ite ?_ ?_
   | refine LeO.bind ?_ (fun _ => ?_)
def flow_assign.T18 : Bool × List (List Nat × List Nat) := (true, [([], []), ([0], [0]), ([1], [1]), ([], []), ([3], [3]), ([], []), ([5], [5]), ([2, 4, 0, 1, 2, 3, 4, 5, 6], [2, 4]), ([7, 6, 0, 1, 2, 3, 4, 5, 6], [6, 7])])
def flow_assign.B18 : List Nat := [0, 1, 3, 0, 8, 0, 32, 127, 255]
theorem flow_assign.tab18 : rtab .any (opsOf Try.f70 18) = flow_assign.T18 := by kernel_rfl
theorem flow_assign.bits18 : waitsOk flow_assign.T18.2 flow_assign.B18 = true := by kernel_rfl
def flow_assign.T22 : Bool × List (List Nat × List Nat) := (true, [([], []), ([], []), ([1], [1]), ([0, 2], [0, 2]), ([3], [3]), ([], []), ([5], [5]), ([6], [6]), ([], []), ([7, 8], [7, 8]), ([4, 9, 0, 1, 2, 3, 4, 5, 6, 7, 8, 9], [4, 9]), ([10, 0, 1, 2, 3, 4, 5, 6, 7, 8, 9], [10])])
def flow_assign.B22 : List Nat := [0, 0, 2, 7, 15, 0, 32, 96, 0, 480, 1023, 2047]
theorem flow_assign.tab22 : rtab .any (opsOf Try.f70 22) = flow_assign.T22 := by kernel_rfl
theorem flow_assign.bits22 : waitsOk flow_assign.T22.2 flow_assign.B22 = true := by kernel_rfl
set_option maxHeartbeats 8000000 in
set_option maxRecDepth 100000 in
theorem flow_assign.calls (k : Nat) (A0 : Option Addr) (c0 : Nat) (l0 : List (S83)) (a1 : Int) (r1 : Int) (r2 : Int) (r3 : Int) (r4 : Int) (r5 : List (List Int)) (w : World) (hr0 : Kd.C k83 w A0 l0.length l0) (hc0 : l0.length ≤ c0) (h : flow_assign.f k l0 a1 = some (r1, r2, r3, r4, r5)) :
  Calls Try.prog 70 #[.slice A0 l0.length c0, .int .i64 a1] w fun e w' => ∃ v4_ : Value, e = .returned (.agg #[.int .i64 r1, .int .i64 r2, .int .i64 r3, .int .i64 r4, v4_]) ∧ Kd.S (Kd.slice 3 (Kd.int .i64)) 55 w' w.heap.size (fun _ => True) v4_ r5 ∧ Below w.heap.size w w' := by
 have hu107 := Try.underlying107
 have hu83 := Try.underlying83
 have HR0 := Aside0.mk hr0
 have HC0 := Aside0.mk hc0
 clear hr0 hc0
 have HB := Aside0.mk (Below.refl w.heap.size w)
 have H : (flow_assign.l0 k l0 a1 l0 (l0.length : Int) 0 (l0.length : Int) 0 0 0) = some (r1, r2, r3, r4, r5) := h
 clear h
 have H' := Aside0.mk H
 clear H
 go_enter Try.func70, Try.ntmps70
 go_wp2_with (first | ((with_reducible refine gate_dst (N := 4) rfl ?_); refine box_event ?hg (N := 4) ?hd (cs := #[.int .i64 0, .int .i64 0, .int .i64 0, .int .i64 0, .slice none 0 0]) (t := 107) ?hr ?_; (case hd => rfl); (case hg => rfl); (case hr => first | (go_simp; done) | (go_simp; rfl)); intro gb131 hg w3 hbox hb; have n0_ := Aside0.mk (below_step (by repeat (first | (with_reducible first | exact HB.out | apply below_alloc | apply pw_below_drewN | apply below_drew1) | exact HB.out)) hb); have n1_ := Aside0.mk (hbox); have n2_ := Aside0.mk ((by rw [hg]; exact (below_size (by repeat (first | (with_reducible first | exact HB.out | apply below_alloc | apply pw_below_drewN | apply below_drew1) | exact HB.out))) : w.heap.size ≤ gb131)); have n3_ := Aside0.mk ((by rw [hg]; exact (below_size (by repeat (first | (with_reducible first | exact HB.out | apply below_alloc | apply pw_below_drewN | apply below_drew1) | exact HB.out))) : w.heap.size ≤ gb131)); clear HB; have HB := n0_; have BK131 := n1_; have GW131 := n2_; have GE131 := n3_; clear n0_ n1_ n2_ n3_; clear hb hbox hg) | ((with_reducible refine gate_dst (N := 5) rfl ?_); refine box_event ?hg (N := 5) ?hd (cs := #[.int .i64 0, .int .i64 0, .int .i64 0, .int .i64 0, .slice none 0 0]) (t := 107) ?hr ?_; (case hd => rfl); (case hg => rfl); (case hr => first | (go_simp; done) | (go_simp; rfl)); intro gb132 hg w4 hbox hb; have n0_ := Aside0.mk (blk_below (g := gb131) (o := .cells #[.int .i64 0, .int .i64 0, .int .i64 0, .int .i64 0, .slice none 0 0] 107 (0, 0)) (by (with_reducible repeat (first | refine blk_drewN ?_ _ | refine blk_drew ?_ | refine blk_alloc ?_ _)); exact BK131.out) hb); have n1_ := Aside0.mk (below_step (by repeat (first | (with_reducible first | exact HB.out | apply below_alloc | apply pw_below_drewN | apply below_drew1 | refine below_set ?_ GE131.out) | exact HB.out)) hb); have n2_ := Aside0.mk (hbox); have n3_ := Aside0.mk ((by rw [hg]; exact (below_size (by repeat (first | (with_reducible first | exact HB.out | apply below_alloc | apply pw_below_drewN | apply below_drew1 | refine below_set ?_ GE131.out) | exact HB.out))) : w.heap.size ≤ gb132)); have n4_ := Aside0.mk ((by rw [hg]; exact (below_size (by repeat (first | (with_reducible first | exact HB.out | apply below_alloc | apply pw_below_drewN | apply below_drew1 | refine below_set ?_ GE131.out) | exact HB.out))) : w.heap.size ≤ gb132)); have n5_ := Aside0.mk ((by rw [hg]; exact Nat.ne_of_lt (blk_lt (g := gb131) (o := .cells #[.int .i64 0, .int .i64 0, .int .i64 0, .int .i64 0, .slice none 0 0] 107 (0, 0)) (by (with_reducible repeat (first | refine blk_drewN ?_ _ | refine blk_drew ?_ | refine blk_alloc ?_ _)); exact BK131.out)) : gb131 ≠ gb132)); have n6_ := Aside0.mk ((by rw [hg]; exact Nat.ne_of_gt (blk_lt (g := gb131) (o := .cells #[.int .i64 0, .int .i64 0, .int .i64 0, .int .i64 0, .slice none 0 0] 107 (0, 0)) (by (with_reducible repeat (first | refine blk_drewN ?_ _ | refine blk_drew ?_ | refine blk_alloc ?_ _)); exact BK131.out)) : gb132 ≠ gb131)); clear BK131; clear HB; have BK131 := n0_; have HB := n1_; have BK132 := n2_; have GW132 := n3_; have GE132 := n4_; have NB131_132 := n5_; have NB132_131 := n6_; clear n0_ n1_ n2_ n3_ n4_ n5_ n6_; clear hb hbox hg; have hnb5 := NB132_131.out; have hnc5 := NB131_132.out; have hcz6_0 : w4.cell? ⟨gb132, 0, none⟩ = some (.int .i64 0) := (blk_cell BK132.out 0).trans rfl; have hcz6_1 : w4.cell? ⟨gb132, 1, none⟩ = some (.int .i64 0) := (blk_cell BK132.out 1).trans rfl; have hcz6_2 : w4.cell? ⟨gb132, 2, none⟩ = some (.int .i64 0) := (blk_cell BK132.out 2).trans rfl; have hcz6_3 : w4.cell? ⟨gb132, 3, none⟩ = some (.int .i64 0) := (blk_cell BK132.out 3).trans rfl; have hcz6_4 : w4.cell? ⟨gb132, 4, none⟩ = some (.slice none 0 0) := (blk_cell BK132.out 4).trans rfl; have hfz6_0 := blk_frozen BK132.out 0; have hfz6_1 := blk_frozen BK132.out 1; have hfz6_2 := blk_frozen BK132.out 2; have hfz6_3 := blk_frozen BK132.out 3; have hfz6_4 := blk_frozen BK132.out 4))
 go_loopg [20] k (fun kq v20 w' => ∃ (x20_1 : Int) (x133001_1 : Int) (x133002_1 : Int), v20 = .int .i64 x20_1 ∧ Aside0 (flow_assign.l0 kq l0 a1 l0 (l0.length : Int) x20_1 (l0.length : Int) x133001_1 x133002_1 0 = some (r1, r2, r3, r4, r5)) ∧ Aside0 (kq ≤ k) ∧ Aside0 (w'.heap[gb131]? = some (.cells #[.int .i64 0, .int .i64 0, .int .i64 0, .int .i64 0, (.slice none 0 0)] 107 (0, 0))) ∧ Aside0 (w'.heap[gb132]? = some (.cells #[.int .i64 (l0.length : Int), .int .i64 x133001_1, .int .i64 x133002_1, .int .i64 0, (.slice none 0 0)] 107 (0, 0))) ∧ Aside0 (Below w.heap.size w w'))
 case atStart => exact ⟨(0), (0), (0), (by first | rfl | (simp; done) | (simp [*]; done)), H', ⟨Nat.le_refl _⟩, ⟨by (with_reducible repeat (first | refine blk_drewN ?_ _ | refine blk_drew ?_ | refine blk_alloc ?_ _)); refine blk_far ?_ NB131_132.out _; (with_reducible repeat (first | refine blk_drewN ?_ _ | refine blk_drew ?_ | refine blk_alloc ?_ _)); refine blk_far ?_ NB131_132.out _; (with_reducible repeat (first | refine blk_drewN ?_ _ | refine blk_drew ?_ | refine blk_alloc ?_ _)); refine blk_far ?_ NB131_132.out _; (with_reducible repeat (first | refine blk_drewN ?_ _ | refine blk_drew ?_ | refine blk_alloc ?_ _)); refine blk_far ?_ NB131_132.out _; (with_reducible repeat (first | refine blk_drewN ?_ _ | refine blk_drew ?_ | refine blk_alloc ?_ _)); refine blk_far ?_ NB131_132.out _; (with_reducible repeat (first | refine blk_drewN ?_ _ | refine blk_drew ?_ | refine blk_alloc ?_ _)); exact BK131.out⟩, ⟨by (with_reducible repeat (first | refine blk_drewN ?_ _ | refine blk_drew ?_ | refine blk_alloc ?_ _)); refine blk_put (cs := #[.int .i64 (l0.length : Int), .int .i64 0, .int .i64 0, .int .i64 0, .slice none 0 0]) ?_ 4 _ rfl; (with_reducible repeat (first | refine blk_drewN ?_ _ | refine blk_drew ?_ | refine blk_alloc ?_ _)); refine blk_put (cs := #[.int .i64 (l0.length : Int), .int .i64 0, .int .i64 0, .int .i64 0, .slice none 0 0]) ?_ 3 _ rfl; (with_reducible repeat (first | refine blk_drewN ?_ _ | refine blk_drew ?_ | refine blk_alloc ?_ _)); refine blk_put (cs := #[.int .i64 (l0.length : Int), .int .i64 0, .int .i64 0, .int .i64 0, .slice none 0 0]) ?_ 2 _ rfl; (with_reducible repeat (first | refine blk_drewN ?_ _ | refine blk_drew ?_ | refine blk_alloc ?_ _)); refine blk_put (cs := #[.int .i64 (l0.length : Int), .int .i64 0, .int .i64 0, .int .i64 0, .slice none 0 0]) ?_ 1 _ rfl; (with_reducible repeat (first | refine blk_drewN ?_ _ | refine blk_drew ?_ | refine blk_alloc ?_ _)); refine blk_put (cs := #[.int .i64 0, .int .i64 0, .int .i64 0, .int .i64 0, .slice none 0 0]) ?_ 0 _ rfl; (with_reducible repeat (first | refine blk_drewN ?_ _ | refine blk_drew ?_ | refine blk_alloc ?_ _)); exact BK132.out⟩, ⟨by repeat (first | (with_reducible first | exact HB.out | apply below_alloc | apply pw_below_drewN | apply below_drew1 | refine below_set ?_ GE131.out | refine below_set ?_ GE132.out) | exact HB.out)⟩⟩
 case round =>
  clear H'
  try clear p2
  try clear c5
  try clear hcz6_0
  try clear hcz6_1
  try clear hcz6_2
  try clear hcz6_3
  try clear hcz6_4
  try clear hfz6_0
  try clear hfz6_1
  try clear hfz6_2
  try clear hfz6_3
  try clear hfz6_4
  obtain ⟨x20_1, x133001_1, x133002_1, rfl, HA, HK1, BK131, BK132, HB⟩ := hrel
  cases gk with
  | zero => exact absurd HA.out (by simp [flow_assign.l0])
  | succ k1 =>
   have H := HA.out
   clear HA
   simp only [flow_assign.l0] at H
   by_cases c7 : x20_1 < (l0.length : Int)
   ·rw [if_pos c7] at H
    have c7b0 : decide (x20_1 < (l0.length : Int)) = true := decide_eq_true c7
    clear c7
    by_cases c8 : 0 ≤ x20_1
    ·rw [if_pos c8] at H
     have c8b0 : decide (0 ≤ x20_1) = true := decide_eq_true c8
     clear c8
     by_cases c9 : x20_1 < (l0.length : Int)
     ·rw [if_pos c9] at H
      have c9b0 : decide (x20_1 < (l0.length : Int)) = true := decide_eq_true c9
      clear c9
      obtain ⟨ji10, hji10⟩ : ∃ j_ : Int, (mx x133001_1 ((rd_T83 l0 x20_1).f1)) = j_ := ⟨_, rfl⟩
      replace H : (flow_assign.l0 k1 l0 a1 l0 (l0.length : Int) (wrap64 (x20_1 + 1)) (l0.length : Int) ji10 (wrap64 (x133002_1 + ((rd_T83 l0 x20_1).f2))) 0) = some (r1, r2, r3, r4, r5) := by first | (rw [hji10] at H; exact H) | (simp only [hji10] at H ⊢; exact H)
      have hji10_ : (if x133001_1 < ((rd_T83 l0 x20_1).f1) then ((rd_T83 l0 x20_1).f1) else x133001_1) = ji10 := hji10
      have H' := Aside0.mk H
      clear H
      have p133 : 0 ≤ (x20_1 : Int) := of_decide_eq_true (by first | (with_reducible assumption) | assumption)
      have q133 : x20_1 < (l0.length : Int) := of_decide_eq_true (by first | (with_reducible assumption) | assumption)
      obtain ⟨ad133, e133, hx133_0, hx133_1, hx133_2⟩ := at_T83 HR0.out x20_1 p133 q133
      cases e133
      replace hx133_0 := (HB.out.cell (World.block_lt_of_cell? w _ hx133_0)).trans hx133_0
      replace hx133_1 := (HB.out.cell (World.block_lt_of_cell? w _ hx133_1)).trans hx133_1
      replace hx133_2 := (HB.out.cell (World.block_lt_of_cell? w _ hx133_2)).trans hx133_2
      replace p133 := eq_true p133
      replace q133 := eq_true q133
      go_wp2_with (first | ((with_reducible refine gate_dst (N := 7) rfl ?_); refine box_event ?hg (N := 7) ?hd (cs := #[.int .i64 0, .int .i64 0, .int .i64 0]) (t := 83) ?hr ?_; (case hd => rfl); (case hg => rfl); (case hr => first | (go_simp; done) | (go_simp; rfl)); intro gb134 hg w11 hbox hb; have n0_ := Aside0.mk (blk_below (g := gb131) (o := .cells #[.int .i64 0, .int .i64 0, .int .i64 0, .int .i64 0, .slice none 0 0] 107 (0, 0)) (by (with_reducible repeat (first | refine blk_drewN ?_ _ | refine blk_drew ?_ | refine blk_alloc ?_ _)); exact BK131.out) hb); have n1_ := Aside0.mk (blk_below (g := gb132) (o := .cells #[.int .i64 (l0.length : Int), .int .i64 x133001_1, .int .i64 x133002_1, .int .i64 0, .slice none 0 0] 107 (0, 0)) (by (with_reducible repeat (first | refine blk_drewN ?_ _ | refine blk_drew ?_ | refine blk_alloc ?_ _)); exact BK132.out) hb); have n2_ := Aside0.mk (below_step (by repeat (first | (with_reducible first | exact HB.out | apply below_alloc | apply pw_below_drewN | apply below_drew1 | refine below_set ?_ GE131.out | refine below_set ?_ GE132.out) | exact HB.out)) hb); have n3_ := Aside0.mk (hbox); have n4_ := Aside0.mk ((by rw [hg]; exact (below_size (by repeat (first | (with_reducible first | exact HB.out | apply below_alloc | apply pw_below_drewN | apply below_drew1 | refine below_set ?_ GE131.out | refine below_set ?_ GE132.out) | exact HB.out))) : w.heap.size ≤ gb134)); have n5_ := Aside0.mk ((by rw [hg]; exact (below_size (by repeat (first | (with_reducible first | exact HB.out | apply below_alloc | apply pw_below_drewN | apply below_drew1 | refine below_set ?_ GE131.out | refine below_set ?_ GE132.out) | exact HB.out))) : w.heap.size ≤ gb134)); have n6_ := Aside0.mk ((by rw [hg]; exact Nat.ne_of_lt (blk_lt (g := gb131) (o := .cells #[.int .i64 0, .int .i64 0, .int .i64 0, .int .i64 0, .slice none 0 0] 107 (0, 0)) (by (with_reducible repeat (first | refine blk_drewN ?_ _ | refine blk_drew ?_ | refine blk_alloc ?_ _)); exact BK131.out)) : gb131 ≠ gb134)); have n7_ := Aside0.mk ((by rw [hg]; exact Nat.ne_of_gt (blk_lt (g := gb131) (o := .cells #[.int .i64 0, .int .i64 0, .int .i64 0, .int .i64 0, .slice none 0 0] 107 (0, 0)) (by (with_reducible repeat (first | refine blk_drewN ?_ _ | refine blk_drew ?_ | refine blk_alloc ?_ _)); exact BK131.out)) : gb134 ≠ gb131)); have n8_ := Aside0.mk ((by rw [hg]; exact Nat.ne_of_lt (blk_lt (g := gb132) (o := .cells #[.int .i64 (l0.length : Int), .int .i64 x133001_1, .int .i64 x133002_1, .int .i64 0, .slice none 0 0] 107 (0, 0)) (by (with_reducible repeat (first | refine blk_drewN ?_ _ | refine blk_drew ?_ | refine blk_alloc ?_ _)); exact BK132.out)) : gb132 ≠ gb134)); have n9_ := Aside0.mk ((by rw [hg]; exact Nat.ne_of_gt (blk_lt (g := gb132) (o := .cells #[.int .i64 (l0.length : Int), .int .i64 x133001_1, .int .i64 x133002_1, .int .i64 0, .slice none 0 0] 107 (0, 0)) (by (with_reducible repeat (first | refine blk_drewN ?_ _ | refine blk_drew ?_ | refine blk_alloc ?_ _)); exact BK132.out)) : gb134 ≠ gb132)); clear BK131; clear BK132; clear HB; have BK131 := n0_; have BK132 := n1_; have HB := n2_; have BK134 := n3_; have GW134 := n4_; have GE134 := n5_; have NB131_134 := n6_; have NB134_131 := n7_; have NB132_134 := n8_; have NB134_132 := n9_; clear n0_ n1_ n2_ n3_ n4_ n5_ n6_ n7_ n8_ n9_; clear hb hbox hg; have hnb12 := NB134_131.out; have hnc12 := NB131_134.out; have hnb13 := NB134_132.out; have hnc13 := NB132_134.out; have hcz14_0 : w11.cell? ⟨gb134, 0, none⟩ = some (.int .i64 0) := (blk_cell BK134.out 0).trans rfl; have hcz14_1 : w11.cell? ⟨gb134, 1, none⟩ = some (.int .i64 0) := (blk_cell BK134.out 1).trans rfl; have hcz14_2 : w11.cell? ⟨gb134, 2, none⟩ = some (.int .i64 0) := (blk_cell BK134.out 2).trans rfl; have hfz14_0 := blk_frozen BK134.out 0; have hfz14_1 := blk_frozen BK134.out 1; have hfz14_2 := blk_frozen BK134.out 2; have hnb15 := NB132_131.out; have hnc15 := NB131_132.out; have hcz16_0 : w11.cell? ⟨gb132, 0, none⟩ = some (.int .i64 (l0.length : Int)) := (blk_cell BK132.out 0).trans rfl; have hcz16_1 : w11.cell? ⟨gb132, 1, none⟩ = some (.int .i64 x133001_1) := (blk_cell BK132.out 1).trans rfl; have hcz16_2 : w11.cell? ⟨gb132, 2, none⟩ = some (.int .i64 x133002_1) := (blk_cell BK132.out 2).trans rfl; have hcz16_3 : w11.cell? ⟨gb132, 3, none⟩ = some (.int .i64 0) := (blk_cell BK132.out 3).trans rfl; have hcz16_4 : w11.cell? ⟨gb132, 4, none⟩ = some (.slice none 0 0) := (blk_cell BK132.out 4).trans rfl; have hfz16_0 := blk_frozen BK132.out 0; have hfz16_1 := blk_frozen BK132.out 1; have hfz16_2 := blk_frozen BK132.out 2; have hfz16_3 := blk_frozen BK132.out 3; have hfz16_4 := blk_frozen BK132.out 4))
      go_roundg k1
      case measure => have := HK1.out; omega
      case rel => exact ⟨(wrap64 (x20_1 + 1)), (ji10), (wrap64 (x133002_1 + ((rd_T83 l0 x20_1).f2))), (by first | rfl | (simp; done) | (simp [*]; done)), H', ⟨by have := HK1.out; omega⟩, ⟨by (with_reducible repeat (first | refine blk_drewN ?_ _ | refine blk_drew ?_ | refine blk_alloc ?_ _)); refine blk_far ?_ NB131_132.out _; (with_reducible repeat (first | refine blk_drewN ?_ _ | refine blk_drew ?_ | refine blk_alloc ?_ _)); refine blk_far ?_ NB131_132.out _; (with_reducible repeat (first | refine blk_drewN ?_ _ | refine blk_drew ?_ | refine blk_alloc ?_ _)); refine blk_far ?_ NB131_134.out _; (with_reducible repeat (first | refine blk_drewN ?_ _ | refine blk_drew ?_ | refine blk_alloc ?_ _)); refine blk_far ?_ NB131_134.out _; (with_reducible repeat (first | refine blk_drewN ?_ _ | refine blk_drew ?_ | refine blk_alloc ?_ _)); refine blk_far ?_ NB131_134.out _; (with_reducible repeat (first | refine blk_drewN ?_ _ | refine blk_drew ?_ | refine blk_alloc ?_ _)); exact BK131.out⟩, ⟨by (with_reducible repeat (first | refine blk_drewN ?_ _ | refine blk_drew ?_ | refine blk_alloc ?_ _)); refine blk_put (cs := #[.int .i64 (l0.length : Int), .int .i64 ji10, .int .i64 x133002_1, .int .i64 0, .slice none 0 0]) ?_ 2 _ rfl; (with_reducible repeat (first | refine blk_drewN ?_ _ | refine blk_drew ?_ | refine blk_alloc ?_ _)); refine blk_put (cs := #[.int .i64 (l0.length : Int), .int .i64 x133001_1, .int .i64 x133002_1, .int .i64 0, .slice none 0 0]) ?_ 1 _ rfl; (with_reducible repeat (first | refine blk_drewN ?_ _ | refine blk_drew ?_ | refine blk_alloc ?_ _)); refine blk_far ?_ NB132_134.out _; (with_reducible repeat (first | refine blk_drewN ?_ _ | refine blk_drew ?_ | refine blk_alloc ?_ _)); refine blk_far ?_ NB132_134.out _; (with_reducible repeat (first | refine blk_drewN ?_ _ | refine blk_drew ?_ | refine blk_alloc ?_ _)); refine blk_far ?_ NB132_134.out _; (with_reducible repeat (first | refine blk_drewN ?_ _ | refine blk_drew ?_ | refine blk_alloc ?_ _)); exact BK132.out⟩, ⟨by repeat (first | (with_reducible first | exact HB.out | apply below_alloc | apply pw_below_drewN | apply below_drew1 | refine below_set ?_ GE131.out | refine below_set ?_ GE132.out | refine below_set ?_ GE134.out) | exact HB.out)⟩⟩
     ·rw [if_neg c9] at H
      exact absurd H (by simp)
    ·rw [if_neg c8] at H
     exact absurd H (by simp)
   ·rw [if_neg c7] at H
    have c7b0 : decide (x20_1 < (l0.length : Int)) = false := decide_eq_false c7
    clear c7
    obtain ⟨ji17, hji17⟩ : ∃ j_ : Int, (wrap64 ((wrap64 (2 + (l0.length : Int))) + x133001_1)) = j_ := ⟨_, rfl⟩
    replace H : (if 0 ≤ (ji17) then (if (ji17 : Int).toNat ≤ 11728124029610 then ((some (List.replicate (ji17 : Int).toNat [] : List (List Int))).bind fun y135 => (flow_assign.l1 k1 l0 a1 ji17 y135 (y135.length : Int) 0 (l0.length : Int) x133001_1 x133002_1 0)) else (none)) else (none)) = some (r1, r2, r3, r4, r5) := by first | (rw [hji17] at H; exact H) | (simp only [hji17] at H ⊢; exact H)
    have hji17w : (IntKind.i64.wrap ((wrap64 (2 + (l0.length : Int))) + x133001_1)) = ji17 := (i64_w _).trans hji17
    by_cases c18 : 0 ≤ (ji17)
    ·rw [if_pos c18] at H
     have c18b0 := eq_true c18
     have c18b1 : decide (0 ≤ (ji17)) = true := decide_eq_true c18
     clear c18
     by_cases c19 : (ji17 : Int).toNat ≤ 11728124029610
     ·rw [if_pos c19] at H
      have c19b0 := eq_true c19
      have c19b1 : decide ((ji17 : Int).toNat ≤ 11728124029610) = true := decide_eq_true c19
      clear c19
      obtain ⟨y135, hy135⟩ : ∃ y_ : List (List Int), y_ = (List.replicate (ji17 : Int).toNat []) := ⟨_, rfl⟩
      replace H : (flow_assign.l1 k1 l0 a1 ji17 y135 (y135.length : Int) 0 (l0.length : Int) x133001_1 x133002_1 0) = some (r1, r2, r3, r4, r5) := by first | (rw [hy135]; with_reducible exact H) | (have H2_ := (Option.bind_some _ _).symm.trans H; rw [hy135]; with_reducible exact H2_) | (have H2_ := (Option.bind_some _ _).symm.trans H; with_reducible exact H2_) | with_reducible exact H | (rw [hy135]; exact H) | exact H
      have Ny135 := Aside0.mk hy135
      clear hy135
      have H' := Aside0.mk H
      clear H
      have hnb20 := NB132_131.out
      have hnc20 := NB131_132.out
      have hcz21_0 : wr.cell? ⟨gb132, 0, none⟩ = some (.int .i64 (l0.length : Int)) := (blk_cell BK132.out 0).trans rfl
      have hcz21_1 : wr.cell? ⟨gb132, 1, none⟩ = some (.int .i64 x133001_1) := (blk_cell BK132.out 1).trans rfl
      have hcz21_2 : wr.cell? ⟨gb132, 2, none⟩ = some (.int .i64 x133002_1) := (blk_cell BK132.out 2).trans rfl
      have hcz21_3 : wr.cell? ⟨gb132, 3, none⟩ = some (.int .i64 0) := (blk_cell BK132.out 3).trans rfl
      have hcz21_4 : wr.cell? ⟨gb132, 4, none⟩ = some (.slice none 0 0) := (blk_cell BK132.out 4).trans rfl
      have hfz21_0 := blk_frozen BK132.out 0
      have hfz21_1 := blk_frozen BK132.out 1
      have hfz21_2 := blk_frozen BK132.out 2
      have hfz21_3 := blk_frozen BK132.out 3
      have hfz21_4 := blk_frozen BK132.out 4
      go_wp2_with (first | ((with_reducible refine gate_dst (N := 44) rfl ?_); refine Kd.S_make (Kd.slice 3 (Kd.int .i64)) _ 55 rfl (N := 44) rfl 54 _ _ rfl ji17 rfl rfl Try.underlying54 (.slice none 0 0) 24 info55 rfl (by decide) (by omega) [] (ok := fun _ => True) (okp := fun _ => True) ⟨_, rfl, Kd.R_nil _ _ _ _ _⟩ (fun _ hk => hk) trivial (of_decide_eq_true (by first | (with_reducible assumption) | assumption)) (Nat.le_trans (Nat.mul_le_mul_right _ (of_decide_eq_true (by first | (with_reducible assumption) | assumption) : ji17.toNat ≤ 11728124029610)) (by omega)) (Below.refl _ _) (Nat.le_refl _) ?_; intro v136 w22 ho23 hb hg_ hnew_; clear hg_ hnew_; (first | rw [← Ny135.out] at ho23 | (simp only [Int.reduceToNat] at ho23; rw [← Ny135.out] at ho23)); have n0_ := Aside0.mk (Kd.S_lower ho23 (below_size (by repeat (first | (with_reducible first | exact HB.out | apply below_alloc | apply pw_below_drewN | apply below_drew1 | refine below_set ?_ GE131.out | refine below_set ?_ GE132.out) | exact HB.out)))); have n1_ := Aside0.mk (blk_below (g := gb131) (o := .cells #[.int .i64 0, .int .i64 0, .int .i64 0, .int .i64 0, .slice none 0 0] 107 (0, 0)) (by (with_reducible repeat (first | refine blk_drewN ?_ _ | refine blk_drew ?_ | refine blk_alloc ?_ _)); exact BK131.out) hb); have n2_ := Aside0.mk (blk_below (g := gb132) (o := .cells #[.int .i64 (l0.length : Int), .int .i64 x133001_1, .int .i64 x133002_1, .int .i64 0, .slice none 0 0] 107 (0, 0)) (by (with_reducible repeat (first | refine blk_drewN ?_ _ | refine blk_drew ?_ | refine blk_alloc ?_ _)); exact BK132.out) hb); have n3_ := Aside0.mk (below_step (by repeat (first | (with_reducible first | exact HB.out | apply below_alloc | apply pw_below_drewN | apply below_drew1 | refine below_set ?_ GE131.out | refine below_set ?_ GE132.out) | exact HB.out)) hb); clear BK131; clear BK132; clear HB; have HO137 := n0_; have BK131 := n1_; have BK132 := n2_; have HB := n3_; clear n0_ n1_ n2_ n3_; clear hb ho23; obtain ⟨Ao24, co24, eo24⟩ := Kd.S_slice HO137.out; subst eo24))
      go_loopg [47] k1 (fun kq v47 w' => ∃ (x9_2 : List (List Int)) (x47_2 : Int), v47 = .int .i64 x47_2 ∧ Aside0 (flow_assign.l1 kq l0 a1 ji17 x9_2 (y135.length : Int) x47_2 (l0.length : Int) x133001_1 x133002_1 0 = some (r1, r2, r3, r4, r5)) ∧ Aside0 (kq ≤ k1) ∧ Aside0 (Kd.S (Kd.slice 3 (Kd.int .i64)) 55 w' w.heap.size (fun _ => True) (.slice Ao24 y135.length co24) x9_2) ∧ Aside0 (w'.heap[gb131]? = some (.cells #[.int .i64 0, .int .i64 0, .int .i64 0, .int .i64 0, (.slice none 0 0)] 107 (0, 0))) ∧ Aside0 (w'.heap[gb132]? = some (.cells #[.int .i64 (l0.length : Int), .int .i64 x133001_1, .int .i64 x133002_1, .int .i64 0, (.slice none 0 0)] 107 (0, 0))) ∧ Aside0 (Below w.heap.size w w'))
      case atStart => exact ⟨(y135), (0), (by first | rfl | (simp; done) | (simp [*]; done)), H', ⟨Nat.le_refl _⟩, ⟨by (with_reducible repeat (first | apply Kd.S_alloc | apply Kd.S_drewN | apply Kd.S_drew)); exact HO137.out⟩, ⟨by (with_reducible repeat (first | refine blk_drewN ?_ _ | refine blk_drew ?_ | refine blk_alloc ?_ _)); exact BK131.out⟩, ⟨by (with_reducible repeat (first | refine blk_drewN ?_ _ | refine blk_drew ?_ | refine blk_alloc ?_ _)); exact BK132.out⟩, ⟨by repeat (first | (with_reducible first | exact HB.out | apply below_alloc | apply pw_below_drewN | apply below_drew1 | refine below_set ?_ GE131.out | refine below_set ?_ GE132.out) | exact HB.out)⟩⟩
      case round =>
       clear H'
       try clear c1
       try clear p1
       try clear q1
       try clear hx1
       try clear c2
       try clear p2
       try clear c5
       try clear p6
       try clear c7
       try clear c7b0
       try clear c8
       try clear c8b0
       try clear c9
       try clear c9b0
       try clear c12
       try clear c13
       try clear p13
       try clear q13
       try clear hx13
       try clear c15
       try clear c18
       try clear c18b0
       try clear c18b1
       try clear c19
       try clear c19b0
       try clear c19b1
       try clear c20
       try clear hcz14_0
       try clear hcz14_1
       try clear hcz14_2
       try clear hcz16_0
       try clear hcz16_1
       try clear hcz16_2
       try clear hcz16_3
       try clear hcz16_4
       try clear hcz21_0
       try clear hcz21_1
       try clear hcz21_2
       try clear hcz21_3
       try clear hcz21_4
       try clear hcz6_0
       try clear hcz6_1
       try clear hcz6_2
       try clear hcz6_3
       try clear hcz6_4
       try clear hfz14_0
       try clear hfz14_1
       try clear hfz14_2
       try clear hfz16_0
       try clear hfz16_1
       try clear hfz16_2
       try clear hfz16_3
       try clear hfz16_4
       try clear hfz21_0
       try clear hfz21_1
       try clear hfz21_2
       try clear hfz21_3
       try clear hfz21_4
       try clear hfz6_0
       try clear hfz6_1
       try clear hfz6_2
       try clear hfz6_3
       try clear hfz6_4
       try clear hx133_0
       try clear hx133_1
       try clear hx133_2
       try clear p133
       try clear p2
       try clear q133
       obtain ⟨x9_2, x47_2, rfl, HA, HK2, HO_9, BK131, BK132, HB⟩ := hrel
       have hl9_2 := (Kd.S_reads' HO_9.out).1
       rw [hl9_2] at HO_9
       (try simp only [hl9_2])
       (try simp only [hl9_2] at BK131)
       (try simp only [hl9_2] at BK132)
       cases gk with
       | zero => exact absurd HA.out (by simp [flow_assign.l1])
       | succ k2 =>
        have H := HA.out
        clear HA
        simp only [flow_assign.l1] at H
        by_cases c25 : x47_2 < (y135.length : Int)
        ·rw [if_pos c25] at H
         have c25b0 : decide (x47_2 < (y135.length : Int)) = true := decide_eq_true c25
         (try rw [hl9_2] at c25b0)
         clear c25
         by_cases c26 : 0 ≤ ji17
         ·rw [if_pos c26] at H
          have c26b0 := eq_true c26
          have c26b1 : decide (0 ≤ ji17) = true := decide_eq_true c26
          clear c26
          by_cases c27 : (ji17 : Int).toNat ≤ 35184372088832
          ·rw [if_pos c27] at H
           have c27b0 := eq_true c27
           have c27b1 : decide ((ji17 : Int).toNat ≤ 35184372088832) = true := decide_eq_true c27
           clear c27
           obtain ⟨y138, hy138⟩ : ∃ y_ : List Int, y_ = (List.replicate (ji17 : Int).toNat 0) := ⟨_, rfl⟩
           replace H : (if 0 ≤ x47_2 then (if x47_2 < (x9_2.length : Int) then (flow_assign.l1 k2 l0 a1 ji17 (x9_2.set (x47_2 : Int).toNat y138) (y135.length : Int) (wrap64 (x47_2 + 1)) (l0.length : Int) x133001_1 x133002_1 0) else (none)) else (none)) = some (r1, r2, r3, r4, r5) := by first | (rw [hy138]; with_reducible exact H) | (have H2_ := (Option.bind_some _ _).symm.trans H; rw [hy138]; with_reducible exact H2_) | (have H2_ := (Option.bind_some _ _).symm.trans H; with_reducible exact H2_) | with_reducible exact H | (rw [hy138]; exact H) | exact H
           have Ny138 := Aside0.mk hy138
           clear hy138
           by_cases c28 : 0 ≤ x47_2
           ·rw [if_pos c28] at H
            have c28b0 : decide (0 ≤ x47_2) = true := decide_eq_true c28
            clear c28
            by_cases c29 : x47_2 < (x9_2.length : Int)
            ·rw [if_pos c29] at H
             have c29b0 : decide (x47_2 < (x9_2.length : Int)) = true := decide_eq_true c29
             clear c29
             obtain ⟨y141, hy141⟩ : ∃ y_ : List (List Int), y_ = (x9_2.set (x47_2 : Int).toNat y138) := ⟨_, rfl⟩
             replace H : (flow_assign.l1 k2 l0 a1 ji17 y141 (y135.length : Int) (wrap64 (x47_2 + 1)) (l0.length : Int) x133001_1 x133002_1 0) = some (r1, r2, r3, r4, r5) := by first | (rw [hy141]; with_reducible exact H) | (have H2_ := (Option.bind_some _ _).symm.trans H; rw [hy141]; with_reducible exact H2_) | (have H2_ := (Option.bind_some _ _).symm.trans H; with_reducible exact H2_) | with_reducible exact H | (rw [hy141]; exact H) | exact H
             have Ny141 := Aside0.mk hy141
             clear hy141
             have H' := Aside0.mk H
             clear H
             go_wp2_with (first | ((with_reducible refine gate_dst (N := 53) rfl ?_); refine Kd.R_make (Kd.int .i64) _ 3 rfl (N := 53) rfl 55 _ _ rfl ji17 rfl rfl Try.underlying55 (.int .i64 0) 8 info3 rfl (by decide) (by omega) 0 (ok := fun _ => True) (okp := fun _ => True) rfl (fun _ hk => hk) trivial (of_decide_eq_true (by first | (with_reducible assumption) | assumption)) (Nat.le_trans (Nat.mul_le_mul_right _ (of_decide_eq_true (by first | (with_reducible assumption) | assumption) : ji17.toNat ≤ 35184372088832)) (by omega)) (Below.refl _ _) (Nat.le_refl _) ?_; intro v139 w31 ho32 hb hg_ hnew_; clear hg_ hnew_; (first | rw [← Ny138.out] at ho32 | (simp only [Int.reduceToNat] at ho32; rw [← Ny138.out] at ho32)); have n0_ := Aside0.mk (Kd.S_elder' (by (with_reducible repeat (first | apply Kd.S_alloc | apply Kd.S_drewN | apply Kd.S_drew)); exact HO_9.out) (Kd.R_base ho32) hb); have n1_ := Aside0.mk (Kd.R_lower ho32 (below_size (by repeat (first | (with_reducible first | exact HB.out | apply below_alloc | apply pw_below_drewN | apply below_drew1 | refine below_set ?_ GE131.out | refine below_set ?_ GE132.out) | exact HB.out)))); have n2_ := Aside0.mk (blk_below (g := gb131) (o := .cells #[.int .i64 0, .int .i64 0, .int .i64 0, .int .i64 0, .slice none 0 0] 107 (0, 0)) (by (with_reducible repeat (first | refine blk_drewN ?_ _ | refine blk_drew ?_ | refine blk_alloc ?_ _)); exact BK131.out) hb); have n3_ := Aside0.mk (blk_below (g := gb132) (o := .cells #[.int .i64 (l0.length : Int), .int .i64 x133001_1, .int .i64 x133002_1, .int .i64 0, .slice none 0 0] 107 (0, 0)) (by (with_reducible repeat (first | refine blk_drewN ?_ _ | refine blk_drew ?_ | refine blk_alloc ?_ _)); exact BK132.out) hb); have n4_ := Aside0.mk (below_step (by repeat (first | (with_reducible first | exact HB.out | apply below_alloc | apply pw_below_drewN | apply below_drew1 | refine below_set ?_ GE131.out | refine below_set ?_ GE132.out) | exact HB.out)) hb); clear HO_9; clear BK131; clear BK132; clear HB; have HO_9 := n0_; have HO140 := n1_; have BK131 := n2_; have BK132 := n3_; have HB := n4_; clear n0_ n1_ n2_ n3_ n4_; clear hb ho32; obtain ⟨Ao139, co139, eo139⟩ := Kd.R_slice HO140.out; subst eo139; have p30 : 0 ≤ (x47_2 : Int) := of_decide_eq_true (by first | (with_reducible assumption) | assumption); have q30 : (x47_2 : Int) < ((x9_2.length : Int) : Int) := of_decide_eq_true (by first | (with_reducible assumption) | assumption); obtain ⟨go30, co30, eo30, gb30, gl30, cl30, HG30⟩ := Kd.S_form HO_9.out (by omega); (first | cases eo30 | (injection eo30 with ea_ en_ ec_; (first | subst ea_ | (injection ea_ with ea_; subst ea_)); subst ec_; clear en_)); have GB30 := Aside0.mk gb30; have GG30 := Aside0.mk HG30; clear gb30 gl30 HG30; obtain ⟨_, ce30, hcl30, hM30, hcc30, hfr30, _, _⟩ := Kd.S_elem HO_9.out [] (x47_2 : Int) p30 q30; obtain ⟨ve30_0, rfl, ge30_0⟩ := hM30; have hx30_0 := hcc30 0 _ rfl; have hf30_0 := hfr30 0; (try simp only [show ((Kd.slice 3 (Kd.int .i64))).sz = 1 from rfl, Nat.mul_one, Nat.add_zero] at hx30_0); (try simp only [show ((Kd.slice 3 (Kd.int .i64))).sz = 1 from rfl, Nat.mul_one, Nat.add_zero] at hf30_0); clear hcl30 hcc30 hfr30; (try clear hM30); replace p30 := eq_true p30; replace q30 := eq_true q30; have n_ := Aside0.mk (Kd.S_mono (ok' := (fun k_ => some k_ ≠ (.slice Ao139 y138.length co139 : Value).ownBlock)) HO_9.out (fun k_ hk => hk.2)); clear HO_9; have HO_9 := n_; clear n_; have HX33 := Aside0.mk (show Kd.S (Kd.slice 3 (Kd.int .i64)) 55 w31 w.heap.size (fun k_ => ((fun _ => True)) k_ ∧ ¬ ((fun k_ => some k_ = (.slice Ao139 y138.length co139 : Value).ownBlock)) k_) (.slice (some ⟨go30, 0, none⟩) x9_2.length co24) x9_2 from (by (with_reducible repeat (first | apply Kd.S_alloc | apply Kd.S_drewN | apply Kd.S_drew)); exact Kd.S_mono HO_9.out (fun k_ hk => ⟨trivial, fun e_ => hk e_⟩))); obtain ⟨oki33, ce33, hcl33, hM33, hcc33, hfr33, hoki33, hH33⟩ := Kd.S_elem HX33.out [] (x47_2 : Int) (of_decide_eq_true (by first | (with_reducible assumption) | assumption)) (by have h_ : (x47_2 : Int) < ((x9_2.length : Int) : Int) := of_decide_eq_true (by first | (with_reducible assumption) | assumption); first | exact h_ | (have e_ := (Kd.S_reads' HO_9.out).1; omega) | simpa using h_); obtain ⟨ve33_0, rfl, ge33_0⟩ := hM33; have HP33 := Kd.S_seg hH33 (of_decide_eq_true (by first | (with_reducible assumption) | assumption)) (by have h_ : (x47_2 : Int) < ((x9_2.length : Int) : Int) := of_decide_eq_true (by first | (with_reducible assumption) | assumption); first | exact h_ | (have e_ := (Kd.S_reads' HO_9.out).1; omega) | simpa using h_) (seg := [(.slice Ao139 y138.length co139)]) (j := 0) (show 1 ≤ 1 from by decide) (x' := y138) (Kd.M_row (Kd.R_mono (Kd.R_tight rfl (Kd.R_mono (ok' := fun k_ => ((fun _ => True)) k_ ∧ k_ ≠ go30) (Kd.R_apart' (HO140.out) (Kd.S_typed HO_9.out) (by decide)) (fun k_ hk => ⟨trivial, fun e_ => (hk.2) (by rw [e_]; rfl)⟩))) (fun _ h_ => Or.inr (h_)))) (fun _ hk => hk) (fun k_ hk_ => ((Kd.R_mono (ok' := fun k_ => ((fun _ => True)) k_ ∧ k_ ≠ go30) (Kd.R_apart' (HO140.out) (Kd.S_typed HO_9.out) (by decide)) (fun k_ hk => ⟨trivial, fun e_ => (hk.2) (by rw [e_]; rfl)⟩))).1 k_ hk_.symm); have hx33_0 := hcc33 0 _ rfl; (try simp only [show ((Kd.slice 3 (Kd.int .i64))).sz = 1 from rfl, Nat.mul_one, Nat.add_zero] at hx33_0); have hf33_0 := hfr33 0; (try simp only [show ((Kd.slice 3 (Kd.int .i64))).sz = 1 from rfl, Nat.mul_one, Nat.add_zero] at hf33_0); clear hcl33 hcc33 hfr33 hoki33 hH33; (try clear hM33); (try simp only [show ((Kd.slice 3 (Kd.int .i64))).sz = 1 from rfl, Nat.mul_one, Nat.add_zero] at HP33)) | ((with_reducible refine gate_store (t := 55) (p := 54) rfl ?_); refine store_event (t := 55) (p := 54) (v := ?vo_w34) (w1 := (w31.setCell ⟨go30, (x47_2 : Int).toNat, none⟩ ((.slice Ao139 y138.length co139)))) ?hg ?ho ?hn ?hr ?_; (case ho => rfl); (case hg => rfl); (case hn => rfl); (case hr => first | (go_simp; done) | (go_simp; rfl)); intro w34 hw; have hg : w31.grownBy w34 (some go30) := (by rw [hw]; exact HP33.2); have hp_ : Kd.S (Kd.slice 3 (Kd.int .i64)) 55 w34 w.heap.size (fun _ => True) (.slice (some ⟨go30, 0, none⟩) x9_2.length co24) y141 := (by rw [hw, Ny141.out]; exact HP33.1); clear HP33; have n0_ := Aside0.mk (hp_); have n1_ := Aside0.mk (blk_grown (g := gb131) (o := .cells #[.int .i64 0, .int .i64 0, .int .i64 0, .int .i64 0, .slice none 0 0] 107 (0, 0)) (by (with_reducible repeat (first | refine blk_drewN ?_ _ | refine blk_drew ?_ | refine blk_alloc ?_ _)); exact BK131.out) hg (Kd.S_ne HO_9.out BK131.out (by decide))); have n2_ := Aside0.mk (blk_grown (g := gb132) (o := .cells #[.int .i64 (l0.length : Int), .int .i64 x133001_1, .int .i64 x133002_1, .int .i64 0, .slice none 0 0] 107 (0, 0)) (by (with_reducible repeat (first | refine blk_drewN ?_ _ | refine blk_drew ?_ | refine blk_alloc ?_ _)); exact BK132.out) hg (Kd.S_ne HO_9.out BK132.out (by decide))); have n3_ := Aside0.mk ((by rw [hw]; exact below_set (HB.out) GB30.out : Below w.heap.size w w34)); clear HO_9; clear BK131; clear BK132; clear HB; clear HO140; have HO_9 := n0_; have BK131 := n1_; have BK132 := n2_; have HB := n3_; clear n0_ n1_ n2_ n3_; clear hg hw hp_))
             (try simp only [← hl9_2])
             go_roundg k2
             case measure => have := HK1.out; have := HK2.out; omega
             case rel => exact ⟨(y141), (wrap64 (x47_2 + 1)), (by first | rfl | (simp; done) | (simp [*]; done)), H', ⟨by have := HK1.out; have := HK2.out; omega⟩, ⟨by (try simp only [hl9_2]); (with_reducible repeat (first | apply Kd.S_alloc | apply Kd.S_drewN | apply Kd.S_drew)); exact HO_9.out⟩, ⟨by (try simp only [hl9_2]); (with_reducible repeat (first | refine blk_drewN ?_ _ | refine blk_drew ?_ | refine blk_alloc ?_ _)); exact BK131.out⟩, ⟨by (try simp only [hl9_2]); (with_reducible repeat (first | refine blk_drewN ?_ _ | refine blk_drew ?_ | refine blk_alloc ?_ _)); exact BK132.out⟩, ⟨by repeat (first | (with_reducible first | exact HB.out | apply below_alloc | apply pw_below_drewN | apply below_drew1 | refine below_set ?_ GE131.out | refine below_set ?_ GE132.out) | exact HB.out)⟩⟩
            ·rw [if_neg c29] at H
             exact absurd H (by simp)
           ·rw [if_neg c28] at H
            exact absurd H (by simp)
          ·rw [if_neg c27] at H
           exact absurd H (by simp)
         ·rw [if_neg c26] at H
          exact absurd H (by simp)
        ·rw [if_neg c25] at H
         have c25b0 : decide (x47_2 < (y135.length : Int)) = false := decide_eq_false c25
         (try rw [hl9_2] at c25b0)
         clear c25
         have H' := Aside0.mk H
         clear H
         go_wp2
         go_loopg [58] k2 (fun kq v58 w' => ∃ (x9_3 : List (List Int)) (x58_3 : Int), v58 = .int .i64 x58_3 ∧ Aside0 (flow_assign.l2 kq a1 ji17 x9_3 l0 (l0.length : Int) x58_3 (l0.length : Int) x133001_1 x133002_1 0 = some (r1, r2, r3, r4, r5)) ∧ Aside0 (kq ≤ k2) ∧ Aside0 (Kd.S (Kd.slice 3 (Kd.int .i64)) 55 w' w.heap.size (fun _ => True) (.slice Ao24 x9_2.length co24) x9_3) ∧ Aside0 (w'.heap[gb131]? = some (.cells #[.int .i64 0, .int .i64 0, .int .i64 0, .int .i64 0, (.slice none 0 0)] 107 (0, 0))) ∧ Aside0 (w'.heap[gb132]? = some (.cells #[.int .i64 (l0.length : Int), .int .i64 x133001_1, .int .i64 x133002_1, .int .i64 0, (.slice none 0 0)] 107 (0, 0))) ∧ Aside0 (Below w.heap.size w w'))
         case atStart => exact ⟨(x9_2), (0), (by first | rfl | (simp; done) | (simp [*]; done)), H', ⟨Nat.le_refl _⟩, ⟨by (try simp only [hl9_2]); (with_reducible repeat (first | apply Kd.S_alloc | apply Kd.S_drewN | apply Kd.S_drew)); exact HO_9.out⟩, ⟨by (try simp only [hl9_2]); (with_reducible repeat (first | refine blk_drewN ?_ _ | refine blk_drew ?_ | refine blk_alloc ?_ _)); exact BK131.out⟩, ⟨by (try simp only [hl9_2]); (with_reducible repeat (first | refine blk_drewN ?_ _ | refine blk_drew ?_ | refine blk_alloc ?_ _)); exact BK132.out⟩, ⟨by repeat (first | (with_reducible first | exact HB.out | apply below_alloc | apply pw_below_drewN | apply below_drew1 | refine below_set ?_ GE131.out | refine below_set ?_ GE132.out) | exact HB.out)⟩⟩
         case round =>
          clear H'
          try clear c1
          try clear p1
          try clear q1
          try clear hx1
          try clear c2
          try clear p2
          try clear c3
          try clear p3
          try clear q3
          try clear hx3
          try clear hf3
          try clear c5
          try clear p6
          try clear c7
          try clear c7b0
          try clear c8
          try clear c8b0
          try clear c9
          try clear c9b0
          try clear c12
          try clear c13
          try clear p13
          try clear q13
          try clear hx13
          try clear c15
          try clear c18
          try clear c18b0
          try clear c18b1
          try clear c19
          try clear c19b0
          try clear c19b1
          try clear c20
          try clear c25
          try clear c25b0
          try clear c26
          try clear c26b0
          try clear c26b1
          try clear c27
          try clear c27b0
          try clear c27b1
          try clear c28
          try clear c28b0
          try clear c29
          try clear c29b0
          try clear c30
          try clear p30
          try clear q30
          try clear hx30
          try clear hf30
          try clear c33
          try clear hx33
          try clear hf33
          try clear hcz14_0
          try clear hcz14_1
          try clear hcz14_2
          try clear hcz16_0
          try clear hcz16_1
          try clear hcz16_2
          try clear hcz16_3
          try clear hcz16_4
          try clear hcz21_0
          try clear hcz21_1
          try clear hcz21_2
          try clear hcz21_3
          try clear hcz21_4
          try clear hcz6_0
          try clear hcz6_1
          try clear hcz6_2
          try clear hcz6_3
          try clear hcz6_4
          try clear hfz14_0
          try clear hfz14_1
          try clear hfz14_2
          try clear hfz16_0
          try clear hfz16_1
          try clear hfz16_2
          try clear hfz16_3
          try clear hfz16_4
          try clear hfz21_0
          try clear hfz21_1
          try clear hfz21_2
          try clear hfz21_3
          try clear hfz21_4
          try clear hfz6_0
          try clear hfz6_1
          try clear hfz6_2
          try clear hfz6_3
          try clear hfz6_4
          try clear hx133_0
          try clear hx133_1
          try clear hx133_2
          try clear hx30_0
          try clear hx33_0
          try clear p1
          try clear p13
          try clear p133
          try clear p2
          try clear p30
          try clear p6
          try clear q1
          try clear q13
          try clear q133
          try clear q30
          obtain ⟨x9_3, x58_3, rfl, HA, HK3, HO_9, BK131, BK132, HB⟩ := hrel
          have hl9_3 := (Kd.S_reads' HO_9.out).1
          rw [hl9_3] at HO_9
          (try simp only [hl9_3])
          (try simp only [hl9_3] at BK131)
          (try simp only [hl9_3] at BK132)
          cases gk with
          | zero => exact absurd HA.out (by simp [flow_assign.l2])
          | succ k3 =>
           have H := HA.out
           clear HA
           simp only [flow_assign.l2] at H
           by_cases c35 : x58_3 < (l0.length : Int)
           ·rw [if_pos c35] at H
            have c35b0 : decide (x58_3 < (l0.length : Int)) = true := decide_eq_true c35
            clear c35
            by_cases c36 : 0 ≤ x58_3
            ·rw [if_pos c36] at H
             have c36b0 : decide (0 ≤ x58_3) = true := decide_eq_true c36
             clear c36
             by_cases c37 : x58_3 < (l0.length : Int)
             ·rw [if_pos c37] at H
              have c37b0 : decide (x58_3 < (l0.length : Int)) = true := decide_eq_true c37
              clear c37
              by_cases c38 : 0 < (x9_3.length : Int)
              ·rw [if_pos c38] at H
               have c38b0 : decide (0 < (x9_3.length : Int)) = true := decide_eq_true c38
               have c38b1 : decide (0 < x9_3.length) = true := decide_eq_true (by omega)
               clear c38
               obtain ⟨ji39, hji39⟩ : ∃ j_ : Int, (wrap64 (1 + x58_3)) = j_ := ⟨_, rfl⟩
               replace H : (if 0 ≤ (ji39) then (if (ji39) < ((rd_L4 x9_3 0).length : Int) then (flow_assign.l3 k3 a1 ji17 (x9_3.set (0 : Int).toNat ((rd_L4 x9_3 0).set ((ji39) : Int).toNat ((rd_T83 l0 x58_3).f2))) x58_3 ((rd_T83 l0 x58_3).f0) l0 (l0.length : Int) x58_3 (l0.length : Int) x133001_1 x133002_1 0 ((rd_T83 l0 x58_3).f0) ((rd_T83 l0 x58_3).f1) ((rd_T83 l0 x58_3).f2)) else (none)) else (none)) = some (r1, r2, r3, r4, r5) := by first | (rw [hji39] at H; exact H) | (simp only [hji39] at H ⊢; exact H)
               have hji39w : (IntKind.i64.wrap (1 + x58_3)) = ji39 := (i64_w _).trans hji39
               by_cases c40 : 0 ≤ (ji39)
               ·rw [if_pos c40] at H
                have c40b0 : decide (0 ≤ (ji39)) = true := decide_eq_true c40
                clear c40
                by_cases c41 : (ji39) < ((rd_L4 x9_3 0).length : Int)
                ·rw [if_pos c41] at H
                 have c41b0 : decide ((ji39) < ((rd_L4 x9_3 0).length : Int)) = true := decide_eq_true c41
                 clear c41
                 obtain ⟨y145, hy145⟩ : ∃ y_ : List Int, y_ = ((rd_L4 x9_3 0).set ((ji39) : Int).toNat ((rd_T83 l0 x58_3).f2)) := ⟨_, rfl⟩
                 replace H : (flow_assign.l3 k3 a1 ji17 (x9_3.set (0 : Int).toNat y145) x58_3 ((rd_T83 l0 x58_3).f0) l0 (l0.length : Int) x58_3 (l0.length : Int) x133001_1 x133002_1 0 ((rd_T83 l0 x58_3).f0) ((rd_T83 l0 x58_3).f1) ((rd_T83 l0 x58_3).f2)) = some (r1, r2, r3, r4, r5) := by first | (rw [hy145]; with_reducible exact H) | (have H2_ := (Option.bind_some _ _).symm.trans H; rw [hy145]; with_reducible exact H2_) | (have H2_ := (Option.bind_some _ _).symm.trans H; with_reducible exact H2_) | with_reducible exact H | (rw [hy145]; exact H) | exact H
                 have Ny145 := Aside0.mk hy145
                 clear hy145
                 obtain ⟨y147, hy147⟩ : ∃ y_ : List (List Int), y_ = (x9_3.set (0 : Int).toNat y145) := ⟨_, rfl⟩
                 replace H : (flow_assign.l3 k3 a1 ji17 y147 x58_3 ((rd_T83 l0 x58_3).f0) l0 (l0.length : Int) x58_3 (l0.length : Int) x133001_1 x133002_1 0 ((rd_T83 l0 x58_3).f0) ((rd_T83 l0 x58_3).f1) ((rd_T83 l0 x58_3).f2)) = some (r1, r2, r3, r4, r5) := by first | (rw [hy147]; with_reducible exact H) | (have H2_ := (Option.bind_some _ _).symm.trans H; rw [hy147]; with_reducible exact H2_) | (have H2_ := (Option.bind_some _ _).symm.trans H; with_reducible exact H2_) | with_reducible exact H | (rw [hy147]; exact H) | exact H
                 have Ny147 := Aside0.mk hy147
                 clear hy147
                 have H' := Aside0.mk H
                 clear H
                 have p142 : 0 ≤ (x58_3 : Int) := of_decide_eq_true (by first | (with_reducible assumption) | assumption)
                 have q142 : x58_3 < (l0.length : Int) := of_decide_eq_true (by first | (with_reducible assumption) | assumption)
                 obtain ⟨ad142, e142, hx142_0, hx142_1, hx142_2⟩ := at_T83 HR0.out x58_3 p142 q142
                 cases e142
                 replace hx142_0 := (HB.out.cell (World.block_lt_of_cell? w _ hx142_0)).trans hx142_0
                 replace hx142_1 := (HB.out.cell (World.block_lt_of_cell? w _ hx142_1)).trans hx142_1
                 replace hx142_2 := (HB.out.cell (World.block_lt_of_cell? w _ hx142_2)).trans hx142_2
                 replace p142 := eq_true p142
                 replace q142 := eq_true q142
                 try go_wp2_with (first | ((with_reducible refine gate_dst (N := 12) rfl ?_); refine box_event ?hg (N := 12) ?hd (cs := #[.int .i64 0, .int .i64 0, .int .i64 0]) (t := 83) ?hr ?_; (case hd => rfl); (case hg => rfl); (case hr => first | (go_simp; done) | (go_simp; rfl)); intro gb143 hg w43 hbox hb; have n0_ := Aside0.mk (Kd.S_below (by (with_reducible repeat (first | apply Kd.S_alloc | apply Kd.S_drewN | apply Kd.S_drew)); exact HO_9.out) hb); have n1_ := Aside0.mk (blk_below (g := gb131) (o := .cells #[.int .i64 0, .int .i64 0, .int .i64 0, .int .i64 0, .slice none 0 0] 107 (0, 0)) (by (with_reducible repeat (first | refine blk_drewN ?_ _ | refine blk_drew ?_ | refine blk_alloc ?_ _)); exact BK131.out) hb); have n2_ := Aside0.mk (blk_below (g := gb132) (o := .cells #[.int .i64 (l0.length : Int), .int .i64 x133001_1, .int .i64 x133002_1, .int .i64 0, .slice none 0 0] 107 (0, 0)) (by (with_reducible repeat (first | refine blk_drewN ?_ _ | refine blk_drew ?_ | refine blk_alloc ?_ _)); exact BK132.out) hb); have n3_ := Aside0.mk (below_step (by repeat (first | (with_reducible first | exact HB.out | apply below_alloc | apply pw_below_drewN | apply below_drew1 | refine below_set ?_ GE131.out | refine below_set ?_ GE132.out) | exact HB.out)) hb); have n4_ := Aside0.mk (hbox); have n5_ := Aside0.mk ((by rw [hg]; exact (below_size (by repeat (first | (with_reducible first | exact HB.out | apply below_alloc | apply pw_below_drewN | apply below_drew1 | refine below_set ?_ GE131.out | refine below_set ?_ GE132.out) | exact HB.out))) : w.heap.size ≤ gb143)); have n6_ := Aside0.mk ((by rw [hg]; exact (below_size (by repeat (first | (with_reducible first | exact HB.out | apply below_alloc | apply pw_below_drewN | apply below_drew1 | refine below_set ?_ GE131.out | refine below_set ?_ GE132.out) | exact HB.out))) : w.heap.size ≤ gb143)); have n7_ := Aside0.mk ((by rw [hg]; exact Nat.ne_of_lt (blk_lt (g := gb131) (o := .cells #[.int .i64 0, .int .i64 0, .int .i64 0, .int .i64 0, .slice none 0 0] 107 (0, 0)) (by (with_reducible repeat (first | refine blk_drewN ?_ _ | refine blk_drew ?_ | refine blk_alloc ?_ _)); exact BK131.out)) : gb131 ≠ gb143)); have n8_ := Aside0.mk ((by rw [hg]; exact Nat.ne_of_gt (blk_lt (g := gb131) (o := .cells #[.int .i64 0, .int .i64 0, .int .i64 0, .int .i64 0, .slice none 0 0] 107 (0, 0)) (by (with_reducible repeat (first | refine blk_drewN ?_ _ | refine blk_drew ?_ | refine blk_alloc ?_ _)); exact BK131.out)) : gb143 ≠ gb131)); have n9_ := Aside0.mk ((by rw [hg]; exact Nat.ne_of_lt (blk_lt (g := gb132) (o := .cells #[.int .i64 (l0.length : Int), .int .i64 x133001_1, .int .i64 x133002_1, .int .i64 0, .slice none 0 0] 107 (0, 0)) (by (with_reducible repeat (first | refine blk_drewN ?_ _ | refine blk_drew ?_ | refine blk_alloc ?_ _)); exact BK132.out)) : gb132 ≠ gb143)); have n10_ := Aside0.mk ((by rw [hg]; exact Nat.ne_of_gt (blk_lt (g := gb132) (o := .cells #[.int .i64 (l0.length : Int), .int .i64 x133001_1, .int .i64 x133002_1, .int .i64 0, .slice none 0 0] 107 (0, 0)) (by (with_reducible repeat (first | refine blk_drewN ?_ _ | refine blk_drew ?_ | refine blk_alloc ?_ _)); exact BK132.out)) : gb143 ≠ gb132)); clear HO_9; clear BK131; clear BK132; clear HB; have HO_9 := n0_; have BK131 := n1_; have BK132 := n2_; have HB := n3_; have BK143 := n4_; have GW143 := n5_; have GE143 := n6_; have NB131_143 := n7_; have NB143_131 := n8_; have NB132_143 := n9_; have NB143_132 := n10_; clear n0_ n1_ n2_ n3_ n4_ n5_ n6_ n7_ n8_ n9_ n10_; clear hb hbox hg; have hnb44 := NB143_131.out; have hnc44 := NB131_143.out; have hnb45 := NB143_132.out; have hnc45 := NB132_143.out; have hcz46_0 : w43.cell? ⟨gb143, 0, none⟩ = some (.int .i64 0) := (blk_cell BK143.out 0).trans rfl; have hcz46_1 : w43.cell? ⟨gb143, 1, none⟩ = some (.int .i64 0) := (blk_cell BK143.out 1).trans rfl; have hcz46_2 : w43.cell? ⟨gb143, 2, none⟩ = some (.int .i64 0) := (blk_cell BK143.out 2).trans rfl; have hfz46_0 := blk_frozen BK143.out 0; have hfz46_1 := blk_frozen BK143.out 1; have hfz46_2 := blk_frozen BK143.out 2))
                 have n0_ : Aside0 (Kd.S (Kd.slice 3 (Kd.int .i64)) 55 (((w43.setCell ⟨gb143, 0, none⟩ (.int .i64 ((rd_T83 l0 x58_3).f0))).setCell ⟨gb143, 1, none⟩ (.int .i64 ((rd_T83 l0 x58_3).f1))).setCell ⟨gb143, 2, none⟩ (.int .i64 ((rd_T83 l0 x58_3).f2))) w.heap.size (fun _ => True) (.slice Ao24 x9_3.length co24) x9_3) := ⟨by (with_reducible repeat (first | apply Kd.S_alloc | apply Kd.S_drewN | apply Kd.S_drew)); exact Kd.S_mono (Kd.S_far (p := ⟨gb143, 2, none⟩) (Kd.S_far (p := ⟨gb143, 1, none⟩) (Kd.S_far (p := ⟨gb143, 0, none⟩) (Kd.S_types HO_9.out BK143.out (by decide)) (fun _ hk => hk.2) (.int .i64 ((rd_T83 l0 x58_3).f0))) (fun _ hk => hk.2) (.int .i64 ((rd_T83 l0 x58_3).f1))) (fun _ hk => hk.2) (.int .i64 ((rd_T83 l0 x58_3).f2))) (fun _ hk => trivial)⟩
                 have n1_ : Aside0 ((((w43.setCell ⟨gb143, 0, none⟩ (.int .i64 ((rd_T83 l0 x58_3).f0))).setCell ⟨gb143, 1, none⟩ (.int .i64 ((rd_T83 l0 x58_3).f1))).setCell ⟨gb143, 2, none⟩ (.int .i64 ((rd_T83 l0 x58_3).f2))).heap[gb131]? = some (.cells #[.int .i64 0, .int .i64 0, .int .i64 0, .int .i64 0, .slice none 0 0] 107 (0, 0))) := ⟨by (with_reducible repeat (first | refine blk_drewN ?_ _ | refine blk_drew ?_ | refine blk_alloc ?_ _)); refine blk_far ?_ NB131_143.out _; (with_reducible repeat (first | refine blk_drewN ?_ _ | refine blk_drew ?_ | refine blk_alloc ?_ _)); refine blk_far ?_ NB131_143.out _; (with_reducible repeat (first | refine blk_drewN ?_ _ | refine blk_drew ?_ | refine blk_alloc ?_ _)); refine blk_far ?_ NB131_143.out _; (with_reducible repeat (first | refine blk_drewN ?_ _ | refine blk_drew ?_ | refine blk_alloc ?_ _)); exact BK131.out⟩
                 have n2_ : Aside0 ((((w43.setCell ⟨gb143, 0, none⟩ (.int .i64 ((rd_T83 l0 x58_3).f0))).setCell ⟨gb143, 1, none⟩ (.int .i64 ((rd_T83 l0 x58_3).f1))).setCell ⟨gb143, 2, none⟩ (.int .i64 ((rd_T83 l0 x58_3).f2))).heap[gb132]? = some (.cells #[.int .i64 (l0.length : Int), .int .i64 x133001_1, .int .i64 x133002_1, .int .i64 0, .slice none 0 0] 107 (0, 0))) := ⟨by (with_reducible repeat (first | refine blk_drewN ?_ _ | refine blk_drew ?_ | refine blk_alloc ?_ _)); refine blk_far ?_ NB132_143.out _; (with_reducible repeat (first | refine blk_drewN ?_ _ | refine blk_drew ?_ | refine blk_alloc ?_ _)); refine blk_far ?_ NB132_143.out _; (with_reducible repeat (first | refine blk_drewN ?_ _ | refine blk_drew ?_ | refine blk_alloc ?_ _)); refine blk_far ?_ NB132_143.out _; (with_reducible repeat (first | refine blk_drewN ?_ _ | refine blk_drew ?_ | refine blk_alloc ?_ _)); exact BK132.out⟩
                 have n3_ : Aside0 ((((w43.setCell ⟨gb143, 0, none⟩ (.int .i64 ((rd_T83 l0 x58_3).f0))).setCell ⟨gb143, 1, none⟩ (.int .i64 ((rd_T83 l0 x58_3).f1))).setCell ⟨gb143, 2, none⟩ (.int .i64 ((rd_T83 l0 x58_3).f2))).heap[gb143]? = some (.cells #[.int .i64 ((rd_T83 l0 x58_3).f0), .int .i64 ((rd_T83 l0 x58_3).f1), .int .i64 ((rd_T83 l0 x58_3).f2)] 83 (0, 0))) := ⟨by (with_reducible repeat (first | refine blk_drewN ?_ _ | refine blk_drew ?_ | refine blk_alloc ?_ _)); refine blk_put (cs := #[.int .i64 ((rd_T83 l0 x58_3).f0), .int .i64 ((rd_T83 l0 x58_3).f1), .int .i64 0]) ?_ 2 _ rfl; (with_reducible repeat (first | refine blk_drewN ?_ _ | refine blk_drew ?_ | refine blk_alloc ?_ _)); refine blk_put (cs := #[.int .i64 ((rd_T83 l0 x58_3).f0), .int .i64 0, .int .i64 0]) ?_ 1 _ rfl; (with_reducible repeat (first | refine blk_drewN ?_ _ | refine blk_drew ?_ | refine blk_alloc ?_ _)); refine blk_put (cs := #[.int .i64 0, .int .i64 0, .int .i64 0]) ?_ 0 _ rfl; (with_reducible repeat (first | refine blk_drewN ?_ _ | refine blk_drew ?_ | refine blk_alloc ?_ _)); exact BK143.out⟩
                 have n4_ : Aside0 (Below w.heap.size w (((w43.setCell ⟨gb143, 0, none⟩ (.int .i64 ((rd_T83 l0 x58_3).f0))).setCell ⟨gb143, 1, none⟩ (.int .i64 ((rd_T83 l0 x58_3).f1))).setCell ⟨gb143, 2, none⟩ (.int .i64 ((rd_T83 l0 x58_3).f2)))) := ⟨by repeat (first | (with_reducible first | exact HB.out | apply below_alloc | apply pw_below_drewN | apply below_drew1 | refine below_set ?_ GE131.out | refine below_set ?_ GE132.out | refine below_set ?_ GE143.out) | exact HB.out)⟩
                 (try clear HO_9)
                 (try clear BK131)
                 (try clear BK132)
                 (try clear BK143)
                 (try clear HB)
                 generalize (((w43.setCell ⟨gb143, 0, none⟩ (.int .i64 ((rd_T83 l0 x58_3).f0))).setCell ⟨gb143, 1, none⟩ (.int .i64 ((rd_T83 l0 x58_3).f1))).setCell ⟨gb143, 2, none⟩ (.int .i64 ((rd_T83 l0 x58_3).f2))) = w47 at n0_ n1_ n2_ n3_ n4_ ⊢
                 have HO_9 := n0_
                 have BK131 := n1_
                 have BK132 := n2_
                 have BK143 := n3_
                 have HB := n4_
                 clear n0_ n1_ n2_ n3_ n4_
                 have n0_ := Aside0.mk (Kd.S_drew HO_9.out)
                 have n1_ := Aside0.mk (blk_drew BK131.out)
                 have n2_ := Aside0.mk (blk_drew BK132.out)
                 have n3_ := Aside0.mk (blk_drew BK143.out)
                 have n4_ := Aside0.mk (below_drew1 HB.out)
                 clear HO_9
                 clear BK131
                 clear BK132
                 clear BK143
                 clear HB
                 have HO_9 := n0_
                 have BK131 := n1_
                 have BK132 := n2_
                 have BK143 := n3_
                 have HB := n4_
                 clear n0_ n1_ n2_ n3_ n4_
                 have p144 : 0 ≤ (0 : Int) := (by omega)
                 have q144 : 0 < (x9_3.length : Int) := of_decide_eq_true (by first | (with_reducible assumption) | assumption)
                 obtain ⟨ad144, A144_0, c144_0, e144, hx144_0, hl144_0, hi144_0⟩ := at_L4 (Kd.S_reads' HO_9.out).2.2 0 p144 q144
                 cases e144
                 obtain ⟨ce144, hce144, hMe144, hcc144⟩ := Kd.S_get HO_9.out [] 0 p144 (by first | exact q144 | exact of_decide_eq_true (by first | (with_reducible assumption) | assumption) | (have e_ := (Kd.S_reads' HO_9.out).1; omega))
                 obtain ⟨ve144_0, rfl, ge144_0⟩ := hMe144
                 have hv144_0 := hcc144 0 _ rfl
                 rw [Nat.add_zero, show ((Kd.slice 3 (Kd.int .i64))).sz = 1 from rfl, Nat.mul_one] at hv144_0
                 replace hv144_0 := Option.some.inj (hv144_0.symm.trans hx144_0)
                 rw [hv144_0] at ge144_0
                 have HL144_0 := Aside0.mk (show Kd.R (Kd.int .i64) 3 _ _ _ _ (rd_L4 x9_3 0) from ge144_0)
                 clear hv144_0 ge144_0
                 have HX144_0 := Aside0.mk hx144_0
                 clear hcc144 hce144
                 have qi144 : (0 < x9_3.length) = True := eq_true (by omega)
                 (try rw [show ((0 : Int)).toNat = 0 from rfl] at hx144_0)
                 (try rw [Addr.add_zero'] at hx144_0)
                 have HR144_0 := Aside0.mk hi144_0
                 have HC144_0 := Aside0.mk hl144_0
                 clear hi144_0 hl144_0
                 replace p144 := eq_true p144
                 replace q144 := eq_true q144
                 have p42 : 0 ≤ ((ji39) : Int) := of_decide_eq_true (by first | (with_reducible assumption) | assumption)
                 have q42 : ((ji39) : Int) < (((rd_L4 x9_3 0).length : Int) : Int) := of_decide_eq_true (by first | (with_reducible assumption) | assumption)
                 obtain ⟨go42, co42, eo42, gb42, gl42, cl42, HG42⟩ := Kd.R_form HL144_0.out (pos_of_idx p42 q42)
                 (first | cases eo42 | (injection eo42 with ea_ en_ ec_; (first | subst ea_ | (injection ea_ with ea_; subst ea_)); subst ec_; clear en_))
                 have GB42 := Aside0.mk gb42
                 have GG42 := Aside0.mk HG42
                 clear gb42 gl42 HG42
                 obtain ⟨hx42_0, hf42_0⟩ := Kd.R_celln 0 HL144_0.out ((ji39) : Int) p42 q42
                 replace p42 := eq_true p42
                 replace q42 := eq_true q42
                 have hq49 : (0 : Int) < (x9_3.length : Int) := (by have h_ : (0 : Int) < ((x9_3.length : Int) : Int) := of_decide_eq_true (by first | (with_reducible assumption) | assumption); first | exact h_ | (have e_ := (Kd.S_reads' HO_9.out).1; omega) | simpa only [List.length_set, List.length_set] using h_)
                 obtain ⟨oki49, ce49, hcl49, hM49, hcc49, hok49, hbk49⟩ := Kd.S_borrow HO_9.out [] (0 : Int) (by omega) hq49
                 obtain ⟨ve49_0, rfl, ge49_0⟩ := hM49
                 have hv49 := hcc49 0 _ rfl
                 rw [Nat.add_zero, show ((Kd.slice 3 (Kd.int .i64))).sz = 1 from rfl, Nat.mul_one] at hv49
                 replace hv49 := Option.some.inj (hv49.symm.trans HX144_0.out)
                 subst hv49
                 clear hcc49 hcl49
                 replace ge49_0 := (show Kd.R (Kd.int .i64) 3 _ _ _ _ (rd_L4 x9_3 0) from ge49_0)
                 have HP49 := Kd.R_putg ge49_0 ((ji39) : Int) ((rd_T83 l0 x58_3).f2)
                 rw [← Ny145.out] at HP49
                 have HS49 := hbk49 HP49.2 (fun k_ e_ => by injection e_ with e_; subst e_; exact ge49_0.1 _ rfl) (x' := y145) (Kd.M_row HP49.1)
                 rw [← Ny147.out] at HS49
                 have HQ49 := Aside0.mk HS49
                 clear HP49 HS49 hbk49 hok49
                 refine start_ (n := 9) (S := fun w' => w'.cell? ⟨gb143, 0, none⟩ = some (.int .i64 ((rd_T83 l0 x58_3).f0)) ∧ w'.cell? ⟨gb143, 1, none⟩ = some (.int .i64 ((rd_T83 l0 x58_3).f1)) ∧ w'.cell? ⟨gb143, 2, none⟩ = some (.int .i64 ((rd_T83 l0 x58_3).f2)) ∧ w'.cell? ad144 = some (.slice (some ⟨go42, 0, none⟩) (rd_L4 x9_3 0).length c144_0)) (ds := [8]) #[false, false, false, false, false, false, false, false, false] (by kernel_rfl) rfl rfl ⟨(blk_cell BK143.out 0).trans rfl, (blk_cell BK143.out 1).trans rfl, (blk_cell BK143.out 2).trans rfl, hx144_0⟩ (fun hHeld => ?_); refine with_tabW flow_assign.tab18 flow_assign.bits18 (fun HT_ HW_ => ?_)
                 generalize w47.drew = w48 at HO_9 BK131 BK132 BK143 HB GG42 HL144_0 HQ49 HR144_0 HX144_0 hf42_0 hx144_0 hx42_0 hHeld ⊢
                 refine pure_ (i := 0) (N := some 63) (v := ?_) (a' := ?_) #[true, false, false, false, false, false, false, false, false] rfl rfl (any_of HT_.out (by kernel_rfl)) (fun _ _ _ h => h) (Or.inl ⟨by rfl, ?_⟩) ?_ ?_
                 rotate_left
                 ·intro w'
                  go_simp
                  with_reducible rfl
                 rotate_left
                 ·simp only [Act.put, List.setIfInBounds_toArray, List.set_cons_zero, List.set_cons_succ, i64_w, i32_w]
                  rfl
                 refine pure_ (i := 1) (N := some 64) (v := ?_) (a' := ?_) #[true, true, false, false, false, false, false, false, false] rfl rfl (any_of HT_.out (by kernel_rfl)) (fun _ _ _ h => h) (Or.inl ⟨by rfl, ?_⟩) ?_ ?_
                 rotate_left
                 ·intro w'
                  go_simp
                  with_reducible rfl
                 rotate_left
                 ·simp only [Act.put, List.setIfInBounds_toArray, List.set_cons_zero, List.set_cons_succ, i64_w, i32_w]
                  rfl
                 refine pure_ (i := 3) (N := some 66) (v := ?_) (a' := ?_) #[true, true, false, true, false, false, false, false, false] rfl rfl (any_of HT_.out (by kernel_rfl)) (fun _ _ _ h => h) (Or.inl ⟨by rfl, ?_⟩) ?_ ?_
                 rotate_left
                 ·intro w'
                  go_simp
                  with_reducible rfl
                 rotate_left
                 ·simp only [Act.put, List.setIfInBounds_toArray, List.set_cons_zero, List.set_cons_succ, i64_w, i32_w]
                  rfl
                 refine pure_ (i := 4) (N := some 67) (v := ?_) (a' := ?_) #[true, true, false, true, true, false, false, false, false] rfl rfl (any_of HT_.out (by kernel_rfl)) (fun _ _ _ h => h) (Or.inl ⟨by rfl, ?_⟩) ?_ ?_
                 rotate_left
                 ·intro w'
                  go_simp
                  with_reducible rfl
                 rotate_left
                 ·simp only [Act.put, List.setIfInBounds_toArray, List.set_cons_zero, List.set_cons_succ, i64_w, i32_w]
                  rfl
                 refine pure_ (i := 5) (N := some 68) (v := ?_) (a' := ?_) #[true, true, false, true, true, true, false, false, false] rfl rfl (any_of HT_.out (by kernel_rfl)) (fun _ _ _ h => h) (Or.inl ⟨by rfl, ?_⟩) ?_ ?_
                 rotate_left
                 ·intro w'
                  go_simp
                  with_reducible rfl
                 rotate_left
                 ·simp only [Act.put, List.setIfInBounds_toArray, List.set_cons_zero, List.set_cons_succ, i64_w, i32_w]
                  rfl
                 refine take_ (i := 2) (N := some 65) (v := ?_) (a' := ?_) #[true, true, true, true, true, true, false, false, false] rfl rfl (take_ofW HT_.out HW_.out (by kernel_rfl)) (fun _ _ _ h => h) (Or.inl ⟨by rfl, ?_⟩) hHeld ?_ ?_
                 rotate_left
                 ·rintro w' ⟨s0, s1, s2, s3⟩
                  go_simp
                  with_reducible rfl
                 rotate_left
                 ·simp only [Act.put, List.setIfInBounds_toArray, List.set_cons_zero, List.set_cons_succ, i64_w, i32_w]
                  rfl
                 refine take_ (i := 6) (N := some 69) (v := ?_) (a' := ?_) #[true, true, true, true, true, true, true, false, false] rfl rfl (take_ofW HT_.out HW_.out (by kernel_rfl)) (fun _ _ _ h => h) (Or.inl ⟨by rfl, ?_⟩) hHeld ?_ ?_
                 rotate_left
                 ·rintro w' ⟨s0, s1, s2, s3⟩
                  go_simp
                  with_reducible rfl
                 rotate_left
                 ·simp only [Act.put, List.setIfInBounds_toArray, List.set_cons_zero, List.set_cons_succ, i64_w, i32_w]
                  rfl
                 refine pure_ (i := 7) (N := some 70) (v := ?_) (a' := ?_) #[true, true, true, true, true, true, true, true, false] rfl rfl (any_of HT_.out (by kernel_rfl)) (fun _ _ _ h => h) (Or.inl ⟨by rfl, ?_⟩) ?_ ?_
                 rotate_left
                 ·intro w'
                  go_simp
                  with_reducible rfl
                 rotate_left
                 ·simp only [Act.put, List.setIfInBounds_toArray, List.set_cons_zero, List.set_cons_succ, i64_w, i32_w]
                  rfl
                 refine last_ (i := 8) (N := none) #[true, true, true, true, true, true, true, true, true] rfl rfl (one_of HT_.out (by kernel_rfl)) (by decide) (fun K hK => ?_)
                 refine skip_ (w1 := ?_) (by rfl) rfl ?_ ?_
                 rotate_left
                 ·go_simp
                  rfl
                 refine hK.out _ _ ?_
                 clear hK K
                 refine done_ (done_of HT_.out (by kernel_rfl)) ?_
                 have hcz51_0 : w48.cell? ⟨gb143, 0, none⟩ = some (.int .i64 ((rd_T83 l0 x58_3).f0)) := (blk_cell BK143.out 0).trans rfl
                 have hcz51_1 : w48.cell? ⟨gb143, 1, none⟩ = some (.int .i64 ((rd_T83 l0 x58_3).f1)) := (blk_cell BK143.out 1).trans rfl
                 have hcz51_2 : w48.cell? ⟨gb143, 2, none⟩ = some (.int .i64 ((rd_T83 l0 x58_3).f2)) := (blk_cell BK143.out 2).trans rfl
                 have hfz51_0 := blk_frozen BK143.out 0
                 have hfz51_1 := blk_frozen BK143.out 1
                 have hfz51_2 := blk_frozen BK143.out 2
                 have hne143 : gb143 ≠ go42 := by (obtain ⟨cc_, hcc_⟩ := Kd.R_typed HL144_0.out go42 (by simp [Value.ownBlock]); exact blk_ne BK143.out hcc_ (by decide))
                 have hne143' := hne143.symm
                 try go_wp2
                 go_loopg [13] k3 (fun kq v13 w' => ∃ (x9_4 : List (List Int)) (x13_4 : Int), v13 = .int .i64 x13_4 ∧ Aside0 (flow_assign.l3 kq a1 ji17 x9_4 x58_3 x13_4 l0 (l0.length : Int) x58_3 (l0.length : Int) x133001_1 x133002_1 0 ((rd_T83 l0 x58_3).f0) ((rd_T83 l0 x58_3).f1) ((rd_T83 l0 x58_3).f2) = some (r1, r2, r3, r4, r5)) ∧ Aside0 (kq ≤ k3) ∧ Aside0 (Kd.S (Kd.slice 3 (Kd.int .i64)) 55 w' w.heap.size (fun _ => True) (.slice (some ad144) x9_3.length co24) x9_4) ∧ Aside0 (w'.heap[gb131]? = some (.cells #[.int .i64 0, .int .i64 0, .int .i64 0, .int .i64 0, (.slice none 0 0)] 107 (0, 0))) ∧ Aside0 (w'.heap[gb132]? = some (.cells #[.int .i64 (l0.length : Int), .int .i64 x133001_1, .int .i64 x133002_1, .int .i64 0, (.slice none 0 0)] 107 (0, 0))) ∧ Aside0 (w'.heap[gb143]? = some (.cells #[.int .i64 ((rd_T83 l0 x58_3).f0), .int .i64 ((rd_T83 l0 x58_3).f1), .int .i64 ((rd_T83 l0 x58_3).f2)] 83 (0, 0))) ∧ Aside0 (Below w.heap.size w w'))
                 case atStart => exact ⟨(y147), ((rd_T83 l0 x58_3).f0), (by first | rfl | (simp; done) | (simp [*]; done)), H', ⟨Nat.le_refl _⟩, ⟨by (try simp only [hl9_2]); (try simp only [hl9_3]); (with_reducible repeat (first | apply Kd.S_alloc | apply Kd.S_drewN | apply Kd.S_drew)); exact HQ49.out⟩, ⟨by (try simp only [hl9_2]); (try simp only [hl9_3]); (with_reducible repeat (first | refine blk_drewN ?_ _ | refine blk_drew ?_ | refine blk_alloc ?_ _)); refine blk_far ?_ (by have h_ := Kd.R_ne HL144_0.out BK131.out (by decide); intro e_; exact h_ (by rw [e_]; rfl)) _; (with_reducible repeat (first | refine blk_drewN ?_ _ | refine blk_drew ?_ | refine blk_alloc ?_ _)); exact BK131.out⟩, ⟨by (try simp only [hl9_2]); (try simp only [hl9_3]); (with_reducible repeat (first | refine blk_drewN ?_ _ | refine blk_drew ?_ | refine blk_alloc ?_ _)); refine blk_far ?_ (by have h_ := Kd.R_ne HL144_0.out BK132.out (by decide); intro e_; exact h_ (by rw [e_]; rfl)) _; (with_reducible repeat (first | refine blk_drewN ?_ _ | refine blk_drew ?_ | refine blk_alloc ?_ _)); exact BK132.out⟩, ⟨by (try simp only [hl9_2]); (try simp only [hl9_3]); (with_reducible repeat (first | refine blk_drewN ?_ _ | refine blk_drew ?_ | refine blk_alloc ?_ _)); refine blk_far ?_ (by have h_ := Kd.R_ne HL144_0.out BK143.out (by decide); intro e_; exact h_ (by rw [e_]; rfl)) _; (with_reducible repeat (first | refine blk_drewN ?_ _ | refine blk_drew ?_ | refine blk_alloc ?_ _)); exact BK143.out⟩, ⟨by repeat (first | (with_reducible first | exact HB.out | apply below_alloc | apply pw_below_drewN | apply below_drew1 | refine below_set ?_ GB42.out | refine below_set ?_ GE131.out | refine below_set ?_ GE132.out | refine below_set ?_ GE143.out) | exact HB.out)⟩⟩
                 case round =>
                  clear H'
                  try clear c1
                  try clear p1
                  try clear q1
                  try clear hx1
                  try clear qi1
                  try clear c2
                  try clear p2
                  try clear c3
                  try clear p3
                  try clear q3
                  try clear hx3
                  try clear hf3
                  try clear c4
                  try clear p4
                  try clear q4
                  try clear hx4
                  try clear hf4
                  try clear c5
                  try clear p6
                  try clear c7
                  try clear c7b0
                  try clear c8
                  try clear c8b0
                  try clear c9
                  try clear c9b0
                  try clear c12
                  try clear c13
                  try clear p13
                  try clear q13
                  try clear hx13
                  try clear c14
                  try clear p14
                  try clear q14
                  try clear hx14
                  try clear qi14
                  try clear c15
                  try clear c18
                  try clear c18b0
                  try clear c18b1
                  try clear c19
                  try clear c19b0
                  try clear c19b1
                  try clear c20
                  try clear c25
                  try clear c25b0
                  try clear c26
                  try clear c26b0
                  try clear c26b1
                  try clear c27
                  try clear c27b0
                  try clear c27b1
                  try clear c28
                  try clear c28b0
                  try clear c29
                  try clear c29b0
                  try clear c30
                  try clear p30
                  try clear q30
                  try clear hx30
                  try clear hf30
                  try clear c33
                  try clear hx33
                  try clear hf33
                  try clear c35
                  try clear c35b0
                  try clear c36
                  try clear c36b0
                  try clear c37
                  try clear c37b0
                  try clear c38
                  try clear c38b0
                  try clear c38b1
                  try clear c40
                  try clear c40b0
                  try clear c41
                  try clear c41b0
                  try clear p42
                  try clear q42
                  try clear hx42
                  try clear hf42
                  try clear c44
                  try clear c45
                  try clear c49
                  try clear q49
                  try clear hcz14_0
                  try clear hcz14_1
                  try clear hcz14_2
                  try clear hcz16_0
                  try clear hcz16_1
                  try clear hcz16_2
                  try clear hcz16_3
                  try clear hcz16_4
                  try clear hcz21_0
                  try clear hcz21_1
                  try clear hcz21_2
                  try clear hcz21_3
                  try clear hcz21_4
                  try clear hcz46_0
                  try clear hcz46_1
                  try clear hcz46_2
                  try clear hcz51_0
                  try clear hcz51_1
                  try clear hcz51_2
                  try clear hcz6_0
                  try clear hcz6_1
                  try clear hcz6_2
                  try clear hcz6_3
                  try clear hcz6_4
                  try clear hfz14_0
                  try clear hfz14_1
                  try clear hfz14_2
                  try clear hfz16_0
                  try clear hfz16_1
                  try clear hfz16_2
                  try clear hfz16_3
                  try clear hfz16_4
                  try clear hfz21_0
                  try clear hfz21_1
                  try clear hfz21_2
                  try clear hfz21_3
                  try clear hfz21_4
                  try clear hfz46_0
                  try clear hfz46_1
                  try clear hfz46_2
                  try clear hfz51_0
                  try clear hfz51_1
                  try clear hfz51_2
                  try clear hfz6_0
                  try clear hfz6_1
                  try clear hfz6_2
                  try clear hfz6_3
                  try clear hfz6_4
                  try clear hx133_0
                  try clear hx133_1
                  try clear hx133_2
                  try clear hx142_0
                  try clear hx142_1
                  try clear hx142_2
                  try clear hx144_0
                  try clear hx30_0
                  try clear hx33_0
                  try clear hx42_0
                  try clear p1
                  try clear p13
                  try clear p133
                  try clear p142
                  try clear p144
                  try clear p2
                  try clear p3
                  try clear p30
                  try clear p42
                  try clear p6
                  try clear q1
                  try clear q13
                  try clear q133
                  try clear q142
                  try clear q144
                  try clear q3
                  try clear q30
                  try clear q42
                  obtain ⟨x9_4, x13_4, rfl, HA, HK4, HO_9, BK131, BK132, BK143, HB⟩ := hrel
                  have hl9_4 := (Kd.S_reads' HO_9.out).1
                  rw [hl9_4] at HO_9
                  (try simp only [hl9_4])
                  (try simp only [hl9_4] at BK131)
                  (try simp only [hl9_4] at BK132)
                  (try simp only [hl9_4] at BK143)
                  cases gk with
                  | zero => exact absurd HA.out (by simp [flow_assign.l3])
                  | succ k4 =>
                   have H := HA.out
                   clear HA
                   simp only [flow_assign.l3] at H
                   by_cases c52 : x13_4 < ((rd_T83 l0 x58_3).f1)
                   ·rw [if_pos c52] at H
                    have c52b0 : decide (x13_4 < ((rd_T83 l0 x58_3).f1)) = true := decide_eq_true c52
                    clear c52
                    (try clear hji39w)
                    (try clear hji39)
                    obtain ⟨ji53, hji53⟩ : ∃ j_ : Int, (wrap64 (1 + x58_3)) = j_ := ⟨_, rfl⟩
                    replace H : (if 0 ≤ (ji53) then (if (ji53) < (x9_4.length : Int) then (if 0 ≤ (wrap64 ((wrap64 (1 + (l0.length : Int))) + x13_4)) then (if (wrap64 ((wrap64 (1 + (l0.length : Int))) + x13_4)) < ((rd_L4 x9_4 (ji53)).length : Int) then (flow_assign.l3 k4 a1 ji17 (x9_4.set ((ji53) : Int).toNat ((rd_L4 x9_4 (ji53)).set ((wrap64 ((wrap64 (1 + (l0.length : Int))) + x13_4)) : Int).toNat 1)) x58_3 (wrap64 (x13_4 + 1)) l0 (l0.length : Int) x58_3 (l0.length : Int) x133001_1 x133002_1 0 ((rd_T83 l0 x58_3).f0) ((rd_T83 l0 x58_3).f1) ((rd_T83 l0 x58_3).f2)) else (none)) else (none)) else (none)) else (none)) = some (r1, r2, r3, r4, r5) := by first | (rw [hji53] at H; exact H) | (simp only [hji53] at H ⊢; exact H)
                    have hji53w : (IntKind.i64.wrap (1 + x58_3)) = ji53 := (i64_w _).trans hji53
                    by_cases c54 : 0 ≤ (ji53)
                    ·rw [if_pos c54] at H
                     have c54b0 : decide (0 ≤ (ji53)) = true := decide_eq_true c54
                     clear c54
                     by_cases c55 : (ji53) < (x9_4.length : Int)
                     ·rw [if_pos c55] at H
                      have c55b0 : decide ((ji53) < (x9_4.length : Int)) = true := decide_eq_true c55
                      clear c55
                      obtain ⟨ji56, hji56⟩ : ∃ j_ : Int, (wrap64 ((wrap64 (1 + (l0.length : Int))) + x13_4)) = j_ := ⟨_, rfl⟩
                      replace H : (if 0 ≤ (ji56) then (if (ji56) < ((rd_L4 x9_4 (ji53)).length : Int) then (flow_assign.l3 k4 a1 ji17 (x9_4.set ((ji53) : Int).toNat ((rd_L4 x9_4 (ji53)).set ((ji56) : Int).toNat 1)) x58_3 (wrap64 (x13_4 + 1)) l0 (l0.length : Int) x58_3 (l0.length : Int) x133001_1 x133002_1 0 ((rd_T83 l0 x58_3).f0) ((rd_T83 l0 x58_3).f1) ((rd_T83 l0 x58_3).f2)) else (none)) else (none)) = some (r1, r2, r3, r4, r5) := by first | (rw [hji56] at H; exact H) | (simp only [hji56] at H ⊢; exact H)
                      have hji56w : (IntKind.i64.wrap ((wrap64 (1 + (l0.length : Int))) + x13_4)) = ji56 := (i64_w _).trans hji56
                      by_cases c57 : 0 ≤ (ji56)
                      ·rw [if_pos c57] at H
                       have c57b0 : decide (0 ≤ (ji56)) = true := decide_eq_true c57
                       clear c57
                       by_cases c58 : (ji56) < ((rd_L4 x9_4 (ji53)).length : Int)
                       ·rw [if_pos c58] at H
                        have c58b0 : decide ((ji56) < ((rd_L4 x9_4 (ji53)).length : Int)) = true := decide_eq_true c58
                        clear c58
                        obtain ⟨y149, hy149⟩ : ∃ y_ : List Int, y_ = ((rd_L4 x9_4 (ji53)).set ((ji56) : Int).toNat 1) := ⟨_, rfl⟩
                        replace H : (flow_assign.l3 k4 a1 ji17 (x9_4.set ((ji53) : Int).toNat y149) x58_3 (wrap64 (x13_4 + 1)) l0 (l0.length : Int) x58_3 (l0.length : Int) x133001_1 x133002_1 0 ((rd_T83 l0 x58_3).f0) ((rd_T83 l0 x58_3).f1) ((rd_T83 l0 x58_3).f2)) = some (r1, r2, r3, r4, r5) := by first | (rw [hy149]; with_reducible exact H) | (have H2_ := (Option.bind_some _ _).symm.trans H; rw [hy149]; with_reducible exact H2_) | (have H2_ := (Option.bind_some _ _).symm.trans H; with_reducible exact H2_) | with_reducible exact H | (rw [hy149]; exact H) | exact H
                        have Ny149 := Aside0.mk hy149
                        clear hy149
                        obtain ⟨y151, hy151⟩ : ∃ y_ : List (List Int), y_ = (x9_4.set ((ji53) : Int).toNat y149) := ⟨_, rfl⟩
                        replace H : (flow_assign.l3 k4 a1 ji17 y151 x58_3 (wrap64 (x13_4 + 1)) l0 (l0.length : Int) x58_3 (l0.length : Int) x133001_1 x133002_1 0 ((rd_T83 l0 x58_3).f0) ((rd_T83 l0 x58_3).f1) ((rd_T83 l0 x58_3).f2)) = some (r1, r2, r3, r4, r5) := by first | (rw [hy151]; with_reducible exact H) | (have H2_ := (Option.bind_some _ _).symm.trans H; rw [hy151]; with_reducible exact H2_) | (have H2_ := (Option.bind_some _ _).symm.trans H; with_reducible exact H2_) | with_reducible exact H | (rw [hy151]; exact H) | exact H
                        have Ny151 := Aside0.mk hy151
                        clear hy151
                        have H' := Aside0.mk H
                        clear H
                        have hnb60 := NB143_131.out
                        have hnc60 := NB131_143.out
                        have hnb61 := NB143_132.out
                        have hnc61 := NB132_143.out
                        have hcz62_0 : wr.cell? ⟨gb143, 0, none⟩ = some (.int .i64 ((rd_T83 l0 x58_3).f0)) := (blk_cell BK143.out 0).trans rfl
                        have hcz62_1 : wr.cell? ⟨gb143, 1, none⟩ = some (.int .i64 ((rd_T83 l0 x58_3).f1)) := (blk_cell BK143.out 1).trans rfl
                        have hcz62_2 : wr.cell? ⟨gb143, 2, none⟩ = some (.int .i64 ((rd_T83 l0 x58_3).f2)) := (blk_cell BK143.out 2).trans rfl
                        have hfz62_0 := blk_frozen BK143.out 0
                        have hfz62_1 := blk_frozen BK143.out 1
                        have hfz62_2 := blk_frozen BK143.out 2
                        try go_wp2
                        have n0_ := Aside0.mk (Kd.S_drew HO_9.out)
                        have n1_ := Aside0.mk (blk_drew BK131.out)
                        have n2_ := Aside0.mk (blk_drew BK132.out)
                        have n3_ := Aside0.mk (blk_drew BK143.out)
                        have n4_ := Aside0.mk (below_drew1 HB.out)
                        clear HO_9
                        clear BK131
                        clear BK132
                        clear BK143
                        clear HB
                        have HO_9 := n0_
                        have BK131 := n1_
                        have BK132 := n2_
                        have BK143 := n3_
                        have HB := n4_
                        clear n0_ n1_ n2_ n3_ n4_
                        have p148 : 0 ≤ ((ji53) : Int) := of_decide_eq_true (by first | (with_reducible assumption) | assumption)
                        have q148 : (ji53) < (x9_4.length : Int) := of_decide_eq_true (by first | (with_reducible assumption) | assumption)
                        obtain ⟨ad148, A148_0, c148_0, e148, hx148_0, hl148_0, hi148_0⟩ := at_L4 (Kd.S_reads' HO_9.out).2.2 (ji53) p148 q148
                        obtain rfl : ad144 = ad148 := (by injection e148)
                        obtain ⟨ce148, hce148, hMe148, hcc148⟩ := Kd.S_get HO_9.out [] (ji53) p148 (by first | exact q148 | exact of_decide_eq_true (by first | (with_reducible assumption) | assumption) | (have e_ := (Kd.S_reads' HO_9.out).1; omega))
                        obtain ⟨ve148_0, rfl, ge148_0⟩ := hMe148
                        have hv148_0 := hcc148 0 _ rfl
                        rw [Nat.add_zero, show ((Kd.slice 3 (Kd.int .i64))).sz = 1 from rfl, Nat.mul_one] at hv148_0
                        replace hv148_0 := Option.some.inj (hv148_0.symm.trans hx148_0)
                        rw [hv148_0] at ge148_0
                        have HL148_0 := Aside0.mk (show Kd.R (Kd.int .i64) 3 _ _ _ _ (rd_L4 x9_4 (ji53)) from ge148_0)
                        clear hv148_0 ge148_0
                        have HX148_0 := Aside0.mk hx148_0
                        clear hcc148 hce148
                        have HR148_0 := Aside0.mk hi148_0
                        have HC148_0 := Aside0.mk hl148_0
                        clear hi148_0 hl148_0
                        replace p148 := eq_true p148
                        replace q148 := eq_true q148
                        have p59 : 0 ≤ ((ji56) : Int) := of_decide_eq_true (by first | (with_reducible assumption) | assumption)
                        have q59 : ((ji56) : Int) < (((rd_L4 x9_4 (ji53)).length : Int) : Int) := of_decide_eq_true (by first | (with_reducible assumption) | assumption)
                        obtain ⟨go59, co59, eo59, gb59, gl59, cl59, HG59⟩ := Kd.R_form HL148_0.out (pos_of_idx p59 q59)
                        (first | cases eo59 | (injection eo59 with ea_ en_ ec_; (first | subst ea_ | (injection ea_ with ea_; subst ea_)); subst ec_; clear en_))
                        have GB59 := Aside0.mk gb59
                        have GG59 := Aside0.mk HG59
                        clear gb59 gl59 HG59
                        obtain ⟨hx59_0, hf59_0⟩ := Kd.R_celln 0 HL148_0.out ((ji56) : Int) p59 q59
                        replace p59 := eq_true p59
                        replace q59 := eq_true q59
                        have hq64 : ((ji53) : Int) < (x9_4.length : Int) := (by have h_ : ((ji53) : Int) < ((x9_4.length : Int) : Int) := of_decide_eq_true (by first | (with_reducible assumption) | assumption); first | exact h_ | (have e_ := (Kd.S_reads' HO_9.out).1; omega) | simpa only [List.length_set, List.length_set] using h_)
                        obtain ⟨oki64, ce64, hcl64, hM64, hcc64, hok64, hbk64⟩ := Kd.S_borrow HO_9.out [] ((ji53) : Int) (of_decide_eq_true (by first | (with_reducible assumption) | assumption)) hq64
                        obtain ⟨ve64_0, rfl, ge64_0⟩ := hM64
                        have hv64 := hcc64 0 _ rfl
                        rw [Nat.add_zero, show ((Kd.slice 3 (Kd.int .i64))).sz = 1 from rfl, Nat.mul_one] at hv64
                        replace hv64 := Option.some.inj (hv64.symm.trans HX148_0.out)
                        subst hv64
                        clear hcc64 hcl64
                        replace ge64_0 := (show Kd.R (Kd.int .i64) 3 _ _ _ _ (rd_L4 x9_4 (ji53)) from ge64_0)
                        have HP64 := Kd.R_putg ge64_0 ((ji56) : Int) 1
                        rw [← Ny149.out] at HP64
                        have HS64 := hbk64 HP64.2 (fun k_ e_ => by injection e_ with e_; subst e_; exact ge64_0.1 _ rfl) (x' := y149) (Kd.M_row HP64.1)
                        rw [← Ny151.out] at HS64
                        have HQ64 := Aside0.mk HS64
                        clear HP64 HS64 hbk64 hok64
                        refine start_ (n := 12) (S := fun w' => w'.cell? ⟨gb132, 0, none⟩ = some (.int .i64 (l0.length : Int)) ∧ w'.cell? ⟨gb132, 1, none⟩ = some (.int .i64 x133001_1) ∧ w'.cell? ⟨gb132, 2, none⟩ = some (.int .i64 x133002_1) ∧ w'.cell? ⟨gb132, 3, none⟩ = some (.int .i64 0) ∧ w'.cell? ⟨gb132, 4, none⟩ = some (.slice none 0 0) ∧ w'.cell? (ad144.add ((ji53)).toNat) = some (.slice (some ⟨go59, 0, none⟩) (rd_L4 x9_4 (ji53)).length c148_0)) (ds := [11]) #[false, false, false, false, false, false, false, false, false, false, false, false] (by kernel_rfl) rfl rfl ⟨(blk_cell BK132.out 0).trans rfl, (blk_cell BK132.out 1).trans rfl, (blk_cell BK132.out 2).trans rfl, (blk_cell BK132.out 3).trans rfl, (blk_cell BK132.out 4).trans rfl, hx148_0⟩ (fun hHeld => ?_); refine with_tabW flow_assign.tab22 flow_assign.bits22 (fun HT_ HW_ => ?_)
                        generalize wr.drew = w63 at HO_9 BK131 BK132 BK143 HB GG59 HL148_0 HQ64 HR148_0 HX148_0 hf59_0 hx148_0 hx59_0 hHeld ⊢
                        refine pure_ (i := 0) (N := some 79) (v := ?_) (a' := ?_) #[true, false, false, false, false, false, false, false, false, false, false, false] rfl rfl (any_of HT_.out (by kernel_rfl)) (fun _ _ _ h => h) (Or.inl ⟨by rfl, ?_⟩) ?_ ?_
                        rotate_left
                        ·intro w'
                         go_simp
                         with_reducible rfl
                        rotate_left
                        ·simp only [Act.put, List.setIfInBounds_toArray, List.set_cons_zero, List.set_cons_succ, i64_w, i32_w]
                         rfl
                        refine pure_ (i := 1) (N := some 80) (v := ?_) (a' := ?_) #[true, true, false, false, false, false, false, false, false, false, false, false] rfl rfl (any_of HT_.out (by kernel_rfl)) (fun _ _ _ h => h) (Or.inl ⟨by rfl, ?_⟩) ?_ ?_
                        rotate_left
                        ·intro w'
                         go_simp
                         with_reducible rfl
                        rotate_left
                        ·simp only [Act.put, List.setIfInBounds_toArray, List.set_cons_zero, List.set_cons_succ, i64_w, i32_w]
                         rfl
                        refine pure_ (i := 2) (N := some 81) (v := ?_) (a' := ?_) #[true, true, true, false, false, false, false, false, false, false, false, false] rfl rfl (any_of HT_.out (by kernel_rfl)) (fun _ _ _ h => h) (Or.inl ⟨by rfl, ?_⟩) ?_ ?_
                        rotate_left
                        ·intro w'
                         go_simp
                         with_reducible rfl
                        rotate_left
                        ·simp only [Act.put, List.setIfInBounds_toArray, List.set_cons_zero, List.set_cons_succ, i64_w, i32_w]
                         rfl
                        refine pure_ (i := 3) (N := some 82) (v := ?_) (a' := ?_) #[true, true, true, true, false, false, false, false, false, false, false, false] rfl rfl (any_of HT_.out (by kernel_rfl)) (fun _ _ _ h => h) (Or.inl ⟨by rfl, ?_⟩) ?_ ?_
                        rotate_left
                        ·intro w'
                         go_simp
                         with_reducible rfl
                        rotate_left
                        ·simp only [Act.put, List.setIfInBounds_toArray, List.set_cons_zero, List.set_cons_succ, i64_w, i32_w]
                         rfl
                        refine pure_ (i := 5) (N := some 84) (v := ?_) (a' := ?_) #[true, true, true, true, false, true, false, false, false, false, false, false] rfl rfl (any_of HT_.out (by kernel_rfl)) (fun _ _ _ h => h) (Or.inl ⟨by rfl, ?_⟩) ?_ ?_
                        rotate_left
                        ·intro w'
                         go_simp
                         with_reducible rfl
                        rotate_left
                        ·simp only [Act.put, List.setIfInBounds_toArray, List.set_cons_zero, List.set_cons_succ, i64_w, i32_w]
                         rfl
                        refine pure_ (i := 8) (N := some 87) (v := ?_) (a' := ?_) #[true, true, true, true, false, true, false, false, true, false, false, false] rfl rfl (any_of HT_.out (by kernel_rfl)) (fun _ _ _ h => h) (Or.inl ⟨by rfl, ?_⟩) ?_ ?_
                        rotate_left
                        ·intro w'
                         go_simp
                         with_reducible rfl
                        rotate_left
                        ·simp only [Act.put, List.setIfInBounds_toArray, List.set_cons_zero, List.set_cons_succ, i64_w, i32_w]
                         rfl
                        refine take_ (i := 4) (N := some 83) (v := ?_) (a' := ?_) #[true, true, true, true, true, true, false, false, true, false, false, false] rfl rfl (take_ofW HT_.out HW_.out (by kernel_rfl)) (fun _ _ _ h => h) (Or.inl ⟨by rfl, ?_⟩) hHeld ?_ ?_
                        rotate_left
                        ·rintro w' ⟨s0, s1, s2, s3, s4, s5⟩
                         go_simp
                         with_reducible rfl
                        rotate_left
                        ·simp only [Act.put, List.setIfInBounds_toArray, List.set_cons_zero, List.set_cons_succ, i64_w, i32_w]
                         rfl
                        refine take_ (i := 6) (N := some 85) (v := ?_) (a' := ?_) #[true, true, true, true, true, true, true, false, true, false, false, false] rfl rfl (take_ofW HT_.out HW_.out (by kernel_rfl)) (fun _ _ _ h => h) (Or.inl ⟨by rfl, ?_⟩) hHeld ?_ ?_
                        rotate_left
                        ·rintro w' ⟨s0, s1, s2, s3, s4, s5⟩
                         go_simp
                         with_reducible rfl
                        rotate_left
                        ·simp only [Act.put, List.setIfInBounds_toArray, List.set_cons_zero, List.set_cons_succ, i64_w, i32_w]
                         rfl
                        refine pure_ (i := 7) (N := some 86) (v := ?_) (a' := ?_) #[true, true, true, true, true, true, true, true, true, false, false, false] rfl rfl (any_of HT_.out (by kernel_rfl)) (fun _ _ _ h => h) (Or.inl ⟨by rfl, ?_⟩) ?_ ?_
                        rotate_left
                        ·intro w'
                         go_simp
                         with_reducible rfl
                        rotate_left
                        ·simp only [Act.put, List.setIfInBounds_toArray, List.set_cons_zero, List.set_cons_succ, i64_w, i32_w]
                         rfl
                        refine pure_ (i := 9) (N := some 88) (v := ?_) (a' := ?_) #[true, true, true, true, true, true, true, true, true, true, false, false] rfl rfl (any_of HT_.out (by kernel_rfl)) (fun _ _ _ h => h) (Or.inl ⟨by rfl, ?_⟩) ?_ ?_
                        rotate_left
                        ·intro w'
                         go_simp
                         with_reducible rfl
                        rotate_left
                        ·simp only [Act.put, List.setIfInBounds_toArray, List.set_cons_zero, List.set_cons_succ, i64_w, i32_w]
                         rfl
                        refine pure_ (i := 10) (N := some 89) (v := ?_) (a' := ?_) #[true, true, true, true, true, true, true, true, true, true, true, false] rfl rfl (any_of HT_.out (by kernel_rfl)) (fun _ _ _ h => h) (Or.inl ⟨by rfl, ?_⟩) ?_ ?_
                        rotate_left
                        ·intro w'
                         go_simp
                         with_reducible rfl
                        rotate_left
                        ·simp only [Act.put, List.setIfInBounds_toArray, List.set_cons_zero, List.set_cons_succ, i64_w, i32_w]
                         rfl
                        refine last_ (i := 11) (N := none) #[true, true, true, true, true, true, true, true, true, true, true, true] rfl rfl (one_of HT_.out (by kernel_rfl)) (by decide) (fun K hK => ?_)
                        refine skip_ (w1 := ?_) (by rfl) rfl ?_ ?_
                        rotate_left
                        ·go_simp
                         rfl
                        refine hK.out _ _ ?_
                        clear hK K
                        refine done_ (done_of HT_.out (by kernel_rfl)) ?_
                        try go_wp2
                        (try simp only [← hl9_4])
                        go_roundg k4
                        case measure => have := HK1.out; have := HK2.out; have := HK3.out; have := HK4.out; omega
                        case rel => exact ⟨(y151), (wrap64 (x13_4 + 1)), (by first | rfl | (simp; done) | (simp [*]; done)), H', ⟨by have := HK1.out; have := HK2.out; have := HK3.out; have := HK4.out; omega⟩, ⟨by (try simp only [hl9_2]); (try simp only [hl9_3]); (try simp only [hl9_4]); (with_reducible repeat (first | apply Kd.S_alloc | apply Kd.S_drewN | apply Kd.S_drew)); exact HQ64.out⟩, ⟨by (try simp only [hl9_2]); (try simp only [hl9_3]); (try simp only [hl9_4]); (with_reducible repeat (first | refine blk_drewN ?_ _ | refine blk_drew ?_ | refine blk_alloc ?_ _)); refine blk_far ?_ (by have h_ := Kd.R_ne HL148_0.out BK131.out (by decide); intro e_; exact h_ (by rw [e_]; rfl)) _; (with_reducible repeat (first | refine blk_drewN ?_ _ | refine blk_drew ?_ | refine blk_alloc ?_ _)); exact BK131.out⟩, ⟨by (try simp only [hl9_2]); (try simp only [hl9_3]); (try simp only [hl9_4]); (with_reducible repeat (first | refine blk_drewN ?_ _ | refine blk_drew ?_ | refine blk_alloc ?_ _)); refine blk_far ?_ (by have h_ := Kd.R_ne HL148_0.out BK132.out (by decide); intro e_; exact h_ (by rw [e_]; rfl)) _; (with_reducible repeat (first | refine blk_drewN ?_ _ | refine blk_drew ?_ | refine blk_alloc ?_ _)); exact BK132.out⟩, ⟨by (try simp only [hl9_2]); (try simp only [hl9_3]); (try simp only [hl9_4]); (with_reducible repeat (first | refine blk_drewN ?_ _ | refine blk_drew ?_ | refine blk_alloc ?_ _)); refine blk_far ?_ (by have h_ := Kd.R_ne HL148_0.out BK143.out (by decide); intro e_; exact h_ (by rw [e_]; rfl)) _; (with_reducible repeat (first | refine blk_drewN ?_ _ | refine blk_drew ?_ | refine blk_alloc ?_ _)); exact BK143.out⟩, ⟨by repeat (first | (with_reducible first | exact HB.out | apply below_alloc | apply pw_below_drewN | apply below_drew1 | refine below_set ?_ GB59.out | refine below_set ?_ GE131.out | refine below_set ?_ GE132.out | refine below_set ?_ GE143.out) | exact HB.out)⟩⟩
                       ·rw [if_neg c58] at H
                        exact absurd H (by simp)
                      ·rw [if_neg c57] at H
                       exact absurd H (by simp)
                     ·rw [if_neg c55] at H
                      exact absurd H (by simp)
                    ·rw [if_neg c54] at H
                     exact absurd H (by simp)
                   ·rw [if_neg c52] at H
                    have c52b0 : decide (x13_4 < ((rd_T83 l0 x58_3).f1)) = false := decide_eq_false c52
                    clear c52
                    have H' := Aside0.mk H
                    clear H
                    have hnb66 := NB143_131.out
                    have hnc66 := NB131_143.out
                    have hnb67 := NB143_132.out
                    have hnc67 := NB132_143.out
                    have hcz68_0 : wr.cell? ⟨gb143, 0, none⟩ = some (.int .i64 ((rd_T83 l0 x58_3).f0)) := (blk_cell BK143.out 0).trans rfl
                    have hcz68_1 : wr.cell? ⟨gb143, 1, none⟩ = some (.int .i64 ((rd_T83 l0 x58_3).f1)) := (blk_cell BK143.out 1).trans rfl
                    have hcz68_2 : wr.cell? ⟨gb143, 2, none⟩ = some (.int .i64 ((rd_T83 l0 x58_3).f2)) := (blk_cell BK143.out 2).trans rfl
                    have hfz68_0 := blk_frozen BK143.out 0
                    have hfz68_1 := blk_frozen BK143.out 1
                    have hfz68_2 := blk_frozen BK143.out 2
                    go_wp2
                    (try simp only [← hl9_3, ← hl9_4])
                    go_roundg k4
                    case measure => have := HK1.out; have := HK2.out; have := HK3.out; have := HK4.out; omega
                    case rel => exact ⟨(x9_4), (wrap64 (x58_3 + 1)), (by first | rfl | (simp; done) | (simp [*]; done)), H', ⟨by have := HK1.out; have := HK2.out; have := HK3.out; have := HK4.out; omega⟩, ⟨by (try simp only [hl9_2]); (try simp only [hl9_3]); (try simp only [hl9_4]); (with_reducible repeat (first | apply Kd.S_alloc | apply Kd.S_drewN | apply Kd.S_drew)); exact HO_9.out⟩, ⟨by (try simp only [hl9_2]); (try simp only [hl9_3]); (try simp only [hl9_4]); (with_reducible repeat (first | refine blk_drewN ?_ _ | refine blk_drew ?_ | refine blk_alloc ?_ _)); exact BK131.out⟩, ⟨by (try simp only [hl9_2]); (try simp only [hl9_3]); (try simp only [hl9_4]); (with_reducible repeat (first | refine blk_drewN ?_ _ | refine blk_drew ?_ | refine blk_alloc ?_ _)); exact BK132.out⟩, ⟨by repeat (first | (with_reducible first | exact HB.out | apply below_alloc | apply pw_below_drewN | apply below_drew1 | refine below_set ?_ GE131.out | refine below_set ?_ GE132.out | refine below_set ?_ GE143.out) | exact HB.out)⟩⟩
                ·rw [if_neg c41] at H
                 exact absurd H (by simp)
               ·rw [if_neg c40] at H
                exact absurd H (by simp)
              ·rw [if_neg c38] at H
               exact absurd H (by simp)
             ·rw [if_neg c37] at H
              exact absurd H (by simp)
            ·rw [if_neg c36] at H
             exact absurd H (by simp)
           ·rw [if_neg c35] at H
            have c35b0 : decide (x58_3 < (l0.length : Int)) = false := decide_eq_false c35
            clear c35
            have H' := Aside0.mk H
            clear H
            have hnb69 := NB132_131.out
            have hnc69 := NB131_132.out
            have hcz70_0 : wr.cell? ⟨gb132, 0, none⟩ = some (.int .i64 (l0.length : Int)) := (blk_cell BK132.out 0).trans rfl
            have hcz70_1 : wr.cell? ⟨gb132, 1, none⟩ = some (.int .i64 x133001_1) := (blk_cell BK132.out 1).trans rfl
            have hcz70_2 : wr.cell? ⟨gb132, 2, none⟩ = some (.int .i64 x133002_1) := (blk_cell BK132.out 2).trans rfl
            have hcz70_3 : wr.cell? ⟨gb132, 3, none⟩ = some (.int .i64 0) := (blk_cell BK132.out 3).trans rfl
            have hcz70_4 : wr.cell? ⟨gb132, 4, none⟩ = some (.slice none 0 0) := (blk_cell BK132.out 4).trans rfl
            have hfz70_0 := blk_frozen BK132.out 0
            have hfz70_1 := blk_frozen BK132.out 1
            have hfz70_2 := blk_frozen BK132.out 2
            have hfz70_3 := blk_frozen BK132.out 3
            have hfz70_4 := blk_frozen BK132.out 4
            go_wp2
            go_loopg [93] k3 (fun kq v93 w' => ∃ (x9_4 : List (List Int)) (x93_4 : Int), v93 = .int .i64 x93_4 ∧ Aside0 (flow_assign.l4 kq a1 ji17 x9_4 x133001_1 x93_4 (l0.length : Int) x133001_1 x133002_1 0 = some (r1, r2, r3, r4, r5)) ∧ Aside0 (kq ≤ k3) ∧ Aside0 (Kd.S (Kd.slice 3 (Kd.int .i64)) 55 w' w.heap.size (fun _ => True) (.slice Ao24 x9_3.length co24) x9_4) ∧ Aside0 (w'.heap[gb131]? = some (.cells #[.int .i64 0, .int .i64 0, .int .i64 0, .int .i64 0, (.slice none 0 0)] 107 (0, 0))) ∧ Aside0 (w'.heap[gb132]? = some (.cells #[.int .i64 (l0.length : Int), .int .i64 x133001_1, .int .i64 x133002_1, .int .i64 0, (.slice none 0 0)] 107 (0, 0))) ∧ Aside0 (Below w.heap.size w w'))
            case atStart => exact ⟨(x9_3), (0), (by first | rfl | (simp; done) | (simp [*]; done)), H', ⟨Nat.le_refl _⟩, ⟨by (try simp only [hl9_2]); (try simp only [hl9_3]); (with_reducible repeat (first | apply Kd.S_alloc | apply Kd.S_drewN | apply Kd.S_drew)); exact HO_9.out⟩, ⟨by (try simp only [hl9_2]); (try simp only [hl9_3]); (with_reducible repeat (first | refine blk_drewN ?_ _ | refine blk_drew ?_ | refine blk_alloc ?_ _)); exact BK131.out⟩, ⟨by (try simp only [hl9_2]); (try simp only [hl9_3]); (with_reducible repeat (first | refine blk_drewN ?_ _ | refine blk_drew ?_ | refine blk_alloc ?_ _)); exact BK132.out⟩, ⟨by repeat (first | (with_reducible first | exact HB.out | apply below_alloc | apply pw_below_drewN | apply below_drew1 | refine below_set ?_ GE131.out | refine below_set ?_ GE132.out) | exact HB.out)⟩⟩
            case round =>
             clear H'
             try clear c1
             try clear p1
             try clear q1
             try clear hx1
             try clear qi1
             try clear c2
             try clear p2
             try clear c3
             try clear p3
             try clear q3
             try clear hx3
             try clear hf3
             try clear c4
             try clear p4
             try clear q4
             try clear hx4
             try clear hf4
             try clear c5
             try clear p5
             try clear q5
             try clear hx5
             try clear hf5
             try clear c6
             try clear p6
             try clear q6
             try clear c7
             try clear c7b0
             try clear c8
             try clear c8b0
             try clear c9
             try clear c9b0
             try clear c12
             try clear c13
             try clear p13
             try clear q13
             try clear hx13
             try clear c14
             try clear p14
             try clear q14
             try clear hx14
             try clear qi14
             try clear c15
             try clear c18
             try clear c18b0
             try clear c18b1
             try clear c19
             try clear c19b0
             try clear c19b1
             try clear c20
             try clear c25
             try clear c25b0
             try clear c26
             try clear c26b0
             try clear c26b1
             try clear c27
             try clear c27b0
             try clear c27b1
             try clear c28
             try clear c28b0
             try clear c29
             try clear c29b0
             try clear c30
             try clear p30
             try clear q30
             try clear hx30
             try clear hf30
             try clear c33
             try clear hx33
             try clear hf33
             try clear c35
             try clear c35b0
             try clear c36
             try clear c36b0
             try clear c37
             try clear c37b0
             try clear c38
             try clear c38b0
             try clear c38b1
             try clear c40
             try clear c40b0
             try clear c41
             try clear c41b0
             try clear p42
             try clear q42
             try clear hx42
             try clear hf42
             try clear c44
             try clear c45
             try clear c49
             try clear q49
             try clear c52
             try clear c52b0
             try clear c54
             try clear c54b0
             try clear c55
             try clear c55b0
             try clear c57
             try clear c57b0
             try clear c58
             try clear c58b0
             try clear p59
             try clear q59
             try clear hx59
             try clear hf59
             try clear c60
             try clear c61
             try clear c64
             try clear p64
             try clear q64
             try clear c66
             try clear c67
             try clear c69
             try clear hcz14_0
             try clear hcz14_1
             try clear hcz14_2
             try clear hcz16_0
             try clear hcz16_1
             try clear hcz16_2
             try clear hcz16_3
             try clear hcz16_4
             try clear hcz21_0
             try clear hcz21_1
             try clear hcz21_2
             try clear hcz21_3
             try clear hcz21_4
             try clear hcz46_0
             try clear hcz46_1
             try clear hcz46_2
             try clear hcz51_0
             try clear hcz51_1
             try clear hcz51_2
             try clear hcz62_0
             try clear hcz62_1
             try clear hcz62_2
             try clear hcz68_0
             try clear hcz68_1
             try clear hcz68_2
             try clear hcz6_0
             try clear hcz6_1
             try clear hcz6_2
             try clear hcz6_3
             try clear hcz6_4
             try clear hcz70_0
             try clear hcz70_1
             try clear hcz70_2
             try clear hcz70_3
             try clear hcz70_4
             try clear hfz14_0
             try clear hfz14_1
             try clear hfz14_2
             try clear hfz16_0
             try clear hfz16_1
             try clear hfz16_2
             try clear hfz16_3
             try clear hfz16_4
             try clear hfz21_0
             try clear hfz21_1
             try clear hfz21_2
             try clear hfz21_3
             try clear hfz21_4
             try clear hfz46_0
             try clear hfz46_1
             try clear hfz46_2
             try clear hfz51_0
             try clear hfz51_1
             try clear hfz51_2
             try clear hfz62_0
             try clear hfz62_1
             try clear hfz62_2
             try clear hfz68_0
             try clear hfz68_1
             try clear hfz68_2
             try clear hfz6_0
             try clear hfz6_1
             try clear hfz6_2
             try clear hfz6_3
             try clear hfz6_4
             try clear hfz70_0
             try clear hfz70_1
             try clear hfz70_2
             try clear hfz70_3
             try clear hfz70_4
             try clear hx133_0
             try clear hx133_1
             try clear hx133_2
             try clear hx142_0
             try clear hx142_1
             try clear hx142_2
             try clear hx144_0
             try clear hx148_0
             try clear hx30_0
             try clear hx33_0
             try clear hx42_0
             try clear hx59_0
             try clear p1
             try clear p13
             try clear p133
             try clear p14
             try clear p142
             try clear p144
             try clear p148
             try clear p2
             try clear p3
             try clear p30
             try clear p4
             try clear p42
             try clear p59
             try clear p6
             try clear q1
             try clear q13
             try clear q133
             try clear q14
             try clear q142
             try clear q144
             try clear q148
             try clear q3
             try clear q30
             try clear q4
             try clear q42
             try clear q49
             try clear q59
             obtain ⟨x9_4, x93_4, rfl, HA, HK4, HO_9, BK131, BK132, HB⟩ := hrel
             have hl9_4 := (Kd.S_reads' HO_9.out).1
             rw [hl9_4] at HO_9
             (try simp only [hl9_4])
             (try simp only [hl9_4] at BK131)
             (try simp only [hl9_4] at BK132)
             cases gk with
             | zero => exact absurd HA.out (by simp [flow_assign.l4])
             | succ k4 =>
              have H := HA.out
              clear HA
              simp only [flow_assign.l4] at H
              by_cases c71 : x93_4 < x133001_1
              ·rw [if_pos c71] at H
               have c71b0 : decide (x93_4 < x133001_1) = true := decide_eq_true c71
               clear c71
               obtain ⟨ji72, hji72⟩ : ∃ j_ : Int, (wrap64 ((wrap64 (1 + (l0.length : Int))) + x93_4)) = j_ := ⟨_, rfl⟩
               replace H : (if 0 ≤ (ji72) then (if (ji72) < (x9_4.length : Int) then (if 0 ≤ (wrap64 (ji17 - 1)) then (if (wrap64 (ji17 - 1)) < ((rd_L4 x9_4 (ji72)).length : Int) then (flow_assign.l4 k4 a1 ji17 (x9_4.set ((ji72) : Int).toNat ((rd_L4 x9_4 (ji72)).set ((wrap64 (ji17 - 1)) : Int).toNat a1)) x133001_1 (wrap64 (x93_4 + 1)) (l0.length : Int) x133001_1 x133002_1 0) else (none)) else (none)) else (none)) else (none)) = some (r1, r2, r3, r4, r5) := by first | (rw [hji72] at H; exact H) | (simp only [hji72] at H ⊢; exact H)
               have hji72w : (IntKind.i64.wrap ((wrap64 (1 + (l0.length : Int))) + x93_4)) = ji72 := (i64_w _).trans hji72
               by_cases c73 : 0 ≤ (ji72)
               ·rw [if_pos c73] at H
                have c73b0 : decide (0 ≤ (ji72)) = true := decide_eq_true c73
                clear c73
                by_cases c74 : (ji72) < (x9_4.length : Int)
                ·rw [if_pos c74] at H
                 have c74b0 : decide ((ji72) < (x9_4.length : Int)) = true := decide_eq_true c74
                 clear c74
                 obtain ⟨ji75, hji75⟩ : ∃ j_ : Int, (wrap64 (ji17 - 1)) = j_ := ⟨_, rfl⟩
                 replace H : (if 0 ≤ (ji75) then (if (ji75) < ((rd_L4 x9_4 (ji72)).length : Int) then (flow_assign.l4 k4 a1 ji17 (x9_4.set ((ji72) : Int).toNat ((rd_L4 x9_4 (ji72)).set ((ji75) : Int).toNat a1)) x133001_1 (wrap64 (x93_4 + 1)) (l0.length : Int) x133001_1 x133002_1 0) else (none)) else (none)) = some (r1, r2, r3, r4, r5) := by first | (rw [hji75] at H; exact H) | (simp only [hji75] at H ⊢; exact H)
                 have hji75w : (IntKind.i64.wrap (ji17 - 1)) = ji75 := (i64_w _).trans hji75
                 by_cases c76 : 0 ≤ (ji75)
                 ·rw [if_pos c76] at H
                  have c76b0 : decide (0 ≤ (ji75)) = true := decide_eq_true c76
                  clear c76
                  by_cases c77 : (ji75) < ((rd_L4 x9_4 (ji72)).length : Int)
                  ·rw [if_pos c77] at H
                   have c77b0 : decide ((ji75) < ((rd_L4 x9_4 (ji72)).length : Int)) = true := decide_eq_true c77
                   clear c77
                   obtain ⟨y153, hy153⟩ : ∃ y_ : List Int, y_ = ((rd_L4 x9_4 (ji72)).set ((ji75) : Int).toNat a1) := ⟨_, rfl⟩
                   replace H : (flow_assign.l4 k4 a1 ji17 (x9_4.set ((ji72) : Int).toNat y153) x133001_1 (wrap64 (x93_4 + 1)) (l0.length : Int) x133001_1 x133002_1 0) = some (r1, r2, r3, r4, r5) := by first | (rw [hy153]; with_reducible exact H) | (have H2_ := (Option.bind_some _ _).symm.trans H; rw [hy153]; with_reducible exact H2_) | (have H2_ := (Option.bind_some _ _).symm.trans H; with_reducible exact H2_) | with_reducible exact H | (rw [hy153]; exact H) | exact H
                   have Ny153 := Aside0.mk hy153
                   clear hy153
                   obtain ⟨y155, hy155⟩ : ∃ y_ : List (List Int), y_ = (x9_4.set ((ji72) : Int).toNat y153) := ⟨_, rfl⟩
                   replace H : (flow_assign.l4 k4 a1 ji17 y155 x133001_1 (wrap64 (x93_4 + 1)) (l0.length : Int) x133001_1 x133002_1 0) = some (r1, r2, r3, r4, r5) := by first | (rw [hy155]; with_reducible exact H) | (have H2_ := (Option.bind_some _ _).symm.trans H; rw [hy155]; with_reducible exact H2_) | (have H2_ := (Option.bind_some _ _).symm.trans H; with_reducible exact H2_) | with_reducible exact H | (rw [hy155]; exact H) | exact H
                   have Ny155 := Aside0.mk hy155
                   clear hy155
                   have H' := Aside0.mk H
                   clear H
                   have hnb79 := NB132_131.out
                   have hnc79 := NB131_132.out
                   have hcz80_0 : wr.cell? ⟨gb132, 0, none⟩ = some (.int .i64 (l0.length : Int)) := (blk_cell BK132.out 0).trans rfl
                   have hcz80_1 : wr.cell? ⟨gb132, 1, none⟩ = some (.int .i64 x133001_1) := (blk_cell BK132.out 1).trans rfl
                   have hcz80_2 : wr.cell? ⟨gb132, 2, none⟩ = some (.int .i64 x133002_1) := (blk_cell BK132.out 2).trans rfl
                   have hcz80_3 : wr.cell? ⟨gb132, 3, none⟩ = some (.int .i64 0) := (blk_cell BK132.out 3).trans rfl
                   have hcz80_4 : wr.cell? ⟨gb132, 4, none⟩ = some (.slice none 0 0) := (blk_cell BK132.out 4).trans rfl
                   have hfz80_0 := blk_frozen BK132.out 0
                   have hfz80_1 := blk_frozen BK132.out 1
                   have hfz80_2 := blk_frozen BK132.out 2
                   have hfz80_3 := blk_frozen BK132.out 3
                   have hfz80_4 := blk_frozen BK132.out 4
                   have p152 : 0 ≤ ((ji72) : Int) := of_decide_eq_true (by first | (with_reducible assumption) | assumption)
                   have q152 : (ji72) < (x9_4.length : Int) := of_decide_eq_true (by first | (with_reducible assumption) | assumption)
                   obtain ⟨ad152, A152_0, c152_0, e152, hx152_0, hl152_0, hi152_0⟩ := at_L4 (Kd.S_reads' HO_9.out).2.2 (ji72) p152 q152
                   cases e152
                   obtain ⟨ce152, hce152, hMe152, hcc152⟩ := Kd.S_get HO_9.out [] (ji72) p152 (by first | exact q152 | exact of_decide_eq_true (by first | (with_reducible assumption) | assumption) | (have e_ := (Kd.S_reads' HO_9.out).1; omega))
                   obtain ⟨ve152_0, rfl, ge152_0⟩ := hMe152
                   have hv152_0 := hcc152 0 _ rfl
                   rw [Nat.add_zero, show ((Kd.slice 3 (Kd.int .i64))).sz = 1 from rfl, Nat.mul_one] at hv152_0
                   replace hv152_0 := Option.some.inj (hv152_0.symm.trans hx152_0)
                   rw [hv152_0] at ge152_0
                   have HL152_0 := Aside0.mk (show Kd.R (Kd.int .i64) 3 _ _ _ _ (rd_L4 x9_4 (ji72)) from ge152_0)
                   clear hv152_0 ge152_0
                   have HX152_0 := Aside0.mk hx152_0
                   clear hcc152 hce152
                   have HR152_0 := Aside0.mk hi152_0
                   have HC152_0 := Aside0.mk hl152_0
                   clear hi152_0 hl152_0
                   replace p152 := eq_true p152
                   replace q152 := eq_true q152
                   have p78 : 0 ≤ ((ji75) : Int) := of_decide_eq_true (by first | (with_reducible assumption) | assumption)
                   have q78 : ((ji75) : Int) < (((rd_L4 x9_4 (ji72)).length : Int) : Int) := of_decide_eq_true (by first | (with_reducible assumption) | assumption)
                   obtain ⟨go78, co78, eo78, gb78, gl78, cl78, HG78⟩ := Kd.R_form HL152_0.out (pos_of_idx p78 q78)
                   (first | cases eo78 | (injection eo78 with ea_ en_ ec_; (first | subst ea_ | (injection ea_ with ea_; subst ea_)); subst ec_; clear en_))
                   have GB78 := Aside0.mk gb78
                   have GG78 := Aside0.mk HG78
                   clear gb78 gl78 HG78
                   obtain ⟨hx78_0, hf78_0⟩ := Kd.R_celln 0 HL152_0.out ((ji75) : Int) p78 q78
                   replace p78 := eq_true p78
                   replace q78 := eq_true q78
                   have hq81 : ((ji72) : Int) < (x9_4.length : Int) := (by have h_ : ((ji72) : Int) < ((x9_4.length : Int) : Int) := of_decide_eq_true (by first | (with_reducible assumption) | assumption); first | exact h_ | (have e_ := (Kd.S_reads' HO_9.out).1; omega) | simpa only [List.length_set, List.length_set] using h_)
                   obtain ⟨oki81, ce81, hcl81, hM81, hcc81, hok81, hbk81⟩ := Kd.S_borrow HO_9.out [] ((ji72) : Int) (of_decide_eq_true (by first | (with_reducible assumption) | assumption)) hq81
                   obtain ⟨ve81_0, rfl, ge81_0⟩ := hM81
                   have hv81 := hcc81 0 _ rfl
                   rw [Nat.add_zero, show ((Kd.slice 3 (Kd.int .i64))).sz = 1 from rfl, Nat.mul_one] at hv81
                   replace hv81 := Option.some.inj (hv81.symm.trans HX152_0.out)
                   subst hv81
                   clear hcc81 hcl81
                   replace ge81_0 := (show Kd.R (Kd.int .i64) 3 _ _ _ _ (rd_L4 x9_4 (ji72)) from ge81_0)
                   have HP81 := Kd.R_putg ge81_0 ((ji75) : Int) a1
                   go_wp2_with (first | ((with_reducible refine gate_store (t := 3) (p := 107) rfl ?_); refine store_event (t := 3) (p := 107) (v := ?vo_w82) (w1 := (wr.setCell ⟨go78, ((ji75) : Int).toNat, none⟩ (.int .i64 a1))) ?hg ?ho ?hn ?hr ?_; (case ho => rfl); (case hg => rfl); (case hn => rfl); (case hr => first | (go_simp; done) | (go_simp; rfl)); intro w82 hw; have hg : wr.grownBy w82 (some go78) := (by rw [hw]; exact HP81.2); have hz_ : Kd.R (Kd.int .i64) 3 w82 w.heap.size oki81 (.slice (some ⟨go78, 0, none⟩) (rd_L4 x9_4 (ji72)).length c152_0) y153 := (by rw [hw, Ny153.out]; exact HP81.1); have hp_ : Kd.S (Kd.slice 3 (Kd.int .i64)) 55 w82 w.heap.size (fun _ => True) (.slice (some ad152) x9_4.length co24) y155 := (by rw [Ny155.out]; exact hbk81 hg (fun k_ e_ => by injection e_ with e_; subst e_; exact ge81_0.1 _ rfl) (Kd.M_row hz_)); have hm_ := Kd.R_mono hz_ hok81; clear HP81 hbk81; have n0_ := Aside0.mk (hp_); have n1_ := Aside0.mk (blk_grown (g := gb131) (o := .cells #[.int .i64 0, .int .i64 0, .int .i64 0, .int .i64 0, .slice none 0 0] 107 (0, 0)) (by (with_reducible repeat (first | refine blk_drewN ?_ _ | refine blk_drew ?_ | refine blk_alloc ?_ _)); exact BK131.out) hg (Kd.R_ne HL152_0.out BK131.out (by decide))); have n2_ := Aside0.mk (blk_grown (g := gb132) (o := .cells #[.int .i64 (l0.length : Int), .int .i64 x133001_1, .int .i64 x133002_1, .int .i64 0, .slice none 0 0] 107 (0, 0)) (by (with_reducible repeat (first | refine blk_drewN ?_ _ | refine blk_drew ?_ | refine blk_alloc ?_ _)); exact BK132.out) hg (Kd.R_ne HL152_0.out BK132.out (by decide))); have n3_ := Aside0.mk ((by rw [hw]; exact below_set (HB.out) GB78.out : Below w.heap.size w w82)); have n4_ := Aside0.mk (hm_); have n5_ := Aside0.mk ((Kd.R_reads' hm_).2.1); clear HO_9; clear BK131; clear BK132; clear HB; clear HL152_0; have HO_9 := n0_; have BK131 := n1_; have BK132 := n2_; have HB := n3_; have HL160 := n4_; have HC154 := n5_; clear n0_ n1_ n2_ n3_ n4_ n5_; clear hg hw hp_ hz_ hm_ hok81))
                   (try simp only [← hl9_4])
                   go_roundg k4
                   case measure => have := HK1.out; have := HK2.out; have := HK3.out; have := HK4.out; omega
                   case rel => exact ⟨(y155), (wrap64 (x93_4 + 1)), (by first | rfl | (simp; done) | (simp [*]; done)), H', ⟨by have := HK1.out; have := HK2.out; have := HK3.out; have := HK4.out; omega⟩, ⟨by (try simp only [hl9_2]); (try simp only [hl9_3]); (try simp only [hl9_4]); (with_reducible repeat (first | apply Kd.S_alloc | apply Kd.S_drewN | apply Kd.S_drew)); exact HO_9.out⟩, ⟨by (try simp only [hl9_2]); (try simp only [hl9_3]); (try simp only [hl9_4]); (with_reducible repeat (first | refine blk_drewN ?_ _ | refine blk_drew ?_ | refine blk_alloc ?_ _)); exact BK131.out⟩, ⟨by (try simp only [hl9_2]); (try simp only [hl9_3]); (try simp only [hl9_4]); (with_reducible repeat (first | refine blk_drewN ?_ _ | refine blk_drew ?_ | refine blk_alloc ?_ _)); exact BK132.out⟩, ⟨by repeat (first | (with_reducible first | exact HB.out | apply below_alloc | apply pw_below_drewN | apply below_drew1 | refine below_set ?_ GE131.out | refine below_set ?_ GE132.out) | exact HB.out)⟩⟩
                  ·rw [if_neg c77] at H
                   exact absurd H (by simp)
                 ·rw [if_neg c76] at H
                  exact absurd H (by simp)
                ·rw [if_neg c74] at H
                 exact absurd H (by simp)
               ·rw [if_neg c73] at H
                exact absurd H (by simp)
              ·rw [if_neg c71] at H
               have c71b0 : decide (x93_4 < x133001_1) = false := decide_eq_false c71
               clear c71
               replace H := Option.bind_eq_some_iff.mp H
               obtain ⟨⟨t156, t157⟩, A830, H⟩ := H
               replace H : (some ((l0.length : Int), x133001_1, x133002_1, t156, t157)) = some (r1, r2, r3, r4, r5) := H
               have A83 := Aside0.mk A830
               clear A830
               simp only [Option.some.injEq, Prod.mk.injEq] at H
               obtain ⟨rfl, rfl, rfl, rfl, rfl⟩ := H
               go_wp2_with (first | ((with_reducible refine gate_callee (f := 72) rfl ?_); refine goesL_ (some 113) rfl rfl Try.func72 (by kernel_rfl) rfl #[.slice Ao24 x9_4.length co24, .int .i64 0, .int .i64 (wrap64 (ji17 - 1))] rfl (by (try simp only [List.map_toArray, List.map_cons, List.map_nil]); first | done | (simp only [hji17]; rfl) | rfl | (simp only [List.length_drop, List.length_take]; rfl)) ?_; (with_reducible refine (flow_maximize.calls k4 _ _ x9_4 0 (wrap64 (ji17 - 1)) t156 t157 _ ?side1 ?side2 A83.out).mono ?_); (case side1 => repeat (first | exact (Kd.S_reads' HO_9.out).2.2 | (with_reducible refine Kd.C_alloc ?_ _) | (with_reducible refine Kd.C_drewN ?_ _) | (with_reducible refine Kd.C_drew ?_))); (case side2 => exact (Kd.S_reads' HO_9.out).2.1); rintro e w84 ⟨v158, rfl, ho0, hb⟩; refine ⟨_, rfl, ?_⟩; have n0_ := Aside0.mk (Kd.S_elder' (by (with_reducible repeat (first | apply Kd.S_alloc | apply Kd.S_drewN | apply Kd.S_drew)); exact HO_9.out) (Kd.S_base ho0) hb); have n1_ := Aside0.mk (Kd.S_lower (Kd.S_new' ho0 (Kd.S_lt (by (with_reducible repeat (first | apply Kd.S_alloc | apply Kd.S_drewN | apply Kd.S_drew)); exact HO_9.out))) (below_size (by repeat (first | (with_reducible first | exact HB.out | apply below_alloc | apply pw_below_drewN | apply below_drew1 | refine below_set ?_ GE131.out | refine below_set ?_ GE132.out) | exact HB.out)))); have n2_ := Aside0.mk (blk_below (g := gb131) (o := .cells #[.int .i64 0, .int .i64 0, .int .i64 0, .int .i64 0, .slice none 0 0] 107 (0, 0)) (by (with_reducible repeat (first | refine blk_drewN ?_ _ | refine blk_drew ?_ | refine blk_alloc ?_ _)); exact BK131.out) hb); have n3_ := Aside0.mk (blk_below (g := gb132) (o := .cells #[.int .i64 (l0.length : Int), .int .i64 x133001_1, .int .i64 x133002_1, .int .i64 0, .slice none 0 0] 107 (0, 0)) (by (with_reducible repeat (first | refine blk_drewN ?_ _ | refine blk_drew ?_ | refine blk_alloc ?_ _)); exact BK132.out) hb); have n4_ := Aside0.mk (below_step (by repeat (first | (with_reducible first | exact HB.out | apply below_alloc | apply pw_below_drewN | apply below_drew1 | refine below_set ?_ GE131.out | refine below_set ?_ GE132.out) | exact HB.out)) hb); clear HO_9; clear BK131; clear BK132; clear HB; have HO_9 := n0_; have HO159 := n1_; have BK131 := n2_; have BK132 := n3_; have HB := n4_; clear n0_ n1_ n2_ n3_ n4_; (try clear hb); (try clear hb2); (try clear hk); (try clear hi); (try clear ho0); have hnb85 := NB132_131.out; have hnc85 := NB131_132.out; have hcz86_0 : w84.cell? ⟨gb132, 0, none⟩ = some (.int .i64 (l0.length : Int)) := (blk_cell BK132.out 0).trans rfl; have hcz86_1 : w84.cell? ⟨gb132, 1, none⟩ = some (.int .i64 x133001_1) := (blk_cell BK132.out 1).trans rfl; have hcz86_2 : w84.cell? ⟨gb132, 2, none⟩ = some (.int .i64 x133002_1) := (blk_cell BK132.out 2).trans rfl; have hcz86_3 : w84.cell? ⟨gb132, 3, none⟩ = some (.int .i64 0) := (blk_cell BK132.out 3).trans rfl; have hcz86_4 : w84.cell? ⟨gb132, 4, none⟩ = some (.slice none 0 0) := (blk_cell BK132.out 4).trans rfl; have hfz86_0 := blk_frozen BK132.out 0; have hfz86_1 := blk_frozen BK132.out 1; have hfz86_2 := blk_frozen BK132.out 2; have hfz86_3 := blk_frozen BK132.out 3; have hfz86_4 := blk_frozen BK132.out 4; obtain ⟨Ao87, co87, eo87⟩ := Kd.S_slice HO159.out; subst eo87; have hcz88_0 : w84.cell? ⟨gb131, 0, none⟩ = some (.int .i64 0) := (blk_cell BK131.out 0).trans rfl; have hcz88_1 : w84.cell? ⟨gb131, 1, none⟩ = some (.int .i64 0) := (blk_cell BK131.out 1).trans rfl; have hcz88_2 : w84.cell? ⟨gb131, 2, none⟩ = some (.int .i64 0) := (blk_cell BK131.out 2).trans rfl; have hcz88_3 : w84.cell? ⟨gb131, 3, none⟩ = some (.int .i64 0) := (blk_cell BK131.out 3).trans rfl; have hcz88_4 : w84.cell? ⟨gb131, 4, none⟩ = some (.slice none 0 0) := (blk_cell BK131.out 4).trans rfl; have hfz88_0 := blk_frozen BK131.out 0; have hfz88_1 := blk_frozen BK131.out 1; have hfz88_2 := blk_frozen BK131.out 2; have hfz88_3 := blk_frozen BK131.out 3; have hfz88_4 := blk_frozen BK131.out 4))
               refine bodyPost_ret (results_cell_row rfl _ _ gb131 107 #[.int .i64 (l0.length : Int), .int .i64 x133001_1, .int .i64 x133002_1, .int .i64 t156, .slice Ao87 t157.length co87] (0, 0) _ rfl (by (with_reducible repeat (first | refine blk_drewN ?_ _ | refine blk_drew ?_ | refine blk_alloc ?_ _)); refine blk_put (cs := #[.int .i64 (l0.length : Int), .int .i64 x133001_1, .int .i64 x133002_1, .int .i64 t156, .slice none 0 0]) ?_ 4 _ rfl; (with_reducible repeat (first | refine blk_drewN ?_ _ | refine blk_drew ?_ | refine blk_alloc ?_ _)); refine blk_put (cs := #[.int .i64 (l0.length : Int), .int .i64 x133001_1, .int .i64 x133002_1, .int .i64 0, .slice none 0 0]) ?_ 3 _ rfl; (with_reducible repeat (first | refine blk_drewN ?_ _ | refine blk_drew ?_ | refine blk_alloc ?_ _)); refine blk_put (cs := #[.int .i64 (l0.length : Int), .int .i64 x133001_1, .int .i64 0, .int .i64 0, .slice none 0 0]) ?_ 2 _ rfl; (with_reducible repeat (first | refine blk_drewN ?_ _ | refine blk_drew ?_ | refine blk_alloc ?_ _)); refine blk_put (cs := #[.int .i64 (l0.length : Int), .int .i64 0, .int .i64 0, .int .i64 0, .slice none 0 0]) ?_ 1 _ rfl; (with_reducible repeat (first | refine blk_drewN ?_ _ | refine blk_drew ?_ | refine blk_alloc ?_ _)); refine blk_put (cs := #[.int .i64 0, .int .i64 0, .int .i64 0, .int .i64 0, .slice none 0 0]) ?_ 0 _ rfl; (with_reducible repeat (first | refine blk_drewN ?_ _ | refine blk_drew ?_ | refine blk_alloc ?_ _)); refine blk_far ?_ NB131_132.out _; (with_reducible repeat (first | refine blk_drewN ?_ _ | refine blk_drew ?_ | refine blk_alloc ?_ _)); refine blk_far ?_ NB131_132.out _; (with_reducible repeat (first | refine blk_drewN ?_ _ | refine blk_drew ?_ | refine blk_alloc ?_ _)); exact BK131.out) Try.underlying107 rfl (by kernel_rfl)) rfl ?_
               exact ⟨_, by first | rfl | (simp [errW_none, errW_some] <;> rfl) | (simp only [← hji17]; first | rfl | (simp [errW_none, errW_some] <;> rfl)) | (simp [*, errW_none, errW_some] <;> rfl), by (with_reducible repeat (first | apply Kd.S_alloc | apply Kd.S_drewN | apply Kd.S_drew)); exact Kd.S_mono (Kd.S_far (p := ⟨gb131, 4, none⟩) (Kd.S_far (p := ⟨gb131, 3, none⟩) (Kd.S_far (p := ⟨gb131, 2, none⟩) (Kd.S_far (p := ⟨gb131, 1, none⟩) (Kd.S_far (p := ⟨gb131, 0, none⟩) (Kd.S_far (p := ⟨gb132, 4, none⟩) (Kd.S_far (p := ⟨gb132, 3, none⟩) (Kd.S_types (Kd.S_types HO159.out BK132.out (by decide)) BK131.out (by decide)) (fun _ hk => hk.1.2) (.int .i64 t156)) (fun _ hk => hk.1.2) (.slice Ao87 t157.length co87)) (fun _ hk => hk.2) (.int .i64 (l0.length : Int))) (fun _ hk => hk.2) (.int .i64 x133001_1)) (fun _ hk => hk.2) (.int .i64 x133002_1)) (fun _ hk => hk.2) (.int .i64 t156)) (fun _ hk => hk.2) (.slice Ao87 t157.length co87)) (fun _ hk => trivial), by repeat (first | (with_reducible first | exact HB.out | apply below_alloc | apply pw_below_drewN | apply below_drew1 | refine below_set ?_ GE131.out | refine below_set ?_ GE132.out) | exact HB.out)⟩
     ·rw [if_neg c19] at H
      exact absurd H (by simp)
    ·rw [if_neg c18] at H
     exact absurd H (by simp)

end Go.Proofs.Ythdjhgidccmlfaa.P
