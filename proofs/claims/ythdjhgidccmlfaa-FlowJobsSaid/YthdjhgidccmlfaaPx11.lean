/- Written by xprint.py: functions, proofs of contracts. -/
import Derived.Test.YthdjhgidccmlfaaPx0
import Derived.Test.YthdjhgidccmlfaaPx1
namespace Go.Proofs.Ythdjhgidccmlfaa.P
open Go.RowKit Go.Proofs.YthdjhgidccmlfaaW.PrintWords Go.Proofs.YthdjhgidccmlfaaW.PrintLast Go.Proofs.YthdjhgidccmlfaaW.PrintMore
attribute [local go_sem] max2_int min2_int max_two min_two max_three min_three max_four min_four   -- for this text's walks alone
set_option linter.unusedVariables false
set_option linter.unusedSimpArgs false

attribute [local go_sem high] eqA83
-- NOT PRINTED: function 75 (ontimeref47_choose)

-- NOT PRINTED: function 53 (ontimeref47_Fits)

-- NOT PRINTED: function 17 (ontimelaw47_FlowFits)

-- NOT PRINTED: function 18 (ontimelaw47_FlowEases)

/-! ### taskset_Valid: function 26 -/
def taskset_Valid.l0 : Nat → List (S24) → List (S24) → Int → Int → Option (Bool)
 | 0, _, _, _, _ => none
 | k + 1, x0, x5, x6, x7 => if x7 < x6 then (if 0 ≤ x7 then (if x7 < (x5.length : Int) then (if ((rd_T24 x5 x7).f1) < 1 then (some false) else (if ((rd_T24 x5 x7).f2) < ((rd_T24 x5 x7).f1) then (some false) else (if ((rd_T24 x5 x7).f2) > 1000 then (some false) else (taskset_Valid.l0 k x0 x5 x6 (wrap64 (x7 + 1)))))) else (none)) else (none)) else (some (decide ((x0.length : Int) ≤ 40)))
def taskset_Valid.f (k : Nat) (l0 : List (S24)) : Option (Bool) := taskset_Valid.l0 k l0 l0 (l0.length : Int) 0
theorem taskset_Valid.mono_l : ∀ k, (∀ y0 y1 y2 y3, LeO (taskset_Valid.l0 k y0 y1 y2 y3) (taskset_Valid.l0 (k + 1) y0 y1 y2 y3))
 | 0 => fun _ _ _ _ r h => by simp [taskset_Valid.l0] at h
 | k + 1 => by
  have ih0 := taskset_Valid.mono_l k
  ·intro y0 y1 y2 y3
   unfold taskset_Valid.l0
   repeat' first
   | (with_reducible exact ih0 _ _ _ _)
   | (with_reducible exact LeO.refl _)
   | (with_reducible exact LeO.none _)
   | (with_reducible refine LeO.ite ?_ ?_)
   | (with_reducible refine LeO.bind ?_ (fun _ => ?_))
   | exact ih0 _ _ _ _
   | exact LeO.none _
   | refine LeO.ite ?_ ?_
   | refine LeO.bind ?_ (fun _ => ?_)
theorem taskset_Valid.mono : ∀ a0 k, LeO (taskset_Valid.f k a0) (taskset_Valid.f (k + 1) a0) := by
 intro a0 k
 have ih0 := taskset_Valid.mono_l k
 unfold taskset_Valid.f
 repeat' first
   | (with_reducible exact ih0 _ _ _ _)
   | (with_reducible exact LeO.refl _)
   | (with_reducible exact LeO.none _)
   | (with_reducible refine LeO.ite ?_ ?_)
   | (with_reducible refine LeO.bind ?_ (fun _ => ?_))
   | exact ih0 _ _ _ _
   | exact LeO.none _
   | refine LeO.ite ?_ ?_
   | refine LeO.bind ?_ (fun _ => ?_)
set_option maxHeartbeats 8000000 in
set_option maxRecDepth 100000 in
theorem taskset_Valid.calls (k : Nat) (A0 : Option Addr) (c0 : Nat) (l0 : List (S24)) (r : Bool) (w : World) (hr0 : Kd.C k24 w A0 l0.length l0) (hc0 : l0.length ≤ c0) (h : taskset_Valid.f k l0 = some r) :
  Calls Try.prog 26 #[.slice A0 l0.length c0] w fun e w' => e = .returned (.bool r) ∧ Below w.heap.size w w' := by
 have hu24 := Try.underlying24
 have HR0 := Aside0.mk hr0
 have HC0 := Aside0.mk hc0
 clear hr0 hc0
 have HB := Aside0.mk (Below.refl w.heap.size w)
 have H : (taskset_Valid.l0 k l0 l0 (l0.length : Int) 0) = some r := h
 clear h
 have H' := Aside0.mk H
 clear H
 go_enter Try.func26, Try.ntmps26
 go_wp2
 go_loopg [7] k (fun kq v7 w' => ∃ (x7_1 : Int), v7 = .int .i64 x7_1 ∧ Aside0 (taskset_Valid.l0 kq l0 l0 (l0.length : Int) x7_1 = some r) ∧ Aside0 (kq ≤ k) ∧ Aside0 (Below w.heap.size w w'))
 case atStart => exact ⟨(0), (by first | rfl | (simp; done) | (simp [*]; done)), H', ⟨Nat.le_refl _⟩, ⟨by repeat (first | (with_reducible first | exact HB.out | apply below_alloc | apply pw_below_drewN | apply below_drew1) | exact HB.out)⟩⟩
 case round =>
  clear H'
  obtain ⟨x7_1, rfl, HA, HK1, HB⟩ := hrel
  cases gk with
  | zero => exact absurd HA.out (by simp [taskset_Valid.l0])
  | succ k1 =>
   have H := HA.out
   clear HA
   simp only [taskset_Valid.l0] at H
   by_cases c2 : x7_1 < (l0.length : Int)
   ·rw [if_pos c2] at H
    have c2b0 : decide (x7_1 < (l0.length : Int)) = true := decide_eq_true c2
    clear c2
    by_cases c3 : 0 ≤ x7_1
    ·rw [if_pos c3] at H
     have c3b0 : decide (0 ≤ x7_1) = true := decide_eq_true c3
     clear c3
     by_cases c4 : x7_1 < (l0.length : Int)
     ·rw [if_pos c4] at H
      have c4b0 : decide (x7_1 < (l0.length : Int)) = true := decide_eq_true c4
      clear c4
      by_cases c5 : ((rd_T24 l0 x7_1).f1) < 1
      ·rw [if_pos c5] at H
       have c5b0 : decide (((rd_T24 l0 x7_1).f1) < 1) = true := decide_eq_true c5
       clear c5
       obtain rfl := Option.some.inj H
       have p375 : 0 ≤ (x7_1 : Int) := of_decide_eq_true (by first | (with_reducible assumption) | assumption)
       have q375 : x7_1 < (l0.length : Int) := of_decide_eq_true (by first | (with_reducible assumption) | assumption)
       obtain ⟨ad375, e375, hx375_0, hx375_1, hx375_2⟩ := at_T24 HR0.out x7_1 p375 q375
       cases e375
       replace hx375_0 := (HB.out.cell (World.block_lt_of_cell? w _ hx375_0)).trans hx375_0
       replace hx375_1 := (HB.out.cell (World.block_lt_of_cell? w _ hx375_1)).trans hx375_1
       replace hx375_2 := (HB.out.cell (World.block_lt_of_cell? w _ hx375_2)).trans hx375_2
       replace p375 := eq_true p375
       replace q375 := eq_true q375
       go_wp2_with (first | ((with_reducible refine gate_dst (N := 4) rfl ?_); refine box_event ?hg (N := 4) ?hd (cs := #[.string (⟨#[]⟩ : ByteArray), .int .i64 0, .int .i64 0]) (t := 24) ?hr ?_; (case hd => rfl); (case hg => rfl); (case hr => first | (go_simp; done) | (go_simp; rfl)); intro gb376 hg w6 hbox hb; have n0_ := Aside0.mk (below_step (by repeat (first | (with_reducible first | exact HB.out | apply below_alloc | apply pw_below_drewN | apply below_drew1) | exact HB.out)) hb); have n1_ := Aside0.mk (hbox); have n2_ := Aside0.mk ((by rw [hg]; exact (below_size (by repeat (first | (with_reducible first | exact HB.out | apply below_alloc | apply pw_below_drewN | apply below_drew1) | exact HB.out))) : w.heap.size ≤ gb376)); have n3_ := Aside0.mk ((by rw [hg]; exact (below_size (by repeat (first | (with_reducible first | exact HB.out | apply below_alloc | apply pw_below_drewN | apply below_drew1) | exact HB.out))) : w.heap.size ≤ gb376)); clear HB; have HB := n0_; have BK376 := n1_; have GW376 := n2_; have GE376 := n3_; clear n0_ n1_ n2_ n3_; clear hb hbox hg; have hcz7_0 : w6.cell? ⟨gb376, 0, none⟩ = some (.string (⟨#[]⟩ : ByteArray)) := (blk_cell BK376.out 0).trans rfl; have hcz7_1 : w6.cell? ⟨gb376, 1, none⟩ = some (.int .i64 0) := (blk_cell BK376.out 1).trans rfl; have hcz7_2 : w6.cell? ⟨gb376, 2, none⟩ = some (.int .i64 0) := (blk_cell BK376.out 2).trans rfl; have hfz7_0 := blk_frozen BK376.out 0; have hfz7_1 := blk_frozen BK376.out 1; have hfz7_2 := blk_frozen BK376.out 2))
       go_ret
       exact ⟨by first | rfl | (simp [errW_none, errW_some] <;> rfl) | (simp [*, errW_none, errW_some] <;> rfl), by repeat (first | (with_reducible first | exact HB.out | apply below_alloc | apply pw_below_drewN | apply below_drew1 | refine below_set ?_ GE376.out) | exact HB.out)⟩
      ·rw [if_neg c5] at H
       have c5b0 : decide (((rd_T24 l0 x7_1).f1) < 1) = false := decide_eq_false c5
       clear c5
       by_cases c8 : ((rd_T24 l0 x7_1).f2) < ((rd_T24 l0 x7_1).f1)
       ·rw [if_pos c8] at H
        have c8b0 : decide (((rd_T24 l0 x7_1).f2) < ((rd_T24 l0 x7_1).f1)) = true := decide_eq_true c8
        clear c8
        obtain rfl := Option.some.inj H
        have p375 : 0 ≤ (x7_1 : Int) := of_decide_eq_true (by first | (with_reducible assumption) | assumption)
        have q375 : x7_1 < (l0.length : Int) := of_decide_eq_true (by first | (with_reducible assumption) | assumption)
        obtain ⟨ad375, e375, hx375_0, hx375_1, hx375_2⟩ := at_T24 HR0.out x7_1 p375 q375
        cases e375
        replace hx375_0 := (HB.out.cell (World.block_lt_of_cell? w _ hx375_0)).trans hx375_0
        replace hx375_1 := (HB.out.cell (World.block_lt_of_cell? w _ hx375_1)).trans hx375_1
        replace hx375_2 := (HB.out.cell (World.block_lt_of_cell? w _ hx375_2)).trans hx375_2
        replace p375 := eq_true p375
        replace q375 := eq_true q375
        go_wp2_with (first | ((with_reducible refine gate_dst (N := 4) rfl ?_); refine box_event ?hg (N := 4) ?hd (cs := #[.string (⟨#[]⟩ : ByteArray), .int .i64 0, .int .i64 0]) (t := 24) ?hr ?_; (case hd => rfl); (case hg => rfl); (case hr => first | (go_simp; done) | (go_simp; rfl)); intro gb376 hg w9 hbox hb; have n0_ := Aside0.mk (below_step (by repeat (first | (with_reducible first | exact HB.out | apply below_alloc | apply pw_below_drewN | apply below_drew1) | exact HB.out)) hb); have n1_ := Aside0.mk (hbox); have n2_ := Aside0.mk ((by rw [hg]; exact (below_size (by repeat (first | (with_reducible first | exact HB.out | apply below_alloc | apply pw_below_drewN | apply below_drew1) | exact HB.out))) : w.heap.size ≤ gb376)); have n3_ := Aside0.mk ((by rw [hg]; exact (below_size (by repeat (first | (with_reducible first | exact HB.out | apply below_alloc | apply pw_below_drewN | apply below_drew1) | exact HB.out))) : w.heap.size ≤ gb376)); clear HB; have HB := n0_; have BK376 := n1_; have GW376 := n2_; have GE376 := n3_; clear n0_ n1_ n2_ n3_; clear hb hbox hg; have hcz10_0 : w9.cell? ⟨gb376, 0, none⟩ = some (.string (⟨#[]⟩ : ByteArray)) := (blk_cell BK376.out 0).trans rfl; have hcz10_1 : w9.cell? ⟨gb376, 1, none⟩ = some (.int .i64 0) := (blk_cell BK376.out 1).trans rfl; have hcz10_2 : w9.cell? ⟨gb376, 2, none⟩ = some (.int .i64 0) := (blk_cell BK376.out 2).trans rfl; have hfz10_0 := blk_frozen BK376.out 0; have hfz10_1 := blk_frozen BK376.out 1; have hfz10_2 := blk_frozen BK376.out 2))
        go_ret
        exact ⟨by first | rfl | (simp [errW_none, errW_some] <;> rfl) | (simp [*, errW_none, errW_some] <;> rfl), by repeat (first | (with_reducible first | exact HB.out | apply below_alloc | apply pw_below_drewN | apply below_drew1 | refine below_set ?_ GE376.out) | exact HB.out)⟩
       ·rw [if_neg c8] at H
        have c8b0 : decide (((rd_T24 l0 x7_1).f2) < ((rd_T24 l0 x7_1).f1)) = false := decide_eq_false c8
        clear c8
        by_cases c11 : ((rd_T24 l0 x7_1).f2) > 1000
        ·rw [if_pos c11] at H
         have c11b0 : decide (1000 < ((rd_T24 l0 x7_1).f2)) = true := decide_eq_true c11
         clear c11
         obtain rfl := Option.some.inj H
         have p375 : 0 ≤ (x7_1 : Int) := of_decide_eq_true (by first | (with_reducible assumption) | assumption)
         have q375 : x7_1 < (l0.length : Int) := of_decide_eq_true (by first | (with_reducible assumption) | assumption)
         obtain ⟨ad375, e375, hx375_0, hx375_1, hx375_2⟩ := at_T24 HR0.out x7_1 p375 q375
         cases e375
         replace hx375_0 := (HB.out.cell (World.block_lt_of_cell? w _ hx375_0)).trans hx375_0
         replace hx375_1 := (HB.out.cell (World.block_lt_of_cell? w _ hx375_1)).trans hx375_1
         replace hx375_2 := (HB.out.cell (World.block_lt_of_cell? w _ hx375_2)).trans hx375_2
         replace p375 := eq_true p375
         replace q375 := eq_true q375
         go_wp2_with (first | ((with_reducible refine gate_dst (N := 4) rfl ?_); refine box_event ?hg (N := 4) ?hd (cs := #[.string (⟨#[]⟩ : ByteArray), .int .i64 0, .int .i64 0]) (t := 24) ?hr ?_; (case hd => rfl); (case hg => rfl); (case hr => first | (go_simp; done) | (go_simp; rfl)); intro gb376 hg w12 hbox hb; have n0_ := Aside0.mk (below_step (by repeat (first | (with_reducible first | exact HB.out | apply below_alloc | apply pw_below_drewN | apply below_drew1) | exact HB.out)) hb); have n1_ := Aside0.mk (hbox); have n2_ := Aside0.mk ((by rw [hg]; exact (below_size (by repeat (first | (with_reducible first | exact HB.out | apply below_alloc | apply pw_below_drewN | apply below_drew1) | exact HB.out))) : w.heap.size ≤ gb376)); have n3_ := Aside0.mk ((by rw [hg]; exact (below_size (by repeat (first | (with_reducible first | exact HB.out | apply below_alloc | apply pw_below_drewN | apply below_drew1) | exact HB.out))) : w.heap.size ≤ gb376)); clear HB; have HB := n0_; have BK376 := n1_; have GW376 := n2_; have GE376 := n3_; clear n0_ n1_ n2_ n3_; clear hb hbox hg; have hcz13_0 : w12.cell? ⟨gb376, 0, none⟩ = some (.string (⟨#[]⟩ : ByteArray)) := (blk_cell BK376.out 0).trans rfl; have hcz13_1 : w12.cell? ⟨gb376, 1, none⟩ = some (.int .i64 0) := (blk_cell BK376.out 1).trans rfl; have hcz13_2 : w12.cell? ⟨gb376, 2, none⟩ = some (.int .i64 0) := (blk_cell BK376.out 2).trans rfl; have hfz13_0 := blk_frozen BK376.out 0; have hfz13_1 := blk_frozen BK376.out 1; have hfz13_2 := blk_frozen BK376.out 2))
         go_ret
         exact ⟨by first | rfl | (simp [errW_none, errW_some] <;> rfl) | (simp [*, errW_none, errW_some] <;> rfl), by repeat (first | (with_reducible first | exact HB.out | apply below_alloc | apply pw_below_drewN | apply below_drew1 | refine below_set ?_ GE376.out) | exact HB.out)⟩
        ·rw [if_neg c11] at H
         have c11b0 : decide (1000 < ((rd_T24 l0 x7_1).f2)) = false := decide_eq_false c11
         clear c11
         have H' := Aside0.mk H
         clear H
         have p375 : 0 ≤ (x7_1 : Int) := of_decide_eq_true (by first | (with_reducible assumption) | assumption)
         have q375 : x7_1 < (l0.length : Int) := of_decide_eq_true (by first | (with_reducible assumption) | assumption)
         obtain ⟨ad375, e375, hx375_0, hx375_1, hx375_2⟩ := at_T24 HR0.out x7_1 p375 q375
         cases e375
         replace hx375_0 := (HB.out.cell (World.block_lt_of_cell? w _ hx375_0)).trans hx375_0
         replace hx375_1 := (HB.out.cell (World.block_lt_of_cell? w _ hx375_1)).trans hx375_1
         replace hx375_2 := (HB.out.cell (World.block_lt_of_cell? w _ hx375_2)).trans hx375_2
         replace p375 := eq_true p375
         replace q375 := eq_true q375
         go_wp2_with (first | ((with_reducible refine gate_dst (N := 4) rfl ?_); refine box_event ?hg (N := 4) ?hd (cs := #[.string (⟨#[]⟩ : ByteArray), .int .i64 0, .int .i64 0]) (t := 24) ?hr ?_; (case hd => rfl); (case hg => rfl); (case hr => first | (go_simp; done) | (go_simp; rfl)); intro gb376 hg w14 hbox hb; have n0_ := Aside0.mk (below_step (by repeat (first | (with_reducible first | exact HB.out | apply below_alloc | apply pw_below_drewN | apply below_drew1) | exact HB.out)) hb); have n1_ := Aside0.mk (hbox); have n2_ := Aside0.mk ((by rw [hg]; exact (below_size (by repeat (first | (with_reducible first | exact HB.out | apply below_alloc | apply pw_below_drewN | apply below_drew1) | exact HB.out))) : w.heap.size ≤ gb376)); have n3_ := Aside0.mk ((by rw [hg]; exact (below_size (by repeat (first | (with_reducible first | exact HB.out | apply below_alloc | apply pw_below_drewN | apply below_drew1) | exact HB.out))) : w.heap.size ≤ gb376)); clear HB; have HB := n0_; have BK376 := n1_; have GW376 := n2_; have GE376 := n3_; clear n0_ n1_ n2_ n3_; clear hb hbox hg; have hcz15_0 : w14.cell? ⟨gb376, 0, none⟩ = some (.string (⟨#[]⟩ : ByteArray)) := (blk_cell BK376.out 0).trans rfl; have hcz15_1 : w14.cell? ⟨gb376, 1, none⟩ = some (.int .i64 0) := (blk_cell BK376.out 1).trans rfl; have hcz15_2 : w14.cell? ⟨gb376, 2, none⟩ = some (.int .i64 0) := (blk_cell BK376.out 2).trans rfl; have hfz15_0 := blk_frozen BK376.out 0; have hfz15_1 := blk_frozen BK376.out 1; have hfz15_2 := blk_frozen BK376.out 2))
         go_roundg k1
         case measure => have := HK1.out; omega
         case rel => exact ⟨(wrap64 (x7_1 + 1)), (by first | rfl | (simp; done) | (simp [*]; done)), H', ⟨by have := HK1.out; omega⟩, ⟨by repeat (first | (with_reducible first | exact HB.out | apply below_alloc | apply pw_below_drewN | apply below_drew1 | refine below_set ?_ GE376.out) | exact HB.out)⟩⟩
     ·rw [if_neg c4] at H
      exact absurd H (by simp)
    ·rw [if_neg c3] at H
     exact absurd H (by simp)
   ·rw [if_neg c2] at H
    have c2b0 : decide (x7_1 < (l0.length : Int)) = false := decide_eq_false c2
    clear c2
    obtain rfl := Option.some.inj H
    go_wp2
    go_ret
    exact ⟨by first | rfl | (simp [errW_none, errW_some] <;> rfl) | (simp [*, errW_none, errW_some] <;> rfl), by repeat (first | (with_reducible first | exact HB.out | apply below_alloc | apply pw_below_drewN | apply below_drew1) | exact HB.out)⟩

/-! ### flow_Jobs: function 42 -/
mutual
def flow_Jobs.j0 : Nat → List (S24) → List (List Int) → Int → Bool → Option ((List (S83)))
 | 0, _, _, _, _ => none
 | k + 1, x0, x1, x2, x21 => if x21 = true then (some ([] : List (S83))) else (flow_Jobs.l0 k x1 x2 ([] : List (S83)) x0 (x0.length : Int) 0)
def flow_Jobs.l0 : Nat → List (List Int) → Int → List (S83) → List (S24) → Int → Int → Option ((List (S83)))
 | 0, _, _, _, _, _, _ => none
 | k + 1, x1, x2, x7, x22, x23, x24 => if x24 < x23 then (if 0 ≤ x24 then (if x24 < (x22.length : Int) then (if x24 < (x1.length : Int) then (flow_Jobs.l1 k x1 x2 x7 x22 x23 x24 (rd_L4 x1 x24) ((rd_L4 x1 x24).length : Int) 0 ((rd_T24 x22 x24).f0) ((rd_T24 x22 x24).f1) ((rd_T24 x22 x24).f2)) else (none)) else (none)) else (none)) else (some x7)
def flow_Jobs.l1 : Nat → List (List Int) → Int → List (S83) → List (S24) → Int → Int → List Int → Int → Int → ByteArray → Int → Int → Option ((List (S83)))
 | 0, _, _, _, _, _, _, _, _, _, _, _, _ => none
 | k + 1, x1, x2, x7, x22, x23, x24, x32, x33, x34, x380000, x380001, x380002 => if x34 < x33 then (if 0 ≤ x34 then (if x34 < (x32.length : Int) then (if (wrap64 ((rd x32 x34) + x380002)) ≤ x2 then (if x7.length < 5864062014805 then (flow_Jobs.l1 k x1 x2 (x7 ++ [(⟨rd x32 x34, wrap64 ((rd x32 x34) + x380002), x380001⟩ : S83)]) x22 x23 x24 x32 x33 (wrap64 (x34 + 1)) x380000 x380001 x380002) else (none)) else (flow_Jobs.l1 k x1 x2 x7 x22 x23 x24 x32 x33 (wrap64 (x34 + 1)) x380000 x380001 x380002)) else (none)) else (none)) else (flow_Jobs.l0 k x1 x2 x7 x22 x23 (wrap64 (x24 + 1)))
end
def flow_Jobs.f (k : Nat) (l0 : List (S24)) (l1 : List (List Int)) (a2 : Int) : Option ((List (S83))) := (taskset_Valid.f k l0).bind fun t377 => (if t377 = true then (flow_Jobs.j0 k l0 l1 a2 ((l1.length : Int) != (l0.length : Int))) else (flow_Jobs.j0 k l0 l1 a2 true))
theorem flow_Jobs.mono_l : ∀ k, (∀ y0 y1 y2 y3, LeO (flow_Jobs.j0 k y0 y1 y2 y3) (flow_Jobs.j0 (k + 1) y0 y1 y2 y3)) ∧ (∀ y0 y1 y2 y3 y4 y5, LeO (flow_Jobs.l0 k y0 y1 y2 y3 y4 y5) (flow_Jobs.l0 (k + 1) y0 y1 y2 y3 y4 y5)) ∧ (∀ y0 y1 y2 y3 y4 y5 y6 y7 y8 y9 y10 y11, LeO (flow_Jobs.l1 k y0 y1 y2 y3 y4 y5 y6 y7 y8 y9 y10 y11) (flow_Jobs.l1 (k + 1) y0 y1 y2 y3 y4 y5 y6 y7 y8 y9 y10 y11))
 | 0 => ⟨fun _ _ _ _ r h => by simp [flow_Jobs.j0] at h, fun _ _ _ _ _ _ r h => by simp [flow_Jobs.l0] at h, fun _ _ _ _ _ _ _ _ _ _ _ _ r h => by simp [flow_Jobs.l1] at h⟩
 | k + 1 => by
  obtain ⟨ih0, ih1, ih2⟩ := flow_Jobs.mono_l k
  refine ⟨?_, ?_, ?_⟩
  ·intro y0 y1 y2 y3
   unfold flow_Jobs.j0
   repeat' first
   | (with_reducible exact ih0 _ _ _ _)
   | (with_reducible exact ih1 _ _ _ _ _ _)
   | (with_reducible exact ih2 _ _ _ _ _ _ _ _ _ _ _ _)
   | (with_reducible exact taskset_Valid.mono _ _)
   | (with_reducible exact LeO.refl _)
   | (with_reducible exact LeO.none _)
   | (with_reducible refine LeO.ite ?_ ?_)
   | (with_reducible refine LeO.bind ?_ (fun _ => ?_))
   | exact ih0 _ _ _ _
   | exact ih1 _ _ _ _ _ _
   | exact ih2 _ _ _ _ _ _ _ _ _ _ _ _
   | exact taskset_Valid.mono _ _
   | exact LeO.none _
   | refine LeO.ite ?_ ?_
   | refine LeO.bind ?_ (fun _ => ?_)
  ·intro y0 y1 y2 y3 y4 y5
   unfold flow_Jobs.l0
   repeat' first
   | (with_reducible exact ih0 _ _ _ _)
   | (with_reducible exact ih1 _ _ _ _ _ _)
   | (with_reducible exact ih2 _ _ _ _ _ _ _ _ _ _ _ _)
   | (with_reducible exact taskset_Valid.mono _ _)
   | (with_reducible exact LeO.refl _)
   | (with_reducible exact LeO.none _)
   | (with_reducible refine LeO.ite ?_ ?_)
   | (with_reducible refine LeO.bind ?_ (fun _ => ?_))
   | exact ih0 _ _ _ _
   | exact ih1 _ _ _ _ _ _
   | exact ih2 _ _ _ _ _ _ _ _ _ _ _ _
   | exact taskset_Valid.mono _ _
   | exact LeO.none _
   | refine LeO.ite ?_ ?_
   | refine LeO.bind ?_ (fun _ => ?_)
  ·intro y0 y1 y2 y3 y4 y5 y6 y7 y8 y9 y10 y11
   unfold flow_Jobs.l1
   repeat' first
   | (with_reducible exact ih0 _ _ _ _)
   | (with_reducible exact ih1 _ _ _ _ _ _)
   | (with_reducible exact ih2 _ _ _ _ _ _ _ _ _ _ _ _)
   | (with_reducible exact taskset_Valid.mono _ _)
   | (with_reducible exact LeO.refl _)
   | (with_reducible exact LeO.none _)
   | (with_reducible refine LeO.ite ?_ ?_)
   | (with_reducible refine LeO.bind ?_ (fun _ => ?_))
   | exact ih0 _ _ _ _
   | exact ih1 _ _ _ _ _ _
   | exact ih2 _ _ _ _ _ _ _ _ _ _ _ _
   | exact taskset_Valid.mono _ _
   | exact LeO.none _
   | refine LeO.ite ?_ ?_
   | refine LeO.bind ?_ (fun _ => ?_)
theorem flow_Jobs.mono : ∀ a0 a1 a2 k, LeO (flow_Jobs.f k a0 a1 a2) (flow_Jobs.f (k + 1) a0 a1 a2) := by
 intro a0 a1 a2 k
 obtain ⟨ih0, ih1, ih2⟩ := flow_Jobs.mono_l k
 unfold flow_Jobs.f
 repeat' first
   | (with_reducible exact ih0 _ _ _ _)
   | (with_reducible exact ih1 _ _ _ _ _ _)
   | (with_reducible exact ih2 _ _ _ _ _ _ _ _ _ _ _ _)
   | (with_reducible exact taskset_Valid.mono _ _)
   | (with_reducible exact LeO.refl _)
   | (with_reducible exact LeO.none _)
   | (with_reducible refine LeO.ite ?_ ?_)
   | (with_reducible refine LeO.bind ?_ (fun _ => ?_))
   | exact ih0 _ _ _ _
   | exact ih1 _ _ _ _ _ _
   | exact ih2 _ _ _ _ _ _ _ _ _ _ _ _
   | exact taskset_Valid.mono _ _
   | exact LeO.none _
   | refine LeO.ite ?_ ?_
   | refine LeO.bind ?_ (fun _ => ?_)
set_option maxHeartbeats 8000000 in
set_option maxRecDepth 100000 in
theorem flow_Jobs.calls (k : Nat) (A0 : Option Addr) (c0 : Nat) (l0 : List (S24)) (A1 : Option Addr) (c1 : Nat) (l1 : List (List Int)) (a2 : Int) (r : List (S83)) (w : World) (hr0 : Kd.C k24 w A0 l0.length l0) (hc0 : l0.length ≤ c0) (hr1 : Kd.C (Kd.slice 3 (Kd.int .i64)) w A1 l1.length l1) (hc1 : l1.length ≤ c1) (h : flow_Jobs.f k l0 l1 a2 = some r) :
  Calls Try.prog 42 #[.slice A0 l0.length c0, .slice A1 l1.length c1, .int .i64 a2] w fun e w' => ∃ v0_ : Value, e = .returned (v0_) ∧ Kd.R k83 83 w' w.heap.size (fun _ => True) v0_ r ∧ Below w.heap.size w w' := by
 have hu24 := Try.underlying24
 have hu83 := Try.underlying83
 have HR0 := Aside0.mk hr0
 have HC0 := Aside0.mk hc0
 clear hr0 hc0
 have HR1 := Aside0.mk hr1
 have HC1 := Aside0.mk hc1
 clear hr1 hc1
 have HB := Aside0.mk (Below.refl w.heap.size w)
 have H : ((taskset_Valid.f k l0).bind fun t377 => (if t377 = true then (flow_Jobs.j0 k l0 l1 a2 ((l1.length : Int) != (l0.length : Int))) else (flow_Jobs.j0 k l0 l1 a2 true))) = some r := h
 clear h
 have HC4 := Aside0.mk H
 clear H
 go_enter Try.func42, Try.ntmps42
 go_upto_region 1 with (fail)
 go_cut [21] (fun v21 wc => ∃ (kq : Nat) (x21_3 : Bool), v21 = .bool x21_3 ∧ Aside0 (flow_Jobs.j0 kq l0 l1 a2 x21_3 = some r) ∧ Aside0 (kq ≤ k) ∧ Aside0 (Below w.heap.size w wc))
 case first =>
  have H := HC4.out
  clear HC4
  replace H := Option.bind_eq_some_iff.mp H
  obtain ⟨t377, A50, H⟩ := H
  replace H : (if t377 = true then (flow_Jobs.j0 k l0 l1 a2 ((l1.length : Int) != (l0.length : Int))) else (flow_Jobs.j0 k l0 l1 a2 true)) = some r := H
  have A5 := Aside0.mk A50
  clear A50
  by_cases c6 : t377 = true
  ·subst c6
   have H1 : (flow_Jobs.j0 k l0 l1 a2 ((l1.length : Int) != (l0.length : Int))) = some r := by rw [if_pos rfl] at H; exact H
   clear H
   have H := H1
   clear H1
   have H' := Aside0.mk H
   clear H
   go_wp2_with (first | ((with_reducible refine gate_callee (f := 26) rfl ?_); refine goesL_ (some 13) rfl rfl Try.func26 (by kernel_rfl) rfl #[.slice A0 l0.length c0] rfl (by (try simp only [List.map_toArray, List.map_cons, List.map_nil]); first | done | rfl | (simp only [List.length_drop, List.length_take]; rfl)) ?_; (with_reducible refine (taskset_Valid.calls k _ _ l0 true _ ?side1 ?side2 A5.out).mono ?_); (case side1 => repeat (first | exact (Kd.C_below HR0.out HB.out) | (with_reducible refine Kd.C_alloc ?_ _) | (with_reducible refine Kd.C_drewN ?_ _) | (with_reducible refine Kd.C_drew ?_))); (case side2 => exact HC0.out); rintro e w7 ⟨rfl, hb⟩; refine ⟨_, rfl, ?_⟩; have n0_ := Aside0.mk (below_step (by repeat (first | (with_reducible first | exact HB.out | apply below_alloc | apply pw_below_drewN | apply below_drew1) | exact HB.out)) hb); clear HB; have HB := n0_; clear n0_; (try clear hb); (try clear hb2); (try clear hk); (try clear hi)))
   go_meet
   case rel => exact ⟨_, (((l1.length : Int) != (l0.length : Int))), (by first | rfl | (simp; done) | (simp [*]; done)), H', ⟨by first | omega | exact Nat.le_refl _⟩, ⟨by repeat (first | (with_reducible first | exact HB.out | apply below_alloc | apply pw_below_drewN | apply below_drew1) | exact HB.out)⟩⟩
  ·replace c6 := Bool.eq_false_iff.mpr c6
   subst c6
   have H1 : (flow_Jobs.j0 k l0 l1 a2 true) = some r := by rw [if_neg (show ¬ (false = true) by decide)] at H; exact H
   clear H
   have H := H1
   clear H1
   have H' := Aside0.mk H
   clear H
   go_wp2_with (first | ((with_reducible refine gate_callee (f := 26) rfl ?_); refine goesL_ (some 13) rfl rfl Try.func26 (by kernel_rfl) rfl #[.slice A0 l0.length c0] rfl (by (try simp only [List.map_toArray, List.map_cons, List.map_nil]); first | done | rfl | (simp only [List.length_drop, List.length_take]; rfl)) ?_; (with_reducible refine (taskset_Valid.calls k _ _ l0 false _ ?side1 ?side2 A5.out).mono ?_); (case side1 => repeat (first | exact (Kd.C_below HR0.out HB.out) | (with_reducible refine Kd.C_alloc ?_ _) | (with_reducible refine Kd.C_drewN ?_ _) | (with_reducible refine Kd.C_drew ?_))); (case side2 => exact HC0.out); rintro e w8 ⟨rfl, hb⟩; refine ⟨_, rfl, ?_⟩; have n0_ := Aside0.mk (below_step (by repeat (first | (with_reducible first | exact HB.out | apply below_alloc | apply pw_below_drewN | apply below_drew1) | exact HB.out)) hb); clear HB; have HB := n0_; clear n0_; (try clear hb); (try clear hb2); (try clear hk); (try clear hi)))
   go_meet
   case rel => exact ⟨_, (true), (by first | rfl | (simp; done) | (simp [*]; done)), H', ⟨by first | omega | exact Nat.le_refl _⟩, ⟨by repeat (first | (with_reducible first | exact HB.out | apply below_alloc | apply pw_below_drewN | apply below_drew1) | exact HB.out)⟩⟩
 case rest =>
  clear HC4
  try clear c1
  try clear c2
  try clear p2
  try clear c4
  try clear c6
  obtain ⟨kq, x21_3, rfl, HA, HJ3, HB⟩ := hcut
  cases kq with
  | zero => exact absurd HA.out (by simp [flow_Jobs.j0])
  | succ kj3 =>
   have H := HA.out
   clear HA
   simp only [flow_Jobs.j0] at H
   by_cases c9 : x21_3 = true
   ·subst c9
    have H1 : (some ([] : List (S83))) = some r := by rw [if_pos rfl] at H; exact H
    clear H
    have H := H1
    clear H1
    obtain rfl := Option.some.inj H
    go_wp2
    go_ret
    exact ⟨_, by first | rfl | (simp [errW_none, errW_some] <;> rfl) | (simp [*, errW_none, errW_some] <;> rfl), by first | exact Kd.R_nil _ _ _ _ _ | exact Kd.N_nil _ _ _ _ _ | exact Kd.V_nil _ _ _ _ _ | exact Kd.Q_nil _ _ _ _ _ | exact Kd.S_nil _ _ _ _ _, by repeat (first | (with_reducible first | exact HB.out | apply below_alloc | apply pw_below_drewN | apply below_drew1) | exact HB.out)⟩
   ·replace c9 := Bool.eq_false_iff.mpr c9
    subst c9
    have H1 : (flow_Jobs.l0 kj3 l1 a2 ([] : List (S83)) l0 (l0.length : Int) 0) = some r := by rw [if_neg (show ¬ (false = true) by decide)] at H; exact H
    clear H
    have H := H1
    clear H1
    have H' := Aside0.mk H
    clear H
    go_wp2
    go_loopg [7, 24] kj3 (fun kq v7 v24 w' => ∃ (x7_2 : List (S83)) (x24_2 : Int), v24 = .int .i64 x24_2 ∧ Aside0 (flow_Jobs.l0 kq l1 a2 x7_2 l0 (l0.length : Int) x24_2 = some r) ∧ Aside0 (kq ≤ kj3) ∧ Aside0 (Kd.R k83 83 w' w.heap.size (fun _ => True) v7 x7_2) ∧ Aside0 (Below w.heap.size w w'))
    case atStart => exact ⟨(([] : List (S83))), (0), (by first | rfl | (simp; done) | (simp [*]; done)), H', ⟨Nat.le_refl _⟩, ⟨by first | exact Kd.R_nil _ _ _ _ _ | exact Kd.N_nil _ _ _ _ _ | exact Kd.V_nil _ _ _ _ _ | exact Kd.Q_nil _ _ _ _ _ | exact Kd.S_nil _ _ _ _ _⟩, ⟨by repeat (first | (with_reducible first | exact HB.out | apply below_alloc | apply pw_below_drewN | apply below_drew1) | exact HB.out)⟩⟩
    case round =>
     clear H'
     try clear c1
     try clear c2
     try clear p2
     try clear c4
     try clear c6
     try clear c9
     try clear p2
     obtain ⟨x7_2, x24_2, rfl, HA, HK2, HO_7, HB⟩ := hrel
     cases gk with
     | zero => exact absurd HA.out (by simp [flow_Jobs.l0])
     | succ k2 =>
      have H := HA.out
      clear HA
      simp only [flow_Jobs.l0] at H
      by_cases c10 : x24_2 < (l0.length : Int)
      ·rw [if_pos c10] at H
       have c10b0 : decide (x24_2 < (l0.length : Int)) = true := decide_eq_true c10
       clear c10
       by_cases c11 : 0 ≤ x24_2
       ·rw [if_pos c11] at H
        have c11b0 : decide (0 ≤ x24_2) = true := decide_eq_true c11
        clear c11
        by_cases c12 : x24_2 < (l0.length : Int)
        ·rw [if_pos c12] at H
         have c12b0 : decide (x24_2 < (l0.length : Int)) = true := decide_eq_true c12
         clear c12
         by_cases c13 : x24_2 < (l1.length : Int)
         ·rw [if_pos c13] at H
          have c13b0 : decide (x24_2 < (l1.length : Int)) = true := decide_eq_true c13
          clear c13
          have H' := Aside0.mk H
          clear H
          have p378 : 0 ≤ (x24_2 : Int) := of_decide_eq_true (by first | (with_reducible assumption) | assumption)
          have q378 : x24_2 < (l0.length : Int) := of_decide_eq_true (by first | (with_reducible assumption) | assumption)
          obtain ⟨ad378, e378, hx378_0, hx378_1, hx378_2⟩ := at_T24 HR0.out x24_2 p378 q378
          cases e378
          replace hx378_0 := (HB.out.cell (World.block_lt_of_cell? w _ hx378_0)).trans hx378_0
          replace hx378_1 := (HB.out.cell (World.block_lt_of_cell? w _ hx378_1)).trans hx378_1
          replace hx378_2 := (HB.out.cell (World.block_lt_of_cell? w _ hx378_2)).trans hx378_2
          replace p378 := eq_true p378
          replace q378 := eq_true q378
          go_wp2_with (first | ((with_reducible refine gate_dst (N := 9) rfl ?_); (try (refine gate_guard (by rfl) ?_; dsimp only)); refine box_event ?hg (N := 9) ?hd (cs := #[.string (⟨#[]⟩ : ByteArray), .int .i64 0, .int .i64 0]) (t := 24) ?hr ?_; (case hd => rfl); (case hg => rfl); (case hr => first | (go_simp; done) | (go_simp; rfl)); intro gb379 hg w14 hbox hb; have n0_ := Aside0.mk (Kd.R_below (by (with_reducible repeat (first | apply Kd.R_alloc | apply Kd.R_drewN | apply Kd.R_drew)); exact HO_7.out) hb); have n1_ := Aside0.mk (below_step (by repeat (first | (with_reducible first | exact HB.out | apply below_alloc | apply pw_below_drewN | apply below_drew1) | exact HB.out)) hb); have n2_ := Aside0.mk (hbox); have n3_ := Aside0.mk ((by rw [hg]; exact (below_size (by repeat (first | (with_reducible first | exact HB.out | apply below_alloc | apply pw_below_drewN | apply below_drew1) | exact HB.out))) : w.heap.size ≤ gb379)); have n4_ := Aside0.mk ((by rw [hg]; exact (below_size (by repeat (first | (with_reducible first | exact HB.out | apply below_alloc | apply pw_below_drewN | apply below_drew1) | exact HB.out))) : w.heap.size ≤ gb379)); clear HO_7; clear HB; have HO_7 := n0_; have HB := n1_; have BK379 := n2_; have GW379 := n3_; have GE379 := n4_; clear n0_ n1_ n2_ n3_ n4_; clear hb hbox hg; have hcz15_0 : w14.cell? ⟨gb379, 0, none⟩ = some (.string (⟨#[]⟩ : ByteArray)) := (blk_cell BK379.out 0).trans rfl; have hcz15_1 : w14.cell? ⟨gb379, 1, none⟩ = some (.int .i64 0) := (blk_cell BK379.out 1).trans rfl; have hcz15_2 : w14.cell? ⟨gb379, 2, none⟩ = some (.int .i64 0) := (blk_cell BK379.out 2).trans rfl; have hfz15_0 := blk_frozen BK379.out 0; have hfz15_1 := blk_frozen BK379.out 1; have hfz15_2 := blk_frozen BK379.out 2; have p380 : 0 ≤ (x24_2 : Int) := of_decide_eq_true (by first | (with_reducible assumption) | assumption); have q380 : x24_2 < (l1.length : Int) := of_decide_eq_true (by first | (with_reducible assumption) | assumption); obtain ⟨ad380, A380_0, c380_0, e380, hx380_0, hl380_0, hi380_0⟩ := at_L4 HR1.out x24_2 p380 q380; cases e380; have hn380_0 : ad380.block ≠ gb379 := Nat.ne_of_lt (Nat.lt_of_lt_of_le (by have := World.block_lt_of_cell? _ _ hx380_0; first | rwa [add_block] at this | exact this) GW379.out); have hn380_1 : ad380.block ≠ gb379 := Nat.ne_of_lt (Nat.lt_of_lt_of_le (by have := World.block_lt_of_cell? _ _ hx380_0; first | rwa [add_block] at this | exact this) GW379.out); have hn380_2 : ad380.block ≠ gb379 := Nat.ne_of_lt (Nat.lt_of_lt_of_le (by have := World.block_lt_of_cell? _ _ hx380_0; first | rwa [add_block] at this | exact this) GW379.out); replace hx380_0 := (HB.out.cell (World.block_lt_of_cell? w _ hx380_0)).trans hx380_0; have HR380_0 := Aside0.mk hi380_0; have HC380_0 := Aside0.mk hl380_0; clear hi380_0 hl380_0; replace hx380_0 := (cell_far (p := ⟨gb379, 0, none⟩) (by first | (rw [add_block]; exact hn380_0) | (show (Addr.add _ _).block ≠ _; rw [add_block]; exact hn380_0) | exact hn380_0) (.string ((rd_T24 l0 x24_2).f0))).trans hx380_0; replace hx380_0 := (cell_far (p := ⟨gb379, 1, none⟩) (by first | (rw [add_block]; exact hn380_1) | (show (Addr.add _ _).block ≠ _; rw [add_block]; exact hn380_1) | exact hn380_1) (.int .i64 ((rd_T24 l0 x24_2).f1))).trans hx380_0; replace hx380_0 := (cell_far (p := ⟨gb379, 2, none⟩) (by first | (rw [add_block]; exact hn380_2) | (show (Addr.add _ _).block ≠ _; rw [add_block]; exact hn380_2) | exact hn380_2) (.int .i64 ((rd_T24 l0 x24_2).f2))).trans hx380_0; clear hn380_0; clear hn380_1; clear hn380_2; replace p380 := eq_true p380; replace q380 := eq_true q380))
          go_loopg [7, 34] k2 (fun kq v7 v34 w' => ∃ (x7_3 : List (S83)) (x34_3 : Int), v34 = .int .i64 x34_3 ∧ Aside0 (flow_Jobs.l1 kq l1 a2 x7_3 l0 (l0.length : Int) x24_2 (rd_L4 l1 x24_2) ((rd_L4 l1 x24_2).length : Int) x34_3 ((rd_T24 l0 x24_2).f0) ((rd_T24 l0 x24_2).f1) ((rd_T24 l0 x24_2).f2) = some r) ∧ Aside0 (kq ≤ k2) ∧ Aside0 (Kd.R k83 83 w' w.heap.size (fun _ => True) v7 x7_3) ∧ Aside0 (w'.heap[gb379]? = some (.cells #[.string ((rd_T24 l0 x24_2).f0), .int .i64 ((rd_T24 l0 x24_2).f1), .int .i64 ((rd_T24 l0 x24_2).f2)] 24 (0, 0))) ∧ Aside0 (Below w.heap.size w w'))
          case atStart => exact ⟨(x7_2), (0), (by first | rfl | (simp; done) | (simp [*]; done)), H', ⟨Nat.le_refl _⟩, ⟨by (with_reducible repeat (first | apply Kd.R_alloc | apply Kd.R_drewN | apply Kd.R_drew)); exact Kd.R_mono (Kd.R_far (p := ⟨gb379, 2, none⟩) (Kd.R_far (p := ⟨gb379, 1, none⟩) (Kd.R_far (p := ⟨gb379, 0, none⟩) (Kd.R_types HO_7.out BK379.out (by decide)) (fun _ hk => hk.2) (.string ((rd_T24 l0 x24_2).f0))) (fun _ hk => hk.2) (.int .i64 ((rd_T24 l0 x24_2).f1))) (fun _ hk => hk.2) (.int .i64 ((rd_T24 l0 x24_2).f2))) (fun _ hk => trivial)⟩, ⟨by (with_reducible repeat (first | refine blk_drewN ?_ _ | refine blk_drew ?_ | refine blk_alloc ?_ _)); refine blk_put (cs := #[.string ((rd_T24 l0 x24_2).f0), .int .i64 ((rd_T24 l0 x24_2).f1), .int .i64 0]) ?_ 2 _ rfl; (with_reducible repeat (first | refine blk_drewN ?_ _ | refine blk_drew ?_ | refine blk_alloc ?_ _)); refine blk_put (cs := #[.string ((rd_T24 l0 x24_2).f0), .int .i64 0, .int .i64 0]) ?_ 1 _ rfl; (with_reducible repeat (first | refine blk_drewN ?_ _ | refine blk_drew ?_ | refine blk_alloc ?_ _)); refine blk_put (cs := #[.string (⟨#[]⟩ : ByteArray), .int .i64 0, .int .i64 0]) ?_ 0 _ rfl; (with_reducible repeat (first | refine blk_drewN ?_ _ | refine blk_drew ?_ | refine blk_alloc ?_ _)); exact BK379.out⟩, ⟨by repeat (first | (with_reducible first | exact HB.out | apply below_alloc | apply pw_below_drewN | apply below_drew1 | refine below_set ?_ GE379.out) | exact HB.out)⟩⟩
          case round =>
           clear H'
           try clear c1
           try clear c2
           try clear p2
           try clear c3
           try clear p3
           try clear q3
           try clear hx3
           try clear c4
           try clear c6
           try clear c9
           try clear c10
           try clear c10b0
           try clear c11
           try clear c11b0
           try clear c12
           try clear c12b0
           try clear c13
           try clear c13b0
           try clear hcz15_0
           try clear hcz15_1
           try clear hcz15_2
           try clear hfz15_0
           try clear hfz15_1
           try clear hfz15_2
           try clear hx378_0
           try clear hx378_1
           try clear hx378_2
           try clear hx380_0
           try clear p2
           try clear p378
           try clear p380
           try clear q378
           try clear q380
           obtain ⟨x7_3, x34_3, rfl, HA, HK3, HO_7, BK379, HB⟩ := hrel
           cases gk with
           | zero => exact absurd HA.out (by simp [flow_Jobs.l1])
           | succ k3 =>
            have H := HA.out
            clear HA
            simp only [flow_Jobs.l1] at H
            by_cases c16 : x34_3 < ((rd_L4 l1 x24_2).length : Int)
            ·rw [if_pos c16] at H
             have c16b0 : decide (x34_3 < ((rd_L4 l1 x24_2).length : Int)) = true := decide_eq_true c16
             clear c16
             by_cases c17 : 0 ≤ x34_3
             ·rw [if_pos c17] at H
              have c17b0 : decide (0 ≤ x34_3) = true := decide_eq_true c17
              clear c17
              by_cases c18 : x34_3 < ((rd_L4 l1 x24_2).length : Int)
              ·rw [if_pos c18] at H
               have c18b0 : decide (x34_3 < ((rd_L4 l1 x24_2).length : Int)) = true := decide_eq_true c18
               clear c18
               by_cases c19 : (wrap64 ((rd (rd_L4 l1 x24_2) x34_3) + ((rd_T24 l0 x24_2).f2))) ≤ a2
               ·rw [if_pos c19] at H
                have c19b0 : decide ((wrap64 ((rd (rd_L4 l1 x24_2) x34_3) + ((rd_T24 l0 x24_2).f2))) ≤ a2) = true := decide_eq_true c19
                clear c19
                by_cases c20 : x7_3.length < 5864062014805
                ·rw [if_pos c20] at H
                 have LMc20 := Aside0.mk c20
                 clear c20
                 obtain ⟨y382, hy382⟩ : ∃ y_ : List (S83), y_ = (x7_3 ++ [(⟨rd (rd_L4 l1 x24_2) x34_3, wrap64 ((rd (rd_L4 l1 x24_2) x34_3) + ((rd_T24 l0 x24_2).f2)), ((rd_T24 l0 x24_2).f1)⟩ : S83)]) := ⟨_, rfl⟩
                 replace H : (flow_Jobs.l1 k3 l1 a2 y382 l0 (l0.length : Int) x24_2 (rd_L4 l1 x24_2) ((rd_L4 l1 x24_2).length : Int) (wrap64 (x34_3 + 1)) ((rd_T24 l0 x24_2).f0) ((rd_T24 l0 x24_2).f1) ((rd_T24 l0 x24_2).f2)) = some r := by first | (rw [hy382]; with_reducible exact H) | (have H2_ := (Option.bind_some _ _).symm.trans H; rw [hy382]; with_reducible exact H2_) | (have H2_ := (Option.bind_some _ _).symm.trans H; with_reducible exact H2_) | with_reducible exact H | (rw [hy382]; exact H) | exact H
                 have Ny382 := Aside0.mk hy382
                 clear hy382
                 have H' := Aside0.mk H
                 clear H
                 have p381 : 0 ≤ (x34_3 : Int) := of_decide_eq_true (by first | (with_reducible assumption) | assumption)
                 have q381 : x34_3 < ((rd_L4 l1 x24_2).length : Int) := of_decide_eq_true (by first | (with_reducible assumption) | assumption)
                 obtain ⟨ad381, e381, hx381_0⟩ := Kd.at_int HR380_0.out x34_3 p381 q381
                 cases e381
                 replace hx381_0 := (HB.out.cell (World.block_lt_of_cell? w _ hx381_0)).trans hx381_0
                 replace p381 := eq_true p381
                 replace q381 := eq_true q381
                 have hcz21_0 : wr.cell? ⟨gb379, 0, none⟩ = some (.string ((rd_T24 l0 x24_2).f0)) := (blk_cell BK379.out 0).trans rfl
                 have hcz21_1 : wr.cell? ⟨gb379, 1, none⟩ = some (.int .i64 ((rd_T24 l0 x24_2).f1)) := (blk_cell BK379.out 1).trans rfl
                 have hcz21_2 : wr.cell? ⟨gb379, 2, none⟩ = some (.int .i64 ((rd_T24 l0 x24_2).f2)) := (blk_cell BK379.out 2).trans rfl
                 have hfz21_0 := blk_frozen BK379.out 0
                 have hfz21_1 := blk_frozen BK379.out 1
                 have hfz21_2 := blk_frozen BK379.out 2
                 go_wp2_with (first | ((with_reducible refine gate_builtin (b := .append) (xs := #[.tmp 44, .tmp 53]) rfl ?_); (try (refine gate_guard (by rfl) ?_; dsimp only)); at_builtin; refine Kd.R_append k83 (w0 := w) w.heap.size rfl (.tmp 44) (.tmp 53) 65 83 (.agg #[(.int .i64 0), (.int .i64 0), (.int .i64 0)]) 24 rfl Try.underlying65 info83 rfl (by decide) (by omega) u7 x7_3 (⟨rd (rd_L4 l1 x24_2) x34_3, wrap64 ((rd (rd_L4 l1 x24_2) x34_3) + ((rd_T24 l0 x24_2).f2)), ((rd_T24 l0 x24_2).f1)⟩ : S83) [.int .i64 (rd (rd_L4 l1 x24_2) x34_3), .int .i64 (wrap64 ((rd (rd_L4 l1 x24_2) x34_3) + ((rd_T24 l0 x24_2).f2))), .int .i64 ((rd_T24 l0 x24_2).f1)] (fun _ => True) (fun _ => False) rfl rfl ?aP (fun _ hk => hk.elim) ?aF ?aO ?aB ?aS ?aL ?_; (case aP => exact k83_mkM _ _ _ (⟨rd (rd_L4 l1 x24_2) x34_3, wrap64 ((rd (rd_L4 l1 x24_2) x34_3) + ((rd_T24 l0 x24_2).f2)), ((rd_T24 l0 x24_2).f1)⟩ : S83)); (case aB => exact (by repeat (first | (with_reducible first | exact HB.out | apply below_alloc | apply pw_below_drewN | apply below_drew1 | refine below_set ?_ GE379.out) | exact HB.out))); (case aF => exact (fun _ _ => trivial)); (case aO => exact (by (with_reducible repeat (first | apply Kd.R_alloc | apply Kd.R_drewN | apply Kd.R_drew)); exact HO_7.out)); (case aS => exact (below_size (by repeat (first | (with_reducible first | exact HB.out | apply below_alloc | apply pw_below_drewN | apply below_drew1 | refine below_set ?_ GE379.out) | exact HB.out)))); (case aL => have := LMc20.out; omega); intro v383 w22 ho hb hg hat; rw [← Ny382.out] at ho; have n0_ := Aside0.mk (blk_grown (g := gb379) (o := .cells #[.string ((rd_T24 l0 x24_2).f0), .int .i64 ((rd_T24 l0 x24_2).f1), .int .i64 ((rd_T24 l0 x24_2).f2)] 24 (0, 0)) (by (with_reducible repeat (first | refine blk_drewN ?_ _ | refine blk_drew ?_ | refine blk_alloc ?_ _)); exact BK379.out) hg (Kd.R_ne HO_7.out BK379.out (by decide))); have n1_ := Aside0.mk (hb); have n2_ := Aside0.mk (ho); clear BK379; clear HB; clear HO_7; have BK379 := n0_; have HB := n1_; have HO384 := n2_; clear n0_ n1_ n2_; clear ho hb hg hat))
                 go_roundg k3
                 case measure => have := HJ3.out; have := HK2.out; have := HK3.out; omega
                 case rel => exact ⟨(y382), (wrap64 (x34_3 + 1)), (by first | rfl | (simp; done) | (simp [*]; done)), H', ⟨by have := HJ3.out; have := HK2.out; have := HK3.out; omega⟩, ⟨by (with_reducible repeat (first | apply Kd.R_alloc | apply Kd.R_drewN | apply Kd.R_drew)); exact HO384.out⟩, ⟨by (with_reducible repeat (first | refine blk_drewN ?_ _ | refine blk_drew ?_ | refine blk_alloc ?_ _)); exact BK379.out⟩, ⟨by repeat (first | (with_reducible first | exact HB.out | apply below_alloc | apply pw_below_drewN | apply below_drew1 | refine below_set ?_ GE379.out) | exact HB.out)⟩⟩
                ·rw [if_neg c20] at H
                 exact absurd H (by simp)
               ·rw [if_neg c19] at H
                have c19b0 : decide ((wrap64 ((rd (rd_L4 l1 x24_2) x34_3) + ((rd_T24 l0 x24_2).f2))) ≤ a2) = false := decide_eq_false c19
                clear c19
                have H' := Aside0.mk H
                clear H
                have p381 : 0 ≤ (x34_3 : Int) := of_decide_eq_true (by first | (with_reducible assumption) | assumption)
                have q381 : x34_3 < ((rd_L4 l1 x24_2).length : Int) := of_decide_eq_true (by first | (with_reducible assumption) | assumption)
                obtain ⟨ad381, e381, hx381_0⟩ := Kd.at_int HR380_0.out x34_3 p381 q381
                cases e381
                replace hx381_0 := (HB.out.cell (World.block_lt_of_cell? w _ hx381_0)).trans hx381_0
                replace p381 := eq_true p381
                replace q381 := eq_true q381
                have hcz23_0 : wr.cell? ⟨gb379, 0, none⟩ = some (.string ((rd_T24 l0 x24_2).f0)) := (blk_cell BK379.out 0).trans rfl
                have hcz23_1 : wr.cell? ⟨gb379, 1, none⟩ = some (.int .i64 ((rd_T24 l0 x24_2).f1)) := (blk_cell BK379.out 1).trans rfl
                have hcz23_2 : wr.cell? ⟨gb379, 2, none⟩ = some (.int .i64 ((rd_T24 l0 x24_2).f2)) := (blk_cell BK379.out 2).trans rfl
                have hfz23_0 := blk_frozen BK379.out 0
                have hfz23_1 := blk_frozen BK379.out 1
                have hfz23_2 := blk_frozen BK379.out 2
                go_wp2
                go_roundg k3
                case measure => have := HJ3.out; have := HK2.out; have := HK3.out; omega
                case rel => exact ⟨(x7_3), (wrap64 (x34_3 + 1)), (by first | rfl | (simp; done) | (simp [*]; done)), H', ⟨by have := HJ3.out; have := HK2.out; have := HK3.out; omega⟩, ⟨by (with_reducible repeat (first | apply Kd.R_alloc | apply Kd.R_drewN | apply Kd.R_drew)); exact HO_7.out⟩, ⟨by (with_reducible repeat (first | refine blk_drewN ?_ _ | refine blk_drew ?_ | refine blk_alloc ?_ _)); exact BK379.out⟩, ⟨by repeat (first | (with_reducible first | exact HB.out | apply below_alloc | apply pw_below_drewN | apply below_drew1 | refine below_set ?_ GE379.out) | exact HB.out)⟩⟩
              ·rw [if_neg c18] at H
               exact absurd H (by simp)
             ·rw [if_neg c17] at H
              exact absurd H (by simp)
            ·rw [if_neg c16] at H
             have c16b0 : decide (x34_3 < ((rd_L4 l1 x24_2).length : Int)) = false := decide_eq_false c16
             clear c16
             have H' := Aside0.mk H
             clear H
             go_wp2
             go_roundg k3
             case measure => have := HJ3.out; have := HK2.out; have := HK3.out; omega
             case rel => exact ⟨(x7_3), (wrap64 (x24_2 + 1)), (by first | rfl | (simp; done) | (simp [*]; done)), H', ⟨by have := HJ3.out; have := HK2.out; have := HK3.out; omega⟩, ⟨by (with_reducible repeat (first | apply Kd.R_alloc | apply Kd.R_drewN | apply Kd.R_drew)); exact HO_7.out⟩, ⟨by repeat (first | (with_reducible first | exact HB.out | apply below_alloc | apply pw_below_drewN | apply below_drew1 | refine below_set ?_ GE379.out) | exact HB.out)⟩⟩
         ·rw [if_neg c13] at H
          exact absurd H (by simp)
        ·rw [if_neg c12] at H
         exact absurd H (by simp)
       ·rw [if_neg c11] at H
        exact absurd H (by simp)
      ·rw [if_neg c10] at H
       have c10b0 : decide (x24_2 < (l0.length : Int)) = false := decide_eq_false c10
       clear c10
       obtain rfl := Option.some.inj H
       go_wp2
       go_ret
       exact ⟨_, by first | rfl | (simp [errW_none, errW_some] <;> rfl) | (simp [*, errW_none, errW_some] <;> rfl), by (with_reducible repeat (first | apply Kd.R_alloc | apply Kd.R_drewN | apply Kd.R_drew)); exact HO_7.out, by repeat (first | (with_reducible first | exact HB.out | apply below_alloc | apply pw_below_drewN | apply below_drew1) | exact HB.out)⟩

/-! ### flow_Job_55: function 55 -/
def flow_Job_55.l0 : Nat → List (S83) → List (S83) → Int → Int → Option (Bool)
 | 0, _, _, _, _ => none
 | k + 1, x0, x1, x12, x13 => if x13 < x12 then (if 0 ≤ x13 then (if x13 < (x0.length : Int) then (if x13 < (x1.length : Int) then (if (!(((rd_T83 x0 x13).f0) == ((rd_T83 x1 x13).f0)) || (!(((rd_T83 x0 x13).f1) == ((rd_T83 x1 x13).f1)) || (!(((rd_T83 x0 x13).f2) == ((rd_T83 x1 x13).f2))))) = true then (some false) else (flow_Job_55.l0 k x0 x1 x12 (wrap64 (x13 + 1)))) else (none)) else (none)) else (none)) else (some true)
def flow_Job_55.f (k : Nat) (l0 : List (S83)) (l1 : List (S83)) : Option (Bool) := if (l0.length : Int) = (l1.length : Int) then (flow_Job_55.l0 k l0 l1 (l0.length : Int) 0) else (some false)
theorem flow_Job_55.mono_l : ∀ k, (∀ y0 y1 y2 y3, LeO (flow_Job_55.l0 k y0 y1 y2 y3) (flow_Job_55.l0 (k + 1) y0 y1 y2 y3))
 | 0 => fun _ _ _ _ r h => by simp [flow_Job_55.l0] at h
 | k + 1 => by
  have ih0 := flow_Job_55.mono_l k
  ·intro y0 y1 y2 y3
   unfold flow_Job_55.l0
   repeat' first
   | (with_reducible exact ih0 _ _ _ _)
   | (with_reducible exact LeO.refl _)
   | (with_reducible exact LeO.none _)
   | (with_reducible refine LeO.ite ?_ ?_)
   | (with_reducible refine LeO.bind ?_ (fun _ => ?_))
   | exact ih0 _ _ _ _
   | exact LeO.none _
   | refine LeO.ite ?_ ?_
   | refine LeO.bind ?_ (fun _ => ?_)
theorem flow_Job_55.mono : ∀ a0 a1 k, LeO (flow_Job_55.f k a0 a1) (flow_Job_55.f (k + 1) a0 a1) := by
 intro a0 a1 k
 have ih0 := flow_Job_55.mono_l k
 unfold flow_Job_55.f
 repeat' first
   | (with_reducible exact ih0 _ _ _ _)
   | (with_reducible exact LeO.refl _)
   | (with_reducible exact LeO.none _)
   | (with_reducible refine LeO.ite ?_ ?_)
   | (with_reducible refine LeO.bind ?_ (fun _ => ?_))
   | exact ih0 _ _ _ _
   | exact LeO.none _
   | refine LeO.ite ?_ ?_
   | refine LeO.bind ?_ (fun _ => ?_)
set_option maxHeartbeats 8000000 in
set_option maxRecDepth 100000 in
theorem flow_Job_55.calls (k : Nat) (A0 : Option Addr) (c0 : Nat) (l0 : List (S83)) (A1 : Option Addr) (c1 : Nat) (l1 : List (S83)) (r : Bool) (w : World) (hr0 : Kd.C k83 w A0 l0.length l0) (hc0 : l0.length ≤ c0) (hr1 : Kd.C k83 w A1 l1.length l1) (hc1 : l1.length ≤ c1) (h : flow_Job_55.f k l0 l1 = some r) :
  Calls Try.prog 55 #[.slice A0 l0.length c0, .slice A1 l1.length c1] w fun e w' => e = .returned (.bool r) ∧ Drawn0 w w' := by
 have hu83 := Try.underlying83
 have HR0 := Aside0.mk hr0
 have HC0 := Aside0.mk hc0
 clear hr0 hc0
 have HR1 := Aside0.mk hr1
 have HC1 := Aside0.mk hc1
 clear hr1 hc1
 have H : (if (l0.length : Int) = (l1.length : Int) then (flow_Job_55.l0 k l0 l1 (l0.length : Int) 0) else (some false)) = some r := h
 clear h
 by_cases c3 : (l0.length : Int) = (l1.length : Int)
 ·rw [if_pos c3] at H
  have c3b0 : ((l0.length : Int) == (l1.length : Int)) = true := beq_iff_eq.mpr c3
  have c3b1 : ((l0.length : Int) != (l1.length : Int)) = false := bne_eq_false_iff_eq.mpr c3
  have c3b2 : (l0.length == l1.length) = true := by first | simpa using c3 | (simp at c3 ⊢; omega)
  clear c3
  have H' := Aside0.mk H
  clear H
  go_enter Try.func55, Try.ntmps55
  go_wp2
  repeat (go_quiet (fail); try go_wp2)
  go_loopg [13] k (fun kq v13 w' => ∃ (x13_1 : Int), v13 = .int .i64 x13_1 ∧ Aside0 (flow_Job_55.l0 kq l0 l1 (l0.length : Int) x13_1 = some r) ∧ Aside0 (kq ≤ k) ∧ Drawn0 w w')
  case atStart => exact ⟨(0), (by first | rfl | (simp; done) | (simp [*]; done)), H', ⟨Nat.le_refl _⟩, by repeat (first | exact Drawn0.refl _ | apply Drawn0.step)⟩
  case round =>
   clear H'
   try clear c1
   try clear p2
   try clear c3
   try clear c3b0
   try clear c3b1
   try clear c3b2
   obtain ⟨x13_1, rfl, HA, HK1, ⟨m1, rfl⟩⟩ := hrel
   cases gk with
   | zero => exact absurd HA.out (by simp [flow_Job_55.l0])
   | succ k1 =>
    have H := HA.out
    clear HA
    simp only [flow_Job_55.l0] at H
    by_cases c4 : x13_1 < (l0.length : Int)
    ·rw [if_pos c4] at H
     have c4b0 : decide (x13_1 < (l0.length : Int)) = true := decide_eq_true c4
     clear c4
     by_cases c5 : 0 ≤ x13_1
     ·rw [if_pos c5] at H
      have c5b0 : decide (0 ≤ x13_1) = true := decide_eq_true c5
      clear c5
      by_cases c6 : x13_1 < (l0.length : Int)
      ·rw [if_pos c6] at H
       have c6b0 : decide (x13_1 < (l0.length : Int)) = true := decide_eq_true c6
       clear c6
       by_cases c7 : x13_1 < (l1.length : Int)
       ·rw [if_pos c7] at H
        have c7b0 : decide (x13_1 < (l1.length : Int)) = true := decide_eq_true c7
        clear c7
        by_cases c8 : (!(((rd_T83 l0 x13_1).f0) == ((rd_T83 l1 x13_1).f0)) || (!(((rd_T83 l0 x13_1).f1) == ((rd_T83 l1 x13_1).f1)) || (!(((rd_T83 l0 x13_1).f2) == ((rd_T83 l1 x13_1).f2))))) = true
        ·rw [if_pos c8] at H
         have c8b0 : (!(((rd_T83 l0 x13_1).f0) == ((rd_T83 l1 x13_1).f0)) || (!(((rd_T83 l0 x13_1).f1) == ((rd_T83 l1 x13_1).f1)) || (!(((rd_T83 l0 x13_1).f2) == ((rd_T83 l1 x13_1).f2))))) = true := c8
         clear c8
         obtain rfl := Option.some.inj H
         have p385 : 0 ≤ (x13_1 : Int) := of_decide_eq_true (by first | (with_reducible assumption) | assumption)
         have q385 : x13_1 < (l0.length : Int) := of_decide_eq_true (by first | (with_reducible assumption) | assumption)
         obtain ⟨ad385, e385, hx385_0, hx385_1, hx385_2⟩ := at_T83 HR0.out x13_1 p385 q385
         cases e385
         replace p385 := eq_true p385
         replace q385 := eq_true q385
         have p386 : 0 ≤ (x13_1 : Int) := of_decide_eq_true (by first | (with_reducible assumption) | assumption)
         have q386 : x13_1 < (l1.length : Int) := of_decide_eq_true (by first | (with_reducible assumption) | assumption)
         obtain ⟨ad386, e386, hx386_0, hx386_1, hx386_2⟩ := at_T83 HR1.out x13_1 p386 q386
         cases e386
         replace p386 := eq_true p386
         replace q386 := eq_true q386
         go_wp2
         repeat (go_quiet (fail); try go_wp2)
         go_ret
         exact ⟨by first | rfl | (simp; done) | (simp [*]; done), by repeat (first | exact Drawn0.refl _ | apply Drawn0.step)⟩
        ·rw [if_neg c8] at H
         have c8b0 : (!(((rd_T83 l0 x13_1).f0) == ((rd_T83 l1 x13_1).f0)) || (!(((rd_T83 l0 x13_1).f1) == ((rd_T83 l1 x13_1).f1)) || (!(((rd_T83 l0 x13_1).f2) == ((rd_T83 l1 x13_1).f2))))) = false := by simpa using c8
         clear c8
         have H' := Aside0.mk H
         clear H
         have p385 : 0 ≤ (x13_1 : Int) := of_decide_eq_true (by first | (with_reducible assumption) | assumption)
         have q385 : x13_1 < (l0.length : Int) := of_decide_eq_true (by first | (with_reducible assumption) | assumption)
         obtain ⟨ad385, e385, hx385_0, hx385_1, hx385_2⟩ := at_T83 HR0.out x13_1 p385 q385
         cases e385
         replace p385 := eq_true p385
         replace q385 := eq_true q385
         have p386 : 0 ≤ (x13_1 : Int) := of_decide_eq_true (by first | (with_reducible assumption) | assumption)
         have q386 : x13_1 < (l1.length : Int) := of_decide_eq_true (by first | (with_reducible assumption) | assumption)
         obtain ⟨ad386, e386, hx386_0, hx386_1, hx386_2⟩ := at_T83 HR1.out x13_1 p386 q386
         cases e386
         replace p386 := eq_true p386
         replace q386 := eq_true q386
         go_wp2
         repeat (go_quiet (fail); try go_wp2)
         go_roundg k1
         case measure => have := HK1.out; omega
         case rel => exact ⟨(wrap64 (x13_1 + 1)), (by first | rfl | (simp; done) | (simp [*]; done)), H', ⟨by have := HK1.out; omega⟩, by repeat (first | exact Drawn0.refl _ | apply Drawn0.step)⟩
       ·rw [if_neg c7] at H
        exact absurd H (by simp)
      ·rw [if_neg c6] at H
       exact absurd H (by simp)
     ·rw [if_neg c5] at H
      exact absurd H (by simp)
    ·rw [if_neg c4] at H
     have c4b0 : decide (x13_1 < (l0.length : Int)) = false := decide_eq_false c4
     clear c4
     obtain rfl := Option.some.inj H
     go_wp2
     repeat (go_quiet (fail); try go_wp2)
     go_ret
     exact ⟨by first | rfl | (simp; done) | (simp [*]; done), by repeat (first | exact Drawn0.refl _ | apply Drawn0.step)⟩
 ·rw [if_neg c3] at H
  have c3b0 : ((l0.length : Int) == (l1.length : Int)) = false := beq_eq_false_iff_ne.mpr c3
  have c3b1 : ((l0.length : Int) != (l1.length : Int)) = true := bne_iff_ne.mpr c3
  have c3b2 : (l0.length == l1.length) = false := by first | simpa using c3 | (simp at c3 ⊢; omega)
  obtain rfl := Option.some.inj H
  go_enter Try.func55, Try.ntmps55
  go_wp2
  repeat (go_quiet (fail); try go_wp2)
  go_ret
  exact ⟨by first | rfl | (simp; done) | (simp [*]; done), by repeat (first | exact Drawn0.refl _ | apply Drawn0.step)⟩

end Go.Proofs.Ythdjhgidccmlfaa.P
