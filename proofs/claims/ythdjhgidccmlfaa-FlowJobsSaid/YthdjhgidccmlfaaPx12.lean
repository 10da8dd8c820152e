/- Written by xprint.py: functions, proofs of contracts. -/
import Derived.Test.YthdjhgidccmlfaaPx0
import Derived.Test.YthdjhgidccmlfaaPx11
import Derived.Test.YthdjhgidccmlfaaXAwake
namespace Go.Proofs.Ythdjhgidccmlfaa.P
open Go.RowKit Go.Proofs.YthdjhgidccmlfaaW.PrintWords Go.Proofs.YthdjhgidccmlfaaW.PrintLast Go.Proofs.YthdjhgidccmlfaaW.PrintMore
attribute [local go_sem] max2_int min2_int max_two min_two max_three min_three max_four min_four   -- for this text's walks alone
set_option linter.unusedVariables false
set_option linter.unusedSimpArgs false

/-! ### ontimelaw47_FlowJobs: function 19 -/
mutual
def ontimelaw47_FlowJobs.j0 : Nat → List (S24) → List (List Int) → Int → Bool → Option (Bool)
 | 0, _, _, _, _ => none
 | k + 1, x0, x1, x2, x24 => if x24 = true then ((ontimelaw47_awake.f).bind fun t388 => (some t388)) else ((taskset_Valid.f k x0).bind fun t389 => (if t389 = true then (ontimelaw47_FlowJobs.j1 k x0 x1 x2 ([] : List (S83)) ((x1.length : Int) == (x0.length : Int))) else (ontimelaw47_FlowJobs.j1 k x0 x1 x2 ([] : List (S83)) false)))
def ontimelaw47_FlowJobs.j1 : Nat → List (S24) → List (List Int) → Int → List (S83) → Bool → Option (Bool)
 | 0, _, _, _, _, _ => none
 | k + 1, x0, x1, x2, x7, x34 => if x34 = true then (ontimelaw47_FlowJobs.l0 k x0 x1 x2 x7 x1 (x1.length : Int) 0) else ((flow_Jobs.f k x0 x1 x2).bind fun t401 => ((flow_Job_55.f k t401 x7).bind fun t404 => (some t404)))
def ontimelaw47_FlowJobs.l0 : Nat → List (S24) → List (List Int) → Int → List (S83) → List (List Int) → Int → Int → Option (Bool)
 | 0, _, _, _, _, _, _, _ => none
 | k + 1, x0, x1, x2, x7, x35, x36, x37 => if x37 < x36 then (if 0 ≤ x37 then (if x37 < (x35.length : Int) then (if ((rd_L4 x35 x37).length : Int) > 50 then (some true) else (ontimelaw47_FlowJobs.l1 k x0 x1 x2 x7 x37 x35 x36 x37 (rd_L4 x35 x37) ((rd_L4 x35 x37).length : Int) 0)) else (none)) else (none)) else ((flow_Jobs.f k x0 x1 x2).bind fun t390 => ((flow_Job_55.f k t390 x7).bind fun t393 => (some t393)))
def ontimelaw47_FlowJobs.l1 : Nat → List (S24) → List (List Int) → Int → List (S83) → Int → List (List Int) → Int → Int → List Int → Int → Int → Option (Bool)
 | 0, _, _, _, _, _, _, _, _, _, _, _ => none
 | k + 1, x0, x1, x2, x7, x8, x35, x36, x37, x45, x46, x47 => if x47 < x46 then (if 0 ≤ x47 then (if x47 < (x45.length : Int) then (if (rd x45 x47) > 1099511627776 then (ontimelaw47_FlowJobs.j4 k x0 x1 x2 x7 x8 (rd x45 x47) x35 x36 x37 x45 x46 x47 true) else (ontimelaw47_FlowJobs.j4 k x0 x1 x2 x7 x8 (rd x45 x47) x35 x36 x37 x45 x46 x47 (decide ((rd x45 x47) < (-1099511627776))))) else (none)) else (none)) else (ontimelaw47_FlowJobs.l0 k x0 x1 x2 x7 x35 x36 (wrap64 (x37 + 1)))
def ontimelaw47_FlowJobs.j4 : Nat → List (S24) → List (List Int) → Int → List (S83) → Int → Int → List (List Int) → Int → Int → List Int → Int → Int → Bool → Option (Bool)
 | 0, _, _, _, _, _, _, _, _, _, _, _, _, _ => none
 | k + 1, x0, x1, x2, x7, x8, x11, x35, x36, x37, x45, x46, x47, x56 => if x56 = true then (some true) else (if 0 ≤ x8 then (if x8 < (x0.length : Int) then (if (wrap64 (x11 + ((rd_T24 x0 x8).f2))) ≤ x2 then (if x7.length < 5864062014805 then (ontimelaw47_FlowJobs.l1 k x0 x1 x2 (x7 ++ [(⟨x11, wrap64 (x11 + ((rd_T24 x0 x8).f2)), (rd_T24 x0 x8).f1⟩ : S83)]) x8 x35 x36 x37 x45 x46 (wrap64 (x47 + 1))) else (none)) else (ontimelaw47_FlowJobs.l1 k x0 x1 x2 x7 x8 x35 x36 x37 x45 x46 (wrap64 (x47 + 1)))) else (none)) else (none))
end
def ontimelaw47_FlowJobs.f (k : Nat) (l0 : List (S24)) (l1 : List (List Int)) (a2 : Int) : Option (Bool) := (ontimelaw47_awake.f).bind fun t387 => (if t387 = true then (if (l0.length : Int) > 14 then (ontimelaw47_FlowJobs.j0 k l0 l1 a2 true) else (ontimelaw47_FlowJobs.j0 k l0 l1 a2 (decide ((l1.length : Int) > 28)))) else (ontimelaw47_FlowJobs.j0 k l0 l1 a2 true))
theorem ontimelaw47_FlowJobs.mono_l : ∀ k, (∀ y0 y1 y2 y3, LeO (ontimelaw47_FlowJobs.j0 k y0 y1 y2 y3) (ontimelaw47_FlowJobs.j0 (k + 1) y0 y1 y2 y3)) ∧ (∀ y0 y1 y2 y3 y4, LeO (ontimelaw47_FlowJobs.j1 k y0 y1 y2 y3 y4) (ontimelaw47_FlowJobs.j1 (k + 1) y0 y1 y2 y3 y4)) ∧ (∀ y0 y1 y2 y3 y4 y5 y6, LeO (ontimelaw47_FlowJobs.l0 k y0 y1 y2 y3 y4 y5 y6) (ontimelaw47_FlowJobs.l0 (k + 1) y0 y1 y2 y3 y4 y5 y6)) ∧ (∀ y0 y1 y2 y3 y4 y5 y6 y7 y8 y9 y10, LeO (ontimelaw47_FlowJobs.l1 k y0 y1 y2 y3 y4 y5 y6 y7 y8 y9 y10) (ontimelaw47_FlowJobs.l1 (k + 1) y0 y1 y2 y3 y4 y5 y6 y7 y8 y9 y10)) ∧ (∀ y0 y1 y2 y3 y4 y5 y6 y7 y8 y9 y10 y11 y12, LeO (ontimelaw47_FlowJobs.j4 k y0 y1 y2 y3 y4 y5 y6 y7 y8 y9 y10 y11 y12) (ontimelaw47_FlowJobs.j4 (k + 1) y0 y1 y2 y3 y4 y5 y6 y7 y8 y9 y10 y11 y12))
 | 0 => ⟨fun _ _ _ _ r h => by simp [ontimelaw47_FlowJobs.j0] at h, fun _ _ _ _ _ r h => by simp [ontimelaw47_FlowJobs.j1] at h, fun _ _ _ _ _ _ _ r h => by simp [ontimelaw47_FlowJobs.l0] at h, fun _ _ _ _ _ _ _ _ _ _ _ r h => by simp [ontimelaw47_FlowJobs.l1] at h, fun _ _ _ _ _ _ _ _ _ _ _ _ _ r h => by simp [ontimelaw47_FlowJobs.j4] at h⟩
 | k + 1 => by
  obtain ⟨ih0, ih1, ih2, ih3, ih4⟩ := ontimelaw47_FlowJobs.mono_l k
  refine ⟨?_, ?_, ?_, ?_, ?_⟩
  ·intro y0 y1 y2 y3
   unfold ontimelaw47_FlowJobs.j0
   repeat' first
   | (with_reducible exact ih0 _ _ _ _)
   | (with_reducible exact ih1 _ _ _ _ _)
   | (with_reducible exact ih2 _ _ _ _ _ _ _)
   | (with_reducible exact ih3 _ _ _ _ _ _ _ _ _ _ _)
   | (with_reducible exact ih4 _ _ _ _ _ _ _ _ _ _ _ _ _)
   | (with_reducible exact flow_Job_55.mono _ _ _)
   | (with_reducible exact flow_Jobs.mono _ _ _ _)
   | (with_reducible exact taskset_Valid.mono _ _)
   | (with_reducible exact LeO.refl _)
   | (with_reducible exact LeO.none _)
   | (with_reducible refine LeO.ite ?_ ?_)
   | (with_reducible refine LeO.bind ?_ (fun _ => ?_))
   | exact ih0 _ _ _ _
   | exact ih1 _ _ _ _ _
   | exact ih2 _ _ _ _ _ _ _
   | exact ih3 _ _ _ _ _ _ _ _ _ _ _
   | exact ih4 _ _ _ _ _ _ _ _ _ _ _ _ _
   | exact flow_Job_55.mono _ _ _
   | exact flow_Jobs.mono _ _ _ _
   | exact taskset_Valid.mono _ _
   | exact LeO.none _
   | refine LeO.ite ?_ ?_
   | refine LeO.bind ?_ (fun _ => ?_)
  ·intro y0 y1 y2 y3 y4
   unfold ontimelaw47_FlowJobs.j1
   repeat' first
   | (with_reducible exact ih0 _ _ _ _)
   | (with_reducible exact ih1 _ _ _ _ _)
   | (with_reducible exact ih2 _ _ _ _ _ _ _)
   | (with_reducible exact ih3 _ _ _ _ _ _ _ _ _ _ _)
   | (with_reducible exact ih4 _ _ _ _ _ _ _ _ _ _ _ _ _)
   | (with_reducible exact flow_Job_55.mono _ _ _)
   | (with_reducible exact flow_Jobs.mono _ _ _ _)
   | (with_reducible exact taskset_Valid.mono _ _)
   | (with_reducible exact LeO.refl _)
   | (with_reducible exact LeO.none _)
   | (with_reducible refine LeO.ite ?_ ?_)
   | (with_reducible refine LeO.bind ?_ (fun _ => ?_))
   | exact ih0 _ _ _ _
   | exact ih1 _ _ _ _ _
   | exact ih2 _ _ _ _ _ _ _
   | exact ih3 _ _ _ _ _ _ _ _ _ _ _
   | exact ih4 _ _ _ _ _ _ _ _ _ _ _ _ _
   | exact flow_Job_55.mono _ _ _
   | exact flow_Jobs.mono _ _ _ _
   | exact taskset_Valid.mono _ _
   | exact LeO.none _
   | refine LeO.ite ?_ ?_
   | refine LeO.bind ?_ (fun _ => ?_)
  ·intro y0 y1 y2 y3 y4 y5 y6
   unfold ontimelaw47_FlowJobs.l0
   repeat' first
   | (with_reducible exact ih0 _ _ _ _)
   | (with_reducible exact ih1 _ _ _ _ _)
   | (with_reducible exact ih2 _ _ _ _ _ _ _)
   | (with_reducible exact ih3 _ _ _ _ _ _ _ _ _ _ _)
   | (with_reducible exact ih4 _ _ _ _ _ _ _ _ _ _ _ _ _)
   | (with_reducible exact flow_Job_55.mono _ _ _)
   | (with_reducible exact flow_Jobs.mono _ _ _ _)
   | (with_reducible exact taskset_Valid.mono _ _)
   | (with_reducible exact LeO.refl _)
   | (with_reducible exact LeO.none _)
   | (with_reducible refine LeO.ite ?_ ?_)
   | (with_reducible refine LeO.bind ?_ (fun _ => ?_))
   | exact ih0 _ _ _ _
   | exact ih1 _ _ _ _ _
   | exact ih2 _ _ _ _ _ _ _
   | exact ih3 _ _ _ _ _ _ _ _ _ _ _
   | exact ih4 _ _ _ _ _ _ _ _ _ _ _ _ _
   | exact flow_Job_55.mono _ _ _
   | exact flow_Jobs.mono _ _ _ _
   | exact taskset_Valid.mono _ _
   | exact LeO.none _
   | refine LeO.ite ?_ ?_
   | refine LeO.bind ?_ (fun _ => ?_)
  ·intro y0 y1 y2 y3 y4 y5 y6 y7 y8 y9 y10
   unfold ontimelaw47_FlowJobs.l1
   repeat' first
   | (with_reducible exact ih0 _ _ _ _)
   | (with_reducible exact ih1 _ _ _ _ _)
   | (with_reducible exact ih2 _ _ _ _ _ _ _)
   | (with_reducible exact ih3 _ _ _ _ _ _ _ _ _ _ _)
   | (with_reducible exact ih4 _ _ _ _ _ _ _ _ _ _ _ _ _)
   | (with_reducible exact flow_Job_55.mono _ _ _)
   | (with_reducible exact flow_Jobs.mono _ _ _ _)
   | (with_reducible exact taskset_Valid.mono _ _)
   | (with_reducible exact LeO.refl _)
   | (with_reducible exact LeO.none _)
   | (with_reducible refine LeO.ite ?_ ?_)
   | (with_reducible refine LeO.bind ?_ (fun _ => ?_))
   | exact ih0 _ _ _ _
   | exact ih1 _ _ _ _ _
   | exact ih2 _ _ _ _ _ _ _
   | exact ih3 _ _ _ _ _ _ _ _ _ _ _
   | exact ih4 _ _ _ _ _ _ _ _ _ _ _ _ _
   | exact flow_Job_55.mono _ _ _
   | exact flow_Jobs.mono _ _ _ _
   | exact taskset_Valid.mono _ _
   | exact LeO.none _
   | refine LeO.ite ?_ ?_
   | refine LeO.bind ?_ (fun _ => ?_)
  ·intro y0 y1 y2 y3 y4 y5 y6 y7 y8 y9 y10 y11 y12
   unfold ontimelaw47_FlowJobs.j4
   repeat' first
   | (with_reducible exact ih0 _ _ _ _)
   | (with_reducible exact ih1 _ _ _ _ _)
   | (with_reducible exact ih2 _ _ _ _ _ _ _)
   | (with_reducible exact ih3 _ _ _ _ _ _ _ _ _ _ _)
   | (with_reducible exact ih4 _ _ _ _ _ _ _ _ _ _ _ _ _)
   | (with_reducible exact flow_Job_55.mono _ _ _)
   | (with_reducible exact flow_Jobs.mono _ _ _ _)
   | (with_reducible exact taskset_Valid.mono _ _)
   | (with_reducible exact LeO.refl _)
   | (with_reducible exact LeO.none _)
   | (with_reducible refine LeO.ite ?_ ?_)
   | (with_reducible refine LeO.bind ?_ (fun _ => ?_))
   | exact ih0 _ _ _ _
   | exact ih1 _ _ _ _ _
   | exact ih2 _ _ _ _ _ _ _
   | exact ih3 _ _ _ _ _ _ _ _ _ _ _
   | exact ih4 _ _ _ _ _ _ _ _ _ _ _ _ _
   | exact flow_Job_55.mono _ _ _
   | exact flow_Jobs.mono _ _ _ _
   | exact taskset_Valid.mono _ _
   | exact LeO.none _
   | refine LeO.ite ?_ ?_
   | refine LeO.bind ?_ (fun _ => ?_)
theorem ontimelaw47_FlowJobs.mono : ∀ a0 a1 a2 k, LeO (ontimelaw47_FlowJobs.f k a0 a1 a2) (ontimelaw47_FlowJobs.f (k + 1) a0 a1 a2) := by
 intro a0 a1 a2 k
 obtain ⟨ih0, ih1, ih2, ih3, ih4⟩ := ontimelaw47_FlowJobs.mono_l k
 unfold ontimelaw47_FlowJobs.f
 repeat' first
   | (with_reducible exact ih0 _ _ _ _)
   | (with_reducible exact ih1 _ _ _ _ _)
   | (with_reducible exact ih2 _ _ _ _ _ _ _)
   | (with_reducible exact ih3 _ _ _ _ _ _ _ _ _ _ _)
   | (with_reducible exact ih4 _ _ _ _ _ _ _ _ _ _ _ _ _)
   | (with_reducible exact flow_Job_55.mono _ _ _)
   | (with_reducible exact flow_Jobs.mono _ _ _ _)
   | (with_reducible exact taskset_Valid.mono _ _)
   | (with_reducible exact LeO.refl _)
   | (with_reducible exact LeO.none _)
   | (with_reducible refine LeO.ite ?_ ?_)
   | (with_reducible refine LeO.bind ?_ (fun _ => ?_))
   | exact ih0 _ _ _ _
   | exact ih1 _ _ _ _ _
   | exact ih2 _ _ _ _ _ _ _
   | exact ih3 _ _ _ _ _ _ _ _ _ _ _
   | exact ih4 _ _ _ _ _ _ _ _ _ _ _ _ _
   | exact flow_Job_55.mono _ _ _
   | exact flow_Jobs.mono _ _ _ _
   | exact taskset_Valid.mono _ _
   | exact LeO.none _
   | refine LeO.ite ?_ ?_
   | refine LeO.bind ?_ (fun _ => ?_)
set_option maxHeartbeats 8000000 in
set_option maxRecDepth 100000 in
theorem ontimelaw47_FlowJobs.calls (k : Nat) (A0 : Option Addr) (c0 : Nat) (l0 : List (S24)) (A1 : Option Addr) (c1 : Nat) (l1 : List (List Int)) (a2 : Int) (r : Bool) (w : World) (hr0 : Kd.C k24 w A0 l0.length l0) (hc0 : l0.length ≤ c0) (hr1 : Kd.C (Kd.slice 3 (Kd.int .i64)) w A1 l1.length l1) (hc1 : l1.length ≤ c1) (h : ontimelaw47_FlowJobs.f k l0 l1 a2 = some r) :
  Calls Try.prog 19 #[.slice A0 l0.length c0, .slice A1 l1.length c1, .int .i64 a2] w fun e w' => e = .returned (.bool r) ∧ Below w.heap.size w w' := by
 have hu83 := Try.underlying83
 have HR0 := Aside0.mk hr0
 have HC0 := Aside0.mk hc0
 clear hr0 hc0
 have HR1 := Aside0.mk hr1
 have HC1 := Aside0.mk hc1
 clear hr1 hc1
 have HB := Aside0.mk (Below.refl w.heap.size w)
 have H : ((ontimelaw47_awake.f).bind fun t387 => (if t387 = true then (if (l0.length : Int) > 14 then (ontimelaw47_FlowJobs.j0 k l0 l1 a2 true) else (ontimelaw47_FlowJobs.j0 k l0 l1 a2 (decide ((l1.length : Int) > 28)))) else (ontimelaw47_FlowJobs.j0 k l0 l1 a2 true))) = some r := h
 clear h
 have HC4 := Aside0.mk H
 clear H
 go_enter Try.func19, Try.ntmps19
 go_upto_region 1 with (fail)
 go_cut [24] (fun v24 wc => ∃ (kq : Nat) (x24_3 : Bool), v24 = .bool x24_3 ∧ Aside0 (ontimelaw47_FlowJobs.j0 kq l0 l1 a2 x24_3 = some r) ∧ Aside0 (kq ≤ k) ∧ Aside0 (Below w.heap.size w wc))
 case first =>
  have H := HC4.out
  clear HC4
  replace H := Option.bind_eq_some_iff.mp H
  obtain ⟨t387, A50, H⟩ := H
  replace H : (if t387 = true then (if (l0.length : Int) > 14 then (ontimelaw47_FlowJobs.j0 k l0 l1 a2 true) else (ontimelaw47_FlowJobs.j0 k l0 l1 a2 (decide ((l1.length : Int) > 28)))) else (ontimelaw47_FlowJobs.j0 k l0 l1 a2 true)) = some r := H
  have A5 := Aside0.mk A50
  clear A50
  by_cases c6 : t387 = true
  ·subst c6
   have H1 : (if (l0.length : Int) > 14 then (ontimelaw47_FlowJobs.j0 k l0 l1 a2 true) else (ontimelaw47_FlowJobs.j0 k l0 l1 a2 (decide ((l1.length : Int) > 28)))) = some r := by rw [if_pos rfl] at H; exact H
   clear H
   have H := H1
   clear H1
   by_cases c7 : (l0.length : Int) > 14
   ·rw [if_pos c7] at H
    have c7b0 : decide (14 < (l0.length : Int)) = true := decide_eq_true c7
    have c7b1 : decide (14 < l0.length) = true := decide_eq_true (by omega)
    clear c7
    (first | rw [c7b0] | (simp only [i64_w, i32_w]; rw [c7b0]) | skip)
    have H' := Aside0.mk H
    clear H
    go_wp2_with (first | ((with_reducible refine gate_callee (f := 41) rfl ?_); refine goesL_ (some 13) rfl rfl Try.func41 (by kernel_rfl) rfl #[] rfl (by (try simp only [List.map_toArray, List.map_cons, List.map_nil]); first | done | rfl | (simp only [List.length_drop, List.length_take]; rfl)) ?_; (with_reducible refine (ontimelaw47_awake.calls  true _ A5.out).mono ?_); rintro e w8 ⟨rfl, hb⟩; refine ⟨_, rfl, ?_⟩; have n0_ := Aside0.mk (below_step (by repeat (first | (with_reducible first | exact HB.out | apply below_alloc | apply pw_below_drewN | apply below_drew1) | exact HB.out)) hb); clear HB; have HB := n0_; clear n0_; (try clear hb); (try clear hb2); (try clear hk); (try clear hi)))
    go_meet
    case rel => exact ⟨_, (true), (by first | rfl | (simp; done) | (simp [*]; done)), H', ⟨by first | omega | exact Nat.le_refl _⟩, ⟨by repeat (first | (with_reducible first | exact HB.out | apply below_alloc | apply pw_below_drewN | apply below_drew1) | exact HB.out)⟩⟩
   ·rw [if_neg c7] at H
    have c7b0 : decide (14 < (l0.length : Int)) = false := decide_eq_false c7
    have c7b1 : decide (14 < l0.length) = false := decide_eq_false (by omega)
    clear c7
    (first | rw [c7b0] | (simp only [i64_w, i32_w]; rw [c7b0]) | skip)
    have H' := Aside0.mk H
    clear H
    go_wp2_with (first | ((with_reducible refine gate_callee (f := 41) rfl ?_); refine goesL_ (some 13) rfl rfl Try.func41 (by kernel_rfl) rfl #[] rfl (by (try simp only [List.map_toArray, List.map_cons, List.map_nil]); first | done | rfl | (simp only [List.length_drop, List.length_take]; rfl)) ?_; (with_reducible refine (ontimelaw47_awake.calls  true _ A5.out).mono ?_); rintro e w9 ⟨rfl, hb⟩; refine ⟨_, rfl, ?_⟩; have n0_ := Aside0.mk (below_step (by repeat (first | (with_reducible first | exact HB.out | apply below_alloc | apply pw_below_drewN | apply below_drew1) | exact HB.out)) hb); clear HB; have HB := n0_; clear n0_; (try clear hb); (try clear hb2); (try clear hk); (try clear hi)))
    go_meet
    case rel => exact ⟨_, (decide ((l1.length : Int) > 28)), (by first | rfl | (simp; done) | (simp [*]; done)), H', ⟨by first | omega | exact Nat.le_refl _⟩, ⟨by repeat (first | (with_reducible first | exact HB.out | apply below_alloc | apply pw_below_drewN | apply below_drew1) | exact HB.out)⟩⟩
  ·replace c6 := Bool.eq_false_iff.mpr c6
   subst c6
   have H1 : (ontimelaw47_FlowJobs.j0 k l0 l1 a2 true) = some r := by rw [if_neg (show ¬ (false = true) by decide)] at H; exact H
   clear H
   have H := H1
   clear H1
   have H' := Aside0.mk H
   clear H
   go_wp2_with (first | ((with_reducible refine gate_callee (f := 41) rfl ?_); refine goesL_ (some 13) rfl rfl Try.func41 (by kernel_rfl) rfl #[] rfl (by (try simp only [List.map_toArray, List.map_cons, List.map_nil]); first | done | rfl | (simp only [List.length_drop, List.length_take]; rfl)) ?_; (with_reducible refine (ontimelaw47_awake.calls  false _ A5.out).mono ?_); rintro e w10 ⟨rfl, hb⟩; refine ⟨_, rfl, ?_⟩; have n0_ := Aside0.mk (below_step (by repeat (first | (with_reducible first | exact HB.out | apply below_alloc | apply pw_below_drewN | apply below_drew1) | exact HB.out)) hb); clear HB; have HB := n0_; clear n0_; (try clear hb); (try clear hb2); (try clear hk); (try clear hi)))
   go_meet
   case rel => exact ⟨_, (true), (by first | rfl | (simp; done) | (simp [*]; done)), H', ⟨by first | omega | exact Nat.le_refl _⟩, ⟨by repeat (first | (with_reducible first | exact HB.out | apply below_alloc | apply pw_below_drewN | apply below_drew1) | exact HB.out)⟩⟩
 case rest =>
  clear HC4
  try clear c1
  try clear p2
  try clear c4
  try clear c6
  try clear c7
  try clear c7b0
  try clear c7b1
  obtain ⟨kq, x24_3, rfl, HA, HJ3, HB⟩ := hcut
  cases kq with
  | zero => exact absurd HA.out (by simp [ontimelaw47_FlowJobs.j0])
  | succ kj3 =>
   have H := HA.out
   clear HA
   simp only [ontimelaw47_FlowJobs.j0] at H
   by_cases c11 : x24_3 = true
   ·subst c11
    have H1 : ((ontimelaw47_awake.f).bind fun t388 => (some t388)) = some r := by rw [if_pos rfl] at H; exact H
    clear H
    have H := H1
    clear H1
    replace H := Option.bind_eq_some_iff.mp H
    obtain ⟨t388, A120, H⟩ := H
    replace H : (some t388) = some r := H
    have A12 := Aside0.mk A120
    clear A120
    obtain rfl := Option.some.inj H
    go_wp2_with (first | ((with_reducible refine gate_callee (f := 41) rfl ?_); refine goesL_ (some 25) rfl rfl Try.func41 (by kernel_rfl) rfl #[] rfl (by (try simp only [List.map_toArray, List.map_cons, List.map_nil]); first | done | rfl | (simp only [List.length_drop, List.length_take]; rfl)) ?_; (with_reducible refine (ontimelaw47_awake.calls  t388 _ A12.out).mono ?_); rintro e w13 ⟨rfl, hb⟩; refine ⟨_, rfl, ?_⟩; have n0_ := Aside0.mk (below_step (by repeat (first | (with_reducible first | exact HB.out | apply below_alloc | apply pw_below_drewN | apply below_drew1) | exact HB.out)) hb); clear HB; have HB := n0_; clear n0_; (try clear hb); (try clear hb2); (try clear hk); (try clear hi)))
    go_ret
    exact ⟨by first | rfl | (simp [errW_none, errW_some] <;> rfl) | (simp [*, errW_none, errW_some] <;> rfl), by repeat (first | (with_reducible first | exact HB.out | apply below_alloc | apply pw_below_drewN | apply below_drew1) | exact HB.out)⟩
   ·replace c11 := Bool.eq_false_iff.mpr c11
    subst c11
    have H1 : ((taskset_Valid.f kj3 l0).bind fun t389 => (if t389 = true then (ontimelaw47_FlowJobs.j1 kj3 l0 l1 a2 ([] : List (S83)) ((l1.length : Int) == (l0.length : Int))) else (ontimelaw47_FlowJobs.j1 kj3 l0 l1 a2 ([] : List (S83)) false))) = some r := by rw [if_neg (show ¬ (false = true) by decide)] at H; exact H
    clear H
    have H := H1
    clear H1
    have HC14 := Aside0.mk H
    clear H
    go_upto_region 4 with (fail)
    go_cut [34] (fun v34 wc => ∃ (kq : Nat) (x34_13 : Bool), v34 = .bool x34_13 ∧ Aside0 (ontimelaw47_FlowJobs.j1 kq l0 l1 a2 ([] : List (S83)) x34_13 = some r) ∧ Aside0 (kq ≤ kj3) ∧ Aside0 (Kd.R k83 83 wc w.heap.size (fun _ => True) (.slice none 0 0) ([] : List (S83))) ∧ Aside0 (Below w.heap.size w wc))
    case first =>
     have H := HC14.out
     clear HC14
     replace H := Option.bind_eq_some_iff.mp H
     obtain ⟨t389, A150, H⟩ := H
     replace H : (if t389 = true then (ontimelaw47_FlowJobs.j1 kj3 l0 l1 a2 ([] : List (S83)) ((l1.length : Int) == (l0.length : Int))) else (ontimelaw47_FlowJobs.j1 kj3 l0 l1 a2 ([] : List (S83)) false)) = some r := H
     have A15 := Aside0.mk A150
     clear A150
     by_cases c16 : t389 = true
     ·subst c16
      have H1 : (ontimelaw47_FlowJobs.j1 kj3 l0 l1 a2 ([] : List (S83)) ((l1.length : Int) == (l0.length : Int))) = some r := by rw [if_pos rfl] at H; exact H
      clear H
      have H := H1
      clear H1
      have H' := Aside0.mk H
      clear H
      go_wp2_with (first | ((with_reducible refine gate_callee (f := 26) rfl ?_); refine goesL_ (some 27) rfl rfl Try.func26 (by kernel_rfl) rfl #[.slice A0 l0.length c0] rfl (by (try simp only [List.map_toArray, List.map_cons, List.map_nil]); first | done | rfl | (simp only [List.length_drop, List.length_take]; rfl)) ?_; (with_reducible refine (taskset_Valid.calls kj3 _ _ l0 true _ ?side1 ?side2 A15.out).mono ?_); (case side1 => repeat (first | exact (Kd.C_below HR0.out HB.out) | (with_reducible refine Kd.C_alloc ?_ _) | (with_reducible refine Kd.C_drewN ?_ _) | (with_reducible refine Kd.C_drew ?_))); (case side2 => exact HC0.out); rintro e w17 ⟨rfl, hb⟩; refine ⟨_, rfl, ?_⟩; have n0_ := Aside0.mk (below_step (by repeat (first | (with_reducible first | exact HB.out | apply below_alloc | apply pw_below_drewN | apply below_drew1) | exact HB.out)) hb); clear HB; have HB := n0_; clear n0_; (try clear hb); (try clear hb2); (try clear hk); (try clear hi)))
      go_meet
      case rel => exact ⟨_, (((l1.length : Int) == (l0.length : Int))), (by first | rfl | (simp; done) | (simp [*]; done)), H', ⟨by have := HJ3.out; first | omega | exact Nat.le_refl _⟩, ⟨by first | exact Kd.R_nil _ _ _ _ _ | exact Kd.N_nil _ _ _ _ _ | exact Kd.V_nil _ _ _ _ _ | exact Kd.Q_nil _ _ _ _ _ | exact Kd.S_nil _ _ _ _ _⟩, ⟨by repeat (first | (with_reducible first | exact HB.out | apply below_alloc | apply pw_below_drewN | apply below_drew1) | exact HB.out)⟩⟩
     ·replace c16 := Bool.eq_false_iff.mpr c16
      subst c16
      have H1 : (ontimelaw47_FlowJobs.j1 kj3 l0 l1 a2 ([] : List (S83)) false) = some r := by rw [if_neg (show ¬ (false = true) by decide)] at H; exact H
      clear H
      have H := H1
      clear H1
      have H' := Aside0.mk H
      clear H
      go_wp2_with (first | ((with_reducible refine gate_callee (f := 26) rfl ?_); refine goesL_ (some 27) rfl rfl Try.func26 (by kernel_rfl) rfl #[.slice A0 l0.length c0] rfl (by (try simp only [List.map_toArray, List.map_cons, List.map_nil]); first | done | rfl | (simp only [List.length_drop, List.length_take]; rfl)) ?_; (with_reducible refine (taskset_Valid.calls kj3 _ _ l0 false _ ?side1 ?side2 A15.out).mono ?_); (case side1 => repeat (first | exact (Kd.C_below HR0.out HB.out) | (with_reducible refine Kd.C_alloc ?_ _) | (with_reducible refine Kd.C_drewN ?_ _) | (with_reducible refine Kd.C_drew ?_))); (case side2 => exact HC0.out); rintro e w18 ⟨rfl, hb⟩; refine ⟨_, rfl, ?_⟩; have n0_ := Aside0.mk (below_step (by repeat (first | (with_reducible first | exact HB.out | apply below_alloc | apply pw_below_drewN | apply below_drew1) | exact HB.out)) hb); clear HB; have HB := n0_; clear n0_; (try clear hb); (try clear hb2); (try clear hk); (try clear hi)))
      go_meet
      case rel => exact ⟨_, (false), (by first | rfl | (simp; done) | (simp [*]; done)), H', ⟨by have := HJ3.out; first | omega | exact Nat.le_refl _⟩, ⟨by first | exact Kd.R_nil _ _ _ _ _ | exact Kd.N_nil _ _ _ _ _ | exact Kd.V_nil _ _ _ _ _ | exact Kd.Q_nil _ _ _ _ _ | exact Kd.S_nil _ _ _ _ _⟩, ⟨by repeat (first | (with_reducible first | exact HB.out | apply below_alloc | apply pw_below_drewN | apply below_drew1) | exact HB.out)⟩⟩
    case rest =>
     clear HC14
     try clear c1
     try clear c2
     try clear p2
     try clear c4
     try clear c6
     try clear c7
     try clear c7b0
     try clear c7b1
     try clear c11
     try clear c16
     try clear p2
     obtain ⟨kq, x34_13, rfl, HA, HJ13, HO_7, HB⟩ := hcut
     cases kq with
     | zero => exact absurd HA.out (by simp [ontimelaw47_FlowJobs.j1])
     | succ kj13 =>
      have H := HA.out
      clear HA
      simp only [ontimelaw47_FlowJobs.j1] at H
      by_cases c19 : x34_13 = true
      ·subst c19
       have H1 : (ontimelaw47_FlowJobs.l0 kj13 l0 l1 a2 ([] : List (S83)) l1 (l1.length : Int) 0) = some r := by rw [if_pos rfl] at H; exact H
       clear H
       have H := H1
       clear H1
       have H' := Aside0.mk H
       clear H
       go_wp2
       go_loopg [7, 37] kj13 (fun kq v7 v37 w' => ∃ (x7_3 : List (S83)) (x37_3 : Int), v37 = .int .i64 x37_3 ∧ Aside0 (ontimelaw47_FlowJobs.l0 kq l0 l1 a2 x7_3 l1 (l1.length : Int) x37_3 = some r) ∧ Aside0 (kq ≤ kj13) ∧ Aside0 (Kd.R k83 83 w' w.heap.size (fun _ => True) v7 x7_3) ∧ Aside0 (Below w.heap.size w w'))
       case atStart => exact ⟨(([] : List (S83))), (0), (by first | rfl | (simp; done) | (simp [*]; done)), H', ⟨Nat.le_refl _⟩, ⟨by (with_reducible repeat (first | apply Kd.R_alloc | apply Kd.R_drewN | apply Kd.R_drew)); exact HO_7.out⟩, ⟨by repeat (first | (with_reducible first | exact HB.out | apply below_alloc | apply pw_below_drewN | apply below_drew1) | exact HB.out)⟩⟩
       case round =>
        clear H'
        try clear c1
        try clear c2
        try clear p2
        try clear c4
        try clear c6
        try clear c7
        try clear c7b0
        try clear c7b1
        try clear c11
        try clear c16
        try clear c19
        try clear p2
        obtain ⟨x7_3, x37_3, rfl, HA, HK3, HO_7, HB⟩ := hrel
        cases gk with
        | zero => exact absurd HA.out (by simp [ontimelaw47_FlowJobs.l0])
        | succ k3 =>
         have H := HA.out
         clear HA
         simp only [ontimelaw47_FlowJobs.l0] at H
         by_cases c20 : x37_3 < (l1.length : Int)
         ·rw [if_pos c20] at H
          have c20b0 : decide (x37_3 < (l1.length : Int)) = true := decide_eq_true c20
          clear c20
          by_cases c21 : 0 ≤ x37_3
          ·rw [if_pos c21] at H
           have c21b0 : decide (0 ≤ x37_3) = true := decide_eq_true c21
           clear c21
           by_cases c22 : x37_3 < (l1.length : Int)
           ·rw [if_pos c22] at H
            have c22b0 : decide (x37_3 < (l1.length : Int)) = true := decide_eq_true c22
            clear c22
            by_cases c23 : ((rd_L4 l1 x37_3).length : Int) > 50
            ·rw [if_pos c23] at H
             have c23b0 : decide (50 < ((rd_L4 l1 x37_3).length : Int)) = true := decide_eq_true c23
             have c23b1 : decide (50 < (rd_L4 l1 x37_3).length) = true := decide_eq_true (by omega)
             clear c23
             obtain rfl := Option.some.inj H
             have p394 : 0 ≤ (x37_3 : Int) := of_decide_eq_true (by first | (with_reducible assumption) | assumption)
             have q394 : x37_3 < (l1.length : Int) := of_decide_eq_true (by first | (with_reducible assumption) | assumption)
             obtain ⟨ad394, A394_0, c394_0, e394, hx394_0, hl394_0, hi394_0⟩ := at_L4 HR1.out x37_3 p394 q394
             cases e394
             replace hx394_0 := (HB.out.cell (World.block_lt_of_cell? w _ hx394_0)).trans hx394_0
             have HR394_0 := Aside0.mk hi394_0
             have HC394_0 := Aside0.mk hl394_0
             clear hi394_0 hl394_0
             replace p394 := eq_true p394
             replace q394 := eq_true q394
             go_wp2
             go_ret
             exact ⟨by first | rfl | (simp [errW_none, errW_some] <;> rfl) | (simp [*, errW_none, errW_some] <;> rfl), by repeat (first | (with_reducible first | exact HB.out | apply below_alloc | apply pw_below_drewN | apply below_drew1) | exact HB.out)⟩
            ·rw [if_neg c23] at H
             have c23b0 : decide (50 < ((rd_L4 l1 x37_3).length : Int)) = false := decide_eq_false c23
             have c23b1 : decide (50 < (rd_L4 l1 x37_3).length) = false := decide_eq_false (by omega)
             clear c23
             have H' := Aside0.mk H
             clear H
             have p394 : 0 ≤ (x37_3 : Int) := of_decide_eq_true (by first | (with_reducible assumption) | assumption)
             have q394 : x37_3 < (l1.length : Int) := of_decide_eq_true (by first | (with_reducible assumption) | assumption)
             obtain ⟨ad394, A394_0, c394_0, e394, hx394_0, hl394_0, hi394_0⟩ := at_L4 HR1.out x37_3 p394 q394
             cases e394
             replace hx394_0 := (HB.out.cell (World.block_lt_of_cell? w _ hx394_0)).trans hx394_0
             have HR394_0 := Aside0.mk hi394_0
             have HC394_0 := Aside0.mk hl394_0
             clear hi394_0 hl394_0
             replace p394 := eq_true p394
             replace q394 := eq_true q394
             go_wp2
             go_loopg [7, 47] k3 (fun kq v7 v47 w' => ∃ (x7_4 : List (S83)) (x47_4 : Int), v47 = .int .i64 x47_4 ∧ Aside0 (ontimelaw47_FlowJobs.l1 kq l0 l1 a2 x7_4 x37_3 l1 (l1.length : Int) x37_3 (rd_L4 l1 x37_3) ((rd_L4 l1 x37_3).length : Int) x47_4 = some r) ∧ Aside0 (kq ≤ k3) ∧ Aside0 (Kd.R k83 83 w' w.heap.size (fun _ => True) v7 x7_4) ∧ Aside0 (Below w.heap.size w w'))
             case atStart => exact ⟨(x7_3), (0), (by first | rfl | (simp; done) | (simp [*]; done)), H', ⟨Nat.le_refl _⟩, ⟨by (with_reducible repeat (first | apply Kd.R_alloc | apply Kd.R_drewN | apply Kd.R_drew)); exact HO_7.out⟩, ⟨by repeat (first | (with_reducible first | exact HB.out | apply below_alloc | apply pw_below_drewN | apply below_drew1) | exact HB.out)⟩⟩
             case round =>
              clear H'
              try clear c1
              try clear c2
              try clear p2
              try clear c3
              try clear p3
              try clear q3
              try clear hx3
              try clear c4
              try clear c6
              try clear c7
              try clear c7b0
              try clear c7b1
              try clear c11
              try clear c16
              try clear c19
              try clear c20
              try clear c20b0
              try clear c21
              try clear c21b0
              try clear c22
              try clear c22b0
              try clear c23
              try clear c23b0
              try clear c23b1
              try clear hx394_0
              try clear p2
              try clear p394
              try clear q394
              obtain ⟨x7_4, x47_4, rfl, HA, HK4, HO_7, HB⟩ := hrel
              cases gk with
              | zero => exact absurd HA.out (by simp [ontimelaw47_FlowJobs.l1])
              | succ k4 =>
               have H := HA.out
               clear HA
               simp only [ontimelaw47_FlowJobs.l1] at H
               by_cases c24 : x47_4 < ((rd_L4 l1 x37_3).length : Int)
               ·rw [if_pos c24] at H
                have c24b0 : decide (x47_4 < ((rd_L4 l1 x37_3).length : Int)) = true := decide_eq_true c24
                clear c24
                by_cases c25 : 0 ≤ x47_4
                ·rw [if_pos c25] at H
                 have c25b0 : decide (0 ≤ x47_4) = true := decide_eq_true c25
                 clear c25
                 by_cases c26 : x47_4 < ((rd_L4 l1 x37_3).length : Int)
                 ·rw [if_pos c26] at H
                  have c26b0 : decide (x47_4 < ((rd_L4 l1 x37_3).length : Int)) = true := decide_eq_true c26
                  clear c26
                  have HC27 := Aside0.mk H
                  clear H
                  have p395 : 0 ≤ (x47_4 : Int) := of_decide_eq_true (by first | (with_reducible assumption) | assumption)
                  have q395 : x47_4 < ((rd_L4 l1 x37_3).length : Int) := of_decide_eq_true (by first | (with_reducible assumption) | assumption)
                  obtain ⟨ad395, e395, hx395_0⟩ := Kd.at_int HR394_0.out x47_4 p395 q395
                  cases e395
                  replace hx395_0 := (HB.out.cell (World.block_lt_of_cell? w _ hx395_0)).trans hx395_0
                  replace p395 := eq_true p395
                  replace q395 := eq_true q395
                  go_upto_region 13 with (fail)
                  go_cut [56] (fun v56 wc => ∃ (kq : Nat) (x56_26 : Bool), v56 = .bool x56_26 ∧ Aside0 (ontimelaw47_FlowJobs.j4 kq l0 l1 a2 x7_4 x37_3 (rd (rd_L4 l1 x37_3) x47_4) l1 (l1.length : Int) x37_3 (rd_L4 l1 x37_3) ((rd_L4 l1 x37_3).length : Int) x47_4 x56_26 = some r) ∧ Aside0 (kq ≤ k4) ∧ Aside0 (Kd.R k83 83 wc w.heap.size (fun _ => True) u7 x7_4) ∧ Aside0 (Below w.heap.size w wc))
                  case first =>
                   have H := HC27.out
                   clear HC27
                   by_cases c28 : (rd (rd_L4 l1 x37_3) x47_4) > 1099511627776
                   ·rw [if_pos c28] at H
                    have c28b0 : decide (1099511627776 < (rd (rd_L4 l1 x37_3) x47_4)) = true := decide_eq_true c28
                    clear c28
                    (first | rw [c28b0] | (simp only [i64_w, i32_w]; rw [c28b0]) | skip)
                    have H' := Aside0.mk H
                    clear H
                    go_wp2
                    go_meet
                    case rel => exact ⟨_, (true), (by first | rfl | (simp; done) | (simp [*]; done)), H', ⟨by have := HJ3.out; have := HJ13.out; have := HK3.out; have := HK4.out; first | omega | exact Nat.le_refl _⟩, ⟨by (with_reducible repeat (first | apply Kd.R_alloc | apply Kd.R_drewN | apply Kd.R_drew)); exact HO_7.out⟩, ⟨by repeat (first | (with_reducible first | exact HB.out | apply below_alloc | apply pw_below_drewN | apply below_drew1) | exact HB.out)⟩⟩
                   ·rw [if_neg c28] at H
                    have c28b0 : decide (1099511627776 < (rd (rd_L4 l1 x37_3) x47_4)) = false := decide_eq_false c28
                    clear c28
                    (first | rw [c28b0] | (simp only [i64_w, i32_w]; rw [c28b0]) | skip)
                    have H' := Aside0.mk H
                    clear H
                    go_wp2
                    go_meet
                    case rel => exact ⟨_, (decide ((rd (rd_L4 l1 x37_3) x47_4) < (-1099511627776))), (by first | rfl | (simp; done) | (simp [*]; done)), H', ⟨by have := HJ3.out; have := HJ13.out; have := HK3.out; have := HK4.out; first | omega | exact Nat.le_refl _⟩, ⟨by (with_reducible repeat (first | apply Kd.R_alloc | apply Kd.R_drewN | apply Kd.R_drew)); exact HO_7.out⟩, ⟨by repeat (first | (with_reducible first | exact HB.out | apply below_alloc | apply pw_below_drewN | apply below_drew1) | exact HB.out)⟩⟩
                  case rest =>
                   clear HC27
                   try clear c1
                   try clear c2
                   try clear p2
                   try clear c3
                   try clear p3
                   try clear q3
                   try clear hx3
                   try clear c4
                   try clear c6
                   try clear c7
                   try clear c7b0
                   try clear c7b1
                   try clear c11
                   try clear c16
                   try clear c19
                   try clear c20
                   try clear c20b0
                   try clear c21
                   try clear c21b0
                   try clear c22
                   try clear c22b0
                   try clear c23
                   try clear c23b0
                   try clear c23b1
                   try clear c24
                   try clear c24b0
                   try clear c25
                   try clear c25b0
                   try clear c26
                   try clear c26b0
                   try clear c28
                   try clear c28b0
                   try clear hx394_0
                   try clear hx395_0
                   try clear p2
                   try clear p3
                   try clear p394
                   try clear p395
                   try clear q3
                   try clear q394
                   try clear q395
                   obtain ⟨kq, x56_26, rfl, HA, HJ26, HO_7, HB⟩ := hcut
                   cases kq with
                   | zero => exact absurd HA.out (by simp [ontimelaw47_FlowJobs.j4])
                   | succ kj26 =>
                    have H := HA.out
                    clear HA
                    simp only [ontimelaw47_FlowJobs.j4] at H
                    by_cases c29 : x56_26 = true
                    ·subst c29
                     have H1 : (some true) = some r := by rw [if_pos rfl] at H; exact H
                     clear H
                     have H := H1
                     clear H1
                     obtain rfl := Option.some.inj H
                     go_wp2
                     go_ret
                     exact ⟨by first | rfl | (simp [errW_none, errW_some] <;> rfl) | (simp [*, errW_none, errW_some] <;> rfl), by repeat (first | (with_reducible first | exact HB.out | apply below_alloc | apply pw_below_drewN | apply below_drew1) | exact HB.out)⟩
                    ·replace c29 := Bool.eq_false_iff.mpr c29
                     subst c29
                     have H1 : (if 0 ≤ x37_3 then (if x37_3 < (l0.length : Int) then (if (wrap64 ((rd (rd_L4 l1 x37_3) x47_4) + ((rd_T24 l0 x37_3).f2))) ≤ a2 then (if x7_4.length < 5864062014805 then (ontimelaw47_FlowJobs.l1 kj26 l0 l1 a2 (x7_4 ++ [(⟨(rd (rd_L4 l1 x37_3) x47_4), wrap64 ((rd (rd_L4 l1 x37_3) x47_4) + ((rd_T24 l0 x37_3).f2)), (rd_T24 l0 x37_3).f1⟩ : S83)]) x37_3 l1 (l1.length : Int) x37_3 (rd_L4 l1 x37_3) ((rd_L4 l1 x37_3).length : Int) (wrap64 (x47_4 + 1))) else (none)) else (ontimelaw47_FlowJobs.l1 kj26 l0 l1 a2 x7_4 x37_3 l1 (l1.length : Int) x37_3 (rd_L4 l1 x37_3) ((rd_L4 l1 x37_3).length : Int) (wrap64 (x47_4 + 1)))) else (none)) else (none)) = some r := by rw [if_neg (show ¬ (false = true) by decide)] at H; exact H
                     clear H
                     have H := H1
                     clear H1
                     by_cases c30 : 0 ≤ x37_3
                     ·rw [if_pos c30] at H
                      have c30b0 : decide (0 ≤ x37_3) = true := decide_eq_true c30
                      clear c30
                      by_cases c31 : x37_3 < (l0.length : Int)
                      ·rw [if_pos c31] at H
                       have c31b0 : decide (x37_3 < (l0.length : Int)) = true := decide_eq_true c31
                       clear c31
                       by_cases c32 : (wrap64 ((rd (rd_L4 l1 x37_3) x47_4) + ((rd_T24 l0 x37_3).f2))) ≤ a2
                       ·rw [if_pos c32] at H
                        have c32b0 : decide ((wrap64 ((rd (rd_L4 l1 x37_3) x47_4) + ((rd_T24 l0 x37_3).f2))) ≤ a2) = true := decide_eq_true c32
                        clear c32
                        by_cases c33 : x7_4.length < 5864062014805
                        ·rw [if_pos c33] at H
                         have LMc33 := Aside0.mk c33
                         clear c33
                         obtain ⟨y398, hy398⟩ : ∃ y_ : List (S83), y_ = (x7_4 ++ [(⟨(rd (rd_L4 l1 x37_3) x47_4), wrap64 ((rd (rd_L4 l1 x37_3) x47_4) + ((rd_T24 l0 x37_3).f2)), (rd_T24 l0 x37_3).f1⟩ : S83)]) := ⟨_, rfl⟩
                         replace H : (ontimelaw47_FlowJobs.l1 kj26 l0 l1 a2 y398 x37_3 l1 (l1.length : Int) x37_3 (rd_L4 l1 x37_3) ((rd_L4 l1 x37_3).length : Int) (wrap64 (x47_4 + 1))) = some r := by first | (rw [hy398]; with_reducible exact H) | (have H2_ := (Option.bind_some _ _).symm.trans H; rw [hy398]; with_reducible exact H2_) | (have H2_ := (Option.bind_some _ _).symm.trans H; with_reducible exact H2_) | with_reducible exact H | (rw [hy398]; exact H) | exact H
                         have Ny398 := Aside0.mk hy398
                         clear hy398
                         have H' := Aside0.mk H
                         clear H
                         have p396 : 0 ≤ (x37_3 : Int) := of_decide_eq_true (by first | (with_reducible assumption) | assumption)
                         have q396 : x37_3 < (l0.length : Int) := of_decide_eq_true (by first | (with_reducible assumption) | assumption)
                         obtain ⟨ad396, e396, hx396_0, hx396_1, hx396_2⟩ := at_T24 HR0.out x37_3 p396 q396
                         cases e396
                         replace hx396_0 := (HB.out.cell (World.block_lt_of_cell? w _ hx396_0)).trans hx396_0
                         replace hx396_1 := (HB.out.cell (World.block_lt_of_cell? w _ hx396_1)).trans hx396_1
                         replace hx396_2 := (HB.out.cell (World.block_lt_of_cell? w _ hx396_2)).trans hx396_2
                         replace p396 := eq_true p396
                         replace q396 := eq_true q396
                         have p397 : 0 ≤ (x37_3 : Int) := of_decide_eq_true (by first | (with_reducible assumption) | assumption)
                         have q397 : x37_3 < (l0.length : Int) := of_decide_eq_true (by first | (with_reducible assumption) | assumption)
                         obtain ⟨ad397, e397, hx397_0, hx397_1, hx397_2⟩ := at_T24 HR0.out x37_3 p397 q397
                         obtain rfl : ad396 = ad397 := (by injection e397)
                         replace hx397_0 := (HB.out.cell (World.block_lt_of_cell? w _ hx397_0)).trans hx397_0
                         replace hx397_1 := (HB.out.cell (World.block_lt_of_cell? w _ hx397_1)).trans hx397_1
                         replace hx397_2 := (HB.out.cell (World.block_lt_of_cell? w _ hx397_2)).trans hx397_2
                         replace p397 := eq_true p397
                         replace q397 := eq_true q397
                         go_wp2_with (first | ((with_reducible refine gate_builtin (b := .append) (xs := #[.tmp 67, .tmp 76]) rfl ?_); (try (refine gate_guard (by rfl) ?_; dsimp only)); at_builtin; refine Kd.R_append k83 (w0 := w) w.heap.size rfl (.tmp 67) (.tmp 76) 65 83 (.agg #[(.int .i64 0), (.int .i64 0), (.int .i64 0)]) 24 rfl Try.underlying65 info83 rfl (by decide) (by omega) u7 x7_4 (⟨(rd (rd_L4 l1 x37_3) x47_4), wrap64 ((rd (rd_L4 l1 x37_3) x47_4) + ((rd_T24 l0 x37_3).f2)), (rd_T24 l0 x37_3).f1⟩ : S83) [.int .i64 (rd (rd_L4 l1 x37_3) x47_4), .int .i64 (wrap64 ((rd (rd_L4 l1 x37_3) x47_4) + ((rd_T24 l0 x37_3).f2))), .int .i64 ((rd_T24 l0 x37_3).f1)] (fun _ => True) (fun _ => False) rfl rfl ?aP (fun _ hk => hk.elim) ?aF ?aO ?aB ?aS ?aL ?_; (case aP => exact k83_mkM _ _ _ (⟨(rd (rd_L4 l1 x37_3) x47_4), wrap64 ((rd (rd_L4 l1 x37_3) x47_4) + ((rd_T24 l0 x37_3).f2)), (rd_T24 l0 x37_3).f1⟩ : S83)); (case aB => exact (by repeat (first | (with_reducible first | exact HB.out | apply below_alloc | apply pw_below_drewN | apply below_drew1) | exact HB.out))); (case aF => exact (fun _ _ => trivial)); (case aO => exact (by (with_reducible repeat (first | apply Kd.R_alloc | apply Kd.R_drewN | apply Kd.R_drew)); exact HO_7.out)); (case aS => exact (below_size (by repeat (first | (with_reducible first | exact HB.out | apply below_alloc | apply pw_below_drewN | apply below_drew1) | exact HB.out)))); (case aL => have := LMc33.out; omega); intro v399 w34 ho hb hg hat; rw [← Ny398.out] at ho; have n0_ := Aside0.mk (hb); have n1_ := Aside0.mk (ho); clear HB; clear HO_7; have HB := n0_; have HO400 := n1_; clear n0_ n1_; clear ho hb hg hat))
                         go_roundg kj26
                         case measure => have := HJ3.out; have := HJ13.out; have := HK3.out; have := HK4.out; have := HJ26.out; omega
                         case rel => exact ⟨(y398), (wrap64 (x47_4 + 1)), (by first | rfl | (simp; done) | (simp [*]; done)), H', ⟨by have := HJ3.out; have := HJ13.out; have := HK3.out; have := HK4.out; have := HJ26.out; omega⟩, ⟨by (with_reducible repeat (first | apply Kd.R_alloc | apply Kd.R_drewN | apply Kd.R_drew)); exact HO400.out⟩, ⟨by repeat (first | (with_reducible first | exact HB.out | apply below_alloc | apply pw_below_drewN | apply below_drew1) | exact HB.out)⟩⟩
                        ·rw [if_neg c33] at H
                         exact absurd H (by simp)
                       ·rw [if_neg c32] at H
                        have c32b0 : decide ((wrap64 ((rd (rd_L4 l1 x37_3) x47_4) + ((rd_T24 l0 x37_3).f2))) ≤ a2) = false := decide_eq_false c32
                        clear c32
                        have H' := Aside0.mk H
                        clear H
                        have p396 : 0 ≤ (x37_3 : Int) := of_decide_eq_true (by first | (with_reducible assumption) | assumption)
                        have q396 : x37_3 < (l0.length : Int) := of_decide_eq_true (by first | (with_reducible assumption) | assumption)
                        obtain ⟨ad396, e396, hx396_0, hx396_1, hx396_2⟩ := at_T24 HR0.out x37_3 p396 q396
                        cases e396
                        replace hx396_0 := (HB.out.cell (World.block_lt_of_cell? w _ hx396_0)).trans hx396_0
                        replace hx396_1 := (HB.out.cell (World.block_lt_of_cell? w _ hx396_1)).trans hx396_1
                        replace hx396_2 := (HB.out.cell (World.block_lt_of_cell? w _ hx396_2)).trans hx396_2
                        replace p396 := eq_true p396
                        replace q396 := eq_true q396
                        go_wp2
                        go_roundg kj26
                        case measure => have := HJ3.out; have := HJ13.out; have := HK3.out; have := HK4.out; have := HJ26.out; omega
                        case rel => exact ⟨(x7_4), (wrap64 (x47_4 + 1)), (by first | rfl | (simp; done) | (simp [*]; done)), H', ⟨by have := HJ3.out; have := HJ13.out; have := HK3.out; have := HK4.out; have := HJ26.out; omega⟩, ⟨by (with_reducible repeat (first | apply Kd.R_alloc | apply Kd.R_drewN | apply Kd.R_drew)); exact HO_7.out⟩, ⟨by repeat (first | (with_reducible first | exact HB.out | apply below_alloc | apply pw_below_drewN | apply below_drew1) | exact HB.out)⟩⟩
                      ·rw [if_neg c31] at H
                       exact absurd H (by simp)
                     ·rw [if_neg c30] at H
                      exact absurd H (by simp)
                 ·rw [if_neg c26] at H
                  exact absurd H (by simp)
                ·rw [if_neg c25] at H
                 exact absurd H (by simp)
               ·rw [if_neg c24] at H
                have c24b0 : decide (x47_4 < ((rd_L4 l1 x37_3).length : Int)) = false := decide_eq_false c24
                clear c24
                have H' := Aside0.mk H
                clear H
                go_wp2
                go_roundg k4
                case measure => have := HJ3.out; have := HJ13.out; have := HK3.out; have := HK4.out; omega
                case rel => exact ⟨(x7_4), (wrap64 (x37_3 + 1)), (by first | rfl | (simp; done) | (simp [*]; done)), H', ⟨by have := HJ3.out; have := HJ13.out; have := HK3.out; have := HK4.out; omega⟩, ⟨by (with_reducible repeat (first | apply Kd.R_alloc | apply Kd.R_drewN | apply Kd.R_drew)); exact HO_7.out⟩, ⟨by repeat (first | (with_reducible first | exact HB.out | apply below_alloc | apply pw_below_drewN | apply below_drew1) | exact HB.out)⟩⟩
           ·rw [if_neg c22] at H
            exact absurd H (by simp)
          ·rw [if_neg c21] at H
           exact absurd H (by simp)
         ·rw [if_neg c20] at H
          have c20b0 : decide (x37_3 < (l1.length : Int)) = false := decide_eq_false c20
          clear c20
          replace H := Option.bind_eq_some_iff.mp H
          obtain ⟨t390, A350, H⟩ := H
          replace H : ((flow_Job_55.f k3 t390 x7_3).bind fun t393 => (some t393)) = some r := H
          have A35 := Aside0.mk A350
          clear A350
          replace H := Option.bind_eq_some_iff.mp H
          obtain ⟨t393, A360, H⟩ := H
          replace H : (some t393) = some r := H
          have A36 := Aside0.mk A360
          clear A360
          obtain rfl := Option.some.inj H
          go_wp2_with (first | ((with_reducible refine gate_callee (f := 42) rfl ?_); refine goesL_ (some 83) rfl rfl Try.func42 (by kernel_rfl) rfl #[.slice A0 l0.length c0, .slice A1 l1.length c1, .int .i64 a2] rfl (by (try simp only [List.map_toArray, List.map_cons, List.map_nil]); first | done | rfl | (simp only [List.length_drop, List.length_take]; rfl)) ?_; (with_reducible refine (flow_Jobs.calls k3 _ _ l0 _ _ l1 a2 t390 _ ?side1 ?side2 ?side3 ?side4 A35.out).mono ?_); (case side1 => repeat (first | exact (Kd.C_below HR0.out HB.out) | (with_reducible refine Kd.C_alloc ?_ _) | (with_reducible refine Kd.C_drewN ?_ _) | (with_reducible refine Kd.C_drew ?_))); (case side2 => exact HC0.out); (case side3 => repeat (first | exact (Kd.C_below HR1.out HB.out) | (with_reducible refine Kd.C_alloc ?_ _) | (with_reducible refine Kd.C_drewN ?_ _) | (with_reducible refine Kd.C_drew ?_))); (case side4 => exact HC1.out); rintro e w37 ⟨v391, rfl, ho0, hb⟩; refine ⟨_, rfl, ?_⟩; have n0_ := Aside0.mk (Kd.R_elder' (by (with_reducible repeat (first | apply Kd.R_alloc | apply Kd.R_drewN | apply Kd.R_drew)); exact HO_7.out) (Kd.R_base ho0) hb); have n1_ := Aside0.mk (Kd.R_lower (Kd.R_new' ho0 (Kd.R_lt (by (with_reducible repeat (first | apply Kd.R_alloc | apply Kd.R_drewN | apply Kd.R_drew)); exact HO_7.out))) (below_size (by repeat (first | (with_reducible first | exact HB.out | apply below_alloc | apply pw_below_drewN | apply below_drew1) | exact HB.out)))); have n2_ := Aside0.mk (below_step (by repeat (first | (with_reducible first | exact HB.out | apply below_alloc | apply pw_below_drewN | apply below_drew1) | exact HB.out)) hb); clear HO_7; clear HB; have HO_7 := n0_; have HO392 := n1_; have HB := n2_; clear n0_ n1_ n2_; (try clear hb); (try clear hb2); (try clear hk); (try clear hi); (try clear ho0); obtain ⟨Ao38, co38, eo38⟩ := Kd.R_slice HO392.out; subst eo38; obtain ⟨Ao39, co39, eo39⟩ := Kd.R_slice HO_7.out; subst eo39) | ((with_reducible refine gate_callee (f := 55) rfl ?_); refine goesL_ (some 85) rfl rfl Try.func55 (by kernel_rfl) rfl #[.slice Ao38 t390.length co38, .slice Ao39 x7_3.length co39] rfl (by (try simp only [List.map_toArray, List.map_cons, List.map_nil]); first | done | rfl | (simp only [List.length_drop, List.length_take]; rfl)) ?_; (with_reducible refine (flow_Job_55.calls k3 _ _ t390 _ _ x7_3 t393 _ ?side1 ?side2 ?side3 ?side4 A36.out).mono ?_); (case side1 => repeat (first | exact (Kd.R_reads' HO392.out).2.2 | (with_reducible refine Kd.C_alloc ?_ _) | (with_reducible refine Kd.C_drewN ?_ _) | (with_reducible refine Kd.C_drew ?_))); (case side2 => exact (Kd.R_reads' HO392.out).2.1); (case side3 => repeat (first | exact (Kd.R_reads' HO_7.out).2.2 | (with_reducible refine Kd.C_alloc ?_ _) | (with_reducible refine Kd.C_drewN ?_ _) | (with_reducible refine Kd.C_drew ?_))); (case side4 => exact (Kd.R_reads' HO_7.out).2.1); rintro e w' ⟨rfl, ⟨nd, rfl⟩⟩; refine ⟨_, rfl, ?_⟩))
          go_ret
          exact ⟨by first | rfl | (simp [errW_none, errW_some] <;> rfl) | (simp [*, errW_none, errW_some] <;> rfl), by repeat (first | (with_reducible first | exact HB.out | apply below_alloc | apply pw_below_drewN | apply below_drew1) | exact HB.out)⟩
      ·replace c19 := Bool.eq_false_iff.mpr c19
       subst c19
       have H1 : ((flow_Jobs.f kj13 l0 l1 a2).bind fun t401 => ((flow_Job_55.f kj13 t401 ([] : List (S83))).bind fun t404 => (some t404))) = some r := by rw [if_neg (show ¬ (false = true) by decide)] at H; exact H
       clear H
       have H := H1
       clear H1
       replace H := Option.bind_eq_some_iff.mp H
       obtain ⟨t401, A400, H⟩ := H
       replace H : ((flow_Job_55.f kj13 t401 ([] : List (S83))).bind fun t404 => (some t404)) = some r := H
       have A40 := Aside0.mk A400
       clear A400
       replace H := Option.bind_eq_some_iff.mp H
       obtain ⟨t404, A410, H⟩ := H
       replace H : (some t404) = some r := H
       have A41 := Aside0.mk A410
       clear A410
       obtain rfl := Option.some.inj H
       go_wp2_with (first | ((with_reducible refine gate_callee (f := 42) rfl ?_); refine goesL_ (some 83) rfl rfl Try.func42 (by kernel_rfl) rfl #[.slice A0 l0.length c0, .slice A1 l1.length c1, .int .i64 a2] rfl (by (try simp only [List.map_toArray, List.map_cons, List.map_nil]); first | done | rfl | (simp only [List.length_drop, List.length_take]; rfl)) ?_; (with_reducible refine (flow_Jobs.calls kj13 _ _ l0 _ _ l1 a2 t401 _ ?side1 ?side2 ?side3 ?side4 A40.out).mono ?_); (case side1 => repeat (first | exact (Kd.C_below HR0.out HB.out) | (with_reducible refine Kd.C_alloc ?_ _) | (with_reducible refine Kd.C_drewN ?_ _) | (with_reducible refine Kd.C_drew ?_))); (case side2 => exact HC0.out); (case side3 => repeat (first | exact (Kd.C_below HR1.out HB.out) | (with_reducible refine Kd.C_alloc ?_ _) | (with_reducible refine Kd.C_drewN ?_ _) | (with_reducible refine Kd.C_drew ?_))); (case side4 => exact HC1.out); rintro e w42 ⟨v402, rfl, ho0, hb⟩; refine ⟨_, rfl, ?_⟩; have n0_ := Aside0.mk (Kd.R_elder' (by (with_reducible repeat (first | apply Kd.R_alloc | apply Kd.R_drewN | apply Kd.R_drew)); exact HO_7.out) (Kd.R_base ho0) hb); have n1_ := Aside0.mk (Kd.R_lower (Kd.R_new' ho0 (Kd.R_lt (by (with_reducible repeat (first | apply Kd.R_alloc | apply Kd.R_drewN | apply Kd.R_drew)); exact HO_7.out))) (below_size (by repeat (first | (with_reducible first | exact HB.out | apply below_alloc | apply pw_below_drewN | apply below_drew1) | exact HB.out)))); have n2_ := Aside0.mk (below_step (by repeat (first | (with_reducible first | exact HB.out | apply below_alloc | apply pw_below_drewN | apply below_drew1) | exact HB.out)) hb); clear HO_7; clear HB; have HO_7 := n0_; have HO403 := n1_; have HB := n2_; clear n0_ n1_ n2_; (try clear hb); (try clear hb2); (try clear hk); (try clear hi); (try clear ho0); obtain ⟨Ao43, co43, eo43⟩ := Kd.R_slice HO403.out; subst eo43) | ((with_reducible refine gate_callee (f := 55) rfl ?_); refine goesL_ (some 85) rfl rfl Try.func55 (by kernel_rfl) rfl #[.slice Ao43 t401.length co43, .slice none ([] : List (S83)).length 0] rfl (by (try simp only [List.map_toArray, List.map_cons, List.map_nil]); first | done | (rw [show ([] : List (S83)).length = 0 from (Kd.R_reads' HO_7.out).1.symm] <;> rfl) | rfl | (simp only [List.length_drop, List.length_take]; rfl)) ?_; (with_reducible refine (flow_Job_55.calls kj13 _ _ t401 _ _ ([] : List (S83)) t404 _ ?side1 ?side2 ?side3 ?side4 A41.out).mono ?_); (case side1 => repeat (first | exact (Kd.R_reads' HO403.out).2.2 | (with_reducible refine Kd.C_alloc ?_ _) | (with_reducible refine Kd.C_drewN ?_ _) | (with_reducible refine Kd.C_drew ?_))); (case side2 => exact (Kd.R_reads' HO403.out).2.1); (case side3 => repeat (first | exact (Kd.R_reads' HO_7.out).2.2 | (with_reducible refine Kd.C_alloc ?_ _) | (with_reducible refine Kd.C_drewN ?_ _) | (with_reducible refine Kd.C_drew ?_))); (case side4 => rw [show ([] : List (S83)).length = 0 from (Kd.R_reads' HO_7.out).1.symm]; exact (Kd.R_reads' HO_7.out).2.1); rintro e w' ⟨rfl, ⟨nd, rfl⟩⟩; refine ⟨_, rfl, ?_⟩))
       go_ret
       exact ⟨by first | rfl | (simp [errW_none, errW_some] <;> rfl) | (simp [*, errW_none, errW_some] <;> rfl), by repeat (first | (with_reducible first | exact HB.out | apply below_alloc | apply pw_below_drewN | apply below_drew1) | exact HB.out)⟩

/-- The pure statement of ontimelaw47_FlowJobs. -/
def ontimelaw47_FlowJobs.Pure : Prop := ∀ (l0 : List (S24)) (l1 : List (List Int)) (a2 : Int), l0.length ≤ maxLen → l1.length ≤ maxLen → (Lit.int .i64 a2).wf = true → ∃ k, ontimelaw47_FlowJobs.f k l0 l1 a2 = some true
theorem ontimelaw47_FlowJobs.walk (P : ontimelaw47_FlowJobs.Pure) (A0 : Option Addr) (c0 : Nat) (l0 : List (S24)) (A1 : Option Addr) (c1 : Nat) (l1 : List (List Int)) (a2 : Int) (w : World) (hr0 : Kd.C k24 w A0 l0.length l0) (hc0 : l0.length ≤ c0) (hm0 : l0.length ≤ maxLen) (hr1 : Kd.C (Kd.slice 3 (Kd.int .i64)) w A1 l1.length l1) (hc1 : l1.length ≤ c1) (hm1 : l1.length ≤ maxLen) (hw2 : (Lit.int .i64 a2).wf = true) :
  Calls Try.prog 19 #[.slice A0 l0.length c0, .slice A1 l1.length c1, .int .i64 a2] w fun e w' => e = .returned (.bool true) ∧ Below w.heap.size w w' := by
 obtain ⟨k, h⟩ := P l0 l1 a2 hm0 hm1 hw2
 refine (ontimelaw47_FlowJobs.calls k A0 c0 l0 A1 c1 l1 a2 true w hr0 hc0 hr1 hc1 h).mono ?_
 rintro e w' ⟨rfl, hd⟩
 exact ⟨rfl, hd⟩

end Go.Proofs.Ythdjhgidccmlfaa.P
