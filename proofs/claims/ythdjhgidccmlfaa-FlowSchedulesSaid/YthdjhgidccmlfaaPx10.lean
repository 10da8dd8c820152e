/- Written by xprint.py: functions, proofs of contracts. -/
import Derived.Test.YthdjhgidccmlfaaPx0
import Derived.Test.YthdjhgidccmlfaaPx4
import Derived.Test.YthdjhgidccmlfaaPx7
import Derived.Test.YthdjhgidccmlfaaPx8
import Derived.Test.YthdjhgidccmlfaaPx9
import Derived.Test.YthdjhgidccmlfaaXSchedule
import Derived.Test.YthdjhgidccmlfaaXAwake
namespace Go.Proofs.Ythdjhgidccmlfaa.P
open Go.RowKit Go.Proofs.YthdjhgidccmlfaaW.PrintWords Go.Proofs.YthdjhgidccmlfaaW.PrintLast Go.Proofs.YthdjhgidccmlfaaW.PrintMore
attribute [local go_sem] max2_int min2_int max_two min_two max_three min_three max_four min_four   -- for this text's walks alone
set_option linter.unusedVariables false
set_option linter.unusedSimpArgs false

/-! ### ontimelaw47_FlowSchedules: function 16 -/
mutual
def ontimelaw47_FlowSchedules.j0 : Nat → List (S83) → Int → Bool → Option (Bool)
 | 0, _, _, _ => none
 | k + 1, x0, x1, x29 => if x29 = true then ((ontimelaw47_awake.f).bind fun t337 => (some t337)) else ((flow_Schedule.f k x0 x1).bind fun bt338 => ((flow_Witness.f k x0 x1).bind fun bt343 => (if bt338.2.2 = 0 then (ontimelaw47_FlowSchedules.j1 k x0 x1 bt338.1 bt338.2.1 bt343.1 bt343.2.1 (bt338.2.1 == bt343.2.2)) else (ontimelaw47_FlowSchedules.j1 k x0 x1 bt338.1 bt338.2.1 bt343.1 bt343.2.1 true))))
def ontimelaw47_FlowSchedules.j1 : Nat → List (S83) → Int → List (List Int) → Bool → List Int → List Int → Bool → Option (Bool)
 | 0, _, _, _, _, _, _, _ => none
 | k + 1, x0, x1, x5, x6, x8, x9, x51 => if x51 = true then (some false) else (if x6 = true then ((ontimelaw47_schedules.f k x0 x1 x5).bind fun t350 => (if t350 = true then (if (x8.length : Int) = 0 then (some ((x9.length : Int) == 0)) else (some false)) else (some false))) else (ontimelaw47_FlowSchedules.l0 k x0 x5 x8 x9 0 (wrap64 (x1 * (x9.length : Int))) x8 (x8.length : Int) 0))
def ontimelaw47_FlowSchedules.l0 : Nat → List (S83) → List (List Int) → List Int → List Int → Int → Int → List Int → Int → Int → Option (Bool)
 | 0, _, _, _, _, _, _, _, _, _ => none
 | k + 1, x0, x5, x8, x9, x11, x12, x71, x72, x73 => if x73 < x72 then (if 0 ≤ x73 then (if x73 < (x71.length : Int) then (if (rd x71 x73) < 0 then (ontimelaw47_FlowSchedules.j3 k x0 x5 x8 x9 x11 x12 (rd x71 x73) x71 x72 x73 true) else (if (rd x71 x73) ≥ (x0.length : Int) then (ontimelaw47_FlowSchedules.j3 k x0 x5 x8 x9 x11 x12 (rd x71 x73) x71 x72 x73 true) else (if x73 > 0 then (if 0 ≤ (wrap64 (x73 - 1)) then (if (wrap64 (x73 - 1)) < (x8.length : Int) then (ontimelaw47_FlowSchedules.j3 k x0 x5 x8 x9 x11 x12 (rd x71 x73) x71 x72 x73 (decide ((rd x8 (wrap64 (x73 - 1))) ≥ (rd x71 x73)))) else (none)) else (none)) else (ontimelaw47_FlowSchedules.j3 k x0 x5 x8 x9 x11 x12 (rd x71 x73) x71 x72 x73 false)))) else (none)) else (none)) else (ontimelaw47_FlowSchedules.l1 k x5 x9 x11 x12 x9 (x9.length : Int) 0)
def ontimelaw47_FlowSchedules.j3 : Nat → List (S83) → List (List Int) → List Int → List Int → Int → Int → Int → List Int → Int → Int → Bool → Option (Bool)
 | 0, _, _, _, _, _, _, _, _, _, _, _ => none
 | k + 1, x0, x5, x8, x9, x11, x12, x14, x71, x72, x73, x98 => if x98 = true then (some false) else (if 0 ≤ x14 then (if x14 < (x0.length : Int) then ((ontimelaw47_plain.f k x0).bind fun t354 => (if x14 < (t354.length : Int) then ((ontimeref47_Window.f k ((rd_T85 t354 x14).f0) ((rd_T85 t354 x14).f1) ((rd_T85 t354 x14).f2) x9).bind fun t358 => (ontimelaw47_FlowSchedules.l0 k x0 x5 x8 x9 (wrap64 (x11 + ((rd_T83 x0 x14).f2))) (wrap64 (x12 + t358)) x71 x72 (wrap64 (x73 + 1)))) else (none))) else (none)) else (none))
def ontimelaw47_FlowSchedules.l1 : Nat → List (List Int) → List Int → Int → Int → List Int → Int → Int → Option (Bool)
 | 0, _, _, _, _, _, _, _ => none
 | k + 1, x5, x9, x11, x12, x116, x117, x118 => if x118 < x117 then (if 0 ≤ x118 then (if x118 < (x116.length : Int) then (if (rd x116 x118) < 0 then (some false) else (if (rd x116 x118) ≥ 200 then (some false) else (if x118 > 0 then (if 0 ≤ (wrap64 (x118 - 1)) then (if (wrap64 (x118 - 1)) < (x9.length : Int) then (if (rd x9 (wrap64 (x118 - 1))) ≥ (rd x116 x118) then (some false) else (ontimelaw47_FlowSchedules.l1 k x5 x9 x11 x12 x116 x117 (wrap64 (x118 + 1)))) else (none)) else (none)) else (ontimelaw47_FlowSchedules.l1 k x5 x9 x11 x12 x116 x117 (wrap64 (x118 + 1)))))) else (none)) else (none)) else (if (x5.length : Int) = 0 then (some (decide (x11 > x12))) else (some false))
end
def ontimelaw47_FlowSchedules.f (k : Nat) (l0 : List (S83)) (a1 : Int) : Option (Bool) := (ontimelaw47_awake.f).bind fun t335 => (if t335 = true then ((ontimelaw47_valid.f k l0 a1).bind fun t336 => (if t336 = true then (ontimelaw47_FlowSchedules.j0 k l0 a1 (decide ((l0.length : Int) > 14))) else (ontimelaw47_FlowSchedules.j0 k l0 a1 true))) else (ontimelaw47_FlowSchedules.j0 k l0 a1 true))
theorem ontimelaw47_FlowSchedules.mono_l : ∀ k, (∀ y0 y1 y2, LeO (ontimelaw47_FlowSchedules.j0 k y0 y1 y2) (ontimelaw47_FlowSchedules.j0 (k + 1) y0 y1 y2)) ∧ (∀ y0 y1 y2 y3 y4 y5 y6, LeO (ontimelaw47_FlowSchedules.j1 k y0 y1 y2 y3 y4 y5 y6) (ontimelaw47_FlowSchedules.j1 (k + 1) y0 y1 y2 y3 y4 y5 y6)) ∧ (∀ y0 y1 y2 y3 y4 y5 y6 y7 y8, LeO (ontimelaw47_FlowSchedules.l0 k y0 y1 y2 y3 y4 y5 y6 y7 y8) (ontimelaw47_FlowSchedules.l0 (k + 1) y0 y1 y2 y3 y4 y5 y6 y7 y8)) ∧ (∀ y0 y1 y2 y3 y4 y5 y6 y7 y8 y9 y10, LeO (ontimelaw47_FlowSchedules.j3 k y0 y1 y2 y3 y4 y5 y6 y7 y8 y9 y10) (ontimelaw47_FlowSchedules.j3 (k + 1) y0 y1 y2 y3 y4 y5 y6 y7 y8 y9 y10)) ∧ (∀ y0 y1 y2 y3 y4 y5 y6, LeO (ontimelaw47_FlowSchedules.l1 k y0 y1 y2 y3 y4 y5 y6) (ontimelaw47_FlowSchedules.l1 (k + 1) y0 y1 y2 y3 y4 y5 y6))
 | 0 => ⟨fun _ _ _ r h => by simp [ontimelaw47_FlowSchedules.j0] at h, fun _ _ _ _ _ _ _ r h => by simp [ontimelaw47_FlowSchedules.j1] at h, fun _ _ _ _ _ _ _ _ _ r h => by simp [ontimelaw47_FlowSchedules.l0] at h, fun _ _ _ _ _ _ _ _ _ _ _ r h => by simp [ontimelaw47_FlowSchedules.j3] at h, fun _ _ _ _ _ _ _ r h => by simp [ontimelaw47_FlowSchedules.l1] at h⟩
 | k + 1 => by
  obtain ⟨ih0, ih1, ih2, ih3, ih4⟩ := ontimelaw47_FlowSchedules.mono_l k
  refine ⟨?_, ?_, ?_, ?_, ?_⟩
  ·intro y0 y1 y2
   unfold ontimelaw47_FlowSchedules.j0
   repeat' first
   | (with_reducible exact ih0 _ _ _)
   | (with_reducible exact ih1 _ _ _ _ _ _ _)
   | (with_reducible exact ih2 _ _ _ _ _ _ _ _ _)
   | (with_reducible exact ih3 _ _ _ _ _ _ _ _ _ _ _)
   | (with_reducible exact ih4 _ _ _ _ _ _ _)
   | (with_reducible exact flow_Schedule.mono _ _ _)
   | (with_reducible exact flow_Witness.mono _ _ _)
   | (with_reducible exact ontimelaw47_plain.mono _ _)
   | (with_reducible exact ontimelaw47_schedules.mono _ _ _ _)
   | (with_reducible exact ontimelaw47_valid.mono _ _ _)
   | (with_reducible exact ontimeref47_Window.mono _ _ _ _ _)
   | (with_reducible exact LeO.refl _)
   | (with_reducible exact LeO.none _)
   | (with_reducible refine LeO.ite ?_ ?_)
   | (with_reducible refine LeO.bind ?_ (fun _ => ?_))
   | exact ih0 _ _ _
   | exact ih1 _ _ _ _ _ _ _
   | exact ih2 _ _ _ _ _ _ _ _ _
   | exact ih3 _ _ _ _ _ _ _ _ _ _ _
   | exact ih4 _ _ _ _ _ _ _
   | exact flow_Schedule.mono _ _ _
   | exact flow_Witness.mono _ _ _
   | exact ontimelaw47_plain.mono _ _
   | exact ontimelaw47_schedules.mono _ _ _ _
   | exact ontimelaw47_valid.mono _ _ _
   | exact ontimeref47_Window.mono _ _ _ _ _
   | exact LeO.none _
   | refine LeO.ite ?_ ?_
   | refine LeO.bind ?_ (fun _ => ?_)
  ·intro y0 y1 y2 y3 y4 y5 y6
   unfold ontimelaw47_FlowSchedules.j1
   repeat' first
   | (with_reducible exact ih0 _ _ _)
   | (with_reducible exact ih1 _ _ _ _ _ _ _)
   | (with_reducible exact ih2 _ _ _ _ _ _ _ _ _)
   | (with_reducible exact ih3 _ _ _ _ _ _ _ _ _ _ _)
   | (with_reducible exact ih4 _ _ _ _ _ _ _)
   | (with_reducible exact flow_Schedule.mono _ _ _)
   | (with_reducible exact flow_Witness.mono _ _ _)
   | (with_reducible exact ontimelaw47_plain.mono _ _)
   | (with_reducible exact ontimelaw47_schedules.mono _ _ _ _)
   | (with_reducible exact ontimelaw47_valid.mono _ _ _)
   | (with_reducible exact ontimeref47_Window.mono _ _ _ _ _)
   | (with_reducible exact LeO.refl _)
   | (with_reducible exact LeO.none _)
   | (with_reducible refine LeO.ite ?_ ?_)
   | (with_reducible refine LeO.bind ?_ (fun _ => ?_))
   | exact ih0 _ _ _
   | exact ih1 _ _ _ _ _ _ _
   | exact ih2 _ _ _ _ _ _ _ _ _
   | exact ih3 _ _ _ _ _ _ _ _ _ _ _
   | exact ih4 _ _ _ _ _ _ _
   | exact flow_Schedule.mono _ _ _
   | exact flow_Witness.mono _ _ _
   | exact ontimelaw47_plain.mono _ _
   | exact ontimelaw47_schedules.mono _ _ _ _
   | exact ontimelaw47_valid.mono _ _ _
   | exact ontimeref47_Window.mono _ _ _ _ _
   | exact LeO.none _
   | refine LeO.ite ?_ ?_
   | refine LeO.bind ?_ (fun _ => ?_)
  ·intro y0 y1 y2 y3 y4 y5 y6 y7 y8
   unfold ontimelaw47_FlowSchedules.l0
   repeat' first
   | (with_reducible exact ih0 _ _ _)
   | (with_reducible exact ih1 _ _ _ _ _ _ _)
   | (with_reducible exact ih2 _ _ _ _ _ _ _ _ _)
   | (with_reducible exact ih3 _ _ _ _ _ _ _ _ _ _ _)
   | (with_reducible exact ih4 _ _ _ _ _ _ _)
   | (with_reducible exact flow_Schedule.mono _ _ _)
   | (with_reducible exact flow_Witness.mono _ _ _)
   | (with_reducible exact ontimelaw47_plain.mono _ _)
   | (with_reducible exact ontimelaw47_schedules.mono _ _ _ _)
   | (with_reducible exact ontimelaw47_valid.mono _ _ _)
   | (with_reducible exact ontimeref47_Window.mono _ _ _ _ _)
   | (with_reducible exact LeO.refl _)
   | (with_reducible exact LeO.none _)
   | (with_reducible refine LeO.ite ?_ ?_)
   | (with_reducible refine LeO.bind ?_ (fun _ => ?_))
   | exact ih0 _ _ _
   | exact ih1 _ _ _ _ _ _ _
   | exact ih2 _ _ _ _ _ _ _ _ _
   | exact ih3 _ _ _ _ _ _ _ _ _ _ _
   | exact ih4 _ _ _ _ _ _ _
   | exact flow_Schedule.mono _ _ _
   | exact flow_Witness.mono _ _ _
   | exact ontimelaw47_plain.mono _ _
   | exact ontimelaw47_schedules.mono _ _ _ _
   | exact ontimelaw47_valid.mono _ _ _
   | exact ontimeref47_Window.mono _ _ _ _ _
   | exact LeO.none _
   | refine LeO.ite ?_ ?_
   | refine LeO.bind ?_ (fun _ => ?_)
  ·intro y0 y1 y2 y3 y4 y5 y6 y7 y8 y9 y10
   unfold ontimelaw47_FlowSchedules.j3
   repeat' first
   | (with_reducible exact ih0 _ _ _)
   | (with_reducible exact ih1 _ _ _ _ _ _ _)
   | (with_reducible exact ih2 _ _ _ _ _ _ _ _ _)
   | (with_reducible exact ih3 _ _ _ _ _ _ _ _ _ _ _)
   | (with_reducible exact ih4 _ _ _ _ _ _ _)
   | (with_reducible exact flow_Schedule.mono _ _ _)
   | (with_reducible exact flow_Witness.mono _ _ _)
   | (with_reducible exact ontimelaw47_plain.mono _ _)
   | (with_reducible exact ontimelaw47_schedules.mono _ _ _ _)
   | (with_reducible exact ontimelaw47_valid.mono _ _ _)
   | (with_reducible exact ontimeref47_Window.mono _ _ _ _ _)
   | (with_reducible exact LeO.refl _)
   | (with_reducible exact LeO.none _)
   | (with_reducible refine LeO.ite ?_ ?_)
   | (with_reducible refine LeO.bind ?_ (fun _ => ?_))
   | exact ih0 _ _ _
   | exact ih1 _ _ _ _ _ _ _
   | exact ih2 _ _ _ _ _ _ _ _ _
   | exact ih3 _ _ _ _ _ _ _ _ _ _ _
   | exact ih4 _ _ _ _ _ _ _
   | exact flow_Schedule.mono _ _ _
   | exact flow_Witness.mono _ _ _
   | exact ontimelaw47_plain.mono _ _
   | exact ontimelaw47_schedules.mono _ _ _ _
   | exact ontimelaw47_valid.mono _ _ _
   | exact ontimeref47_Window.mono _ _ _ _ _
   | exact LeO.none _
   | refine LeO.ite ?_ ?_
   | refine LeO.bind ?_ (fun _ => ?_)
  ·intro y0 y1 y2 y3 y4 y5 y6
   unfold ontimelaw47_FlowSchedules.l1
   repeat' first
   | (with_reducible exact ih0 _ _ _)
   | (with_reducible exact ih1 _ _ _ _ _ _ _)
   | (with_reducible exact ih2 _ _ _ _ _ _ _ _ _)
   | (with_reducible exact ih3 _ _ _ _ _ _ _ _ _ _ _)
   | (with_reducible exact ih4 _ _ _ _ _ _ _)
   | (with_reducible exact flow_Schedule.mono _ _ _)
   | (with_reducible exact flow_Witness.mono _ _ _)
   | (with_reducible exact ontimelaw47_plain.mono _ _)
   | (with_reducible exact ontimelaw47_schedules.mono _ _ _ _)
   | (with_reducible exact ontimelaw47_valid.mono _ _ _)
   | (with_reducible exact ontimeref47_Window.mono _ _ _ _ _)
   | (with_reducible exact LeO.refl _)
   | (with_reducible exact LeO.none _)
   | (with_reducible refine LeO.ite ?_ ?_)
   | (with_reducible refine LeO.bind ?_ (fun _ => ?_))
   | exact ih0 _ _ _
   | exact ih1 _ _ _ _ _ _ _
   | exact ih2 _ _ _ _ _ _ _ _ _
   | exact ih3 _ _ _ _ _ _ _ _ _ _ _
   | exact ih4 _ _ _ _ _ _ _
   | exact flow_Schedule.mono _ _ _
   | exact flow_Witness.mono _ _ _
   | exact ontimelaw47_plain.mono _ _
   | exact ontimelaw47_schedules.mono _ _ _ _
   | exact ontimelaw47_valid.mono _ _ _
   | exact ontimeref47_Window.mono _ _ _ _ _
   | exact LeO.none _
   | refine LeO.ite ?_ ?_
   | refine LeO.bind ?_ (fun _ => ?_)
theorem ontimelaw47_FlowSchedules.mono : ∀ a0 a1 k, LeO (ontimelaw47_FlowSchedules.f k a0 a1) (ontimelaw47_FlowSchedules.f (k + 1) a0 a1) := by
 intro a0 a1 k
 obtain ⟨ih0, ih1, ih2, ih3, ih4⟩ := ontimelaw47_FlowSchedules.mono_l k
 unfold ontimelaw47_FlowSchedules.f
 repeat' first
   | (with_reducible exact ih0 _ _ _)
   | (with_reducible exact ih1 _ _ _ _ _ _ _)
   | (with_reducible exact ih2 _ _ _ _ _ _ _ _ _)
   | (with_reducible exact ih3 _ _ _ _ _ _ _ _ _ _ _)
   | (with_reducible exact ih4 _ _ _ _ _ _ _)
   | (with_reducible exact flow_Schedule.mono _ _ _)
   | (with_reducible exact flow_Witness.mono _ _ _)
   | (with_reducible exact ontimelaw47_plain.mono _ _)
   | (with_reducible exact ontimelaw47_schedules.mono _ _ _ _)
   | (with_reducible exact ontimelaw47_valid.mono _ _ _)
   | (with_reducible exact ontimeref47_Window.mono _ _ _ _ _)
   | (with_reducible exact LeO.refl _)
   | (with_reducible exact LeO.none _)
   | (with_reducible refine LeO.ite ?_ ?_)
   | (with_reducible refine LeO.bind ?_ (fun _ => ?_))
   | exact ih0 _ _ _
   | exact ih1 _ _ _ _ _ _ _
   | exact ih2 _ _ _ _ _ _ _ _ _
   | exact ih3 _ _ _ _ _ _ _ _ _ _ _
   | exact ih4 _ _ _ _ _ _ _
   | exact flow_Schedule.mono _ _ _
   | exact flow_Witness.mono _ _ _
   | exact ontimelaw47_plain.mono _ _
   | exact ontimelaw47_schedules.mono _ _ _ _
   | exact ontimelaw47_valid.mono _ _ _
   | exact ontimeref47_Window.mono _ _ _ _ _
   | exact LeO.none _
   | refine LeO.ite ?_ ?_
   | refine LeO.bind ?_ (fun _ => ?_)
set_option maxHeartbeats 8000000 in
set_option maxRecDepth 100000 in
theorem ontimelaw47_FlowSchedules.calls (k : Nat) (A0 : Option Addr) (c0 : Nat) (l0 : List (S83)) (a1 : Int) (r : Bool) (w : World) (hr0 : Kd.C k83 w A0 l0.length l0) (hc0 : l0.length ≤ c0) (h : ontimelaw47_FlowSchedules.f k l0 a1 = some r) :
  Calls Try.prog 16 #[.slice A0 l0.length c0, .int .i64 a1] w fun e w' => e = .returned (.bool r) ∧ Below w.heap.size w w' := by
 have hu85 := Try.underlying85
 have HR0 := Aside0.mk hr0
 have HC0 := Aside0.mk hc0
 clear hr0 hc0
 have HB := Aside0.mk (Below.refl w.heap.size w)
 have H : ((ontimelaw47_awake.f).bind fun t335 => (if t335 = true then ((ontimelaw47_valid.f k l0 a1).bind fun t336 => (if t336 = true then (ontimelaw47_FlowSchedules.j0 k l0 a1 (decide ((l0.length : Int) > 14))) else (ontimelaw47_FlowSchedules.j0 k l0 a1 true))) else (ontimelaw47_FlowSchedules.j0 k l0 a1 true))) = some r := h
 clear h
 have HC3 := Aside0.mk H
 clear H
 go_enter Try.func16, Try.ntmps16
 go_upto_region 1 with (fail)
 go_cut [29] (fun v29 wc => ∃ (kq : Nat) (x29_2 : Bool), v29 = .bool x29_2 ∧ Aside0 (ontimelaw47_FlowSchedules.j0 kq l0 a1 x29_2 = some r) ∧ Aside0 (kq ≤ k) ∧ Aside0 (Below w.heap.size w wc))
 case first =>
  have H := HC3.out
  clear HC3
  replace H := Option.bind_eq_some_iff.mp H
  obtain ⟨t335, A40, H⟩ := H
  replace H : (if t335 = true then ((ontimelaw47_valid.f k l0 a1).bind fun t336 => (if t336 = true then (ontimelaw47_FlowSchedules.j0 k l0 a1 (decide ((l0.length : Int) > 14))) else (ontimelaw47_FlowSchedules.j0 k l0 a1 true))) else (ontimelaw47_FlowSchedules.j0 k l0 a1 true)) = some r := H
  have A4 := Aside0.mk A40
  clear A40
  by_cases c5 : t335 = true
  ·subst c5
   have H1 : ((ontimelaw47_valid.f k l0 a1).bind fun t336 => (if t336 = true then (ontimelaw47_FlowSchedules.j0 k l0 a1 (decide ((l0.length : Int) > 14))) else (ontimelaw47_FlowSchedules.j0 k l0 a1 true))) = some r := by rw [if_pos rfl] at H; exact H
   clear H
   have H := H1
   clear H1
   replace H := Option.bind_eq_some_iff.mp H
   obtain ⟨t336, A60, H⟩ := H
   replace H : (if t336 = true then (ontimelaw47_FlowSchedules.j0 k l0 a1 (decide ((l0.length : Int) > 14))) else (ontimelaw47_FlowSchedules.j0 k l0 a1 true)) = some r := H
   have A6 := Aside0.mk A60
   clear A60
   by_cases c7 : t336 = true
   ·subst c7
    have H1 : (ontimelaw47_FlowSchedules.j0 k l0 a1 (decide ((l0.length : Int) > 14))) = some r := by rw [if_pos rfl] at H; exact H
    clear H
    have H := H1
    clear H1
    have H' := Aside0.mk H
    clear H
    go_wp2_with (first | ((with_reducible refine gate_callee (f := 41) rfl ?_); refine goesL_ (some 17) rfl rfl Try.func41 (by kernel_rfl) rfl #[] rfl (by (try simp only [List.map_toArray, List.map_cons, List.map_nil]); first | done | rfl | (simp only [List.length_drop, List.length_take]; rfl)) ?_; (with_reducible refine (ontimelaw47_awake.calls  true _ A4.out).mono ?_); rintro e w8 ⟨rfl, hb⟩; refine ⟨_, rfl, ?_⟩; have n0_ := Aside0.mk (below_step (by repeat (first | (with_reducible first | exact HB.out | apply below_alloc | apply pw_below_drewN | apply below_drew1) | exact HB.out)) hb); clear HB; have HB := n0_; clear n0_; (try clear hb); (try clear hb2); (try clear hk); (try clear hi)) | (go_at_call 48; (with_reducible refine (ontimelaw47_valid.calls k _ _ l0 a1 true _ ?side1 ?side2 A6.out).mono ?_); (case side1 => repeat (first | exact (Kd.C_below HR0.out HB.out) | (with_reducible refine Kd.C_alloc ?_ _) | (with_reducible refine Kd.C_drewN ?_ _) | (with_reducible refine Kd.C_drew ?_))); (case side2 => exact HC0.out); rintro e w9 ⟨rfl, hb⟩; have n0_ := Aside0.mk (below_step (by repeat (first | (with_reducible first | exact HB.out | apply below_alloc | apply pw_below_drewN | apply below_drew1) | exact HB.out)) hb); clear HB; have HB := n0_; clear n0_; (try clear hb); (try clear hb2); (try clear hk); (try clear hi)))
    go_meet
    case rel => exact ⟨_, (decide ((l0.length : Int) > 14)), (by first | rfl | (simp; done) | (simp [*]; done)), H', ⟨by first | omega | exact Nat.le_refl _⟩, ⟨by repeat (first | (with_reducible first | exact HB.out | apply below_alloc | apply pw_below_drewN | apply below_drew1) | exact HB.out)⟩⟩
   ·replace c7 := Bool.eq_false_iff.mpr c7
    subst c7
    have H1 : (ontimelaw47_FlowSchedules.j0 k l0 a1 true) = some r := by rw [if_neg (show ¬ (false = true) by decide)] at H; exact H
    clear H
    have H := H1
    clear H1
    have H' := Aside0.mk H
    clear H
    go_wp2_with (first | ((with_reducible refine gate_callee (f := 41) rfl ?_); refine goesL_ (some 17) rfl rfl Try.func41 (by kernel_rfl) rfl #[] rfl (by (try simp only [List.map_toArray, List.map_cons, List.map_nil]); first | done | rfl | (simp only [List.length_drop, List.length_take]; rfl)) ?_; (with_reducible refine (ontimelaw47_awake.calls  true _ A4.out).mono ?_); rintro e w10 ⟨rfl, hb⟩; refine ⟨_, rfl, ?_⟩; have n0_ := Aside0.mk (below_step (by repeat (first | (with_reducible first | exact HB.out | apply below_alloc | apply pw_below_drewN | apply below_drew1) | exact HB.out)) hb); clear HB; have HB := n0_; clear n0_; (try clear hb); (try clear hb2); (try clear hk); (try clear hi)) | (go_at_call 48; (with_reducible refine (ontimelaw47_valid.calls k _ _ l0 a1 false _ ?side1 ?side2 A6.out).mono ?_); (case side1 => repeat (first | exact (Kd.C_below HR0.out HB.out) | (with_reducible refine Kd.C_alloc ?_ _) | (with_reducible refine Kd.C_drewN ?_ _) | (with_reducible refine Kd.C_drew ?_))); (case side2 => exact HC0.out); rintro e w11 ⟨rfl, hb⟩; have n0_ := Aside0.mk (below_step (by repeat (first | (with_reducible first | exact HB.out | apply below_alloc | apply pw_below_drewN | apply below_drew1) | exact HB.out)) hb); clear HB; have HB := n0_; clear n0_; (try clear hb); (try clear hb2); (try clear hk); (try clear hi)))
    go_meet
    case rel => exact ⟨_, (true), (by first | rfl | (simp; done) | (simp [*]; done)), H', ⟨by first | omega | exact Nat.le_refl _⟩, ⟨by repeat (first | (with_reducible first | exact HB.out | apply below_alloc | apply pw_below_drewN | apply below_drew1) | exact HB.out)⟩⟩
  ·replace c5 := Bool.eq_false_iff.mpr c5
   subst c5
   have H1 : (ontimelaw47_FlowSchedules.j0 k l0 a1 true) = some r := by rw [if_neg (show ¬ (false = true) by decide)] at H; exact H
   clear H
   have H := H1
   clear H1
   have H' := Aside0.mk H
   clear H
   go_wp2_with (first | ((with_reducible refine gate_callee (f := 41) rfl ?_); refine goesL_ (some 17) rfl rfl Try.func41 (by kernel_rfl) rfl #[] rfl (by (try simp only [List.map_toArray, List.map_cons, List.map_nil]); first | done | rfl | (simp only [List.length_drop, List.length_take]; rfl)) ?_; (with_reducible refine (ontimelaw47_awake.calls  false _ A4.out).mono ?_); rintro e w12 ⟨rfl, hb⟩; refine ⟨_, rfl, ?_⟩; have n0_ := Aside0.mk (below_step (by repeat (first | (with_reducible first | exact HB.out | apply below_alloc | apply pw_below_drewN | apply below_drew1) | exact HB.out)) hb); clear HB; have HB := n0_; clear n0_; (try clear hb); (try clear hb2); (try clear hk); (try clear hi)))
   go_meet
   case rel => exact ⟨_, (true), (by first | rfl | (simp; done) | (simp [*]; done)), H', ⟨by first | omega | exact Nat.le_refl _⟩, ⟨by repeat (first | (with_reducible first | exact HB.out | apply below_alloc | apply pw_below_drewN | apply below_drew1) | exact HB.out)⟩⟩
 case rest =>
  clear HC3
  try clear c1
  try clear p2
  try clear c4
  try clear c5
  try clear c7
  obtain ⟨kq, x29_2, rfl, HA, HJ2, HB⟩ := hcut
  cases kq with
  | zero => exact absurd HA.out (by simp [ontimelaw47_FlowSchedules.j0])
  | succ kj2 =>
   have H := HA.out
   clear HA
   simp only [ontimelaw47_FlowSchedules.j0] at H
   by_cases c13 : x29_2 = true
   ·subst c13
    have H1 : ((ontimelaw47_awake.f).bind fun t337 => (some t337)) = some r := by rw [if_pos rfl] at H; exact H
    clear H
    have H := H1
    clear H1
    replace H := Option.bind_eq_some_iff.mp H
    obtain ⟨t337, A140, H⟩ := H
    replace H : (some t337) = some r := H
    have A14 := Aside0.mk A140
    clear A140
    obtain rfl := Option.some.inj H
    go_wp2_with (first | ((with_reducible refine gate_callee (f := 41) rfl ?_); refine goesL_ (some 30) rfl rfl Try.func41 (by kernel_rfl) rfl #[] rfl (by (try simp only [List.map_toArray, List.map_cons, List.map_nil]); first | done | rfl | (simp only [List.length_drop, List.length_take]; rfl)) ?_; (with_reducible refine (ontimelaw47_awake.calls  t337 _ A14.out).mono ?_); rintro e w15 ⟨rfl, hb⟩; refine ⟨_, rfl, ?_⟩; have n0_ := Aside0.mk (below_step (by repeat (first | (with_reducible first | exact HB.out | apply below_alloc | apply pw_below_drewN | apply below_drew1) | exact HB.out)) hb); clear HB; have HB := n0_; clear n0_; (try clear hb); (try clear hb2); (try clear hk); (try clear hi)))
    go_ret
    exact ⟨by first | rfl | (simp [errW_none, errW_some] <;> rfl) | (simp [*, errW_none, errW_some] <;> rfl), by repeat (first | (with_reducible first | exact HB.out | apply below_alloc | apply pw_below_drewN | apply below_drew1) | exact HB.out)⟩
   ·replace c13 := Bool.eq_false_iff.mpr c13
    subst c13
    have H1 : ((flow_Schedule.f kj2 l0 a1).bind fun bt338 => ((flow_Witness.f kj2 l0 a1).bind fun bt343 => (if bt338.2.2 = 0 then (ontimelaw47_FlowSchedules.j1 kj2 l0 a1 bt338.1 bt338.2.1 bt343.1 bt343.2.1 (bt338.2.1 == bt343.2.2)) else (ontimelaw47_FlowSchedules.j1 kj2 l0 a1 bt338.1 bt338.2.1 bt343.1 bt343.2.1 true)))) = some r := by rw [if_neg (show ¬ (false = true) by decide)] at H; exact H
    clear H
    have H := H1
    clear H1
    replace H := Option.bind_eq_some_iff.mp H
    obtain ⟨⟨t338, t339, t340⟩, A160, H⟩ := H
    replace H : ((flow_Witness.f kj2 l0 a1).bind fun bt343 => (if t340 = 0 then (ontimelaw47_FlowSchedules.j1 kj2 l0 a1 t338 t339 bt343.1 bt343.2.1 (t339 == bt343.2.2)) else (ontimelaw47_FlowSchedules.j1 kj2 l0 a1 t338 t339 bt343.1 bt343.2.1 true))) = some r := H
    have A16 := Aside0.mk A160
    clear A160
    replace H := Option.bind_eq_some_iff.mp H
    obtain ⟨⟨t343, t344, t345⟩, A170, H⟩ := H
    replace H : (if t340 = 0 then (ontimelaw47_FlowSchedules.j1 kj2 l0 a1 t338 t339 t343 t344 (t339 == t345)) else (ontimelaw47_FlowSchedules.j1 kj2 l0 a1 t338 t339 t343 t344 true)) = some r := H
    have A17 := Aside0.mk A170
    clear A170
    have HC18 := Aside0.mk H
    clear H
    go_upto_region 5 with (first | ((with_reducible refine gate_callee (f := 43) rfl ?_); refine goesL_ (some 34) rfl rfl Try.func43 (by kernel_rfl) rfl #[.slice A0 l0.length c0, .int .i64 a1] rfl (by (try simp only [List.map_toArray, List.map_cons, List.map_nil]); first | done | rfl | (simp only [List.length_drop, List.length_take]; rfl)) ?_; (with_reducible refine (flow_Schedule.calls kj2 _ _ l0 a1 t338 t339 t340 _ ?side1 ?side2 A16.out).mono ?_); (case side1 => repeat (first | exact (Kd.C_below HR0.out HB.out) | (with_reducible refine Kd.C_alloc ?_ _) | (with_reducible refine Kd.C_drewN ?_ _) | (with_reducible refine Kd.C_drew ?_))); (case side2 => exact HC0.out); rintro e w19 ⟨v341, rfl, ho0, hb⟩; refine ⟨_, rfl, ?_⟩; have n0_ := Aside0.mk (Kd.S_lower ho0 (below_size (by repeat (first | (with_reducible first | exact HB.out | apply below_alloc | apply pw_below_drewN | apply below_drew1) | exact HB.out)))); have n1_ := Aside0.mk (below_step (by repeat (first | (with_reducible first | exact HB.out | apply below_alloc | apply pw_below_drewN | apply below_drew1) | exact HB.out)) hb); clear HB; have HO342 := n0_; have HB := n1_; clear n0_ n1_; (try clear hb); (try clear hb2); (try clear hk); (try clear hi); (try clear ho0)) | ((with_reducible refine gate_callee (f := 49) rfl ?_); refine goesL_ (some 41) rfl rfl Try.func49 (by kernel_rfl) rfl #[.slice A0 l0.length c0, .int .i64 a1] rfl (by (try simp only [List.map_toArray, List.map_cons, List.map_nil]); first | done | rfl | (simp only [List.length_drop, List.length_take]; rfl)) ?_; (with_reducible refine (flow_Witness.calls kj2 _ _ l0 a1 t343 t344 t345 _ ?side1 ?side2 A17.out).mono ?_); (case side1 => repeat (first | exact (Kd.C_below HR0.out HB.out) | (with_reducible refine Kd.C_alloc ?_ _) | (with_reducible refine Kd.C_drewN ?_ _) | (with_reducible refine Kd.C_drew ?_))); (case side2 => exact HC0.out); rintro e w20 ⟨v346, v348, rfl, ho0, ho1, hb⟩; refine ⟨_, rfl, ?_⟩; have n0_ := Aside0.mk (Kd.S_mono (Kd.S_told (Kd.S_told (Kd.S_old (by (with_reducible repeat (first | apply Kd.S_alloc | apply Kd.S_drewN | apply Kd.S_drew)); exact HO342.out) hb) (Kd.R_base ho0)) (Kd.R_base ho1)) (fun _ h_ => h_.1)); have n1_ := Aside0.mk (Kd.R_lower ho0 (below_size (by repeat (first | (with_reducible first | exact HB.out | apply below_alloc | apply pw_below_drewN | apply below_drew1) | exact HB.out)))); have n2_ := Aside0.mk (Kd.R_lower ho1 (below_size (by repeat (first | (with_reducible first | exact HB.out | apply below_alloc | apply pw_below_drewN | apply below_drew1) | exact HB.out)))); have n3_ := Aside0.mk (below_step (by repeat (first | (with_reducible first | exact HB.out | apply below_alloc | apply pw_below_drewN | apply below_drew1) | exact HB.out)) hb); clear HO342; clear HB; have HO342 := n0_; have HO347 := n1_; have HO349 := n2_; have HB := n3_; clear n0_ n1_ n2_ n3_; (try clear hb); (try clear hb2); (try clear hk); (try clear hi); (try clear ho0); (try clear ho1)))
    (try simp only [Act.put, List.setIfInBounds_toArray, List.set_cons_zero, List.set_cons_succ])
    go_cut [51] (fun v51 wc => ∃ (kq : Nat) (x51_17 : Bool), v51 = .bool x51_17 ∧ Aside0 (ontimelaw47_FlowSchedules.j1 kq l0 a1 t338 t339 t343 t344 x51_17 = some r) ∧ Aside0 (kq ≤ kj2) ∧ Aside0 (Kd.S (Kd.slice 3 (Kd.int .i64)) 55 wc w.heap.size (fun k_ => some k_ ≠ (v346 : Value).ownBlock ∧ some k_ ≠ (v348 : Value).ownBlock) v341 t338) ∧ Aside0 (Kd.R (Kd.int .i64) 3 wc w.heap.size (fun k_ => some k_ ≠ (v348 : Value).ownBlock) v346 t343) ∧ Aside0 (Kd.R (Kd.int .i64) 3 wc w.heap.size (fun k_ => some k_ ≠ (v346 : Value).ownBlock) v348 t344) ∧ Aside0 (Below w.heap.size w wc))
    case first =>
     have H := HC18.out
     clear HC18
     by_cases c21 : t340 = 0
     ·rw [if_pos c21] at H
      have c21b0 : (t340 == 0) = true := beq_iff_eq.mpr c21
      have c21b1 : (t340 != 0) = false := bne_eq_false_iff_eq.mpr c21
      clear c21
      (first | rw [c21b0] | (simp only [i64_w, i32_w]; rw [c21b0]) | skip)
      have H' := Aside0.mk H
      clear H
      go_wp2
      go_meet
      case rel => exact ⟨_, ((t339 == t345)), (by first | rfl | (simp; done) | (simp [*]; done)), H', ⟨by have := HJ2.out; first | omega | exact Nat.le_refl _⟩, ⟨by (with_reducible repeat (first | apply Kd.S_alloc | apply Kd.S_drewN | apply Kd.S_drew)); exact Kd.S_mono HO342.out (fun _ hk => ⟨hk.1.2, hk.2⟩)⟩, ⟨by (with_reducible repeat (first | apply Kd.R_alloc | apply Kd.R_drewN | apply Kd.R_drew)); exact HO347.out⟩, ⟨by (with_reducible repeat (first | apply Kd.R_alloc | apply Kd.R_drewN | apply Kd.R_drew)); exact HO349.out⟩, ⟨by repeat (first | (with_reducible first | exact HB.out | apply below_alloc | apply pw_below_drewN | apply below_drew1) | exact HB.out)⟩⟩
     ·rw [if_neg c21] at H
      have c21b0 : (t340 == 0) = false := beq_eq_false_iff_ne.mpr c21
      have c21b1 : (t340 != 0) = true := bne_iff_ne.mpr c21
      (first | rw [c21b0] | (simp only [i64_w, i32_w]; rw [c21b0]) | skip)
      have H' := Aside0.mk H
      clear H
      go_wp2
      go_meet
      case rel => exact ⟨_, (true), (by first | rfl | (simp; done) | (simp [*]; done)), H', ⟨by have := HJ2.out; first | omega | exact Nat.le_refl _⟩, ⟨by (with_reducible repeat (first | apply Kd.S_alloc | apply Kd.S_drewN | apply Kd.S_drew)); exact Kd.S_mono HO342.out (fun _ hk => ⟨hk.1.2, hk.2⟩)⟩, ⟨by (with_reducible repeat (first | apply Kd.R_alloc | apply Kd.R_drewN | apply Kd.R_drew)); exact HO347.out⟩, ⟨by (with_reducible repeat (first | apply Kd.R_alloc | apply Kd.R_drewN | apply Kd.R_drew)); exact HO349.out⟩, ⟨by repeat (first | (with_reducible first | exact HB.out | apply below_alloc | apply pw_below_drewN | apply below_drew1) | exact HB.out)⟩⟩
    case rest =>
     clear HC18
     try clear c1
     try clear c2
     try clear p2
     try clear c4
     try clear c5
     try clear c7
     try clear c13
     try clear c16
     try clear c21
     try clear c21b0
     try clear c21b1
     try clear p2
     obtain ⟨kq, x51_17, rfl, HA, HJ17, HO_5, HO_8, HO_9, HB⟩ := hcut
     cases kq with
     | zero => exact absurd HA.out (by simp [ontimelaw47_FlowSchedules.j1])
     | succ kj17 =>
      have H := HA.out
      clear HA
      simp only [ontimelaw47_FlowSchedules.j1] at H
      by_cases c22 : x51_17 = true
      ·subst c22
       have H1 : (some false) = some r := by rw [if_pos rfl] at H; exact H
       clear H
       have H := H1
       clear H1
       obtain rfl := Option.some.inj H
       go_wp2
       go_ret
       exact ⟨by first | rfl | (simp [errW_none, errW_some] <;> rfl) | (simp [*, errW_none, errW_some] <;> rfl), by repeat (first | (with_reducible first | exact HB.out | apply below_alloc | apply pw_below_drewN | apply below_drew1) | exact HB.out)⟩
      ·replace c22 := Bool.eq_false_iff.mpr c22
       subst c22
       have H1 : (if t339 = true then ((ontimelaw47_schedules.f kj17 l0 a1 t338).bind fun t350 => (if t350 = true then (if (t343.length : Int) = 0 then (some ((t344.length : Int) == 0)) else (some false)) else (some false))) else (ontimelaw47_FlowSchedules.l0 kj17 l0 t338 t343 t344 0 (wrap64 (a1 * (t344.length : Int))) t343 (t343.length : Int) 0)) = some r := by rw [if_neg (show ¬ (false = true) by decide)] at H; exact H
       clear H
       have H := H1
       clear H1
       by_cases c23 : t339 = true
       ·subst c23
        have H1 : ((ontimelaw47_schedules.f kj17 l0 a1 t338).bind fun t350 => (if t350 = true then (if (t343.length : Int) = 0 then (some ((t344.length : Int) == 0)) else (some false)) else (some false))) = some r := by rw [if_pos rfl] at H; exact H
        clear H
        have H := H1
        clear H1
        replace H := Option.bind_eq_some_iff.mp H
        obtain ⟨t350, A240, H⟩ := H
        replace H : (if t350 = true then (if (t343.length : Int) = 0 then (some ((t344.length : Int) == 0)) else (some false)) else (some false)) = some r := H
        have A24 := Aside0.mk A240
        clear A240
        by_cases c25 : t350 = true
        ·subst c25
         have H1 : (if (t343.length : Int) = 0 then (some ((t344.length : Int) == 0)) else (some false)) = some r := by rw [if_pos rfl] at H; exact H
         clear H
         have H := H1
         clear H1
         by_cases c26 : (t343.length : Int) = 0
         ·rw [if_pos c26] at H
          have c26b0 : ((t343.length : Int) == 0) = true := beq_iff_eq.mpr c26
          have c26b1 : ((t343.length : Int) != 0) = false := bne_eq_false_iff_eq.mpr c26
          clear c26
          obtain rfl := Option.some.inj H
          obtain ⟨Ao27, co27, eo27⟩ := Kd.S_slice HO_5.out
          subst eo27
          go_wp2_with (first | ((with_reducible refine gate_callee (f := 50) rfl ?_); refine goesL_ (some 56) rfl rfl Try.func50 (by kernel_rfl) rfl #[.slice A0 l0.length c0, .int .i64 a1, .slice Ao27 t338.length co27] rfl (by (try simp only [List.map_toArray, List.map_cons, List.map_nil]); first | done | rfl | (simp only [List.length_drop, List.length_take]; rfl)) ?_; (with_reducible refine (ontimelaw47_schedules.calls kj17 _ _ l0 a1 _ _ t338 true _ ?side1 ?side2 ?side3 ?side4 A24.out).mono ?_); (case side1 => repeat (first | exact (Kd.C_below HR0.out HB.out) | (with_reducible refine Kd.C_alloc ?_ _) | (with_reducible refine Kd.C_drewN ?_ _) | (with_reducible refine Kd.C_drew ?_))); (case side2 => exact HC0.out); (case side3 => repeat (first | exact (Kd.S_reads' HO_5.out).2.2 | (with_reducible refine Kd.C_alloc ?_ _) | (with_reducible refine Kd.C_drewN ?_ _) | (with_reducible refine Kd.C_drew ?_))); (case side4 => exact (Kd.S_reads' HO_5.out).2.1); rintro e w28 ⟨rfl, hb⟩; refine ⟨_, rfl, ?_⟩; have n0_ := Aside0.mk (Kd.S_below (by (with_reducible repeat (first | apply Kd.S_alloc | apply Kd.S_drewN | apply Kd.S_drew)); exact HO_5.out) hb); have n1_ := Aside0.mk (Kd.R_below (by (with_reducible repeat (first | apply Kd.R_alloc | apply Kd.R_drewN | apply Kd.R_drew)); exact HO_8.out) hb); have n2_ := Aside0.mk (Kd.R_below (by (with_reducible repeat (first | apply Kd.R_alloc | apply Kd.R_drewN | apply Kd.R_drew)); exact HO_9.out) hb); have n3_ := Aside0.mk (below_step (by repeat (first | (with_reducible first | exact HB.out | apply below_alloc | apply pw_below_drewN | apply below_drew1) | exact HB.out)) hb); clear HO_5; clear HO_8; clear HO_9; clear HB; have HO_5 := n0_; have HO_8 := n1_; have HO_9 := n2_; have HB := n3_; clear n0_ n1_ n2_ n3_; (try clear hb); (try clear hb2); (try clear hk); (try clear hi); obtain ⟨Ao29, co29, eo29⟩ := Kd.R_slice HO_8.out; subst eo29; obtain ⟨Ao30, co30, eo30⟩ := Kd.R_slice HO_9.out; subst eo30))
          go_ret
          exact ⟨by first | rfl | (simp [errW_none, errW_some] <;> rfl) | (simp [*, errW_none, errW_some] <;> rfl), by repeat (first | (with_reducible first | exact HB.out | apply below_alloc | apply pw_below_drewN | apply below_drew1) | exact HB.out)⟩
         ·rw [if_neg c26] at H
          have c26b0 : ((t343.length : Int) == 0) = false := beq_eq_false_iff_ne.mpr c26
          have c26b1 : ((t343.length : Int) != 0) = true := bne_iff_ne.mpr c26
          have c26b2 : ¬ (t343 = []) := fun h_ => c26 (by rw [h_]; rfl)
          obtain rfl := Option.some.inj H
          obtain ⟨Ao31, co31, eo31⟩ := Kd.S_slice HO_5.out
          subst eo31
          go_wp2_with (first | ((with_reducible refine gate_callee (f := 50) rfl ?_); refine goesL_ (some 56) rfl rfl Try.func50 (by kernel_rfl) rfl #[.slice A0 l0.length c0, .int .i64 a1, .slice Ao31 t338.length co31] rfl (by (try simp only [List.map_toArray, List.map_cons, List.map_nil]); first | done | rfl | (simp only [List.length_drop, List.length_take]; rfl)) ?_; (with_reducible refine (ontimelaw47_schedules.calls kj17 _ _ l0 a1 _ _ t338 true _ ?side1 ?side2 ?side3 ?side4 A24.out).mono ?_); (case side1 => repeat (first | exact (Kd.C_below HR0.out HB.out) | (with_reducible refine Kd.C_alloc ?_ _) | (with_reducible refine Kd.C_drewN ?_ _) | (with_reducible refine Kd.C_drew ?_))); (case side2 => exact HC0.out); (case side3 => repeat (first | exact (Kd.S_reads' HO_5.out).2.2 | (with_reducible refine Kd.C_alloc ?_ _) | (with_reducible refine Kd.C_drewN ?_ _) | (with_reducible refine Kd.C_drew ?_))); (case side4 => exact (Kd.S_reads' HO_5.out).2.1); rintro e w32 ⟨rfl, hb⟩; refine ⟨_, rfl, ?_⟩; have n0_ := Aside0.mk (Kd.S_below (by (with_reducible repeat (first | apply Kd.S_alloc | apply Kd.S_drewN | apply Kd.S_drew)); exact HO_5.out) hb); have n1_ := Aside0.mk (Kd.R_below (by (with_reducible repeat (first | apply Kd.R_alloc | apply Kd.R_drewN | apply Kd.R_drew)); exact HO_8.out) hb); have n2_ := Aside0.mk (Kd.R_below (by (with_reducible repeat (first | apply Kd.R_alloc | apply Kd.R_drewN | apply Kd.R_drew)); exact HO_9.out) hb); have n3_ := Aside0.mk (below_step (by repeat (first | (with_reducible first | exact HB.out | apply below_alloc | apply pw_below_drewN | apply below_drew1) | exact HB.out)) hb); clear HO_5; clear HO_8; clear HO_9; clear HB; have HO_5 := n0_; have HO_8 := n1_; have HO_9 := n2_; have HB := n3_; clear n0_ n1_ n2_ n3_; (try clear hb); (try clear hb2); (try clear hk); (try clear hi); obtain ⟨Ao33, co33, eo33⟩ := Kd.R_slice HO_8.out; subst eo33))
          go_ret
          exact ⟨by first | rfl | (simp [errW_none, errW_some] <;> rfl) | (simp [*, errW_none, errW_some] <;> rfl), by repeat (first | (with_reducible first | exact HB.out | apply below_alloc | apply pw_below_drewN | apply below_drew1) | exact HB.out)⟩
        ·replace c25 := Bool.eq_false_iff.mpr c25
         subst c25
         have H1 : (some false) = some r := by rw [if_neg (show ¬ (false = true) by decide)] at H; exact H
         clear H
         have H := H1
         clear H1
         obtain rfl := Option.some.inj H
         obtain ⟨Ao34, co34, eo34⟩ := Kd.S_slice HO_5.out
         subst eo34
         go_wp2_with (first | ((with_reducible refine gate_callee (f := 50) rfl ?_); refine goesL_ (some 56) rfl rfl Try.func50 (by kernel_rfl) rfl #[.slice A0 l0.length c0, .int .i64 a1, .slice Ao34 t338.length co34] rfl (by (try simp only [List.map_toArray, List.map_cons, List.map_nil]); first | done | rfl | (simp only [List.length_drop, List.length_take]; rfl)) ?_; (with_reducible refine (ontimelaw47_schedules.calls kj17 _ _ l0 a1 _ _ t338 false _ ?side1 ?side2 ?side3 ?side4 A24.out).mono ?_); (case side1 => repeat (first | exact (Kd.C_below HR0.out HB.out) | (with_reducible refine Kd.C_alloc ?_ _) | (with_reducible refine Kd.C_drewN ?_ _) | (with_reducible refine Kd.C_drew ?_))); (case side2 => exact HC0.out); (case side3 => repeat (first | exact (Kd.S_reads' HO_5.out).2.2 | (with_reducible refine Kd.C_alloc ?_ _) | (with_reducible refine Kd.C_drewN ?_ _) | (with_reducible refine Kd.C_drew ?_))); (case side4 => exact (Kd.S_reads' HO_5.out).2.1); rintro e w35 ⟨rfl, hb⟩; refine ⟨_, rfl, ?_⟩; have n0_ := Aside0.mk (Kd.S_below (by (with_reducible repeat (first | apply Kd.S_alloc | apply Kd.S_drewN | apply Kd.S_drew)); exact HO_5.out) hb); have n1_ := Aside0.mk (Kd.R_below (by (with_reducible repeat (first | apply Kd.R_alloc | apply Kd.R_drewN | apply Kd.R_drew)); exact HO_8.out) hb); have n2_ := Aside0.mk (Kd.R_below (by (with_reducible repeat (first | apply Kd.R_alloc | apply Kd.R_drewN | apply Kd.R_drew)); exact HO_9.out) hb); have n3_ := Aside0.mk (below_step (by repeat (first | (with_reducible first | exact HB.out | apply below_alloc | apply pw_below_drewN | apply below_drew1) | exact HB.out)) hb); clear HO_5; clear HO_8; clear HO_9; clear HB; have HO_5 := n0_; have HO_8 := n1_; have HO_9 := n2_; have HB := n3_; clear n0_ n1_ n2_ n3_; (try clear hb); (try clear hb2); (try clear hk); (try clear hi)))
         go_ret
         exact ⟨by first | rfl | (simp [errW_none, errW_some] <;> rfl) | (simp [*, errW_none, errW_some] <;> rfl), by repeat (first | (with_reducible first | exact HB.out | apply below_alloc | apply pw_below_drewN | apply below_drew1) | exact HB.out)⟩
       ·replace c23 := Bool.eq_false_iff.mpr c23
        subst c23
        have H1 : (ontimelaw47_FlowSchedules.l0 kj17 l0 t338 t343 t344 0 (wrap64 (a1 * (t344.length : Int))) t343 (t343.length : Int) 0) = some r := by rw [if_neg (show ¬ (false = true) by decide)] at H; exact H
        clear H
        have H := H1
        clear H1
        have H' := Aside0.mk H
        clear H
        obtain ⟨Ao36, co36, eo36⟩ := Kd.R_slice HO_9.out
        subst eo36
        obtain ⟨Ao37, co37, eo37⟩ := Kd.R_slice HO_8.out
        subst eo37
        go_wp2
        go_loopg [11, 12, 73] kj17 (fun kq v11 v12 v73 w' => ∃ (x11_3 : Int) (x12_3 : Int) (x73_3 : Int), v11 = .int .i64 x11_3 ∧ v12 = .int .i64 x12_3 ∧ v73 = .int .i64 x73_3 ∧ Aside0 (ontimelaw47_FlowSchedules.l0 kq l0 t338 t343 t344 x11_3 x12_3 t343 (t343.length : Int) x73_3 = some r) ∧ Aside0 (kq ≤ kj17) ∧ Aside0 (Kd.S (Kd.slice 3 (Kd.int .i64)) 55 w' w.heap.size (fun k_ => some k_ ≠ ((.slice Ao37 t343.length co37) : Value).ownBlock ∧ some k_ ≠ ((.slice Ao36 t344.length co36) : Value).ownBlock ∧ some k_ ≠ ((.slice Ao37 t343.length co37) : Value).ownBlock) v341 t338) ∧ Aside0 (Kd.R (Kd.int .i64) 3 w' w.heap.size (fun k_ => some k_ ≠ ((.slice Ao36 t344.length co36) : Value).ownBlock) (.slice Ao37 t343.length co37) t343) ∧ Aside0 (Kd.R (Kd.int .i64) 3 w' w.heap.size (fun k_ => some k_ ≠ ((.slice Ao37 t343.length co37) : Value).ownBlock ∧ some k_ ≠ ((.slice Ao37 t343.length co37) : Value).ownBlock) (.slice Ao36 t344.length co36) t344) ∧ Aside0 (Kd.R (Kd.int .i64) 3 w' w.heap.size (fun k_ => some k_ ≠ ((.slice Ao36 t344.length co36) : Value).ownBlock) (.slice Ao37 t343.length co37) t343) ∧ Aside0 (Below w.heap.size w w'))
        case atStart => exact ⟨(0), (wrap64 (a1 * (t344.length : Int))), (0), (by first | rfl | (simp; done) | (simp [*]; done)), (by first | rfl | (simp; done) | (simp [*]; done)), (by first | rfl | (simp; done) | (simp [*]; done)), H', ⟨Nat.le_refl _⟩, ⟨by (with_reducible repeat (first | apply Kd.S_alloc | apply Kd.S_drewN | apply Kd.S_drew)); exact Kd.S_mono HO_5.out (fun _ hk => ⟨hk.1, ⟨hk.2, hk.1⟩⟩)⟩, ⟨by (with_reducible repeat (first | apply Kd.R_alloc | apply Kd.R_drewN | apply Kd.R_drew)); exact HO_8.out⟩, ⟨by (with_reducible repeat (first | apply Kd.R_alloc | apply Kd.R_drewN | apply Kd.R_drew)); exact Kd.R_mono HO_9.out (fun _ hk => ⟨hk, hk⟩)⟩, ⟨by (with_reducible repeat (first | apply Kd.R_alloc | apply Kd.R_drewN | apply Kd.R_drew)); exact HO_8.out⟩, ⟨by repeat (first | (with_reducible first | exact HB.out | apply below_alloc | apply pw_below_drewN | apply below_drew1) | exact HB.out)⟩⟩
        case round =>
         clear H'
         try clear c1
         try clear c2
         try clear p2
         try clear c4
         try clear c5
         try clear p6
         try clear c7
         try clear c13
         try clear c16
         try clear c21
         try clear c21b0
         try clear c21b1
         try clear c22
         try clear c23
         try clear c25
         try clear c26
         try clear c26b0
         try clear c26b1
         try clear c26b2
         try clear p2
         obtain ⟨x11_3, x12_3, x73_3, rfl, rfl, rfl, HA, HK3, HO_5, HO_8, HO_9, HO_71, HB⟩ := hrel
         cases gk with
         | zero => exact absurd HA.out (by simp [ontimelaw47_FlowSchedules.l0])
         | succ k3 =>
          have H := HA.out
          clear HA
          simp only [ontimelaw47_FlowSchedules.l0] at H
          by_cases c38 : x73_3 < (t343.length : Int)
          ·rw [if_pos c38] at H
           have c38b0 : decide (x73_3 < (t343.length : Int)) = true := decide_eq_true c38
           clear c38
           by_cases c39 : 0 ≤ x73_3
           ·rw [if_pos c39] at H
            have c39b0 : decide (0 ≤ x73_3) = true := decide_eq_true c39
            clear c39
            by_cases c40 : x73_3 < (t343.length : Int)
            ·rw [if_pos c40] at H
             have c40b0 : decide (x73_3 < (t343.length : Int)) = true := decide_eq_true c40
             clear c40
             have HC41 := Aside0.mk H
             clear H
             have p351 : 0 ≤ (x73_3 : Int) := of_decide_eq_true (by first | (with_reducible assumption) | assumption)
             have q351 : x73_3 < (t343.length : Int) := of_decide_eq_true (by first | (with_reducible assumption) | assumption)
             obtain ⟨ad351, e351, hx351_0⟩ := Kd.at_int (Kd.R_reads' HO_71.out).2.2 x73_3 p351 q351
             cases e351
             replace p351 := eq_true p351
             replace q351 := eq_true q351
             go_upto_region 13 with (fail)
             go_cut [98] (fun v98 wc => ∃ (kq : Nat) (x98_40 : Bool), v98 = .bool x98_40 ∧ Aside0 (ontimelaw47_FlowSchedules.j3 kq l0 t338 t343 t344 x11_3 x12_3 (rd t343 x73_3) t343 (t343.length : Int) x73_3 x98_40 = some r) ∧ Aside0 (kq ≤ k3) ∧ Aside0 (Kd.S (Kd.slice 3 (Kd.int .i64)) 55 wc w.heap.size (fun k_ => some k_ ≠ ((.slice (some ad351) t343.length co37) : Value).ownBlock ∧ some k_ ≠ ((.slice Ao36 t344.length co36) : Value).ownBlock ∧ some k_ ≠ ((.slice (some ad351) t343.length co37) : Value).ownBlock) v341 t338) ∧ Aside0 (Kd.R (Kd.int .i64) 3 wc w.heap.size (fun k_ => some k_ ≠ ((.slice Ao36 t344.length co36) : Value).ownBlock) (.slice (some ad351) t343.length co37) t343) ∧ Aside0 (Kd.R (Kd.int .i64) 3 wc w.heap.size (fun k_ => some k_ ≠ ((.slice (some ad351) t343.length co37) : Value).ownBlock ∧ some k_ ≠ ((.slice (some ad351) t343.length co37) : Value).ownBlock) (.slice Ao36 t344.length co36) t344) ∧ Aside0 (Kd.R (Kd.int .i64) 3 wc w.heap.size (fun k_ => some k_ ≠ ((.slice Ao36 t344.length co36) : Value).ownBlock) (.slice (some ad351) t343.length co37) t343) ∧ Aside0 (Below w.heap.size w wc))
             case first =>
              have H := HC41.out
              clear HC41
              by_cases c42 : (rd t343 x73_3) < 0
              ·rw [if_pos c42] at H
               have c42b0 : decide ((rd t343 x73_3) < 0) = true := decide_eq_true c42
               clear c42
               (first | rw [c42b0] | (simp only [i64_w, i32_w]; rw [c42b0]) | skip)
               have H' := Aside0.mk H
               clear H
               go_wp2
               go_meet
               case rel => exact ⟨_, (true), (by first | rfl | (simp; done) | (simp [*]; done)), H', ⟨by have := HJ2.out; have := HJ17.out; have := HK3.out; first | omega | exact Nat.le_refl _⟩, ⟨by (with_reducible repeat (first | apply Kd.S_alloc | apply Kd.S_drewN | apply Kd.S_drew)); exact HO_5.out⟩, ⟨by (with_reducible repeat (first | apply Kd.R_alloc | apply Kd.R_drewN | apply Kd.R_drew)); exact HO_8.out⟩, ⟨by (with_reducible repeat (first | apply Kd.R_alloc | apply Kd.R_drewN | apply Kd.R_drew)); exact HO_9.out⟩, ⟨by (with_reducible repeat (first | apply Kd.R_alloc | apply Kd.R_drewN | apply Kd.R_drew)); exact HO_71.out⟩, ⟨by repeat (first | (with_reducible first | exact HB.out | apply below_alloc | apply pw_below_drewN | apply below_drew1) | exact HB.out)⟩⟩
              ·rw [if_neg c42] at H
               have c42b0 : decide ((rd t343 x73_3) < 0) = false := decide_eq_false c42
               clear c42
               (first | rw [c42b0] | (simp only [i64_w, i32_w]; rw [c42b0]) | skip)
               by_cases c43 : (rd t343 x73_3) ≥ (l0.length : Int)
               ·rw [if_pos c43] at H
                have c43b0 : decide ((l0.length : Int) ≤ (rd t343 x73_3)) = true := decide_eq_true c43
                clear c43
                have H' := Aside0.mk H
                clear H
                go_wp2
                go_meet
                case rel => exact ⟨_, (true), (by first | rfl | (simp; done) | (simp [*]; done)), H', ⟨by have := HJ2.out; have := HJ17.out; have := HK3.out; first | omega | exact Nat.le_refl _⟩, ⟨by (with_reducible repeat (first | apply Kd.S_alloc | apply Kd.S_drewN | apply Kd.S_drew)); exact HO_5.out⟩, ⟨by (with_reducible repeat (first | apply Kd.R_alloc | apply Kd.R_drewN | apply Kd.R_drew)); exact HO_8.out⟩, ⟨by (with_reducible repeat (first | apply Kd.R_alloc | apply Kd.R_drewN | apply Kd.R_drew)); exact HO_9.out⟩, ⟨by (with_reducible repeat (first | apply Kd.R_alloc | apply Kd.R_drewN | apply Kd.R_drew)); exact HO_71.out⟩, ⟨by repeat (first | (with_reducible first | exact HB.out | apply below_alloc | apply pw_below_drewN | apply below_drew1) | exact HB.out)⟩⟩
               ·rw [if_neg c43] at H
                have c43b0 : decide ((l0.length : Int) ≤ (rd t343 x73_3)) = false := decide_eq_false c43
                clear c43
                by_cases c44 : x73_3 > 0
                ·rw [if_pos c44] at H
                 have c44b0 : decide (0 < x73_3) = true := decide_eq_true c44
                 clear c44
                 obtain ⟨ji45, hji45⟩ : ∃ j_ : Int, (wrap64 (x73_3 - 1)) = j_ := ⟨_, rfl⟩
                 replace H : (if 0 ≤ (ji45) then (if (ji45) < (t343.length : Int) then (ontimelaw47_FlowSchedules.j3 k3 l0 t338 t343 t344 x11_3 x12_3 (rd t343 x73_3) t343 (t343.length : Int) x73_3 (decide ((rd t343 (ji45)) ≥ (rd t343 x73_3)))) else (none)) else (none)) = some r := by first | (rw [hji45] at H; exact H) | (simp only [hji45] at H ⊢; exact H)
                 have hji45w : (IntKind.i64.wrap (x73_3 - 1)) = ji45 := (i64_w _).trans hji45
                 by_cases c46 : 0 ≤ (ji45)
                 ·rw [if_pos c46] at H
                  have c46b0 : decide (0 ≤ (ji45)) = true := decide_eq_true c46
                  clear c46
                  by_cases c47 : (ji45) < (t343.length : Int)
                  ·rw [if_pos c47] at H
                   have c47b0 : decide ((ji45) < (t343.length : Int)) = true := decide_eq_true c47
                   clear c47
                   have H' := Aside0.mk H
                   clear H
                   have p352 : 0 ≤ ((ji45) : Int) := of_decide_eq_true (by first | (with_reducible assumption) | assumption)
                   have q352 : (ji45) < (t343.length : Int) := of_decide_eq_true (by first | (with_reducible assumption) | assumption)
                   obtain ⟨ad352, e352, hx352_0⟩ := Kd.at_int (Kd.R_reads' HO_8.out).2.2 (ji45) p352 q352
                   obtain rfl : ad351 = ad352 := (by injection e352)
                   replace p352 := eq_true p352
                   replace q352 := eq_true q352
                   go_wp2
                   go_meet
                   case rel => exact ⟨_, (decide ((rd t343 (ji45)) ≥ (rd t343 x73_3))), (by first | rfl | (simp; done) | (simp only [← hji45] <;> (first | rfl | simp)) | (simp [*]; done)), H', ⟨by have := HJ2.out; have := HJ17.out; have := HK3.out; first | omega | exact Nat.le_refl _⟩, ⟨by (with_reducible repeat (first | apply Kd.S_alloc | apply Kd.S_drewN | apply Kd.S_drew)); exact HO_5.out⟩, ⟨by (with_reducible repeat (first | apply Kd.R_alloc | apply Kd.R_drewN | apply Kd.R_drew)); exact HO_8.out⟩, ⟨by (with_reducible repeat (first | apply Kd.R_alloc | apply Kd.R_drewN | apply Kd.R_drew)); exact HO_9.out⟩, ⟨by (with_reducible repeat (first | apply Kd.R_alloc | apply Kd.R_drewN | apply Kd.R_drew)); exact HO_71.out⟩, ⟨by repeat (first | (with_reducible first | exact HB.out | apply below_alloc | apply pw_below_drewN | apply below_drew1) | exact HB.out)⟩⟩
                  ·rw [if_neg c47] at H
                   exact absurd H (by simp)
                 ·rw [if_neg c46] at H
                  exact absurd H (by simp)
                ·rw [if_neg c44] at H
                 have c44b0 : decide (0 < x73_3) = false := decide_eq_false c44
                 clear c44
                 have H' := Aside0.mk H
                 clear H
                 go_wp2
                 go_meet
                 case rel => exact ⟨_, (false), (by first | rfl | (simp; done) | (simp [*]; done)), H', ⟨by have := HJ2.out; have := HJ17.out; have := HK3.out; first | omega | exact Nat.le_refl _⟩, ⟨by (with_reducible repeat (first | apply Kd.S_alloc | apply Kd.S_drewN | apply Kd.S_drew)); exact HO_5.out⟩, ⟨by (with_reducible repeat (first | apply Kd.R_alloc | apply Kd.R_drewN | apply Kd.R_drew)); exact HO_8.out⟩, ⟨by (with_reducible repeat (first | apply Kd.R_alloc | apply Kd.R_drewN | apply Kd.R_drew)); exact HO_9.out⟩, ⟨by (with_reducible repeat (first | apply Kd.R_alloc | apply Kd.R_drewN | apply Kd.R_drew)); exact HO_71.out⟩, ⟨by repeat (first | (with_reducible first | exact HB.out | apply below_alloc | apply pw_below_drewN | apply below_drew1) | exact HB.out)⟩⟩
             case rest =>
              clear HC41
              try clear c1
              try clear c2
              try clear p2
              try clear c3
              try clear p3
              try clear q3
              try clear hx3
              try clear c4
              try clear c5
              try clear p6
              try clear c7
              try clear c13
              try clear c16
              try clear c21
              try clear c21b0
              try clear c21b1
              try clear c22
              try clear c23
              try clear c25
              try clear c26
              try clear c26b0
              try clear c26b1
              try clear c26b2
              try clear p35
              try clear q35
              try clear hx35
              try clear c38
              try clear c38b0
              try clear c39
              try clear c39b0
              try clear c40
              try clear c40b0
              try clear c41
              try clear c42
              try clear c42b0
              try clear c43
              try clear c43b0
              try clear c44
              try clear c44b0
              try clear c46
              try clear c46b0
              try clear c47
              try clear c47b0
              try clear hx351_0
              try clear hx352_0
              try clear p2
              try clear p351
              try clear p352
              try clear p6
              try clear q351
              try clear q352
              obtain ⟨kq, x98_40, rfl, HA, HJ40, HO_5, HO_8, HO_9, HO_71, HB⟩ := hcut
              cases kq with
              | zero => exact absurd HA.out (by simp [ontimelaw47_FlowSchedules.j3])
              | succ kj40 =>
               have H := HA.out
               clear HA
               simp only [ontimelaw47_FlowSchedules.j3] at H
               by_cases c48 : x98_40 = true
               ·subst c48
                have H1 : (some false) = some r := by rw [if_pos rfl] at H; exact H
                clear H
                have H := H1
                clear H1
                obtain rfl := Option.some.inj H
                go_wp2
                go_ret
                exact ⟨by first | rfl | (simp [errW_none, errW_some] <;> rfl) | (simp [*, errW_none, errW_some] <;> rfl), by repeat (first | (with_reducible first | exact HB.out | apply below_alloc | apply pw_below_drewN | apply below_drew1) | exact HB.out)⟩
               ·replace c48 := Bool.eq_false_iff.mpr c48
                subst c48
                have H1 : (if 0 ≤ (rd t343 x73_3) then (if (rd t343 x73_3) < (l0.length : Int) then ((ontimelaw47_plain.f kj40 l0).bind fun t354 => (if (rd t343 x73_3) < (t354.length : Int) then ((ontimeref47_Window.f kj40 ((rd_T85 t354 (rd t343 x73_3)).f0) ((rd_T85 t354 (rd t343 x73_3)).f1) ((rd_T85 t354 (rd t343 x73_3)).f2) t344).bind fun t358 => (ontimelaw47_FlowSchedules.l0 kj40 l0 t338 t343 t344 (wrap64 (x11_3 + ((rd_T83 l0 (rd t343 x73_3)).f2))) (wrap64 (x12_3 + t358)) t343 (t343.length : Int) (wrap64 (x73_3 + 1)))) else (none))) else (none)) else (none)) = some r := by rw [if_neg (show ¬ (false = true) by decide)] at H; exact H
                clear H
                have H := H1
                clear H1
                by_cases c49 : 0 ≤ (rd t343 x73_3)
                ·rw [if_pos c49] at H
                 have c49b0 : decide (0 ≤ (rd t343 x73_3)) = true := decide_eq_true c49
                 clear c49
                 by_cases c50 : (rd t343 x73_3) < (l0.length : Int)
                 ·rw [if_pos c50] at H
                  have c50b0 : decide ((rd t343 x73_3) < (l0.length : Int)) = true := decide_eq_true c50
                  clear c50
                  replace H := Option.bind_eq_some_iff.mp H
                  obtain ⟨t354, A510, H⟩ := H
                  replace H : (if (rd t343 x73_3) < (t354.length : Int) then ((ontimeref47_Window.f kj40 ((rd_T85 t354 (rd t343 x73_3)).f0) ((rd_T85 t354 (rd t343 x73_3)).f1) ((rd_T85 t354 (rd t343 x73_3)).f2) t344).bind fun t358 => (ontimelaw47_FlowSchedules.l0 kj40 l0 t338 t343 t344 (wrap64 (x11_3 + ((rd_T83 l0 (rd t343 x73_3)).f2))) (wrap64 (x12_3 + t358)) t343 (t343.length : Int) (wrap64 (x73_3 + 1)))) else (none)) = some r := H
                  have A51 := Aside0.mk A510
                  clear A510
                  by_cases c52 : (rd t343 x73_3) < (t354.length : Int)
                  ·rw [if_pos c52] at H
                   have c52b0 : decide ((rd t343 x73_3) < (t354.length : Int)) = true := decide_eq_true c52
                   clear c52
                   replace H := Option.bind_eq_some_iff.mp H
                   obtain ⟨t358, A530, H⟩ := H
                   replace H : (ontimelaw47_FlowSchedules.l0 kj40 l0 t338 t343 t344 (wrap64 (x11_3 + ((rd_T83 l0 (rd t343 x73_3)).f2))) (wrap64 (x12_3 + t358)) t343 (t343.length : Int) (wrap64 (x73_3 + 1))) = some r := H
                   have A53 := Aside0.mk A530
                   clear A530
                   have H' := Aside0.mk H
                   clear H
                   have p353 : 0 ≤ ((rd t343 x73_3) : Int) := of_decide_eq_true (by first | (with_reducible assumption) | assumption)
                   have q353 : (rd t343 x73_3) < (l0.length : Int) := of_decide_eq_true (by first | (with_reducible assumption) | assumption)
                   obtain ⟨ad353, e353, hx353_0, hx353_1, hx353_2⟩ := at_T83 HR0.out (rd t343 x73_3) p353 q353
                   cases e353
                   replace hx353_0 := (HB.out.cell (World.block_lt_of_cell? w _ hx353_0)).trans hx353_0
                   replace hx353_1 := (HB.out.cell (World.block_lt_of_cell? w _ hx353_1)).trans hx353_1
                   replace hx353_2 := (HB.out.cell (World.block_lt_of_cell? w _ hx353_2)).trans hx353_2
                   replace p353 := eq_true p353
                   replace q353 := eq_true q353
                   go_wp2_with (first | ((with_reducible refine gate_callee (f := 52) rfl ?_); refine goesL_ (some 108) rfl rfl Try.func52 (by kernel_rfl) rfl #[.slice (some ad353) l0.length c0] rfl (by (try simp only [List.map_toArray, List.map_cons, List.map_nil]); first | done | rfl | (simp only [List.length_drop, List.length_take]; rfl)) ?_; (with_reducible refine (ontimelaw47_plain.calls kj40 _ _ l0 t354 _ ?side1 ?side2 A51.out).mono ?_); (case side1 => repeat (first | exact (Kd.C_below HR0.out HB.out) | (with_reducible refine Kd.C_alloc ?_ _) | (with_reducible refine Kd.C_drewN ?_ _) | (with_reducible refine Kd.C_drew ?_))); (case side2 => exact HC0.out); rintro e w54 ⟨v355, rfl, ho0, hb⟩; refine ⟨_, rfl, ?_⟩; have n0_ := Aside0.mk (Kd.S_below (by (with_reducible repeat (first | apply Kd.S_alloc | apply Kd.S_drewN | apply Kd.S_drew)); exact HO_5.out) hb); have n1_ := Aside0.mk (Kd.R_below (by (with_reducible repeat (first | apply Kd.R_alloc | apply Kd.R_drewN | apply Kd.R_drew)); exact HO_8.out) hb); have n2_ := Aside0.mk (Kd.R_below (by (with_reducible repeat (first | apply Kd.R_alloc | apply Kd.R_drewN | apply Kd.R_drew)); exact HO_9.out) hb); have n3_ := Aside0.mk (Kd.R_below (by (with_reducible repeat (first | apply Kd.R_alloc | apply Kd.R_drewN | apply Kd.R_drew)); exact HO_71.out) hb); have n4_ := Aside0.mk (Kd.R_lower ho0 (below_size (by repeat (first | (with_reducible first | exact HB.out | apply below_alloc | apply pw_below_drewN | apply below_drew1) | exact HB.out)))); have n5_ := Aside0.mk (below_step (by repeat (first | (with_reducible first | exact HB.out | apply below_alloc | apply pw_below_drewN | apply below_drew1) | exact HB.out)) hb); clear HO_5; clear HO_8; clear HO_9; clear HO_71; clear HB; have HO_5 := n0_; have HO_8 := n1_; have HO_9 := n2_; have HO_71 := n3_; have HO356 := n4_; have HB := n5_; clear n0_ n1_ n2_ n3_ n4_ n5_; (try clear hb); (try clear hb2); (try clear hk); (try clear hi); (try clear ho0); obtain ⟨Ao55, co55, eo55⟩ := Kd.R_slice HO356.out; subst eo55; have p357 : 0 ≤ ((rd t343 x73_3) : Int) := of_decide_eq_true (by first | (with_reducible assumption) | assumption); have q357 : (rd t343 x73_3) < (t354.length : Int) := of_decide_eq_true (by first | (with_reducible assumption) | assumption); obtain ⟨ad357, e357, hx357_0, hx357_1, hx357_2⟩ := at_T85 (Kd.R_reads' HO356.out).2.2 (rd t343 x73_3) p357 q357; cases e357; replace p357 := eq_true p357; replace q357 := eq_true q357) | ((with_reducible refine gate_callee (f := 51) rfl ?_); refine goesL_ (some 113) rfl rfl Try.func51 (by kernel_rfl) rfl #[.agg #[.int .i64 ((rd_T85 t354 (rd t343 x73_3)).f0), .int .i64 ((rd_T85 t354 (rd t343 x73_3)).f1), .int .i64 ((rd_T85 t354 (rd t343 x73_3)).f2)], .slice Ao36 t344.length co36] rfl (by (try simp only [List.map_toArray, List.map_cons, List.map_nil]); first | done | rfl | (simp only [List.length_drop, List.length_take]; rfl)) ?_; (with_reducible refine (ontimeref47_Window.calls kj40 ((rd_T85 t354 (rd t343 x73_3)).f0) ((rd_T85 t354 (rd t343 x73_3)).f1) ((rd_T85 t354 (rd t343 x73_3)).f2) _ _ t344 t358 _ ?side1 ?side2 A53.out).mono ?_); (case side1 => repeat (first | exact (Kd.R_reads' HO_9.out).2.2 | (with_reducible refine Kd.C_alloc ?_ _) | (with_reducible refine Kd.C_drewN ?_ _) | (with_reducible refine Kd.C_drew ?_))); (case side2 => exact (Kd.R_reads' HO_9.out).2.1); rintro e w56 ⟨rfl, hb⟩; refine ⟨_, rfl, ?_⟩; have n0_ := Aside0.mk (Kd.S_below (by (with_reducible repeat (first | apply Kd.S_alloc | apply Kd.S_drewN | apply Kd.S_drew)); exact HO_5.out) hb); have n1_ := Aside0.mk (Kd.R_below (by (with_reducible repeat (first | apply Kd.R_alloc | apply Kd.R_drewN | apply Kd.R_drew)); exact HO_8.out) hb); have n2_ := Aside0.mk (Kd.R_below (by (with_reducible repeat (first | apply Kd.R_alloc | apply Kd.R_drewN | apply Kd.R_drew)); exact HO_9.out) hb); have n3_ := Aside0.mk (Kd.R_below (by (with_reducible repeat (first | apply Kd.R_alloc | apply Kd.R_drewN | apply Kd.R_drew)); exact HO_71.out) hb); have n4_ := Aside0.mk (Kd.R_below (by (with_reducible repeat (first | apply Kd.R_alloc | apply Kd.R_drewN | apply Kd.R_drew)); exact HO356.out) hb); have n5_ := Aside0.mk (below_step (by repeat (first | (with_reducible first | exact HB.out | apply below_alloc | apply pw_below_drewN | apply below_drew1) | exact HB.out)) hb); clear HO_5; clear HO_8; clear HO_9; clear HO_71; clear HO356; clear HB; have HO_5 := n0_; have HO_8 := n1_; have HO_9 := n2_; have HO_71 := n3_; have HO356 := n4_; have HB := n5_; clear n0_ n1_ n2_ n3_ n4_ n5_; (try clear hb); (try clear hb2); (try clear hk); (try clear hi)))
                   go_roundg kj40
                   case measure => have := HJ2.out; have := HJ17.out; have := HK3.out; have := HJ40.out; omega
                   case rel => exact ⟨(wrap64 (x11_3 + ((rd_T83 l0 (rd t343 x73_3)).f2))), (wrap64 (x12_3 + t358)), (wrap64 (x73_3 + 1)), (by first | rfl | (simp; done) | (simp [*]; done)), (by first | rfl | (simp; done) | (simp [*]; done)), (by first | rfl | (simp; done) | (simp [*]; done)), H', ⟨by have := HJ2.out; have := HJ17.out; have := HK3.out; have := HJ40.out; omega⟩, ⟨by (with_reducible repeat (first | apply Kd.S_alloc | apply Kd.S_drewN | apply Kd.S_drew)); exact HO_5.out⟩, ⟨by (with_reducible repeat (first | apply Kd.R_alloc | apply Kd.R_drewN | apply Kd.R_drew)); exact HO_8.out⟩, ⟨by (with_reducible repeat (first | apply Kd.R_alloc | apply Kd.R_drewN | apply Kd.R_drew)); exact HO_9.out⟩, ⟨by (with_reducible repeat (first | apply Kd.R_alloc | apply Kd.R_drewN | apply Kd.R_drew)); exact HO_71.out⟩, ⟨by repeat (first | (with_reducible first | exact HB.out | apply below_alloc | apply pw_below_drewN | apply below_drew1) | exact HB.out)⟩⟩
                  ·rw [if_neg c52] at H
                   exact absurd H (by simp)
                 ·rw [if_neg c50] at H
                  exact absurd H (by simp)
                ·rw [if_neg c49] at H
                 exact absurd H (by simp)
            ·rw [if_neg c40] at H
             exact absurd H (by simp)
           ·rw [if_neg c39] at H
            exact absurd H (by simp)
          ·rw [if_neg c38] at H
           have c38b0 : decide (x73_3 < (t343.length : Int)) = false := decide_eq_false c38
           clear c38
           have H' := Aside0.mk H
           clear H
           go_wp2
           go_loopg [118] k3 (fun kq v118 w' => ∃ (x118_4 : Int), v118 = .int .i64 x118_4 ∧ Aside0 (ontimelaw47_FlowSchedules.l1 kq t338 t344 x11_3 x12_3 t344 (t344.length : Int) x118_4 = some r) ∧ Aside0 (kq ≤ k3) ∧ Aside0 (Kd.S (Kd.slice 3 (Kd.int .i64)) 55 w' w.heap.size (fun k_ => some k_ ≠ ((.slice Ao36 t344.length co36) : Value).ownBlock ∧ some k_ ≠ ((.slice Ao36 t344.length co36) : Value).ownBlock) v341 t338) ∧ Aside0 (Kd.R (Kd.int .i64) 3 w' w.heap.size (fun _ => True) (.slice Ao36 t344.length co36) t344) ∧ Aside0 (Kd.R (Kd.int .i64) 3 w' w.heap.size (fun _ => True) (.slice Ao36 t344.length co36) t344) ∧ Aside0 (Below w.heap.size w w'))
           case atStart => exact ⟨(0), (by first | rfl | (simp; done) | (simp [*]; done)), H', ⟨Nat.le_refl _⟩, ⟨by (with_reducible repeat (first | apply Kd.S_alloc | apply Kd.S_drewN | apply Kd.S_drew)); exact Kd.S_mono HO_5.out (fun _ hk => ⟨hk.2.1, hk.2.1⟩)⟩, ⟨by (with_reducible repeat (first | apply Kd.R_alloc | apply Kd.R_drewN | apply Kd.R_drew)); exact Kd.R_mono HO_9.out (fun _ hk => trivial)⟩, ⟨by (with_reducible repeat (first | apply Kd.R_alloc | apply Kd.R_drewN | apply Kd.R_drew)); exact Kd.R_mono HO_9.out (fun _ hk => trivial)⟩, ⟨by repeat (first | (with_reducible first | exact HB.out | apply below_alloc | apply pw_below_drewN | apply below_drew1) | exact HB.out)⟩⟩
           case round =>
            clear H'
            try clear c1
            try clear c2
            try clear p2
            try clear c3
            try clear p3
            try clear q3
            try clear hx3
            try clear c4
            try clear c5
            try clear p6
            try clear c7
            try clear c13
            try clear c16
            try clear c21
            try clear c21b0
            try clear c21b1
            try clear c22
            try clear c23
            try clear c25
            try clear c26
            try clear c26b0
            try clear c26b1
            try clear c26b2
            try clear p35
            try clear q35
            try clear hx35
            try clear c38
            try clear c38b0
            try clear c39
            try clear c39b0
            try clear c40
            try clear c40b0
            try clear c41
            try clear c42
            try clear c42b0
            try clear c43
            try clear c43b0
            try clear c44
            try clear c44b0
            try clear c46
            try clear c46b0
            try clear c47
            try clear c47b0
            try clear c48
            try clear c49
            try clear c49b0
            try clear c50
            try clear c50b0
            try clear c51
            try clear c52
            try clear c52b0
            try clear hx351_0
            try clear hx352_0
            try clear hx353_0
            try clear hx353_1
            try clear hx353_2
            try clear hx357_0
            try clear hx357_1
            try clear hx357_2
            try clear p2
            try clear p3
            try clear p35
            try clear p351
            try clear p352
            try clear p353
            try clear p357
            try clear p6
            try clear q3
            try clear q35
            try clear q351
            try clear q352
            try clear q353
            try clear q357
            obtain ⟨x118_4, rfl, HA, HK4, HO_5, HO_9, HO_116, HB⟩ := hrel
            cases gk with
            | zero => exact absurd HA.out (by simp [ontimelaw47_FlowSchedules.l1])
            | succ k4 =>
             have H := HA.out
             clear HA
             simp only [ontimelaw47_FlowSchedules.l1] at H
             by_cases c57 : x118_4 < (t344.length : Int)
             ·rw [if_pos c57] at H
              have c57b0 : decide (x118_4 < (t344.length : Int)) = true := decide_eq_true c57
              clear c57
              by_cases c58 : 0 ≤ x118_4
              ·rw [if_pos c58] at H
               have c58b0 : decide (0 ≤ x118_4) = true := decide_eq_true c58
               clear c58
               by_cases c59 : x118_4 < (t344.length : Int)
               ·rw [if_pos c59] at H
                have c59b0 : decide (x118_4 < (t344.length : Int)) = true := decide_eq_true c59
                clear c59
                by_cases c60 : (rd t344 x118_4) < 0
                ·rw [if_pos c60] at H
                 have c60b0 : decide ((rd t344 x118_4) < 0) = true := decide_eq_true c60
                 clear c60
                 obtain rfl := Option.some.inj H
                 have p359 : 0 ≤ (x118_4 : Int) := of_decide_eq_true (by first | (with_reducible assumption) | assumption)
                 have q359 : x118_4 < (t344.length : Int) := of_decide_eq_true (by first | (with_reducible assumption) | assumption)
                 obtain ⟨ad359, e359, hx359_0⟩ := Kd.at_int (Kd.R_reads' HO_116.out).2.2 x118_4 p359 q359
                 cases e359
                 replace p359 := eq_true p359
                 replace q359 := eq_true q359
                 go_wp2
                 go_ret
                 exact ⟨by first | rfl | (simp [errW_none, errW_some] <;> rfl) | (simp [*, errW_none, errW_some] <;> rfl), by repeat (first | (with_reducible first | exact HB.out | apply below_alloc | apply pw_below_drewN | apply below_drew1) | exact HB.out)⟩
                ·rw [if_neg c60] at H
                 have c60b0 : decide ((rd t344 x118_4) < 0) = false := decide_eq_false c60
                 clear c60
                 by_cases c61 : (rd t344 x118_4) ≥ 200
                 ·rw [if_pos c61] at H
                  have c61b0 : decide (200 ≤ (rd t344 x118_4)) = true := decide_eq_true c61
                  clear c61
                  obtain rfl := Option.some.inj H
                  have p359 : 0 ≤ (x118_4 : Int) := of_decide_eq_true (by first | (with_reducible assumption) | assumption)
                  have q359 : x118_4 < (t344.length : Int) := of_decide_eq_true (by first | (with_reducible assumption) | assumption)
                  obtain ⟨ad359, e359, hx359_0⟩ := Kd.at_int (Kd.R_reads' HO_116.out).2.2 x118_4 p359 q359
                  cases e359
                  replace p359 := eq_true p359
                  replace q359 := eq_true q359
                  go_wp2
                  go_ret
                  exact ⟨by first | rfl | (simp [errW_none, errW_some] <;> rfl) | (simp [*, errW_none, errW_some] <;> rfl), by repeat (first | (with_reducible first | exact HB.out | apply below_alloc | apply pw_below_drewN | apply below_drew1) | exact HB.out)⟩
                 ·rw [if_neg c61] at H
                  have c61b0 : decide (200 ≤ (rd t344 x118_4)) = false := decide_eq_false c61
                  clear c61
                  by_cases c62 : x118_4 > 0
                  ·rw [if_pos c62] at H
                   have c62b0 : decide (0 < x118_4) = true := decide_eq_true c62
                   clear c62
                   obtain ⟨ji63, hji63⟩ : ∃ j_ : Int, (wrap64 (x118_4 - 1)) = j_ := ⟨_, rfl⟩
                   replace H : (if 0 ≤ (ji63) then (if (ji63) < (t344.length : Int) then (if (rd t344 (ji63)) ≥ (rd t344 x118_4) then (some false) else (ontimelaw47_FlowSchedules.l1 k4 t338 t344 x11_3 x12_3 t344 (t344.length : Int) (wrap64 (x118_4 + 1)))) else (none)) else (none)) = some r := by first | (rw [hji63] at H; exact H) | (simp only [hji63] at H ⊢; exact H)
                   have hji63w : (IntKind.i64.wrap (x118_4 - 1)) = ji63 := (i64_w _).trans hji63
                   by_cases c64 : 0 ≤ (ji63)
                   ·rw [if_pos c64] at H
                    have c64b0 : decide (0 ≤ (ji63)) = true := decide_eq_true c64
                    clear c64
                    by_cases c65 : (ji63) < (t344.length : Int)
                    ·rw [if_pos c65] at H
                     have c65b0 : decide ((ji63) < (t344.length : Int)) = true := decide_eq_true c65
                     clear c65
                     by_cases c66 : (rd t344 (ji63)) ≥ (rd t344 x118_4)
                     ·rw [if_pos c66] at H
                      have c66b0 : decide ((rd t344 x118_4) ≤ (rd t344 (ji63))) = true := decide_eq_true c66
                      clear c66
                      obtain rfl := Option.some.inj H
                      have p359 : 0 ≤ (x118_4 : Int) := of_decide_eq_true (by first | (with_reducible assumption) | assumption)
                      have q359 : x118_4 < (t344.length : Int) := of_decide_eq_true (by first | (with_reducible assumption) | assumption)
                      obtain ⟨ad359, e359, hx359_0⟩ := Kd.at_int (Kd.R_reads' HO_116.out).2.2 x118_4 p359 q359
                      cases e359
                      replace p359 := eq_true p359
                      replace q359 := eq_true q359
                      have p360 : 0 ≤ ((ji63) : Int) := of_decide_eq_true (by first | (with_reducible assumption) | assumption)
                      have q360 : (ji63) < (t344.length : Int) := of_decide_eq_true (by first | (with_reducible assumption) | assumption)
                      obtain ⟨ad360, e360, hx360_0⟩ := Kd.at_int (Kd.R_reads' HO_9.out).2.2 (ji63) p360 q360
                      obtain rfl : ad359 = ad360 := (by injection e360)
                      replace p360 := eq_true p360
                      replace q360 := eq_true q360
                      go_wp2
                      go_ret
                      exact ⟨by first | rfl | (simp [errW_none, errW_some] <;> rfl) | (simp only [← hji63]; first | rfl | (simp [errW_none, errW_some] <;> rfl)) | (simp [*, errW_none, errW_some] <;> rfl), by repeat (first | (with_reducible first | exact HB.out | apply below_alloc | apply pw_below_drewN | apply below_drew1) | exact HB.out)⟩
                     ·rw [if_neg c66] at H
                      have c66b0 : decide ((rd t344 x118_4) ≤ (rd t344 (ji63))) = false := decide_eq_false c66
                      clear c66
                      have H' := Aside0.mk H
                      clear H
                      have p359 : 0 ≤ (x118_4 : Int) := of_decide_eq_true (by first | (with_reducible assumption) | assumption)
                      have q359 : x118_4 < (t344.length : Int) := of_decide_eq_true (by first | (with_reducible assumption) | assumption)
                      obtain ⟨ad359, e359, hx359_0⟩ := Kd.at_int (Kd.R_reads' HO_116.out).2.2 x118_4 p359 q359
                      cases e359
                      replace p359 := eq_true p359
                      replace q359 := eq_true q359
                      have p360 : 0 ≤ ((ji63) : Int) := of_decide_eq_true (by first | (with_reducible assumption) | assumption)
                      have q360 : (ji63) < (t344.length : Int) := of_decide_eq_true (by first | (with_reducible assumption) | assumption)
                      obtain ⟨ad360, e360, hx360_0⟩ := Kd.at_int (Kd.R_reads' HO_9.out).2.2 (ji63) p360 q360
                      obtain rfl : ad359 = ad360 := (by injection e360)
                      replace p360 := eq_true p360
                      replace q360 := eq_true q360
                      go_wp2
                      go_roundg k4
                      case measure => have := HJ2.out; have := HJ17.out; have := HK3.out; have := HK4.out; omega
                      case rel => exact ⟨(wrap64 (x118_4 + 1)), (by first | rfl | (simp; done) | (simp [*]; done)), H', ⟨by have := HJ2.out; have := HJ17.out; have := HK3.out; have := HK4.out; omega⟩, ⟨by (with_reducible repeat (first | apply Kd.S_alloc | apply Kd.S_drewN | apply Kd.S_drew)); exact HO_5.out⟩, ⟨by (with_reducible repeat (first | apply Kd.R_alloc | apply Kd.R_drewN | apply Kd.R_drew)); exact HO_9.out⟩, ⟨by (with_reducible repeat (first | apply Kd.R_alloc | apply Kd.R_drewN | apply Kd.R_drew)); exact HO_116.out⟩, ⟨by repeat (first | (with_reducible first | exact HB.out | apply below_alloc | apply pw_below_drewN | apply below_drew1) | exact HB.out)⟩⟩
                    ·rw [if_neg c65] at H
                     exact absurd H (by simp)
                   ·rw [if_neg c64] at H
                    exact absurd H (by simp)
                  ·rw [if_neg c62] at H
                   have c62b0 : decide (0 < x118_4) = false := decide_eq_false c62
                   clear c62
                   have H' := Aside0.mk H
                   clear H
                   have p359 : 0 ≤ (x118_4 : Int) := of_decide_eq_true (by first | (with_reducible assumption) | assumption)
                   have q359 : x118_4 < (t344.length : Int) := of_decide_eq_true (by first | (with_reducible assumption) | assumption)
                   obtain ⟨ad359, e359, hx359_0⟩ := Kd.at_int (Kd.R_reads' HO_116.out).2.2 x118_4 p359 q359
                   cases e359
                   replace p359 := eq_true p359
                   replace q359 := eq_true q359
                   go_wp2
                   go_roundg k4
                   case measure => have := HJ2.out; have := HJ17.out; have := HK3.out; have := HK4.out; omega
                   case rel => exact ⟨(wrap64 (x118_4 + 1)), (by first | rfl | (simp; done) | (simp [*]; done)), H', ⟨by have := HJ2.out; have := HJ17.out; have := HK3.out; have := HK4.out; omega⟩, ⟨by (with_reducible repeat (first | apply Kd.S_alloc | apply Kd.S_drewN | apply Kd.S_drew)); exact HO_5.out⟩, ⟨by (with_reducible repeat (first | apply Kd.R_alloc | apply Kd.R_drewN | apply Kd.R_drew)); exact HO_9.out⟩, ⟨by (with_reducible repeat (first | apply Kd.R_alloc | apply Kd.R_drewN | apply Kd.R_drew)); exact HO_116.out⟩, ⟨by repeat (first | (with_reducible first | exact HB.out | apply below_alloc | apply pw_below_drewN | apply below_drew1) | exact HB.out)⟩⟩
               ·rw [if_neg c59] at H
                exact absurd H (by simp)
              ·rw [if_neg c58] at H
               exact absurd H (by simp)
             ·rw [if_neg c57] at H
              have c57b0 : decide (x118_4 < (t344.length : Int)) = false := decide_eq_false c57
              clear c57
              by_cases c67 : (t338.length : Int) = 0
              ·rw [if_pos c67] at H
               have c67b0 : ((t338.length : Int) == 0) = true := beq_iff_eq.mpr c67
               have c67b1 : ((t338.length : Int) != 0) = false := bne_eq_false_iff_eq.mpr c67
               clear c67
               obtain rfl := Option.some.inj H
               obtain ⟨Ao68, co68, eo68⟩ := Kd.S_slice HO_5.out
               subst eo68
               go_wp2
               go_ret
               exact ⟨by first | rfl | (simp [errW_none, errW_some] <;> rfl) | (simp [*, errW_none, errW_some] <;> rfl), by repeat (first | (with_reducible first | exact HB.out | apply below_alloc | apply pw_below_drewN | apply below_drew1) | exact HB.out)⟩
              ·rw [if_neg c67] at H
               have c67b0 : ((t338.length : Int) == 0) = false := beq_eq_false_iff_ne.mpr c67
               have c67b1 : ((t338.length : Int) != 0) = true := bne_iff_ne.mpr c67
               have c67b2 : ¬ (t338 = []) := fun h_ => c67 (by rw [h_]; rfl)
               obtain rfl := Option.some.inj H
               obtain ⟨Ao69, co69, eo69⟩ := Kd.S_slice HO_5.out
               subst eo69
               go_wp2
               go_ret
               exact ⟨by first | rfl | (simp [errW_none, errW_some] <;> rfl) | (simp [*, errW_none, errW_some] <;> rfl), by repeat (first | (with_reducible first | exact HB.out | apply below_alloc | apply pw_below_drewN | apply below_drew1) | exact HB.out)⟩

/-- The pure statement of ontimelaw47_FlowSchedules. -/
def ontimelaw47_FlowSchedules.Pure : Prop := ∀ (l0 : List (S83)) (a1 : Int), l0.length ≤ maxLen → (Lit.int .i64 a1).wf = true → ∃ k, ontimelaw47_FlowSchedules.f k l0 a1 = some true
theorem ontimelaw47_FlowSchedules.walk (P : ontimelaw47_FlowSchedules.Pure) (A0 : Option Addr) (c0 : Nat) (l0 : List (S83)) (a1 : Int) (w : World) (hr0 : Kd.C k83 w A0 l0.length l0) (hc0 : l0.length ≤ c0) (hm0 : l0.length ≤ maxLen) (hw1 : (Lit.int .i64 a1).wf = true) :
  Calls Try.prog 16 #[.slice A0 l0.length c0, .int .i64 a1] w fun e w' => e = .returned (.bool true) ∧ Below w.heap.size w w' := by
 obtain ⟨k, h⟩ := P l0 a1 hm0 hw1
 refine (ontimelaw47_FlowSchedules.calls k A0 c0 l0 a1 true w hr0 hc0 h).mono ?_
 rintro e w' ⟨rfl, hd⟩
 exact ⟨rfl, hd⟩

end Go.Proofs.Ythdjhgidccmlfaa.P
