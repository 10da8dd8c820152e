/- Written by xprint.py: functions, proofs of contracts. -/
import Derived.Test.YthdjhgidccmlfaaPx0
import Derived.Test.YthdjhgidccmlfaaPx7
import Derived.Test.YthdjhgidccmlfaaPx9
import Derived.Test.YthdjhgidccmlfaaXSchedule
import Derived.Test.YthdjhgidccmlfaaXAwake
import Derived.Test.YthdjhgidccmlfaaXFits
namespace Go.Proofs.Ythdjhgidccmlfaa.P
open Go.RowKit Go.Proofs.YthdjhgidccmlfaaW.PrintWords Go.Proofs.YthdjhgidccmlfaaW.PrintLast Go.Proofs.YthdjhgidccmlfaaW.PrintMore
attribute [local go_sem] max2_int min2_int max_two min_two max_three min_three max_four min_four   -- for this text's walks alone
set_option linter.unusedVariables false
set_option linter.unusedSimpArgs false

-- NOT PRINTED: function 75 (ontimeref47_choose)

/-! ### ontimelaw47_FlowFits: function 17 -/
mutual
def ontimelaw47_FlowFits.j0 : Nat → List (S83) → Int → Bool → Option (Bool)
 | 0, _, _, _ => none
 | k + 1, x0, x1, x22 => if x22 = true then ((ontimelaw47_awake.f).bind fun t363 => (some t363)) else (ontimelaw47_FlowFits.l0 k x0 x1 x0 (x0.length : Int) 0)
def ontimelaw47_FlowFits.l0 : Nat → List (S83) → Int → List (S83) → Int → Int → Option (Bool)
 | 0, _, _, _, _, _ => none
 | k + 1, x0, x1, x24, x25, x26 => if x26 < x25 then (if 0 ≤ x26 then (if x26 < (x24.length : Int) then (if ((rd_T83 x24 x26).f1) > 6 then (some true) else (if ((rd_T83 x24 x26).f2) > 7 then (some true) else (ontimelaw47_FlowFits.l0 k x0 x1 x24 x25 (wrap64 (x26 + 1))))) else (none)) else (none)) else ((flow_Schedule.f k x0 x1).bind fun bt366 => (if bt366.2.2 = 0 then ((ontimelaw47_plain.f k x0).bind fun t371 => ((ontimeref47_Fits.f k t371 x1 0 6).bind fun t374 => (some (bt366.2.1 == t374)))) else (some false)))
end
def ontimelaw47_FlowFits.f (k : Nat) (l0 : List (S83)) (a1 : Int) : Option (Bool) := (ontimelaw47_awake.f).bind fun t361 => (if t361 = true then ((ontimelaw47_valid.f k l0 a1).bind fun t362 => (if t362 = true then (ontimelaw47_FlowFits.j0 k l0 a1 (decide ((l0.length : Int) > 4))) else (ontimelaw47_FlowFits.j0 k l0 a1 true))) else (ontimelaw47_FlowFits.j0 k l0 a1 true))
theorem ontimelaw47_FlowFits.mono_l : ∀ k, (∀ y0 y1 y2, LeO (ontimelaw47_FlowFits.j0 k y0 y1 y2) (ontimelaw47_FlowFits.j0 (k + 1) y0 y1 y2)) ∧ (∀ y0 y1 y2 y3 y4, LeO (ontimelaw47_FlowFits.l0 k y0 y1 y2 y3 y4) (ontimelaw47_FlowFits.l0 (k + 1) y0 y1 y2 y3 y4))
 | 0 => ⟨fun _ _ _ r h => by simp [ontimelaw47_FlowFits.j0] at h, fun _ _ _ _ _ r h => by simp [ontimelaw47_FlowFits.l0] at h⟩
 | k + 1 => by
  obtain ⟨ih0, ih1⟩ := ontimelaw47_FlowFits.mono_l k
  refine ⟨?_, ?_⟩
  ·intro y0 y1 y2
   unfold ontimelaw47_FlowFits.j0
   repeat' first
   | (with_reducible exact ih0 _ _ _)
   | (with_reducible exact ih1 _ _ _ _ _)
   | (with_reducible exact flow_Schedule.mono _ _ _)
   | (with_reducible exact ontimelaw47_plain.mono _ _)
   | (with_reducible exact ontimelaw47_valid.mono _ _ _)
   | (with_reducible exact ontimeref47_Fits.mono _ _ _ _ _)
   | (with_reducible exact LeO.refl _)
   | (with_reducible exact LeO.none _)
   | (with_reducible refine LeO.ite ?_ ?_)
   | (with_reducible refine LeO.bind ?_ (fun _ => ?_))
   | exact ih0 _ _ _
   | exact ih1 _ _ _ _ _
   | exact flow_Schedule.mono _ _ _
   | exact ontimelaw47_plain.mono _ _
   | exact ontimelaw47_valid.mono _ _ _
   | exact ontimeref47_Fits.mono _ _ _ _ _
   | exact LeO.none _
   | refine LeO.ite ?_ ?_
   | refine LeO.bind ?_ (fun _ => ?_)
  ·intro y0 y1 y2 y3 y4
   unfold ontimelaw47_FlowFits.l0
   repeat' first
   | (with_reducible exact ih0 _ _ _)
   | (with_reducible exact ih1 _ _ _ _ _)
   | (with_reducible exact flow_Schedule.mono _ _ _)
   | (with_reducible exact ontimelaw47_plain.mono _ _)
   | (with_reducible exact ontimelaw47_valid.mono _ _ _)
   | (with_reducible exact ontimeref47_Fits.mono _ _ _ _ _)
   | (with_reducible exact LeO.refl _)
   | (with_reducible exact LeO.none _)
   | (with_reducible refine LeO.ite ?_ ?_)
   | (with_reducible refine LeO.bind ?_ (fun _ => ?_))
   | exact ih0 _ _ _
   | exact ih1 _ _ _ _ _
   | exact flow_Schedule.mono _ _ _
   | exact ontimelaw47_plain.mono _ _
   | exact ontimelaw47_valid.mono _ _ _
   | exact ontimeref47_Fits.mono _ _ _ _ _
   | exact LeO.none _
   | refine LeO.ite ?_ ?_
   | refine LeO.bind ?_ (fun _ => ?_)
theorem ontimelaw47_FlowFits.mono : ∀ a0 a1 k, LeO (ontimelaw47_FlowFits.f k a0 a1) (ontimelaw47_FlowFits.f (k + 1) a0 a1) := by
 intro a0 a1 k
 obtain ⟨ih0, ih1⟩ := ontimelaw47_FlowFits.mono_l k
 unfold ontimelaw47_FlowFits.f
 repeat' first
   | (with_reducible exact ih0 _ _ _)
   | (with_reducible exact ih1 _ _ _ _ _)
   | (with_reducible exact flow_Schedule.mono _ _ _)
   | (with_reducible exact ontimelaw47_plain.mono _ _)
   | (with_reducible exact ontimelaw47_valid.mono _ _ _)
   | (with_reducible exact ontimeref47_Fits.mono _ _ _ _ _)
   | (with_reducible exact LeO.refl _)
   | (with_reducible exact LeO.none _)
   | (with_reducible refine LeO.ite ?_ ?_)
   | (with_reducible refine LeO.bind ?_ (fun _ => ?_))
   | exact ih0 _ _ _
   | exact ih1 _ _ _ _ _
   | exact flow_Schedule.mono _ _ _
   | exact ontimelaw47_plain.mono _ _
   | exact ontimelaw47_valid.mono _ _ _
   | exact ontimeref47_Fits.mono _ _ _ _ _
   | exact LeO.none _
   | refine LeO.ite ?_ ?_
   | refine LeO.bind ?_ (fun _ => ?_)
set_option maxHeartbeats 8000000 in
set_option maxRecDepth 100000 in
theorem ontimelaw47_FlowFits.calls (k : Nat) (A0 : Option Addr) (c0 : Nat) (l0 : List (S83)) (a1 : Int) (r : Bool) (w : World) (hr0 : Kd.C k83 w A0 l0.length l0) (hc0 : l0.length ≤ c0) (h : ontimelaw47_FlowFits.f k l0 a1 = some r) :
  Calls Try.prog 17 #[.slice A0 l0.length c0, .int .i64 a1] w fun e w' => e = .returned (.bool r) ∧ Below w.heap.size w w' := by
 have hu83 := Try.underlying83
 have HR0 := Aside0.mk hr0
 have HC0 := Aside0.mk hc0
 clear hr0 hc0
 have HB := Aside0.mk (Below.refl w.heap.size w)
 have H : ((ontimelaw47_awake.f).bind fun t361 => (if t361 = true then ((ontimelaw47_valid.f k l0 a1).bind fun t362 => (if t362 = true then (ontimelaw47_FlowFits.j0 k l0 a1 (decide ((l0.length : Int) > 4))) else (ontimelaw47_FlowFits.j0 k l0 a1 true))) else (ontimelaw47_FlowFits.j0 k l0 a1 true))) = some r := h
 clear h
 have HC3 := Aside0.mk H
 clear H
 go_enter Try.func17, Try.ntmps17
 go_upto_region 1 with (fail)
 go_cut [22] (fun v22 wc => ∃ (kq : Nat) (x22_2 : Bool), v22 = .bool x22_2 ∧ Aside0 (ontimelaw47_FlowFits.j0 kq l0 a1 x22_2 = some r) ∧ Aside0 (kq ≤ k) ∧ Aside0 (Below w.heap.size w wc))
 case first =>
  have H := HC3.out
  clear HC3
  replace H := Option.bind_eq_some_iff.mp H
  obtain ⟨t361, A40, H⟩ := H
  replace H : (if t361 = true then ((ontimelaw47_valid.f k l0 a1).bind fun t362 => (if t362 = true then (ontimelaw47_FlowFits.j0 k l0 a1 (decide ((l0.length : Int) > 4))) else (ontimelaw47_FlowFits.j0 k l0 a1 true))) else (ontimelaw47_FlowFits.j0 k l0 a1 true)) = some r := H
  have A4 := Aside0.mk A40
  clear A40
  by_cases c5 : t361 = true
  ·subst c5
   have H1 : ((ontimelaw47_valid.f k l0 a1).bind fun t362 => (if t362 = true then (ontimelaw47_FlowFits.j0 k l0 a1 (decide ((l0.length : Int) > 4))) else (ontimelaw47_FlowFits.j0 k l0 a1 true))) = some r := by rw [if_pos rfl] at H; exact H
   clear H
   have H := H1
   clear H1
   replace H := Option.bind_eq_some_iff.mp H
   obtain ⟨t362, A60, H⟩ := H
   replace H : (if t362 = true then (ontimelaw47_FlowFits.j0 k l0 a1 (decide ((l0.length : Int) > 4))) else (ontimelaw47_FlowFits.j0 k l0 a1 true)) = some r := H
   have A6 := Aside0.mk A60
   clear A60
   by_cases c7 : t362 = true
   ·subst c7
    have H1 : (ontimelaw47_FlowFits.j0 k l0 a1 (decide ((l0.length : Int) > 4))) = some r := by rw [if_pos rfl] at H; exact H
    clear H
    have H := H1
    clear H1
    have H' := Aside0.mk H
    clear H
    go_wp2_with (first | ((with_reducible refine gate_callee (f := 41) rfl ?_); refine goesL_ (some 10) rfl rfl Try.func41 (by kernel_rfl) rfl #[] rfl (by (try simp only [List.map_toArray, List.map_cons, List.map_nil]); first | done | rfl | (simp only [List.length_drop, List.length_take]; rfl)) ?_; (with_reducible refine (ontimelaw47_awake.calls  true _ A4.out).mono ?_); rintro e w8 ⟨rfl, hb⟩; refine ⟨_, rfl, ?_⟩; have n0_ := Aside0.mk (below_step (by repeat (first | (with_reducible first | exact HB.out | apply below_alloc | apply pw_below_drewN | apply below_drew1) | exact HB.out)) hb); clear HB; have HB := n0_; clear n0_; (try clear hb); (try clear hb2); (try clear hk); (try clear hi)) | (go_at_call 48; (with_reducible refine (ontimelaw47_valid.calls k _ _ l0 a1 true _ ?side1 ?side2 A6.out).mono ?_); (case side1 => repeat (first | exact (Kd.C_below HR0.out HB.out) | (with_reducible refine Kd.C_alloc ?_ _) | (with_reducible refine Kd.C_drewN ?_ _) | (with_reducible refine Kd.C_drew ?_))); (case side2 => exact HC0.out); rintro e w9 ⟨rfl, hb⟩; have n0_ := Aside0.mk (below_step (by repeat (first | (with_reducible first | exact HB.out | apply below_alloc | apply pw_below_drewN | apply below_drew1) | exact HB.out)) hb); clear HB; have HB := n0_; clear n0_; (try clear hb); (try clear hb2); (try clear hk); (try clear hi)))
    go_meet
    case rel => exact ⟨_, (decide ((l0.length : Int) > 4)), (by first | rfl | (simp; done) | (simp [*]; done)), H', ⟨by first | omega | exact Nat.le_refl _⟩, ⟨by repeat (first | (with_reducible first | exact HB.out | apply below_alloc | apply pw_below_drewN | apply below_drew1) | exact HB.out)⟩⟩
   ·replace c7 := Bool.eq_false_iff.mpr c7
    subst c7
    have H1 : (ontimelaw47_FlowFits.j0 k l0 a1 true) = some r := by rw [if_neg (show ¬ (false = true) by decide)] at H; exact H
    clear H
    have H := H1
    clear H1
    have H' := Aside0.mk H
    clear H
    go_wp2_with (first | ((with_reducible refine gate_callee (f := 41) rfl ?_); refine goesL_ (some 10) rfl rfl Try.func41 (by kernel_rfl) rfl #[] rfl (by (try simp only [List.map_toArray, List.map_cons, List.map_nil]); first | done | rfl | (simp only [List.length_drop, List.length_take]; rfl)) ?_; (with_reducible refine (ontimelaw47_awake.calls  true _ A4.out).mono ?_); rintro e w10 ⟨rfl, hb⟩; refine ⟨_, rfl, ?_⟩; have n0_ := Aside0.mk (below_step (by repeat (first | (with_reducible first | exact HB.out | apply below_alloc | apply pw_below_drewN | apply below_drew1) | exact HB.out)) hb); clear HB; have HB := n0_; clear n0_; (try clear hb); (try clear hb2); (try clear hk); (try clear hi)) | (go_at_call 48; (with_reducible refine (ontimelaw47_valid.calls k _ _ l0 a1 false _ ?side1 ?side2 A6.out).mono ?_); (case side1 => repeat (first | exact (Kd.C_below HR0.out HB.out) | (with_reducible refine Kd.C_alloc ?_ _) | (with_reducible refine Kd.C_drewN ?_ _) | (with_reducible refine Kd.C_drew ?_))); (case side2 => exact HC0.out); rintro e w11 ⟨rfl, hb⟩; have n0_ := Aside0.mk (below_step (by repeat (first | (with_reducible first | exact HB.out | apply below_alloc | apply pw_below_drewN | apply below_drew1) | exact HB.out)) hb); clear HB; have HB := n0_; clear n0_; (try clear hb); (try clear hb2); (try clear hk); (try clear hi)))
    go_meet
    case rel => exact ⟨_, (true), (by first | rfl | (simp; done) | (simp [*]; done)), H', ⟨by first | omega | exact Nat.le_refl _⟩, ⟨by repeat (first | (with_reducible first | exact HB.out | apply below_alloc | apply pw_below_drewN | apply below_drew1) | exact HB.out)⟩⟩
  ·replace c5 := Bool.eq_false_iff.mpr c5
   subst c5
   have H1 : (ontimelaw47_FlowFits.j0 k l0 a1 true) = some r := by rw [if_neg (show ¬ (false = true) by decide)] at H; exact H
   clear H
   have H := H1
   clear H1
   have H' := Aside0.mk H
   clear H
   go_wp2_with (first | ((with_reducible refine gate_callee (f := 41) rfl ?_); refine goesL_ (some 10) rfl rfl Try.func41 (by kernel_rfl) rfl #[] rfl (by (try simp only [List.map_toArray, List.map_cons, List.map_nil]); first | done | rfl | (simp only [List.length_drop, List.length_take]; rfl)) ?_; (with_reducible refine (ontimelaw47_awake.calls  false _ A4.out).mono ?_); rintro e w12 ⟨rfl, hb⟩; refine ⟨_, rfl, ?_⟩; have n0_ := Aside0.mk (below_step (by repeat (first | (with_reducible first | exact HB.out | apply below_alloc | apply pw_below_drewN | apply below_drew1) | exact HB.out)) hb); clear HB; have HB := n0_; clear n0_; (try clear hb); (try clear hb2); (try clear hk); (try clear hi)))
   go_meet
   case rel => exact ⟨_, (true), (by first | rfl | (simp; done) | (simp [*]; done)), H', ⟨by first | omega | exact Nat.le_refl _⟩, ⟨by repeat (first | (with_reducible first | exact HB.out | apply below_alloc | apply pw_below_drewN | apply below_drew1) | exact HB.out)⟩⟩
 case rest =>
  clear HC3
  try clear c1
  try clear p2
  try clear c4
  try clear c5
  try clear c7
  obtain ⟨kq, x22_2, rfl, HA, HJ2, HB⟩ := hcut
  cases kq with
  | zero => exact absurd HA.out (by simp [ontimelaw47_FlowFits.j0])
  | succ kj2 =>
   have H := HA.out
   clear HA
   simp only [ontimelaw47_FlowFits.j0] at H
   by_cases c13 : x22_2 = true
   ·subst c13
    have H1 : ((ontimelaw47_awake.f).bind fun t363 => (some t363)) = some r := by rw [if_pos rfl] at H; exact H
    clear H
    have H := H1
    clear H1
    replace H := Option.bind_eq_some_iff.mp H
    obtain ⟨t363, A140, H⟩ := H
    replace H : (some t363) = some r := H
    have A14 := Aside0.mk A140
    clear A140
    obtain rfl := Option.some.inj H
    go_wp2_with (first | ((with_reducible refine gate_callee (f := 41) rfl ?_); refine goesL_ (some 23) rfl rfl Try.func41 (by kernel_rfl) rfl #[] rfl (by (try simp only [List.map_toArray, List.map_cons, List.map_nil]); first | done | rfl | (simp only [List.length_drop, List.length_take]; rfl)) ?_; (with_reducible refine (ontimelaw47_awake.calls  t363 _ A14.out).mono ?_); rintro e w15 ⟨rfl, hb⟩; refine ⟨_, rfl, ?_⟩; have n0_ := Aside0.mk (below_step (by repeat (first | (with_reducible first | exact HB.out | apply below_alloc | apply pw_below_drewN | apply below_drew1) | exact HB.out)) hb); clear HB; have HB := n0_; clear n0_; (try clear hb); (try clear hb2); (try clear hk); (try clear hi)))
    go_ret
    exact ⟨by first | rfl | (simp [errW_none, errW_some] <;> rfl) | (simp [*, errW_none, errW_some] <;> rfl), by repeat (first | (with_reducible first | exact HB.out | apply below_alloc | apply pw_below_drewN | apply below_drew1) | exact HB.out)⟩
   ·replace c13 := Bool.eq_false_iff.mpr c13
    subst c13
    have H1 : (ontimelaw47_FlowFits.l0 kj2 l0 a1 l0 (l0.length : Int) 0) = some r := by rw [if_neg (show ¬ (false = true) by decide)] at H; exact H
    clear H
    have H := H1
    clear H1
    have H' := Aside0.mk H
    clear H
    go_wp2
    go_loopg [26] kj2 (fun kq v26 w' => ∃ (x26_2 : Int), v26 = .int .i64 x26_2 ∧ Aside0 (ontimelaw47_FlowFits.l0 kq l0 a1 l0 (l0.length : Int) x26_2 = some r) ∧ Aside0 (kq ≤ kj2) ∧ Aside0 (Below w.heap.size w w'))
    case atStart => exact ⟨(0), (by first | rfl | (simp; done) | (simp [*]; done)), H', ⟨Nat.le_refl _⟩, ⟨by repeat (first | (with_reducible first | exact HB.out | apply below_alloc | apply pw_below_drewN | apply below_drew1) | exact HB.out)⟩⟩
    case round =>
     clear H'
     try clear c1
     try clear p2
     try clear c4
     try clear c5
     try clear c7
     try clear c13
     try clear p2
     obtain ⟨x26_2, rfl, HA, HK2, HB⟩ := hrel
     cases gk with
     | zero => exact absurd HA.out (by simp [ontimelaw47_FlowFits.l0])
     | succ k2 =>
      have H := HA.out
      clear HA
      simp only [ontimelaw47_FlowFits.l0] at H
      by_cases c16 : x26_2 < (l0.length : Int)
      ·rw [if_pos c16] at H
       have c16b0 : decide (x26_2 < (l0.length : Int)) = true := decide_eq_true c16
       clear c16
       by_cases c17 : 0 ≤ x26_2
       ·rw [if_pos c17] at H
        have c17b0 : decide (0 ≤ x26_2) = true := decide_eq_true c17
        clear c17
        by_cases c18 : x26_2 < (l0.length : Int)
        ·rw [if_pos c18] at H
         have c18b0 : decide (x26_2 < (l0.length : Int)) = true := decide_eq_true c18
         clear c18
         by_cases c19 : ((rd_T83 l0 x26_2).f1) > 6
         ·rw [if_pos c19] at H
          have c19b0 : decide (6 < ((rd_T83 l0 x26_2).f1)) = true := decide_eq_true c19
          clear c19
          obtain rfl := Option.some.inj H
          have p364 : 0 ≤ (x26_2 : Int) := of_decide_eq_true (by first | (with_reducible assumption) | assumption)
          have q364 : x26_2 < (l0.length : Int) := of_decide_eq_true (by first | (with_reducible assumption) | assumption)
          obtain ⟨ad364, e364, hx364_0, hx364_1, hx364_2⟩ := at_T83 HR0.out x26_2 p364 q364
          cases e364
          replace hx364_0 := (HB.out.cell (World.block_lt_of_cell? w _ hx364_0)).trans hx364_0
          replace hx364_1 := (HB.out.cell (World.block_lt_of_cell? w _ hx364_1)).trans hx364_1
          replace hx364_2 := (HB.out.cell (World.block_lt_of_cell? w _ hx364_2)).trans hx364_2
          replace p364 := eq_true p364
          replace q364 := eq_true q364
          go_wp2_with (first | ((with_reducible refine gate_dst (N := 6) rfl ?_); (try (refine gate_guard (by rfl) ?_; dsimp only)); refine box_event ?hg (N := 6) ?hd (cs := #[.int .i64 0, .int .i64 0, .int .i64 0]) (t := 83) ?hr ?_; (case hd => rfl); (case hg => rfl); (case hr => first | (go_simp; done) | (go_simp; rfl)); intro gb365 hg w20 hbox hb; have n0_ := Aside0.mk (below_step (by repeat (first | (with_reducible first | exact HB.out | apply below_alloc | apply pw_below_drewN | apply below_drew1) | exact HB.out)) hb); have n1_ := Aside0.mk (hbox); have n2_ := Aside0.mk ((by rw [hg]; exact (below_size (by repeat (first | (with_reducible first | exact HB.out | apply below_alloc | apply pw_below_drewN | apply below_drew1) | exact HB.out))) : w.heap.size ≤ gb365)); have n3_ := Aside0.mk ((by rw [hg]; exact (below_size (by repeat (first | (with_reducible first | exact HB.out | apply below_alloc | apply pw_below_drewN | apply below_drew1) | exact HB.out))) : w.heap.size ≤ gb365)); clear HB; have HB := n0_; have BK365 := n1_; have GW365 := n2_; have GE365 := n3_; clear n0_ n1_ n2_ n3_; clear hb hbox hg; have hcz21_0 : w20.cell? ⟨gb365, 0, none⟩ = some (.int .i64 0) := (blk_cell BK365.out 0).trans rfl; have hcz21_1 : w20.cell? ⟨gb365, 1, none⟩ = some (.int .i64 0) := (blk_cell BK365.out 1).trans rfl; have hcz21_2 : w20.cell? ⟨gb365, 2, none⟩ = some (.int .i64 0) := (blk_cell BK365.out 2).trans rfl; have hfz21_0 := blk_frozen BK365.out 0; have hfz21_1 := blk_frozen BK365.out 1; have hfz21_2 := blk_frozen BK365.out 2))
          go_ret
          exact ⟨by first | rfl | (simp [errW_none, errW_some] <;> rfl) | (simp [*, errW_none, errW_some] <;> rfl), by repeat (first | (with_reducible first | exact HB.out | apply below_alloc | apply pw_below_drewN | apply below_drew1 | refine below_set ?_ GE365.out) | exact HB.out)⟩
         ·rw [if_neg c19] at H
          have c19b0 : decide (6 < ((rd_T83 l0 x26_2).f1)) = false := decide_eq_false c19
          clear c19
          by_cases c22 : ((rd_T83 l0 x26_2).f2) > 7
          ·rw [if_pos c22] at H
           have c22b0 : decide (7 < ((rd_T83 l0 x26_2).f2)) = true := decide_eq_true c22
           clear c22
           obtain rfl := Option.some.inj H
           have p364 : 0 ≤ (x26_2 : Int) := of_decide_eq_true (by first | (with_reducible assumption) | assumption)
           have q364 : x26_2 < (l0.length : Int) := of_decide_eq_true (by first | (with_reducible assumption) | assumption)
           obtain ⟨ad364, e364, hx364_0, hx364_1, hx364_2⟩ := at_T83 HR0.out x26_2 p364 q364
           cases e364
           replace hx364_0 := (HB.out.cell (World.block_lt_of_cell? w _ hx364_0)).trans hx364_0
           replace hx364_1 := (HB.out.cell (World.block_lt_of_cell? w _ hx364_1)).trans hx364_1
           replace hx364_2 := (HB.out.cell (World.block_lt_of_cell? w _ hx364_2)).trans hx364_2
           replace p364 := eq_true p364
           replace q364 := eq_true q364
           go_wp2_with (first | ((with_reducible refine gate_dst (N := 6) rfl ?_); (try (refine gate_guard (by rfl) ?_; dsimp only)); refine box_event ?hg (N := 6) ?hd (cs := #[.int .i64 0, .int .i64 0, .int .i64 0]) (t := 83) ?hr ?_; (case hd => rfl); (case hg => rfl); (case hr => first | (go_simp; done) | (go_simp; rfl)); intro gb365 hg w23 hbox hb; have n0_ := Aside0.mk (below_step (by repeat (first | (with_reducible first | exact HB.out | apply below_alloc | apply pw_below_drewN | apply below_drew1) | exact HB.out)) hb); have n1_ := Aside0.mk (hbox); have n2_ := Aside0.mk ((by rw [hg]; exact (below_size (by repeat (first | (with_reducible first | exact HB.out | apply below_alloc | apply pw_below_drewN | apply below_drew1) | exact HB.out))) : w.heap.size ≤ gb365)); have n3_ := Aside0.mk ((by rw [hg]; exact (below_size (by repeat (first | (with_reducible first | exact HB.out | apply below_alloc | apply pw_below_drewN | apply below_drew1) | exact HB.out))) : w.heap.size ≤ gb365)); clear HB; have HB := n0_; have BK365 := n1_; have GW365 := n2_; have GE365 := n3_; clear n0_ n1_ n2_ n3_; clear hb hbox hg; have hcz24_0 : w23.cell? ⟨gb365, 0, none⟩ = some (.int .i64 0) := (blk_cell BK365.out 0).trans rfl; have hcz24_1 : w23.cell? ⟨gb365, 1, none⟩ = some (.int .i64 0) := (blk_cell BK365.out 1).trans rfl; have hcz24_2 : w23.cell? ⟨gb365, 2, none⟩ = some (.int .i64 0) := (blk_cell BK365.out 2).trans rfl; have hfz24_0 := blk_frozen BK365.out 0; have hfz24_1 := blk_frozen BK365.out 1; have hfz24_2 := blk_frozen BK365.out 2))
           go_ret
           exact ⟨by first | rfl | (simp [errW_none, errW_some] <;> rfl) | (simp [*, errW_none, errW_some] <;> rfl), by repeat (first | (with_reducible first | exact HB.out | apply below_alloc | apply pw_below_drewN | apply below_drew1 | refine below_set ?_ GE365.out) | exact HB.out)⟩
          ·rw [if_neg c22] at H
           have c22b0 : decide (7 < ((rd_T83 l0 x26_2).f2)) = false := decide_eq_false c22
           clear c22
           have H' := Aside0.mk H
           clear H
           have p364 : 0 ≤ (x26_2 : Int) := of_decide_eq_true (by first | (with_reducible assumption) | assumption)
           have q364 : x26_2 < (l0.length : Int) := of_decide_eq_true (by first | (with_reducible assumption) | assumption)
           obtain ⟨ad364, e364, hx364_0, hx364_1, hx364_2⟩ := at_T83 HR0.out x26_2 p364 q364
           cases e364
           replace hx364_0 := (HB.out.cell (World.block_lt_of_cell? w _ hx364_0)).trans hx364_0
           replace hx364_1 := (HB.out.cell (World.block_lt_of_cell? w _ hx364_1)).trans hx364_1
           replace hx364_2 := (HB.out.cell (World.block_lt_of_cell? w _ hx364_2)).trans hx364_2
           replace p364 := eq_true p364
           replace q364 := eq_true q364
           go_wp2_with (first | ((with_reducible refine gate_dst (N := 6) rfl ?_); (try (refine gate_guard (by rfl) ?_; dsimp only)); refine box_event ?hg (N := 6) ?hd (cs := #[.int .i64 0, .int .i64 0, .int .i64 0]) (t := 83) ?hr ?_; (case hd => rfl); (case hg => rfl); (case hr => first | (go_simp; done) | (go_simp; rfl)); intro gb365 hg w25 hbox hb; have n0_ := Aside0.mk (below_step (by repeat (first | (with_reducible first | exact HB.out | apply below_alloc | apply pw_below_drewN | apply below_drew1) | exact HB.out)) hb); have n1_ := Aside0.mk (hbox); have n2_ := Aside0.mk ((by rw [hg]; exact (below_size (by repeat (first | (with_reducible first | exact HB.out | apply below_alloc | apply pw_below_drewN | apply below_drew1) | exact HB.out))) : w.heap.size ≤ gb365)); have n3_ := Aside0.mk ((by rw [hg]; exact (below_size (by repeat (first | (with_reducible first | exact HB.out | apply below_alloc | apply pw_below_drewN | apply below_drew1) | exact HB.out))) : w.heap.size ≤ gb365)); clear HB; have HB := n0_; have BK365 := n1_; have GW365 := n2_; have GE365 := n3_; clear n0_ n1_ n2_ n3_; clear hb hbox hg; have hcz26_0 : w25.cell? ⟨gb365, 0, none⟩ = some (.int .i64 0) := (blk_cell BK365.out 0).trans rfl; have hcz26_1 : w25.cell? ⟨gb365, 1, none⟩ = some (.int .i64 0) := (blk_cell BK365.out 1).trans rfl; have hcz26_2 : w25.cell? ⟨gb365, 2, none⟩ = some (.int .i64 0) := (blk_cell BK365.out 2).trans rfl; have hfz26_0 := blk_frozen BK365.out 0; have hfz26_1 := blk_frozen BK365.out 1; have hfz26_2 := blk_frozen BK365.out 2))
           go_roundg k2
           case measure => have := HJ2.out; have := HK2.out; omega
           case rel => exact ⟨(wrap64 (x26_2 + 1)), (by first | rfl | (simp; done) | (simp [*]; done)), H', ⟨by have := HJ2.out; have := HK2.out; omega⟩, ⟨by repeat (first | (with_reducible first | exact HB.out | apply below_alloc | apply pw_below_drewN | apply below_drew1 | refine below_set ?_ GE365.out) | exact HB.out)⟩⟩
        ·rw [if_neg c18] at H
         exact absurd H (by simp)
       ·rw [if_neg c17] at H
        exact absurd H (by simp)
      ·rw [if_neg c16] at H
       have c16b0 : decide (x26_2 < (l0.length : Int)) = false := decide_eq_false c16
       clear c16
       replace H := Option.bind_eq_some_iff.mp H
       obtain ⟨⟨t366, t367, t368⟩, A270, H⟩ := H
       replace H : (if t368 = 0 then ((ontimelaw47_plain.f k2 l0).bind fun t371 => ((ontimeref47_Fits.f k2 t371 a1 0 6).bind fun t374 => (some (t367 == t374)))) else (some false)) = some r := H
       have A27 := Aside0.mk A270
       clear A270
       by_cases c28 : t368 = 0
       ·rw [if_pos c28] at H
        have c28b0 : (t368 == 0) = true := beq_iff_eq.mpr c28
        have c28b1 : (t368 != 0) = false := bne_eq_false_iff_eq.mpr c28
        clear c28
        replace H := Option.bind_eq_some_iff.mp H
        obtain ⟨t371, A290, H⟩ := H
        replace H : ((ontimeref47_Fits.f k2 t371 a1 0 6).bind fun t374 => (some (t367 == t374))) = some r := H
        have A29 := Aside0.mk A290
        clear A290
        replace H := Option.bind_eq_some_iff.mp H
        obtain ⟨t374, A300, H⟩ := H
        replace H : (some (t367 == t374)) = some r := H
        have A30 := Aside0.mk A300
        clear A300
        obtain rfl := Option.some.inj H
        go_wp2_with (first | ((with_reducible refine gate_callee (f := 43) rfl ?_); refine goesL_ (some 42) rfl rfl Try.func43 (by kernel_rfl) rfl #[.slice A0 l0.length c0, .int .i64 a1] rfl (by (try simp only [List.map_toArray, List.map_cons, List.map_nil]); first | done | rfl | (simp only [List.length_drop, List.length_take]; rfl)) ?_; (with_reducible refine (flow_Schedule.calls k2 _ _ l0 a1 t366 t367 t368 _ ?side1 ?side2 A27.out).mono ?_); (case side1 => repeat (first | exact (Kd.C_below HR0.out HB.out) | (with_reducible refine Kd.C_alloc ?_ _) | (with_reducible refine Kd.C_drewN ?_ _) | (with_reducible refine Kd.C_drew ?_))); (case side2 => exact HC0.out); rintro e w31 ⟨v369, rfl, ho0, hb⟩; refine ⟨_, rfl, ?_⟩; have n0_ := Aside0.mk (Kd.S_lower ho0 (below_size (by repeat (first | (with_reducible first | exact HB.out | apply below_alloc | apply pw_below_drewN | apply below_drew1) | exact HB.out)))); have n1_ := Aside0.mk (below_step (by repeat (first | (with_reducible first | exact HB.out | apply below_alloc | apply pw_below_drewN | apply below_drew1) | exact HB.out)) hb); clear HB; have HO370 := n0_; have HB := n1_; clear n0_ n1_; (try clear hb); (try clear hb2); (try clear hk); (try clear hi); (try clear ho0)) | (go_at_call 52; (with_reducible refine (ontimelaw47_plain.calls k2 _ _ l0 t371 _ ?side1 ?side2 A29.out).mono ?_); (case side1 => repeat (first | exact (Kd.C_below HR0.out HB.out) | (with_reducible refine Kd.C_alloc ?_ _) | (with_reducible refine Kd.C_drewN ?_ _) | (with_reducible refine Kd.C_drew ?_))); (case side2 => exact HC0.out); rintro e w32 ⟨v372, rfl, ho0, hb⟩; have n0_ := Aside0.mk (Kd.S_below (by (with_reducible repeat (first | apply Kd.S_alloc | apply Kd.S_drewN | apply Kd.S_drew)); exact HO370.out) hb); have n1_ := Aside0.mk (Kd.R_lower ho0 (below_size (by repeat (first | (with_reducible first | exact HB.out | apply below_alloc | apply pw_below_drewN | apply below_drew1) | exact HB.out)))); have n2_ := Aside0.mk (below_step (by repeat (first | (with_reducible first | exact HB.out | apply below_alloc | apply pw_below_drewN | apply below_drew1) | exact HB.out)) hb); clear HO370; clear HB; have HO370 := n0_; have HO373 := n1_; have HB := n2_; clear n0_ n1_ n2_; (try clear hb); (try clear hb2); (try clear hk); (try clear hi); (try clear ho0); obtain ⟨Ao33, co33, eo33⟩ := Kd.R_slice HO373.out; subst eo33) | (go_at_call 53; (with_reducible refine (ontimeref47_Fits.calls k2 _ _ t371 a1 0 6 t374 _ ?side1 ?side2 A30.out).mono ?_); (case side1 => repeat (first | exact (Kd.R_reads' HO373.out).2.2 | (with_reducible refine Kd.C_alloc ?_ _) | (with_reducible refine Kd.C_drewN ?_ _) | (with_reducible refine Kd.C_drew ?_))); (case side2 => exact (Kd.R_reads' HO373.out).2.1); rintro e w34 ⟨rfl, hb⟩; have n0_ := Aside0.mk (Kd.S_below (by (with_reducible repeat (first | apply Kd.S_alloc | apply Kd.S_drewN | apply Kd.S_drew)); exact HO370.out) hb); have n1_ := Aside0.mk (Kd.R_below (by (with_reducible repeat (first | apply Kd.R_alloc | apply Kd.R_drewN | apply Kd.R_drew)); exact HO373.out) hb); have n2_ := Aside0.mk (below_step (by repeat (first | (with_reducible first | exact HB.out | apply below_alloc | apply pw_below_drewN | apply below_drew1) | exact HB.out)) hb); clear HO370; clear HO373; clear HB; have HO370 := n0_; have HO373 := n1_; have HB := n2_; clear n0_ n1_ n2_; (try clear hb); (try clear hb2); (try clear hk); (try clear hi)))
        go_ret
        exact ⟨by first | rfl | (simp [errW_none, errW_some] <;> rfl) | (simp [*, errW_none, errW_some] <;> rfl), by repeat (first | (with_reducible first | exact HB.out | apply below_alloc | apply pw_below_drewN | apply below_drew1) | exact HB.out)⟩
       ·rw [if_neg c28] at H
        have c28b0 : (t368 == 0) = false := beq_eq_false_iff_ne.mpr c28
        have c28b1 : (t368 != 0) = true := bne_iff_ne.mpr c28
        obtain rfl := Option.some.inj H
        go_wp2_with (first | ((with_reducible refine gate_callee (f := 43) rfl ?_); refine goesL_ (some 42) rfl rfl Try.func43 (by kernel_rfl) rfl #[.slice A0 l0.length c0, .int .i64 a1] rfl (by (try simp only [List.map_toArray, List.map_cons, List.map_nil]); first | done | rfl | (simp only [List.length_drop, List.length_take]; rfl)) ?_; (with_reducible refine (flow_Schedule.calls k2 _ _ l0 a1 t366 t367 t368 _ ?side1 ?side2 A27.out).mono ?_); (case side1 => repeat (first | exact (Kd.C_below HR0.out HB.out) | (with_reducible refine Kd.C_alloc ?_ _) | (with_reducible refine Kd.C_drewN ?_ _) | (with_reducible refine Kd.C_drew ?_))); (case side2 => exact HC0.out); rintro e w35 ⟨v369, rfl, ho0, hb⟩; refine ⟨_, rfl, ?_⟩; have n0_ := Aside0.mk (Kd.S_lower ho0 (below_size (by repeat (first | (with_reducible first | exact HB.out | apply below_alloc | apply pw_below_drewN | apply below_drew1) | exact HB.out)))); have n1_ := Aside0.mk (below_step (by repeat (first | (with_reducible first | exact HB.out | apply below_alloc | apply pw_below_drewN | apply below_drew1) | exact HB.out)) hb); clear HB; have HO370 := n0_; have HB := n1_; clear n0_ n1_; (try clear hb); (try clear hb2); (try clear hk); (try clear hi); (try clear ho0)))
        go_ret
        exact ⟨by first | rfl | (simp [errW_none, errW_some] <;> rfl) | (simp [*, errW_none, errW_some] <;> rfl), by repeat (first | (with_reducible first | exact HB.out | apply below_alloc | apply pw_below_drewN | apply below_drew1) | exact HB.out)⟩

/-- The pure statement of ontimelaw47_FlowFits. -/
def ontimelaw47_FlowFits.Pure : Prop := ∀ (l0 : List (S83)) (a1 : Int), l0.length ≤ maxLen → (Lit.int .i64 a1).wf = true → ∃ k, ontimelaw47_FlowFits.f k l0 a1 = some true
theorem ontimelaw47_FlowFits.walk (P : ontimelaw47_FlowFits.Pure) (A0 : Option Addr) (c0 : Nat) (l0 : List (S83)) (a1 : Int) (w : World) (hr0 : Kd.C k83 w A0 l0.length l0) (hc0 : l0.length ≤ c0) (hm0 : l0.length ≤ maxLen) (hw1 : (Lit.int .i64 a1).wf = true) :
  Calls Try.prog 17 #[.slice A0 l0.length c0, .int .i64 a1] w fun e w' => e = .returned (.bool true) ∧ Below w.heap.size w w' := by
 obtain ⟨k, h⟩ := P l0 a1 hm0 hw1
 refine (ontimelaw47_FlowFits.calls k A0 c0 l0 a1 true w hr0 hc0 h).mono ?_
 rintro e w' ⟨rfl, hd⟩
 exact ⟨rfl, hd⟩

-- NOT PRINTED: function 18 (ontimelaw47_FlowEases)

end Go.Proofs.Ythdjhgidccmlfaa.P
