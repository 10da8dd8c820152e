/- Written by xprint.py: functions, proofs of contracts. -/
import Derived.Test.YthdjhgidccmlfaaPx0
namespace Go.Proofs.Ythdjhgidccmlfaa.P
open Go.RowKit Go.Proofs.YthdjhgidccmlfaaW.PrintWords Go.Proofs.YthdjhgidccmlfaaW.PrintLast Go.Proofs.YthdjhgidccmlfaaW.PrintMore
attribute [local go_sem] max2_int min2_int max_two min_two max_three min_three max_four min_four   -- for this text's walks alone
set_option linter.unusedVariables false
set_option linter.unusedSimpArgs false

/-! ### ontimelaw47_network: function 44 -/
mutual
def ontimelaw47_network.j0 : Nat → List (List Int) → Bool → Option (Bool)
 | 0, _, _ => none
 | k + 1, x0, x17 => if x17 = true then (some false) else (ontimelaw47_network.l0 k x0 x0 (x0.length : Int) 0)
def ontimelaw47_network.l0 : Nat → List (List Int) → List (List Int) → Int → Int → Option (Bool)
 | 0, _, _, _, _ => none
 | k + 1, x0, x18, x19, x20 => if x20 < x19 then (if 0 ≤ x20 then (if x20 < (x18.length : Int) then (if ((rd_L4 x18 x20).length : Int) = (x0.length : Int) then (if x20 < ((rd_L4 x18 x20).length : Int) then (ontimelaw47_network.j2 k x0 (rd_L4 x18 x20) x18 x19 x20 ((rd (rd_L4 x18 x20) x20) != 0)) else (none)) else (ontimelaw47_network.j2 k x0 (rd_L4 x18 x20) x18 x19 x20 true)) else (none)) else (none)) else (some true)
def ontimelaw47_network.j2 : Nat → List (List Int) → List Int → List (List Int) → Int → Int → Bool → Option (Bool)
 | 0, _, _, _, _, _, _ => none
 | k + 1, x0, x6, x18, x19, x20, x36 => if x36 = true then (some false) else (ontimelaw47_network.l1 k x0 x18 x19 x20 x6 (x6.length : Int) 0)
def ontimelaw47_network.l1 : Nat → List (List Int) → List (List Int) → Int → Int → List Int → Int → Int → Option (Bool)
 | 0, _, _, _, _, _, _, _ => none
 | k + 1, x0, x18, x19, x20, x37, x38, x39 => if x39 < x38 then (if 0 ≤ x39 then (if x39 < (x37.length : Int) then (if (rd x37 x39) < 0 then (some false) else (if (rd x37 x39) > 1073741824 then (some false) else (ontimelaw47_network.l1 k x0 x18 x19 x20 x37 x38 (wrap64 (x39 + 1))))) else (none)) else (none)) else (ontimelaw47_network.l0 k x0 x18 x19 (wrap64 (x20 + 1)))
end
def ontimelaw47_network.f (k : Nat) (l0 : List (List Int)) (a1 : Int) : Option (Bool) := if (l0.length : Int) < 2 then (ontimelaw47_network.j0 k l0 true) else (ontimelaw47_network.j0 k l0 (decide ((l0.length : Int) > a1)))
theorem ontimelaw47_network.mono_l : ∀ k, (∀ y0 y1, LeO (ontimelaw47_network.j0 k y0 y1) (ontimelaw47_network.j0 (k + 1) y0 y1)) ∧ (∀ y0 y1 y2 y3, LeO (ontimelaw47_network.l0 k y0 y1 y2 y3) (ontimelaw47_network.l0 (k + 1) y0 y1 y2 y3)) ∧ (∀ y0 y1 y2 y3 y4 y5, LeO (ontimelaw47_network.j2 k y0 y1 y2 y3 y4 y5) (ontimelaw47_network.j2 (k + 1) y0 y1 y2 y3 y4 y5)) ∧ (∀ y0 y1 y2 y3 y4 y5 y6, LeO (ontimelaw47_network.l1 k y0 y1 y2 y3 y4 y5 y6) (ontimelaw47_network.l1 (k + 1) y0 y1 y2 y3 y4 y5 y6))
 | 0 => ⟨fun _ _ r h => by simp [ontimelaw47_network.j0] at h, fun _ _ _ _ r h => by simp [ontimelaw47_network.l0] at h, fun _ _ _ _ _ _ r h => by simp [ontimelaw47_network.j2] at h, fun _ _ _ _ _ _ _ r h => by simp [ontimelaw47_network.l1] at h⟩
 | k + 1 => by
  obtain ⟨ih0, ih1, ih2, ih3⟩ := ontimelaw47_network.mono_l k
  refine ⟨?_, ?_, ?_, ?_⟩
  ·intro y0 y1
   unfold ontimelaw47_network.j0
   repeat' first
   | (with_reducible exact ih0 _ _)
   | (with_reducible exact ih1 _ _ _ _)
   | (with_reducible exact ih2 _ _ _ _ _ _)
   | (with_reducible exact ih3 _ _ _ _ _ _ _)
   | (with_reducible exact LeO.refl _)
   | (with_reducible exact LeO.none _)
   | (with_reducible refine LeO.ite ?_ ?_)
   | (with_reducible refine LeO.bind ?_ (fun _ => ?_))
   | exact ih0 _ _
   | exact ih1 _ _ _ _
   | exact ih2 _ _ _ _ _ _
   | exact ih3 _ _ _ _ _ _ _
   | exact LeO.none _
   | refine LeO.ite ?_ ?_
   | refine LeO.bind ?_ (fun _ => ?_)
  ·intro y0 y1 y2 y3
   unfold ontimelaw47_network.l0
   repeat' first
   | (with_reducible exact ih0 _ _)
   | (with_reducible exact ih1 _ _ _ _)
   | (with_reducible exact ih2 _ _ _ _ _ _)
   | (with_reducible exact ih3 _ _ _ _ _ _ _)
   | (with_reducible exact LeO.refl _)
   | (with_reducible exact LeO.none _)
   | (with_reducible refine LeO.ite ?_ ?_)
   | (with_reducible refine LeO.bind ?_ (fun _ => ?_))
   | exact ih0 _ _
   | exact ih1 _ _ _ _
   | exact ih2 _ _ _ _ _ _
   | exact ih3 _ _ _ _ _ _ _
   | exact LeO.none _
   | refine LeO.ite ?_ ?_
   | refine LeO.bind ?_ (fun _ => ?_)
  ·intro y0 y1 y2 y3 y4 y5
   unfold ontimelaw47_network.j2
   repeat' first
   | (with_reducible exact ih0 _ _)
   | (with_reducible exact ih1 _ _ _ _)
   | (with_reducible exact ih2 _ _ _ _ _ _)
   | (with_reducible exact ih3 _ _ _ _ _ _ _)
   | (with_reducible exact LeO.refl _)
   | (with_reducible exact LeO.none _)
   | (with_reducible refine LeO.ite ?_ ?_)
   | (with_reducible refine LeO.bind ?_ (fun _ => ?_))
   | exact ih0 _ _
   | exact ih1 _ _ _ _
   | exact ih2 _ _ _ _ _ _
   | exact ih3 _ _ _ _ _ _ _
   | exact LeO.none _
   | refine LeO.ite ?_ ?_
   | refine LeO.bind ?_ (fun _ => ?_)
  ·intro y0 y1 y2 y3 y4 y5 y6
   unfold ontimelaw47_network.l1
   repeat' first
   | (with_reducible exact ih0 _ _)
   | (with_reducible exact ih1 _ _ _ _)
   | (with_reducible exact ih2 _ _ _ _ _ _)
   | (with_reducible exact ih3 _ _ _ _ _ _ _)
   | (with_reducible exact LeO.refl _)
   | (with_reducible exact LeO.none _)
   | (with_reducible refine LeO.ite ?_ ?_)
   | (with_reducible refine LeO.bind ?_ (fun _ => ?_))
   | exact ih0 _ _
   | exact ih1 _ _ _ _
   | exact ih2 _ _ _ _ _ _
   | exact ih3 _ _ _ _ _ _ _
   | exact LeO.none _
   | refine LeO.ite ?_ ?_
   | refine LeO.bind ?_ (fun _ => ?_)
theorem ontimelaw47_network.mono : ∀ a0 a1 k, LeO (ontimelaw47_network.f k a0 a1) (ontimelaw47_network.f (k + 1) a0 a1) := by
 intro a0 a1 k
 obtain ⟨ih0, ih1, ih2, ih3⟩ := ontimelaw47_network.mono_l k
 unfold ontimelaw47_network.f
 repeat' first
   | (with_reducible exact ih0 _ _)
   | (with_reducible exact ih1 _ _ _ _)
   | (with_reducible exact ih2 _ _ _ _ _ _)
   | (with_reducible exact ih3 _ _ _ _ _ _ _)
   | (with_reducible exact LeO.refl _)
   | (with_reducible exact LeO.none _)
   | (with_reducible refine LeO.ite ?_ ?_)
   | (with_reducible refine LeO.bind ?_ (fun _ => ?_))
   | exact ih0 _ _
   | exact ih1 _ _ _ _
   | exact ih2 _ _ _ _ _ _
   | exact ih3 _ _ _ _ _ _ _
   | exact LeO.none _
   | refine LeO.ite ?_ ?_
   | refine LeO.bind ?_ (fun _ => ?_)
set_option maxHeartbeats 8000000 in
set_option maxRecDepth 100000 in
theorem ontimelaw47_network.calls (k : Nat) (A0 : Option Addr) (c0 : Nat) (l0 : List (List Int)) (a1 : Int) (r : Bool) (w : World) (hr0 : Kd.C (Kd.slice 3 (Kd.int .i64)) w A0 l0.length l0) (hc0 : l0.length ≤ c0) (h : ontimelaw47_network.f k l0 a1 = some r) :
  Calls Try.prog 44 #[.slice A0 l0.length c0, .int .i64 a1] w fun e w' => e = .returned (.bool r) ∧ Drawn0 w w' := by
 have HR0 := Aside0.mk hr0
 have HC0 := Aside0.mk hc0
 clear hr0 hc0
 have H : (if (l0.length : Int) < 2 then (ontimelaw47_network.j0 k l0 true) else (ontimelaw47_network.j0 k l0 (decide ((l0.length : Int) > a1)))) = some r := h
 clear h
 have HC3 := Aside0.mk H
 clear H
 go_enter Try.func44, Try.ntmps44
 go_upto_region 1 with (fail)
 go_cut [17] (fun v17 wc => ∃ (kq : Nat) (x17_2 : Bool), v17 = .bool x17_2 ∧ Aside0 (ontimelaw47_network.j0 kq l0 x17_2 = some r) ∧ Aside0 (kq ≤ k) ∧ Drawn0 w wc)
 case first =>
  have H := HC3.out
  clear HC3
  by_cases c4 : (l0.length : Int) < 2
  ·rw [if_pos c4] at H
   have c4b0 : decide ((l0.length : Int) < 2) = true := decide_eq_true c4
   have c4b1 : decide (l0.length < 2) = true := decide_eq_true (by omega)
   clear c4
   (first | rw [c4b0] | (simp only [i64_w, i32_w]; rw [c4b0]) | skip)
   have H' := Aside0.mk H
   clear H
   go_wp2
   go_meet
   case rel => exact ⟨_, (true), (by first | rfl | (simp; done) | (simp [*]; done)), H', ⟨by first | omega | exact Nat.le_refl _⟩, by repeat (first | exact Drawn0.refl _ | apply Drawn0.step)⟩
  ·rw [if_neg c4] at H
   have c4b0 : decide ((l0.length : Int) < 2) = false := decide_eq_false c4
   have c4b1 : decide (l0.length < 2) = false := decide_eq_false (by omega)
   clear c4
   (first | rw [c4b0] | (simp only [i64_w, i32_w]; rw [c4b0]) | skip)
   have H' := Aside0.mk H
   clear H
   go_wp2
   go_meet
   case rel => exact ⟨_, (decide ((l0.length : Int) > a1)), (by first | rfl | (simp; done) | (simp [*]; done)), H', ⟨by first | omega | exact Nat.le_refl _⟩, by repeat (first | exact Drawn0.refl _ | apply Drawn0.step)⟩
 case rest =>
  clear HC3
  try clear p2
  try clear c4
  try clear c4b0
  try clear c4b1
  obtain ⟨kq, x17_2, rfl, HA, HJ2, ⟨mc2, rfl⟩⟩ := hcut
  cases kq with
  | zero => exact absurd HA.out (by simp [ontimelaw47_network.j0])
  | succ kj2 =>
   have H := HA.out
   clear HA
   simp only [ontimelaw47_network.j0] at H
   by_cases c5 : x17_2 = true
   ·subst c5
    have H1 : (some false) = some r := by rw [if_pos rfl] at H; exact H
    clear H
    have H := H1
    clear H1
    obtain rfl := Option.some.inj H
    go_wp2
    go_ret
    exact ⟨by first | rfl | (simp; done) | (simp [*]; done), by repeat (first | exact Drawn0.refl _ | apply Drawn0.step)⟩
   ·replace c5 := Bool.eq_false_iff.mpr c5
    subst c5
    have H1 : (ontimelaw47_network.l0 kj2 l0 l0 (l0.length : Int) 0) = some r := by rw [if_neg (show ¬ (false = true) by decide)] at H; exact H
    clear H
    have H := H1
    clear H1
    have H' := Aside0.mk H
    clear H
    go_wp2
    go_loopg [20] kj2 (fun kq v20 w' => ∃ (x20_2 : Int), v20 = .int .i64 x20_2 ∧ Aside0 (ontimelaw47_network.l0 kq l0 l0 (l0.length : Int) x20_2 = some r) ∧ Aside0 (kq ≤ kj2) ∧ Drawn0 w w')
    case atStart => exact ⟨(0), (by first | rfl | (simp; done) | (simp [*]; done)), H', ⟨Nat.le_refl _⟩, by repeat (first | exact Drawn0.refl _ | apply Drawn0.step)⟩
    case round =>
     clear H'
     try clear c2
     try clear p2
     try clear c4
     try clear c4b0
     try clear c4b1
     try clear c5
     try clear p2
     obtain ⟨x20_2, rfl, HA, HK2, ⟨m2, rfl⟩⟩ := hrel
     cases gk with
     | zero => exact absurd HA.out (by simp [ontimelaw47_network.l0])
     | succ k2 =>
      have H := HA.out
      clear HA
      simp only [ontimelaw47_network.l0] at H
      by_cases c6 : x20_2 < (l0.length : Int)
      ·rw [if_pos c6] at H
       have c6b0 : decide (x20_2 < (l0.length : Int)) = true := decide_eq_true c6
       clear c6
       by_cases c7 : 0 ≤ x20_2
       ·rw [if_pos c7] at H
        have c7b0 : decide (0 ≤ x20_2) = true := decide_eq_true c7
        clear c7
        by_cases c8 : x20_2 < (l0.length : Int)
        ·rw [if_pos c8] at H
         have c8b0 : decide (x20_2 < (l0.length : Int)) = true := decide_eq_true c8
         clear c8
         have HC9 := Aside0.mk H
         clear H
         have p184 : 0 ≤ (x20_2 : Int) := of_decide_eq_true (by first | (with_reducible assumption) | assumption)
         have q184 : x20_2 < (l0.length : Int) := of_decide_eq_true (by first | (with_reducible assumption) | assumption)
         obtain ⟨ad184, A184_0, c184_0, e184, hx184_0, hl184_0, hi184_0⟩ := at_L4 HR0.out x20_2 p184 q184
         cases e184
         have HR184_0 := Aside0.mk hi184_0
         have HC184_0 := Aside0.mk hl184_0
         clear hi184_0 hl184_0
         replace p184 := eq_true p184
         replace q184 := eq_true q184
         go_upto_region 6 with (fail)
         go_cut [36] (fun v36 wc => ∃ (kq : Nat) (x36_8 : Bool), v36 = .bool x36_8 ∧ Aside0 (ontimelaw47_network.j2 kq l0 (rd_L4 l0 x20_2) l0 (l0.length : Int) x20_2 x36_8 = some r) ∧ Aside0 (kq ≤ k2) ∧ Drawn0 w wc)
         case first =>
          have H := HC9.out
          clear HC9
          by_cases c10 : ((rd_L4 l0 x20_2).length : Int) = (l0.length : Int)
          ·rw [if_pos c10] at H
           have c10b0 : (((rd_L4 l0 x20_2).length : Int) == (l0.length : Int)) = true := beq_iff_eq.mpr c10
           have c10b1 : (((rd_L4 l0 x20_2).length : Int) != (l0.length : Int)) = false := bne_eq_false_iff_eq.mpr c10
           have c10b2 : ((rd_L4 l0 x20_2).length == l0.length) = true := by first | simpa using c10 | (simp at c10 ⊢; omega)
           clear c10
           (first | rw [c10b0] | (simp only [i64_w, i32_w]; rw [c10b0]) | skip)
           by_cases c11 : x20_2 < ((rd_L4 l0 x20_2).length : Int)
           ·rw [if_pos c11] at H
            have c11b0 : decide (x20_2 < ((rd_L4 l0 x20_2).length : Int)) = true := decide_eq_true c11
            clear c11
            have H' := Aside0.mk H
            clear H
            have p185 : 0 ≤ (x20_2 : Int) := of_decide_eq_true (by first | (with_reducible assumption) | assumption)
            have q185 : x20_2 < ((rd_L4 l0 x20_2).length : Int) := of_decide_eq_true (by first | (with_reducible assumption) | assumption)
            obtain ⟨ad185, e185, hx185_0⟩ := Kd.at_int HR184_0.out x20_2 p185 q185
            cases e185
            replace p185 := eq_true p185
            replace q185 := eq_true q185
            go_wp2
            go_meet
            case rel => exact ⟨_, (((rd (rd_L4 l0 x20_2) x20_2) != 0)), (by first | rfl | (simp; done) | (simp [*]; done)), H', ⟨by have := HJ2.out; have := HK2.out; first | omega | exact Nat.le_refl _⟩, by repeat (first | exact Drawn0.refl _ | apply Drawn0.step)⟩
           ·rw [if_neg c11] at H
            exact absurd H (by simp)
          ·rw [if_neg c10] at H
           have c10b0 : (((rd_L4 l0 x20_2).length : Int) == (l0.length : Int)) = false := beq_eq_false_iff_ne.mpr c10
           have c10b1 : (((rd_L4 l0 x20_2).length : Int) != (l0.length : Int)) = true := bne_iff_ne.mpr c10
           have c10b2 : ((rd_L4 l0 x20_2).length == l0.length) = false := by first | simpa using c10 | (simp at c10 ⊢; omega)
           (first | rw [c10b0] | (simp only [i64_w, i32_w]; rw [c10b0]) | skip)
           have H' := Aside0.mk H
           clear H
           go_wp2
           go_meet
           case rel => exact ⟨_, (true), (by first | rfl | (simp; done) | (simp [*]; done)), H', ⟨by have := HJ2.out; have := HK2.out; first | omega | exact Nat.le_refl _⟩, by repeat (first | exact Drawn0.refl _ | apply Drawn0.step)⟩
         case rest =>
          clear HC9
          try clear c1
          try clear p1
          try clear q1
          try clear hx1
          try clear c2
          try clear p2
          try clear c4
          try clear c4b0
          try clear c4b1
          try clear c5
          try clear c6
          try clear c6b0
          try clear c7
          try clear c7b0
          try clear c8
          try clear c8b0
          try clear c10
          try clear c10b0
          try clear c10b1
          try clear c10b2
          try clear c11
          try clear c11b0
          try clear hx184_0
          try clear hx185_0
          try clear p184
          try clear p185
          try clear p2
          try clear q184
          try clear q185
          obtain ⟨kq, x36_8, rfl, HA, HJ8, ⟨mc8, rfl⟩⟩ := hcut
          cases kq with
          | zero => exact absurd HA.out (by simp [ontimelaw47_network.j2])
          | succ kj8 =>
           have H := HA.out
           clear HA
           simp only [ontimelaw47_network.j2] at H
           by_cases c12 : x36_8 = true
           ·subst c12
            have H1 : (some false) = some r := by rw [if_pos rfl] at H; exact H
            clear H
            have H := H1
            clear H1
            obtain rfl := Option.some.inj H
            go_wp2
            go_ret
            exact ⟨by first | rfl | (simp; done) | (simp [*]; done), by repeat (first | exact Drawn0.refl _ | apply Drawn0.step)⟩
           ·replace c12 := Bool.eq_false_iff.mpr c12
            subst c12
            have H1 : (ontimelaw47_network.l1 kj8 l0 l0 (l0.length : Int) x20_2 (rd_L4 l0 x20_2) ((rd_L4 l0 x20_2).length : Int) 0) = some r := by rw [if_neg (show ¬ (false = true) by decide)] at H; exact H
            clear H
            have H := H1
            clear H1
            have H' := Aside0.mk H
            clear H
            go_wp2
            go_loopg [39] kj8 (fun kq v39 w' => ∃ (x39_4 : Int), v39 = .int .i64 x39_4 ∧ Aside0 (ontimelaw47_network.l1 kq l0 l0 (l0.length : Int) x20_2 (rd_L4 l0 x20_2) ((rd_L4 l0 x20_2).length : Int) x39_4 = some r) ∧ Aside0 (kq ≤ kj8) ∧ Drawn0 w w')
            case atStart => exact ⟨(0), (by first | rfl | (simp; done) | (simp [*]; done)), H', ⟨Nat.le_refl _⟩, by repeat (first | exact Drawn0.refl _ | apply Drawn0.step)⟩
            case round =>
             clear H'
             try clear c1
             try clear p1
             try clear q1
             try clear hx1
             try clear c2
             try clear p2
             try clear c4
             try clear c4b0
             try clear c4b1
             try clear c5
             try clear c6
             try clear c6b0
             try clear c7
             try clear c7b0
             try clear c8
             try clear c8b0
             try clear c10
             try clear c10b0
             try clear c10b1
             try clear c10b2
             try clear c11
             try clear c11b0
             try clear c12
             try clear hx184_0
             try clear hx185_0
             try clear p1
             try clear p184
             try clear p185
             try clear p2
             try clear q1
             try clear q184
             try clear q185
             obtain ⟨x39_4, rfl, HA, HK4, ⟨m4, rfl⟩⟩ := hrel
             cases gk with
             | zero => exact absurd HA.out (by simp [ontimelaw47_network.l1])
             | succ k4 =>
              have H := HA.out
              clear HA
              simp only [ontimelaw47_network.l1] at H
              by_cases c13 : x39_4 < ((rd_L4 l0 x20_2).length : Int)
              ·rw [if_pos c13] at H
               have c13b0 : decide (x39_4 < ((rd_L4 l0 x20_2).length : Int)) = true := decide_eq_true c13
               clear c13
               by_cases c14 : 0 ≤ x39_4
               ·rw [if_pos c14] at H
                have c14b0 : decide (0 ≤ x39_4) = true := decide_eq_true c14
                clear c14
                by_cases c15 : x39_4 < ((rd_L4 l0 x20_2).length : Int)
                ·rw [if_pos c15] at H
                 have c15b0 : decide (x39_4 < ((rd_L4 l0 x20_2).length : Int)) = true := decide_eq_true c15
                 clear c15
                 by_cases c16 : (rd (rd_L4 l0 x20_2) x39_4) < 0
                 ·rw [if_pos c16] at H
                  have c16b0 : decide ((rd (rd_L4 l0 x20_2) x39_4) < 0) = true := decide_eq_true c16
                  clear c16
                  obtain rfl := Option.some.inj H
                  have p186 : 0 ≤ (x39_4 : Int) := of_decide_eq_true (by first | (with_reducible assumption) | assumption)
                  have q186 : x39_4 < ((rd_L4 l0 x20_2).length : Int) := of_decide_eq_true (by first | (with_reducible assumption) | assumption)
                  obtain ⟨ad186, e186, hx186_0⟩ := Kd.at_int HR184_0.out x39_4 p186 q186
                  cases e186
                  replace p186 := eq_true p186
                  replace q186 := eq_true q186
                  go_wp2
                  go_ret
                  exact ⟨by first | rfl | (simp; done) | (simp [*]; done), by repeat (first | exact Drawn0.refl _ | apply Drawn0.step)⟩
                 ·rw [if_neg c16] at H
                  have c16b0 : decide ((rd (rd_L4 l0 x20_2) x39_4) < 0) = false := decide_eq_false c16
                  clear c16
                  by_cases c17 : (rd (rd_L4 l0 x20_2) x39_4) > 1073741824
                  ·rw [if_pos c17] at H
                   have c17b0 : decide (1073741824 < (rd (rd_L4 l0 x20_2) x39_4)) = true := decide_eq_true c17
                   clear c17
                   obtain rfl := Option.some.inj H
                   have p186 : 0 ≤ (x39_4 : Int) := of_decide_eq_true (by first | (with_reducible assumption) | assumption)
                   have q186 : x39_4 < ((rd_L4 l0 x20_2).length : Int) := of_decide_eq_true (by first | (with_reducible assumption) | assumption)
                   obtain ⟨ad186, e186, hx186_0⟩ := Kd.at_int HR184_0.out x39_4 p186 q186
                   cases e186
                   replace p186 := eq_true p186
                   replace q186 := eq_true q186
                   go_wp2
                   go_ret
                   exact ⟨by first | rfl | (simp; done) | (simp [*]; done), by repeat (first | exact Drawn0.refl _ | apply Drawn0.step)⟩
                  ·rw [if_neg c17] at H
                   have c17b0 : decide (1073741824 < (rd (rd_L4 l0 x20_2) x39_4)) = false := decide_eq_false c17
                   clear c17
                   have H' := Aside0.mk H
                   clear H
                   have p186 : 0 ≤ (x39_4 : Int) := of_decide_eq_true (by first | (with_reducible assumption) | assumption)
                   have q186 : x39_4 < ((rd_L4 l0 x20_2).length : Int) := of_decide_eq_true (by first | (with_reducible assumption) | assumption)
                   obtain ⟨ad186, e186, hx186_0⟩ := Kd.at_int HR184_0.out x39_4 p186 q186
                   cases e186
                   replace p186 := eq_true p186
                   replace q186 := eq_true q186
                   go_wp2
                   go_roundg k4
                   case measure => have := HJ2.out; have := HK2.out; have := HJ8.out; have := HK4.out; omega
                   case rel => exact ⟨(wrap64 (x39_4 + 1)), (by first | rfl | (simp; done) | (simp [*]; done)), H', ⟨by have := HJ2.out; have := HK2.out; have := HJ8.out; have := HK4.out; omega⟩, by repeat (first | exact Drawn0.refl _ | apply Drawn0.step)⟩
                ·rw [if_neg c15] at H
                 exact absurd H (by simp)
               ·rw [if_neg c14] at H
                exact absurd H (by simp)
              ·rw [if_neg c13] at H
               have c13b0 : decide (x39_4 < ((rd_L4 l0 x20_2).length : Int)) = false := decide_eq_false c13
               clear c13
               have H' := Aside0.mk H
               clear H
               go_wp2
               go_roundg k4
               case measure => have := HJ2.out; have := HK2.out; have := HJ8.out; have := HK4.out; omega
               case rel => exact ⟨(wrap64 (x20_2 + 1)), (by first | rfl | (simp; done) | (simp [*]; done)), H', ⟨by have := HJ2.out; have := HK2.out; have := HJ8.out; have := HK4.out; omega⟩, by repeat (first | exact Drawn0.refl _ | apply Drawn0.step)⟩
        ·rw [if_neg c8] at H
         exact absurd H (by simp)
       ·rw [if_neg c7] at H
        exact absurd H (by simp)
      ·rw [if_neg c6] at H
       have c6b0 : decide (x20_2 < (l0.length : Int)) = false := decide_eq_false c6
       clear c6
       obtain rfl := Option.some.inj H
       go_wp2
       go_ret
       exact ⟨by first | rfl | (simp; done) | (simp [*]; done), by repeat (first | exact Drawn0.refl _ | apply Drawn0.step)⟩

/-! ### ontimelaw47_ends: function 45 -/
def ontimelaw47_ends.f (l0 : List (List Int)) (a1 : Int) (a2 : Int) : Option (Int × Int) := if (l0.length : Int) = 0 then (none) else (if (wrap64 ((l0.length : Int) - 1)) = 0 then (none) else (if (Int.tmod (wrap64 (a2)) (wrap64 ((l0.length : Int) - 1))) ≥ (Int.tmod (wrap64 (a1)) (l0.length : Int)) then (some (Int.tmod (wrap64 (a1)) (l0.length : Int), wrap64 ((Int.tmod (wrap64 (a2)) (wrap64 ((l0.length : Int) - 1))) + 1))) else (some (Int.tmod (wrap64 (a1)) (l0.length : Int), Int.tmod (wrap64 (a2)) (wrap64 ((l0.length : Int) - 1))))))
set_option maxHeartbeats 8000000 in
set_option maxRecDepth 100000 in
theorem ontimelaw47_ends.calls (A0 : Option Addr) (c0 : Nat) (l0 : List (List Int)) (a1 : Int) (a2 : Int) (r1 : Int) (r2 : Int) (w : World) (hr0 : Kd.C (Kd.slice 3 (Kd.int .i64)) w A0 l0.length l0) (hc0 : l0.length ≤ c0) (h : ontimelaw47_ends.f l0 a1 a2 = some (r1, r2)) :
  Calls Try.prog 45 #[.slice A0 l0.length c0, .int .u8 a1, .int .u8 a2] w fun e w' => e = .returned (.tuple #[.int .i64 r1, .int .i64 r2]) ∧ Drawn0 w w' := by
 have HR0 := Aside0.mk hr0
 have HC0 := Aside0.mk hc0
 clear hr0 hc0
 have H : (if (l0.length : Int) = 0 then (none) else (if (wrap64 ((l0.length : Int) - 1)) = 0 then (none) else (if (Int.tmod (wrap64 (a2)) (wrap64 ((l0.length : Int) - 1))) ≥ (Int.tmod (wrap64 (a1)) (l0.length : Int)) then (some (Int.tmod (wrap64 (a1)) (l0.length : Int), wrap64 ((Int.tmod (wrap64 (a2)) (wrap64 ((l0.length : Int) - 1))) + 1))) else (some (Int.tmod (wrap64 (a1)) (l0.length : Int), Int.tmod (wrap64 (a2)) (wrap64 ((l0.length : Int) - 1))))))) = some (r1, r2) := h
 clear h
 by_cases c4 : (l0.length : Int) = 0
 ·rw [if_pos c4] at H
  exact absurd H (by simp)
 ·rw [if_neg c4] at H
  have c4b0 : ((l0.length : Int) == 0) = false := beq_eq_false_iff_ne.mpr c4
  have c4b1 : ((l0.length : Int) != 0) = true := bne_iff_ne.mpr c4
  have c4b2 : ¬ (l0 = []) := fun h_ => c4 (by rw [h_]; rfl)
  by_cases c5 : (wrap64 ((l0.length : Int) - 1)) = 0
  ·rw [if_pos c5] at H
   exact absurd H (by simp)
  ·rw [if_neg c5] at H
   have c5b0 : ((wrap64 ((l0.length : Int) - 1)) == 0) = false := beq_eq_false_iff_ne.mpr c5
   have c5b1 : ((wrap64 ((l0.length : Int) - 1)) != 0) = true := bne_iff_ne.mpr c5
   by_cases c6 : (Int.tmod (wrap64 (a2)) (wrap64 ((l0.length : Int) - 1))) ≥ (Int.tmod (wrap64 (a1)) (l0.length : Int))
   ·rw [if_pos c6] at H
    have c6b0 : decide ((Int.tmod (wrap64 (a1)) (l0.length : Int)) ≤ (Int.tmod (wrap64 (a2)) (wrap64 ((l0.length : Int) - 1)))) = true := decide_eq_true c6
    clear c6
    simp only [Option.some.injEq, Prod.mk.injEq] at H
    obtain ⟨rfl, rfl⟩ := H
    go_enter Try.func45, Try.ntmps45
    go_wp2
    go_ret2
    exact ⟨by first | rfl | (simp; done) | (simp [*]; done), by repeat (first | exact Drawn0.refl _ | apply Drawn0.step)⟩
   ·rw [if_neg c6] at H
    have c6b0 : decide ((Int.tmod (wrap64 (a1)) (l0.length : Int)) ≤ (Int.tmod (wrap64 (a2)) (wrap64 ((l0.length : Int) - 1)))) = false := decide_eq_false c6
    clear c6
    simp only [Option.some.injEq, Prod.mk.injEq] at H
    obtain ⟨rfl, rfl⟩ := H
    go_enter Try.func45, Try.ntmps45
    go_wp2
    go_ret2
    exact ⟨by first | rfl | (simp; done) | (simp [*]; done), by repeat (first | exact Drawn0.refl _ | apply Drawn0.step)⟩

-- NOT PRINTED: function 12 (ontimelaw47_FlowIsMaximal)

/-! ### ontimeref47_pow: function 73 -/
def ontimeref47_pow.f (a0 : Int) : Option (Int) := if 0 ≤ a0 then (some (shl .i64 1 a0)) else (none)
set_option maxHeartbeats 8000000 in
set_option maxRecDepth 100000 in
theorem ontimeref47_pow.calls (a0 : Int) (r : Int) (w : World) (h : ontimeref47_pow.f a0 = some r) :
  Calls Try.prog 73 #[.int .i64 a0] w fun e w' => e = .returned (.int .i64 r) ∧ Drawn0 w w' := by
 have H : (if 0 ≤ a0 then (some (shl .i64 1 a0)) else (none)) = some r := h
 clear h
 by_cases c2 : 0 ≤ a0
 ·rw [if_pos c2] at H
  have c2b0 := eq_true c2
  have c2b1 : decide (0 ≤ a0) = true := decide_eq_true c2
  clear c2
  obtain ⟨ji3, hji3⟩ : ∃ j_ : Int, (shl .i64 1 a0) = j_ := ⟨_, rfl⟩
  replace H : (some ji3) = some r := by first | (rw [hji3] at H; exact H) | (simp only [hji3] at H ⊢; exact H)
  have hji3_ : (IntKind.i64.wrap (1 * 2 ^ min a0.toNat 64)) = ji3 := hji3
  have hji3z : a0 ≤ 64 → (IntKind.i64.wrap (1 * 2 ^ a0.toNat)) = ji3 := shl_small hji3
  have hji3u : (IntKind.i64.wrap (2 ^ min a0.toNat 64)) = ji3 := by have h_ := hji3_; rw [Int.one_mul] at h_; exact h_
  have hji3v : a0 ≤ 64 → (IntKind.i64.wrap (2 ^ a0.toNat)) = ji3 := fun hle_ => by have h_ := hji3z hle_; rw [Int.one_mul] at h_; exact h_
  have hji3y : (wrap64 (1 * 2 ^ min a0.toNat 64)) = ji3 := (i64_w _).symm.trans hji3_
  have hji3x : a0 ≤ 64 → (wrap64 (1 * 2 ^ a0.toNat)) = ji3 := fun h_ => (i64_w _).symm.trans (hji3z h_)
  obtain rfl := Option.some.inj H
  go_enter Try.func73, Try.ntmps73
  go_wp2
  go_ret
  exact ⟨by first | rfl | (simp; done) | (simp only [← hji3] <;> (first | rfl | simp)) | (simp [*]; done), by repeat (first | exact Drawn0.refl _ | apply Drawn0.step)⟩
 ·rw [if_neg c2] at H
  exact absurd H (by simp)

end Go.Proofs.Ythdjhgidccmlfaa.P
