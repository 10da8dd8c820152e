/- Written by xprint.py: functions, proofs of contracts. -/
import Derived.Test.YthdjhgidccmlfaaPx0
import Derived.Test.YthdjhgidccmlfaaPx5
import Derived.Test.YthdjhgidccmlfaaXMax
import Derived.Test.YthdjhgidccmlfaaXAwake
namespace Go.Proofs.Ythdjhgidccmlfaa.P
open Go.RowKit Go.Proofs.YthdjhgidccmlfaaW.PrintWords Go.Proofs.YthdjhgidccmlfaaW.PrintLast Go.Proofs.YthdjhgidccmlfaaW.PrintMore
attribute [local go_sem] max2_int min2_int max_two min_two max_three min_three max_four min_four   -- for this text's walks alone
set_option linter.unusedVariables false
set_option linter.unusedSimpArgs false

/-! ### ontimeref47_Cut: function 47 -/
mutual
def ontimeref47_Cut.l0 : Nat → List (List Int) → Int → Int → Int → Int → Int → Option (Int)
 | 0, _, _, _, _, _, _ => none
 | k + 1, x0, x1, x2, x7, x8, x9 => if 0 ≤ x7 then (if x9 < (shl .i64 1 x7) then ((ontimeref47_pow.f x1).bind fun t210 => (if t210 = 0 then (none) else (if (Int.tmod (wrap64 (Int.tdiv x9 t210)) 2) = 0 then (ontimeref47_Cut.j1 k x0 x1 x2 x7 x8 x9 true) else ((ontimeref47_pow.f x2).bind fun t211 => (if t211 = 0 then (none) else (ontimeref47_Cut.j1 k x0 x1 x2 x7 x8 x9 ((Int.tmod (wrap64 (Int.tdiv x9 t211)) 2) == 1))))))) else (some x8)) else (none)
def ontimeref47_Cut.j1 : Nat → List (List Int) → Int → Int → Int → Int → Int → Bool → Option (Int)
 | 0, _, _, _, _, _, _, _ => none
 | k + 1, x0, x1, x2, x7, x8, x9, x34 => if x34 = true then (ontimeref47_Cut.l0 k x0 x1 x2 x7 x8 (wrap64 (x9 + 1))) else (ontimeref47_Cut.l1 k x0 x1 x2 x7 x8 x9 0 0)
def ontimeref47_Cut.l1 : Nat → List (List Int) → Int → Int → Int → Int → Int → Int → Int → Option (Int)
 | 0, _, _, _, _, _, _, _, _ => none
 | k + 1, x0, x1, x2, x7, x8, x9, x10, x11 => if x11 < x7 then (ontimeref47_Cut.l2 k x0 x1 x2 x7 x8 x9 x10 x11 0) else (if x8 < 0 then (ontimeref47_Cut.l0 k x0 x1 x2 x7 x10 (wrap64 (x9 + 1))) else (if x10 < x8 then (ontimeref47_Cut.l0 k x0 x1 x2 x7 x10 (wrap64 (x9 + 1))) else (ontimeref47_Cut.l0 k x0 x1 x2 x7 x8 (wrap64 (x9 + 1)))))
def ontimeref47_Cut.l2 : Nat → List (List Int) → Int → Int → Int → Int → Int → Int → Int → Int → Option (Int)
 | 0, _, _, _, _, _, _, _, _, _ => none
 | k + 1, x0, x1, x2, x7, x8, x9, x10, x11, x12 => if x12 < x7 then ((ontimeref47_pow.f x11).bind fun t212 => (if t212 = 0 then (none) else (if (Int.tmod (wrap64 (Int.tdiv x9 t212)) 2) = 1 then ((ontimeref47_pow.f x12).bind fun t213 => (if t213 = 0 then (none) else (if (Int.tmod (wrap64 (Int.tdiv x9 t213)) 2) = 0 then (if 0 ≤ x11 then (if x11 < (x0.length : Int) then (if 0 ≤ x12 then (if x12 < ((rd_L4 x0 x11).length : Int) then (ontimeref47_Cut.l2 k x0 x1 x2 x7 x8 x9 (wrap64 (x10 + (rd (rd_L4 x0 x11) x12))) x11 (wrap64 (x12 + 1))) else (none)) else (none)) else (none)) else (none)) else (ontimeref47_Cut.l2 k x0 x1 x2 x7 x8 x9 x10 x11 (wrap64 (x12 + 1)))))) else (ontimeref47_Cut.l2 k x0 x1 x2 x7 x8 x9 x10 x11 (wrap64 (x12 + 1)))))) else (ontimeref47_Cut.l1 k x0 x1 x2 x7 x8 x9 x10 (wrap64 (x11 + 1)))
end
def ontimeref47_Cut.f (k : Nat) (l0 : List (List Int)) (a1 : Int) (a2 : Int) : Option (Int) := ontimeref47_Cut.l0 k l0 a1 a2 (l0.length : Int) (-1) 0
theorem ontimeref47_Cut.mono_l : ∀ k, (∀ y0 y1 y2 y3 y4 y5, LeO (ontimeref47_Cut.l0 k y0 y1 y2 y3 y4 y5) (ontimeref47_Cut.l0 (k + 1) y0 y1 y2 y3 y4 y5)) ∧ (∀ y0 y1 y2 y3 y4 y5 y6, LeO (ontimeref47_Cut.j1 k y0 y1 y2 y3 y4 y5 y6) (ontimeref47_Cut.j1 (k + 1) y0 y1 y2 y3 y4 y5 y6)) ∧ (∀ y0 y1 y2 y3 y4 y5 y6 y7, LeO (ontimeref47_Cut.l1 k y0 y1 y2 y3 y4 y5 y6 y7) (ontimeref47_Cut.l1 (k + 1) y0 y1 y2 y3 y4 y5 y6 y7)) ∧ (∀ y0 y1 y2 y3 y4 y5 y6 y7 y8, LeO (ontimeref47_Cut.l2 k y0 y1 y2 y3 y4 y5 y6 y7 y8) (ontimeref47_Cut.l2 (k + 1) y0 y1 y2 y3 y4 y5 y6 y7 y8))
 | 0 => ⟨fun _ _ _ _ _ _ r h => by simp [ontimeref47_Cut.l0] at h, fun _ _ _ _ _ _ _ r h => by simp [ontimeref47_Cut.j1] at h, fun _ _ _ _ _ _ _ _ r h => by simp [ontimeref47_Cut.l1] at h, fun _ _ _ _ _ _ _ _ _ r h => by simp [ontimeref47_Cut.l2] at h⟩
 | k + 1 => by
  obtain ⟨ih0, ih1, ih2, ih3⟩ := ontimeref47_Cut.mono_l k
  refine ⟨?_, ?_, ?_, ?_⟩
  ·intro y0 y1 y2 y3 y4 y5
   unfold ontimeref47_Cut.l0
   repeat' first
   | (with_reducible exact ih0 _ _ _ _ _ _)
   | (with_reducible exact ih1 _ _ _ _ _ _ _)
   | (with_reducible exact ih2 _ _ _ _ _ _ _ _)
   | (with_reducible exact ih3 _ _ _ _ _ _ _ _ _)
   | (with_reducible exact LeO.refl _)
   | (with_reducible exact LeO.none _)
   | (with_reducible refine LeO.ite ?_ ?_)
   | (with_reducible refine LeO.bind ?_ (fun _ => ?_))
   | exact ih0 _ _ _ _ _ _
   | exact ih1 _ _ _ _ _ _ _
   | exact ih2 _ _ _ _ _ _ _ _
   | exact ih3 _ _ _ _ _ _ _ _ _
   | exact LeO.none _
   | refine LeO.ite ?_ ?_
   | refine LeO.bind ?_ (fun _ => ?_)
  ·intro y0 y1 y2 y3 y4 y5 y6
   unfold ontimeref47_Cut.j1
   repeat' first
   | (with_reducible exact ih0 _ _ _ _ _ _)
   | (with_reducible exact ih1 _ _ _ _ _ _ _)
   | (with_reducible exact ih2 _ _ _ _ _ _ _ _)
   | (with_reducible exact ih3 _ _ _ _ _ _ _ _ _)
   | (with_reducible exact LeO.refl _)
   | (with_reducible exact LeO.none _)
   | (with_reducible refine LeO.ite ?_ ?_)
   | (with_reducible refine LeO.bind ?_ (fun _ => ?_))
   | exact ih0 _ _ _ _ _ _
   | exact ih1 _ _ _ _ _ _ _
   | exact ih2 _ _ _ _ _ _ _ _
   | exact ih3 _ _ _ _ _ _ _ _ _
   | exact LeO.none _
   | refine LeO.ite ?_ ?_
   | refine LeO.bind ?_ (fun _ => ?_)
  ·intro y0 y1 y2 y3 y4 y5 y6 y7
   unfold ontimeref47_Cut.l1
   repeat' first
   | (with_reducible exact ih0 _ _ _ _ _ _)
   | (with_reducible exact ih1 _ _ _ _ _ _ _)
   | (with_reducible exact ih2 _ _ _ _ _ _ _ _)
   | (with_reducible exact ih3 _ _ _ _ _ _ _ _ _)
   | (with_reducible exact LeO.refl _)
   | (with_reducible exact LeO.none _)
   | (with_reducible refine LeO.ite ?_ ?_)
   | (with_reducible refine LeO.bind ?_ (fun _ => ?_))
   | exact ih0 _ _ _ _ _ _
   | exact ih1 _ _ _ _ _ _ _
   | exact ih2 _ _ _ _ _ _ _ _
   | exact ih3 _ _ _ _ _ _ _ _ _
   | exact LeO.none _
   | refine LeO.ite ?_ ?_
   | refine LeO.bind ?_ (fun _ => ?_)
  ·intro y0 y1 y2 y3 y4 y5 y6 y7 y8
   unfold ontimeref47_Cut.l2
   repeat' first
   | (with_reducible exact ih0 _ _ _ _ _ _)
   | (with_reducible exact ih1 _ _ _ _ _ _ _)
   | (with_reducible exact ih2 _ _ _ _ _ _ _ _)
   | (with_reducible exact ih3 _ _ _ _ _ _ _ _ _)
   | (with_reducible exact LeO.refl _)
   | (with_reducible exact LeO.none _)
   | (with_reducible refine LeO.ite ?_ ?_)
   | (with_reducible refine LeO.bind ?_ (fun _ => ?_))
   | exact ih0 _ _ _ _ _ _
   | exact ih1 _ _ _ _ _ _ _
   | exact ih2 _ _ _ _ _ _ _ _
   | exact ih3 _ _ _ _ _ _ _ _ _
   | exact LeO.none _
   | refine LeO.ite ?_ ?_
   | refine LeO.bind ?_ (fun _ => ?_)
theorem ontimeref47_Cut.mono : ∀ a0 a1 a2 k, LeO (ontimeref47_Cut.f k a0 a1 a2) (ontimeref47_Cut.f (k + 1) a0 a1 a2) := by
 intro a0 a1 a2 k
 obtain ⟨ih0, ih1, ih2, ih3⟩ := ontimeref47_Cut.mono_l k
 unfold ontimeref47_Cut.f
 repeat' first
   | (with_reducible exact ih0 _ _ _ _ _ _)
   | (with_reducible exact ih1 _ _ _ _ _ _ _)
   | (with_reducible exact ih2 _ _ _ _ _ _ _ _)
   | (with_reducible exact ih3 _ _ _ _ _ _ _ _ _)
   | (with_reducible exact LeO.refl _)
   | (with_reducible exact LeO.none _)
   | (with_reducible refine LeO.ite ?_ ?_)
   | (with_reducible refine LeO.bind ?_ (fun _ => ?_))
   | exact ih0 _ _ _ _ _ _
   | exact ih1 _ _ _ _ _ _ _
   | exact ih2 _ _ _ _ _ _ _ _
   | exact ih3 _ _ _ _ _ _ _ _ _
   | exact LeO.none _
   | refine LeO.ite ?_ ?_
   | refine LeO.bind ?_ (fun _ => ?_)
set_option maxHeartbeats 8000000 in
set_option maxRecDepth 100000 in
theorem ontimeref47_Cut.calls (k : Nat) (A0 : Option Addr) (c0 : Nat) (l0 : List (List Int)) (a1 : Int) (a2 : Int) (r : Int) (w : World) (hr0 : Kd.C (Kd.slice 3 (Kd.int .i64)) w A0 l0.length l0) (hc0 : l0.length ≤ c0) (h : ontimeref47_Cut.f k l0 a1 a2 = some r) :
  Calls Try.prog 47 #[.slice A0 l0.length c0, .int .i64 a1, .int .i64 a2] w fun e w' => e = .returned (.int .i64 r) ∧ Drawn0 w w' := by
 have HR0 := Aside0.mk hr0
 have HC0 := Aside0.mk hc0
 clear hr0 hc0
 have H : (ontimeref47_Cut.l0 k l0 a1 a2 (l0.length : Int) (-1) 0) = some r := h
 clear h
 have H' := Aside0.mk H
 clear H
 go_enter Try.func47, Try.ntmps47
 go_wp2
 go_loopg [8, 9] k (fun kq v8 v9 w' => ∃ (x8_1 : Int) (x9_1 : Int), v8 = .int .i64 x8_1 ∧ v9 = .int .i64 x9_1 ∧ Aside0 (ontimeref47_Cut.l0 kq l0 a1 a2 (l0.length : Int) x8_1 x9_1 = some r) ∧ Aside0 (kq ≤ k) ∧ Drawn0 w w')
 case atStart => exact ⟨((-1)), (0), (by first | rfl | (simp; done) | (simp [*]; done)), (by first | rfl | (simp; done) | (simp [*]; done)), H', ⟨Nat.le_refl _⟩, by repeat (first | exact Drawn0.refl _ | apply Drawn0.step)⟩
 case round =>
  clear H'
  try clear p2
  obtain ⟨x8_1, x9_1, rfl, rfl, HA, HK1, ⟨m1, rfl⟩⟩ := hrel
  cases gk with
  | zero => exact absurd HA.out (by simp [ontimeref47_Cut.l0])
  | succ k1 =>
   have H := HA.out
   clear HA
   simp only [ontimeref47_Cut.l0] at H
   by_cases c4 : 0 ≤ (l0.length : Int)
   ·rw [if_pos c4] at H
    have c4b0 := eq_true c4
    have c4b1 : decide (0 ≤ (l0.length : Int)) = true := decide_eq_true c4
    clear c4
    obtain ⟨ji5, hji5⟩ : ∃ j_ : Int, (shl .i64 1 (l0.length : Int)) = j_ := ⟨_, rfl⟩
    replace H : (if x9_1 < (ji5) then ((ontimeref47_pow.f a1).bind fun t210 => (if t210 = 0 then (none) else (if (Int.tmod (wrap64 (Int.tdiv x9_1 t210)) 2) = 0 then (ontimeref47_Cut.j1 k1 l0 a1 a2 (l0.length : Int) x8_1 x9_1 true) else ((ontimeref47_pow.f a2).bind fun t211 => (if t211 = 0 then (none) else (ontimeref47_Cut.j1 k1 l0 a1 a2 (l0.length : Int) x8_1 x9_1 ((Int.tmod (wrap64 (Int.tdiv x9_1 t211)) 2) == 1))))))) else (some x8_1)) = some r := by first | (rw [hji5] at H; exact H) | (simp only [hji5] at H ⊢; exact H)
    have hji5_ : (IntKind.i64.wrap (1 * 2 ^ min (l0.length : Int).toNat 64)) = ji5 := hji5
    have hji5z : (l0.length : Int) ≤ 64 → (IntKind.i64.wrap (1 * 2 ^ (l0.length : Int).toNat)) = ji5 := shl_small hji5
    have hji5p : (IntKind.i64.wrap (1 * 2 ^ min l0.length 64)) = ji5 := hji5_
    have hji5q : (l0.length : Int) ≤ 64 → (IntKind.i64.wrap (1 * 2 ^ l0.length)) = ji5 := hji5z
    have hji5r : (IntKind.i64.wrap (2 ^ min l0.length 64)) = ji5 := by have h_ := hji5p; rw [Int.one_mul] at h_; exact h_
    have hji5s : (l0.length : Int) ≤ 64 → (IntKind.i64.wrap (2 ^ l0.length)) = ji5 := fun hle_ => by have h_ := hji5q hle_; rw [Int.one_mul] at h_; exact h_
    have hji5u : (IntKind.i64.wrap (2 ^ min (l0.length : Int).toNat 64)) = ji5 := by have h_ := hji5_; rw [Int.one_mul] at h_; exact h_
    have hji5v : (l0.length : Int) ≤ 64 → (IntKind.i64.wrap (2 ^ (l0.length : Int).toNat)) = ji5 := fun hle_ => by have h_ := hji5z hle_; rw [Int.one_mul] at h_; exact h_
    have hji5y : (wrap64 (1 * 2 ^ min (l0.length : Int).toNat 64)) = ji5 := (i64_w _).symm.trans hji5_
    have hji5x : (l0.length : Int) ≤ 64 → (wrap64 (1 * 2 ^ (l0.length : Int).toNat)) = ji5 := fun h_ => (i64_w _).symm.trans (hji5z h_)
    by_cases c6 : x9_1 < (ji5)
    ·rw [if_pos c6] at H
     have c6b0 : decide (x9_1 < (ji5)) = true := decide_eq_true c6
     clear c6
     have HC7 := Aside0.mk H
     clear H
     go_upto_region 6 with (fail)
     go_cut [34] (fun v34 wc => ∃ (kq : Nat) (x34_6 : Bool), v34 = .bool x34_6 ∧ Aside0 (ontimeref47_Cut.j1 kq l0 a1 a2 (l0.length : Int) x8_1 x9_1 x34_6 = some r) ∧ Aside0 (kq ≤ k1) ∧ Drawn0 w wc)
     case first =>
      have H := HC7.out
      clear HC7
      replace H := Option.bind_eq_some_iff.mp H
      obtain ⟨t210, A80, H⟩ := H
      replace H : (if t210 = 0 then (none) else (if (Int.tmod (wrap64 (Int.tdiv x9_1 t210)) 2) = 0 then (ontimeref47_Cut.j1 k1 l0 a1 a2 (l0.length : Int) x8_1 x9_1 true) else ((ontimeref47_pow.f a2).bind fun t211 => (if t211 = 0 then (none) else (ontimeref47_Cut.j1 k1 l0 a1 a2 (l0.length : Int) x8_1 x9_1 ((Int.tmod (wrap64 (Int.tdiv x9_1 t211)) 2) == 1)))))) = some r := H
      have A8 := Aside0.mk A80
      clear A80
      by_cases c9 : t210 = 0
      ·rw [if_pos c9] at H
       exact absurd H (by simp)
      ·rw [if_neg c9] at H
       have c9b0 : (t210 == 0) = false := beq_eq_false_iff_ne.mpr c9
       have c9b1 : (t210 != 0) = true := bne_iff_ne.mpr c9
       (first | rw [c9b0] | (simp only [i64_w, i32_w]; rw [c9b0]) | skip)
       by_cases c10 : (Int.tmod (wrap64 (Int.tdiv x9_1 t210)) 2) = 0
       ·rw [if_pos c10] at H
        have c10b0 : ((Int.tmod (wrap64 (Int.tdiv x9_1 t210)) 2) == 0) = true := beq_iff_eq.mpr c10
        have c10b1 : ((Int.tmod (wrap64 (Int.tdiv x9_1 t210)) 2) != 0) = false := bne_eq_false_iff_eq.mpr c10
        clear c10
        have H' := Aside0.mk H
        clear H
        go_wp2_with (first | ((with_reducible refine gate_callee (f := 73) rfl ?_); refine goesL_ (some 23) rfl rfl Try.func73 (by kernel_rfl) rfl #[.int .i64 a1] rfl (by (try simp only [List.map_toArray, List.map_cons, List.map_nil]); first | done | rfl | (simp only [List.length_drop, List.length_take]; rfl)) ?_; (with_reducible refine (ontimeref47_pow.calls a1 t210 _ A8.out).mono ?_); rintro e w' ⟨rfl, ⟨nd, rfl⟩⟩; refine ⟨_, rfl, ?_⟩))
        go_meet
        case rel => exact ⟨_, (true), (by first | rfl | (simp; done) | (simp [*]; done)), H', ⟨by have := HK1.out; first | omega | exact Nat.le_refl _⟩, by repeat (first | exact Drawn0.refl _ | apply Drawn0.step)⟩
       ·rw [if_neg c10] at H
        have c10b0 : ((Int.tmod (wrap64 (Int.tdiv x9_1 t210)) 2) == 0) = false := beq_eq_false_iff_ne.mpr c10
        have c10b1 : ((Int.tmod (wrap64 (Int.tdiv x9_1 t210)) 2) != 0) = true := bne_iff_ne.mpr c10
        replace H := Option.bind_eq_some_iff.mp H
        obtain ⟨t211, A110, H⟩ := H
        replace H : (if t211 = 0 then (none) else (ontimeref47_Cut.j1 k1 l0 a1 a2 (l0.length : Int) x8_1 x9_1 ((Int.tmod (wrap64 (Int.tdiv x9_1 t211)) 2) == 1))) = some r := H
        have A11 := Aside0.mk A110
        clear A110
        by_cases c12 : t211 = 0
        ·rw [if_pos c12] at H
         exact absurd H (by simp)
        ·rw [if_neg c12] at H
         have c12b0 : (t211 == 0) = false := beq_eq_false_iff_ne.mpr c12
         have c12b1 : (t211 != 0) = true := bne_iff_ne.mpr c12
         have H' := Aside0.mk H
         clear H
         go_wp2_with (first | ((with_reducible refine gate_callee (f := 73) rfl ?_); refine goesL_ (some 23) rfl rfl Try.func73 (by kernel_rfl) rfl #[.int .i64 a1] rfl (by (try simp only [List.map_toArray, List.map_cons, List.map_nil]); first | done | rfl | (simp only [List.length_drop, List.length_take]; rfl)) ?_; (with_reducible refine (ontimeref47_pow.calls a1 t210 _ A8.out).mono ?_); rintro e w' ⟨rfl, ⟨nd, rfl⟩⟩; refine ⟨_, rfl, ?_⟩) | (go_at_call 73; (with_reducible refine (ontimeref47_pow.calls a2 t211 _ A11.out).mono ?_); rintro e w' ⟨rfl, ⟨nd, rfl⟩⟩))
         go_meet
         case rel => exact ⟨_, (((Int.tmod (wrap64 (Int.tdiv x9_1 t211)) 2) == 1)), (by first | rfl | (simp; done) | (simp [*]; done)), H', ⟨by have := HK1.out; first | omega | exact Nat.le_refl _⟩, by repeat (first | exact Drawn0.refl _ | apply Drawn0.step)⟩
     case rest =>
      clear HC7
      try clear c1
      try clear p2
      try clear c4
      try clear c4b0
      try clear c4b1
      try clear c6
      try clear c6b0
      try clear p6
      try clear c7
      try clear c9
      try clear c9b0
      try clear c9b1
      try clear c10
      try clear c10b0
      try clear c10b1
      try clear c12
      try clear c12b0
      try clear c12b1
      try clear p2
      obtain ⟨kq, x34_6, rfl, HA, HJ6, ⟨mc6, rfl⟩⟩ := hcut
      cases kq with
      | zero => exact absurd HA.out (by simp [ontimeref47_Cut.j1])
      | succ kj6 =>
       have H := HA.out
       clear HA
       simp only [ontimeref47_Cut.j1] at H
       by_cases c13 : x34_6 = true
       ·subst c13
        have H1 : (ontimeref47_Cut.l0 kj6 l0 a1 a2 (l0.length : Int) x8_1 (wrap64 (x9_1 + 1))) = some r := by rw [if_pos rfl] at H; exact H
        clear H
        have H := H1
        clear H1
        have H' := Aside0.mk H
        clear H
        go_wp2
        go_roundg kj6
        case measure => have := HK1.out; have := HJ6.out; omega
        case rel => exact ⟨(x8_1), (wrap64 (x9_1 + 1)), (by first | rfl | (simp; done) | (simp [*]; done)), (by first | rfl | (simp; done) | (simp [*]; done)), H', ⟨by have := HK1.out; have := HJ6.out; omega⟩, by repeat (first | exact Drawn0.refl _ | apply Drawn0.step)⟩
       ·replace c13 := Bool.eq_false_iff.mpr c13
        subst c13
        have H1 : (ontimeref47_Cut.l1 kj6 l0 a1 a2 (l0.length : Int) x8_1 x9_1 0 0) = some r := by rw [if_neg (show ¬ (false = true) by decide)] at H; exact H
        clear H
        have H := H1
        clear H1
        have H' := Aside0.mk H
        clear H
        go_wp2
        go_loopg [10, 11] kj6 (fun kq v10 v11 w' => ∃ (x10_3 : Int) (x11_3 : Int), v10 = .int .i64 x10_3 ∧ v11 = .int .i64 x11_3 ∧ Aside0 (ontimeref47_Cut.l1 kq l0 a1 a2 (l0.length : Int) x8_1 x9_1 x10_3 x11_3 = some r) ∧ Aside0 (kq ≤ kj6) ∧ Drawn0 w w')
        case atStart => exact ⟨(0), (0), (by first | rfl | (simp; done) | (simp [*]; done)), (by first | rfl | (simp; done) | (simp [*]; done)), H', ⟨Nat.le_refl _⟩, by repeat (first | exact Drawn0.refl _ | apply Drawn0.step)⟩
        case round =>
         clear H'
         try clear c1
         try clear p2
         try clear c4
         try clear c4b0
         try clear c4b1
         try clear c6
         try clear c6b0
         try clear p6
         try clear c7
         try clear c9
         try clear c9b0
         try clear c9b1
         try clear c10
         try clear c10b0
         try clear c10b1
         try clear c12
         try clear c12b0
         try clear c12b1
         try clear c13
         try clear p2
         try clear p6
         obtain ⟨x10_3, x11_3, rfl, rfl, HA, HK3, ⟨m3, rfl⟩⟩ := hrel
         cases gk with
         | zero => exact absurd HA.out (by simp [ontimeref47_Cut.l1])
         | succ k3 =>
          have H := HA.out
          clear HA
          simp only [ontimeref47_Cut.l1] at H
          by_cases c14 : x11_3 < (l0.length : Int)
          ·rw [if_pos c14] at H
           have c14b0 : decide (x11_3 < (l0.length : Int)) = true := decide_eq_true c14
           clear c14
           have H' := Aside0.mk H
           clear H
           go_wp2
           go_loopg [10, 12] k3 (fun kq v10 v12 w' => ∃ (x10_4 : Int) (x12_4 : Int), v10 = .int .i64 x10_4 ∧ v12 = .int .i64 x12_4 ∧ Aside0 (ontimeref47_Cut.l2 kq l0 a1 a2 (l0.length : Int) x8_1 x9_1 x10_4 x11_3 x12_4 = some r) ∧ Aside0 (kq ≤ k3) ∧ Drawn0 w w')
           case atStart => exact ⟨(x10_3), (0), (by first | rfl | (simp; done) | (simp [*]; done)), (by first | rfl | (simp; done) | (simp [*]; done)), H', ⟨Nat.le_refl _⟩, by repeat (first | exact Drawn0.refl _ | apply Drawn0.step)⟩
           case round =>
            clear H'
            try clear c1
            try clear p2
            try clear c4
            try clear c4b0
            try clear c4b1
            try clear c6
            try clear c6b0
            try clear p6
            try clear c7
            try clear c9
            try clear c9b0
            try clear c9b1
            try clear c10
            try clear c10b0
            try clear c10b1
            try clear c12
            try clear c12b0
            try clear c12b1
            try clear c13
            try clear c14
            try clear c14b0
            try clear p2
            try clear p6
            obtain ⟨x10_4, x12_4, rfl, rfl, HA, HK4, ⟨m4, rfl⟩⟩ := hrel
            cases gk with
            | zero => exact absurd HA.out (by simp [ontimeref47_Cut.l2])
            | succ k4 =>
             have H := HA.out
             clear HA
             simp only [ontimeref47_Cut.l2] at H
             by_cases c15 : x12_4 < (l0.length : Int)
             ·rw [if_pos c15] at H
              have c15b0 : decide (x12_4 < (l0.length : Int)) = true := decide_eq_true c15
              clear c15
              replace H := Option.bind_eq_some_iff.mp H
              obtain ⟨t212, A160, H⟩ := H
              replace H : (if t212 = 0 then (none) else (if (Int.tmod (wrap64 (Int.tdiv x9_1 t212)) 2) = 1 then ((ontimeref47_pow.f x12_4).bind fun t213 => (if t213 = 0 then (none) else (if (Int.tmod (wrap64 (Int.tdiv x9_1 t213)) 2) = 0 then (if 0 ≤ x11_3 then (if x11_3 < (l0.length : Int) then (if 0 ≤ x12_4 then (if x12_4 < ((rd_L4 l0 x11_3).length : Int) then (ontimeref47_Cut.l2 k4 l0 a1 a2 (l0.length : Int) x8_1 x9_1 (wrap64 (x10_4 + (rd (rd_L4 l0 x11_3) x12_4))) x11_3 (wrap64 (x12_4 + 1))) else (none)) else (none)) else (none)) else (none)) else (ontimeref47_Cut.l2 k4 l0 a1 a2 (l0.length : Int) x8_1 x9_1 x10_4 x11_3 (wrap64 (x12_4 + 1)))))) else (ontimeref47_Cut.l2 k4 l0 a1 a2 (l0.length : Int) x8_1 x9_1 x10_4 x11_3 (wrap64 (x12_4 + 1))))) = some r := H
              have A16 := Aside0.mk A160
              clear A160
              by_cases c17 : t212 = 0
              ·rw [if_pos c17] at H
               exact absurd H (by simp)
              ·rw [if_neg c17] at H
               have c17b0 : (t212 == 0) = false := beq_eq_false_iff_ne.mpr c17
               have c17b1 : (t212 != 0) = true := bne_iff_ne.mpr c17
               by_cases c18 : (Int.tmod (wrap64 (Int.tdiv x9_1 t212)) 2) = 1
               ·rw [if_pos c18] at H
                have c18b0 : ((Int.tmod (wrap64 (Int.tdiv x9_1 t212)) 2) == 1) = true := beq_iff_eq.mpr c18
                have c18b1 : ((Int.tmod (wrap64 (Int.tdiv x9_1 t212)) 2) != 1) = false := bne_eq_false_iff_eq.mpr c18
                clear c18
                replace H := Option.bind_eq_some_iff.mp H
                obtain ⟨t213, A190, H⟩ := H
                replace H : (if t213 = 0 then (none) else (if (Int.tmod (wrap64 (Int.tdiv x9_1 t213)) 2) = 0 then (if 0 ≤ x11_3 then (if x11_3 < (l0.length : Int) then (if 0 ≤ x12_4 then (if x12_4 < ((rd_L4 l0 x11_3).length : Int) then (ontimeref47_Cut.l2 k4 l0 a1 a2 (l0.length : Int) x8_1 x9_1 (wrap64 (x10_4 + (rd (rd_L4 l0 x11_3) x12_4))) x11_3 (wrap64 (x12_4 + 1))) else (none)) else (none)) else (none)) else (none)) else (ontimeref47_Cut.l2 k4 l0 a1 a2 (l0.length : Int) x8_1 x9_1 x10_4 x11_3 (wrap64 (x12_4 + 1))))) = some r := H
                have A19 := Aside0.mk A190
                clear A190
                by_cases c20 : t213 = 0
                ·rw [if_pos c20] at H
                 exact absurd H (by simp)
                ·rw [if_neg c20] at H
                 have c20b0 : (t213 == 0) = false := beq_eq_false_iff_ne.mpr c20
                 have c20b1 : (t213 != 0) = true := bne_iff_ne.mpr c20
                 by_cases c21 : (Int.tmod (wrap64 (Int.tdiv x9_1 t213)) 2) = 0
                 ·rw [if_pos c21] at H
                  have c21b0 : ((Int.tmod (wrap64 (Int.tdiv x9_1 t213)) 2) == 0) = true := beq_iff_eq.mpr c21
                  have c21b1 : ((Int.tmod (wrap64 (Int.tdiv x9_1 t213)) 2) != 0) = false := bne_eq_false_iff_eq.mpr c21
                  clear c21
                  by_cases c22 : 0 ≤ x11_3
                  ·rw [if_pos c22] at H
                   have c22b0 : decide (0 ≤ x11_3) = true := decide_eq_true c22
                   clear c22
                   by_cases c23 : x11_3 < (l0.length : Int)
                   ·rw [if_pos c23] at H
                    have c23b0 : decide (x11_3 < (l0.length : Int)) = true := decide_eq_true c23
                    clear c23
                    by_cases c24 : 0 ≤ x12_4
                    ·rw [if_pos c24] at H
                     have c24b0 : decide (0 ≤ x12_4) = true := decide_eq_true c24
                     clear c24
                     by_cases c25 : x12_4 < ((rd_L4 l0 x11_3).length : Int)
                     ·rw [if_pos c25] at H
                      have c25b0 : decide (x12_4 < ((rd_L4 l0 x11_3).length : Int)) = true := decide_eq_true c25
                      clear c25
                      have H' := Aside0.mk H
                      clear H
                      go_wp2_with (first | ((with_reducible refine gate_callee (f := 73) rfl ?_); refine goesL_ (some 47) rfl rfl Try.func73 (by kernel_rfl) rfl #[.int .i64 x11_3] rfl (by (try simp only [List.map_toArray, List.map_cons, List.map_nil]); first | done | rfl | (simp only [List.length_drop, List.length_take]; rfl)) ?_; (with_reducible refine (ontimeref47_pow.calls x11_3 t212 _ A16.out).mono ?_); rintro e w' ⟨rfl, ⟨nd, rfl⟩⟩; refine ⟨_, rfl, ?_⟩) | (go_at_call 73; (with_reducible refine (ontimeref47_pow.calls x12_4 t213 _ A19.out).mono ?_); rintro e w' ⟨rfl, ⟨nd, rfl⟩⟩; have p214 : 0 ≤ (x11_3 : Int) := of_decide_eq_true (by first | (with_reducible assumption) | assumption); have q214 : x11_3 < (l0.length : Int) := of_decide_eq_true (by first | (with_reducible assumption) | assumption); obtain ⟨ad214, A214_0, c214_0, e214, hx214_0, hl214_0, hi214_0⟩ := at_L4 HR0.out x11_3 p214 q214; cases e214; have HR214_0 := Aside0.mk hi214_0; have HC214_0 := Aside0.mk hl214_0; clear hi214_0 hl214_0; replace p214 := eq_true p214; replace q214 := eq_true q214; have p215 : 0 ≤ (x12_4 : Int) := of_decide_eq_true (by first | (with_reducible assumption) | assumption); have q215 : x12_4 < ((rd_L4 l0 x11_3).length : Int) := of_decide_eq_true (by first | (with_reducible assumption) | assumption); obtain ⟨ad215, e215, hx215_0⟩ := Kd.at_int HR214_0.out x12_4 p215 q215; cases e215; replace p215 := eq_true p215; replace q215 := eq_true q215))
                      go_roundg k4
                      case measure => have := HK1.out; have := HJ6.out; have := HK3.out; have := HK4.out; omega
                      case rel => exact ⟨(wrap64 (x10_4 + (rd (rd_L4 l0 x11_3) x12_4))), (wrap64 (x12_4 + 1)), (by first | rfl | (simp; done) | (simp [*]; done)), (by first | rfl | (simp; done) | (simp [*]; done)), H', ⟨by have := HK1.out; have := HJ6.out; have := HK3.out; have := HK4.out; omega⟩, by repeat (first | exact Drawn0.refl _ | apply Drawn0.step)⟩
                     ·rw [if_neg c25] at H
                      exact absurd H (by simp)
                    ·rw [if_neg c24] at H
                     exact absurd H (by simp)
                   ·rw [if_neg c23] at H
                    exact absurd H (by simp)
                  ·rw [if_neg c22] at H
                   exact absurd H (by simp)
                 ·rw [if_neg c21] at H
                  have c21b0 : ((Int.tmod (wrap64 (Int.tdiv x9_1 t213)) 2) == 0) = false := beq_eq_false_iff_ne.mpr c21
                  have c21b1 : ((Int.tmod (wrap64 (Int.tdiv x9_1 t213)) 2) != 0) = true := bne_iff_ne.mpr c21
                  have H' := Aside0.mk H
                  clear H
                  go_wp2_with (first | ((with_reducible refine gate_callee (f := 73) rfl ?_); refine goesL_ (some 47) rfl rfl Try.func73 (by kernel_rfl) rfl #[.int .i64 x11_3] rfl (by (try simp only [List.map_toArray, List.map_cons, List.map_nil]); first | done | rfl | (simp only [List.length_drop, List.length_take]; rfl)) ?_; (with_reducible refine (ontimeref47_pow.calls x11_3 t212 _ A16.out).mono ?_); rintro e w' ⟨rfl, ⟨nd, rfl⟩⟩; refine ⟨_, rfl, ?_⟩) | (go_at_call 73; (with_reducible refine (ontimeref47_pow.calls x12_4 t213 _ A19.out).mono ?_); rintro e w' ⟨rfl, ⟨nd, rfl⟩⟩))
                  go_roundg k4
                  case measure => have := HK1.out; have := HJ6.out; have := HK3.out; have := HK4.out; omega
                  case rel => exact ⟨(x10_4), (wrap64 (x12_4 + 1)), (by first | rfl | (simp; done) | (simp [*]; done)), (by first | rfl | (simp; done) | (simp [*]; done)), H', ⟨by have := HK1.out; have := HJ6.out; have := HK3.out; have := HK4.out; omega⟩, by repeat (first | exact Drawn0.refl _ | apply Drawn0.step)⟩
               ·rw [if_neg c18] at H
                have c18b0 : ((Int.tmod (wrap64 (Int.tdiv x9_1 t212)) 2) == 1) = false := beq_eq_false_iff_ne.mpr c18
                have c18b1 : ((Int.tmod (wrap64 (Int.tdiv x9_1 t212)) 2) != 1) = true := bne_iff_ne.mpr c18
                have H' := Aside0.mk H
                clear H
                go_wp2_with (first | ((with_reducible refine gate_callee (f := 73) rfl ?_); refine goesL_ (some 47) rfl rfl Try.func73 (by kernel_rfl) rfl #[.int .i64 x11_3] rfl (by (try simp only [List.map_toArray, List.map_cons, List.map_nil]); first | done | rfl | (simp only [List.length_drop, List.length_take]; rfl)) ?_; (with_reducible refine (ontimeref47_pow.calls x11_3 t212 _ A16.out).mono ?_); rintro e w' ⟨rfl, ⟨nd, rfl⟩⟩; refine ⟨_, rfl, ?_⟩))
                go_roundg k4
                case measure => have := HK1.out; have := HJ6.out; have := HK3.out; have := HK4.out; omega
                case rel => exact ⟨(x10_4), (wrap64 (x12_4 + 1)), (by first | rfl | (simp; done) | (simp [*]; done)), (by first | rfl | (simp; done) | (simp [*]; done)), H', ⟨by have := HK1.out; have := HJ6.out; have := HK3.out; have := HK4.out; omega⟩, by repeat (first | exact Drawn0.refl _ | apply Drawn0.step)⟩
             ·rw [if_neg c15] at H
              have c15b0 : decide (x12_4 < (l0.length : Int)) = false := decide_eq_false c15
              clear c15
              have H' := Aside0.mk H
              clear H
              go_wp2
              go_roundg k4
              case measure => have := HK1.out; have := HJ6.out; have := HK3.out; have := HK4.out; omega
              case rel => exact ⟨(x10_4), (wrap64 (x11_3 + 1)), (by first | rfl | (simp; done) | (simp [*]; done)), (by first | rfl | (simp; done) | (simp [*]; done)), H', ⟨by have := HK1.out; have := HJ6.out; have := HK3.out; have := HK4.out; omega⟩, by repeat (first | exact Drawn0.refl _ | apply Drawn0.step)⟩
          ·rw [if_neg c14] at H
           have c14b0 : decide (x11_3 < (l0.length : Int)) = false := decide_eq_false c14
           clear c14
           by_cases c26 : x8_1 < 0
           ·rw [if_pos c26] at H
            have c26b0 : decide (x8_1 < 0) = true := decide_eq_true c26
            clear c26
            have H' := Aside0.mk H
            clear H
            go_wp2
            go_roundg k3
            case measure => have := HK1.out; have := HJ6.out; have := HK3.out; omega
            case rel => exact ⟨(x10_3), (wrap64 (x9_1 + 1)), (by first | rfl | (simp; done) | (simp [*]; done)), (by first | rfl | (simp; done) | (simp [*]; done)), H', ⟨by have := HK1.out; have := HJ6.out; have := HK3.out; omega⟩, by repeat (first | exact Drawn0.refl _ | apply Drawn0.step)⟩
           ·rw [if_neg c26] at H
            have c26b0 : decide (x8_1 < 0) = false := decide_eq_false c26
            clear c26
            by_cases c27 : x10_3 < x8_1
            ·rw [if_pos c27] at H
             have c27b0 : decide (x10_3 < x8_1) = true := decide_eq_true c27
             clear c27
             have H' := Aside0.mk H
             clear H
             go_wp2
             go_roundg k3
             case measure => have := HK1.out; have := HJ6.out; have := HK3.out; omega
             case rel => exact ⟨(x10_3), (wrap64 (x9_1 + 1)), (by first | rfl | (simp; done) | (simp [*]; done)), (by first | rfl | (simp; done) | (simp [*]; done)), H', ⟨by have := HK1.out; have := HJ6.out; have := HK3.out; omega⟩, by repeat (first | exact Drawn0.refl _ | apply Drawn0.step)⟩
            ·rw [if_neg c27] at H
             have c27b0 : decide (x10_3 < x8_1) = false := decide_eq_false c27
             clear c27
             have H' := Aside0.mk H
             clear H
             go_wp2
             go_roundg k3
             case measure => have := HK1.out; have := HJ6.out; have := HK3.out; omega
             case rel => exact ⟨(x8_1), (wrap64 (x9_1 + 1)), (by first | rfl | (simp; done) | (simp [*]; done)), (by first | rfl | (simp; done) | (simp [*]; done)), H', ⟨by have := HK1.out; have := HJ6.out; have := HK3.out; omega⟩, by repeat (first | exact Drawn0.refl _ | apply Drawn0.step)⟩
    ·rw [if_neg c6] at H
     have c6b0 : decide (x9_1 < (ji5)) = false := decide_eq_false c6
     clear c6
     obtain rfl := Option.some.inj H
     go_wp2
     go_ret
     exact ⟨by first | rfl | (simp; done) | (simp only [← hji5] <;> (first | rfl | simp)) | (simp [*]; done), by repeat (first | exact Drawn0.refl _ | apply Drawn0.step)⟩
   ·rw [if_neg c4] at H
    exact absurd H (by simp)

/-! ### ontimelaw47_FlowEqualsCut: function 13 -/
def ontimelaw47_FlowEqualsCut.j0 : Nat → List (List Int) → Int → Int → Bool → Option (Bool)
 | 0, _, _, _, _ => none
 | k + 1, x0, x1, x2, x18 => if x18 = true then ((ontimelaw47_awake.f).bind fun t218 => (some t218)) else ((ontimelaw47_ends.f x0 x1 x2).bind fun bt219 => ((flow_Max.f k x0 bt219.1 bt219.2).bind fun bt221 => (if bt221.2.2 = 0 then ((ontimeref47_Cut.f k x0 bt219.1 bt219.2).bind fun t226 => (some (bt221.1 == t226))) else (some false))))
def ontimelaw47_FlowEqualsCut.f (k : Nat) (l0 : List (List Int)) (a1 : Int) (a2 : Int) : Option (Bool) := (ontimelaw47_awake.f).bind fun t216 => (if t216 = true then ((ontimelaw47_network.f k l0 8).bind fun t217 => (ontimelaw47_FlowEqualsCut.j0 k l0 a1 a2 (!t217))) else (ontimelaw47_FlowEqualsCut.j0 k l0 a1 a2 true))
theorem ontimelaw47_FlowEqualsCut.mono_l : ∀ k, (∀ y0 y1 y2 y3, LeO (ontimelaw47_FlowEqualsCut.j0 k y0 y1 y2 y3) (ontimelaw47_FlowEqualsCut.j0 (k + 1) y0 y1 y2 y3))
 | 0 => fun _ _ _ _ r h => by simp [ontimelaw47_FlowEqualsCut.j0] at h
 | k + 1 => by
  have ih0 := ontimelaw47_FlowEqualsCut.mono_l k
  ·intro y0 y1 y2 y3
   unfold ontimelaw47_FlowEqualsCut.j0
   repeat' first
   | (with_reducible exact ih0 _ _ _ _)
   | (with_reducible exact flow_Max.mono _ _ _ _)
   | (with_reducible exact ontimelaw47_network.mono _ _ _)
   | (with_reducible exact ontimeref47_Cut.mono _ _ _ _)
   | (with_reducible exact LeO.refl _)
   | (with_reducible exact LeO.none _)
   | (with_reducible refine LeO.ite ?_ ?_)
   | (with_reducible refine LeO.bind ?_ (fun _ => ?_))
   | exact ih0 _ _ _ _
   | exact flow_Max.mono _ _ _ _
   | exact ontimelaw47_network.mono _ _ _
   | exact ontimeref47_Cut.mono _ _ _ _
   | exact LeO.none _
   | refine LeO.ite ?_ ?_
   | refine LeO.bind ?_ (fun _ => ?_)
theorem ontimelaw47_FlowEqualsCut.mono : ∀ a0 a1 a2 k, LeO (ontimelaw47_FlowEqualsCut.f k a0 a1 a2) (ontimelaw47_FlowEqualsCut.f (k + 1) a0 a1 a2) := by
 intro a0 a1 a2 k
 have ih0 := ontimelaw47_FlowEqualsCut.mono_l k
 unfold ontimelaw47_FlowEqualsCut.f
 repeat' first
   | (with_reducible exact ih0 _ _ _ _)
   | (with_reducible exact flow_Max.mono _ _ _ _)
   | (with_reducible exact ontimelaw47_network.mono _ _ _)
   | (with_reducible exact ontimeref47_Cut.mono _ _ _ _)
   | (with_reducible exact LeO.refl _)
   | (with_reducible exact LeO.none _)
   | (with_reducible refine LeO.ite ?_ ?_)
   | (with_reducible refine LeO.bind ?_ (fun _ => ?_))
   | exact ih0 _ _ _ _
   | exact flow_Max.mono _ _ _ _
   | exact ontimelaw47_network.mono _ _ _
   | exact ontimeref47_Cut.mono _ _ _ _
   | exact LeO.none _
   | refine LeO.ite ?_ ?_
   | refine LeO.bind ?_ (fun _ => ?_)
set_option maxHeartbeats 8000000 in
set_option maxRecDepth 100000 in
theorem ontimelaw47_FlowEqualsCut.calls (k : Nat) (A0 : Option Addr) (c0 : Nat) (l0 : List (List Int)) (a1 : Int) (a2 : Int) (r : Bool) (w : World) (hr0 : Kd.C (Kd.slice 3 (Kd.int .i64)) w A0 l0.length l0) (hc0 : l0.length ≤ c0) (h : ontimelaw47_FlowEqualsCut.f k l0 a1 a2 = some r) :
  Calls Try.prog 13 #[.slice A0 l0.length c0, .int .u8 a1, .int .u8 a2] w fun e w' => e = .returned (.bool r) ∧ Below w.heap.size w w' := by
 have HR0 := Aside0.mk hr0
 have HC0 := Aside0.mk hc0
 clear hr0 hc0
 have HB := Aside0.mk (Below.refl w.heap.size w)
 have H : ((ontimelaw47_awake.f).bind fun t216 => (if t216 = true then ((ontimelaw47_network.f k l0 8).bind fun t217 => (ontimelaw47_FlowEqualsCut.j0 k l0 a1 a2 (!t217))) else (ontimelaw47_FlowEqualsCut.j0 k l0 a1 a2 true))) = some r := h
 clear h
 have HC4 := Aside0.mk H
 clear H
 go_enter Try.func13, Try.ntmps13
 go_upto_region 1 with (fail)
 go_cut [18] (fun v18 wc => ∃ (kq : Nat) (x18_3 : Bool), v18 = .bool x18_3 ∧ Aside0 (ontimelaw47_FlowEqualsCut.j0 kq l0 a1 a2 x18_3 = some r) ∧ Aside0 (kq ≤ k) ∧ Aside0 (Below w.heap.size w wc))
 case first =>
  have H := HC4.out
  clear HC4
  replace H := Option.bind_eq_some_iff.mp H
  obtain ⟨t216, A50, H⟩ := H
  replace H : (if t216 = true then ((ontimelaw47_network.f k l0 8).bind fun t217 => (ontimelaw47_FlowEqualsCut.j0 k l0 a1 a2 (!t217))) else (ontimelaw47_FlowEqualsCut.j0 k l0 a1 a2 true)) = some r := H
  have A5 := Aside0.mk A50
  clear A50
  by_cases c6 : t216 = true
  ·subst c6
   have H1 : ((ontimelaw47_network.f k l0 8).bind fun t217 => (ontimelaw47_FlowEqualsCut.j0 k l0 a1 a2 (!t217))) = some r := by rw [if_pos rfl] at H; exact H
   clear H
   have H := H1
   clear H1
   replace H := Option.bind_eq_some_iff.mp H
   obtain ⟨t217, A70, H⟩ := H
   replace H : (ontimelaw47_FlowEqualsCut.j0 k l0 a1 a2 (!t217)) = some r := H
   have A7 := Aside0.mk A70
   clear A70
   have H' := Aside0.mk H
   clear H
   go_wp2_with (first | ((with_reducible refine gate_callee (f := 41) rfl ?_); refine goesL_ (some 12) rfl rfl Try.func41 (by kernel_rfl) rfl #[] rfl (by (try simp only [List.map_toArray, List.map_cons, List.map_nil]); first | done | rfl | (simp only [List.length_drop, List.length_take]; rfl)) ?_; (with_reducible refine (ontimelaw47_awake.calls  true _ A5.out).mono ?_); rintro e w8 ⟨rfl, hb⟩; refine ⟨_, rfl, ?_⟩; have n0_ := Aside0.mk (below_step (by repeat (first | (with_reducible first | exact HB.out | apply below_alloc | apply pw_below_drewN | apply below_drew1) | exact HB.out)) hb); clear HB; have HB := n0_; clear n0_; (try clear hb); (try clear hb2); (try clear hk); (try clear hi)) | (go_at_call 44; (with_reducible refine (ontimelaw47_network.calls k _ _ l0 8 t217 _ ?side1 ?side2 A7.out).mono ?_); (case side1 => repeat (first | exact (Kd.C_below HR0.out HB.out) | (with_reducible refine Kd.C_alloc ?_ _) | (with_reducible refine Kd.C_drewN ?_ _) | (with_reducible refine Kd.C_drew ?_))); (case side2 => exact HC0.out); rintro e w' ⟨rfl, ⟨nd, rfl⟩⟩))
   go_meet
   case rel => exact ⟨_, (!t217), (by first | rfl | (simp; done) | (simp [*]; done)), H', ⟨by first | omega | exact Nat.le_refl _⟩, ⟨by repeat (first | (with_reducible first | exact HB.out | apply below_alloc | apply pw_below_drewN | apply below_drew1) | exact HB.out)⟩⟩
  ·replace c6 := Bool.eq_false_iff.mpr c6
   subst c6
   have H1 : (ontimelaw47_FlowEqualsCut.j0 k l0 a1 a2 true) = some r := by rw [if_neg (show ¬ (false = true) by decide)] at H; exact H
   clear H
   have H := H1
   clear H1
   have H' := Aside0.mk H
   clear H
   go_wp2_with (first | ((with_reducible refine gate_callee (f := 41) rfl ?_); refine goesL_ (some 12) rfl rfl Try.func41 (by kernel_rfl) rfl #[] rfl (by (try simp only [List.map_toArray, List.map_cons, List.map_nil]); first | done | rfl | (simp only [List.length_drop, List.length_take]; rfl)) ?_; (with_reducible refine (ontimelaw47_awake.calls  false _ A5.out).mono ?_); rintro e w9 ⟨rfl, hb⟩; refine ⟨_, rfl, ?_⟩; have n0_ := Aside0.mk (below_step (by repeat (first | (with_reducible first | exact HB.out | apply below_alloc | apply pw_below_drewN | apply below_drew1) | exact HB.out)) hb); clear HB; have HB := n0_; clear n0_; (try clear hb); (try clear hb2); (try clear hk); (try clear hi)))
   go_meet
   case rel => exact ⟨_, (true), (by first | rfl | (simp; done) | (simp [*]; done)), H', ⟨by first | omega | exact Nat.le_refl _⟩, ⟨by repeat (first | (with_reducible first | exact HB.out | apply below_alloc | apply pw_below_drewN | apply below_drew1) | exact HB.out)⟩⟩
 case rest =>
  clear HC4
  try clear c1
  try clear p2
  try clear c4
  try clear c6
  obtain ⟨kq, x18_3, rfl, HA, HJ3, HB⟩ := hcut
  cases kq with
  | zero => exact absurd HA.out (by simp [ontimelaw47_FlowEqualsCut.j0])
  | succ kj3 =>
   have H := HA.out
   clear HA
   simp only [ontimelaw47_FlowEqualsCut.j0] at H
   by_cases c10 : x18_3 = true
   ·subst c10
    have H1 : ((ontimelaw47_awake.f).bind fun t218 => (some t218)) = some r := by rw [if_pos rfl] at H; exact H
    clear H
    have H := H1
    clear H1
    replace H := Option.bind_eq_some_iff.mp H
    obtain ⟨t218, A110, H⟩ := H
    replace H : (some t218) = some r := H
    have A11 := Aside0.mk A110
    clear A110
    obtain rfl := Option.some.inj H
    go_wp2_with (first | ((with_reducible refine gate_callee (f := 41) rfl ?_); refine goesL_ (some 19) rfl rfl Try.func41 (by kernel_rfl) rfl #[] rfl (by (try simp only [List.map_toArray, List.map_cons, List.map_nil]); first | done | rfl | (simp only [List.length_drop, List.length_take]; rfl)) ?_; (with_reducible refine (ontimelaw47_awake.calls  t218 _ A11.out).mono ?_); rintro e w12 ⟨rfl, hb⟩; refine ⟨_, rfl, ?_⟩; have n0_ := Aside0.mk (below_step (by repeat (first | (with_reducible first | exact HB.out | apply below_alloc | apply pw_below_drewN | apply below_drew1) | exact HB.out)) hb); clear HB; have HB := n0_; clear n0_; (try clear hb); (try clear hb2); (try clear hk); (try clear hi)))
    go_ret
    exact ⟨by first | rfl | (simp [errW_none, errW_some] <;> rfl) | (simp [*, errW_none, errW_some] <;> rfl), by repeat (first | (with_reducible first | exact HB.out | apply below_alloc | apply pw_below_drewN | apply below_drew1) | exact HB.out)⟩
   ·replace c10 := Bool.eq_false_iff.mpr c10
    subst c10
    have H1 : ((ontimelaw47_ends.f l0 a1 a2).bind fun bt219 => ((flow_Max.f kj3 l0 bt219.1 bt219.2).bind fun bt221 => (if bt221.2.2 = 0 then ((ontimeref47_Cut.f kj3 l0 bt219.1 bt219.2).bind fun t226 => (some (bt221.1 == t226))) else (some false)))) = some r := by rw [if_neg (show ¬ (false = true) by decide)] at H; exact H
    clear H
    have H := H1
    clear H1
    replace H := Option.bind_eq_some_iff.mp H
    obtain ⟨⟨t219, t220⟩, A130, H⟩ := H
    replace H : ((flow_Max.f kj3 l0 t219 t220).bind fun bt221 => (if bt221.2.2 = 0 then ((ontimeref47_Cut.f kj3 l0 t219 t220).bind fun t226 => (some (bt221.1 == t226))) else (some false))) = some r := H
    have A13 := Aside0.mk A130
    clear A130
    replace H := Option.bind_eq_some_iff.mp H
    obtain ⟨⟨t221, t222, t223⟩, A140, H⟩ := H
    replace H : (if t223 = 0 then ((ontimeref47_Cut.f kj3 l0 t219 t220).bind fun t226 => (some (t221 == t226))) else (some false)) = some r := H
    have A14 := Aside0.mk A140
    clear A140
    by_cases c15 : t223 = 0
    ·rw [if_pos c15] at H
     have c15b0 : (t223 == 0) = true := beq_iff_eq.mpr c15
     have c15b1 : (t223 != 0) = false := bne_eq_false_iff_eq.mpr c15
     clear c15
     replace H := Option.bind_eq_some_iff.mp H
     obtain ⟨t226, A160, H⟩ := H
     replace H : (some (t221 == t226)) = some r := H
     have A16 := Aside0.mk A160
     clear A160
     obtain rfl := Option.some.inj H
     go_wp2_with (first | ((with_reducible refine gate_callee (f := 45) rfl ?_); refine goesL_ (some 24) rfl rfl Try.func45 (by kernel_rfl) rfl #[.slice A0 l0.length c0, .int .u8 a1, .int .u8 a2] rfl (by (try simp only [List.map_toArray, List.map_cons, List.map_nil]); first | done | rfl | (simp only [List.length_drop, List.length_take]; rfl)) ?_; (with_reducible refine (ontimelaw47_ends.calls _ _ l0 a1 a2 t219 t220 _ ?side1 ?side2 A13.out).mono ?_); (case side1 => repeat (first | exact (Kd.C_below HR0.out HB.out) | (with_reducible refine Kd.C_alloc ?_ _) | (with_reducible refine Kd.C_drewN ?_ _) | (with_reducible refine Kd.C_drew ?_))); (case side2 => exact HC0.out); rintro e w' ⟨rfl, ⟨nd, rfl⟩⟩; refine ⟨_, rfl, ?_⟩) | ((with_reducible refine gate_callee (f := 46) rfl ?_); refine goesL_ (some 31) rfl rfl Try.func46 (by kernel_rfl) rfl #[.slice A0 l0.length c0, .int .i64 t219, .int .i64 t220] rfl (by (try simp only [List.map_toArray, List.map_cons, List.map_nil]); first | done | rfl | (simp only [List.length_drop, List.length_take]; rfl)) ?_; (with_reducible refine (flow_Max.calls kj3 _ _ l0 t219 t220 t221 t222 t223 _ ?side1 ?side2 A14.out).mono ?_); (case side1 => repeat (first | exact (Kd.C_below HR0.out (by repeat (first | (with_reducible first | exact HB.out | apply below_alloc | apply pw_below_drewN | apply below_drew1) | exact HB.out))) | (with_reducible refine Kd.C_alloc ?_ _) | (with_reducible refine Kd.C_drewN ?_ _) | (with_reducible refine Kd.C_drew ?_))); (case side2 => exact HC0.out); rintro e w17 ⟨v224, rfl, ho0, hb⟩; refine ⟨_, rfl, ?_⟩; have n0_ := Aside0.mk (Kd.S_lower ho0 (below_size (by repeat (first | (with_reducible first | exact HB.out | apply below_alloc | apply pw_below_drewN | apply below_drew1) | exact HB.out)))); have n1_ := Aside0.mk (below_step (by repeat (first | (with_reducible first | exact HB.out | apply below_alloc | apply pw_below_drewN | apply below_drew1) | exact HB.out)) hb); clear HB; have HO225 := n0_; have HB := n1_; clear n0_ n1_; (try clear hb); (try clear hb2); (try clear hk); (try clear hi); (try clear ho0)) | (go_at_call 47; (with_reducible refine (ontimeref47_Cut.calls kj3 _ _ l0 t219 t220 t226 _ ?side1 ?side2 A16.out).mono ?_); (case side1 => repeat (first | exact (Kd.C_below HR0.out HB.out) | (with_reducible refine Kd.C_alloc ?_ _) | (with_reducible refine Kd.C_drewN ?_ _) | (with_reducible refine Kd.C_drew ?_))); (case side2 => exact HC0.out); rintro e w' ⟨rfl, ⟨nd, rfl⟩⟩))
     go_ret
     exact ⟨by first | rfl | (simp [errW_none, errW_some] <;> rfl) | (simp [*, errW_none, errW_some] <;> rfl), by repeat (first | (with_reducible first | exact HB.out | apply below_alloc | apply pw_below_drewN | apply below_drew1) | exact HB.out)⟩
    ·rw [if_neg c15] at H
     have c15b0 : (t223 == 0) = false := beq_eq_false_iff_ne.mpr c15
     have c15b1 : (t223 != 0) = true := bne_iff_ne.mpr c15
     obtain rfl := Option.some.inj H
     go_wp2_with (first | ((with_reducible refine gate_callee (f := 45) rfl ?_); refine goesL_ (some 24) rfl rfl Try.func45 (by kernel_rfl) rfl #[.slice A0 l0.length c0, .int .u8 a1, .int .u8 a2] rfl (by (try simp only [List.map_toArray, List.map_cons, List.map_nil]); first | done | rfl | (simp only [List.length_drop, List.length_take]; rfl)) ?_; (with_reducible refine (ontimelaw47_ends.calls _ _ l0 a1 a2 t219 t220 _ ?side1 ?side2 A13.out).mono ?_); (case side1 => repeat (first | exact (Kd.C_below HR0.out HB.out) | (with_reducible refine Kd.C_alloc ?_ _) | (with_reducible refine Kd.C_drewN ?_ _) | (with_reducible refine Kd.C_drew ?_))); (case side2 => exact HC0.out); rintro e w' ⟨rfl, ⟨nd, rfl⟩⟩; refine ⟨_, rfl, ?_⟩) | ((with_reducible refine gate_callee (f := 46) rfl ?_); refine goesL_ (some 31) rfl rfl Try.func46 (by kernel_rfl) rfl #[.slice A0 l0.length c0, .int .i64 t219, .int .i64 t220] rfl (by (try simp only [List.map_toArray, List.map_cons, List.map_nil]); first | done | rfl | (simp only [List.length_drop, List.length_take]; rfl)) ?_; (with_reducible refine (flow_Max.calls kj3 _ _ l0 t219 t220 t221 t222 t223 _ ?side1 ?side2 A14.out).mono ?_); (case side1 => repeat (first | exact (Kd.C_below HR0.out (by repeat (first | (with_reducible first | exact HB.out | apply below_alloc | apply pw_below_drewN | apply below_drew1) | exact HB.out))) | (with_reducible refine Kd.C_alloc ?_ _) | (with_reducible refine Kd.C_drewN ?_ _) | (with_reducible refine Kd.C_drew ?_))); (case side2 => exact HC0.out); rintro e w18 ⟨v224, rfl, ho0, hb⟩; refine ⟨_, rfl, ?_⟩; have n0_ := Aside0.mk (Kd.S_lower ho0 (below_size (by repeat (first | (with_reducible first | exact HB.out | apply below_alloc | apply pw_below_drewN | apply below_drew1) | exact HB.out)))); have n1_ := Aside0.mk (below_step (by repeat (first | (with_reducible first | exact HB.out | apply below_alloc | apply pw_below_drewN | apply below_drew1) | exact HB.out)) hb); clear HB; have HO225 := n0_; have HB := n1_; clear n0_ n1_; (try clear hb); (try clear hb2); (try clear hk); (try clear hi); (try clear ho0)))
     go_ret
     exact ⟨by first | rfl | (simp [errW_none, errW_some] <;> rfl) | (simp [*, errW_none, errW_some] <;> rfl), by repeat (first | (with_reducible first | exact HB.out | apply below_alloc | apply pw_below_drewN | apply below_drew1) | exact HB.out)⟩

/-- The pure statement of ontimelaw47_FlowEqualsCut. -/
def ontimelaw47_FlowEqualsCut.Pure : Prop := ∀ (l0 : List (List Int)) (a1 : Int) (a2 : Int), l0.length ≤ maxLen → (Lit.int .u8 a1).wf = true → (Lit.int .u8 a2).wf = true → ∃ k, ontimelaw47_FlowEqualsCut.f k l0 a1 a2 = some true
theorem ontimelaw47_FlowEqualsCut.walk (P : ontimelaw47_FlowEqualsCut.Pure) (A0 : Option Addr) (c0 : Nat) (l0 : List (List Int)) (a1 : Int) (a2 : Int) (w : World) (hr0 : Kd.C (Kd.slice 3 (Kd.int .i64)) w A0 l0.length l0) (hc0 : l0.length ≤ c0) (hm0 : l0.length ≤ maxLen) (hw1 : (Lit.int .u8 a1).wf = true) (hw2 : (Lit.int .u8 a2).wf = true) :
  Calls Try.prog 13 #[.slice A0 l0.length c0, .int .u8 a1, .int .u8 a2] w fun e w' => e = .returned (.bool true) ∧ Below w.heap.size w w' := by
 obtain ⟨k, h⟩ := P l0 a1 a2 hm0 hw1 hw2
 refine (ontimelaw47_FlowEqualsCut.calls k A0 c0 l0 a1 a2 true w hr0 hc0 h).mono ?_
 rintro e w' ⟨rfl, hd⟩
 exact ⟨rfl, hd⟩

-- NOT PRINTED: function 14 (ontimelaw47_FlowReverses)

end Go.Proofs.Ythdjhgidccmlfaa.P
