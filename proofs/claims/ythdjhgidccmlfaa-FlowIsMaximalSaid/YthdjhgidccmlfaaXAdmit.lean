/- The contract of flow.admit. -/
import Derived.Test.YthdjhgidccmlfaaPx0
namespace Go.Proofs.Ythdjhgidccmlfaa.P
open Go.RowKit Go.Proofs.YthdjhgidccmlfaaW.PrintWords Go.Proofs.YthdjhgidccmlfaaW.PrintLast Go.Proofs.YthdjhgidccmlfaaW.PrintMore
attribute [local go_sem] max2_int min2_int max_two min_two max_three min_three max_four min_four
set_option linter.unusedVariables false
set_option linter.unusedSimpArgs false

/-- A job that is not valid. -/
def badJ (j : S83) : Bool := decide (j.f0 < 0 ∨ j.f1 < j.f0 ∨ 200 < j.f1 ∨ j.f2 < 0 ∨ 200 < j.f2)
set_option maxHeartbeats 1000000 in
set_option maxRecDepth 100000 in
theorem badJ_calls (j : S83) (w : World) : Calls Try.prog 86 #[.agg #[.int .i64 j.f0, .int .i64 j.f1, .int .i64 j.f2]] w fun e w' => e = .returned (.bool (badJ j)) ∧ Below w.heap.size w w' := by
  have hb1 := blk_new w (.cells #[.int .i64 j.f0, .int .i64 j.f1, .int .i64 j.f2] 83 (0, 0))
  have x0 : (w.alloc (.cells #[.int .i64 j.f0, .int .i64 j.f1, .int .i64 j.f2] 83)).cell? ⟨w.heap.size, 0, none⟩ = some (.int .i64 j.f0) := (blk_cell hb1 0).trans rfl
  have x1 : (w.alloc (.cells #[.int .i64 j.f0, .int .i64 j.f1, .int .i64 j.f2] 83)).cell? ⟨w.heap.size, 1, none⟩ = some (.int .i64 j.f1) := (blk_cell hb1 1).trans rfl
  have x2 : (w.alloc (.cells #[.int .i64 j.f0, .int .i64 j.f1, .int .i64 j.f2] 83)).cell? ⟨w.heap.size, 2, none⟩ = some (.int .i64 j.f2) := (blk_cell hb1 2).trans rfl
  clear hb1
  unfold badJ
  by_cases c1 : j.f0 < 0
  · have d1 := decide_eq_true c1
    rw [decide_eq_true (show j.f0 < 0 ∨ j.f1 < j.f0 ∨ 200 < j.f1 ∨ j.f2 < 0 ∨ 200 < j.f2 by omega)]
    clear c1
    go_enter Try.func86, Try.ntmps86
    go_wp2_with fail
    go_ret
    exact ⟨rfl, below_alloc (Below.refl _ _) _⟩
  have d1 := decide_eq_false c1
  by_cases c2 : j.f1 < j.f0
  · have d2 := decide_eq_true c2
    rw [decide_eq_true (show j.f0 < 0 ∨ j.f1 < j.f0 ∨ 200 < j.f1 ∨ j.f2 < 0 ∨ 200 < j.f2 by omega)]
    clear c1 c2
    go_enter Try.func86, Try.ntmps86
    go_wp2_with fail
    go_ret
    exact ⟨rfl, below_alloc (Below.refl _ _) _⟩
  have d2 := decide_eq_false c2
  by_cases c3 : 200 < j.f1
  · have d3 := decide_eq_true c3
    rw [decide_eq_true (show j.f0 < 0 ∨ j.f1 < j.f0 ∨ 200 < j.f1 ∨ j.f2 < 0 ∨ 200 < j.f2 by omega)]
    clear c1 c2 c3
    go_enter Try.func86, Try.ntmps86
    go_wp2_with fail
    go_ret
    exact ⟨rfl, below_alloc (Below.refl _ _) _⟩
  have d3 := decide_eq_false c3
  by_cases c4 : j.f2 < 0
  · have d4 := decide_eq_true c4
    rw [decide_eq_true (show j.f0 < 0 ∨ j.f1 < j.f0 ∨ 200 < j.f1 ∨ j.f2 < 0 ∨ 200 < j.f2 by omega)]
    clear c1 c2 c3 c4
    go_enter Try.func86, Try.ntmps86
    go_wp2_with fail
    go_ret
    exact ⟨rfl, below_alloc (Below.refl _ _) _⟩
  have d4 := decide_eq_false c4
  by_cases c5 : 200 < j.f2
  · have d5 := decide_eq_true c5
    rw [decide_eq_true (show j.f0 < 0 ∨ j.f1 < j.f0 ∨ 200 < j.f1 ∨ j.f2 < 0 ∨ 200 < j.f2 by omega)]
    clear c1 c2 c3 c4 c5
    go_enter Try.func86, Try.ntmps86
    go_wp2_with fail
    go_ret
    exact ⟨rfl, below_alloc (Below.refl _ _) _⟩
  have d5 := decide_eq_false c5
  rw [decide_eq_false (show ¬ (j.f0 < 0 ∨ j.f1 < j.f0 ∨ 200 < j.f1 ∨ j.f2 < 0 ∨ 200 < j.f2) by omega)]
  clear c1 c2 c3 c4 c5
  go_enter Try.func86, Try.ntmps86
  go_wp2_with fail
  go_ret
  exact ⟨rfl, below_alloc (Below.refl _ _) _⟩

theorem drop_T83 (l : List S83) (j : Nat) (h : j < l.length) : l.drop j = rd_T83 l (j : Int) :: l.drop (j + 1) := by
  unfold rd_T83
  rw [Int.toNat_natCast, List.getD_eq_getElem?_getD, List.getElem?_eq_getElem h]
  exact List.drop_eq_getElem_cons h
set_option maxHeartbeats 1000000 in
set_option maxRecDepth 100000 in
theorem indexJ_calls (A : Option Addr) (c : Nat) (l : List S83) (w : World) (hr : Kd.C k83 w A l.length l) :
    Calls Try.prog 97 #[.slice A l.length c, .func (Fn.func 86) #[] #[]] w fun e w' => (∃ i : Int, e = .returned (.int .i64 i) ∧ decide (0 ≤ i) = l.any badJ) ∧ Below w.heap.size w w' := by
  have hm : l.length ≤ 9223372036854775807 := hr.2.1
  have HR := Aside0.mk hr
  clear hr
  obtain ⟨y, hy⟩ : ∃ y, y = l.any badJ := ⟨_, rfl⟩
  have HY := Aside0.mk hy
  rw [← hy]
  clear hy
  go_enter Try.func97, Try.ntmps97
  go_wp2_with fail
  go_loopw [5, 8] (fun _ i wr => ∃ j : Nat, j ≤ l.length ∧ i = .int .i64 j ∧ Aside0 (y = (l.drop j).any badJ) ∧ Aside0 (Below w.heap.size w wr)) (fun _ i _ => l.length - (intOf i).toNat)
  case atStart => exact ⟨0, Nat.zero_le _, rfl, ⟨HY.out⟩, ⟨Below.refl _ _⟩⟩
  case round =>
    clear HY
    obtain ⟨j, hj, rfl, HY, HB⟩ := hrel
    by_cases hlt : j < l.length
    · have hY := HY.out
      rw [drop_T83 l j hlt] at hY
      obtain ⟨p, hp⟩ : ∃ p, p = rd_T83 l (j : Int) := ⟨_, rfl⟩
      obtain ⟨ad, ea, hx0, hx1, hx2⟩ := at_T83 (Kd.C_below HR.out HB.out) j (by omega) (by omega)
      subst ea
      rw [Int.toNat_natCast] at hx0 hx1 hx2
      rw [← hp] at hY hx0 hx1 hx2
      clear hp HY
      rw [List.any_cons] at hY
      cases hq : badJ p with
      | true =>
        rw [hq, Bool.true_or] at hY
        subst hY
        have HQ := Aside0.mk hq
        clear hq
        go_wp2_with (go_at_call 86; refine (badJ_calls p wr).mono ?_; rw [HQ.out]; rintro e w1 ⟨rfl, hb⟩; have HB2 := Aside0.mk (below_step HB.out hb); clear hb)
        go_ret
        exact ⟨⟨_, rfl, by simp⟩, HB2.out⟩
      | false =>
        rw [hq, Bool.false_or] at hY
        have HY := Aside0.mk hY
        have HQ := Aside0.mk hq
        clear hq hY
        go_wp2_with (go_at_call 86; refine (badJ_calls p wr).mono ?_; rw [HQ.out]; rintro e w1 ⟨rfl, hb⟩; have HB2 := Aside0.mk (below_step HB.out hb); clear hb)
        go_roundw
        case rel => exact ⟨j + 1, by omega, by go_num, HY, HB2⟩
        case measure => simp [intOf]; omega
    · have hY := HY.out
      rw [List.drop_eq_nil_of_le (by omega)] at hY
      rw [List.any_nil] at hY
      subst hY
      go_wp2_with fail
      go_ret
      exact ⟨⟨_, rfl, rfl⟩, HB.out⟩
set_option maxHeartbeats 1000000 in
theorem containsJ_calls (A : Option Addr) (c : Nat) (l : List S83) (w : World) (hr : Kd.C k83 w A l.length l) :
    Calls Try.prog 85 #[.slice A l.length c, .func (Fn.func 86) #[] #[]] w fun e w' => e = .returned (.bool (l.any badJ)) ∧ Below w.heap.size w w' := by
  have HR := Aside0.mk hr
  clear hr
  go_enter Try.func85, Try.ntmps85
  go_wp2_with (go_at_call 97; refine (indexJ_calls A c l w HR.out).mono ?_; rintro e w1 ⟨⟨i, rfl, hi⟩, hb⟩; have HB := Aside0.mk hb; have HI := Aside0.mk hi; clear hb hi)
  go_ret
  exact ⟨by rw [← HI.out]; rfl, HB.out⟩

def flow_admit.f (l0 : List S83) (a1 : Int) : Option Bool := some (decide (l0.length ≤ 100 ∧ 1 ≤ a1 ∧ a1 ≤ 4) && !l0.any badJ)
set_option maxHeartbeats 1000000 in
set_option maxRecDepth 100000 in
theorem flow_admit.calls (A0 : Option Addr) (c0 : Nat) (l0 : List S83) (a1 : Int) (r : Bool) (w : World) (hr0 : Kd.C k83 w A0 l0.length l0) (hc0 : l0.length ≤ c0) (h : flow_admit.f l0 a1 = some r) :
    Calls Try.prog 69 #[.slice A0 l0.length c0, .int .i64 a1] w fun e w' => e = .returned (.bool r) ∧ Below w.heap.size w w' := by
  obtain rfl := Option.some.inj h
  have HR := Aside0.mk hr0
  clear h hr0
  by_cases c1 : l0.length ≤ 100 ∧ 1 ≤ a1 ∧ a1 ≤ 4
  · rw [decide_eq_true c1, Bool.true_and]
    have d1 : decide ((100 : Int) < (l0.length : Int)) = false := decide_eq_false (by omega)
    have d2 : decide (a1 < 1) = false := decide_eq_false (by omega)
    have d3 : decide (4 < a1) = false := decide_eq_false (by omega)
    clear c1
    go_enter Try.func69, Try.ntmps69
    go_wp2_with (go_at_call 85; refine (containsJ_calls A0 c0 l0 w HR.out).mono ?_; rintro e w1 ⟨rfl, hb⟩; have HB := Aside0.mk hb; clear hb)
    go_ret
    exact ⟨rfl, HB.out⟩
  · rw [decide_eq_false c1, Bool.false_and]
    by_cases e1 : 100 < l0.length
    · have d1 : decide ((100 : Int) < (l0.length : Int)) = true := decide_eq_true (by omega)
      clear c1 e1
      go_enter Try.func69, Try.ntmps69
      go_wp2_with fail
      go_ret
      exact ⟨rfl, Below.refl _ _⟩
    · have d1 : decide ((100 : Int) < (l0.length : Int)) = false := decide_eq_false (by omega)
      by_cases e2 : a1 < 1
      · have d2 : decide (a1 < 1) = true := decide_eq_true e2
        clear c1 e1 e2
        go_enter Try.func69, Try.ntmps69
        go_wp2_with fail
        go_ret
        exact ⟨rfl, Below.refl _ _⟩
      · have d2 : decide (a1 < 1) = false := decide_eq_false (by omega)
        have d3 : decide (4 < a1) = true := decide_eq_true (by omega)
        clear c1 e1 e2
        go_enter Try.func69, Try.ntmps69
        go_wp2_with fail
        go_ret
        exact ⟨rfl, Below.refl _ _⟩
end Go.Proofs.Ythdjhgidccmlfaa.P
