/- The contract of slices.EqualFunc over lists of numbers: equality. -/
import Derived.Test.YtnkbmpdghjhlfaaPx0
namespace Go.Proofs.Ytnkbmpdghjhlfaa.P
open Go.RowKit Go.Proofs.YtnkbmpdghjhlfaaW.PrintWords Go.Proofs.YtnkbmpdghjhlfaaW.PrintLast Go.Proofs.YtnkbmpdghjhlfaaW.PrintMore
attribute [local go_sem] max2_int min2_int max_two min_two max_three min_three max_four min_four
set_option linter.unusedVariables false
set_option linter.unusedSimpArgs false


set_option maxHeartbeats 1000000 in
set_option maxRecDepth 100000 in
theorem equal_calls (A0 : Option Addr) (c0 : Nat) (l0 : List Int) (A1 : Option Addr) (c1 : Nat) (l1 : List Int) (w : World) (hr0 : Kd.C (Kd.int .i64) w A0 l0.length l0) (hc0 : l0.length ≤ c0) (hr1 : Kd.C (Kd.int .i64) w A1 l1.length l1) (hc1 : l1.length ≤ c1) :
    Calls Try.prog 38 #[.slice A0 l0.length c0, .slice A1 l1.length c1] w fun e w' => e = .returned (.bool (decide (l0 = l1))) ∧ Drawn0 w w' := by
  have hl0 : l0.length ≤ 9223372036854775807 := hr0.2.1
  have HR0 := Aside0.mk hr0
  have HR1 := Aside0.mk hr1
  clear hr0 hr1 hc0 hc1
  by_cases hl : l0.length = l1.length
  · have hb : (l0.length == l1.length) = true := by simpa using hl
    have hn : ((l0.length : Int) != (l1.length : Int)) = false := bne_eq_false_iff_eq.2 (congrArg Int.ofNat hl)
    have HL := Aside0.mk hl
    clear hl
    go_enter Try.func38, Try.ntmps38
    go_wp2_with fail
    clear hb hn
    go_loopw [5, 13] (fun _ i wr => ∃ k : Nat, k ≤ l0.length ∧ i = .int .i64 k ∧ Aside0 (∀ j, j < k → l0[j]? = l1[j]?) ∧ Drawn0 w wr) (fun _ i _ => l0.length - (intOf i).toNat)
    case atStart => exact ⟨0, Nat.zero_le _, rfl, ⟨fun j hj => absurd hj (Nat.not_lt_zero _)⟩, Drawn0.refl _⟩
    case round =>
      obtain ⟨k, hk, rfl, HE, HD⟩ := hrel
      by_cases hlt : k < l0.length
      · have hlt1 : k < l1.length := by have := HL.out; omega
        obtain ⟨ad0, e0, g0⟩ := Kd.at_int (Kd.C_below HR0.out HD.below) k (by omega) (by omega)
        obtain ⟨ad1, e1, g1⟩ := Kd.at_int (Kd.C_below HR1.out HD.below) k (by omega) (by omega)
        subst e0 e1
        rw [Int.toNat_natCast] at g0 g1
        have hi0 : (0 : Int) ≤ (k : Int) ∧ (k : Int) < (l0.length : Int) := ⟨by omega, by omega⟩
        have hi1 : (0 : Int) ≤ (k : Int) ∧ (k : Int) < (l1.length : Int) := ⟨by omega, by omega⟩
        have q0 : l0[k]? = some (rd l0 k) := by unfold rd; rw [Int.toNat_natCast]; simp [List.getD, List.getElem?_eq_getElem hlt]
        have q1 : l1[k]? = some (rd l1 k) := by unfold rd; rw [Int.toNat_natCast]; simp [List.getD, List.getElem?_eq_getElem hlt1]
        by_cases he : rd l0 k = rd l1 k
        · have HN : Aside0 (∀ j, j < k + 1 → l0[j]? = l1[j]?) := ⟨fun j hj => by
            rcases Nat.lt_succ_iff_lt_or_eq.1 hj with h | rfl
            · exact HE.out j h
            · rw [q0, q1, he]⟩
          have hq : (rd l0 k != rd l1 k) = false := by simpa using he
          clear q0 q1 he
          go_wp2_with fail
          go_quiet (fail)
          go_wp2_with fail
          go_roundw
          case rel => exact ⟨k + 1, by omega, by go_num, HN, HD.step _⟩
          case measure => simp [intOf]; omega
        · have hq : (rd l0 k != rd l1 k) = true := by simpa using he
          have hv : decide (l0 = l1) = false := by
            rw [decide_eq_false_iff_not]
            rintro rfl
            exact he rfl
          have HV := Aside0.mk hv
          clear q0 q1 he hv
          go_wp2_with fail
          go_quiet (fail)
          go_wp2_with fail
          go_ret
          exact ⟨by rw [HV.out]; rfl, HD.step _⟩
      · have hv : decide (l0 = l1) = true := by
          rw [decide_eq_true_iff]
          have := HL.out
          apply List.ext_getElem?
          intro j
          by_cases hj : j < k
          · exact HE.out j hj
          · rw [List.getElem?_eq_none (by omega), List.getElem?_eq_none (by omega)]
        have HV := Aside0.mk hv
        clear hv
        go_wp2_with fail
        go_ret
        exact ⟨by rw [HV.out]; rfl, HD⟩
  · have hb : (l0.length == l1.length) = false := by simpa using hl
    have hn : ((l0.length : Int) != (l1.length : Int)) = true := bne_iff_ne.2 (fun h => hl (Int.ofNat.inj h))
    have hv : decide (l0 = l1) = false := by
      rw [decide_eq_false_iff_not]
      rintro rfl
      exact hl rfl
    have HV := Aside0.mk hv
    clear hl hv
    go_enter Try.func38, Try.ntmps38
    go_wp2_with fail
    go_ret
    exact ⟨by rw [HV.out]; rfl, Drawn0.refl _⟩

theorem eqv_calls (A0 : Option Addr) (c0 : Nat) (l0 : List Int) (A1 : Option Addr) (c1 : Nat) (l1 : List Int) (w : World) (hr0 : Kd.C (Kd.int .i64) w A0 l0.length l0) (hc0 : l0.length ≤ c0) (hr1 : Kd.C (Kd.int .i64) w A1 l1.length l1) (hc1 : l1.length ≤ c1) :
    Calls Try.prog 37 #[.slice A0 l0.length c0, .slice A1 l1.length c1] w fun e w' => e = .returned (.bool (decide (l0 = l1))) ∧ Drawn0 w w' := by
  have HR0 := Aside0.mk hr0
  have HC0 := Aside0.mk hc0
  have HR1 := Aside0.mk hr1
  have HC1 := Aside0.mk hc1
  clear hr0 hr1 hc0 hc1
  go_enter Try.func37, Try.ntmps37
  go_wp2_with (go_at_call 38; refine (equal_calls A0 c0 l0 A1 c1 l1 w HR0.out HC0.out HR1.out HC1.out).mono ?_; rintro e w1 ⟨rfl, HD⟩)
  go_ret
  exact ⟨rfl, HD⟩

def slices_EqualFunc_int_int_int_int.f (l0 : List (List Int)) (l1 : List (List Int)) : Option Bool := some (decide (l0 = l1))
set_option maxHeartbeats 1000000 in
set_option maxRecDepth 100000 in
theorem slices_EqualFunc_int_int_int_int.calls (A0 : Option Addr) (c0 : Nat) (l0 : List (List Int)) (A1 : Option Addr) (c1 : Nat) (l1 : List (List Int)) (r : Bool) (w : World) (hr0 : Kd.C (Kd.slice 3 (Kd.int .i64)) w A0 l0.length l0) (hc0 : l0.length ≤ c0) (hr1 : Kd.C (Kd.slice 3 (Kd.int .i64)) w A1 l1.length l1) (hc1 : l1.length ≤ c1) (h : slices_EqualFunc_int_int_int_int.f l0 l1 = some r) :
    Calls Try.prog 36 #[.slice A0 l0.length c0, .slice A1 l1.length c1, .func (Fn.func 37) #[] #[]] w fun e w' => e = .returned (.bool r) ∧ Drawn0 w w' := by
  obtain rfl : decide (l0 = l1) = r := Option.some.inj h
  clear h
  have hl0 : l0.length ≤ 9223372036854775807 := hr0.2.1
  have HR0 := Aside0.mk hr0
  have HR1 := Aside0.mk hr1
  clear hr0 hr1 hc0 hc1
  by_cases hl : l0.length = l1.length
  · have hb : (l0.length == l1.length) = true := by simpa using hl
    have hn : ((l0.length : Int) != (l1.length : Int)) = false := bne_eq_false_iff_eq.2 (congrArg Int.ofNat hl)
    have HL := Aside0.mk hl
    clear hl
    go_enter Try.func36, Try.ntmps36
    go_wp2_with fail
    clear hb hn
    go_loopw [7, 8, 9, 17] (fun _ _ _ i wr => ∃ k : Nat, k ≤ l0.length ∧ i = .int .i64 k ∧ Aside0 (∀ j, j < k → l0[j]? = l1[j]?) ∧ Drawn0 w wr) (fun _ _ _ i _ => l0.length - (intOf i).toNat)
    case atStart => exact ⟨0, Nat.zero_le _, rfl, ⟨fun j hj => absurd hj (Nat.not_lt_zero _)⟩, Drawn0.refl _⟩
    case round =>
      obtain ⟨k, hk, rfl, HE, HD⟩ := hrel
      by_cases hlt : k < l0.length
      · have hlt1 : k < l1.length := by have := HL.out; omega
        obtain ⟨ad0, B0, d0, e0, g0, m0, n0⟩ := at_L1 (Kd.C_below HR0.out HD.below) k (by omega) (by omega)
        obtain ⟨ad1, B1, d1, e1, g1, m1, n1⟩ := at_L1 (Kd.C_below HR1.out HD.below) k (by omega) (by omega)
        subst e0 e1
        rw [Int.toNat_natCast] at g0 g1
        have M0 := Aside0.mk m0
        have M1 := Aside0.mk m1
        have N0 := Aside0.mk n0
        have N1 := Aside0.mk n1
        clear m0 m1 n0 n1
        have hi0 : (0 : Int) ≤ (k : Int) ∧ (k : Int) < (l0.length : Int) := ⟨by omega, by omega⟩
        have hi1 : (0 : Int) ≤ (k : Int) ∧ (k : Int) < (l1.length : Int) := ⟨by omega, by omega⟩
        have q0 : l0[k]? = some (rd_L1 l0 k) := by unfold rd_L1; rw [Int.toNat_natCast]; simp [List.getD, List.getElem?_eq_getElem hlt]
        have q1 : l1[k]? = some (rd_L1 l1 k) := by unfold rd_L1; rw [Int.toNat_natCast]; simp [List.getD, List.getElem?_eq_getElem hlt1]
        by_cases he : rd_L1 l0 k = rd_L1 l1 k
        · have HN : Aside0 (∀ j, j < k + 1 → l0[j]? = l1[j]?) := ⟨fun j hj => by
            rcases Nat.lt_succ_iff_lt_or_eq.1 hj with h | rfl
            · exact HE.out j h
            · rw [q0, q1, he]⟩
          have HQ := Aside0.mk (decide_eq_true he)
          clear q0 q1 he
          go_wp2_with (go_at_call 37; refine (eqv_calls B0 d0 (rd_L1 l0 k) B1 d1 (rd_L1 l1 k) wr N0.out M0.out N1.out M1.out).mono ?_; rw [HQ.out]; rintro e w1 ⟨rfl, HD1⟩)
          go_roundw
          case rel => exact ⟨k + 1, by omega, by go_num, HN, by obtain ⟨⟨n, e⟩⟩ := HD1; rw [e]; exact HD.step _⟩
          case measure => simp [intOf]; omega
        · have hv : decide (l0 = l1) = false := by
            rw [decide_eq_false_iff_not]
            rintro rfl
            exact he rfl
          have HV := Aside0.mk hv
          have HQ := Aside0.mk (decide_eq_false he)
          clear q0 q1 he hv
          go_wp2_with (go_at_call 37; refine (eqv_calls B0 d0 (rd_L1 l0 k) B1 d1 (rd_L1 l1 k) wr N0.out M0.out N1.out M1.out).mono ?_; rw [HQ.out]; rintro e w1 ⟨rfl, HD1⟩)
          go_ret
          exact ⟨by rw [HV.out]; rfl, by obtain ⟨⟨n, e⟩⟩ := HD1; rw [e]; exact HD.step _⟩
      · have hv : decide (l0 = l1) = true := by
          rw [decide_eq_true_iff]
          have := HL.out
          apply List.ext_getElem?
          intro j
          by_cases hj : j < k
          · exact HE.out j hj
          · rw [List.getElem?_eq_none (by omega), List.getElem?_eq_none (by omega)]
        have HV := Aside0.mk hv
        clear hv
        go_wp2_with fail
        go_ret
        exact ⟨by rw [HV.out]; rfl, HD⟩
  · have hb : (l0.length == l1.length) = false := by simpa using hl
    have hn : ((l0.length : Int) != (l1.length : Int)) = true := bne_iff_ne.2 (fun h => hl (Int.ofNat.inj h))
    have hv : decide (l0 = l1) = false := by
      rw [decide_eq_false_iff_not]
      rintro rfl
      exact hl rfl
    have HV := Aside0.mk hv
    clear hl hv
    go_enter Try.func36, Try.ntmps36
    go_wp2_with fail
    go_ret
    exact ⟨by rw [HV.out]; rfl, Drawn0.refl _⟩

end Go.Proofs.Ytnkbmpdghjhlfaa.P
