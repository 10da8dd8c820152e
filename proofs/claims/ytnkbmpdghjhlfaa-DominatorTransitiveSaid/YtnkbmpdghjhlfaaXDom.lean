/- The contract of dominator.Dominates: it follows the chain for as many steps as the list is long. -/
import Derived.Test.YtnkbmpdghjhlfaaPx0
namespace Go.Proofs.Ytnkbmpdghjhlfaa.P
open Go.RowKit Go.Proofs.YtnkbmpdghjhlfaaW.PrintWords Go.Proofs.YtnkbmpdghjhlfaaW.PrintLast Go.Proofs.YtnkbmpdghjhlfaaW.PrintMore
attribute [local go_sem] max2_int min2_int max_two min_two max_three min_three max_four min_four
set_option linter.unusedVariables false
set_option linter.unusedSimpArgs false

/-- the chain of b, so many rounds -/
def domL (l : List Int) (a : Int) : Nat → Int → Bool
  | 0, b => a == b
  | k + 1, b => if a = b then true else if 0 ≤ rd l b ∧ rd l b < (l.length : Int) then domL l a k (rd l b) else false
def domB (l : List Int) (a b : Int) : Bool := if 0 ≤ a ∧ a < (l.length : Int) ∧ 0 ≤ b ∧ b < (l.length : Int) then domL l a l.length b else false

theorem inside_yes (g : Nat) (A : Option Addr) (n c : Nat) (x : Int) (w : World) (hc : w.cell? ⟨g, 0, none⟩ = some (.slice A n c)) (h0 : 0 ≤ x) (h1 : x < (n : Int)) (hn : n ≤ 9223372036854775807) :
    Calls Try.prog 34 #[.int .i64 x, .pointer (some ⟨g, 0, none⟩)] w fun e w' => e = .returned (.bool true) ∧ w = w' := by
  go_enter Try.func34, Try.ntmps34
  go_wp2
  go_ret
  exact ⟨rfl, rfl⟩
theorem inside_no (g : Nat) (A : Option Addr) (n c : Nat) (x : Int) (w : World) (hc : w.cell? ⟨g, 0, none⟩ = some (.slice A n c)) (h : ¬ (0 ≤ x ∧ x < (n : Int))) (hn : n ≤ 9223372036854775807) :
    Calls Try.prog 34 #[.int .i64 x, .pointer (some ⟨g, 0, none⟩)] w fun e w' => e = .returned (.bool false) ∧ w = w' := by
  by_cases h0 : 0 ≤ x
  · have h1 : ¬ x < (n : Int) := fun h1 => h ⟨h0, h1⟩
    clear h
    go_enter Try.func34, Try.ntmps34
    go_wp2
    go_ret
    exact ⟨rfl, rfl⟩
  · clear h
    go_enter Try.func34, Try.ntmps34
    go_wp2
    go_ret
    exact ⟨rfl, rfl⟩
theorem inside_calls (g : Nat) (A : Option Addr) (n c : Nat) (x : Int) (w : World) (hc : w.cell? ⟨g, 0, none⟩ = some (.slice A n c)) (hn : n ≤ 9223372036854775807) :
    Calls Try.prog 34 #[.int .i64 x, .pointer (some ⟨g, 0, none⟩)] w fun e w' => e = .returned (.bool (decide (0 ≤ x ∧ x < (n : Int)))) ∧ w = w' := by
  by_cases h : 0 ≤ x ∧ x < (n : Int)
  · rw [decide_eq_true h]; exact inside_yes g A n c x w hc h.1 h.2 hn
  · rw [decide_eq_false h]; exact inside_no g A n c x w hc h hn

set_option maxHeartbeats 1000000 in
set_option maxRecDepth 100000 in
theorem dom_calls (A0 : Option Addr) (c0 : Nat) (l0 : List Int) (a1 : Int) (a2 : Int) (w : World) (hr0 : Kd.C (Kd.int .i64) w A0 l0.length l0) (hc0 : l0.length ≤ c0) :
    Calls Try.prog 19 #[.slice A0 l0.length c0, .int .i64 a1, .int .i64 a2] w fun e w' => e = .returned (.bool (domB l0 a1 a2)) ∧ Below w.heap.size w w' := by
  have hl : l0.length ≤ 9223372036854775807 := hr0.2.1
  have HR0 := Aside0.mk hr0
  have HC0 := Aside0.mk hc0
  clear hr0 hc0
  by_cases h1 : 0 ≤ a1 ∧ a1 < (l0.length : Int)
  · by_cases h3 : 0 ≤ a2 ∧ a2 < (l0.length : Int)
    · have hf : domB l0 a1 a2 = domL l0 a1 l0.length a2 := by unfold domB; rw [if_pos ⟨h1.1, h1.2, h3.1, h3.2⟩]
      rw [hf]
      clear hf
      obtain ⟨h1, h2⟩ := h1
      obtain ⟨h3, h4⟩ := h3
      go_enter Try.func19, Try.ntmps19
      have hbox : ∀ n, ((w.alloc (.cells #[.slice A0 l0.length c0] 29 (0, 0))).drewN n).cell? ⟨w.heap.size, 0, none⟩ = some (.slice A0 l0.length c0) := fun n => by rw [blk_cell (blk_drewN (blk_new w _) _)]; rfl
      have hbox0 : (w.alloc (.cells #[.slice A0 l0.length c0] 29 (0, 0))).cell? ⟨w.heap.size, 0, none⟩ = some (.slice A0 l0.length c0) := hbox 0
      go_wp2_with (go_at_call 34; refine (inside_yes w.heap.size A0 l0.length c0 _ _ (by first | exact hbox0 | exact hbox _) (by assumption) (by assumption) hl).mono ?_; rintro e w1 ⟨rfl, rfl⟩)
      clear hbox hbox0
      go_loopw [2, 21] (fun b i wr => ∃ (k : Nat) (x : Int), k ≤ l0.length ∧ i = .int .i64 k ∧ b = .int .i64 x ∧ 0 ≤ x ∧ x < (l0.length : Int) ∧ Aside0 (domL l0 a1 (l0.length - k) x = domL l0 a1 l0.length a2) ∧ Aside0 (wr.heap[w.heap.size]? = some (.cells #[.slice A0 l0.length c0] 29 (0, 0))) ∧ Aside0 (Below w.heap.size w wr)) (fun _ i _ => l0.length - (intOf i).toNat)
      case atStart => exact ⟨0, a2, Nat.zero_le _, rfl, rfl, h3, h4, ⟨rfl⟩, ⟨by simpa using blk_new w _⟩, ⟨below_alloc (Below.refl _ _) _⟩⟩
      case round =>
        obtain ⟨k, x, hk, rfl, rfl, hx0, hx1, HQ, HC, HB⟩ := hrel
        have hcell : wr.cell? ⟨w.heap.size, 0, none⟩ = some (.slice A0 l0.length c0) := by rw [blk_cell HC.out]; rfl
        by_cases hlt : k < l0.length
        · have hs : l0.length - k = (l0.length - (k + 1)) + 1 := by omega
          have HS := Aside0.mk hs
          clear hs
          by_cases he : a1 = x
          · have hv := HQ.out
            rw [HS.out, domL, if_pos he] at hv
            have HV := Aside0.mk hv
            clear hv
            go_wp2_with fail
            go_ret
            exact ⟨by rw [← HV.out]; first | done | rfl, HB.out⟩
          · have hv := HQ.out
            rw [HS.out, domL, if_neg he] at hv
            have hne : (a1 == x) = false := beq_eq_false_iff_ne.2 he
            clear he
            obtain ⟨ad, e0, hrd⟩ := Kd.at_int (Kd.C_below HR0.out HB.out) x hx0 hx1
            subst e0
            by_cases hin : 0 ≤ rd l0 x ∧ rd l0 x < (l0.length : Int)
            · rw [if_pos hin] at hv
              have HV := Aside0.mk hv
              clear hv
              obtain ⟨hi0, hi1⟩ := hin
              obtain ⟨y, hy⟩ : ∃ y, y = rd l0 x := ⟨_, rfl⟩
              rw [← hy] at hrd hi0 hi1 HV
              clear hy
              go_wp2_with (go_at_call 34; refine (inside_yes w.heap.size (some ad) l0.length c0 _ _ (by exact hcell) (by assumption) (by assumption) hl).mono ?_; rintro e w1 ⟨rfl, rfl⟩)
              go_roundw
              case rel => exact ⟨k + 1, y, by omega, by go_num, rfl, hi0, hi1, HV, HC, HB⟩
              case measure => simp [intOf]; omega
            · rw [if_neg hin] at hv
              have HV := Aside0.mk hv
              have HI := Aside0.mk hin
              clear hv hin
              obtain ⟨y, hy⟩ : ∃ y, y = rd l0 x := ⟨_, rfl⟩
              rw [← hy] at hrd HI
              clear hy
              go_wp2_with (go_at_call 34; refine (inside_no w.heap.size (some ad) l0.length c0 _ _ (by exact hcell) (by exact HI.out) hl).mono ?_; rintro e w1 ⟨rfl, rfl⟩)
              go_ret
              exact ⟨by rw [← HV.out]; first | done | rfl, HB.out⟩
        · have hv := HQ.out
          rw [show l0.length - k = 0 by omega, domL] at hv
          have HV := Aside0.mk hv
          clear hv
          go_wp2_with fail
          go_ret
          exact ⟨by rw [← HV.out]; first | done | rfl, HB.out⟩
    · have hf : domB l0 a1 a2 = false := by unfold domB; rw [if_neg (by omega)]
      rw [hf]
      have HI := Aside0.mk h3
      obtain ⟨h1, h2⟩ := h1
      clear h3 hf
      go_enter Try.func19, Try.ntmps19
      have hbox : ∀ n, ((w.alloc (.cells #[.slice A0 l0.length c0] 29 (0, 0))).drewN n).cell? ⟨w.heap.size, 0, none⟩ = some (.slice A0 l0.length c0) := fun n => by rw [blk_cell (blk_drewN (blk_new w _) _)]; rfl
      have hbox0 : (w.alloc (.cells #[.slice A0 l0.length c0] 29 (0, 0))).cell? ⟨w.heap.size, 0, none⟩ = some (.slice A0 l0.length c0) := hbox 0
      go_wp2_with (first | (go_at_call_of 34 a1; refine (inside_yes w.heap.size A0 l0.length c0 a1 _ (by first | exact hbox0 | exact hbox _) (by assumption) (by assumption) hl).mono ?_; rintro e w1 ⟨rfl, rfl⟩) | (go_at_call_of 34 a2; refine (inside_no w.heap.size A0 l0.length c0 a2 _ (by first | exact hbox0 | exact hbox _) HI.out hl).mono ?_; rintro e w1 ⟨rfl, rfl⟩))
      go_ret
      exact ⟨rfl, below_alloc (Below.refl _ _) _⟩
  · have hf : domB l0 a1 a2 = false := by unfold domB; rw [if_neg (by omega)]
    rw [hf]
    have HI := Aside0.mk h1
    clear h1 hf
    go_enter Try.func19, Try.ntmps19
    have hbox : ∀ n, ((w.alloc (.cells #[.slice A0 l0.length c0] 29 (0, 0))).drewN n).cell? ⟨w.heap.size, 0, none⟩ = some (.slice A0 l0.length c0) := fun n => by rw [blk_cell (blk_drewN (blk_new w _) _)]; rfl
    have hbox0 : (w.alloc (.cells #[.slice A0 l0.length c0] 29 (0, 0))).cell? ⟨w.heap.size, 0, none⟩ = some (.slice A0 l0.length c0) := hbox 0
    go_wp2_with (go_at_call 34; refine (inside_no w.heap.size A0 l0.length c0 _ _ (by first | exact hbox0 | exact hbox _) HI.out hl).mono ?_; rintro e w1 ⟨rfl, rfl⟩)
    go_ret
    exact ⟨rfl, below_alloc (Below.refl _ _) _⟩


def dominator_Dominates.f (l0 : List Int) (a1 : Int) (a2 : Int) : Option Bool := some (domB l0 a1 a2)
theorem dominator_Dominates.calls (A0 : Option Addr) (c0 : Nat) (l0 : List Int) (a1 : Int) (a2 : Int) (r : Bool) (w : World) (hr0 : Kd.C (Kd.int .i64) w A0 l0.length l0) (hc0 : l0.length ≤ c0) (h : dominator_Dominates.f l0 a1 a2 = some r) :
    Calls Try.prog 19 #[.slice A0 l0.length c0, .int .i64 a1, .int .i64 a2] w fun e w' => e = .returned (.bool r) ∧ Below w.heap.size w w' := by
  have e : domB l0 a1 a2 = r := Option.some.inj h
  rw [← e]
  exact dom_calls A0 c0 l0 a1 a2 w hr0 hc0

end Go.Proofs.Ytnkbmpdghjhlfaa.P
