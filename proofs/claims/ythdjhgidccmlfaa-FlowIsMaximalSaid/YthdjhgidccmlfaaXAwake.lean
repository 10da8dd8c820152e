/- The contract of ontimelaw47.awake: the chapter's examples. -/
import Derived.Test.YthdjhgidccmlfaaXMax
import Derived.Test.YthdjhgidccmlfaaXSchedule
import Derived.Outline
namespace Go.Proofs.Ythdjhgidccmlfaa.P
open Go.RowKit Go.Proofs.YthdjhgidccmlfaaW.PrintWords Go.Proofs.YthdjhgidccmlfaaW.PrintLast Go.Proofs.YthdjhgidccmlfaaW.PrintMore
attribute [local go_sem] max2_int min2_int max_two min_two max_three min_three max_four min_four
set_option linter.unusedVariables false
set_option linter.unusedSimpArgs false

/-- A list of numbers written out in a new block. -/
theorem lit_C (W : World) (xs : List Int) (hm : xs.length ≤ 9223372036854775807) : Kd.C (Kd.int .i64) (W.alloc (.cells (nums .i64 xs).toArray 3)) (some ⟨W.heap.size, 0, none⟩) xs.length xs := by
  refine ⟨rfl, hm, fun _ => ⟨_, rfl, fun j p hj => ⟨[.int .i64 p], rfl, rfl, fun i u hu => ?_⟩⟩⟩
  have hi : i = 0 := by
    have := (List.getElem?_eq_some_iff.1 hu).1
    simp at this
    omega
  subst hi
  simp at hu
  subst hu
  rw [show (Kd.int .i64).sz = 1 from rfl, Nat.mul_one, Nat.add_zero, add_plain, blk_cell (blk_new W _)]
  simp [nums, hj]
def awN : List (List Int) := [[0, 3, 2, 0], [0, 0, 5, 2], [0, 0, 0, 4], [0, 0, 0, 0]]
theorem aw1 : flow_Max.f 300 awN 0 3 = some (5, [[0, 3, 2, 0], [0, 0, 1, 2], [0, 0, 0, 3], [0, 0, 0, 0]], 0) := by kernel_rfl
theorem aw2 : flow_Schedule.f 300 [⟨0, 3, 2⟩, ⟨0, 3, 2⟩, ⟨0, 3, 2⟩] 2 = some ([[1, 2], [0, 1], [0, 2]], true, 0) := by kernel_rfl
theorem aw3 : flow_Schedule.f 300 [⟨0, 2, 2⟩, ⟨0, 2, 2⟩, ⟨0, 2, 2⟩] 2 = some ([], false, 0) := by kernel_rfl
theorem aw4 : flow_Witness.f 300 [⟨0, 2, 2⟩, ⟨0, 2, 2⟩, ⟨0, 2, 2⟩] 2 = some ([0, 1, 2], [0, 1], true) := by kernel_rfl
def ontimelaw47_awake.f : Option Bool := some true

theorem jobs_C (W : World) (d : Int) : Kd.C k83 (W.alloc (.cells #[.int .i64 0, .int .i64 d, .int .i64 2, .int .i64 0, .int .i64 d, .int .i64 2, .int .i64 0, .int .i64 d, .int .i64 2] 83)) (some ⟨W.heap.size, 0, none⟩) 3 [⟨0, d, 2⟩, ⟨0, d, 2⟩, ⟨0, d, 2⟩] := by
  refine ⟨rfl, by decide, fun _ => ⟨_, rfl, fun j p hj => ?_⟩⟩
  have hp : p = ⟨0, d, 2⟩ ∧ j < 3 := by
    match j, hj with
    | 0, hj => exact ⟨by simpa using hj.symm, by omega⟩
    | 1, hj => exact ⟨by simpa using hj.symm, by omega⟩
    | 2, hj => exact ⟨by simpa using hj.symm, by omega⟩
    | j + 3, hj => simp at hj
  obtain ⟨rfl, hj3⟩ := hp
  refine ⟨_, rfl, k83_mk _ _, fun i u hu => ?_⟩
  have hi : i < 3 := (List.getElem?_eq_some_iff.1 hu).1
  rw [show k83.sz = 3 from rfl, add_plain, blk_cell (blk_new W _)]
  rw [← hu]
  match j, hj3, i, hi with
  | 0, _, 0, _ => rfl
  | 0, _, 1, _ => rfl
  | 0, _, 2, _ => rfl
  | 1, _, 0, _ => rfl
  | 1, _, 1, _ => rfl
  | 1, _, 2, _ => rfl
  | 2, _, 0, _ => rfl
  | 2, _, 1, _ => rfl
  | 2, _, 2, _ => rfl
set_option maxRecDepth 100000 in
theorem jobs_calls (d : Int) (w : World) : Calls Try.prog 68 #[.int .i64 d] w fun e w' => ∃ A, e = .returned (.slice A 3 3) ∧ Kd.C k83 w' A 3 [⟨0, d, 2⟩, ⟨0, d, 2⟩, ⟨0, d, 2⟩] ∧ Below w.heap.size w w' := by
  have hu83 := Try.underlying83
  go_enter Try.func68, Try.ntmps68
  go_wp2_with fail
  go_ret
  exact ⟨_, rfl, by (have q := jobs_C (w.alloc (.cells #[.int .i64 0, .int .i64 d, .int .i64 2] 83)) d; rw [World.size_alloc] at q; exact q), below_alloc (below_alloc (Below.refl _ _) _) _⟩

theorem aw_C (W : World) : Kd.C (Kd.slice 3 (Kd.int .i64)) (((((W.alloc (.cells #[.int .i64 0, .int .i64 3, .int .i64 2, .int .i64 0] 3)).alloc (.cells #[.int .i64 0, .int .i64 0, .int .i64 5, .int .i64 2] 3)).alloc (.cells #[.int .i64 0, .int .i64 0, .int .i64 0, .int .i64 4] 3)).alloc (.cells #[.int .i64 0, .int .i64 0, .int .i64 0, .int .i64 0] 3)).alloc (.cells #[.slice (some ⟨W.heap.size, 0, none⟩) 4 4, .slice (some ⟨W.heap.size + 1, 0, none⟩) 4 4, .slice (some ⟨W.heap.size + 2, 0, none⟩) 4 4, .slice (some ⟨W.heap.size + 3, 0, none⟩) 4 4] 55)) (some ⟨W.heap.size + 4, 0, none⟩) 4 awN := by
  have c0 := lit_C W [0, 3, 2, 0] (by decide)
  have c1 := lit_C (W.alloc (.cells #[.int .i64 0, .int .i64 3, .int .i64 2, .int .i64 0] 3)) [0, 0, 5, 2] (by decide)
  have c2 := lit_C ((W.alloc (.cells #[.int .i64 0, .int .i64 3, .int .i64 2, .int .i64 0] 3)).alloc (.cells #[.int .i64 0, .int .i64 0, .int .i64 5, .int .i64 2] 3)) [0, 0, 0, 4] (by decide)
  have c3 := lit_C (((W.alloc (.cells #[.int .i64 0, .int .i64 3, .int .i64 2, .int .i64 0] 3)).alloc (.cells #[.int .i64 0, .int .i64 0, .int .i64 5, .int .i64 2] 3)).alloc (.cells #[.int .i64 0, .int .i64 0, .int .i64 0, .int .i64 4] 3)) [0, 0, 0, 0] (by decide)
  simp only [World.size_alloc] at c1 c2 c3
  refine ⟨rfl, by decide, fun _ => ⟨_, rfl, fun j p hj => ?_⟩⟩
  have hcell : ∀ i u, (#[Value.slice (some ⟨W.heap.size, 0, none⟩) 4 4, .slice (some ⟨W.heap.size + 1, 0, none⟩) 4 4, .slice (some ⟨W.heap.size + 2, 0, none⟩) 4 4, .slice (some ⟨W.heap.size + 3, 0, none⟩) 4 4] : Array Value)[i]? = some u → (((((W.alloc (.cells #[.int .i64 0, .int .i64 3, .int .i64 2, .int .i64 0] 3)).alloc (.cells #[.int .i64 0, .int .i64 0, .int .i64 5, .int .i64 2] 3)).alloc (.cells #[.int .i64 0, .int .i64 0, .int .i64 0, .int .i64 4] 3)).alloc (.cells #[.int .i64 0, .int .i64 0, .int .i64 0, .int .i64 0] 3)).alloc (.cells #[.slice (some ⟨W.heap.size, 0, none⟩) 4 4, .slice (some ⟨W.heap.size + 1, 0, none⟩) 4 4, .slice (some ⟨W.heap.size + 2, 0, none⟩) 4 4, .slice (some ⟨W.heap.size + 3, 0, none⟩) 4 4] 55)).cell? ⟨W.heap.size + 4, i, none⟩ = some u := by
    intro i u hu
    have h := blk_new ((((W.alloc (.cells #[.int .i64 0, .int .i64 3, .int .i64 2, .int .i64 0] 3)).alloc (.cells #[.int .i64 0, .int .i64 0, .int .i64 5, .int .i64 2] 3)).alloc (.cells #[.int .i64 0, .int .i64 0, .int .i64 0, .int .i64 4] 3)).alloc (.cells #[.int .i64 0, .int .i64 0, .int .i64 0, .int .i64 0] 3)) (.cells #[.slice (some ⟨W.heap.size, 0, none⟩) 4 4, .slice (some ⟨W.heap.size + 1, 0, none⟩) 4 4, .slice (some ⟨W.heap.size + 2, 0, none⟩) 4 4, .slice (some ⟨W.heap.size + 3, 0, none⟩) 4 4] 55 (0, 0))
    simp only [World.size_alloc] at h
    rw [blk_cell h]
    exact hu
  have one : ∀ (c : List Value) (v : Value), c = [v] → (#[Value.slice (some ⟨W.heap.size, 0, none⟩) 4 4, .slice (some ⟨W.heap.size + 1, 0, none⟩) 4 4, .slice (some ⟨W.heap.size + 2, 0, none⟩) 4 4, .slice (some ⟨W.heap.size + 3, 0, none⟩) 4 4] : Array Value)[j]? = some v → ∀ i u, c[i]? = some u → (((((W.alloc (.cells #[.int .i64 0, .int .i64 3, .int .i64 2, .int .i64 0] 3)).alloc (.cells #[.int .i64 0, .int .i64 0, .int .i64 5, .int .i64 2] 3)).alloc (.cells #[.int .i64 0, .int .i64 0, .int .i64 0, .int .i64 4] 3)).alloc (.cells #[.int .i64 0, .int .i64 0, .int .i64 0, .int .i64 0] 3)).alloc (.cells #[.slice (some ⟨W.heap.size, 0, none⟩) 4 4, .slice (some ⟨W.heap.size + 1, 0, none⟩) 4 4, .slice (some ⟨W.heap.size + 2, 0, none⟩) 4 4, .slice (some ⟨W.heap.size + 3, 0, none⟩) 4 4] 55)).cell? ((⟨W.heap.size + 4, 0, none⟩ : Addr).add (j * (Kd.slice 3 (Kd.int .i64)).sz + i)) = some u := by
    rintro c v rfl hv i u hu
    have hi : i = 0 := by
      have := (List.getElem?_eq_some_iff.1 hu).1
      simp at this
      omega
    subst hi
    simp at hu
    subst hu
    rw [show (Kd.slice 3 (Kd.int .i64)).sz = 1 from rfl, Nat.mul_one, Nat.add_zero, add_plain]
    exact hcell j v hv
  match j, hj with
  | 0, hj =>
    obtain rfl : p = [0, 3, 2, 0] := by simpa [awN] using hj.symm
    exact ⟨_, rfl, ⟨_, 4, rfl, by decide, (Kd.C_alloc (Kd.C_alloc (Kd.C_alloc (Kd.C_alloc c0 _) _) _) _)⟩, one _ _ rfl rfl⟩
  | 1, hj =>
    obtain rfl : p = [0, 0, 5, 2] := by simpa [awN] using hj.symm
    exact ⟨_, rfl, ⟨_, 4, rfl, by decide, (Kd.C_alloc (Kd.C_alloc (Kd.C_alloc c1 _) _) _)⟩, one _ _ rfl rfl⟩
  | 2, hj =>
    obtain rfl : p = [0, 0, 0, 4] := by simpa [awN] using hj.symm
    exact ⟨_, rfl, ⟨_, 4, rfl, by decide, (Kd.C_alloc (Kd.C_alloc c2 _) _)⟩, one _ _ rfl rfl⟩
  | 3, hj =>
    obtain rfl : p = [0, 0, 0, 0] := by simpa [awN] using hj.symm
    exact ⟨_, rfl, ⟨_, 4, rfl, by decide, (Kd.C_alloc c3 _)⟩, one _ _ rfl rfl⟩
  | j + 4, hj => simp [awN] at hj

set_option maxHeartbeats 4000000 in
set_option maxRecDepth 100000 in
theorem ontimelaw47_awake.calls (r : Bool) (w : World) (h : ontimelaw47_awake.f = some r) :
    Calls Try.prog 41 #[] w fun e w' => e = .returned (.bool r) ∧ Below w.heap.size w w' := by
  obtain rfl : r = true := by simpa [ontimelaw47_awake.f] using h.symm
  clear h
  go_enter Try.func41, Try.ntmps41
  go_wp2_with fail
  refine (flow_Max.calls 300 _ _ awN 0 3 _ _ _ _ (aw_C w) (by decide) aw1).mono ?_
  rintro e w1 ⟨v0, rfl, _, hB⟩
  have HB1 := Aside0.mk (below_step (below_alloc (below_alloc (below_alloc (below_alloc (below_alloc (Below.refl _ _) _) _) _) _) _) hB)
  clear hB
  dsimp only
  go_wp2_with fail
  refine (jobs_calls 3 _).mono ?_
  rintro e w2 ⟨A2, rfl, hC, hB⟩
  have HB2 := Aside0.mk (below_step HB1.out hB)
  have HC2 := Aside0.mk hC
  clear hB hC HB1
  dsimp only
  go_wp2_with fail
  refine (flow_Schedule.calls 300 _ _ _ 2 _ _ _ _ HC2.out (by decide) aw2).mono ?_
  rintro e w3 ⟨v3, rfl, _, hB⟩
  have HB3 := Aside0.mk (below_step HB2.out hB)
  clear hB HB2 HC2
  dsimp only
  go_wp2_with fail
  refine (jobs_calls 2 _).mono ?_
  rintro e w4 ⟨A4, rfl, hC, hB⟩
  have HB4 := Aside0.mk (below_step HB3.out hB)
  have HC4 := Aside0.mk hC
  clear hB hC HB3
  dsimp only
  go_wp2_with fail
  refine (flow_Schedule.calls 300 _ _ _ 2 _ _ _ _ HC4.out (by decide) aw3).mono ?_
  rintro e w5 ⟨v5, rfl, _, hB⟩
  have HB5 := Aside0.mk (below_step HB4.out hB)
  clear hB HB4 HC4
  dsimp only
  go_wp2_with fail
  refine (jobs_calls 2 _).mono ?_
  rintro e w6 ⟨A6, rfl, hC, hB⟩
  have HB6 := Aside0.mk (below_step HB5.out hB)
  have HC6 := Aside0.mk hC
  clear hB hC HB5
  dsimp only
  go_wp2_with fail
  refine (flow_Witness.calls 300 _ _ _ 2 _ _ _ _ HC6.out (by decide) aw4).mono ?_
  rintro e w7 ⟨v7, v8, rfl, _, _, hB⟩
  have HB7 := Aside0.mk (below_step HB6.out hB)
  clear hB HB6 HC6
  dsimp only
  go_wp2_with fail
  go_ret
  exact ⟨rfl, HB7.out⟩
end Go.Proofs.Ythdjhgidccmlfaa.P
