/- The contract of flow.maximize. -/
import Derived.Test.YthdjhgidccmlfaaXAugment
import Derived.Test.YthdjhgidccmlfaaXClone
import Derived.Test.YthdjhgidccmlfaaPx2
namespace Go.Proofs.Ythdjhgidccmlfaa.P
open Go.RowKit Go.Proofs.YthdjhgidccmlfaaW.PrintWords Go.Proofs.YthdjhgidccmlfaaW.PrintLast Go.Proofs.YthdjhgidccmlfaaW.PrintMore
attribute [local go_sem] max2_int min2_int max_two min_two max_three min_three max_four min_four
set_option linter.unusedVariables false
set_option linter.unusedSimpArgs false

theorem leastF_mono (rows : List (List Int)) (before : List Int) (s : Int) : ∀ k v a, LeO (leastF rows before s k v a) (leastF rows before s (k + 1) v a)
  | 0, v, a => LeO.none _
  | k + 1, v, a => by
    unfold leastF
    exact LeO.ite (LeO.refl _) (LeO.ite (leastF_mono rows before s k _ _) (LeO.refl _))
theorem pushF_mono (before : List Int) (s least : Int) : ∀ k v rows, LeO (pushF before s least k v rows) (pushF before s least (k + 1) v rows)
  | 0, v, a => LeO.none _
  | k + 1, v, a => by
    unfold pushF
    exact LeO.ite (LeO.refl _) (LeO.ite (pushF_mono before s least k _ _) (LeO.refl _))
theorem augF_mono (k : Nat) (rows : List (List Int)) (before : List Int) (s t : Int) : LeO (augF k rows before s t) (augF (k + 1) rows before s t) := by
  unfold augF
  exact LeO.bind (leastF_mono _ _ _ _ _ _) (fun _ => LeO.bind (pushF_mono _ _ _ _ _ _) (fun _ => LeO.refl _))
def maxF (s t : Int) : Nat → List (List Int) → Int → Option (Int × List (List Int))
  | 0, _, _ => none
  | k + 1, rows, value => (flow_network_search.f k rows s).bind fun before => if 0 < rows.length ∧ 0 ≤ t ∧ t < (before.length : Int) then
      (if rd before t < 0 then some (value, rows) else (augF k rows before s t).bind fun p => maxF s t k p.2 (wrap64 (value + p.1))) else none
theorem maxF_mono (s t : Int) : ∀ k rows value, LeO (maxF s t k rows value) (maxF s t (k + 1) rows value)
  | 0, rows, value => LeO.none _
  | k + 1, rows, value => by
    unfold maxF
    exact LeO.bind (flow_network_search.mono _ _ _) (fun _ => LeO.ite (LeO.ite (LeO.refl _) (LeO.bind (augF_mono _ _ _ _ _) (fun _ => maxF_mono s t k _ _))) (LeO.refl _))
def flow_maximize.f (k : Nat) (l0 : List (List Int)) (a1 a2 : Int) : Option (Int × List (List Int)) :=
  if l0.length ≤ 4398046511104 ∧ ∀ r ∈ l0, r.length ≤ 17592186044416 then maxF a1 a2 k l0 0 else none
theorem flow_maximize.mono : ∀ a0 a1 a2 k, LeO (flow_maximize.f k a0 a1 a2) (flow_maximize.f (k + 1) a0 a1 a2) := by
  intro a0 a1 a2 k
  unfold flow_maximize.f
  exact LeO.ite (maxF_mono _ _ _ _ _) (LeO.refl _)

set_option maxHeartbeats 4000000 in
set_option maxRecDepth 100000 in
theorem flow_maximize.calls (k : Nat) (A0 : Option Addr) (c0 : Nat) (l0 : List (List Int)) (a1 a2 : Int) (r0 : Int) (r1 : List (List Int)) (w : World) (hr0 : Kd.C (Kd.slice 3 (Kd.int .i64)) w A0 l0.length l0) (hc0 : l0.length ≤ c0) (h : flow_maximize.f k l0 a1 a2 = some (r0, r1)) :
    Calls Try.prog 72 #[.slice A0 l0.length c0, .int .i64 a1, .int .i64 a2] w fun e w' => ∃ v0_ : Value, e = .returned (.tuple #[.int .i64 r0, v0_]) ∧ Kd.S (Kd.slice 3 (Kd.int .i64)) 55 w' w.heap.size (fun _ => True) v0_ r1 ∧ Below w.heap.size w w' := by
  unfold flow_maximize.f at h
  split at h
  · rename_i hq
    have HQ := Aside0.mk hq
    have H := Aside0.mk h
    have HR := Aside0.mk hr0
    have hm : l0.length ≤ 9223372036854775807 := hr0.2.1
    clear h hr0 hq
    go_enter Try.func72, Try.ntmps72
    go_wp2_with fail
    go_loopw [8, 10, 15] (fun v8 _ i wr => ∃ j : Nat, j ≤ l0.length ∧ i = .int .i64 j ∧ Aside0 (RR wr w.heap.size (fun _ => True) v8 (l0.take j)) ∧ Aside0 (Below w.heap.size w wr)) (fun _ _ i _ => l0.length - (intOf i).toNat)
    case atStart => exact ⟨0, Nat.zero_le _, rfl, ⟨by rw [List.take_zero]; exact Kd.S_nil _ _ _ _ _⟩, ⟨Below.refl _ _⟩⟩
    case round =>
      obtain ⟨j, hj, rfl, HS, HB⟩ := hrel
      by_cases hlt : j < l0.length
      · obtain ⟨ad, A4, c4, rfl, x1, l4, h4⟩ := at_L4 (Kd.C_below HR.out HB.out) j (by omega) (by omega)
        rw [Int.toNat_natCast] at x1
        have hl4 : (rd_L4 l0 (j : Int)).length ≤ 17592186044416 := HQ.out.2 _ (by
          unfold rd_L4
          rw [Int.toNat_natCast, List.getD_eq_getElem?_getD, List.getElem?_eq_getElem hlt]
          exact List.getElem_mem hlt)
        have X4 := Aside0.mk (And.intro l4 (And.intro h4 hl4))
        clear l4 h4 hl4
        go_wp2_with (first
          | (go_at_call 87; refine (slices_Clone_int_int.calls A4 c4 (rd_L4 l0 (j : Int)) (rd_L4 l0 (j : Int)) wr X4.out.2.1 X4.out.1 (by unfold slices_Clone_int_int.f; rw [if_pos X4.out.2.2])).mono ?_; rintro e w1 ⟨vc, rfl, hR, hb⟩; have HCL := Aside0.mk hR; have HB1 := Aside0.mk hb; clear hR hb; obtain ⟨Ac, cc, eo⟩ := Kd.R_slice HCL.out; subst eo)
          | ((with_reducible refine gate_builtin (b := .append) (xs := #[.tmp 19, .tmp 22]) rfl ?_); (try (refine gate_guard (by rfl) ?_; dsimp only)); at_builtin; refine Kd.S_append (Kd.slice 3 (Kd.int .i64)) (w0 := w) w.heap.size rfl (.tmp 19) (.tmp 22) 105 55 (.slice none 0 0) 24 rfl Try.underlying105 info55 rfl (by decide) (by omega) u8 (l0.take j) (rd_L4 l0 (j : Int)) [.slice Ac (rd_L4 l0 (j : Int)).length cc] (fun _ => True) (fun q => wr.heap.size ≤ q) rfl rfl ?aP ?aK (fun _ _ => trivial) ?aO ?aB ?aS ?aL ?_; (case aP => exact ⟨_, rfl, Kd.R_mono (Kd.R_lower (Kd.R_bound HCL.out) HB.out.size) (fun q hq => hq.2.1)⟩); (case aK => exact fun q hq => ⟨trivial, fun e_ => by have := Kd.S_lt HS.out q e_.symm; have hq : wr.heap.size ≤ q := hq; omega⟩); (case aO => exact Kd.S_mono (Kd.S_below (Kd.S_bound HS.out) HB1.out) (fun q hq => ⟨trivial, fun hq2 => by have h3 := hq.2.2.1; have hq2 : wr.heap.size ≤ q := hq2; omega⟩)); (case aB => exact below_step HB.out HB1.out); (case aS => exact (below_step HB.out HB1.out).size); (case aL => have := HQ.out.1; rw [List.length_take]; omega); intro v2 w2 ho hb hg_ hat_; have HS2 := Aside0.mk ho; have HB2 := Aside0.mk hb; clear ho hb hg_ hat_ HS HCL HB1))
        have e1 : l0.take j ++ [rd_L4 l0 (j : Int)] = l0.take (j + 1) := by
          rw [List.take_succ_eq_append_getElem hlt]
          congr 2
          unfold rd_L4
          rw [Int.toNat_natCast, List.getD_eq_getElem?_getD, List.getElem?_eq_getElem hlt]
          rfl
        rw [e1] at HS2
        go_roundw
        case rel => exact ⟨j + 1, by omega, by go_num, HS2, HB2⟩
        case measure => simp [intOf]; omega
      · obtain rfl : j = l0.length := by omega
        rw [List.take_length] at HS
        obtain ⟨inner, hown⟩ := Kd.S_own HS.out
        obtain ⟨A8, c8, rfl⟩ := own_slice hown
        clear hown
        go_wp2_with fail
        clear hm
        go_loopg [11, 12] k (fun kq v11 _ w' => ∃ (value : Int) (rows : List (List Int)), v11 = .int .i64 value ∧ Aside0 (maxF a1 a2 kq rows value = some (r0, r1)) ∧ Aside0 (rows.length = l0.length) ∧ Aside0 (RR w' w.heap.size (fun _ => True) (.slice A8 l0.length c8) rows) ∧ Aside0 (Below w.heap.size w w'))
        case atStart => exact ⟨0, l0, rfl, H, ⟨rfl⟩, HS, HB⟩
        case round =>
          clear H HS HB
          obtain ⟨value, rows, rfl, H, HLn, HS, HB⟩ := hrel
          cases gk with
          | zero => exact absurd H.out (by simp [maxF])
          | succ k1 =>
          have h := H.out
          unfold maxF at h
          obtain ⟨before, hse, h⟩ := Option.bind_eq_some_iff.1 h
          split at h
          · rename_i hq
            obtain ⟨q0, q1, q2⟩ := hq
            have hln := HLn.out
            rw [← hln] at HS ⊢
            clear hln
            have hcap := (Kd.S_reads' HS.out).2.1
            have hC := Aside0.mk (Kd.S_reads' HS.out).2.2
            obtain ⟨g, rfl⟩ := rows_addr HS.out q0
            have HSE := Aside0.mk hse
            have HCP := Aside0.mk hcap
            clear hse hcap H
            go_upto_region 9 with (go_at_call 74; refine (flow_network_search.calls k1 _ c8 rows a1 before wr hC.out HCP.out HSE.out).mono ?_; rintro e w1 ⟨vb, rfl, hR, hb⟩; have HBf := Aside0.mk hR; have HB1 := Aside0.mk hb; clear hR hb; obtain ⟨Ab, cb, eo⟩ := Kd.R_slice HBf.out; subst eo)
            have HBe := Aside0.mk (below_step HB.out HB1.out)
            have HSB := Aside0.mk (Kd.S_mono (ok' := fun q => q < wr.heap.size) (Kd.S_below (Kd.S_bound HS.out) HB1.out) (fun q hq => hq.2.2.1))
            have HRB := Aside0.mk (Kd.R_mono (ok' := fun q => wr.heap.size ≤ q) (Kd.R_lower (Kd.R_bound HBf.out) HB.out.size) (fun q hq => hq.2.1))
            obtain ⟨ad, rfl, x1⟩ := cell_row (Kd.R_reads' HBf.out).2.2 a2 q1 q2
            clear HS HB HBf HB1 hC
            by_cases hneg : rd before a2 < 0
            · rw [if_pos hneg] at h
              obtain ⟨rfl, rfl⟩ : value = r0 ∧ rows = r1 := by simpa using h
              go_wp2_with fail
              go_ret2
              exact ⟨_, rfl, Kd.S_mono HSB.out (fun _ _ => trivial), HBe.out⟩
            · rw [if_neg hneg] at h
              obtain ⟨⟨least, rows'⟩, hau, h⟩ := Option.bind_eq_some_iff.1 h
              have HAU := Aside0.mk hau
              have HH := Aside0.mk h
              clear h hau
              have hneg' : decide (rd before a2 < 0) = false := decide_eq_false hneg
              go_wp2_with (go_at_call 88; refine (aug_calls k1 w w1 w.heap.size wr.heap.size g c8 (some ad) cb rows before a1 a2 least rows' HSB.out HRB.out HBe.out HBe.out.size HAU.out).mono ?_; rintro e w2 ⟨rfl, hS, hb⟩; have HS2 := Aside0.mk (Kd.S_mono (ok' := fun _ => True) hS (fun _ _ => trivial)); have HB2 := Aside0.mk hb; clear hS hb HSB HRB HBe x1)
              rw [HLn.out]
              go_roundg k1
              case measure => omega
              case rel => exact ⟨wrap64 (value + least), rows', rfl, HH, ⟨by have := (Kd.S_reads' HS2.out).1; have := HLn.out; omega⟩, by rw [HLn.out] at HS2; exact HS2, HB2⟩
          · simp at h
  · simp at h
end Go.Proofs.Ythdjhgidccmlfaa.P
