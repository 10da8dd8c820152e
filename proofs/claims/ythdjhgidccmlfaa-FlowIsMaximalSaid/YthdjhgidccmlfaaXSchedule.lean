/- The contract of flow.Schedule. -/
import Derived.Test.YthdjhgidccmlfaaXRows
import Derived.Test.YthdjhgidccmlfaaXAdmit
import Derived.Test.YthdjhgidccmlfaaXAugment
import Derived.Test.YthdjhgidccmlfaaPx3
namespace Go.Proofs.Ythdjhgidccmlfaa.P
open Go.RowKit Go.Proofs.YthdjhgidccmlfaaW.PrintWords Go.Proofs.YthdjhgidccmlfaaW.PrintLast Go.Proofs.YthdjhgidccmlfaaW.PrintMore
attribute [local go_sem] max2_int min2_int max_two min_two max_three min_three max_four min_four
set_option linter.unusedVariables false
set_option linter.unusedSimpArgs false

/-- One job's slots: where the residual edge is used up, the job runs. -/
def schedRow (res : List (List Int)) (jobs i dl : Int) : Nat → Int → List (List Int) → Option (List (List Int))
  | 0, s, out => if s < dl then none else some out
  | d + 1, s, out => if s < dl then
      (if 0 ≤ wrap64 (1 + i) ∧ wrap64 (1 + i) < (res.length : Int) ∧ 0 ≤ wrap64 (wrap64 (1 + jobs) + s) ∧ wrap64 (wrap64 (1 + jobs) + s) < ((rd_L4 res (wrap64 (1 + i))).length : Int) ∧ 0 ≤ s ∧ s < (out.length : Int) ∧ (rd_L4 out s).length < 1000000 then
        schedRow res jobs i dl d (wrap64 (s + 1)) (if rd (rd_L4 res (wrap64 (1 + i))) (wrap64 (wrap64 (1 + jobs) + s)) = 0 then out.set s.toNat (rd_L4 out s ++ [i]) else out) else none) else some out
def schedAll (res : List (List Int)) (jobs : Int) (k : Nat) : Nat → List S83 → List (List Int) → Option (List (List Int))
  | _, [], out => some out
  | i, j :: r, out => (schedRow res jobs i j.f1 k j.f0 out).bind fun out' => schedAll res jobs k (i + 1) r out'
def flow_Schedule.f (k : Nat) (l0 : List S83) (a1 : Int) : Option (List (List Int) × Bool × Int) :=
  (flow_admit.f l0 a1).bind fun b => if b = true then ((flow_assign.f k l0 a1).bind fun p => if p.2.2.2.1 < p.2.2.1 then some ([], false, 0) else
    (if 0 ≤ p.2.1 ∧ p.2.1 ≤ 1000000 then (schedAll p.2.2.2.2 p.1 k 0 l0 (List.replicate p.2.1.toNat [])).bind fun out => some (out, true, 0) else none)) else some ([], false, 1)
theorem schedRow_mono (res : List (List Int)) (jobs i dl : Int) : ∀ d s out, LeO (schedRow res jobs i dl d s out) (schedRow res jobs i dl (d + 1) s out)
  | 0, s, out => by
    unfold schedRow
    split
    · exact LeO.none _
    · exact LeO.refl _
  | d + 1, s, out => by
    unfold schedRow
    exact LeO.ite (LeO.ite (schedRow_mono res jobs i dl d _ _) (LeO.refl _)) (LeO.refl _)
theorem schedAll_mono (res : List (List Int)) (jobs : Int) (k : Nat) : ∀ i l out, LeO (schedAll res jobs k i l out) (schedAll res jobs (k + 1) i l out)
  | i, [], out => LeO.refl _
  | i, j :: r, out => by
    unfold schedAll
    exact LeO.bind (schedRow_mono _ _ _ _ _ _ _) (fun _ => schedAll_mono res jobs k _ r _)
theorem flow_Schedule.mono : ∀ a0 a1 k, LeO (flow_Schedule.f k a0 a1) (flow_Schedule.f (k + 1) a0 a1) := by
  intro a0 a1 k
  unfold flow_Schedule.f
  exact LeO.bind (LeO.refl _) (fun _ => LeO.ite (LeO.bind (flow_assign.mono _ _ _) (fun _ => LeO.ite (LeO.refl _) (LeO.ite (LeO.bind (schedAll_mono _ _ _ _ _ _) (fun _ => LeO.refl _)) (LeO.refl _)))) (LeO.refl _))

set_option maxHeartbeats 8000000 in
set_option maxRecDepth 100000 in
theorem flow_Schedule.calls (k : Nat) (A0 : Option Addr) (c0 : Nat) (l0 : List S83) (a1 : Int) (r1 : List (List Int)) (r2 : Bool) (r3 : Int) (w : World) (hr0 : Kd.C k83 w A0 l0.length l0) (hc0 : l0.length ≤ c0) (h : flow_Schedule.f k l0 a1 = some (r1, r2, r3)) :
    Calls Try.prog 43 #[.slice A0 l0.length c0, .int .i64 a1] w fun e w' => ∃ v0_ : Value, e = .returned (.tuple #[v0_, .bool r2, .int .i64 r3]) ∧ Kd.S (Kd.slice 3 (Kd.int .i64)) 55 w' w.heap.size (fun _ => True) v0_ r1 ∧ Below w.heap.size w w' := by
  have hu107 := Try.underlying107
  have hu83 := Try.underlying83
  unfold flow_Schedule.f at h
  obtain ⟨b, hv, h⟩ := Option.bind_eq_some_iff.1 h
  have HV := Aside0.mk hv
  have HR := Aside0.mk hr0
  have HC := Aside0.mk hc0
  have hm : l0.length ≤ 9223372036854775807 := hr0.2.1
  clear hv hr0 hc0
  cases b with
  | false =>
    rw [if_neg (by simp)] at h
    obtain ⟨rfl, rfl, rfl⟩ : [] = r1 ∧ false = r2 ∧ 1 = r3 := by simpa using h
    clear h
    go_enter Try.func43, Try.ntmps43
    go_wp2_with (go_at_call 69; refine (flow_admit.calls A0 c0 l0 a1 false w HR.out HC.out HV.out).mono ?_; rintro e w1 ⟨rfl, hb⟩; have HB1 := Aside0.mk hb; clear hb)
    go_ret3
    exact ⟨_, rfl, Kd.S_nil _ _ _ _ _, HB1.out⟩
  | true =>
    rw [if_pos rfl] at h
    obtain ⟨⟨jobs, slots, total, value, res⟩, has, h⟩ := Option.bind_eq_some_iff.1 h
    dsimp only at h
    have HAS := Aside0.mk has
    clear has
    by_cases hlt : value < total
    · rw [if_pos hlt] at h
      obtain ⟨rfl, rfl, rfl⟩ : [] = r1 ∧ false = r2 ∧ 0 = r3 := by simpa using h
      have d1 := decide_eq_true hlt
      clear h hlt
      go_enter Try.func43, Try.ntmps43
      go_wp2_with (first
        | (go_at_call 69; refine (flow_admit.calls A0 c0 l0 a1 true w HR.out HC.out HV.out).mono ?_; rintro e w1 ⟨rfl, hb⟩; have HB1 := Aside0.mk hb; clear hb)
        | (go_at_call 70; refine (flow_assign.calls k A0 c0 l0 a1 jobs slots total value res w1 (Kd.C_below HR.out HB1.out) HC.out HAS.out).mono ?_; rintro e w2 ⟨vr, rfl, hS, hb⟩; have HRS := Aside0.mk hS; have HB2 := Aside0.mk (below_step HB1.out hb); clear hS hb HB1; obtain ⟨Ar, cr, rfl⟩ := Kd.S_slice HRS.out))
      go_ret3
      exact ⟨_, rfl, Kd.S_nil _ _ _ _ _, below_alloc HB2.out _⟩
    · rw [if_neg hlt] at h
      have d1 := decide_eq_false hlt
      split at h
      · rename_i hsl
        obtain ⟨out, hsa, h⟩ := Option.bind_eq_some_iff.1 h
        obtain ⟨rfl, rfl, rfl⟩ : out = r1 ∧ true = r2 ∧ 0 = r3 := by simpa using h
        have HSL := Aside0.mk hsl
        have HSA := Aside0.mk hsa
        clear h hlt hsl hsa
        go_enter Try.func43, Try.ntmps43
        go_upto_region 6 with (first
          | (go_at_call 69; refine (flow_admit.calls A0 c0 l0 a1 true w HR.out HC.out HV.out).mono ?_; rintro e w1 ⟨rfl, hb⟩; have HB1 := Aside0.mk hb; clear hb)
          | (go_at_call 70; refine (flow_assign.calls k A0 c0 l0 a1 jobs slots total value res w1 (Kd.C_below HR.out HB1.out) HC.out HAS.out).mono ?_; rintro e w2 ⟨vr, rfl, hS, hb⟩; have HRS := Aside0.mk hS; have HB2 := Aside0.mk (below_step HB1.out hb); clear hS hb HB1; obtain ⟨Ar, cr, rfl⟩ := Kd.S_slice HRS.out))
        obtain ⟨ga, hga⟩ : ∃ ga, ga = w2.heap.size := ⟨_, rfl⟩
        rw [← hga]
        have BKA := Aside0.mk (show (w2.alloc (.cells #[.int .i64 jobs, .int .i64 slots, .int .i64 total, .int .i64 value, .slice Ar res.length cr] 107)).heap[ga]? = some (.cells #[.int .i64 jobs, .int .i64 slots, .int .i64 total, .int .i64 value, .slice Ar res.length cr] 107 (0, 0)) from by rw [hga]; exact blk_new _ _)
        have HB3 := Aside0.mk (below_alloc HB2.out (.cells #[.int .i64 jobs, .int .i64 slots, .int .i64 total, .int .i64 value, .slice Ar res.length cr] 107))
        have HRC := Aside0.mk (Kd.C_alloc (Kd.S_reads' HRS.out).2.2 (.cells #[.int .i64 jobs, .int .i64 slots, .int .i64 total, .int .i64 value, .slice Ar res.length cr] 107))
        clear HB2 HRS hga
        generalize w2.alloc (.cells #[.int .i64 jobs, .int .i64 slots, .int .i64 total, .int .i64 value, .slice Ar res.length cr] 107) = w3 at BKA HB3 HRC ⊢
        obtain ⟨ns, rfl⟩ := Int.eq_ofNat_of_zero_le HSL.out.1
        have bk1 : w3.cell? ⟨ga, 1, none⟩ = some (.int .i64 ns) := (blk_cell BKA.out 1).trans rfl
        go_wp2_with ((with_reducible refine gate_dst (N := 26) rfl ?_); (try (refine gate_guard (by rfl) ?_; dsimp only)); refine Kd.S_make (Kd.slice 3 (Kd.int .i64)) _ 55 rfl (N := 26) rfl 54 _ _ rfl (ns : Int) rfl rfl Try.underlying54 (.slice none 0 0) 24 info55 rfl (by decide) (by omega) ([] : List Int) (ok := fun _ => True) (okp := fun _ => True) ⟨_, rfl, Kd.R_nil _ _ _ _ _⟩ (fun _ hk => hk) trivial HSL.out.1 (by have := HSL.out.2; omega) (Below.refl _ _) (Nat.le_refl _) ?_; intro v26 w4 ho hb hg_ hnew_; have HFL := Aside0.mk ho; have HB4 := Aside0.mk hb; clear ho hb hg_ hnew_; obtain ⟨Af, cf, eo⟩ := Kd.S_slice HFL.out; subst eo; rw [List.length_replicate, Int.toNat_natCast] at HFL)
        clear bk1
        have HSN := Aside0.mk (show ns ≤ 1000000 by have := HSL.out.2; omega)
        clear HSL
        go_loopw [29] (fun i wr => ∃ (j : Nat) (o : List (List Int)), j ≤ l0.length ∧ i = .int .i64 j ∧ Aside0 (schedAll res jobs k j (l0.drop j) o = some out) ∧ Aside0 (o.length = ns) ∧ Aside0 (RR wr w3.heap.size (fun _ => True) (.slice Af ns cf) o) ∧ Aside0 (Below w3.heap.size w3 wr)) (fun i _ => l0.length - (intOf i).toNat)
        case atStart => exact ⟨0, List.replicate ns [], Nat.zero_le _, rfl, ⟨by (have q := HSA.out; rw [Int.toNat_natCast] at q; exact q)⟩, ⟨by simp⟩, HFL, HB4⟩
        case round =>
          clear HSA HFL HB4
          obtain ⟨j, o, hj, rfl, HSA, HOL, HFL, HB4⟩ := hrel
          by_cases hjt : j < l0.length
          · have h := HSA.out
            rw [drop_T83 l0 j hjt] at h
            unfold schedAll at h
            obtain ⟨o2, hrow, h⟩ := Option.bind_eq_some_iff.1 h
            have HROW := Aside0.mk hrow
            have HREST := Aside0.mk h
            clear h hrow HSA
            obtain ⟨ad, rfl, x0, x1, x2⟩ := at_T83 (Kd.C_below HR.out (below_step HB3.out HB4.out)) j (by omega) (by omega)
            rw [Int.toNat_natCast] at x0 x1 x2
            obtain ⟨J, hJ⟩ : ∃ J, J = rd_T83 l0 (j : Int) := ⟨_, rfl⟩
            rw [← hJ] at HROW x0 x1 x2
            clear hJ
            go_upto_region 10 with fail
            obtain ⟨gj, hgj⟩ : ∃ gj, gj = wr.heap.size := ⟨_, rfl⟩
            rw [← hgj]
            have BKJ := Aside0.mk (show (wr.alloc (.cells #[.int .i64 J.f0, .int .i64 J.f1, .int .i64 J.f2] 83)).heap[gj]? = some (.cells #[.int .i64 J.f0, .int .i64 J.f1, .int .i64 J.f2] 83 (0, 0)) from by rw [hgj]; exact blk_new _ _)
            have HB5 := Aside0.mk (below_alloc HB4.out (.cells #[.int .i64 J.f0, .int .i64 J.f1, .int .i64 J.f2] 83))
            have HFL5 := Aside0.mk (Kd.S_alloc HFL.out (.cells #[.int .i64 J.f0, .int .i64 J.f1, .int .i64 J.f2] 83))
            clear HB4 HFL hgj x0 x1 x2
            generalize wr.alloc (.cells #[.int .i64 J.f0, .int .i64 J.f1, .int .i64 J.f2] 83) = w5 at BKJ HB5 HFL5 ⊢
            have bj0 : w5.cell? ⟨gj, 0, none⟩ = some (.int .i64 J.f0) := (blk_cell BKJ.out 0).trans rfl
            go_wp2_with fail
            clear bj0
            go_loopg [11] k (fun kq v11 w' => ∃ (s : Int) (u : List (List Int)), v11 = .int .i64 s ∧ Aside0 (schedRow res jobs j J.f1 kq s u = some o2) ∧ Aside0 (u.length = ns) ∧ Aside0 (RR w' w3.heap.size (fun _ => True) (.slice Af ns cf) u) ∧ Aside0 (Below w3.heap.size w3 w') ∧ Aside0 (w'.heap[gj]? = some (.cells #[.int .i64 J.f0, .int .i64 J.f1, .int .i64 J.f2] 83 (0, 0))))
            case atStart => exact ⟨J.f0, o, rfl, HROW, HOL, HFL5, HB5, BKJ⟩
            case round =>
              clear HROW HOL HFL5 HB5 BKJ
              obtain ⟨s, u, rfl, HROW, HUL, HU, HB6, BKJ⟩ := hrel
              have h := HROW.out
              have bj1 : wr.cell? ⟨gj, 1, none⟩ = some (.int .i64 J.f1) := (blk_cell BKJ.out 1).trans rfl
              clear HROW
              by_cases hsd : s < J.f1
              · have ds := decide_eq_true hsd
                cases gk with
                | zero =>
                  unfold schedRow at h
                  rw [if_pos hsd] at h
                  exact absurd h (by simp)
                | succ k1 =>
                unfold schedRow at h
                rw [if_pos hsd] at h
                split at h
                · rename_i hc
                  obtain ⟨b0, b1, b2, b3, b4, b5, b6⟩ := hc
                  have bka : wr.heap[ga]? = some (.cells #[.int .i64 jobs, .int .i64 ns, .int .i64 total, .int .i64 value, .slice Ar res.length cr] 107 (0, 0)) := blk_below BKA.out HB6.out
                  have ba0 : wr.cell? ⟨ga, 0, none⟩ = some (.int .i64 jobs) := (blk_cell bka 0).trans rfl
                  have ba4 : wr.cell? ⟨ga, 4, none⟩ = some (.slice Ar res.length cr) := (blk_cell bka 4).trans rfl
                  clear bka hsd
                  obtain ⟨p, hp⟩ : ∃ p, p = wrap64 (1 + (j : Int)) := ⟨_, rfl⟩
                  obtain ⟨q, hq⟩ : ∃ q, q = wrap64 (wrap64 (1 + jobs) + s) := ⟨_, rfl⟩
                  rw [← hp, ← hq] at h b3
                  rw [← hp] at b0 b1
                  rw [← hq] at b2
                  obtain ⟨adr, A6, c6, rfl, z1, l6, h6⟩ := at_L4 (Kd.C_below HRC.out HB6.out) p b0 b1
                  obtain ⟨ad6, rfl, z2⟩ := cell_row h6 q b2 b3
                  have hp' := hp.symm
                  have hq' := hq.symm
                  have hpw : IntKind.i64.wrap (1 + (j : Int)) = p := (i64_w _).trans hp'
                  have hqw : IntKind.i64.wrap (wrap64 (1 + jobs) + s) = q := (i64_w _).trans hq'
                  have hqw2 : IntKind.i64.wrap (IntKind.i64.wrap (1 + jobs) + s) = q := by rw [i64_w (1 + jobs)]; exact hqw
                  clear hp hq l6 h6
                  by_cases hz : rd (rd_L4 res p) q = 0
                  · rw [if_pos hz] at h
                    have HK := Aside0.mk h
                    clear h
                    have dz : (rd (rd_L4 res p) q == 0) = true := by rw [hz]; rfl
                    clear hz
                    go_wp2_with fail
                    go_region
                    have HUd := Aside0.mk (Kd.S_drew HU.out)
                    have HBd := Aside0.mk (below_drew1 HB6.out)
                    have BKd := Aside0.mk (blk_drew BKJ.out)
                    clear hp' hq' hpw hqw hqw2 z1 z2 ba0 ba4 bj1 HU HB6 BKJ
                    generalize wr.drew = wd at HUd HBd BKd ⊢
                    have hul := HUL.out
                    have hnp : 0 < ns := by omega
                    have hsn : s < (ns : Int) := by omega
                    obtain ⟨g, rfl⟩ := rows_addr HUd.out hnp
                    obtain ⟨cg_, hcg_⟩ := Kd.S_typed HUd.out g (by simp [Value.ownBlock])
                    have HNE := Aside0.mk (blk_ne BKd.out hcg_ (by decide))
                    clear hcg_
                    obtain ⟨A9, c9, oka, k1_, k2_, hfresh, hRow, hoka, hall⟩ := elem_append HUd.out s b4 hsn
                    have HFR := Aside0.mk hfresh
                    have HRW := Aside0.mk hRow
                    have HAL := Aside0.mk hall
                    have HLM := Aside0.mk b6
                    clear hfresh hRow hoka hall b0 b1 b2 b3 b6 hul
                    go_wp2_with ((with_reducible refine gate_builtin (b := .append) (xs := #[.tmp 61, .tmp 63]) rfl ?_); (try (refine gate_guard (by rfl) ?_; dsimp only)); at_builtin; refine Kd.R_append (Kd.int .i64) (w0 := w3) w3.heap.size rfl (.tmp 61) (.tmp 63) 55 3 (.int .i64 0) 8 rfl Try.underlying55 info3 rfl (by decide) (by omega) (.slice A9 (rd_L4 u s).length c9) (rd_L4 u s) (j : Int) [.int .i64 (j : Int)] oka (fun _ => False) rfl rfl ?aP (fun _ hk => hk.elim) ?aF ?aO ?aB ?aS ?aL ?_; (case aP => exact rfl); (case aF => exact fun q hq => HFR.out q hq trivial); (case aO => exact HRW.out); (case aB => exact HBd.out); (case aS => exact HBd.out.size); (case aL => have := HLM.out; omega); intro v7 w7 ho hb hg hat; obtain ⟨m1_, m2_, m3_, m4_⟩ := HAL.out v7 w7 _ ho hg; obtain ⟨A7, c7, eo⟩ := Kd.R_slice ho; subst eo; have HF7 := Aside0.mk m3_; have HB7 := Aside0.mk hb; have BK7 := Aside0.mk (blk_far (blk_grown BKd.out hg (Kd.R_ne HRW.out BKd.out (by decide))) (p := ⟨g, s.toNat, none⟩) HNE.out (.slice A7 (rd_L4 u s ++ [(j : Int)]).length c7)); have HG7 := Aside0.mk (Kd.S_base HUd.out g (by simp [Value.ownBlock])); clear ho hb hg hat m3_ m4_ HAL HRW HFR BKd HUd HBd k1_ k2_)
                    have HB8 := Aside0.mk (HB7.out.setCell (p := ⟨g, s.toNat, none⟩) HG7.out (.slice A7 (rd_L4 u s ++ [(j : Int)]).length c7))
                    have HUL2 := Aside0.mk (show (u.set s.toNat (rd_L4 u s ++ [(j : Int)])).length = ns by rw [List.length_set]; exact HUL.out)
                    have e_ : (rd_L4 u s ++ [(j : Int)]).length = (rd_L4 u s).length + 1 := by rw [List.length_append]; rfl
                    rw [e_] at HF7 HB8 BK7
                    clear e_
                    go_roundg k1
                    case measure => omega
                    case rel => exact ⟨_, _, rfl, HK, HUL2, HF7, HB8, BK7⟩
                  · rw [if_neg hz] at h
                    have HK := Aside0.mk h
                    clear h
                    have dz : (rd (rd_L4 res p) q == 0) = false := beq_eq_false_iff_ne.2 hz
                    clear hz
                    go_wp2_with fail
                    go_region
                    clear hp' hq' hpw hqw hqw2 z1 z2 ba0 ba4 bj1
                    go_wp2_with fail
                    go_roundg k1
                    case measure => omega
                    case rel => exact ⟨_, u, rfl, HK, HUL, ⟨Kd.S_drew HU.out⟩, ⟨below_drew1 HB6.out⟩, ⟨blk_drew BKJ.out⟩⟩
                · simp at h
              · have ds := decide_eq_false hsd
                have hu2 : u = o2 := by
                  cases gk with
                  | zero =>
                    unfold schedRow at h
                    rw [if_neg hsd] at h
                    exact Option.some.inj h
                  | succ k1 =>
                    unfold schedRow at h
                    rw [if_neg hsd] at h
                    exact Option.some.inj h
                subst hu2
                clear h hsd
                go_wp2_with fail
                go_roundw
                case rel => exact ⟨j + 1, u, by omega, by go_num, HREST, HUL, HU, HB6⟩
                case measure => simp [intOf]; omega
          · obtain rfl : j = l0.length := by omega
            have h := HSA.out
            rw [List.drop_length] at h
            obtain rfl : o = out := by simpa [schedAll] using h
            go_wp2_with fail
            go_ret3
            exact ⟨_, rfl, Kd.S_lower HFL.out HB3.out.size, below_step HB3.out HB4.out⟩
      · simp at h
end Go.Proofs.Ythdjhgidccmlfaa.P
