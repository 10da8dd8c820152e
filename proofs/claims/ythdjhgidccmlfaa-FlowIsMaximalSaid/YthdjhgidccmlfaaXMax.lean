/- The contract of flow.Max. -/
import Derived.Test.YthdjhgidccmlfaaXMaximize
import Derived.Test.YthdjhgidccmlfaaPx4
namespace Go.Proofs.Ythdjhgidccmlfaa.P
open Go.RowKit Go.Proofs.YthdjhgidccmlfaaW.PrintWords Go.Proofs.YthdjhgidccmlfaaW.PrintLast Go.Proofs.YthdjhgidccmlfaaW.PrintMore
attribute [local go_sem] max2_int min2_int max_two min_two max_three min_three max_four min_four
set_option linter.unusedVariables false
set_option linter.unusedSimpArgs false

/-- The flow along one edge. -/
def onE (l0 r : List (List Int)) (u v : Int) : Int := if 0 < wrap64 (rd (rd_L4 l0 u) v - rd (rd_L4 r u) v) then wrap64 (rd (rd_L4 l0 u) v - rd (rd_L4 r u) v) else 0
def fillRow (l0 r : List (List Int)) (u : Int) : Nat → Int → List (List Int) → Option (List (List Int))
  | 0, _, xs => some xs
  | d + 1, v, xs => if 0 ≤ v ∧ 0 ≤ u ∧ u < (xs.length : Int) ∧ v < ((rd_L4 xs u).length : Int) ∧ u < (l0.length : Int) ∧ v < ((rd_L4 l0 u).length : Int) ∧ u < (r.length : Int) ∧ v < ((rd_L4 r u).length : Int) then
      fillRow l0 r u d (v + 1) (xs.set u.toNat ((rd_L4 xs u).set v.toNat (onE l0 r u v))) else none
def fillAll (l0 r : List (List Int)) (n : Nat) : Nat → Int → List (List Int) → Option (List (List Int))
  | 0, _, xs => some xs
  | d + 1, u, xs => if 0 ≤ u ∧ u < (xs.length : Int) then (fillRow l0 r u n 0 (xs.set u.toNat (List.replicate n 0))).bind fun xs' => fillAll l0 r n d (u + 1) xs' else none
def flow_Max.f (k : Nat) (l0 : List (List Int)) (a1 a2 : Int) : Option (Int × List (List Int) × Int) :=
  (flow_valid.f k l0).bind fun b => if b = true then (if a1 < 0 ∨ a1 ≥ (l0.length : Int) ∨ a2 < 0 ∨ a2 ≥ (l0.length : Int) ∨ a1 = a2 then some (0, [], 2) else
    (flow_maximize.f k l0 a1 a2).bind fun p => if l0.length ≤ 1000000 then (fillAll l0 p.2 l0.length l0.length 0 (List.replicate l0.length [])).bind fun xs => some (p.1, xs, 0) else none) else some (0, [], 1)
theorem flow_Max.mono : ∀ a0 a1 a2 k, LeO (flow_Max.f k a0 a1 a2) (flow_Max.f (k + 1) a0 a1 a2) := by
  intro a0 a1 a2 k
  unfold flow_Max.f
  exact LeO.bind (flow_valid.mono _ _) (fun _ => LeO.ite (LeO.ite (LeO.refl _) (LeO.bind (flow_maximize.mono _ _ _ _) (fun _ => LeO.refl _))) (LeO.refl _))

/-- A new row in an element's place. -/
theorem elem_new {W w1 : World} {base g n cap : Nat} {ok : Nat → Prop} {xs : List (List Int)} (hS : RR W base ok (.slice (some ⟨g, 0, none⟩) n cap) xs) (i : Int) (h0 : 0 ≤ i) (h1 : i < n) (hok : ∀ k, ok k) {v1 : Value} {ys : List Int}
    (hv : Kd.R (Kd.int .i64) 3 w1 base (fun k => W.heap.size ≤ k) v1 ys) (hg : W.grownBy w1 none) :
    ∃ A c, w1.cell? ⟨g, i.toNat, none⟩ = some (.slice A (rd_L4 xs i).length c) ∧ w1.frozen? ⟨g, i.toNat, none⟩ = false ∧ RR (w1.setCell ⟨g, i.toNat, none⟩ v1) base ok (.slice (some ⟨g, 0, none⟩) n cap) (xs.set i.toNat ys) := by
  obtain ⟨A, c, oka, _, _, hfr, _, hoka, hall⟩ := elem_append hS i h0 h1
  obtain ⟨e1, e2, e3, _⟩ := hall v1 w1 ys (Kd.R_mono hv (fun k hk => hfr k hk (hok k))) ⟨hg.1, hg.2, hg.3, hg.4, fun k hk _ => hg.block k hk (by simp)⟩
  exact ⟨A, c, e1, e2, e3⟩
theorem rows_base {W : World} {base n cap g : Nat} {ok : Nat → Prop} {xs : List (List Int)} (h : RR W base ok (.slice (some ⟨g, 0, none⟩) n cap) xs) : base ≤ g := Kd.S_base h g (by simp [Value.ownBlock])
set_option maxHeartbeats 8000000 in
set_option maxRecDepth 100000 in
theorem flow_Max.calls (k : Nat) (A0 : Option Addr) (c0 : Nat) (l0 : List (List Int)) (a1 a2 : Int) (r1 : Int) (r2 : List (List Int)) (r3 : Int) (w : World) (hr0 : Kd.C (Kd.slice 3 (Kd.int .i64)) w A0 l0.length l0) (hc0 : l0.length ≤ c0) (h : flow_Max.f k l0 a1 a2 = some (r1, r2, r3)) :
    Calls Try.prog 46 #[.slice A0 l0.length c0, .int .i64 a1, .int .i64 a2] w fun e w' => ∃ v0_ : Value, e = .returned (.tuple #[.int .i64 r1, v0_, .int .i64 r3]) ∧ Kd.S (Kd.slice 3 (Kd.int .i64)) 55 w' w.heap.size (fun _ => True) v0_ r2 ∧ Below w.heap.size w w' := by
  unfold flow_Max.f at h
  obtain ⟨b, hv, h⟩ := Option.bind_eq_some_iff.1 h
  have HV := Aside0.mk hv
  have HR := Aside0.mk hr0
  have HC := Aside0.mk hc0
  have hm : l0.length ≤ 9223372036854775807 := hr0.2.1
  clear hv hr0 hc0
  cases b with
  | false =>
    rw [if_neg (by simp)] at h
    obtain ⟨rfl, rfl, rfl⟩ : 0 = r1 ∧ [] = r2 ∧ 1 = r3 := by simpa using h
    clear h
    go_enter Try.func46, Try.ntmps46
    go_wp2_with (go_at_call 71; refine (flow_valid.calls k A0 c0 l0 false w HR.out HC.out HV.out).mono ?_; rintro e w1 ⟨rfl, hd⟩; (have hB : Below w.heap.size w w1 := hd.below); have HB1 := Aside0.mk hB; clear hd hB)
    go_ret3
    exact ⟨_, rfl, Kd.S_nil _ _ _ _ _, HB1.out⟩
  | true =>
    rw [if_pos rfl] at h
    by_cases c1 : a1 < 0
    · rw [if_pos (.inl c1)] at h
      obtain ⟨rfl, rfl, rfl⟩ : 0 = r1 ∧ [] = r2 ∧ 2 = r3 := by simpa using h
      have d1 := decide_eq_true c1
      clear h c1
      go_enter Try.func46, Try.ntmps46
      go_wp2_with (go_at_call 71; refine (flow_valid.calls k A0 c0 l0 true w HR.out HC.out HV.out).mono ?_; rintro e w1 ⟨rfl, hd⟩; (have hB : Below w.heap.size w w1 := hd.below); have HB1 := Aside0.mk hB; clear hd hB)
      go_ret3
      exact ⟨_, rfl, Kd.S_nil _ _ _ _ _, HB1.out⟩
    have d1 := decide_eq_false c1
    by_cases c2 : a1 ≥ (l0.length : Int)
    · rw [if_pos (.inr (.inl c2))] at h
      obtain ⟨rfl, rfl, rfl⟩ : 0 = r1 ∧ [] = r2 ∧ 2 = r3 := by simpa using h
      have d2 : decide ((l0.length : Int) ≤ a1) = true := decide_eq_true c2
      clear h c1 c2
      go_enter Try.func46, Try.ntmps46
      go_wp2_with (go_at_call 71; refine (flow_valid.calls k A0 c0 l0 true w HR.out HC.out HV.out).mono ?_; rintro e w1 ⟨rfl, hd⟩; (have hB : Below w.heap.size w w1 := hd.below); have HB1 := Aside0.mk hB; clear hd hB)
      go_ret3
      exact ⟨_, rfl, Kd.S_nil _ _ _ _ _, HB1.out⟩
    have d2 : decide ((l0.length : Int) ≤ a1) = false := decide_eq_false c2
    by_cases c3 : a2 < 0
    · rw [if_pos (.inr (.inr (.inl c3)))] at h
      obtain ⟨rfl, rfl, rfl⟩ : 0 = r1 ∧ [] = r2 ∧ 2 = r3 := by simpa using h
      have d3 := decide_eq_true c3
      clear h c1 c2 c3
      go_enter Try.func46, Try.ntmps46
      go_wp2_with (go_at_call 71; refine (flow_valid.calls k A0 c0 l0 true w HR.out HC.out HV.out).mono ?_; rintro e w1 ⟨rfl, hd⟩; (have hB : Below w.heap.size w w1 := hd.below); have HB1 := Aside0.mk hB; clear hd hB)
      go_ret3
      exact ⟨_, rfl, Kd.S_nil _ _ _ _ _, HB1.out⟩
    have d3 := decide_eq_false c3
    by_cases c4 : a2 ≥ (l0.length : Int)
    · rw [if_pos (.inr (.inr (.inr (.inl c4))))] at h
      obtain ⟨rfl, rfl, rfl⟩ : 0 = r1 ∧ [] = r2 ∧ 2 = r3 := by simpa using h
      have d4 : decide ((l0.length : Int) ≤ a2) = true := decide_eq_true c4
      clear h c1 c2 c3 c4
      go_enter Try.func46, Try.ntmps46
      go_wp2_with (go_at_call 71; refine (flow_valid.calls k A0 c0 l0 true w HR.out HC.out HV.out).mono ?_; rintro e w1 ⟨rfl, hd⟩; (have hB : Below w.heap.size w w1 := hd.below); have HB1 := Aside0.mk hB; clear hd hB)
      go_ret3
      exact ⟨_, rfl, Kd.S_nil _ _ _ _ _, HB1.out⟩
    have d4 : decide ((l0.length : Int) ≤ a2) = false := decide_eq_false c4
    by_cases c5 : a1 = a2
    · rw [if_pos (.inr (.inr (.inr (.inr c5))))] at h
      obtain ⟨rfl, rfl, rfl⟩ : 0 = r1 ∧ [] = r2 ∧ 2 = r3 := by simpa using h
      subst c5
      have d5 : (a1 == a1) = true := beq_self_eq_true a1
      clear h c1 c2 c3 c4
      go_enter Try.func46, Try.ntmps46
      go_wp2_with (go_at_call 71; refine (flow_valid.calls k A0 c0 l0 true w HR.out HC.out HV.out).mono ?_; rintro e w1 ⟨rfl, hd⟩; (have hB : Below w.heap.size w w1 := hd.below); have HB1 := Aside0.mk hB; clear hd hB)
      go_ret3
      exact ⟨_, rfl, Kd.S_nil _ _ _ _ _, HB1.out⟩
    have d5 : (a1 == a2) = false := beq_eq_false_iff_ne.2 c5
    rw [if_neg (by omega)] at h
    obtain ⟨⟨val, res⟩, hmx, h⟩ := Option.bind_eq_some_iff.1 h
    dsimp only at h
    split at h
    · rename_i hln
      obtain ⟨xs, hfi, h⟩ := Option.bind_eq_some_iff.1 h
      obtain ⟨rfl, rfl, rfl⟩ : val = r1 ∧ xs = r2 ∧ 0 = r3 := by simpa using h
      have HMX := Aside0.mk hmx
      have HFI := Aside0.mk hfi
      have HLN := Aside0.mk hln
      clear h hmx hfi hln c1 c2 c3 c4 c5
      go_enter Try.func46, Try.ntmps46
      go_wp2_with (first
        | (go_at_call 71; refine (flow_valid.calls k A0 c0 l0 true w HR.out HC.out HV.out).mono ?_; rintro e w1 ⟨rfl, hd⟩; (have hB : Below w.heap.size w w1 := hd.below); have HB1 := Aside0.mk hB; clear hd hB)
        | (go_at_call 72; refine (flow_maximize.calls k A0 c0 l0 a1 a2 val res w1 (Kd.C_below HR.out HB1.out) HC.out HMX.out).mono ?_; rintro e w2 ⟨vr, rfl, hS, hb⟩; have HRS := Aside0.mk hS; have HB2 := Aside0.mk (below_step HB1.out hb); clear hS hb HB1; obtain ⟨Ar, cr, rfl⟩ := Kd.S_slice HRS.out)
        | ((with_reducible refine gate_dst (N := 49) rfl ?_); (try (refine gate_guard (by rfl) ?_; dsimp only)); refine Kd.S_make (Kd.slice 3 (Kd.int .i64)) _ 55 rfl (N := 49) rfl 54 _ _ rfl (l0.length : Int) rfl rfl Try.underlying54 (.slice none 0 0) 24 info55 rfl (by decide) (by omega) ([] : List Int) (ok := fun _ => True) (okp := fun _ => True) ⟨_, rfl, Kd.R_nil _ _ _ _ _⟩ (fun _ hk => hk) trivial (by omega) (by have := HLN.out; omega) (Below.refl _ _) (Nat.le_refl _) ?_; intro v49 w3 ho hb hg_ hnew_; have HFL := Aside0.mk ho; have HB3 := Aside0.mk hb; clear ho hb hg_ hnew_; rw [Int.toNat_natCast] at HFL; obtain ⟨Af, cf, eo⟩ := Kd.S_slice HFL.out; subst eo; rw [List.length_replicate] at HFL))
      have hrc := Kd.S_reads' HRS.out
      have HRC := Aside0.mk hrc.2.2
      clear hrc HRS
      go_loopw [52] (fun i wr => ∃ (j : Nat) (ys : List (List Int)), j ≤ l0.length ∧ i = .int .i64 j ∧ Aside0 (fillAll l0 res l0.length (l0.length - j) j ys = some xs) ∧ Aside0 (ys.length = l0.length) ∧ Aside0 (RR wr w2.heap.size (fun _ => True) (.slice Af l0.length cf) ys) ∧ Aside0 (Below w2.heap.size w2 wr)) (fun i _ => l0.length - (intOf i).toNat)
      case atStart => exact ⟨0, List.replicate l0.length [], Nat.zero_le _, rfl, HFI, ⟨by simp⟩, HFL, HB3⟩
      case round =>
        clear HFI HFL HB3
        obtain ⟨j, ys, hj, rfl, HFI, HYL, HFL, HB3⟩ := hrel
        by_cases hlt : j < l0.length
        · have h := HFI.out
          obtain ⟨d, hd⟩ : ∃ d, l0.length - j = d + 1 := ⟨l0.length - j - 1, by omega⟩
          rw [hd] at h
          unfold fillAll at h
          rw [if_pos (by have := HYL.out; omega)] at h
          obtain ⟨zs, hz, h⟩ := Option.bind_eq_some_iff.1 h
          have HZ := Aside0.mk hz
          have HH := Aside0.mk (show fillAll l0 res l0.length (l0.length - (j + 1)) ((j + 1 : Nat) : Int) zs = some xs by
            rw [show l0.length - (j + 1) = d by omega, show ((j + 1 : Nat) : Int) = (j : Int) + 1 by omega]
            exact h)
          clear h hz hd HFI
          obtain ⟨g, rfl⟩ := rows_addr HFL.out (by omega)
          go_upto_region 12 with ((with_reducible refine gate_dst (N := 58) rfl ?_); (try (refine gate_guard (by rfl) ?_; dsimp only)); refine Kd.R_make (Kd.int .i64) _ 3 rfl (N := 58) rfl 55 _ _ rfl (l0.length : Int) rfl rfl Try.underlying55 (.int .i64 0) 8 info3 rfl (by decide) (by omega) 0 (ok := fun _ => True) (okp := fun _ => True) rfl (fun _ hk => hk) trivial (by omega) (by have := HLN.out; omega) (Below.refl _ _) (Nat.le_refl _) ?_; intro v58 w4 ho hb hg_ hnew_; obtain ⟨A9, c9, e1_, e2_, e3_⟩ := elem_new HFL.out (j : Int) (by omega) (by omega) (fun _ => trivial) (Kd.R_mono (ok' := fun q => wr.heap.size ≤ q) (Kd.R_lower (Kd.R_bound ho) HB3.out.size) (fun q hq => hq.2.1)) hg_; have HN := Aside0.mk ho; have HE3 := Aside0.mk e3_; have HB4 := Aside0.mk (below_step HB3.out hb); clear ho hb hg_ hnew_ e3_; obtain ⟨An, cn, eo⟩ := Kd.R_slice HN.out; subst eo; rw [Int.toNat_natCast] at e1_ e2_)
          have HY0 := Aside0.mk (show RR (w4.setCell ⟨g, j, none⟩ (.slice An l0.length cn)) w2.heap.size (fun _ => True) (.slice (some ⟨g, 0, none⟩) l0.length cf) (ys.set j (List.replicate l0.length 0)) from by (have q := HE3.out; simp only [List.length_replicate, Int.toNat_natCast] at q; exact q))
          have HBZ := Aside0.mk (HB4.out.setCell (p := ⟨g, j, none⟩) (rows_base HFL.out) (.slice An l0.length cn))
          have HYL0 := Aside0.mk (show (ys.set j (List.replicate l0.length 0)).length = l0.length by rw [List.length_set]; exact HYL.out)
          clear HE3 HB4 HN HFL HB3 HYL e1_ e2_
          generalize w4.setCell ⟨g, j, none⟩ (.slice An l0.length cn) = w5 at HY0 HBZ ⊢
          go_wp2_with fail
          go_loopw [61] (fun i wq => ∃ (q : Nat) (us : List (List Int)), q ≤ l0.length ∧ i = .int .i64 q ∧ Aside0 (fillRow l0 res j (l0.length - q) q us = some zs) ∧ Aside0 (us.length = l0.length) ∧ Aside0 (RR wq w2.heap.size (fun _ => True) (.slice (some ⟨g, 0, none⟩) l0.length cf) us) ∧ Aside0 (Below w2.heap.size w2 wq)) (fun i _ => l0.length - (intOf i).toNat)
          case atStart => exact ⟨0, _, Nat.zero_le _, rfl, ⟨by (have q := HZ.out; rw [Int.toNat_natCast] at q; exact q)⟩, HYL0, HY0, HBZ⟩
          case round =>
            clear HZ HYL0 HY0 HBZ
            obtain ⟨q, us, hq, rfl, HZ, HUL, HU, HB5⟩ := hrel
            by_cases hqt : q < l0.length
            · have h := HZ.out
              obtain ⟨d, hd⟩ : ∃ d, l0.length - q = d + 1 := ⟨l0.length - q - 1, by omega⟩
              rw [hd] at h
              unfold fillRow at h
              split at h
              · rename_i hc
                obtain ⟨b0, b1, b2, b3, b4, b5, b6, b7⟩ := hc
                have HK := Aside0.mk (show fillRow l0 res j (l0.length - (q + 1)) ((q + 1 : Nat) : Int) (us.set j ((rd_L4 us j).set q (onE l0 res j q))) = some zs by
                  rw [show l0.length - (q + 1) = d by omega, show ((q + 1 : Nat) : Int) = (q : Int) + 1 by omega]
                  exact h)
                clear h hd HZ
                obtain ⟨g2, c2, x1, x2, fx, hb2, _, hput⟩ := elem_put HU.out (j : Int) b1 (by omega) (q : Int) b0 b3
                obtain ⟨ad, A4, c4, rfl, y1, l4, h4⟩ := at_L4 (Kd.C_below HR.out (below_step HB2.out HB5.out)) (j : Int) b1 b4
                obtain ⟨ad4, rfl, y2⟩ := cell_row h4 (q : Int) b0 b5
                obtain ⟨adr, A6, c6, rfl, z1, l6, h6⟩ := at_L4 (Kd.C_below HRC.out HB5.out) (j : Int) b1 b6
                obtain ⟨ad6, rfl, z2⟩ := cell_row h6 (q : Int) b0 b7
                simp only [Int.toNat_natCast] at x1 x2 fx hput y1 y2 z1 z2
                have b5' : q < (rd_L4 l0 (j : Int)).length := by omega
                have b7' : q < (rd_L4 res (j : Int)).length := by omega
                have b3' : q < (rd_L4 us (j : Int)).length := by omega
                have b6' : j < res.length := by omega
                clear l4 h4 l6 h6 b0 b1 b2
                by_cases hpos : 0 < wrap64 (rd (rd_L4 l0 (j : Int)) (q : Int) - rd (rd_L4 res (j : Int)) (q : Int))
                · have ho : onE l0 res j q = wrap64 (rd (rd_L4 l0 (j : Int)) (q : Int) - rd (rd_L4 res (j : Int)) (q : Int)) := if_pos hpos
                  rw [ho] at HK
                  go_wp2_with fail
                  go_region
                  have HW := Aside0.mk (hput (wrap64 (rd (rd_L4 l0 (j : Int)) (q : Int) - rd (rd_L4 res (j : Int)) (q : Int))))
                  have HWD := Aside0.mk (Kd.S_drew HW.out)
                  have HBD := Aside0.mk (below_drew1 (HB5.out.setCell (p := ⟨g2, q, none⟩) hb2 (.int .i64 (wrap64 (rd (rd_L4 l0 (j : Int)) (q : Int) - rd (rd_L4 res (j : Int)) (q : Int))))))
                  have HUL2 := Aside0.mk (show (us.set j ((rd_L4 us (j : Int)).set q (wrap64 (rd (rd_L4 l0 (j : Int)) (q : Int) - rd (rd_L4 res (j : Int)) (q : Int))))).length = l0.length by rw [List.length_set]; exact HUL.out)
                  clear hput HW HB5 HU HUL x1 x2 fx y1 y2 z1 z2 hb2
                  generalize (wr.setCell ⟨g2, q, none⟩ (.int .i64 (wrap64 (rd (rd_L4 l0 (j : Int)) (q : Int) - rd (rd_L4 res (j : Int)) (q : Int))))).drew = wz at HWD HBD ⊢
                  go_wp2_with fail
                  go_roundw
                  case rel => exact ⟨q + 1, _, by omega, by go_num, HK, HUL2, HWD, HBD⟩
                  case measure => simp [intOf]; omega
                · have ho : onE l0 res j q = 0 := if_neg hpos
                  rw [ho] at HK
                  go_wp2_with fail
                  go_region
                  have HW := Aside0.mk (hput (0))
                  have HWD := Aside0.mk (Kd.S_drew HW.out)
                  have HBD := Aside0.mk (below_drew1 (HB5.out.setCell (p := ⟨g2, q, none⟩) hb2 (.int .i64 (0))))
                  have HUL2 := Aside0.mk (show (us.set j ((rd_L4 us (j : Int)).set q (0))).length = l0.length by rw [List.length_set]; exact HUL.out)
                  clear hput HW HB5 HU HUL x1 x2 fx y1 y2 z1 z2 hb2
                  generalize (wr.setCell ⟨g2, q, none⟩ (.int .i64 (0))).drew = wz at HWD HBD ⊢
                  go_wp2_with fail
                  go_roundw
                  case rel => exact ⟨q + 1, _, by omega, by go_num, HK, HUL2, HWD, HBD⟩
                  case measure => simp [intOf]; omega
              · simp at h
            · obtain rfl : q = l0.length := by omega
              have h := HZ.out
              rw [Nat.sub_self] at h
              obtain rfl : us = zs := by simpa [fillRow] using h
              go_wp2_with fail
              go_roundw
              case rel => exact ⟨j + 1, us, by omega, by go_num, HH, HUL, HU, HB5⟩
              case measure => simp [intOf]; omega
        · obtain rfl : j = l0.length := by omega
          have h := HFI.out
          rw [Nat.sub_self] at h
          obtain rfl : ys = xs := by simpa [fillAll] using h
          go_wp2_with fail
          go_ret3
          exact ⟨_, rfl, Kd.S_lower HFL.out HB2.out.size, below_step HB2.out HB3.out⟩
    · simp at h
end Go.Proofs.Ythdjhgidccmlfaa.P
