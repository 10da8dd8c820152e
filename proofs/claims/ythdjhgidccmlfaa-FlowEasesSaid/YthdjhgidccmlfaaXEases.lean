/- The walk of ontimelaw47.FlowEases, over the contracts of what it calls. -/
import Derived.Test.YthdjhgidccmlfaaXEase
namespace Go.Proofs.Ythdjhgidccmlfaa.P
open Go.RowKit Go.Proofs.YthdjhgidccmlfaaW.PrintWords Go.Proofs.YthdjhgidccmlfaaW.PrintLast Go.Proofs.YthdjhgidccmlfaaW.PrintMore
attribute [local go_sem] max2_int min2_int max_two min_two max_three min_three max_four min_four
set_option linter.unusedVariables false
set_option linter.unusedSimpArgs false

set_option maxHeartbeats 8000000 in
set_option maxRecDepth 100000 in
/-- The law passes by. -/
theorem eases_bad (K : Nat) (A : Option Addr) (c : Nat) (l : List S83) (cores a2 a3 : Int) (w : World) (hC : Kd.C k83 w A l.length l) (hc : l.length ≤ c)
    (h : ontimelaw47_valid.f K l cores = some false ∨ (ontimelaw47_valid.f K l cores = some true ∧ (l.length = 0 ∨ 14 < l.length))) :
    Calls Try.prog 18 #[.slice A l.length c, .int .i64 cores, .int .u8 a2, .int .u8 a3] w fun e w' => e = .returned (.bool true) ∧ Below w.heap.size w w' := by
  have hu83 := Try.underlying83
  have HC := Aside0.mk hC
  have Hc := Aside0.mk hc
  have hle : (l.length : Int) ≤ 9223372036854775807 := by have := hC.2.1; omega
  clear hC hc
  rcases h with hv | ⟨hv, hl⟩
  · have HV := Aside0.mk hv
    clear hv
    go_enter Try.func18, Try.ntmps18
    go_upto_region 1 with fail
    obtain ⟨gl, hgl⟩ : ∃ gl, gl = w.heap.size := ⟨_, rfl⟩
    rw [← hgl]
    have BL := Aside0.mk (show (w.alloc (.cells #[.slice A l.length c] 65)).heap[gl]? = some (.cells #[.slice A l.length c] 65 (0, 0)) from by rw [hgl]; exact blk_new _ _)
    have HB := Aside0.mk (below_alloc (Below.refl w.heap.size w) (.cells #[.slice A l.length c] 65))
    clear hgl
    generalize w.alloc (.cells #[.slice A l.length c] 65) = w1 at BL HB ⊢
    go_wp2_with (first
      | (go_at_call 41; refine (ontimelaw47_awake.calls true _ rfl).mono ?_; rintro e w2 ⟨rfl, hb⟩; (first | (have HB3 := Aside0.mk (below_step HB2.out hb)) | (have HB2 := Aside0.mk (below_step HB.out hb); have bl2 : w2.cell? ⟨gl, 0, none⟩ = some (.slice A l.length c) := (blk_cell (blk_below BL.out hb) 0).trans rfl)); clear hb)
      | (go_at_call 48; refine (ontimelaw47_valid.calls K A c l cores false _ (Kd.C_below HC.out HB2.out) Hc.out HV.out).mono ?_; rintro e w3 ⟨rfl, hb⟩; have HB2 := Aside0.mk (below_step HB2.out hb); clear hb))
    go_ret
    exact ⟨rfl, HB3.out⟩
  · have HV := Aside0.mk hv
    clear hv
    rcases hl with h0 | h14
    · have d0 : ((l.length : Int) == 0) = true := by rw [h0]; rfl
      clear h0
      go_enter Try.func18, Try.ntmps18
      go_upto_region 1 with fail
      obtain ⟨gl, hgl⟩ : ∃ gl, gl = w.heap.size := ⟨_, rfl⟩
      rw [← hgl]
      have BL := Aside0.mk (show (w.alloc (.cells #[.slice A l.length c] 65)).heap[gl]? = some (.cells #[.slice A l.length c] 65 (0, 0)) from by rw [hgl]; exact blk_new _ _)
      have HB := Aside0.mk (below_alloc (Below.refl w.heap.size w) (.cells #[.slice A l.length c] 65))
      clear hgl
      generalize w.alloc (.cells #[.slice A l.length c] 65) = w1 at BL HB ⊢
      go_wp2_with (first
        | (go_at_call 41; refine (ontimelaw47_awake.calls true _ rfl).mono ?_; rintro e w2 ⟨rfl, hb⟩; (first | (have HB4 := Aside0.mk (below_step HB3.out hb)) | (have HB2 := Aside0.mk (below_step HB.out hb); have BL2 := Aside0.mk (blk_below BL.out hb); have bl2 : w2.cell? ⟨gl, 0, none⟩ = some (.slice A l.length c) := (blk_cell BL2.out 0).trans rfl)); clear hb)
        | (go_at_call 48; refine (ontimelaw47_valid.calls K A c l cores true _ (Kd.C_below HC.out HB2.out) Hc.out HV.out).mono ?_; rintro e w3 ⟨rfl, hb⟩; have HB3 := Aside0.mk (below_step HB2.out hb); have bl3 : w3.cell? ⟨gl, 0, none⟩ = some (.slice A l.length c) := (blk_cell (blk_below BL2.out hb) 0).trans rfl; clear hb))
      go_ret
      exact ⟨rfl, HB4.out⟩
    · have d0 : ((l.length : Int) == 0) = false := by rw [beq_eq_false_iff_ne]; omega
      have d1 : decide (14 < (l.length : Int)) = true := decide_eq_true (by omega)
      go_enter Try.func18, Try.ntmps18
      go_upto_region 1 with fail
      obtain ⟨gl, hgl⟩ : ∃ gl, gl = w.heap.size := ⟨_, rfl⟩
      rw [← hgl]
      have BL := Aside0.mk (show (w.alloc (.cells #[.slice A l.length c] 65)).heap[gl]? = some (.cells #[.slice A l.length c] 65 (0, 0)) from by rw [hgl]; exact blk_new _ _)
      have HB := Aside0.mk (below_alloc (Below.refl w.heap.size w) (.cells #[.slice A l.length c] 65))
      clear hgl h14
      generalize w.alloc (.cells #[.slice A l.length c] 65) = w1 at BL HB ⊢
      go_wp2_with (first
        | (go_at_call 41; refine (ontimelaw47_awake.calls true _ rfl).mono ?_; rintro e w2 ⟨rfl, hb⟩; (first | (have HB4 := Aside0.mk (below_step HB3.out hb)) | (have HB2 := Aside0.mk (below_step HB.out hb); have BL2 := Aside0.mk (blk_below BL.out hb); have bl2 : w2.cell? ⟨gl, 0, none⟩ = some (.slice A l.length c) := (blk_cell BL2.out 0).trans rfl)); clear hb)
        | (go_at_call 48; refine (ontimelaw47_valid.calls K A c l cores true _ (Kd.C_below HC.out HB2.out) Hc.out HV.out).mono ?_; rintro e w3 ⟨rfl, hb⟩; have HB3 := Aside0.mk (below_step HB2.out hb); have bl3 : w3.cell? ⟨gl, 0, none⟩ = some (.slice A l.length c) := (blk_cell (blk_below BL2.out hb) 0).trans rfl; clear hb))
      go_ret
      exact ⟨rfl, HB4.out⟩

set_option maxHeartbeats 8000000 in
set_option maxRecDepth 100000 in
/-- The law looks. -/
theorem eases_good (K : Nat) (A : Option Addr) (c : Nat) (l : List S83) (cores a2 a3 : Int) (w : World) (hC : Kd.C k83 w A l.length l) (hc : l.length ≤ c) (h2 : 0 ≤ a2 ∧ a2 < 256) (h3 : 0 ≤ a3 ∧ a3 < 256)
    (hv : ontimelaw47_valid.f K l cores = some true) (h0 : 0 < l.length) (h14 : l.length ≤ 14) (s : List (List Int)) (ok : Bool) (hs : flow_Schedule.f K l cores = some (s, ok, 0)) (i : Nat) (hi : a2 % (l.length : Int) = i) (hil : i < l.length) (j : S83) (hj : j = rd_T83 l (i : Int))
    (e1 : EaseOk K (l.set i j) (wrap64 (cores + 1)) ok) (e2 : EaseOk K (l.set i ⟨j.f0, wrap64 (j.f1 + a3 % 9), j.f2⟩) cores ok) (e3 : EaseOk K (l.set i ⟨wrap64 (j.f0 - a3 % 9), j.f1, j.f2⟩) cores ok) (e4 : EaseOk K (l.set i ⟨j.f0, j.f1, wrap64 (j.f2 - 1)⟩) cores ok) :
    Calls Try.prog 18 #[.slice A l.length c, .int .i64 cores, .int .u8 a2, .int .u8 a3] w fun e w' => e = .returned (.bool true) ∧ Below w.heap.size w w' := by
  have hu83 := Try.underlying83
  have HC := Aside0.mk hC
  have Hc := Aside0.mk hc
  have HV := Aside0.mk hv
  have HS := Aside0.mk hs
  have HI := Aside0.mk hi
  have HIL := Aside0.mk hil
  have HJ := Aside0.mk hj
  have H14 := Aside0.mk h14
  have E1 := Aside0.mk e1
  have E2 := Aside0.mk e2
  have E3 := Aside0.mk e3
  have E4 := Aside0.mk e4
  have d0 : ((l.length : Int) == 0) = false := by rw [beq_eq_false_iff_ne]; omega
  have d1 : decide (14 < (l.length : Int)) = false := decide_eq_false (by omega)
  clear hC hc hv hs e1 e2 e3 e4 h14 hi hil hj
  go_enter Try.func18, Try.ntmps18
  go_upto_region 1 with fail
  obtain ⟨gl, hgl⟩ : ∃ gl, gl = w.heap.size := ⟨_, rfl⟩
  rw [← hgl]
  have BL := Aside0.mk (show (w.alloc (.cells #[.slice A l.length c] 65)).heap[gl]? = some (.cells #[.slice A l.length c] 65 (0, 0)) from by rw [hgl]; exact blk_new _ _)
  have HB := Aside0.mk (below_alloc (Below.refl w.heap.size w) (.cells #[.slice A l.length c] 65))
  clear hgl
  generalize w.alloc (.cells #[.slice A l.length c] 65) = w1 at BL HB ⊢
  go_upto_region 3 with (first
    | (go_at_call 41; refine (ontimelaw47_awake.calls true _ rfl).mono ?_; rintro e w2 ⟨rfl, hb⟩; have HB2 := Aside0.mk (below_step HB.out hb); have BL2 := Aside0.mk (blk_below BL.out hb); have bl2 : w2.cell? ⟨gl, 0, none⟩ = some (.slice A l.length c) := (blk_cell BL2.out 0).trans rfl; clear hb HB BL)
    | (go_at_call 48; refine (ontimelaw47_valid.calls K A c l cores true _ (Kd.C_below HC.out HB2.out) Hc.out HV.out).mono ?_; rintro e w3 ⟨rfl, hb⟩; have HB3 := Aside0.mk (below_step HB2.out hb); have BL3 := Aside0.mk (blk_below BL2.out hb); have bl3 : w3.cell? ⟨gl, 0, none⟩ = some (.slice A l.length c) := (blk_cell BL3.out 0).trans rfl; clear hb HB2 BL2 bl2))
  go_upto_region 4 with (go_at_call 43; refine (flow_Schedule.calls K A c l cores s ok 0 _ (Kd.C_below HC.out HB3.out) Hc.out HS.out).mono ?_; rintro e w4 ⟨vs, rfl, hS, hb⟩; have HB4 := Aside0.mk (below_step HB3.out hb); have BL4 := Aside0.mk (blk_below BL3.out hb); clear hS hb HB3 BL3 bl3)
  obtain ⟨go, hgo⟩ : ∃ go, go = w4.heap.size := ⟨_, rfl⟩
  rw [← hgo]
  have BO := Aside0.mk (show (w4.alloc (.cells #[.bool ok] 4)).heap[go]? = some (.cells #[.bool ok] 4 (0, 0)) from by rw [hgo]; exact blk_new _ _)
  have HB5 := Aside0.mk (below_alloc HB4.out (.cells #[.bool ok] 4))
  have BL5 := Aside0.mk (blk_below BL4.out (below_alloc (Below.refl _ _) (.cells #[.bool ok] 4)))
  clear hgo HB4 BL4
  generalize w4.alloc (.cells #[.bool ok] 4) = w5 at BO HB5 BL5 ⊢
  have bl5 : w5.cell? ⟨gl, 0, none⟩ = some (.slice A l.length c) := (blk_cell BL5.out 0).trans rfl
  go_upto_region 7 with fail
  rw [HI.out]
  obtain ⟨gi, hgi⟩ : ∃ gi, gi = w5.heap.size := ⟨_, rfl⟩
  rw [← hgi]
  have BI := Aside0.mk (show (w5.alloc (.cells #[.int .i64 (i : Int)] 3)).heap[gi]? = some (.cells #[.int .i64 (i : Int)] 3 (0, 0)) from by rw [hgi]; exact blk_new _ _)
  have HB6 := Aside0.mk (below_alloc HB5.out (.cells #[.int .i64 (i : Int)] 3))
  have BL6 := Aside0.mk (blk_below BL5.out (below_alloc (Below.refl _ _) (.cells #[.int .i64 (i : Int)] 3)))
  have BO6 := Aside0.mk (blk_below BO.out (below_alloc (Below.refl _ _) (.cells #[.int .i64 (i : Int)] 3)))
  clear hgi HB5 BL5 bl5 BO
  generalize w5.alloc (.cells #[.int .i64 (i : Int)] 3) = w6 at BI HB6 BL6 BO6 ⊢
  have bl6 : w6.cell? ⟨gl, 0, none⟩ = some (.slice A l.length c) := (blk_cell BL6.out 0).trans rfl
  have bi6 : w6.cell? ⟨gi, 0, none⟩ = some (.int .i64 (i : Int)) := (blk_cell BI.out 0).trans rfl
  obtain ⟨ad, rfl, x0, x1, x2⟩ := at_T83 (Kd.C_below HC.out HB6.out) (i : Int) (by omega) (by have := HIL.out; omega)
  rw [Int.toNat_natCast] at x0 x1 x2
  rw [← HJ.out] at x0 x1 x2
  have i0 : (0 : Int) ≤ (i : Int) := by omega
  have i1 : (i : Int) < (l.length : Int) := by have := HIL.out; omega
  go_upto_region 9 with fail
  obtain ⟨gj, hgj⟩ : ∃ gj, gj = w6.heap.size := ⟨_, rfl⟩
  rw [← hgj]
  have BJ := Aside0.mk (show (w6.alloc (.cells #[.int .i64 j.f0, .int .i64 j.f1, .int .i64 j.f2] 83)).heap[gj]? = some (.cells #[.int .i64 j.f0, .int .i64 j.f1, .int .i64 j.f2] 83 (0, 0)) from by rw [hgj]; exact blk_new _ _)
  have HB7 := Aside0.mk (below_alloc HB6.out (.cells #[.int .i64 j.f0, .int .i64 j.f1, .int .i64 j.f2] 83))
  have BL7 := Aside0.mk (blk_below BL6.out (below_alloc (Below.refl _ _) (.cells #[.int .i64 j.f0, .int .i64 j.f1, .int .i64 j.f2] 83)))
  have BO7 := Aside0.mk (blk_below BO6.out (below_alloc (Below.refl _ _) (.cells #[.int .i64 j.f0, .int .i64 j.f1, .int .i64 j.f2] 83)))
  have BI7 := Aside0.mk (blk_below BI.out (below_alloc (Below.refl _ _) (.cells #[.int .i64 j.f0, .int .i64 j.f1, .int .i64 j.f2] 83)))
  clear hgj HB6 BL6 bl6 BO6 BI bi6 x0 x1 x2 i0 i1 HI
  generalize w6.alloc (.cells #[.int .i64 j.f0, .int .i64 j.f1, .int .i64 j.f2] 83) = w7 at BJ HB7 BL7 BO7 BI7 ⊢
  have bj0 : w7.cell? ⟨gj, 0, none⟩ = some (.int .i64 j.f0) := (blk_cell BJ.out 0).trans rfl
  have bj1 : w7.cell? ⟨gj, 1, none⟩ = some (.int .i64 j.f1) := (blk_cell BJ.out 1).trans rfl
  have bj2 : w7.cell? ⟨gj, 2, none⟩ = some (.int .i64 j.f2) := (blk_cell BJ.out 2).trans rfl
  go_wp2_with fail
  refine (ease_calls K l i ok j (wrap64 (cores + 1)) gl gi go (some ad) c w7 BL7.out BI7.out BO7.out (Kd.C_below HC.out HB7.out) Hc.out HIL.out H14.out E1.out).mono ?_
  rintro e w8 ⟨rfl, hb⟩
  have HB8 := Aside0.mk (below_step HB7.out hb)
  have BL8 := Aside0.mk (blk_below BL7.out hb)
  have BO8 := Aside0.mk (blk_below BO7.out hb)
  have BI8 := Aside0.mk (blk_below BI7.out hb)
  have BJ8 := Aside0.mk (blk_below BJ.out hb)
  have bk8_0 : w8.cell? ⟨gj, 0, none⟩ = some (.int .i64 j.f0) := (blk_cell BJ8.out 0).trans rfl
  have bk8_1 : w8.cell? ⟨gj, 1, none⟩ = some (.int .i64 j.f1) := (blk_cell BJ8.out 1).trans rfl
  have bk8_2 : w8.cell? ⟨gj, 2, none⟩ = some (.int .i64 j.f2) := (blk_cell BJ8.out 2).trans rfl
  clear hb HB7 BL7 BO7 BI7 BJ bj0 bj1 bj2
  dsimp only
  go_wp2_with fail
  refine (ease_calls K l i ok ⟨j.f0, wrap64 (j.f1 + a3 % 9), j.f2⟩ cores gl gi go (some ad) c w8 BL8.out BI8.out BO8.out (Kd.C_below HC.out HB8.out) Hc.out HIL.out H14.out E2.out).mono ?_
  rintro e w9 ⟨rfl, hb⟩
  have HB9 := Aside0.mk (below_step HB8.out hb)
  have BL9 := Aside0.mk (blk_below BL8.out hb)
  have BO9 := Aside0.mk (blk_below BO8.out hb)
  have BI9 := Aside0.mk (blk_below BI8.out hb)
  have BJ9 := Aside0.mk (blk_below BJ8.out hb)
  have bk9_0 : w9.cell? ⟨gj, 0, none⟩ = some (.int .i64 j.f0) := (blk_cell BJ9.out 0).trans rfl
  have bk9_1 : w9.cell? ⟨gj, 1, none⟩ = some (.int .i64 j.f1) := (blk_cell BJ9.out 1).trans rfl
  have bk9_2 : w9.cell? ⟨gj, 2, none⟩ = some (.int .i64 j.f2) := (blk_cell BJ9.out 2).trans rfl
  clear hb HB8 BL8 BO8 BI8 BJ8 bk8_0 bk8_1 bk8_2
  dsimp only
  go_wp2_with fail
  refine (ease_calls K l i ok ⟨wrap64 (j.f0 - a3 % 9), j.f1, j.f2⟩ cores gl gi go (some ad) c w9 BL9.out BI9.out BO9.out (Kd.C_below HC.out HB9.out) Hc.out HIL.out H14.out E3.out).mono ?_
  rintro e w10 ⟨rfl, hb⟩
  have HB10 := Aside0.mk (below_step HB9.out hb)
  have BL10 := Aside0.mk (blk_below BL9.out hb)
  have BO10 := Aside0.mk (blk_below BO9.out hb)
  have BI10 := Aside0.mk (blk_below BI9.out hb)
  have BJ10 := Aside0.mk (blk_below BJ9.out hb)
  have bk10_0 : w10.cell? ⟨gj, 0, none⟩ = some (.int .i64 j.f0) := (blk_cell BJ10.out 0).trans rfl
  have bk10_1 : w10.cell? ⟨gj, 1, none⟩ = some (.int .i64 j.f1) := (blk_cell BJ10.out 1).trans rfl
  have bk10_2 : w10.cell? ⟨gj, 2, none⟩ = some (.int .i64 j.f2) := (blk_cell BJ10.out 2).trans rfl
  clear hb HB9 BL9 BO9 BI9 BJ9 bk9_0 bk9_1 bk9_2
  dsimp only
  go_wp2_with fail
  refine (ease_calls K l i ok ⟨j.f0, j.f1, wrap64 (j.f2 - 1)⟩ cores gl gi go (some ad) c w10 BL10.out BI10.out BO10.out (Kd.C_below HC.out HB10.out) Hc.out HIL.out H14.out E4.out).mono ?_
  rintro e w11 ⟨rfl, hb⟩
  have HB11 := Aside0.mk (below_step HB10.out hb)
  have BL11 := Aside0.mk (blk_below BL10.out hb)
  have BO11 := Aside0.mk (blk_below BO10.out hb)
  have BI11 := Aside0.mk (blk_below BI10.out hb)
  have BJ11 := Aside0.mk (blk_below BJ10.out hb)
  have bk11_0 : w11.cell? ⟨gj, 0, none⟩ = some (.int .i64 j.f0) := (blk_cell BJ11.out 0).trans rfl
  have bk11_1 : w11.cell? ⟨gj, 1, none⟩ = some (.int .i64 j.f1) := (blk_cell BJ11.out 1).trans rfl
  have bk11_2 : w11.cell? ⟨gj, 2, none⟩ = some (.int .i64 j.f2) := (blk_cell BJ11.out 2).trans rfl
  clear hb HB10 BL10 BO10 BI10 BJ10 bk10_0 bk10_1 bk10_2
  dsimp only
  go_wp2_with fail
  go_ret
  exact ⟨rfl, HB11.out⟩
/-- What the plain law must show. -/
def ontimelaw47_FlowEases.Pure : Prop := ∀ (l : List S83) (cores a2 a3 : Int), l.length ≤ maxLen → (Lit.int .i64 cores).wf = true → (0 ≤ a2 ∧ a2 < 256) → (0 ≤ a3 ∧ a3 < 256) →
    (∃ K, ontimelaw47_valid.f K l cores = some false ∨ (ontimelaw47_valid.f K l cores = some true ∧ (l.length = 0 ∨ 14 < l.length))) ∨
    ∃ K s ok, ontimelaw47_valid.f K l cores = some true ∧ 0 < l.length ∧ l.length ≤ 14 ∧ flow_Schedule.f K l cores = some (s, ok, 0) ∧ ∃ (i : Nat) (j : S83), a2 % (l.length : Int) = i ∧ i < l.length ∧ j = rd_T83 l (i : Int) ∧
      EaseOk K (l.set i j) (wrap64 (cores + 1)) ok ∧ EaseOk K (l.set i ⟨j.f0, wrap64 (j.f1 + a3 % 9), j.f2⟩) cores ok ∧ EaseOk K (l.set i ⟨wrap64 (j.f0 - a3 % 9), j.f1, j.f2⟩) cores ok ∧ EaseOk K (l.set i ⟨j.f0, j.f1, wrap64 (j.f2 - 1)⟩) cores ok
theorem u8_rng {a : Int} (h : (Lit.int .u8 a).wf = true) : 0 ≤ a ∧ a < 256 := by
  simp [Lit.wf, IntKind.min, IntKind.max, IntKind.bits, IntKind.signed] at h
  omega
theorem ontimelaw47_FlowEases.walk (P : ontimelaw47_FlowEases.Pure) (A : Option Addr) (c : Nat) (l : List S83) (cores a2 a3 : Int) (w : World) (hC : Kd.C k83 w A l.length l) (hc : l.length ≤ c) (hm : l.length ≤ maxLen) (w1 : (Lit.int .i64 cores).wf = true) (w2 : (Lit.int .u8 a2).wf = true) (w3 : (Lit.int .u8 a3).wf = true) :
    Calls Try.prog 18 #[.slice A l.length c, .int .i64 cores, .int .u8 a2, .int .u8 a3] w fun e w' => e = .returned (.bool true) ∧ Below w.heap.size w w' := by
  rcases P l cores a2 a3 hm w1 (u8_rng w2) (u8_rng w3) with ⟨K, h⟩ | ⟨K, s, ok, h1, h2, h3, h4, i, j, h5, h6, h7, h8, h9, h10, h11⟩
  · exact eases_bad K A c l cores a2 a3 w hC hc h
  · exact eases_good K A c l cores a2 a3 w hC hc (u8_rng w2) (u8_rng w3) h1 h2 h3 s ok h4 i h5 h6 j h7 h8 h9 h10 h11
end Go.Proofs.Ythdjhgidccmlfaa.P
