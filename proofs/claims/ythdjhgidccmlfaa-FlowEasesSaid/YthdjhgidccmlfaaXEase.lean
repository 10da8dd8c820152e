/- The function literal of FlowEases, walked. -/
import Derived.Test.YthdjhgidccmlfaaXSchedule
import Derived.Test.YthdjhgidccmlfaaXAwake
import Derived.Test.YthdjhgidccmlfaaPx7
namespace Go.Proofs.Ythdjhgidccmlfaa.P
open Go.RowKit Go.Proofs.YthdjhgidccmlfaaW.PrintWords Go.Proofs.YthdjhgidccmlfaaW.PrintLast Go.Proofs.YthdjhgidccmlfaaW.PrintMore
attribute [local go_sem] max2_int min2_int max_two min_two max_three min_three max_four min_four
set_option linter.unusedVariables false
set_option linter.unusedSimpArgs false

/-- What the literal asks of the changed jobs. -/
def EaseOk (K : Nat) (m : List S83) (cores : Int) (ok : Bool) : Prop :=
  ontimelaw47_valid.f K m cores = some false ∨ (ontimelaw47_valid.f K m cores = some true ∧ ∃ s is_, flow_Schedule.f K m cores = some (s, is_, 0) ∧ (is_ || !ok) = true)

set_option maxHeartbeats 4000000 in
set_option maxRecDepth 100000 in
theorem ease_calls (K : Nat) (l : List S83) (i : Nat) (ok : Bool) (j : S83) (cores : Int) (gl gi go : Nat) (A : Option Addr) (c : Nat) (w : World)
    (hbl : w.heap[gl]? = some (.cells #[.slice A l.length c] 65 (0, 0))) (hbi : w.heap[gi]? = some (.cells #[.int .i64 (i : Int)] 3 (0, 0))) (hbo : w.heap[go]? = some (.cells #[.bool ok] 4 (0, 0)))
    (hC : Kd.C k83 w A l.length l) (hc : l.length ≤ c) (hi : i < l.length) (hl : l.length ≤ 14) (h : EaseOk K (l.set i j) cores ok) :
    Calls Try.prog 54 #[.agg #[.int .i64 j.f0, .int .i64 j.f1, .int .i64 j.f2], .int .i64 cores, .pointer (some ⟨gl, 0, none⟩), .pointer (some ⟨gi, 0, none⟩), .pointer (some ⟨go, 0, none⟩)] w fun e w' => e = .returned (.bool true) ∧ Below w.heap.size w w' := by
  have hu83 := Try.underlying83
  have H := Aside0.mk h
  have HC := Aside0.mk hC
  have Hc := Aside0.mk hc
  have Hi := Aside0.mk hi
  have Hl := Aside0.mk hl
  have BL := Aside0.mk hbl
  have BI := Aside0.mk hbi
  have BO := Aside0.mk hbo
  clear h hC hc hi hl hbl hbi hbo
  go_enter Try.func54, Try.ntmps54
  go_upto_region 1 with fail
  obtain ⟨gj, hgj⟩ : ∃ gj, gj = w.heap.size := ⟨_, rfl⟩
  rw [← hgj]
  have BJ := Aside0.mk (show (w.alloc (.cells #[.int .i64 j.f0, .int .i64 j.f1, .int .i64 j.f2] 83)).heap[gj]? = some (.cells #[.int .i64 j.f0, .int .i64 j.f1, .int .i64 j.f2] 83 (0, 0)) from by rw [hgj]; exact blk_new _ _)
  have HB := Aside0.mk (below_alloc (Below.refl w.heap.size w) (.cells #[.int .i64 j.f0, .int .i64 j.f1, .int .i64 j.f2] 83))
  clear hgj
  generalize w.alloc (.cells #[.int .i64 j.f0, .int .i64 j.f1, .int .i64 j.f2] 83) = w1 at BJ HB ⊢
  have hx : w1.cell? ⟨gl, 0, none⟩ = some (.slice A l.length c) := (blk_cell (blk_below BL.out HB.out) 0).trans rfl
  have HW1 := Aside0.mk (Below.refl w1.heap.size w1)
  go_upto_region 2 with (first
    | ((with_reducible refine gate_dst (N := 12) rfl ?_); (try (refine gate_guard (by rfl) ?_; dsimp only)); refine Kd.R_lit k83 (w0 := w1) w1.heap.size 83 ?hg (N := 12) ?hd (xs := ([] : List S83)) (inner := []) (ok := fun _ => True) (okp := fun _ => True) ?hr ?hp (fun _ hk => hk) trivial HW1.out (Nat.le_refl _) (by simp) ?_; (case hd => rfl); (case hg => rfl); (case hr => first | (go_simp; done) | (go_simp; rfl)); (case hp => exact (Reps.none _ _)); intro v12 w2 ho hb hg_ hnew_; have HO := Aside0.mk ho; have HB1 := Aside0.mk hb; have hx2 : w2.cell? ⟨gl, 0, none⟩ = some (.slice A l.length c) := (blk_cell (blk_below (blk_below BL.out HB.out) HB1.out) 0).trans rfl; clear ho hb hg_ hnew_ hx)
    | ((with_reducible refine gate_builtin (b := .append) (xs := #[.tmp 12, .tmp 13]) rfl ?_); (try (refine gate_guard (by rfl) ?_; dsimp only)); at_builtin; refine Kd.R_append_rows k83 (w0 := w1) w1.heap.size rfl (.tmp 12) (.tmp 13) 65 83 (.agg #[.int .i64 0, .int .i64 0, .int .i64 0]) 24 rfl Try.underlying65 info83 rfl (by decide) (by omega) v12 [] l _ _ _ (fun _ => True) (fun _ => False) rfl rfl ?aO ?aR (fun _ _ h => h) (fun _ h => h.elim) ?aF ?aB ?aS ?aL ?_; (case aR => exact Kd.C_below HC.out (below_step HB.out HB1.out)); (case aB => exact HB1.out); (case aF => exact fun _ _ => trivial); (case aO => exact HO.out); (case aS => exact HB1.out.size); (case aL => have := Hl.out; simp only [List.length_nil]; omega); intro v14 w3 ho hb hg hat; have HM := Aside0.mk ho; have HB3 := Aside0.mk hb; clear ho hb hg hat HO HB1 hx2))
  rw [List.nil_append] at HM
  obtain ⟨g, cm, rfl, hgb, hgl, cells, hcells⟩ := Kd.R_form HM.out (by have := Hi.out; omega)
  obtain ⟨cc, hcl, hKM, hcc, hfr⟩ := Kd.R_elem HM.out z83 (i : Int) (by omega) (by have := Hi.out; omega)
  have hsz : k83.sz = 3 := rfl
  rw [hsz, Int.toNat_natCast] at hcc hfr
  obtain ⟨u0, u1, u2, rfl⟩ : ∃ u0 u1 u2, cc = [u0, u1, u2] := by
    match cc, hcl with
    | [u0, u1, u2], _ => exact ⟨u0, u1, u2, rfl⟩
  have e0 := hcc 0 u0 rfl
  have e1 := hcc 1 u1 rfl
  have e2 := hcc 2 u2 rfl
  have f0 := hfr 0
  have f1 := hfr 1
  have f2 := hfr 2
  rw [Nat.add_zero] at e0 f0
  have HCC := Aside0.mk hcc
  have bj := blk_below BJ.out HB3.out
  have bj0 : w3.cell? ⟨gj, 0, none⟩ = some (.int .i64 j.f0) := (blk_cell bj 0).trans rfl
  have bj1 : w3.cell? ⟨gj, 1, none⟩ = some (.int .i64 j.f1) := (blk_cell bj 1).trans rfl
  have bj2 : w3.cell? ⟨gj, 2, none⟩ = some (.int .i64 j.f2) := (blk_cell bj 2).trans rfl
  have bi0 : w3.cell? ⟨gi, 0, none⟩ = some (.int .i64 (i : Int)) := (blk_cell (blk_below (blk_below BI.out HB.out) HB3.out) 0).trans rfl
  have i0 : (0 : Int) ≤ (i : Int) := by omega
  have i1 : (i : Int) < (l.length : Int) := by have := Hi.out; omega
  clear hcc hfr hcells bj hKM hcl
  go_upto_region 3 with fail
  obtain ⟨hR4, hG4⟩ := Kd.R_seg (j := 0) (seg := [.int .i64 j.f0, .int .i64 j.f1, .int .i64 j.f2]) (x' := j) (okp := fun _ => False) HM.out (i : Int) i0 i1 (c := [u0, u1, u2]) rfl HCC.out (Nat.le_refl _) (k83_mkM w3 w1.heap.size (fun _ => False) j) (fun _ h => h.elim)
  rw [Int.toNat_natCast] at hR4 hG4
  have hBB := Aside0.mk (HB3.out.grown hG4 HB3.out.size (fun k hk => by injection hk with hk; omega))
  have HR4 := Aside0.mk hR4
  have e4 : w3.setCells g (i * k83.sz + 0) [.int .i64 j.f0, .int .i64 j.f1, .int .i64 j.f2] = ((w3.setCell ⟨g, i * 3, none⟩ (.int .i64 j.f0)).setCell ⟨g, i * 3 + 1, none⟩ (.int .i64 j.f1)).setCell ⟨g, i * 3 + 2, none⟩ (.int .i64 j.f2) := rfl
  rw [e4] at HR4 hBB
  clear hR4 hG4 HM HB3 e4 e0 e1 e2 f0 f1 f2 HCC bj0 bj1 bj2 bi0 BJ
  generalize ((w3.setCell ⟨g, i * 3, none⟩ (.int .i64 j.f0)).setCell ⟨g, i * 3 + 1, none⟩ (.int .i64 j.f1)).setCell ⟨g, i * 3 + 2, none⟩ (.int .i64 j.f2) = w4 at HR4 hBB ⊢
  obtain ⟨m, hm⟩ : ∃ m, m = l.set i j := ⟨_, rfl⟩
  rw [← hm] at H
  have hml : l.length = m.length := by rw [hm, List.length_set]
  rw [← hm, hml] at HR4
  rw [hml]
  have HCm := Aside0.mk (Kd.R_reads' HR4.out)
  have HBB2 := Aside0.mk (below_step HB.out hBB.out)
  have BO4 := Aside0.mk (blk_below BO.out HBB2.out)
  clear HR4 hBB HB hm HW1 hgb hgl BL BI BO HC Hc Hi i1 hml Hl
  rcases H.out with hv | ⟨hv, s, is_, hs, hok⟩
  · have HV := Aside0.mk hv
    clear hv H
    go_wp2_with (go_at_call 48; refine (ontimelaw47_valid.calls K (some ⟨g, 0, none⟩) cm m cores false w4 HCm.out.2.2 HCm.out.2.1 HV.out).mono ?_; rintro e w5 ⟨rfl, hb⟩; have HB5 := Aside0.mk hb; clear hb)
    go_ret
    exact ⟨rfl, below_step HBB2.out HB5.out⟩
  · have HV := Aside0.mk hv
    have HS := Aside0.mk hs
    clear hv H hs
    cases is_ <;> cases ok <;> (first | (exfalso; revert hok; decide) | skip)
    all_goals clear hok
    all_goals go_wp2_with (first
      | (go_at_call 48; refine (ontimelaw47_valid.calls K (some ⟨g, 0, none⟩) cm m cores true w4 HCm.out.2.2 HCm.out.2.1 HV.out).mono ?_; rintro e w5 ⟨rfl, hb⟩; have HB5 := Aside0.mk hb; clear hb)
      | (go_at_call 43; refine (flow_Schedule.calls K (some ⟨g, 0, none⟩) cm m cores s _ 0 w5 (Kd.C_below HCm.out.2.2 HB5.out) HCm.out.2.1 HS.out).mono ?_; rintro e w6 ⟨vs, rfl, hS, hb⟩; have HB6 := Aside0.mk (below_step HB5.out hb); clear hS hb HB5; have bo6 : w6.cell? ⟨go, 0, none⟩ = some (.bool _) := (blk_cell (blk_below BO4.out HB6.out) 0).trans rfl))
    all_goals go_ret
    all_goals exact ⟨rfl, below_step HBB2.out HB6.out⟩
end Go.Proofs.Ythdjhgidccmlfaa.P
