/- The walk of ontimelaw47.FlowIsMaximal, over the contracts of what it calls. -/
import Derived.Test.YthdjhgidccmlfaaXMaxi
import Derived.Carry
namespace Go.Proofs.Ythdjhgidccmlfaa.P
open Go.RowKit Go.Proofs.YthdjhgidccmlfaaW.PrintWords Go.Proofs.YthdjhgidccmlfaaW.PrintLast Go.Proofs.YthdjhgidccmlfaaW.PrintMore
open Go.Proofs.Ythdjhgidccmlfaa.M
attribute [local go_sem] max2_int min2_int max_two min_two max_three min_three max_four min_four
set_option linter.unusedVariables false
set_option linter.unusedSimpArgs false

set_option maxHeartbeats 8000000 in
set_option maxRecDepth 100000 in
/-- The law passes by. -/
theorem maxi_bad (K : Nat) (A : Option Addr) (c : Nat) (l : List (List Int)) (a1 a2 : Int) (w : World) (hC : Kd.C (Kd.slice 3 (Kd.int .i64)) w A l.length l) (hc : l.length ≤ c) (hv : ontimelaw47_network.f K l 14 = some false) :
    Calls Try.prog 12 #[.slice A l.length c, .int .u8 a1, .int .u8 a2] w fun e w' => e = .returned (.bool true) ∧ Below w.heap.size w w' := by
  have HC := Aside0.mk hC
  have Hc := Aside0.mk hc
  have HV := Aside0.mk hv
  clear hC hc hv
  go_enter Try.func12, Try.ntmps12
  have HB := Aside0.mk (Below.refl w.heap.size w)
  go_wp2_with (first
    | (go_at_call 41; refine (ontimelaw47_awake.calls true _ rfl).mono ?_; rintro e w2 ⟨rfl, hb⟩; have nb := Aside0.mk (below_step HB.out hb); clear HB hb; have HB := nb; clear nb)
    | (go_at_call 44; refine (ontimelaw47_network.calls K A c l 14 false _ (Kd.C_below HC.out HB.out) Hc.out HV.out).mono ?_; rintro e w3 ⟨rfl, hd⟩; have nb := Aside0.mk (below_step HB.out hd.below); clear HB hd; have HB := nb; clear nb))
  go_ret
  exact ⟨rfl, HB.out⟩
/-- The flow along an edge. -/
def eOf (xs : List (List Int)) (a b : Nat) : Int := rd (rd_L4 xs (a : Int)) (b : Int)
/-- What the plain law knows of the flow xs. -/
structure MaxFacts (l xs : List (List Int)) (s t : Nat) (value : Int) (R : Nat → Prop) : Prop where
  n14 : l.length ≤ 14
  row : ∀ a : Nat, a < l.length → (rd_L4 l (a : Int)).length = l.length
  xl : xs.length = l.length
  xrow : ∀ a : Nat, a < l.length → (rd_L4 xs (a : Int)).length = l.length
  st : s < l.length ∧ t < l.length ∧ s ≠ t
  b : ∀ a b : Nat, a < l.length → b < l.length → 0 ≤ rd (rd_L4 xs (a : Int)) (b : Int) ∧ rd (rd_L4 xs (a : Int)) (b : Int) ≤ rd (rd_L4 l (a : Int)) (b : Int) ∧ rd (rd_L4 xs (a : Int)) (b : Int) ≤ 1073741824
  net : ∀ x : Nat, x < l.length → netA (eOf xs) l.length l.length x = if x = s then value else if x = t then -value else 0
  v : 0 ≤ value ∧ value ≤ 429496729600
  Rs : R s
  Rt : ¬ R t
  cl : ∀ u v : Nat, u < l.length → v < l.length → R u → (rd (rd_L4 xs (u : Int)) (v : Int) < rd (rd_L4 l (u : Int)) (v : Int) ∨ 0 < rd (rd_L4 xs (v : Int)) (u : Int)) → R v
/-- The cells of a row of rows, read. -/
theorem row_cells {w : World} {A : Option Addr} {l : List (List Int)} (hC : Kd.C (Kd.slice 3 (Kd.int .i64)) w A l.length l) {n i : Nat} (hn : l.length = n) (hr : (rd_L4 l (i : Int)).length = n) (hi : i < n) :
    ∃ ad ad2 c2, A = some ad ∧ w.cell? (ad.add i) = some (.slice (some ad2) n c2) ∧ ∀ j : Nat, j < n → w.cell? (ad2.add j) = some (.int .i64 (rd (rd_L4 l (i : Int)) (j : Int))) := by
  obtain ⟨ad, Ai, ci, e1, y1, li, hi4⟩ := at_L4 hC (i : Int) (by omega) (by omega)
  obtain ⟨adi, e2, _⟩ := cell_row hi4 (i : Int) (by omega) (by omega)
  subst e2
  simp only [Int.toNat_natCast] at y1
  rw [hr] at y1
  refine ⟨ad, adi, ci, e1, y1, fun j hj => ?_⟩
  obtain ⟨adj, e3, y2⟩ := cell_row hi4 (j : Int) (by omega) (by omega)
  injection e3 with e3
  subst e3
  rw [Int.toNat_natCast] at y2
  exact y2
theorem wf64 {z : Int} (h0 : 0 ≤ z) (h1 : z < 1000000) : (Lit.int .i64 z).wf = true := by
  simp [Lit.wf, IntKind.min, IntKind.max, IntKind.bits, IntKind.signed]
  omega

set_option maxHeartbeats 8000000 in
set_option maxRecDepth 100000 in
/-- The law looks. -/
theorem maxi_good (K : Nat) (A : Option Addr) (c : Nat) (l : List (List Int)) (a1 a2 : Int) (w : World) (hC : Kd.C (Kd.slice 3 (Kd.int .i64)) w A l.length l) (hc : l.length ≤ c) (hv : ontimelaw47_network.f K l 14 = some true) (s t : Nat) (he : ontimelaw47_ends.f l a1 a2 = some ((s : Int), (t : Int)))
    (value : Int) (xs : List (List Int)) (hm : flow_Max.f K l s t = some (value, xs, 0)) (R : Nat → Prop) (hF : MaxFacts l xs s t value R) :
    Calls Try.prog 12 #[.slice A l.length c, .int .u8 a1, .int .u8 a2] w fun e w' => e = .returned (.bool true) ∧ Below w.heap.size w w' := by
  have hmm := @run_makeMap Try.prog
  have HC := Aside0.mk hC
  have Hc := Aside0.mk hc
  have HV := Aside0.mk hv
  have HE := Aside0.mk he
  have HM := Aside0.mk hm
  have HF := Aside0.mk hF
  have h14 := hF.n14
  clear hC hc hv he hm hF
  have HB := Aside0.mk (Below.refl w.heap.size w)
  go_enter Try.func12, Try.ntmps12
  go_upto_region 7 with (first
    | (go_at_call 41; refine (ontimelaw47_awake.calls true _ rfl).mono ?_; rintro e w2 ⟨rfl, hb⟩; have nb := Aside0.mk (below_step HB.out hb); clear HB hb; have HB := nb; clear nb)
    | (go_at_call 44; refine (ontimelaw47_network.calls K A c l 14 true _ (Kd.C_below HC.out HB.out) Hc.out HV.out).mono ?_; rintro e w3 ⟨rfl, hd⟩; have nb := Aside0.mk (below_step HB.out hd.below); clear HB hd; have HB := nb; clear nb)
    | (go_at_call 45; refine (ontimelaw47_ends.calls A c l a1 a2 s t _ (Kd.C_below HC.out HB.out) Hc.out HE.out).mono ?_; rintro e w3 ⟨rfl, hd⟩; have nb := Aside0.mk (below_step HB.out hd.below); clear HB hd; have HB := nb; clear nb)
    | (go_at_call 46; refine (flow_Max.calls K A c l s t value xs 0 _ (Kd.C_below HC.out HB.out) Hc.out HM.out).mono ?_; rintro e w4 ⟨v4, rfl, hS, hb⟩; have nb := Aside0.mk (below_step HB.out hb); have HS := Aside0.mk hS; clear HB hb hS; have HB := nb; clear nb; obtain ⟨Af, cf, ef⟩ := Kd.S_slice HS.out; rw [HF.out.xl] at ef; subst ef))
  have HXC : Aside0 (Kd.C (Kd.slice 3 (Kd.int .i64)) w4 Af xs.length xs) := ⟨(Kd.S_reads' HS.out).2.2⟩
  clear HS
  have HB4 := Aside0.mk (Below.refl w4.heap.size w4)
  have hnn : ((l.length : Int)) < 1000 := by omega
  go_wp2_with ((with_reducible refine gate_dst (N := 56) rfl ?_); refine Kd.R_make (Kd.int .i64) (w0 := w4) w4.heap.size 3 rfl (N := 56) rfl 55 _ _ rfl (l.length : Int) rfl rfl Try.underlying55 (.int .i64 0) 8 info3 rfl (by decide) (by omega) 0 (ok := fun _ => True) (okp := fun _ => True) rfl (fun _ hk => hk) trivial (by omega) (by omega) HB4.out (Nat.le_refl _) ?_; intro v56 w5 ho hb hg_ hnew_; have nb := Aside0.mk hb; obtain ⟨g, cg, eo, hbuf⟩ := bufi_made ho hnew_; subst eo; rw [Int.toNat_natCast] at hbuf ⊢; have HBF := Aside0.mk hbuf; clear HB4 ho hb hg_ hnew_ hbuf; have HB4 := nb; clear nb; rw [List.length_replicate])
  go_loopw [59] (fun i59 wr => ∃ (u : Nat) (o : List Int), u ≤ l.length ∧ i59 = .int .i64 (u : Int) ∧ Aside0 (o.length = l.length) ∧ Aside0 (BufI wr w4.heap.size g cg o) ∧ Aside0 (NetIs (eOf xs) l.length o u 0) ∧ Aside0 (Below w4.heap.size w4 wr)) (fun i59 _ => l.length - (intOf i59).toNat)
  case atStart => exact ⟨0, _, Nat.zero_le _, rfl, ⟨List.length_replicate⟩, HBF, ⟨NetIs.start _ _⟩, HB4⟩
  case round =>
    clear HBF HB4
    obtain ⟨u, o, hu, rfl, HOL, HBF, HN, HB4⟩ := hrel
    by_cases hun : u < l.length
    · have u0 : (0 : Int) ≤ (u : Int) := by omega
      have u1 : (u : Int) < (l.length : Int) := by omega
      obtain ⟨adx, adu, cu, rfl, X1, X2⟩ := row_cells HXC.out HF.out.xl (HF.out.xrow u hun) hun
      obtain ⟨adl, adlu, clu, rfl, Y1, Y2⟩ := row_cells HC.out rfl (HF.out.row u hun) hun
      have X1 := Aside0.mk X1
      have X2 := Aside0.mk X2
      have Y1 := Aside0.mk Y1
      have Y2 := Aside0.mk Y2
      have x1 := (HB4.out.cell (World.block_lt_of_cell? _ _ X1.out)).trans X1.out
      go_wp2_with fail
      go_loopw [75] (fun i75 wq => ∃ (v : Nat) (o2 : List Int), v ≤ l.length ∧ i75 = .int .i64 (v : Int) ∧ Aside0 (o2.length = l.length) ∧ Aside0 (BufI wq w4.heap.size g cg o2) ∧ Aside0 (NetIs (eOf xs) l.length o2 u v) ∧ Aside0 (Below w4.heap.size w4 wq)) (fun i75 _ => l.length - (intOf i75).toNat)
      case atStart => exact ⟨0, o, Nat.zero_le _, rfl, HOL, HBF, HN, HB4⟩
      case round =>
        clear HBF HB4 HN HOL x1
        obtain ⟨v, o2, hv, rfl, HOL, HBF, HN, HB4⟩ := hrel
        by_cases hvn : v < l.length
        · have v0 : (0 : Int) ≤ (v : Int) := by omega
          have v1 : (v : Int) < (l.length : Int) := by omega
          have hb := HF.out.b u v hun hvn
          have x2 := (HB4.out.cell (World.block_lt_of_cell? _ _ (X2.out v hvn))).trans (X2.out v hvn)
          have HBL := Aside0.mk (below_step HB.out HB4.out)
          have y1 := (HBL.out.cell (World.block_lt_of_cell? _ _ Y1.out)).trans Y1.out
          have y2 := (HBL.out.cell (World.block_lt_of_cell? _ _ (Y2.out v hvn))).trans (Y2.out v hvn)
          have d1 : decide (rd (rd_L4 xs (u : Int)) (v : Int) < 0) = false := decide_eq_false (by omega)
          have d2 : decide (rd (rd_L4 l (u : Int)) (v : Int) < rd (rd_L4 xs (u : Int)) (v : Int)) = false := decide_eq_false (by omega)
          have HBB := Aside0.mk hb
          obtain ⟨c1, f1⟩ := HBF.out.cell u (by rw [HOL.out]; exact hun)
          clear hb
          go_upto_region 19 with fail
          clear c1 f1 x2 y1 y2 d1 d2
          have HST := Aside0.mk (HN.out.step HOL.out hun hvn (by omega) ⟨HBB.out.1, HBB.out.2.2⟩)
          have HB5 := Aside0.mk (HBF.out.put u (wrap64 (rd o2 (u : Int) + rd (rd_L4 xs (u : Int)) (v : Int))))
          have HB6 := Aside0.mk (below_set (j := u) (v := .int .i64 (wrap64 (rd o2 (u : Int) + rd (rd_L4 xs (u : Int)) (v : Int)))) HB4.out HBF.out.base)
          have HOL2 := Aside0.mk (show (o2.set u (wrap64 (rd o2 (u : Int) + rd (rd_L4 xs (u : Int)) (v : Int)))).length = l.length by rw [List.length_set]; exact HOL.out)
          unfold eOf at HST
          generalize o2.set u (wrap64 (rd o2 (u : Int) + rd (rd_L4 xs (u : Int)) (v : Int))) = o3 at HB5 HOL2 HST
          clear HB4 HBF HN HOL HBL
          generalize wr.setCell ⟨g, u, none⟩ (.int .i64 (wrap64 (rd o2 (u : Int) + rd (rd_L4 xs (u : Int)) (v : Int)))) = w6 at HB5 HB6 ⊢
          obtain ⟨c1, f1⟩ := HB5.out.cell v (by rw [HOL2.out]; exact hvn)
          go_wp2_with fail
          go_roundw
          case rel => exact ⟨v + 1, _, by omega, by go_num, ⟨by rw [List.length_set]; exact HOL2.out⟩, ⟨HB5.out.put v _⟩, HST, ⟨below_set HB6.out HB5.out.base⟩⟩
          case measure => simp [intOf]; omega
        · obtain rfl : v = l.length := by omega
          go_wp2_with fail
          go_roundw
          case rel => exact ⟨u + 1, o2, by omega, by go_num, HOL, HBF, ⟨HN.out.row (by omega)⟩, HB4⟩
          case measure => simp [intOf]; omega
    · obtain rfl : u = l.length := by omega
      have HNT := Aside0.mk (show ∀ x : Nat, x < l.length → rd o (x : Int) = if x = s then value else if x = t then -value else 0 from fun x hx => by
        have h1 := (HN.out x hx).1
        have h2 := HF.out.net x hx
        have h3 : netB (eOf xs) l.length 0 x = 0 := rfl
        omega)
      clear HN
      go_wp2_with fail
      go_loopw [111] (fun i111 wq => ∃ i : Nat, i ≤ l.length ∧ i111 = .int .i64 (i : Int) ∧ wq = wr) (fun i111 _ => l.length - (intOf i111).toNat)
      case atStart => exact ⟨0, Nat.zero_le _, rfl, rfl⟩
      case round =>
        obtain ⟨i, hi, rfl, rfl⟩ := hrel
        by_cases hin : i < l.length
        · have i0 : (0 : Int) ≤ (i : Int) := by omega
          have i1 : (i : Int) < (l.length : Int) := by omega
          obtain ⟨c1, f1⟩ := HBF.out.cell i (by rw [HOL.out]; exact hin)
          have hst := HF.out.st.2.2
          rw [HNT.out i hin] at c1
          clear f1
          by_cases es : i = s
          · subst es
            rw [if_pos rfl] at c1
            have q1 : ((i : Int) == (t : Int)) = false := beq_eq_false_iff_ne.2 (by omega)
            have q2 : (i == t) = false := beq_eq_false_iff_ne.2 hst
            go_wp2_with fail
            go_roundw
            case rel => exact ⟨i + 1, by omega, by go_num, by first | trivial | rfl⟩
            case measure => simp [intOf]; omega
          · rw [if_neg es] at c1
            have q1 : ((i : Int) == (s : Int)) = false := beq_eq_false_iff_ne.2 (by omega)
            have q2 : (i == s) = false := beq_eq_false_iff_ne.2 es
            by_cases et : i = t
            · subst et
              rw [if_pos rfl] at c1
              have hvn := Aside0.mk (show wrap64 (-value) = -value from by have := HF.out.v; exact wrapI (by omega) (by omega))
              have hvw := hvn.out
              go_wp2_with fail
              go_roundw
              case rel => exact ⟨i + 1, by omega, by go_num, by first | trivial | rfl⟩
              case measure => simp [intOf]; omega
            · rw [if_neg et] at c1
              have q3 : ((i : Int) == (t : Int)) = false := beq_eq_false_iff_ne.2 (by omega)
              have q4 : (i == t) = false := beq_eq_false_iff_ne.2 et
              go_wp2_with fail
              go_roundw
              case rel => exact ⟨i + 1, by omega, by go_num, by first | trivial | rfl⟩
              case measure => simp [intOf]; omega
        · obtain rfl : i = l.length := by omega
          have HBL := Aside0.mk (below_step HB.out HB4.out)
          clear HBF HNT HOL
          go_upto_region 29 with (refine put_bool (n := 0) (S := fun _ => false) (b := wr.heap.size) rfl _ _ _ (.inr rfl) (s : Int) rfl rfl rfl (BMap.made wr) (by unfold maxLen; omega) (wf64 (by omega) (by have := HF.out.st; omega)) ?_; intro w7 hbm hgm; have HBM := Aside0.mk hbm; have HB7 := Aside0.mk ((below_alloc HB4.out (.map #[] 0)).grown hgm (by (have := (below_alloc HB4.out (.map #[] 0)).size); exact this) (fun j hj => by injection hj with hj; subst hj; exact HB4.out.size)); clear hbm hgm)
          have HBS := Aside0.mk (show w4.heap.size ≤ wr.heap.size from HB4.out.size)
          clear HB4 HBL
          generalize wr.heap.size = bm at HBM HBS ⊢
          go_wp2_with ((with_reducible refine gate_dst (N := 154) rfl ?_); refine Kd.R_lit (Kd.int .i64) _ 3 ?hg (N := 154) ?hd (xs := [(s : Int)]) (inner := [.int .i64 (s : Int)]) (ok := fun _ => True) (okp := fun _ => True) ?hr ?hp (fun _ hk => hk) trivial (Below.refl _ _) (Nat.le_refl _) (by simp) ?_; (case hd => rfl); (case hg => rfl); (case hr => first | (go_simp; done) | (go_simp; rfl)); (case hp => exact (Reps.one (show Kd.M (Kd.int .i64) _ _ _ (s : Int) [.int .i64 (s : Int)] from rfl) (Reps.none _ _))); intro v154 w8 ho hb hg_ hnew_; have HQ := Aside0.mk (Kd.Q_lower (base' := w4.heap.size) (Kd.Q_of_R ho) HB7.out.size); have n1 := Aside0.mk (HBM.out.below hb); have n2 := Aside0.mk (below_step HB7.out hb); clear HBM HB7 ho hb hg_ hnew_; have HBM := n1; have HB4 := n2; clear n1 n2)
          have hc1 := cntF_put (S := fun _ => false) (z := s) rfl l.length HF.out.st.1
          have hc2 := cntF_le (fun _ => false) l.length
          go_loopg [19] (2 * l.length + 5) (fun kq v19 wq => ∃ (T : List Int) (S : Int → Bool) (m : Nat), Aside0 (Kd.Q (Kd.int .i64) 3 wq w4.heap.size (fun _ => True) v19 T) ∧ Aside0 (BMap wq bm m S) ∧ Aside0 (∀ z ∈ T, ∃ k : Nat, z = (k : Int) ∧ k < l.length ∧ S k = true) ∧ Aside0 (∀ x : Nat, x < l.length → S x = true → R x) ∧ Aside0 (T.length + 2 * cntF S l.length ≤ kq) ∧ Aside0 (kq ≤ 100) ∧ Aside0 (m + cntF S l.length ≤ 15) ∧ Aside0 (Below w4.heap.size w4 wq))
          case atStart =>
            refine ⟨[(s : Int)], _, 1, HQ, HBM, ⟨fun z hz => ⟨s, List.mem_singleton.1 hz, HF.out.st.1, by simp⟩⟩, ⟨fun x hx h => ?_⟩, ⟨?_⟩, ⟨?_⟩, ⟨?_⟩, HB4⟩
            · have : x = s := by
                simp at h
                omega
              rw [this]
              exact HF.out.Rs
            · simp only [List.length_singleton]
              omega
            · omega
            · omega
          case round =>
            clear HQ HBM HB4 hc1 hc2
            obtain ⟨T, S, m, HQ, HBM, HT, HSR, HFU, HKU, HMC, HB4⟩ := hrel
            by_cases hT : 0 < T.length
            · obtain ⟨u, hu0, hun, hSu⟩ := HT.out (rd T 0) (by unfold rd; rw [show ((0 : Int)).toNat = 0 from rfl, List.getD_eq_getElem?_getD, List.getElem?_eq_getElem hT]; exact List.getElem_mem hT)
              have HRu := Aside0.mk (HSR.out u hun hSu)
              obtain ⟨At, ct, et, hct⟩ := Kd.Q_slice HQ.out
              subst et
              obtain ⟨adt, eat, hx⟩ := Kd.at_int (Kd.Q_reads' HQ.out).2.2 0 (by omega) (by omega)
              cases eat
              rw [show ((0 : Int)).toNat = 0 from rfl, Addr.add_zero', hu0] at hx
              obtain ⟨k2, rfl⟩ : ∃ k2, gk = k2 + 1 := ⟨gk - 1, by have := HFU.out; omega⟩
              have d0 : decide (0 < (T.length : Int)) = true := decide_eq_true (by omega)
              have HTL := Aside0.mk hT
              have HU0 := Aside0.mk hu0
              have u0 : (0 : Int) ≤ (u : Int) := by omega
              have u1 : (u : Int) < (l.length : Int) := by omega
              obtain ⟨adx, adu, cu, rfl, X1, X2⟩ := row_cells HXC.out HF.out.xl (HF.out.xrow u hun) hun
              obtain ⟨adl, adlu, clu, rfl, Y1, Y2⟩ := row_cells HC.out rfl (HF.out.row u hun) hun
              have X1 := Aside0.mk X1
              have X2 := Aside0.mk X2
              have Y1 := Aside0.mk Y1
              have Y2 := Aside0.mk Y2
              clear hu0 hSu hct
              go_wp2_with fail
              clear hx d0 hT
              go_loopw [19, 165] (fun v19 i165 wq => ∃ (v : Nat) (T : List Int) (S : Int → Bool) (m : Nat), v ≤ l.length ∧ i165 = .int .i64 (v : Int) ∧ Aside0 (Kd.Q (Kd.int .i64) 3 wq w4.heap.size (fun _ => True) v19 T) ∧ Aside0 (BMap wq bm m S) ∧ Aside0 (∀ z ∈ T, ∃ k : Nat, z = (k : Int) ∧ k < l.length ∧ S k = true) ∧ Aside0 (∀ x : Nat, x < l.length → S x = true → R x) ∧ Aside0 (0 < T.length ∧ T.length ≤ 1000) ∧ Aside0 (T.length + 2 * cntF S l.length ≤ k2 + 1) ∧ Aside0 (m + cntF S l.length ≤ 15) ∧ Aside0 (Below w4.heap.size w4 wq)) (fun _ i165 _ => l.length - (intOf i165).toNat)
              case atStart => exact ⟨0, T, S, m, Nat.zero_le _, rfl, HQ, HBM, HT, HSR, ⟨HTL.out, by have := HFU.out; have := HKU.out; omega⟩, HFU, HMC, HB4⟩
              case round =>
                clear HQ HBM HT HSR HTL HFU HMC HB4
                obtain ⟨v, T, S, m, hv, rfl, HQ, HBM, HT, HSR, HTL, HFU, HMC, HB4⟩ := hrel
                by_cases hvn : v < l.length
                · have v0 : (0 : Int) ≤ (v : Int) := by omega
                  have v1 : (v : Int) < (l.length : Int) := by omega
                  obtain ⟨adx9, adv, cv, e9, Z1, Z2⟩ := row_cells HXC.out HF.out.xl (HF.out.xrow v hvn) hvn
                  injection e9 with e9
                  subst e9
                  have HBL := Aside0.mk (below_step HB.out HB4.out)
                  have x1 := (HB4.out.cell (World.block_lt_of_cell? _ _ X1.out)).trans X1.out
                  have x2 := (HB4.out.cell (World.block_lt_of_cell? _ _ (X2.out v hvn))).trans (X2.out v hvn)
                  have z1 := (HB4.out.cell (World.block_lt_of_cell? _ _ Z1)).trans Z1
                  have z2 := (HB4.out.cell (World.block_lt_of_cell? _ _ (Z2 u hun))).trans (Z2 u hun)
                  have y1 := (HBL.out.cell (World.block_lt_of_cell? _ _ Y1.out)).trans Y1.out
                  have y2 := (HBL.out.cell (World.block_lt_of_cell? _ _ (Y2.out v hvn))).trans (Y2.out v hvn)
                  have hlk := (HBM.out.drew).look (v : Int) (wf64 v0 (by omega))
                  clear Z1 Z2 HBL
                  by_cases hSv : S (v : Int) = true
                  · rw [hSv] at hlk
                    go_wp2_with fail
                    go_region
                    have n1 := Aside0.mk (Kd.Q_drew HQ.out)
                    have n2 := Aside0.mk (HBM.out.drew)
                    have n3 := Aside0.mk (below_drew1 HB4.out)
                    clear HQ HBM HB4 x1 x2 y1 y2 z1 z2 hlk
                    have HQ := n1
                    have HBM := n2
                    have HB4 := n3
                    clear n1 n2 n3
                    generalize wr.drew = wz at HQ HBM HB4 ⊢
                    go_wp2_with fail
                    go_roundw
                    case rel => exact ⟨v + 1, T, S, m, by omega, by go_num, HQ, HBM, HT, HSR, HTL, HFU, HMC, HB4⟩
                    case measure => simp [intOf]; omega
                  replace hSv := Bool.eq_false_iff.2 hSv
                  rw [hSv] at hlk
                  by_cases c1 : rd (rd_L4 xs (u : Int)) (v : Int) < rd (rd_L4 l (u : Int)) (v : Int)
                  · have HRV := Aside0.mk (HF.out.cl u v hun hvn HRu.out (.inl c1))
                    have d1 := decide_eq_true c1
                    clear c1
                    go_wp2_with fail
                    go_region
                    have n1 := Aside0.mk (Kd.Q_drew HQ.out)
                    have n2 := Aside0.mk (HBM.out.drew)
                    have n3 := Aside0.mk (below_drew1 HB4.out)
                    clear HQ HBM HB4 x1 x2 y1 y2 z1 z2 hlk
                    have HQ := n1
                    have HBM := n2
                    have HB4 := n3
                    clear n1 n2 n3
                    generalize wr.drew = wz at HQ HBM HB4 ⊢
                    have hcnt := Aside0.mk (cntF_put hSv l.length hvn)
                    go_wp2_with (first
                      | (refine put_bool rfl _ _ _ (.inl rfl) (v : Int) rfl rfl rfl HBM.out (by have := HMC.out; unfold maxLen; omega) (wf64 v0 (by omega)) ?_; intro w8 hbm hgm; have n1 := Aside0.mk (Kd.Q_grown2 HQ.out rfl hgm (fun k hk => by injection hk with hk; subst hk; exact HBM.out.ne_row HQ.out)); have n2 := Aside0.mk hbm; have n3 := Aside0.mk (HB4.out.grown hgm HB4.out.size (fun j hj => by injection hj with hj; subst hj; exact HBS.out)); clear HQ HBM HB4 hbm hgm; have HQ := n1; have HBM := n2; have HB4 := n3; clear n1 n2 n3)
                      | ((with_reducible refine gate_builtin (b := .append) (xs := #[.tmp 201, .tmp 203]) rfl ?_); at_builtin; refine Kd.Q_append (Kd.int .i64) (w0 := w4) w4.heap.size rfl (.tmp 201) (.tmp 203) 55 3 (.int .i64 0) 8 rfl Try.underlying55 info3 rfl (by decide) (by omega) u19 T (v : Int) [.int .i64 (v : Int)] (fun _ => True) (fun _ => False) rfl rfl ?aP (fun _ hk => hk.elim) (fun _ _ => trivial) ?aO ?aB ?aS ?aL ?_; (case aP => exact rfl); (case aO => exact HQ.out); (case aB => exact HB4.out); (case aS => exact HB4.out.size); (case aL => have := HTL.out; omega); intro v9 w9 ho hb hg hat; have n1 := Aside0.mk ho; have n2 := Aside0.mk (HBM.out.kept hg (HBM.out.ne_row HQ.out)); have n3 := Aside0.mk hb; clear HQ HBM HB4 ho hb hg hat; have HQ := n1; have HBM := n2; have HB4 := n3; clear n1 n2 n3))
                    go_roundw
                    case rel => exact ⟨v + 1, T ++ [(v : Int)], _, m + 1, by omega, by go_num, HQ, HBM, ⟨fun z hz => by
                        rcases List.mem_append.1 hz with hz | hz
                        · obtain ⟨k, hk1, hk2, hk3⟩ := HT.out z hz
                          exact ⟨k, hk1, hk2, by simp [hk3]⟩
                        · exact ⟨v, List.mem_singleton.1 hz, hvn, by simp⟩⟩, ⟨fun x hx h => by
                        by_cases e : x = v
                        · rw [e]; exact HRV.out
                        · have e2 : ((x : Int) == (v : Int)) = false := beq_eq_false_iff_ne.2 (by omega)
                          simp only [e2, Bool.false_or] at h
                          exact HSR.out x hx h⟩, ⟨by rw [List.length_append, List.length_singleton]; have := HTL.out; have := HFU.out; have := hcnt.out; have := HKU.out; omega⟩, ⟨by rw [List.length_append, List.length_singleton]; have := HFU.out; have := hcnt.out; omega⟩, ⟨by have := HMC.out; have := hcnt.out; omega⟩, HB4⟩
                    case measure => simp [intOf]; omega
                  have d1 := decide_eq_false c1
                  by_cases c2 : 0 < rd (rd_L4 xs (v : Int)) (u : Int)
                  · have HRV := Aside0.mk (HF.out.cl u v hun hvn HRu.out (.inr c2))
                    have d2 := decide_eq_true c2
                    clear c1 c2
                    go_wp2_with fail
                    go_region
                    have n1 := Aside0.mk (Kd.Q_drew HQ.out)
                    have n2 := Aside0.mk (HBM.out.drew)
                    have n3 := Aside0.mk (below_drew1 HB4.out)
                    clear HQ HBM HB4 x1 x2 y1 y2 z1 z2 hlk
                    have HQ := n1
                    have HBM := n2
                    have HB4 := n3
                    clear n1 n2 n3
                    generalize wr.drew = wz at HQ HBM HB4 ⊢
                    have hcnt := Aside0.mk (cntF_put hSv l.length hvn)
                    go_wp2_with (first
                      | (refine put_bool rfl _ _ _ (.inl rfl) (v : Int) rfl rfl rfl HBM.out (by have := HMC.out; unfold maxLen; omega) (wf64 v0 (by omega)) ?_; intro w8 hbm hgm; have n1 := Aside0.mk (Kd.Q_grown2 HQ.out rfl hgm (fun k hk => by injection hk with hk; subst hk; exact HBM.out.ne_row HQ.out)); have n2 := Aside0.mk hbm; have n3 := Aside0.mk (HB4.out.grown hgm HB4.out.size (fun j hj => by injection hj with hj; subst hj; exact HBS.out)); clear HQ HBM HB4 hbm hgm; have HQ := n1; have HBM := n2; have HB4 := n3; clear n1 n2 n3)
                      | ((with_reducible refine gate_builtin (b := .append) (xs := #[.tmp 201, .tmp 203]) rfl ?_); at_builtin; refine Kd.Q_append (Kd.int .i64) (w0 := w4) w4.heap.size rfl (.tmp 201) (.tmp 203) 55 3 (.int .i64 0) 8 rfl Try.underlying55 info3 rfl (by decide) (by omega) u19 T (v : Int) [.int .i64 (v : Int)] (fun _ => True) (fun _ => False) rfl rfl ?aP (fun _ hk => hk.elim) (fun _ _ => trivial) ?aO ?aB ?aS ?aL ?_; (case aP => exact rfl); (case aO => exact HQ.out); (case aB => exact HB4.out); (case aS => exact HB4.out.size); (case aL => have := HTL.out; omega); intro v9 w9 ho hb hg hat; have n1 := Aside0.mk ho; have n2 := Aside0.mk (HBM.out.kept hg (HBM.out.ne_row HQ.out)); have n3 := Aside0.mk hb; clear HQ HBM HB4 ho hb hg hat; have HQ := n1; have HBM := n2; have HB4 := n3; clear n1 n2 n3))
                    go_roundw
                    case rel => exact ⟨v + 1, T ++ [(v : Int)], _, m + 1, by omega, by go_num, HQ, HBM, ⟨fun z hz => by
                        rcases List.mem_append.1 hz with hz | hz
                        · obtain ⟨k, hk1, hk2, hk3⟩ := HT.out z hz
                          exact ⟨k, hk1, hk2, by simp [hk3]⟩
                        · exact ⟨v, List.mem_singleton.1 hz, hvn, by simp⟩⟩, ⟨fun x hx h => by
                        by_cases e : x = v
                        · rw [e]; exact HRV.out
                        · have e2 : ((x : Int) == (v : Int)) = false := beq_eq_false_iff_ne.2 (by omega)
                          simp only [e2, Bool.false_or] at h
                          exact HSR.out x hx h⟩, ⟨by rw [List.length_append, List.length_singleton]; have := HTL.out; have := HFU.out; have := hcnt.out; have := HKU.out; omega⟩, ⟨by rw [List.length_append, List.length_singleton]; have := HFU.out; have := hcnt.out; omega⟩, ⟨by have := HMC.out; have := hcnt.out; omega⟩, HB4⟩
                    case measure => simp [intOf]; omega
                  · have d2 := decide_eq_false c2
                    clear c1 c2
                    go_wp2_with fail
                    go_region
                    have n1 := Aside0.mk (Kd.Q_drew HQ.out)
                    have n2 := Aside0.mk (HBM.out.drew)
                    have n3 := Aside0.mk (below_drew1 HB4.out)
                    clear HQ HBM HB4 x1 x2 y1 y2 z1 z2 hlk
                    have HQ := n1
                    have HBM := n2
                    have HB4 := n3
                    clear n1 n2 n3
                    generalize wr.drew = wz at HQ HBM HB4 ⊢
                    go_wp2_with fail
                    go_roundw
                    case rel => exact ⟨v + 1, T, S, m, by omega, by go_num, HQ, HBM, HT, HSR, HTL, HFU, HMC, HB4⟩
                    case measure => simp [intOf]; omega
                · obtain rfl : v = l.length := by omega
                  obtain ⟨At, ct, et, hct⟩ := Kd.Q_slice HQ.out
                  subst et
                  obtain ⟨i0_, hi0, _, hsz, _⟩ := info_parts info3
                  have hcut := cut_from (P := Try.prog) 55 3 .i64 Try.underlying55 hi0 1 hsz At T.length ct 1 (by omega) (by have := HTL.out; omega)
                  have hr := Kd.Q_drop (k := (1 : Int).toNat) HQ.out (by have := HTL.out; omega)
                  obtain ⟨A21, hA21⟩ : ∃ A1, A1 = (if ct = (1 : Int).toNat then At else At.map (·.add ((1 : Int).toNat * 1))) := ⟨_, rfl⟩
                  obtain ⟨c21, hc21⟩ : ∃ c1, c1 = ct - (1 : Int).toNat := ⟨_, rfl⟩
                  obtain ⟨T', hT'⟩ : ∃ T', T' = T.drop (1 : Int).toNat := ⟨_, rfl⟩
                  have hy : T'.length = T.length - (1 : Int).toNat := by rw [hT', List.length_drop]
                  rw [← hy, ← hA21, ← hc21] at hcut
                  have hr' : Kd.Q (Kd.int .i64) 3 wr w4.heap.size (fun _ => True) (.slice A21 T'.length c21) T' := by
                    rw [hA21, hc21, hy, hT']
                    exact hr
                  have HQ2 := Aside0.mk hr'
                  have HT2 := Aside0.mk (show ∀ z ∈ T', ∃ k : Nat, z = (k : Int) ∧ k < l.length ∧ S k = true from fun z hz => HT.out z (by rw [hT'] at hz; exact List.mem_of_mem_drop hz))
                  have HY := Aside0.mk (show T'.length + 1 = T.length from by rw [hy, show ((1 : Int)).toNat = 1 from rfl]; have := HTL.out; omega)
                  clear hr hr' hA21 hc21 hT' hy hi0 hsz hct
                  go_wp2_with fail
                  go_roundg k2
                  case measure => omega
                  case rel => exact ⟨T', S, m, HQ2, HBM, HT2, HSR, ⟨by have := HFU.out; have := HY.out; omega⟩, ⟨by have := HKU.out; omega⟩, HMC, HB4⟩
            · have hT0 : T.length = 0 := by omega
              have d0 : decide (0 < (T.length : Int)) = false := decide_eq_false (by omega)
              obtain ⟨At, ct, et, hct⟩ := Kd.Q_slice HQ.out
              subst et
              have d1 : decide (0 ≤ value) = true := decide_eq_true HF.out.v.1
              have hSt : S (t : Int) = false := by
                cases h : S (t : Int) with
                | false => rfl
                | true => exact absurd (HSR.out t HF.out.st.2.1 h) HF.out.Rt
              have hlk := HBM.out.look (t : Int) (wf64 (by omega) (by have := HF.out.st; omega))
              rw [hSt] at hlk
              have HT0 := Aside0.mk hT0
              clear hT0
              go_wp2_with fail
              go_ret
              exact ⟨rfl, below_step HB.out HB4.out⟩
/-- What the plain law must show. -/
def ontimelaw47_FlowIsMaximal.Pure : Prop := ∀ (l : List (List Int)) (a1 a2 : Int), l.length ≤ maxLen → (Lit.int .u8 a1).wf = true → (Lit.int .u8 a2).wf = true →
    (∃ K, ontimelaw47_network.f K l 14 = some false) ∨ ∃ K, ontimelaw47_network.f K l 14 = some true ∧ ∃ s t : Nat, ontimelaw47_ends.f l a1 a2 = some ((s : Int), (t : Int)) ∧ ∃ value xs, flow_Max.f K l s t = some (value, xs, 0) ∧ ∃ R, MaxFacts l xs s t value R
theorem ontimelaw47_FlowIsMaximal.walk (P : ontimelaw47_FlowIsMaximal.Pure) (A : Option Addr) (c : Nat) (l : List (List Int)) (a1 a2 : Int) (w : World) (hC : Kd.C (Kd.slice 3 (Kd.int .i64)) w A l.length l) (hc : l.length ≤ c) (hm : l.length ≤ maxLen) (w1 : (Lit.int .u8 a1).wf = true) (w2 : (Lit.int .u8 a2).wf = true) :
    Calls Try.prog 12 #[.slice A l.length c, .int .u8 a1, .int .u8 a2] w fun e w' => e = .returned (.bool true) ∧ Below w.heap.size w w' := by
  rcases P l a1 a2 hm w1 w2 with ⟨K, h⟩ | ⟨K, hv, s, t, he, value, xs, hmx, R, hF⟩
  · exact maxi_bad K A c l a1 a2 w hC hc h
  · exact maxi_good K A c l a1 a2 w hC hc hv s t he value xs hmx R hF
end Go.Proofs.Ythdjhgidccmlfaa.P
