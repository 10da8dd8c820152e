/- Written by xprint.py: functions, proofs of contracts. -/
import Derived.Test.YthdjhgidccmlfaaPx0
import Derived.Test.YthdjhgidccmlfaaXRepeat
import Derived.Test.YthdjhgidccmlfaaPxBits
namespace Go.Proofs.Ythdjhgidccmlfaa.P
open Go.RowKit Go.Proofs.YthdjhgidccmlfaaW.PrintWords Go.Proofs.YthdjhgidccmlfaaW.PrintLast Go.Proofs.YthdjhgidccmlfaaW.PrintMore
attribute [local go_sem] max2_int min2_int max_two min_two max_three min_three max_four min_four   -- for this text's walks alone
set_option linter.unusedVariables false
set_option linter.unusedSimpArgs false

-- NOT PRINTED: function 97 (flow_Job_97)

-- NOT PRINTED: function 85 (flow_Job_85)

/-! ### flow_network_search: function 74 -/
mutual
def flow_network_search.l0 : Nat → List (List Int) → List Int → List Int → Option (List Int)
 | 0, _, _, _ => none
 | k + 1, x0, x5, x6 => if (x6.length : Int) > 0 then (if 0 < (x6.length : Int) then (if 1 ≤ (x6.length : Int) then (if 0 ≤ (rd x6 0) then (if (rd x6 0) < (x0.length : Int) then (flow_network_search.l1 k x0 x5 (x6.drop (1 : Int).toNat) (rd x6 0) (rd_L4 x0 (rd x6 0)) ((rd_L4 x0 (rd x6 0)).length : Int) 0) else (none)) else (none)) else (none)) else (none)) else (some x5)
def flow_network_search.l1 : Nat → List (List Int) → List Int → List Int → Int → List Int → Int → Int → Option (List Int)
 | 0, _, _, _, _, _, _, _ => none
 | k + 1, x0, x5, x6, x7, x31, x32, x33 => if x33 < x32 then (if 0 ≤ x33 then (if x33 < (x31.length : Int) then (if (rd x31 x33) > 0 then (if x33 < (x5.length : Int) then (if (rd x5 x33) < 0 then (if x6.length < 17592186044416 then (flow_network_search.l1 k x0 (x5.set (x33 : Int).toNat x7) (x6 ++ [x33]) x7 x31 x32 (wrap64 (x33 + 1))) else (none)) else (flow_network_search.l1 k x0 x5 x6 x7 x31 x32 (wrap64 (x33 + 1)))) else (none)) else (flow_network_search.l1 k x0 x5 x6 x7 x31 x32 (wrap64 (x33 + 1)))) else (none)) else (none)) else (flow_network_search.l0 k x0 x5 x6)
end
def flow_network_search.f (k : Nat) (l0 : List (List Int)) (a1 : Int) : Option (List Int) := (slices_Repeat_int_int.f (([(-1)] : List Int)) (l0.length : Int)).bind fun t106 => (if 0 ≤ a1 then (if a1 < (t106.length : Int) then (flow_network_search.l0 k l0 (t106.set (a1 : Int).toNat a1) (([a1] : List Int))) else (none)) else (none))
theorem flow_network_search.mono_l : ∀ k, (∀ y0 y1 y2, LeO (flow_network_search.l0 k y0 y1 y2) (flow_network_search.l0 (k + 1) y0 y1 y2)) ∧ (∀ y0 y1 y2 y3 y4 y5 y6, LeO (flow_network_search.l1 k y0 y1 y2 y3 y4 y5 y6) (flow_network_search.l1 (k + 1) y0 y1 y2 y3 y4 y5 y6))
 | 0 => ⟨fun _ _ _ r h => by simp [flow_network_search.l0] at h, fun _ _ _ _ _ _ _ r h => by simp [flow_network_search.l1] at h⟩
 | k + 1 => by
  obtain ⟨ih0, ih1⟩ := flow_network_search.mono_l k
  refine ⟨?_, ?_⟩
  ·intro y0 y1 y2
   unfold flow_network_search.l0
   repeat' first
   | (with_reducible exact ih0 _ _ _)
   | (with_reducible exact ih1 _ _ _ _ _ _ _)
   | (with_reducible exact LeO.refl _)
   | (with_reducible exact LeO.none _)
   | (with_reducible refine LeO.ite ?_ ?_)
   | (with_reducible refine LeO.bind ?_ (fun _ => ?_))
   | exact ih0 _ _ _
   | exact ih1 _ _ _ _ _ _ _
   | exact LeO.none _
   | refine LeO.ite ?_ ?_
   | refine LeO.bind ?_ (fun _ => ?_)
  ·intro y0 y1 y2 y3 y4 y5 y6
   unfold flow_network_search.l1
   repeat' first
   | (with_reducible exact ih0 _ _ _)
   | (with_reducible exact ih1 _ _ _ _ _ _ _)
   | (with_reducible exact LeO.refl _)
   | (with_reducible exact LeO.none _)
   | (with_reducible refine LeO.ite ?_ ?_)
   | (with_reducible refine LeO.bind ?_ (fun _ => ?_))
   | exact ih0 _ _ _
   | exact ih1 _ _ _ _ _ _ _
   | exact LeO.none _
   | refine LeO.ite ?_ ?_
   | refine LeO.bind ?_ (fun _ => ?_)
theorem flow_network_search.mono : ∀ a0 a1 k, LeO (flow_network_search.f k a0 a1) (flow_network_search.f (k + 1) a0 a1) := by
 intro a0 a1 k
 obtain ⟨ih0, ih1⟩ := flow_network_search.mono_l k
 unfold flow_network_search.f
 repeat' first
   | (with_reducible exact ih0 _ _ _)
   | (with_reducible exact ih1 _ _ _ _ _ _ _)
   | (with_reducible exact LeO.refl _)
   | (with_reducible exact LeO.none _)
   | (with_reducible refine LeO.ite ?_ ?_)
   | (with_reducible refine LeO.bind ?_ (fun _ => ?_))
   | exact ih0 _ _ _
   | exact ih1 _ _ _ _ _ _ _
   | exact LeO.none _
   | refine LeO.ite ?_ ?_
   | refine LeO.bind ?_ (fun _ => ?_)
set_option maxHeartbeats 8000000 in
set_option maxRecDepth 100000 in
theorem flow_network_search.calls (k : Nat) (A0 : Option Addr) (c0 : Nat) (l0 : List (List Int)) (a1 : Int) (r : List Int) (w : World) (hr0 : Kd.C (Kd.slice 3 (Kd.int .i64)) w A0 l0.length l0) (hc0 : l0.length ≤ c0) (h : flow_network_search.f k l0 a1 = some r) :
  Calls Try.prog 74 #[.slice A0 l0.length c0, .int .i64 a1] w fun e w' => ∃ v0_ : Value, e = .returned (v0_) ∧ Kd.R (Kd.int .i64) 3 w' w.heap.size (fun _ => True) v0_ r ∧ Below w.heap.size w w' := by
 have HR0 := Aside0.mk hr0
 have HC0 := Aside0.mk hc0
 clear hr0 hc0
 have HB := Aside0.mk (Below.refl w.heap.size w)
 have H : ((slices_Repeat_int_int.f (([(-1)] : List Int)) (l0.length : Int)).bind fun t106 => (if 0 ≤ a1 then (if a1 < (t106.length : Int) then (flow_network_search.l0 k l0 (t106.set (a1 : Int).toNat a1) (([a1] : List Int))) else (none)) else (none))) = some r := h
 clear h
 obtain ⟨y103, hy103⟩ : ∃ y_ : List Int, y_ = (([(-1)] : List Int)) := ⟨_, rfl⟩
 replace H : ((slices_Repeat_int_int.f y103 (l0.length : Int)).bind fun t106 => (if 0 ≤ a1 then (if a1 < (t106.length : Int) then (flow_network_search.l0 k l0 (t106.set (a1 : Int).toNat a1) (([a1] : List Int))) else (none)) else (none))) = some r := by first | (rw [hy103]; with_reducible exact H) | (have H2_ := (Option.bind_some _ _).symm.trans H; rw [hy103]; with_reducible exact H2_) | (have H2_ := (Option.bind_some _ _).symm.trans H; with_reducible exact H2_) | with_reducible exact H | (rw [hy103]; exact H) | exact H
 have Ny103 := Aside0.mk hy103
 clear hy103
 replace H := Option.bind_eq_some_iff.mp H
 obtain ⟨t106, A30, H⟩ := H
 replace H : (if 0 ≤ a1 then (if a1 < (t106.length : Int) then (flow_network_search.l0 k l0 (t106.set (a1 : Int).toNat a1) (([a1] : List Int))) else (none)) else (none)) = some r := H
 have A3 := Aside0.mk A30
 clear A30
 by_cases c4 : 0 ≤ a1
 ·rw [if_pos c4] at H
  have c4b0 : decide (0 ≤ a1) = true := decide_eq_true c4
  clear c4
  by_cases c5 : a1 < (t106.length : Int)
  ·rw [if_pos c5] at H
   have c5b0 : decide (a1 < (t106.length : Int)) = true := decide_eq_true c5
   clear c5
   obtain ⟨y109, hy109⟩ : ∃ y_ : List Int, y_ = (t106.set (a1 : Int).toNat a1) := ⟨_, rfl⟩
   replace H : (flow_network_search.l0 k l0 y109 (([a1] : List Int))) = some r := by first | (rw [hy109]; with_reducible exact H) | (have H2_ := (Option.bind_some _ _).symm.trans H; rw [hy109]; with_reducible exact H2_) | (have H2_ := (Option.bind_some _ _).symm.trans H; with_reducible exact H2_) | with_reducible exact H | (rw [hy109]; exact H) | exact H
   have Ny109 := Aside0.mk hy109
   clear hy109
   obtain ⟨y110, hy110⟩ : ∃ y_ : List Int, y_ = (([a1] : List Int)) := ⟨_, rfl⟩
   replace H : (flow_network_search.l0 k l0 y109 y110) = some r := by first | (rw [hy110]; with_reducible exact H) | (have H2_ := (Option.bind_some _ _).symm.trans H; rw [hy110]; with_reducible exact H2_) | (have H2_ := (Option.bind_some _ _).symm.trans H; with_reducible exact H2_) | with_reducible exact H | (rw [hy110]; exact H) | exact H
   have Ny110 := Aside0.mk hy110
   clear hy110
   have H' := Aside0.mk H
   clear H
   go_enter Try.func74, Try.ntmps74
   go_wp2_with (first | ((with_reducible refine gate_dst (N := 10) rfl ?_); refine Kd.R_lit (Kd.int .i64) _ 3 ?hg (N := 10) ?hd (xs := ([(-1)] : List Int)) (inner := [.int .i64 (-1)]) (ok := fun _ => True) (okp := fun _ => True) ?hr ?hp (fun _ hk => hk) trivial (Below.refl _ _) (Nat.le_refl _) (by simp) ?_; (case hd => rfl); (case hg => rfl); (case hr => first | (go_simp; done) | (go_simp; rfl)); (case hp => exact (Reps.one (show Kd.M (Kd.int .i64) _ _ _ (-1) [.int .i64 (-1)] from rfl) (Reps.none _ _))); intro v104 w7 ho8 hb hg_ hnew_; clear hg_ hnew_; (first | rw [← Ny103.out] at ho8 | (simp only [Int.reduceToNat] at ho8; rw [← Ny103.out] at ho8)); have n0_ := Aside0.mk (Kd.R_lower ho8 (below_size (by repeat (first | (with_reducible first | exact HB.out | apply below_alloc | apply pw_below_drewN | apply below_drew1) | exact HB.out)))); have n1_ := Aside0.mk (below_step (by repeat (first | (with_reducible first | exact HB.out | apply below_alloc | apply pw_below_drewN | apply below_drew1) | exact HB.out)) hb); clear HB; have HO105 := n0_; have HB := n1_; clear n0_ n1_; clear hb ho8; obtain ⟨Ao9, co9, eo9⟩ := Kd.R_slice HO105.out; subst eo9) | ((with_reducible refine gate_callee (f := 89) rfl ?_); refine goesL_ (some 13) rfl rfl Try.func89 (by kernel_rfl) rfl #[.slice Ao9 y103.length co9, .int .i64 (l0.length : Int)] rfl (by (try simp only [List.map_toArray, List.map_cons, List.map_nil]); first | done | rfl | (simp only [List.length_drop, List.length_take]; rfl)) ?_; (with_reducible refine (slices_Repeat_int_int.calls _ _ y103 (l0.length : Int) t106 _ ?side1 ?side2 A3.out).mono ?_); (case side1 => repeat (first | exact (Kd.R_reads' HO105.out).2.2 | (with_reducible refine Kd.C_alloc ?_ _) | (with_reducible refine Kd.C_drewN ?_ _) | (with_reducible refine Kd.C_drew ?_))); (case side2 => exact (Kd.R_reads' HO105.out).2.1); rintro e w10 ⟨v107, rfl, ho0, hb⟩; refine ⟨_, rfl, ?_⟩; have n0_ := Aside0.mk (Kd.R_elder' (by (with_reducible repeat (first | apply Kd.R_alloc | apply Kd.R_drewN | apply Kd.R_drew)); exact HO105.out) (Kd.R_base ho0) hb); have n1_ := Aside0.mk (Kd.R_lower (Kd.R_new' ho0 (Kd.R_lt (by (with_reducible repeat (first | apply Kd.R_alloc | apply Kd.R_drewN | apply Kd.R_drew)); exact HO105.out))) (below_size (by repeat (first | (with_reducible first | exact HB.out | apply below_alloc | apply pw_below_drewN | apply below_drew1) | exact HB.out)))); have n2_ := Aside0.mk (below_step (by repeat (first | (with_reducible first | exact HB.out | apply below_alloc | apply pw_below_drewN | apply below_drew1) | exact HB.out)) hb); clear HO105; clear HB; have HO105 := n0_; have HO108 := n1_; have HB := n2_; clear n0_ n1_ n2_; (try clear hb); (try clear hb2); (try clear hk); (try clear hi); (try clear ho0); have p6 : 0 ≤ (a1 : Int) := of_decide_eq_true (by first | (with_reducible assumption) | assumption); have q6 : (a1 : Int) < ((t106.length : Int) : Int) := of_decide_eq_true (by first | (with_reducible assumption) | assumption); obtain ⟨go6, co6, eo6, gb6, gl6, cl6, HG6⟩ := Kd.R_form HO108.out (by omega); (first | cases eo6 | (injection eo6 with ea_ en_ ec_; (first | subst ea_ | (injection ea_ with ea_; subst ea_)); subst ec_; clear en_)); have GB6 := Aside0.mk gb6; have GG6 := Aside0.mk HG6; clear gb6 gl6 HG6; obtain ⟨hx6_0, hf6_0⟩ := Kd.R_celln 0 HO108.out (a1 : Int) p6 q6; replace p6 := eq_true p6; replace q6 := eq_true q6; have n_ := Aside0.mk (Kd.R_mono (ok' := (fun k_ => some k_ ≠ (.slice Ao9 y103.length co9 : Value).ownBlock)) HO108.out (fun k_ hk => hk.2)); clear HO108; have HO108 := n_; clear n_; obtain ⟨hy11_, hz11_⟩ := Kd.R_celln 0 HO108.out (a1 : Int) (of_decide_eq_true (by first | (with_reducible assumption) | assumption)) (of_decide_eq_true (by first | (with_reducible assumption) | assumption)); have HP11 := Kd.R_putg HO108.out (a1 : Int) a1) | ((with_reducible refine gate_store (t := 3) (p := 17) rfl ?_); refine store_event (t := 3) (p := 17) (v := ?vo_w12) (w1 := (w10.setCell ⟨go6, (a1 : Int).toNat, none⟩ (.int .i64 a1))) ?hg ?ho ?hn ?hr ?_; (case ho => rfl); (case hg => rfl); (case hn => rfl); (case hr => first | (go_simp; done) | (go_simp; rfl)); intro w12 hw; have hg : w10.grownBy w12 (some go6) := (by rw [hw]; exact HP11.2); have hp_ : Kd.R (Kd.int .i64) 3 w12 w.heap.size (fun k_ => some k_ ≠ (.slice Ao9 y103.length co9 : Value).ownBlock) (.slice (some ⟨go6, 0, none⟩) t106.length co6) y109 := (by rw [hw, Ny109.out]; exact HP11.1); clear HP11; have n0_ := Aside0.mk (Kd.R_after (v := (.slice (some ⟨go6, 0, none⟩) t106.length co6)) (v1 := (.slice (some ⟨go6, 0, none⟩) t106.length co6)) (ok := (fun _ => True)) (by (with_reducible repeat (first | apply Kd.R_alloc | apply Kd.R_drewN | apply Kd.R_drew)); exact HO105.out) hg (.inl rfl)); have n1_ := Aside0.mk (hp_); have n2_ := Aside0.mk ((by rw [hw]; exact below_set (HB.out) GB6.out : Below w.heap.size w w12)); clear HO105; clear HO108; clear HB; have HO105 := n0_; have HO108 := n1_; have HB := n2_; clear n0_ n1_ n2_; clear hg hw hp_) | ((with_reducible refine gate_dst (N := 19) rfl ?_); refine Kd.R_lit (Kd.int .i64) _ 3 ?hg (N := 19) ?hd (xs := ([a1] : List Int)) (inner := [.int .i64 a1]) (ok := fun _ => True) (okp := fun _ => True) ?hr ?hp (fun _ hk => hk) trivial (Below.refl _ _) (Nat.le_refl _) (by simp) ?_; (case hd => rfl); (case hg => rfl); (case hr => first | (go_simp; done) | (go_simp; rfl)); (case hp => exact (Reps.one (show Kd.M (Kd.int .i64) _ _ _ a1 [.int .i64 a1] from rfl) (Reps.none _ _))); intro v111 w13 ho14 hb hg_ hnew_; clear hg_ hnew_; (first | rw [← Ny110.out] at ho14 | (simp only [Int.reduceToNat] at ho14; rw [← Ny110.out] at ho14)); have n0_ := Aside0.mk (Kd.R_elder' (by (with_reducible repeat (first | apply Kd.R_alloc | apply Kd.R_drewN | apply Kd.R_drew)); exact HO105.out) (Kd.R_base ho14) hb); have n1_ := Aside0.mk (Kd.R_elder' (by (with_reducible repeat (first | apply Kd.R_alloc | apply Kd.R_drewN | apply Kd.R_drew)); exact HO108.out) (Kd.R_base ho14) hb); have n2_ := Aside0.mk (Kd.R_lower (Kd.R_new' (Kd.R_new' ho14 (Kd.R_lt (by (with_reducible repeat (first | apply Kd.R_alloc | apply Kd.R_drewN | apply Kd.R_drew)); exact HO105.out))) (Kd.R_lt (by (with_reducible repeat (first | apply Kd.R_alloc | apply Kd.R_drewN | apply Kd.R_drew)); exact HO108.out))) (below_size (by repeat (first | (with_reducible first | exact HB.out | apply below_alloc | apply pw_below_drewN | apply below_drew1) | exact HB.out)))); have n3_ := Aside0.mk (below_step (by repeat (first | (with_reducible first | exact HB.out | apply below_alloc | apply pw_below_drewN | apply below_drew1) | exact HB.out)) hb); clear HO105; clear HO108; clear HB; have HO105 := n0_; have HO108 := n1_; have HO112 := n2_; have HB := n3_; clear n0_ n1_ n2_ n3_; clear hb ho14))
   go_loopg [6] k (fun kq v6 w' => ∃ (x5_1 : List Int) (x6_1 : List Int), Aside0 (flow_network_search.l0 kq l0 x5_1 x6_1 = some r) ∧ Aside0 (kq ≤ k) ∧ Aside0 (Kd.R (Kd.int .i64) 3 w' w.heap.size (fun k_ => some k_ ≠ (v6 : Value).ownBlock) (.slice (some ⟨go6, 0, none⟩) t106.length co6) x5_1) ∧ Aside0 (Kd.Q (Kd.int .i64) 3 w' w.heap.size (fun k_ => some k_ ≠ ((.slice (some ⟨go6, 0, none⟩) t106.length co6) : Value).ownBlock) v6 x6_1) ∧ Aside0 (Below w.heap.size w w'))
   case atStart => exact ⟨(y109), (y110), H', ⟨Nat.le_refl _⟩, ⟨by (with_reducible repeat (first | apply Kd.R_alloc | apply Kd.R_drewN | apply Kd.R_drew)); exact Kd.R_mono HO108.out (fun _ hk => hk.2)⟩, ⟨Kd.Q_of_R (by (with_reducible repeat (first | apply Kd.R_alloc | apply Kd.R_drewN | apply Kd.R_drew)); exact Kd.R_mono HO112.out (fun _ hk => hk.2))⟩, ⟨by repeat (first | (with_reducible first | exact HB.out | apply below_alloc | apply pw_below_drewN | apply below_drew1) | exact HB.out)⟩⟩
   case round =>
    clear H'
    try clear p2
    try clear c4
    try clear c4b0
    try clear c5
    try clear c5b0
    try clear p6
    try clear q6
    try clear hx6
    try clear hf6
    try clear c7
    try clear c8
    try clear hx6_0
    try clear p6
    try clear q6
    obtain ⟨x5_1, x6_1, HA, HK1, HO_5, HO_6, HB⟩ := hrel
    have hl5_1 := (Kd.R_reads' HO_5.out).1
    rw [hl5_1] at HO_5
    (try simp only [hl5_1])
    (try simp only [hl5_1] at HO_6)
    cases gk with
    | zero => exact absurd HA.out (by simp [flow_network_search.l0])
    | succ k1 =>
     have H := HA.out
     clear HA
     simp only [flow_network_search.l0] at H
     by_cases c15 : (x6_1.length : Int) > 0
     ·rw [if_pos c15] at H
      have c15b0 : decide (0 < (x6_1.length : Int)) = true := decide_eq_true c15
      have c15b1 : decide (0 < x6_1.length) = true := decide_eq_true (by omega)
      clear c15
      by_cases c16 : 0 < (x6_1.length : Int)
      ·rw [if_pos c16] at H
       have c16b0 : decide (0 < (x6_1.length : Int)) = true := decide_eq_true c16
       have c16b1 : decide (0 < x6_1.length) = true := decide_eq_true (by omega)
       clear c16
       by_cases c17 : 1 ≤ (x6_1.length : Int)
       ·rw [if_pos c17] at H
        have c17b0 := eq_true c17
        have c17b1 : decide (1 ≤ (x6_1.length : Int)) = true := decide_eq_true c17
        clear c17
        obtain ⟨y114, hy114⟩ : ∃ y_ : List Int, y_ = (x6_1.drop (1 : Int).toNat) := ⟨_, rfl⟩
        replace H : (if 0 ≤ (rd x6_1 0) then (if (rd x6_1 0) < (l0.length : Int) then (flow_network_search.l1 k1 l0 x5_1 y114 (rd x6_1 0) (rd_L4 l0 (rd x6_1 0)) ((rd_L4 l0 (rd x6_1 0)).length : Int) 0) else (none)) else (none)) = some r := by first | (rw [hy114]; with_reducible exact H) | (have H2_ := (Option.bind_some _ _).symm.trans H; rw [hy114]; with_reducible exact H2_) | (have H2_ := (Option.bind_some _ _).symm.trans H; with_reducible exact H2_) | with_reducible exact H | (rw [hy114]; exact H) | exact H
        have Ny114 := Aside0.mk hy114
        clear hy114
        by_cases c18 : 0 ≤ (rd x6_1 0)
        ·rw [if_pos c18] at H
         have c18b0 : decide (0 ≤ (rd x6_1 0)) = true := decide_eq_true c18
         clear c18
         by_cases c19 : (rd x6_1 0) < (l0.length : Int)
         ·rw [if_pos c19] at H
          have c19b0 : decide ((rd x6_1 0) < (l0.length : Int)) = true := decide_eq_true c19
          clear c19
          have H' := Aside0.mk H
          clear H
          obtain ⟨Ao20, co20, eo20, _⟩ := Kd.Q_slice HO_6.out
          subst eo20
          have p113 : 0 ≤ (0 : Int) := (by omega)
          have q113 : 0 < (x6_1.length : Int) := of_decide_eq_true (by first | (with_reducible assumption) | assumption)
          obtain ⟨ad113, e113, hx113_0⟩ := Kd.at_int (Kd.Q_reads' HO_6.out).2.2 0 p113 q113
          cases e113
          have qi113 : (0 < x6_1.length) = True := eq_true (by omega)
          (try rw [show ((0 : Int)).toNat = 0 from rfl] at hx113_0)
          (try rw [Addr.add_zero'] at hx113_0)
          replace p113 := eq_true p113
          replace q113 := eq_true q113
          have q21 : (1 : Int) ≤ ((x6_1.length : Int) : Int) := of_decide_eq_true (by first | (with_reducible assumption) | assumption)
          obtain ⟨i021, hi021, _, hsz21, _⟩ := info_parts info3
          have hcut21 := cut_from (P := Try.prog) 55 3 .i64 Try.underlying55 hi021 1 hsz21 (some ad113) x6_1.length co20 1 (by omega) q21
          have hr21 := Kd.Q_drop (k := (1 : Int).toNat) HO_6.out (by omega)
          obtain ⟨A21, hA21⟩ : ∃ A1, A1 = (if co20 = (1 : Int).toNat then (some ad113) else ((some ad113) : Option Addr).map (·.add ((1 : Int).toNat * 1))) := ⟨_, rfl⟩
          obtain ⟨c21, hc21⟩ : ∃ c1, c1 = co20 - (1 : Int).toNat := ⟨_, rfl⟩
          have hy21 : y114.length = x6_1.length - (1 : Int).toNat := (by rw [Ny114.out, List.length_drop])
          rw [← Ny114.out] at hr21
          rw [← hy21, ← hA21, ← hc21] at hcut21
          replace hr21 : Kd.Q (Kd.int .i64) 3 wr w.heap.size (fun k_ => some k_ ≠ (.slice (some ⟨go6, 0, none⟩) x5_1.length co6 : Value).ownBlock) (.slice A21 y114.length c21) y114 := (by rw [hA21, hc21, hy21]; exact hr21)
          have HE21 : Aside0 ((Value.slice A21 y114.length c21).ownBlock = (.slice (some ad113) x6_1.length co20 : Value).ownBlock) := ⟨by rw [hA21]; split <;> (cases ((some ad113) : Option Addr) <;> rfl)⟩
          clear hy21 hi021 hsz21 HO_6 hA21 hc21
          have HO116 := Aside0.mk hr21
          clear hr21
          replace q21 := eq_true q21
          have n_ := Aside0.mk (Kd.R_mono (ok' := fun k_ => some k_ ≠ (.slice A21 y114.length c21 : Value).ownBlock) HO_5.out (fun k_ hk => (by rw [HE21.out]; exact hk)))
          clear HO_5
          have HO_5 := n_
          clear n_
          have p117 : 0 ≤ ((rd x6_1 0) : Int) := of_decide_eq_true (by first | (with_reducible assumption) | assumption)
          have q117 : (rd x6_1 0) < (l0.length : Int) := of_decide_eq_true (by first | (with_reducible assumption) | assumption)
          obtain ⟨ad117, A117_0, c117_0, e117, hx117_0, hl117_0, hi117_0⟩ := at_L4 HR0.out (rd x6_1 0) p117 q117
          cases e117
          replace hx117_0 := (HB.out.cell (World.block_lt_of_cell? w _ hx117_0)).trans hx117_0
          have HR117_0 := Aside0.mk hi117_0
          have HC117_0 := Aside0.mk hl117_0
          clear hi117_0 hl117_0
          replace p117 := eq_true p117
          replace q117 := eq_true q117
          go_wp2
          go_loopg [6, 33] k1 (fun kq v6 v33 w' => ∃ (x5_2 : List Int) (x6_2 : List Int) (x33_2 : Int), v33 = .int .i64 x33_2 ∧ Aside0 (flow_network_search.l1 kq l0 x5_2 x6_2 (rd x6_1 0) (rd_L4 l0 (rd x6_1 0)) ((rd_L4 l0 (rd x6_1 0)).length : Int) x33_2 = some r) ∧ Aside0 (kq ≤ k1) ∧ Aside0 (Kd.R (Kd.int .i64) 3 w' w.heap.size (fun k_ => some k_ ≠ (v6 : Value).ownBlock) (.slice (some ⟨go6, 0, none⟩) x5_1.length co6) x5_2) ∧ Aside0 (Kd.Q (Kd.int .i64) 3 w' w.heap.size (fun k_ => some k_ ≠ ((.slice (some ⟨go6, 0, none⟩) x5_1.length co6) : Value).ownBlock) v6 x6_2) ∧ Aside0 (Below w.heap.size w w'))
          case atStart => exact ⟨(x5_1), (y114), (0), (by first | rfl | (simp; done) | (simp [*]; done)), H', ⟨Nat.le_refl _⟩, ⟨by (try simp only [hl5_1]); (with_reducible repeat (first | apply Kd.R_alloc | apply Kd.R_drewN | apply Kd.R_drew)); exact HO_5.out⟩, ⟨by (try simp only [hl5_1]); (with_reducible repeat (first | apply Kd.Q_alloc | apply Kd.Q_drewN | apply Kd.Q_drew)); exact HO116.out⟩, ⟨by repeat (first | (with_reducible first | exact HB.out | apply below_alloc | apply pw_below_drewN | apply below_drew1) | exact HB.out)⟩⟩
          case round =>
           clear H'
           try clear c1
           try clear p1
           try clear q1
           try clear hx1
           try clear qi1
           try clear c2
           try clear p2
           try clear q2
           try clear c4
           try clear c4b0
           try clear c5
           try clear c5b0
           try clear p6
           try clear q6
           try clear hx6
           try clear hf6
           try clear c7
           try clear c8
           try clear c11
           try clear p11
           try clear q11
           try clear hx11
           try clear qi11
           try clear c15
           try clear c15b0
           try clear c15b1
           try clear c16
           try clear c16b0
           try clear c16b1
           try clear c17
           try clear c17b0
           try clear c17b1
           try clear c18
           try clear c18b0
           try clear c19
           try clear c19b0
           try clear c21
           try clear q21
           try clear hx113_0
           try clear hx117_0
           try clear hx6_0
           try clear p113
           try clear p117
           try clear p2
           try clear p6
           try clear q113
           try clear q117
           try clear q21
           try clear q6
           obtain ⟨x5_2, x6_2, x33_2, rfl, HA, HK2, HO_5, HO_6, HB⟩ := hrel
           have hl5_2 := (Kd.R_reads' HO_5.out).1
           rw [hl5_2] at HO_5
           (try simp only [hl5_2])
           (try simp only [hl5_2] at HO_6)
           cases gk with
           | zero => exact absurd HA.out (by simp [flow_network_search.l1])
           | succ k2 =>
            have H := HA.out
            clear HA
            simp only [flow_network_search.l1] at H
            by_cases c22 : x33_2 < ((rd_L4 l0 (rd x6_1 0)).length : Int)
            ·rw [if_pos c22] at H
             have c22b0 : decide (x33_2 < ((rd_L4 l0 (rd x6_1 0)).length : Int)) = true := decide_eq_true c22
             clear c22
             by_cases c23 : 0 ≤ x33_2
             ·rw [if_pos c23] at H
              have c23b0 : decide (0 ≤ x33_2) = true := decide_eq_true c23
              clear c23
              by_cases c24 : x33_2 < ((rd_L4 l0 (rd x6_1 0)).length : Int)
              ·rw [if_pos c24] at H
               have c24b0 : decide (x33_2 < ((rd_L4 l0 (rd x6_1 0)).length : Int)) = true := decide_eq_true c24
               clear c24
               by_cases c25 : (rd (rd_L4 l0 (rd x6_1 0)) x33_2) > 0
               ·rw [if_pos c25] at H
                have c25b0 : decide (0 < (rd (rd_L4 l0 (rd x6_1 0)) x33_2)) = true := decide_eq_true c25
                clear c25
                by_cases c26 : x33_2 < (x5_2.length : Int)
                ·rw [if_pos c26] at H
                 have c26b0 : decide (x33_2 < (x5_2.length : Int)) = true := decide_eq_true c26
                 clear c26
                 by_cases c27 : (rd x5_2 x33_2) < 0
                 ·rw [if_pos c27] at H
                  have c27b0 : decide ((rd x5_2 x33_2) < 0) = true := decide_eq_true c27
                  clear c27
                  obtain ⟨y120, hy120⟩ : ∃ y_ : List Int, y_ = (x5_2.set (x33_2 : Int).toNat (rd x6_1 0)) := ⟨_, rfl⟩
                  replace H : (if x6_2.length < 17592186044416 then (flow_network_search.l1 k2 l0 y120 (x6_2 ++ [x33_2]) (rd x6_1 0) (rd_L4 l0 (rd x6_1 0)) ((rd_L4 l0 (rd x6_1 0)).length : Int) (wrap64 (x33_2 + 1))) else (none)) = some r := by first | (rw [hy120]; with_reducible exact H) | (have H2_ := (Option.bind_some _ _).symm.trans H; rw [hy120]; with_reducible exact H2_) | (have H2_ := (Option.bind_some _ _).symm.trans H; with_reducible exact H2_) | with_reducible exact H | (rw [hy120]; exact H) | exact H
                  have Ny120 := Aside0.mk hy120
                  clear hy120
                  by_cases c29 : x6_2.length < 17592186044416
                  ·rw [if_pos c29] at H
                   have LMc29 := Aside0.mk c29
                   clear c29
                   obtain ⟨y121, hy121⟩ : ∃ y_ : List Int, y_ = (x6_2 ++ [x33_2]) := ⟨_, rfl⟩
                   replace H : (flow_network_search.l1 k2 l0 y120 y121 (rd x6_1 0) (rd_L4 l0 (rd x6_1 0)) ((rd_L4 l0 (rd x6_1 0)).length : Int) (wrap64 (x33_2 + 1))) = some r := by first | (rw [hy121]; with_reducible exact H) | (have H2_ := (Option.bind_some _ _).symm.trans H; rw [hy121]; with_reducible exact H2_) | (have H2_ := (Option.bind_some _ _).symm.trans H; with_reducible exact H2_) | with_reducible exact H | (rw [hy121]; exact H) | exact H
                   have Ny121 := Aside0.mk hy121
                   clear hy121
                   have H' := Aside0.mk H
                   clear H
                   have p118 : 0 ≤ (x33_2 : Int) := of_decide_eq_true (by first | (with_reducible assumption) | assumption)
                   have q118 : x33_2 < ((rd_L4 l0 (rd x6_1 0)).length : Int) := of_decide_eq_true (by first | (with_reducible assumption) | assumption)
                   obtain ⟨ad118, e118, hx118_0⟩ := Kd.at_int HR117_0.out x33_2 p118 q118
                   cases e118
                   replace hx118_0 := (HB.out.cell (World.block_lt_of_cell? w _ hx118_0)).trans hx118_0
                   replace p118 := eq_true p118
                   replace q118 := eq_true q118
                   have p119 : 0 ≤ (x33_2 : Int) := of_decide_eq_true (by first | (with_reducible assumption) | assumption)
                   have q119 : x33_2 < (x5_2.length : Int) := of_decide_eq_true (by first | (with_reducible assumption) | assumption)
                   obtain ⟨ad119, e119, hx119_0⟩ := Kd.at_int (Kd.R_reads' HO_5.out).2.2 x33_2 p119 q119
                   obtain rfl : (⟨go6, 0, none⟩ : Addr) = ad119 := (by injection e119)
                   (first | simp only [add_plain] at hx119_0 | simp only [add_at] at hx119_0 | simp only [Addr.add, Nat.zero_add] at hx119_0 | skip)
                   replace p119 := eq_true p119
                   replace q119 := eq_true q119
                   have p28 : 0 ≤ (x33_2 : Int) := of_decide_eq_true (by first | (with_reducible assumption) | assumption)
                   have q28 : (x33_2 : Int) < ((x5_2.length : Int) : Int) := of_decide_eq_true (by first | (with_reducible assumption) | assumption)
                   obtain ⟨hx28_0, hf28_0⟩ := Kd.R_celln 0 HO_5.out (x33_2 : Int) p28 q28
                   replace p28 := eq_true p28
                   replace q28 := eq_true q28
                   have HP30 := Kd.R_putg HO_5.out (x33_2 : Int) (rd x6_1 0)
                   go_wp2_with (first | ((with_reducible refine gate_store (t := 3) (p := 50) rfl ?_); refine store_event (t := 3) (p := 50) (v := ?vo_w31) (w1 := (wr.setCell ⟨go6, (x33_2 : Int).toNat, none⟩ (.int .i64 (rd x6_1 0)))) ?hg ?ho ?hn ?hr ?_; (case ho => rfl); (case hg => rfl); (case hn => rfl); (case hr => first | (go_simp; done) | (go_simp; rfl)); intro w31 hw; have hg : wr.grownBy w31 (some go6) := (by rw [hw]; exact HP30.2); have hp_ : Kd.R (Kd.int .i64) 3 w31 w.heap.size (fun k_ => some k_ ≠ (u6 : Value).ownBlock) (.slice (some ⟨go6, 0, none⟩) x5_2.length co6) y120 := (by rw [hw, Ny120.out]; exact HP30.1); clear HP30; have n0_ := Aside0.mk (hp_); have n1_ := Aside0.mk (Kd.Q_after (v := (.slice (some ⟨go6, 0, none⟩) x5_2.length co6)) (v1 := (.slice (some ⟨go6, 0, none⟩) x5_2.length co6)) (ok := (fun _ => True)) (by (with_reducible repeat (first | apply Kd.Q_alloc | apply Kd.Q_drewN | apply Kd.Q_drew)); exact Kd.Q_mono HO_6.out (fun _ hk => ⟨trivial, hk⟩)) hg (.inl rfl)); have n2_ := Aside0.mk ((by rw [hw]; exact below_set (HB.out) GB6.out : Below w.heap.size w w31)); clear HO_5; clear HO_6; clear HB; have HO_5 := n0_; have HO_6 := n1_; have HB := n2_; clear n0_ n1_ n2_; clear hg hw hp_) | ((with_reducible refine gate_builtin (b := .append) (xs := #[.tmp 51, .tmp 53]) rfl ?_); at_builtin; refine Kd.Q_append (Kd.int .i64) (w0 := w) w.heap.size rfl (.tmp 51) (.tmp 53) 55 3 (.int .i64 0) 8 rfl Try.underlying55 info3 rfl (by decide) (by omega) u6 x6_2 x33_2 [.int .i64 x33_2] (fun k_ => some k_ ≠ (.slice (some ⟨go6, 0, none⟩) x5_2.length co6 : Value).ownBlock) (fun _ => False) rfl rfl ?aP (fun _ hk => hk.elim) ?aF ?aO ?aB ?aS ?aL ?_; (case aP => exact rfl); (case aB => exact (by repeat (first | (with_reducible first | exact HB.out | apply below_alloc | apply pw_below_drewN | apply below_drew1) | exact HB.out))); (case aF => exact (fun k_ hk => Kd.fresh' (Kd.R_lt (by (with_reducible repeat (first | apply Kd.R_alloc | apply Kd.R_drewN | apply Kd.R_drew)); exact HO_5.out)) k_ hk)); (case aO => exact (by (with_reducible repeat (first | apply Kd.Q_alloc | apply Kd.Q_drewN | apply Kd.Q_drew)); exact Kd.Q_mono HO_6.out (fun _ hk => hk.2))); (case aS => exact (below_size (by repeat (first | (with_reducible first | exact HB.out | apply below_alloc | apply pw_below_drewN | apply below_drew1) | exact HB.out)))); (case aL => have := LMc29.out; omega); intro v122 w32 ho hb hg hat; rw [← Ny121.out] at ho; have n0_ := Aside0.mk (Kd.R_after (ok := (fun _ => True)) (by (with_reducible repeat (first | apply Kd.R_alloc | apply Kd.R_drewN | apply Kd.R_drew)); exact Kd.R_mono HO_5.out (fun _ hk => ⟨trivial, hk⟩)) hg hat); have n1_ := Aside0.mk (hb); have n2_ := Aside0.mk (ho); clear HO_5; clear HB; clear HO_6; have HO_5 := n0_; have HB := n1_; have HO123 := n2_; clear n0_ n1_ n2_; clear ho hb hg hat))
                   (try simp only [← hl5_2])
                   go_roundg k2
                   case measure => have := HK1.out; have := HK2.out; omega
                   case rel => exact ⟨(y120), (y121), (wrap64 (x33_2 + 1)), (by first | rfl | (simp; done) | (simp [*]; done)), H', ⟨by have := HK1.out; have := HK2.out; omega⟩, ⟨by (try simp only [hl5_1]); (try simp only [hl5_2]); (with_reducible repeat (first | apply Kd.R_alloc | apply Kd.R_drewN | apply Kd.R_drew)); exact Kd.R_mono HO_5.out (fun _ hk => hk.2)⟩, ⟨by (try simp only [hl5_1]); (try simp only [hl5_2]); (with_reducible repeat (first | apply Kd.Q_alloc | apply Kd.Q_drewN | apply Kd.Q_drew)); exact HO123.out⟩, ⟨by repeat (first | (with_reducible first | exact HB.out | apply below_alloc | apply pw_below_drewN | apply below_drew1) | exact HB.out)⟩⟩
                  ·rw [if_neg c29] at H
                   exact absurd H (by simp)
                 ·rw [if_neg c27] at H
                  have c27b0 : decide ((rd x5_2 x33_2) < 0) = false := decide_eq_false c27
                  clear c27
                  have H' := Aside0.mk H
                  clear H
                  have p118 : 0 ≤ (x33_2 : Int) := of_decide_eq_true (by first | (with_reducible assumption) | assumption)
                  have q118 : x33_2 < ((rd_L4 l0 (rd x6_1 0)).length : Int) := of_decide_eq_true (by first | (with_reducible assumption) | assumption)
                  obtain ⟨ad118, e118, hx118_0⟩ := Kd.at_int HR117_0.out x33_2 p118 q118
                  cases e118
                  replace hx118_0 := (HB.out.cell (World.block_lt_of_cell? w _ hx118_0)).trans hx118_0
                  replace p118 := eq_true p118
                  replace q118 := eq_true q118
                  have p119 : 0 ≤ (x33_2 : Int) := of_decide_eq_true (by first | (with_reducible assumption) | assumption)
                  have q119 : x33_2 < (x5_2.length : Int) := of_decide_eq_true (by first | (with_reducible assumption) | assumption)
                  obtain ⟨ad119, e119, hx119_0⟩ := Kd.at_int (Kd.R_reads' HO_5.out).2.2 x33_2 p119 q119
                  obtain rfl : (⟨go6, 0, none⟩ : Addr) = ad119 := (by injection e119)
                  (first | simp only [add_plain] at hx119_0 | simp only [add_at] at hx119_0 | simp only [Addr.add, Nat.zero_add] at hx119_0 | skip)
                  replace p119 := eq_true p119
                  replace q119 := eq_true q119
                  go_wp2
                  (try simp only [← hl5_2])
                  go_roundg k2
                  case measure => have := HK1.out; have := HK2.out; omega
                  case rel => exact ⟨(x5_2), (x6_2), (wrap64 (x33_2 + 1)), (by first | rfl | (simp; done) | (simp [*]; done)), H', ⟨by have := HK1.out; have := HK2.out; omega⟩, ⟨by (try simp only [hl5_1]); (try simp only [hl5_2]); (with_reducible repeat (first | apply Kd.R_alloc | apply Kd.R_drewN | apply Kd.R_drew)); exact HO_5.out⟩, ⟨by (try simp only [hl5_1]); (try simp only [hl5_2]); (with_reducible repeat (first | apply Kd.Q_alloc | apply Kd.Q_drewN | apply Kd.Q_drew)); exact HO_6.out⟩, ⟨by repeat (first | (with_reducible first | exact HB.out | apply below_alloc | apply pw_below_drewN | apply below_drew1) | exact HB.out)⟩⟩
                ·rw [if_neg c26] at H
                 exact absurd H (by simp)
               ·rw [if_neg c25] at H
                have c25b0 : decide (0 < (rd (rd_L4 l0 (rd x6_1 0)) x33_2)) = false := decide_eq_false c25
                clear c25
                have H' := Aside0.mk H
                clear H
                have p118 : 0 ≤ (x33_2 : Int) := of_decide_eq_true (by first | (with_reducible assumption) | assumption)
                have q118 : x33_2 < ((rd_L4 l0 (rd x6_1 0)).length : Int) := of_decide_eq_true (by first | (with_reducible assumption) | assumption)
                obtain ⟨ad118, e118, hx118_0⟩ := Kd.at_int HR117_0.out x33_2 p118 q118
                cases e118
                replace hx118_0 := (HB.out.cell (World.block_lt_of_cell? w _ hx118_0)).trans hx118_0
                replace p118 := eq_true p118
                replace q118 := eq_true q118
                go_wp2
                (try simp only [← hl5_2])
                go_roundg k2
                case measure => have := HK1.out; have := HK2.out; omega
                case rel => exact ⟨(x5_2), (x6_2), (wrap64 (x33_2 + 1)), (by first | rfl | (simp; done) | (simp [*]; done)), H', ⟨by have := HK1.out; have := HK2.out; omega⟩, ⟨by (try simp only [hl5_1]); (try simp only [hl5_2]); (with_reducible repeat (first | apply Kd.R_alloc | apply Kd.R_drewN | apply Kd.R_drew)); exact HO_5.out⟩, ⟨by (try simp only [hl5_1]); (try simp only [hl5_2]); (with_reducible repeat (first | apply Kd.Q_alloc | apply Kd.Q_drewN | apply Kd.Q_drew)); exact HO_6.out⟩, ⟨by repeat (first | (with_reducible first | exact HB.out | apply below_alloc | apply pw_below_drewN | apply below_drew1) | exact HB.out)⟩⟩
              ·rw [if_neg c24] at H
               exact absurd H (by simp)
             ·rw [if_neg c23] at H
              exact absurd H (by simp)
            ·rw [if_neg c22] at H
             have c22b0 : decide (x33_2 < ((rd_L4 l0 (rd x6_1 0)).length : Int)) = false := decide_eq_false c22
             clear c22
             have H' := Aside0.mk H
             clear H
             go_wp2
             (try simp only [← hl5_1, ← hl5_2])
             go_roundg k2
             case measure => have := HK1.out; have := HK2.out; omega
             case rel => exact ⟨(x5_2), (x6_2), H', ⟨by have := HK1.out; have := HK2.out; omega⟩, ⟨by (try simp only [hl5_1]); (try simp only [hl5_2]); (with_reducible repeat (first | apply Kd.R_alloc | apply Kd.R_drewN | apply Kd.R_drew)); exact HO_5.out⟩, ⟨by (try simp only [hl5_1]); (try simp only [hl5_2]); (with_reducible repeat (first | apply Kd.Q_alloc | apply Kd.Q_drewN | apply Kd.Q_drew)); exact HO_6.out⟩, ⟨by repeat (first | (with_reducible first | exact HB.out | apply below_alloc | apply pw_below_drewN | apply below_drew1) | exact HB.out)⟩⟩
         ·rw [if_neg c19] at H
          exact absurd H (by simp)
        ·rw [if_neg c18] at H
         exact absurd H (by simp)
       ·rw [if_neg c17] at H
        exact absurd H (by simp)
      ·rw [if_neg c16] at H
       exact absurd H (by simp)
     ·rw [if_neg c15] at H
      have c15b0 : decide (0 < (x6_1.length : Int)) = false := decide_eq_false c15
      have c15b1 : decide (0 < x6_1.length) = false := decide_eq_false (by omega)
      clear c15
      obtain rfl := Option.some.inj H
      obtain ⟨Ao33, co33, eo33, _⟩ := Kd.Q_slice HO_6.out
      subst eo33
      go_wp2
      go_ret
      exact ⟨_, by first | rfl | (simp [errW_none, errW_some] <;> rfl) | (simp [*, errW_none, errW_some] <;> rfl), by (with_reducible repeat (first | apply Kd.R_alloc | apply Kd.R_drewN | apply Kd.R_drew)); exact Kd.R_mono HO_5.out (fun _ hk => trivial), by repeat (first | (with_reducible first | exact HB.out | apply below_alloc | apply pw_below_drewN | apply below_drew1) | exact HB.out)⟩
  ·rw [if_neg c5] at H
   exact absurd H (by simp)
 ·rw [if_neg c4] at H
  exact absurd H (by simp)

-- NOT PRINTED: function 88 (flow_network_augment)

end Go.Proofs.Ythdjhgidccmlfaa.P
