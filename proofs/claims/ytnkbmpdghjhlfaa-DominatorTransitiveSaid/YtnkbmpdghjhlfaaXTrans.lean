/- The walk of ontimelaw25.DominatorTransitive, over the contracts of what it calls. -/
import Derived.Test.YtnkbmpdghjhlfaaPx2
import Derived.Test.YtnkbmpdghjhlfaaPx3
import Derived.Test.YtnkbmpdghjhlfaaXTree
import Derived.Test.YtnkbmpdghjhlfaaXDom
import Derived.Test.YtnkbmpdghjhlfaaXAwake
namespace Go.Proofs.Ytnkbmpdghjhlfaa.P
open Go.RowKit Go.Proofs.YtnkbmpdghjhlfaaW.PrintWords Go.Proofs.YtnkbmpdghjhlfaaW.PrintLast Go.Proofs.YtnkbmpdghjhlfaaW.PrintMore
attribute [local go_sem] max2_int min2_int max_two min_two max_three min_three max_four min_four
set_option linter.unusedVariables false
set_option linter.unusedSimpArgs false

/-- The function literal: what Dominates answers for the list that lies in the variable it captured. -/
theorem clo_calls (idom : List Int) (A : Option Addr) (c g : Nat) (w : World) (hb : w.heap[g]? = some (.cells #[.slice A idom.length c] 29 (0, 0))) (hC : Kd.C (Kd.int .i64) w A idom.length idom) (hc : idom.length ≤ c) (a b : Int) :
    Calls Try.prog 26 #[.int .i64 a, .int .i64 b, .pointer (some ⟨g, 0, none⟩)] w fun e w' => e = .returned (.bool (domB idom a b)) ∧ Below w.heap.size w w' := by
  have hx : w.cell? ⟨g, 0, none⟩ = some (.slice A idom.length c) := (blk_cell hb 0).trans rfl
  have HC := Aside0.mk hC
  have Hc := Aside0.mk hc
  clear hC hc hb
  go_enter Try.func26, Try.ntmps26
  go_wp2_with fail
  refine (dominator_Dominates.calls A c idom a b (domB idom a b) _ HC.out Hc.out rfl).mono ?_
  rintro e w1 ⟨rfl, hB⟩
  have HB := Aside0.mk hB
  clear hB
  dsimp only
  go_wp2_with fail
  go_ret
  exact ⟨rfl, HB.out⟩

/-- What lies still: nothing below the start is written, and the graph's variable. -/
def TI (w : World) (gb : Nat) (v0 v1 : Value) (W : World) : Prop := Below w.heap.size w W ∧ W.heap[gb]? = some (.cells #[v0, v1] 25 (0, 0))
theorem TI.step {w W W' : World} {gb : Nat} {v0 v1 : Value} (h : TI w gb v0 v1 W) (hb : Below W.heap.size W W') : TI w gb v0 v1 W' := ⟨below_step h.1 hb, blk_below h.2 hb⟩
theorem TI.bel {w W : World} {gb : Nat} {v0 v1 : Value} (h : TI w gb v0 v1 W) : Below w.heap.size w W := h.1
theorem TI.box {w W : World} {gb : Nat} {v0 v1 : Value} (h : TI w gb v0 v1 W) : W.heap[gb]? = some (.cells #[v0, v1] 25 (0, 0)) := h.2
/-- A new variable, whatever its place. -/
theorem box_any {W : World} {o : Obj} {K : Act → World → Prop} (f : Value → Act) (h : ∀ g W', (W'.heap[g]? = some o ∧ W.heap.size ≤ g) → Below W.heap.size W W' → K (f (.pointer (some ⟨g, 0, none⟩))) W') : K (f (.pointer (some ⟨W.heap.size, 0, none⟩))) (W.alloc o) :=
  h W.heap.size _ ⟨blk_new W o, Nat.le_refl _⟩ (below_alloc (Below.refl _ _) o)
/-- Behind the store: the list lies in the captured variable. -/
def TZ (w : World) (gi : Nat) (At : Option Addr) (ct : Nat) (idom : List Int) (As : Option Addr) (cs : Nat) (s : List Bool) (W : World) : Prop :=
  Below w.heap.size w W ∧ W.heap[gi]? = some (.cells #[.slice At idom.length ct] 29 (0, 0)) ∧ (Kd.C (Kd.int .i64) W At idom.length idom ∧ idom.length ≤ ct) ∧ Kd.C Kd.bool W As s.length s ∧ s.length ≤ cs
theorem TZ.step {w W W' : World} {gi : Nat} {At : Option Addr} {ct : Nat} {idom : List Int} {As : Option Addr} {cs : Nat} {s : List Bool} (h : TZ w gi At ct idom As cs s W) (hb : Below W.heap.size W W') : TZ w gi At ct idom As cs s W' :=
  ⟨below_step h.1 hb, blk_below h.2.1 hb, ⟨Kd.C_below h.2.2.1.1 hb, h.2.2.1.2⟩, Kd.C_below h.2.2.2.1 hb, h.2.2.2.2⟩
theorem TZ.cell {w W : World} {gi : Nat} {At : Option Addr} {ct : Nat} {idom : List Int} {ads : Addr} {cs : Nat} {s : List Bool} (h : TZ w gi At ct idom (some ads) cs s W) {z : Int} (h0 : 0 ≤ z) (h1 : z < s.length) : W.cell? (ads.add z.toNat) = some (.bool (rdOf false s z)) := by
  obtain ⟨ad, e, hc⟩ := Kd.at_bool h.2.2.2.1 z h0 h1
  injection e with e
  subst e
  exact hc
theorem TZ.mk {w W : World} {gi gb : Nat} {v0 v1 : Value} {At : Option Addr} {ct : Nat} {idom : List Int} {As : Option Addr} {cs : Nat} {s : List Bool} (hi : TI w gb v0 v1 W) (hg : W.heap[gi]? = some (.cells #[.slice none 0 0] 29 (0, 0)) ∧ w.heap.size ≤ gi)
    (hs : Kd.R Kd.bool 4 W w.heap.size (fun _ => True) (.slice As s.length cs) s) (ht : Kd.R (Kd.int .i64) 3 W w.heap.size (fun _ => True) (.slice At idom.length ct) idom) : TZ w gi At ct idom As cs s (W.setCell ⟨gi, 0, none⟩ (.slice At idom.length ct)) := by
  have hty : ∀ k, (Value.slice (some ⟨gi, 0, none⟩) 1 1).ownBlock = some k → ∃ cells, W.heap[k]? = some (.cells cells 29 (0, 0)) := by
    intro k hk
    obtain rfl : gi = k := by simpa [Value.ownBlock] using hk
    exact ⟨_, hg.1⟩
  have hgr : W.grownBy (W.setCell ⟨gi, 0, none⟩ (.slice At idom.length ct)) (Value.slice (some ⟨gi, 0, none⟩) 1 1).ownBlock := 
    ⟨rfl, rfl, rfl, by simp [World.setCell], fun k _ hk => Below.heap_setCell _ _ _ k (fun e => hk (by rw [e]; rfl))⟩
  have r1 := Kd.R_reads' (Kd.R_over' hs hty (by decide) hgr)
  have r2 := Kd.R_reads' (Kd.R_over' ht hty (by decide) hgr)
  exact ⟨below_set hi.1 hg.2, blk_put hg.1 0 _ rfl, ⟨r2.2.2, r2.2.1⟩, r1.2.2, r1.2.1⟩
/-- What the law asks of the list and of the reached blocks. -/
structure TrOk (l : List (List Int)) (s : List Bool) (idom : List Int) (x y z : Int) : Prop where
  n0 : 0 < l.length
  n14 : l.length ≤ 14
  hs : s.length = l.length
  refl : domB idom x x = true
  trans : domB idom x y = true → domB idom y z = true → domB idom x z = true
  anti : domB idom x y = true → domB idom y x = true → x = y
  root : rdOf false s z = true → domB idom 0 z = true
  chain : domB idom x z = true → domB idom y z = true → domB idom x y = false → domB idom y x = true

set_option maxHeartbeats 8000000 in
set_option maxRecDepth 100000 in
theorem trans_good (k : Nat) (A0_0 : Option Addr) (c0_0 : Nat) (l0_0 : List S46) (A0_1 : Option Addr) (c0_1 : Nat) (l0_1 : List (List Int)) (a1 a2 a3 : Int) (w : World)
    (hr0_0 : Kd.C k46 w A0_0 l0_0.length l0_0) (hc0_0 : l0_0.length ≤ c0_0) (hr0_1 : Kd.C (Kd.slice 3 (Kd.int .i64)) w A0_1 l0_1.length l0_1) (hc0_1 : l0_1.length ≤ c0_1)
    (h1 : 0 ≤ a1 ∧ a1 < 256) (h2 : 0 ≤ a2 ∧ a2 < 256) (h3 : 0 ≤ a3 ∧ a3 < 256) (l : List (List Int)) (s : List Bool) (idom : List Int)
    (hn : ontimelaw25_next.f k l0_0 l0_1 = some (l, true)) (hs : ontimeref25_Reach.f k l (-1) = some s) (ht : dominator_Tree.f k l0_0 l0_1 = some idom) (ok : TrOk l s idom (a1.tmod l.length) (a2.tmod l.length) (a3.tmod l.length)) :
    Calls Try.prog 10 #[.agg #[.slice A0_0 l0_0.length c0_0, .slice A0_1 l0_1.length c0_1], .int .u8 a1, .int .u8 a2, .int .u8 a3] w fun e w' => e = .returned (.bool true) ∧ Below w.heap.size w w' := by
  have hu25 := Try.underlying25
  have HR0_0 := Aside0.mk hr0_0
  have HC0_0 := Aside0.mk hc0_0
  have HR0_1 := Aside0.mk hr0_1
  have HC0_1 := Aside0.mk hc0_1
  have OK := Aside0.mk ok
  have HN := Aside0.mk hn
  have HS := Aside0.mk hs
  have HT := Aside0.mk ht
  have H123 := Aside0.mk (And.intro h1 (And.intro h2 h3))
  clear hr0_0 hc0_0 hr0_1 hc0_1 ok hn hs ht h1 h2 h3
  have HB := Aside0.mk (Below.refl w.heap.size w)
  go_enter Try.func10, Try.ntmps10
  go_upto_region 6 with (first | ((with_reducible refine gate_dst (N := 4) rfl ?_); (try (refine gate_guard (by rfl) ?_; dsimp only)); refine box_event ?hg (N := 4) ?hd (cs := #[.slice A0_0 l0_0.length c0_0, .slice A0_1 l0_1.length c0_1]) (t := 25) ?hr ?_; (case hd => rfl); (case hg => rfl); (case hr => first | (go_simp; done) | (go_simp; rfl)); intro gb hg w10 hbox hb; have n0_ := Aside0.mk (below_step (by repeat (first | (with_reducible first | exact HB.out | apply below_alloc | apply pw_below_drewN | apply below_drew1) | exact HB.out)) hb); have n1_ := Aside0.mk (hbox); have n2_ := Aside0.mk ((by rw [hg]; exact (below_size (by repeat (first | (with_reducible first | exact HB.out | apply below_alloc | apply pw_below_drewN | apply below_drew1) | exact HB.out))) : w.heap.size ≤ gb)); have n3_ := Aside0.mk ((by rw [hg]; exact (below_size (by repeat (first | (with_reducible first | exact HB.out | apply below_alloc | apply pw_below_drewN | apply below_drew1) | exact HB.out))) : w.heap.size ≤ gb)); clear HB; have HB := n0_; have BK := n1_; have GW := n2_; have GE := n3_; clear n0_ n1_ n2_ n3_; clear hb hbox hg) | ((with_reducible refine gate_callee (f := 12) rfl ?_); refine goesL_ (some 18) rfl rfl Try.func12 (by kernel_rfl) rfl #[] rfl (by (try simp only [List.map_toArray, List.map_cons, List.map_nil]); first | done | rfl | (simp only [List.length_drop, List.length_take]; rfl)) ?_; (with_reducible refine (ontimelaw25_awake.calls true _ rfl).mono ?_); rintro e w11 ⟨rfl, hb⟩; refine ⟨_, rfl, ?_⟩; have n0_ := Aside0.mk (blk_below (g := gb) (o := .cells #[.slice A0_0 l0_0.length c0_0, .slice A0_1 l0_1.length c0_1] 25 (0, 0)) (by (with_reducible repeat (first | refine blk_drewN ?_ _ | refine blk_drew ?_ | refine blk_alloc ?_ _)); exact BK.out) hb); have n1_ := Aside0.mk (below_step (by repeat (first | (with_reducible first | exact HB.out | apply below_alloc | apply pw_below_drewN | apply below_drew1 | refine below_set ?_ GE.out) | exact HB.out)) hb); clear BK; clear HB; have BK := n0_; have HB := n1_; clear n0_ n1_; (try clear hb); (try clear hb2); (try clear hk); (try clear hi); have hcz12_0 : w11.cell? ⟨gb, 0, none⟩ = some (.slice A0_0 l0_0.length c0_0) := (blk_cell BK.out 0).trans rfl; have hcz12_1 : w11.cell? ⟨gb, 1, none⟩ = some (.slice A0_1 l0_1.length c0_1) := (blk_cell BK.out 1).trans rfl; have hfz12_0 := blk_frozen BK.out 0; have hfz12_1 := blk_frozen BK.out 1) | ((with_reducible refine gate_callee (f := 13) rfl ?_); refine goesL_ (some 22) rfl rfl Try.func13 (by kernel_rfl) rfl #[.agg #[.slice A0_0 l0_0.length c0_0, .slice A0_1 l0_1.length c0_1]] rfl (by (try simp only [List.map_toArray, List.map_cons, List.map_nil]); first | done | rfl | (simp only [List.length_drop, List.length_take]; rfl)) ?_; (with_reducible refine (ontimelaw25_next.calls k (fun k_ => k_ < w.heap.size) _ _ l0_0 _ _ l0_1 l true _ ?side1 ?side2 ?side3 HN.out).mono ?_); (case side1 => exact Kd.V_mk HC0_0.out (Kd.F_below (Kd.C_F k46_heap HR0_0.out) (by repeat (first | (with_reducible first | exact HB.out | apply below_alloc | apply pw_below_drewN | apply below_drew1 | refine below_set ?_ GE.out) | exact HB.out)))); (case side2 => repeat (first | exact (Kd.C_below HR0_1.out HB.out) | (with_reducible refine Kd.C_alloc ?_ _) | (with_reducible refine Kd.C_drewN ?_ _) | (with_reducible refine Kd.C_drew ?_))); (case side3 => exact HC0_1.out); rintro e w13 ⟨vl, rfl, ho0, hb⟩; refine ⟨_, rfl, ?_⟩; have n0_ := Aside0.mk (Kd.N_lower (Kd.N_mono (ok' := fun k_ => k_ ≠ gb) ho0 (fun k_ hk_ => Or.elim hk_ (fun hs_ => fun e_ => Nat.not_le.2 hs_ (by rw [e_]; exact GW.out)) (fun hn_ => (Kd.freshB (g := gb) (o := .cells #[.slice A0_0 l0_0.length c0_0, .slice A0_1 l0_1.length c0_1] 25 (0, 0)) (by (with_reducible repeat (first | refine blk_drewN ?_ _ | refine blk_drew ?_ | refine blk_alloc ?_ _)); exact BK.out) k_ hn_)))) (below_size (by repeat (first | (with_reducible first | exact HB.out | apply below_alloc | apply pw_below_drewN | apply below_drew1 | refine below_set ?_ GE.out) | exact HB.out)))); have n1_ := Aside0.mk (blk_below (g := gb) (o := .cells #[.slice A0_0 l0_0.length c0_0, .slice A0_1 l0_1.length c0_1] 25 (0, 0)) (by (with_reducible repeat (first | refine blk_drewN ?_ _ | refine blk_drew ?_ | refine blk_alloc ?_ _)); exact BK.out) hb); have n2_ := Aside0.mk (below_step (by repeat (first | (with_reducible first | exact HB.out | apply below_alloc | apply pw_below_drewN | apply below_drew1 | refine below_set ?_ GE.out) | exact HB.out)) hb); clear BK; clear HB; have HO := n0_; have BK := n1_; have HB := n2_; clear n0_ n1_ n2_; (try clear hb); (try clear hb2); (try clear hk); (try clear hi); (try clear ho0)))
  obtain ⟨Al, cl, rfl⟩ := Kd.N_slice HO.out
  have HI := Aside0.mk (show TI w gb (.slice A0_0 l0_0.length c0_0) (.slice A0_1 l0_1.length c0_1) w13 from ⟨HB.out, BK.out⟩)
  have HL := Aside0.mk (show Kd.C (Kd.slice 3 (Kd.int .i64)) w13 Al l.length l ∧ l.length ≤ cl from ⟨(Kd.N_reads' HO.out).2.2, (Kd.N_reads' HO.out).2.1⟩)
  clear HO BK HB hcz12_0 hcz12_1 hfz12_0 hfz12_1
  have hl0 := OK.out.n0
  have hl1 := OK.out.n14
  have hlz : ((l.length : Int) == 0) = false := by rw [beq_eq_false_iff_ne]; omega
  go_upto_region 7 with fail
  go_region
  have e1 : wrap64 a1 = a1 := by have := H123.out; unfold wrap64; omega
  have e2 : wrap64 a2 = a2 := by have := H123.out; unfold wrap64; omega
  have e3 : wrap64 a3 = a3 := by have := H123.out; unfold wrap64; omega
  rw [e1, e2, e3]
  clear e1 e2 e3 hl0 hl1 hlz
  go_wp2_with fail
  have m0 := Aside0.mk (show TI w gb (.slice A0_0 l0_0.length c0_0) (.slice A0_1 l0_1.length c0_1) w13.drew.drew from ⟨below_drew1 (below_drew1 HI.out.bel), blk_drew (blk_drew HI.out.box)⟩)
  have m1 := Aside0.mk (And.intro (Kd.C_drew (Kd.C_drew HL.out.1)) HL.out.2)
  clear HI HL
  have HI := m0
  have HL := m1
  clear m0 m1
  generalize w13.drew = wn at HI HL ⊢
  refine start_ (n := 7) (S := fun w' => w'.cell? ⟨gb, 0, none⟩ = some (.slice A0_0 l0_0.length c0_0) ∧ w'.cell? ⟨gb, 1, none⟩ = some (.slice A0_1 l0_1.length c0_1)) (ds := [6]) #[false, false, false, false, false, false, false] (by kernel_rfl) rfl rfl ⟨(blk_cell HI.out.box 0).trans rfl, (blk_cell HI.out.box 1).trans rfl⟩ (fun hHeld => ?_)
  generalize wn.drew = wd at HI HL hHeld ⊢
  refine pure_ (i := 0) (N := some 41) (v := ?_) (a' := ?_) #[true, false, false, false, false, false, false] rfl rfl (by kernel_rfl) (fun _ _ _ h => h) (Or.inl ⟨by rfl, ?_⟩) ?_ ?_
  rotate_left
  · intro w'
    go_simp
    with_reducible rfl
  rotate_left
  · simp only [Act.put, List.setIfInBounds_toArray, List.set_cons_zero, List.set_cons_succ, i64_w, i32_w]
    rfl
  refine take_ (i := 2) (N := some 43) (v := ?_) (a' := ?_) #[true, false, true, false, false, false, false] rfl rfl (by kernel_rfl) (fun _ _ _ h => h) (Or.inl ⟨by rfl, ?_⟩) hHeld ?_ ?_
  rotate_left
  · rintro w' ⟨s0, s1⟩
    go_simp
    with_reducible rfl
  rotate_left
  · simp only [Act.put, List.setIfInBounds_toArray, List.set_cons_zero, List.set_cons_succ, i64_w, i32_w]
    rfl
  refine join_ (σ := Nat × Value × Value) 2 #[true, true, true, true, true, false, false] (fun q => [(42, q.2.1), (44, q.2.2), (16, .pointer (some ⟨q.1, 0, none⟩))]) (fun q w' => TI w gb (.slice A0_0 l0_0.length c0_0) (.slice A0_1 l0_1.length c0_1) w' ∧ (w'.heap[q.1]? = some (.cells #[.slice none 0 0] 29 (0, 0)) ∧ w.heap.size ≤ q.1) ∧ Kd.R Kd.bool 4 w' w.heap.size (fun _ => True) q.2.1 s ∧ Kd.R (Kd.int .i64) 3 w' w.heap.size (fun _ => True) q.2.2 idom) ?_ ?_
  rotate_left
  · intro hCont
    refine two_ (i := 1) (j := 4) (Ni := some 42) (Nj := some 16) #[true, true, true, false, false, false, false] #[true, false, true, false, true, false, false] rfl rfl rfl rfl (by kernel_rfl) (by decide) (by decide) (fun K hK => ?_) (fun K hK => ?_)
    · skip
      refine goes_ Try.func20 (by kernel_rfl) rfl #[.slice Al l.length cl, .int .i64 (-1)] (by rfl) rfl rfl (by simp only [List.map_toArray, List.map_cons, List.map_nil]; rfl) ?_
      with_reducible refine (ontimeref25_Reach.calls k _ _ l (-1) s _ HL.out.1 HL.out.2 HS.out).mono ?_
      rintro e w3 ⟨vs, rfl, hv, hb⟩
      refine ⟨_, rfl, ?_⟩
      have m0 := Aside0.mk (TI.step HI.out hb)
      have m1 := Aside0.mk (And.intro (Kd.C_below HL.out.1 hb) HL.out.2)
      have m2 := Aside0.mk (Kd.R_lower hv HI.out.bel.size)
      clear hb hv HI HL
      have HI := m0
      have HL := m1
      have HSV := m2
      clear m0 m1 m2
      refine hK.out _ _ ⟨(blk_cell HI.out.box 0).trans rfl, (blk_cell HI.out.box 1).trans rfl⟩ (fun hHeld => ?_)
      clear hK K
      refine norm_ (a' := ?_) ?_ ?_
      rotate_left
      · show Act.put _ (some 42) _ = _
        simp only [Act.put, List.setIfInBounds_toArray, List.set_cons_zero, List.set_cons_succ, i64_w, i32_w]
        rfl
      refine two_ (i := 3) (j := 4) (Ni := some 44) (Nj := some 16) #[true, true, true, true, false, false, false] #[true, true, true, false, true, false, false] rfl rfl rfl rfl (by kernel_rfl) (by decide) (by decide) (fun K hK => ?_) (fun K hK => ?_)
      · skip
        refine goes_ Try.func14 (by kernel_rfl) rfl #[.agg #[.slice A0_0 l0_0.length c0_0, .slice A0_1 l0_1.length c0_1]] (by rfl) rfl rfl (by simp only [List.map_toArray, List.map_cons, List.map_nil]; rfl) ?_
        with_reducible refine (dominator_Tree.calls k _ _ l0_0 _ _ l0_1 idom _ (Kd.C_below HR0_0.out HI.out.bel) HC0_0.out (Kd.C_below HR0_1.out HI.out.bel) HC0_1.out HT.out).mono ?_
        rintro e w3 ⟨vt, rfl, hv, hb⟩
        refine ⟨_, rfl, ?_⟩
        have m0 := Aside0.mk (TI.step HI.out hb)
        have m1 := Aside0.mk (And.intro (Kd.C_below HL.out.1 hb) HL.out.2)
        have m2 := Aside0.mk (Kd.R_below HSV.out hb)
        have m3 := Aside0.mk (Kd.R_lower hv HI.out.bel.size)
        clear hb hv HI HL HSV
        have HI := m0
        have HL := m1
        have HSV := m2
        have HTV := m3
        clear m0 m1 m2 m3
        refine hK.out _ _ ⟨(blk_cell HI.out.box 0).trans rfl, (blk_cell HI.out.box 1).trans rfl⟩ (fun hHeld => ?_)
        clear hK K
        refine norm_ (a' := ?_) ?_ ?_
        rotate_left
        · show Act.put _ (some 44) _ = _
          simp only [Act.put, List.setIfInBounds_toArray, List.set_cons_zero, List.set_cons_succ, i64_w, i32_w]
          rfl
        refine one_ (i := 4) (N := some 16) #[true, true, true, true, true, false, false] rfl rfl (by kernel_rfl) (by decide) (fun K hK => ?_)
        refine value_ (w1 := ?_) (v := ?_) (by rfl) rfl ?_ ?_
        rotate_left 2
        · go_simp
          constructor
          · rfl
          · rfl
        refine box_any (fun v => Act.put _ _ v) (fun gi w3 hv hb => ?_)
        show K (Act.put _ _ _) _
        have m0 := Aside0.mk (TI.step HI.out hb)
        have m1 := Aside0.mk (And.intro (Kd.C_below HL.out.1 hb) HL.out.2)
        have m2 := Aside0.mk (Kd.R_below HSV.out hb)
        have m3 := Aside0.mk (Kd.R_below HTV.out hb)
        have m4 := Aside0.mk (And.intro hv.1 (Nat.le_trans HI.out.bel.size hv.2))
        clear hb hv HI HL HSV HTV
        have HI := m0
        have HL := m1
        have HSV := m2
        have HTV := m3
        have HG := m4
        clear m0 m1 m2 m3 m4
        refine hK.out _ _ ⟨(blk_cell HI.out.box 0).trans rfl, (blk_cell HI.out.box 1).trans rfl⟩ (fun hHeld => ?_)
        clear hK K
        refine norm_ (a' := ?_) ?_ ?_
        rotate_left
        · show Act.put _ (some 16) _ = _
          simp only [Act.put, List.setIfInBounds_toArray, List.set_cons_zero, List.set_cons_succ, i64_w, i32_w]
          rfl
        exact norm_ (by simp only [putAll, Act.put, List.setIfInBounds_toArray, List.set_cons_zero, List.set_cons_succ]) (hCont (gi, vs, vt) _ ⟨HI.out, HG.out, HSV.out, HTV.out⟩)
      · skip
        refine value_ (w1 := ?_) (v := ?_) (by rfl) rfl ?_ ?_
        rotate_left 2
        · go_simp
          constructor
          · rfl
          · rfl
        refine box_any (fun v => Act.put _ _ v) (fun gi w3 hv hb => ?_)
        show K (Act.put _ _ _) _
        have m0 := Aside0.mk (TI.step HI.out hb)
        have m1 := Aside0.mk (And.intro (Kd.C_below HL.out.1 hb) HL.out.2)
        have m2 := Aside0.mk (Kd.R_below HSV.out hb)
        have m3 := Aside0.mk (And.intro hv.1 (Nat.le_trans HI.out.bel.size hv.2))
        clear hb hv HI HL HSV
        have HI := m0
        have HL := m1
        have HSV := m2
        have HG := m3
        clear m0 m1 m2 m3
        refine hK.out _ _ ⟨(blk_cell HI.out.box 0).trans rfl, (blk_cell HI.out.box 1).trans rfl⟩ (fun hHeld => ?_)
        clear hK K
        refine norm_ (a' := ?_) ?_ ?_
        rotate_left
        · show Act.put _ (some 16) _ = _
          simp only [Act.put, List.setIfInBounds_toArray, List.set_cons_zero, List.set_cons_succ, i64_w, i32_w]
          rfl
        refine one_ (i := 3) (N := some 44) #[true, true, true, true, true, false, false] rfl rfl (by kernel_rfl) (by decide) (fun K hK => ?_)
        refine goes_ Try.func14 (by kernel_rfl) rfl #[.agg #[.slice A0_0 l0_0.length c0_0, .slice A0_1 l0_1.length c0_1]] (by rfl) rfl rfl (by simp only [List.map_toArray, List.map_cons, List.map_nil]; rfl) ?_
        with_reducible refine (dominator_Tree.calls k _ _ l0_0 _ _ l0_1 idom _ (Kd.C_below HR0_0.out HI.out.bel) HC0_0.out (Kd.C_below HR0_1.out HI.out.bel) HC0_1.out HT.out).mono ?_
        rintro e w3 ⟨vt, rfl, hv, hb⟩
        refine ⟨_, rfl, ?_⟩
        have m0 := Aside0.mk (TI.step HI.out hb)
        have m1 := Aside0.mk (And.intro (Kd.C_below HL.out.1 hb) HL.out.2)
        have m2 := Aside0.mk (Kd.R_below HSV.out hb)
        have m3 := Aside0.mk (And.intro (blk_below HG.out.1 hb) HG.out.2)
        have m4 := Aside0.mk (Kd.R_lower hv HI.out.bel.size)
        clear hb hv HI HL HSV HG
        have HI := m0
        have HL := m1
        have HSV := m2
        have HG := m3
        have HTV := m4
        clear m0 m1 m2 m3 m4
        refine hK.out _ _ ⟨(blk_cell HI.out.box 0).trans rfl, (blk_cell HI.out.box 1).trans rfl⟩ (fun hHeld => ?_)
        clear hK K
        refine norm_ (a' := ?_) ?_ ?_
        rotate_left
        · show Act.put _ (some 44) _ = _
          simp only [Act.put, List.setIfInBounds_toArray, List.set_cons_zero, List.set_cons_succ, i64_w, i32_w]
          rfl
        exact norm_ (by simp only [putAll, Act.put, List.setIfInBounds_toArray, List.set_cons_zero, List.set_cons_succ]) (hCont (gi, vs, vt) _ ⟨HI.out, HG.out, HSV.out, HTV.out⟩)
    · skip
      refine value_ (w1 := ?_) (v := ?_) (by rfl) rfl ?_ ?_
      rotate_left 2
      · go_simp
        constructor
        · rfl
        · rfl
      refine box_any (fun v => Act.put _ _ v) (fun gi w3 hv hb => ?_)
      show K (Act.put _ _ _) _
      have m0 := Aside0.mk (TI.step HI.out hb)
      have m1 := Aside0.mk (And.intro (Kd.C_below HL.out.1 hb) HL.out.2)
      have m2 := Aside0.mk (And.intro hv.1 (Nat.le_trans HI.out.bel.size hv.2))
      clear hb hv HI HL
      have HI := m0
      have HL := m1
      have HG := m2
      clear m0 m1 m2
      refine hK.out _ _ ⟨(blk_cell HI.out.box 0).trans rfl, (blk_cell HI.out.box 1).trans rfl⟩ (fun hHeld => ?_)
      clear hK K
      refine norm_ (a' := ?_) ?_ ?_
      rotate_left
      · show Act.put _ (some 16) _ = _
        simp only [Act.put, List.setIfInBounds_toArray, List.set_cons_zero, List.set_cons_succ, i64_w, i32_w]
        rfl
      refine one_ (i := 1) (N := some 42) #[true, true, true, false, true, false, false] rfl rfl (by kernel_rfl) (by decide) (fun K hK => ?_)
      refine goes_ Try.func20 (by kernel_rfl) rfl #[.slice Al l.length cl, .int .i64 (-1)] (by rfl) rfl rfl (by simp only [List.map_toArray, List.map_cons, List.map_nil]; rfl) ?_
      with_reducible refine (ontimeref25_Reach.calls k _ _ l (-1) s _ HL.out.1 HL.out.2 HS.out).mono ?_
      rintro e w3 ⟨vs, rfl, hv, hb⟩
      refine ⟨_, rfl, ?_⟩
      have m0 := Aside0.mk (TI.step HI.out hb)
      have m1 := Aside0.mk (And.intro (Kd.C_below HL.out.1 hb) HL.out.2)
      have m2 := Aside0.mk (And.intro (blk_below HG.out.1 hb) HG.out.2)
      have m3 := Aside0.mk (Kd.R_lower hv HI.out.bel.size)
      clear hb hv HI HL HG
      have HI := m0
      have HL := m1
      have HG := m2
      have HSV := m3
      clear m0 m1 m2 m3
      refine hK.out _ _ ⟨(blk_cell HI.out.box 0).trans rfl, (blk_cell HI.out.box 1).trans rfl⟩ (fun hHeld => ?_)
      clear hK K
      refine norm_ (a' := ?_) ?_ ?_
      rotate_left
      · show Act.put _ (some 42) _ = _
        simp only [Act.put, List.setIfInBounds_toArray, List.set_cons_zero, List.set_cons_succ, i64_w, i32_w]
        rfl
      refine one_ (i := 3) (N := some 44) #[true, true, true, true, true, false, false] rfl rfl (by kernel_rfl) (by decide) (fun K hK => ?_)
      refine goes_ Try.func14 (by kernel_rfl) rfl #[.agg #[.slice A0_0 l0_0.length c0_0, .slice A0_1 l0_1.length c0_1]] (by rfl) rfl rfl (by simp only [List.map_toArray, List.map_cons, List.map_nil]; rfl) ?_
      with_reducible refine (dominator_Tree.calls k _ _ l0_0 _ _ l0_1 idom _ (Kd.C_below HR0_0.out HI.out.bel) HC0_0.out (Kd.C_below HR0_1.out HI.out.bel) HC0_1.out HT.out).mono ?_
      rintro e w3 ⟨vt, rfl, hv, hb⟩
      refine ⟨_, rfl, ?_⟩
      have m0 := Aside0.mk (TI.step HI.out hb)
      have m1 := Aside0.mk (And.intro (Kd.C_below HL.out.1 hb) HL.out.2)
      have m2 := Aside0.mk (And.intro (blk_below HG.out.1 hb) HG.out.2)
      have m3 := Aside0.mk (Kd.R_below HSV.out hb)
      have m4 := Aside0.mk (Kd.R_lower hv HI.out.bel.size)
      clear hb hv HI HL HG HSV
      have HI := m0
      have HL := m1
      have HG := m2
      have HSV := m3
      have HTV := m4
      clear m0 m1 m2 m3 m4
      refine hK.out _ _ ⟨(blk_cell HI.out.box 0).trans rfl, (blk_cell HI.out.box 1).trans rfl⟩ (fun hHeld => ?_)
      clear hK K
      refine norm_ (a' := ?_) ?_ ?_
      rotate_left
      · show Act.put _ (some 44) _ = _
        simp only [Act.put, List.setIfInBounds_toArray, List.set_cons_zero, List.set_cons_succ, i64_w, i32_w]
        rfl
      exact norm_ (by simp only [putAll, Act.put, List.setIfInBounds_toArray, List.set_cons_zero, List.set_cons_succ]) (hCont (gi, vs, vt) _ ⟨HI.out, HG.out, HSV.out, HTV.out⟩)
  rintro ⟨gi, vs, vt⟩ w3 ⟨hi_, hg_, hs_, ht_⟩
  have HI := Aside0.mk hi_
  have HG := Aside0.mk hg_
  have HSV := Aside0.mk hs_
  have HTV := Aside0.mk ht_
  clear hi_ hg_ hs_ ht_
  have hHeld : (w3.cell? ⟨gb, 0, none⟩ = some (.slice A0_0 l0_0.length c0_0) ∧ w3.cell? ⟨gb, 1, none⟩ = some (.slice A0_1 l0_1.length c0_1)) := ⟨(blk_cell HI.out.box 0).trans rfl, (blk_cell HI.out.box 1).trans rfl⟩
  obtain ⟨As, cs, rfl⟩ := Kd.R_slice HSV.out
  obtain ⟨At, ct, rfl⟩ := Kd.R_slice HTV.out
  have hgc : w3.cell? ⟨gi, 0, none⟩ = some (.slice none 0 0) := (blk_cell HG.out.1 0).trans rfl
  have hgf := blk_frozen HG.out.1 0
  refine norm_ (a' := ?_) ?_ ?_
  rotate_left
  · simp only [putAll, Act.put, List.setIfInBounds_toArray, List.set_cons_zero, List.set_cons_succ]
    rfl
  refine pure_ (i := 5) (N := some 15) (v := ?_) (a' := ?_) #[true, true, true, true, true, true, false] rfl rfl (by kernel_rfl) (fun _ _ _ h => h) (Or.inl ⟨by rfl, ?_⟩) ?_ ?_
  rotate_left
  · intro w'
    go_simp
    with_reducible rfl
  rotate_left
  · simp only [Act.put, List.setIfInBounds_toArray, List.set_cons_zero, List.set_cons_succ, i64_w, i32_w]
    rfl
  refine last_ (i := 6) (N := none) #[true, true, true, true, true, true, true] rfl rfl (by kernel_rfl) (by decide) (fun K hK => ?_)
  refine skip_ (w1 := ?_) (by rfl) rfl ?_ ?_
  rotate_left
  · go_simp
    rfl
  refine hK.out _ _ ?_
  clear hK K
  refine done_ (by kernel_rfl) ?_
  have HZ := Aside0.mk (TZ.mk HI.out HG.out HSV.out HTV.out)
  clear HI HG HSV HTV HL hHeld hgc hgf
  generalize w3.setCell ⟨gi, 0, none⟩ (.slice At idom.length ct) = w4 at HZ ⊢
  have ok := OK.out
  have hz0 : 0 ≤ a3.tmod (l.length : Int) := Int.tmod_nonneg _ H123.out.2.2.1
  have hz1 : a3.tmod (l.length : Int) < (s.length : Int) := by
    rw [ok.hs]
    exact Int.tmod_lt_of_pos _ (by have := ok.n0; omega)
  clear OK H123
  generalize a1.tmod (l.length : Int) = x at ok ⊢
  generalize a2.tmod (l.length : Int) = y at ok ⊢
  generalize a3.tmod (l.length : Int) = z at ok hz0 hz1 ⊢
  obtain ⟨ads, hAs, hcz⟩ := Kd.at_bool HZ.out.2.2.2.1 z hz0 hz1
  subst hAs
  have Z0 := Aside0.mk hz0
  have Z1 := Aside0.mk hz1
  have b0 := eq_true hz0
  have b1 := eq_true hz1
  have OKx := Aside0.mk ok
  clear HR0_0 HC0_0 HR0_1 HC0_1 HS HT HN GW GE hcz hz0 hz1 ok
  go_upto_region 10 with fail
  go_cut [98] (fun v98 wc => v98 = .bool false ∧ Aside0 (TZ w gi At ct idom (some ads) cs s wc))
  case first =>
    have rx := OKx.out.refl
    have hcz := TZ.cell HZ.out Z0.out Z1.out
    cases hv : rdOf false s z <;> cases hp : domB idom x y
    all_goals rw [hv] at hcz
    all_goals (try (have ht : domB idom 0 z = true := OKx.out.root hv))
    · clear OKx
      go_wp2_with (go_at_call 26; refine (clo_calls idom At ct gi _ HZ.out.2.1 HZ.out.2.2.1.1 HZ.out.2.2.1.2 _ _).mono ?_; rintro e w5 ⟨rfl, hb⟩; have nz := Aside0.mk (TZ.step HZ.out hb); clear HZ hb hcz; have HZ := nz; clear nz; have hcz := TZ.cell HZ.out Z0.out Z1.out; (try rw [hv] at hcz); (first | rw [rx] | rw [hp]))
      go_meet
      case rel => exact ⟨rfl, ⟨HZ.out⟩⟩
    · cases hq : domB idom y z <;> cases hu : domB idom y x
      all_goals (try have hr : domB idom x z = true := OKx.out.trans hp hq)
      all_goals (try have hne : (x != y) = false := by (have hxy := OKx.out.anti hp hu; subst hxy; simp))
      all_goals clear OKx
      all_goals go_wp2_with (go_at_call 26; refine (clo_calls idom At ct gi _ HZ.out.2.1 HZ.out.2.2.1.1 HZ.out.2.2.1.2 _ _).mono ?_; rintro e w5 ⟨rfl, hb⟩; have nz := Aside0.mk (TZ.step HZ.out hb); clear HZ hb hcz; have HZ := nz; clear nz; have hcz := TZ.cell HZ.out Z0.out Z1.out; (try rw [hv] at hcz); (first | rw [rx] | rw [hp] | rw [hq] | rw [hu] | rw [hr]))
      all_goals go_meet
      all_goals exact ⟨rfl, ⟨HZ.out⟩⟩
    · clear OKx
      go_wp2_with (go_at_call 26; refine (clo_calls idom At ct gi _ HZ.out.2.1 HZ.out.2.2.1.1 HZ.out.2.2.1.2 _ _).mono ?_; rintro e w5 ⟨rfl, hb⟩; have nz := Aside0.mk (TZ.step HZ.out hb); clear HZ hb hcz; have HZ := nz; clear nz; have hcz := TZ.cell HZ.out Z0.out Z1.out; (try rw [hv] at hcz); (first | rw [rx] | rw [hp] | rw [ht]))
      go_meet
      case rel => exact ⟨rfl, ⟨HZ.out⟩⟩
    · cases hq : domB idom y z <;> cases hu : domB idom y x
      all_goals (try have hr : domB idom x z = true := OKx.out.trans hp hq)
      all_goals (try have hne : (x != y) = false := by (have hxy := OKx.out.anti hp hu; subst hxy; simp))
      all_goals clear OKx
      all_goals go_wp2_with (go_at_call 26; refine (clo_calls idom At ct gi _ HZ.out.2.1 HZ.out.2.2.1.1 HZ.out.2.2.1.2 _ _).mono ?_; rintro e w5 ⟨rfl, hb⟩; have nz := Aside0.mk (TZ.step HZ.out hb); clear HZ hb hcz; have HZ := nz; clear nz; have hcz := TZ.cell HZ.out Z0.out Z1.out; (try rw [hv] at hcz); (first | rw [rx] | rw [hp] | rw [hq] | rw [hu] | rw [hr] | rw [ht]))
      all_goals go_meet
      all_goals exact ⟨rfl, ⟨HZ.out⟩⟩
  case rest =>
    clear HZ
    obtain ⟨rfl, HZ⟩ := hcut
    have hcz := trivial
    have hv := trivial
    cases hr : domB idom x z
    · clear OKx
      go_wp2_with (go_at_call 26; refine (clo_calls idom At ct gi _ HZ.out.2.1 HZ.out.2.2.1.1 HZ.out.2.2.1.2 _ _).mono ?_; rintro e w5 ⟨rfl, hb⟩; have nz := Aside0.mk (TZ.step HZ.out hb); clear HZ hb hcz; have HZ := nz; clear nz; have hcz := TZ.cell HZ.out Z0.out Z1.out; (try rw [hv] at hcz); (first | rw [hr]))
      go_ret
      exact ⟨rfl, HZ.out.1⟩
    · cases hq : domB idom y z
      · clear OKx
        go_wp2_with (go_at_call 26; refine (clo_calls idom At ct gi _ HZ.out.2.1 HZ.out.2.2.1.1 HZ.out.2.2.1.2 _ _).mono ?_; rintro e w5 ⟨rfl, hb⟩; have nz := Aside0.mk (TZ.step HZ.out hb); clear HZ hb hcz; have HZ := nz; clear nz; have hcz := TZ.cell HZ.out Z0.out Z1.out; (try rw [hv] at hcz); (first | rw [hr] | rw [hq]))
        go_ret
        exact ⟨rfl, HZ.out.1⟩
      · cases hp : domB idom x y
        · have hu : domB idom y x = true := OKx.out.chain hr hq hp
          clear OKx
          go_wp2_with (go_at_call 26; refine (clo_calls idom At ct gi _ HZ.out.2.1 HZ.out.2.2.1.1 HZ.out.2.2.1.2 _ _).mono ?_; rintro e w5 ⟨rfl, hb⟩; have nz := Aside0.mk (TZ.step HZ.out hb); clear HZ hb hcz; have HZ := nz; clear nz; have hcz := TZ.cell HZ.out Z0.out Z1.out; (try rw [hv] at hcz); (first | rw [hr] | rw [hq] | rw [hp] | rw [hu]))
          go_ret
          exact ⟨rfl, HZ.out.1⟩
        · clear OKx
          go_wp2_with (go_at_call 26; refine (clo_calls idom At ct gi _ HZ.out.2.1 HZ.out.2.2.1.1 HZ.out.2.2.1.2 _ _).mono ?_; rintro e w5 ⟨rfl, hb⟩; have nz := Aside0.mk (TZ.step HZ.out hb); clear HZ hb hcz; have HZ := nz; clear nz; have hcz := TZ.cell HZ.out Z0.out Z1.out; (try rw [hv] at hcz); (first | rw [hr] | rw [hq] | rw [hp]))
          go_ret
          exact ⟨rfl, HZ.out.1⟩
end Go.Proofs.Ytnkbmpdghjhlfaa.P
