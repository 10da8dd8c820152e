/- The contract of ontimelaw25.Graph. -/
import Derived.Test.YtnkbmpdghjhlfaaPx0
import Derived.Test.YtnkbmpdghjhlfaaXFrontier
namespace Go.Proofs.Ytnkbmpdghjhlfaa.P
open Go.RowKit Go.Proofs.YtnkbmpdghjhlfaaW.PrintWords Go.Proofs.YtnkbmpdghjhlfaaW.PrintLast Go.Proofs.YtnkbmpdghjhlfaaW.PrintMore
attribute [local go_sem] max2_int min2_int max_two min_two max_three min_three max_four min_four
set_option linter.unusedVariables false
set_option linter.unusedSimpArgs false


theorem info46 : (Try.prog.info? 46).map (fun i => (i.zero, i.size, i.bytes)) = some (some (.agg #[.int .i64 0, .int .i64 0, .slice none 0 0]), 3, 40) := by kernel_rfl
/-! ### what Graph computes -/
def addE (n : Nat) (i : Int) : List Int → List (List Int) → Option (List (List Int))
  | [], prev => some prev
  | b :: r, prev => if 0 ≤ b ∧ b < (n : Int) then (if (rd_L1 prev b).length < 17592186044416 ∧ n = prev.length then addE n i r (prev.set b.toNat (rd_L1 prev b ++ [i])) else none) else addE n i r prev
def graphL (n : Nat) : List (List Int) → Nat → List S46 → List (List Int) → Option (List S46 × List (List Int))
  | [], _, bl, prev => some (bl, prev)
  | nx :: r, i, bl, prev => if bl.length < 3518437208883 then (addE n (i : Int) nx prev).bind fun prev' => graphL n r (i + 1) (bl ++ [⟨(i : Int), wrap64 ((i : Int) + 1), nx⟩]) prev' else none
def ontimelaw25_Graph.f (l0 : List (List Int)) : Option (List S46 × List (List Int)) := if l0.length ≤ 11728124029610 then graphL l0.length l0 0 [] (List.replicate l0.length []) else none

/-- Each block's cells, as they read now and later. -/
def RowsOK (w : World) (P0 : Nat → Prop) (bl : List S46) (rows : List (List Value)) : Prop := rows.length = bl.length ∧ ∀ (j : Nat) (x : S46) (c : List Value), bl[j]? = some x → rows[j]? = some c → Kd.FK k46 w P0 x c
theorem RowsOK.snoc {w : World} {P0 : Nat → Prop} {bl : List S46} {rows : List (List Value)} (h : RowsOK w P0 bl rows) {x : S46} {c : List Value} (hx : Kd.FK k46 w P0 x c) : RowsOK w P0 (bl ++ [x]) (rows ++ [c]) := by
  refine ⟨by rw [List.length_append, List.length_append, h.1]; rfl, fun j y d hy hd => ?_⟩
  by_cases hj : j < bl.length
  · rw [List.getElem?_append_left hj] at hy
    rw [List.getElem?_append_left (by rw [h.1]; exact hj)] at hd
    exact h.2 j y d hy hd
  · rw [List.getElem?_append_right (by omega)] at hy
    rw [List.getElem?_append_right (by rw [h.1]; omega), h.1] at hd
    have hj0 : j - bl.length = 0 := by
      have := (List.getElem?_eq_some_iff.1 hy).1
      simp at this
      omega
    rw [hj0] at hy hd
    simp at hy hd
    subst hy hd
    exact hx
/-- What Graph leaves where it is, and what it has made so far. -/
def GInv (w0 : World) (gb gx : Nat) (Ab : Option Addr) (nb cb : Nat) (Ap : Option Addr) (np cp : Nat) (rows : List (List Value)) (prev : List (List Int)) (w : World) : Prop :=
  Below w0.heap.size w0 w ∧ w.heap[gb]? = some (.cells #[.slice Ab nb cb, .slice Ap np cp] 25 (0, 0)) ∧ w.heap[gx]? = some (.cells #[.slice none 0 0, .slice none 0 0] 25 (0, 0)) ∧
  (Kd.raw 3).R 46 w w0.heap.size (fun k => w0.heap.size ≤ k) (.slice Ab nb cb) rows ∧ RR w w0.heap.size (fun k => w0.heap.size ≤ k) (.slice Ap np cp) prev ∧ gb ≠ gx ∧ w0.heap.size ≤ gb ∧ w0.heap.size ≤ gx
section
variable {w0 w : World} {gb gx : Nat} {Ab : Option Addr} {nb cb : Nat} {Ap : Option Addr} {np cp : Nat} {rows : List (List Value)} {prev : List (List Int)}
theorem GInv.drew (h : GInv w0 gb gx Ab nb cb Ap np cp rows prev w) : GInv w0 gb gx Ab nb cb Ap np cp rows prev w.drew := ⟨below_drew1 h.1, h.2.1, h.2.2.1, Kd.R_drew h.2.2.2.1, Kd.S_drew h.2.2.2.2.1, h.2.2.2.2.2⟩
theorem GInv.box (h : GInv w0 gb gx Ab nb cb Ap np cp rows prev w) : w.cell? ⟨gb, 0, none⟩ = some (.slice Ab nb cb) ∧ w.cell? ⟨gb, 1, none⟩ = some (.slice Ap np cp) := ⟨(blk_cell h.2.1 0).trans rfl, (blk_cell h.2.1 1).trans rfl⟩
theorem GInv.push (h : GInv w0 gb gx Ab nb cb Ap np cp rows prev w) {A1 : Option Addr} {n1 c1 : Nat} {w1 : World} {c : List Value} (hr : (Kd.raw 3).R 46 w1 w0.heap.size (fun k => w0.heap.size ≤ k) (.slice A1 n1 c1) (rows ++ [c])) (hb : Below w0.heap.size w0 w1) (hg : w.grownBy w1 (Value.slice Ab nb cb).ownBlock) :
    (w1.cell? ⟨gb, 0, none⟩ = some (.slice Ab nb cb) ∧ w1.frozen? ⟨gb, 0, none⟩ = false) ∧ GInv w0 gb gx A1 n1 c1 Ap np cp (rows ++ [c]) prev (w1.setCell ⟨gb, 0, none⟩ (.slice A1 n1 c1)) := by
  obtain ⟨_, e1, e2, h3, h4, h5, h6, h7⟩ := h
  have n1' := blk_grown e1 hg (Kd.R_ne h3 e1 (by decide))
  have n2 := blk_grown e2 hg (Kd.R_ne h3 e2 (by decide))
  have n4 := Kd.S_over' h4 (Kd.R_typed h3) (by decide) hg
  refine ⟨⟨(blk_cell n1' 0).trans rfl, blk_frozen n1' 0⟩, below_set hb h6, blk_put n1' 0 _ rfl, blk_far n2 h5.symm _, ?_, ?_, h5, h6, h7⟩
  · exact Kd.R_mono (Kd.R_far (p := ⟨gb, 0, none⟩) (Kd.R_types hr n1' (by decide)) (fun _ hk => hk.2) _) (fun _ hk => hk.1)
  · exact Kd.S_set n4 n1' (by decide) 0 _
theorem GInv.add (h : GInv w0 gb gx Ab nb cb Ap np cp rows prev w) (i : Int) (h0 : 0 ≤ i) (h1 : i < np) :
    ∃ (g : Nat) (A : Option Addr) (c : Nat) (oka : Nat → Prop), Ap = some ⟨g, 0, none⟩ ∧ w.cell? ⟨g, i.toNat, none⟩ = some (.slice A (rd_L1 prev i).length c) ∧ w.frozen? ⟨g, i.toNat, none⟩ = false ∧ (∀ k, w.heap.size ≤ k → oka k) ∧ Kd.R (Kd.int .i64) 3 w w0.heap.size oka (.slice A (rd_L1 prev i).length c) (rd_L1 prev i) ∧
      ∀ (v1 : Value) (w1 : World) (ys : List Int), Kd.R (Kd.int .i64) 3 w1 w0.heap.size oka v1 ys → Below w0.heap.size w0 w1 → w.grownBy w1 (Value.slice A (rd_L1 prev i).length c).ownBlock →
        (w1.cell? ⟨g, i.toNat, none⟩ = some (.slice A (rd_L1 prev i).length c) ∧ w1.frozen? ⟨g, i.toNat, none⟩ = false ∧ w1.cell? ⟨gb, 1, none⟩ = some (.slice Ap np cp)) ∧ GInv w0 gb gx Ab nb cb Ap np cp rows (prev.set i.toNat ys) (w1.setCell ⟨g, i.toNat, none⟩ v1) := by
  obtain ⟨hB, e1, e2, h3, h4, h5, h6, h7⟩ := h
  have hnp := (Kd.S_reads' h4).1
  obtain ⟨g, cap, ev, gb_, gl_, cells, hcg⟩ := Kd.S_form h4 (by omega)
  injection ev with ea _ ec
  subst ea ec
  obtain ⟨A, c, oka, hc, hf, hfr, hR, hok, hend⟩ := elem_append h4 i h0 h1
  refine ⟨g, A, c, oka, rfl, hc, hf, fun k hk => hfr k hk (Nat.le_trans hB.size hk), hR, fun v1 w1 ys hv hb hg => ?_⟩
  obtain ⟨c1', f1', hS2, hg2⟩ := hend v1 w1 ys hv hg
  have n1 := blk_grown e1 hg (Kd.R_ne hR e1 (by decide))
  have n2 := blk_grown e2 hg (Kd.R_ne hR e2 (by decide))
  have n3 := Kd.R_over' h3 (Kd.R_typed hR) (by decide) hg
  have ncg : w1.heap[g]? = some (.cells cells 29 (0, 0)) := blk_grown hcg hg (Kd.R_ne hR hcg (by decide))
  refine ⟨⟨c1', f1', (blk_cell n1 1).trans rfl⟩, below_set hb gb_, blk_far n1 (blk_ne n1 ncg (by decide)) _, blk_far n2 (blk_ne n2 ncg (by decide)) _, ?_, hS2, h5, h6, h7⟩
  exact Kd.R_mono (Kd.R_far (p := ⟨g, i.toNat, none⟩) (Kd.R_types n3 ncg (by decide)) (fun _ hk => hk.2) _) (fun _ hk => hk.1)
theorem GInv.finish {P0 : Nat → Prop} {bl : List S46} (h : GInv w0 gb gx Ab bl.length cb Ap np cp rows prev w) (hr : RowsOK w0 P0 bl rows) :
    ((w.setCell ⟨gx, 0, none⟩ (.slice Ab bl.length cb)).setCell ⟨gx, 1, none⟩ (.slice Ap np cp)).heap[gx]? = some (.cells #[.slice Ab bl.length cb, .slice Ap np cp] 25 (0, 0)) ∧
    Kd.N k46 46 ((w.setCell ⟨gx, 0, none⟩ (.slice Ab bl.length cb)).setCell ⟨gx, 1, none⟩ (.slice Ap np cp)) w0.heap.size (fun k_ => (P0 k_ ∨ w0.heap.size ≤ k_) ∧ some k_ ≠ (Value.slice Ap np cp).ownBlock) (.slice Ab bl.length cb) bl ∧
    Kd.N (Kd.slice 3 (Kd.int .i64)) 29 ((w.setCell ⟨gx, 0, none⟩ (.slice Ab bl.length cb)).setCell ⟨gx, 1, none⟩ (.slice Ap np cp)) w0.heap.size (fun k_ => (P0 k_ ∨ w0.heap.size ≤ k_) ∧ some k_ ≠ (Value.slice Ab bl.length cb).ownBlock) (.slice Ap np cp) prev ∧
    Below w0.heap.size w0 ((w.setCell ⟨gx, 0, none⟩ (.slice Ab bl.length cb)).setCell ⟨gx, 1, none⟩ (.slice Ap np cp)) := by
  obtain ⟨hB, e1, e2, h3, h4, h5, h6, h7⟩ := h
  have hb2 := below_set (j := 1) (v := .slice Ap np cp) (below_set (j := 0) (v := .slice Ab bl.length cb) hB h7) h7
  have x0 := blk_put (cs := #[.slice none 0 0, .slice none 0 0]) e2 0 (.slice Ab bl.length cb) rfl
  have x1 := blk_put (cs := #[.slice Ab bl.length cb, .slice none 0 0]) x0 1 (.slice Ap np cp) rfl
  have r3 := Kd.R_far (p := ⟨gx, 0, none⟩) (Kd.R_types h3 e2 (by decide)) (fun _ hk => hk.2) (.slice Ab bl.length cb)
  have r3' := Kd.R_far (p := ⟨gx, 1, none⟩) r3 (fun _ hk => hk.2) (.slice Ap np cp)
  have s4 := Kd.S_set (Kd.S_set h4 e2 (by decide) 0 (.slice Ab bl.length cb)) x0 (by decide) 1 (.slice Ap np cp)
  have hApB : ∀ k, (Value.slice Ap np cp).ownBlock = some k → w0.heap.size ≤ k := Kd.S_base h4
  have hAbB : ∀ k, (Value.slice Ab bl.length cb).ownBlock = some k → w0.heap.size ≤ k := Kd.R_base h3
  have hne : ∀ k, (Value.slice Ab bl.length cb).ownBlock = some k → (Value.slice Ap np cp).ownBlock ≠ some k := by
    intro k hk hk2
    obtain ⟨ca, hca⟩ := Kd.R_typed h3 k hk
    obtain ⟨cb', hcb⟩ := Kd.S_typed h4 k hk2
    rw [hca] at hcb
    injection hcb with hcb
    injection hcb with _ hcb
    exact absurd hcb (by decide)
  refine ⟨x1, ⟨fun k hk => ⟨.inr (hAbB k hk), fun e => hne k hk e.symm⟩, rows, hr.1, Kd.raw_tight r3', fun j x c hx hc W' hW => hr.2 j x c hx hc W' (fun k hk hlt => ?_)⟩, ?_, hb2⟩
  · have hlt2 := Nat.lt_of_lt_of_le hlt hb2.size
    rw [hW k ⟨⟨.inl hk, fun e => by have := hApB k e.symm; omega⟩, fun e => by have := hAbB k e.symm; omega⟩ hlt2]
    exact hb2.block k hlt
  · refine Kd.S_N (Kd.S_mono (Kd.S_apart' (v := .slice Ab bl.length cb) s4 (Kd.R_typed r3') (by decide)) (fun k hk => ⟨.inr hk.1, hk.2⟩))
end
theorem drop_L1 (xs : List (List Int)) (j : Nat) (h : j < xs.length) : xs.drop j = rd_L1 xs j :: xs.drop (j + 1) := by
  rw [List.drop_eq_getElem_cons h]
  congr 1
  unfold rd_L1
  rw [Int.toNat_natCast]
  simp [List.getD, List.getElem?_eq_getElem h]

set_option maxHeartbeats 4000000 in
set_option maxRecDepth 100000 in
theorem ontimelaw25_Graph.calls (P0_ : Nat → Prop) (A0 : Option Addr) (c0 : Nat) (l0 : List (List Int)) (r1 : List S46) (r2 : List (List Int)) (w : World) (hs0 : Kd.V (Kd.slice 3 (Kd.int .i64)) 29 w w.heap.size (fun k_ => P0_ k_) (.slice A0 l0.length c0) l0) (h : ontimelaw25_Graph.f l0 = some (r1, r2)) :
    Calls Try.prog 27 #[.slice A0 l0.length c0] w fun e w' => ∃ v0_ v1_ : Value, e = .returned (.agg #[v0_, v1_]) ∧ Kd.N k46 46 w' w.heap.size (fun k_ => (P0_ k_ ∨ w.heap.size ≤ k_) ∧ some k_ ≠ (v1_ : Value).ownBlock) v0_ r1 ∧ Kd.N (Kd.slice 3 (Kd.int .i64)) 29 w' w.heap.size (fun k_ => (P0_ k_ ∨ w.heap.size ≤ k_) ∧ some k_ ≠ (v0_ : Value).ownBlock) v1_ r2 ∧ Below w.heap.size w w' := by
  have hu25 := Try.underlying25
  have hu46 := Try.underlying46
  unfold ontimelaw25_Graph.f at h
  by_cases hlim : l0.length ≤ 11728124029610
  · rw [if_pos hlim] at h
    have HG := Aside0.mk h
    have HV := Aside0.mk (Kd.V_F hs0)
    have HR := Aside0.mk (Kd.F_now (Kd.V_F hs0))
    clear h hs0
    go_enter Try.func27, Try.ntmps27
    go_wp2_with ((with_reducible refine gate_dst (N := 9) rfl ?_); refine Kd.S_make (Kd.slice 3 (Kd.int .i64)) (w0 := w) w.heap.size 29 rfl (N := 9) rfl 23 _ _ rfl (l0.length : Int) rfl rfl Try.underlying23 (.slice none 0 0) 24 info29 rfl (by decide) (by omega) [] (ok := fun k => w.heap.size ≤ k) (okp := fun _ => False) ⟨_, rfl, Kd.R_nil _ _ _ _ _⟩ (fun _ hk => hk.elim) (by simp) (by omega) (by omega) (below_alloc (Below.refl _ _) _) (by simp) ?_; intro v6 w6 ho hb hg hnew_; rw [Int.toNat_natCast] at ho; obtain ⟨Ap, cp, rfl⟩ := Kd.S_slice ho; rw [List.length_replicate] at ho ⊢; have HS := Aside0.mk ho; have HB6 := Aside0.mk hb; have HX6 := Aside0.mk (blk_grown (blk_new w (.cells #[.slice none 0 0, .slice none 0 0] 25 (0, 0))) hg (by simp)); clear ho hb hg hnew_)
    have HGI := Aside0.mk (show GInv w w6.heap.size w.heap.size none 0 0 Ap l0.length cp [] (List.replicate l0.length []) (w6.alloc (.cells #[.slice none 0 0, .slice Ap l0.length cp] 25)) from
      ⟨below_alloc HB6.out _, blk_new w6 _, blk_alloc HX6.out _, Kd.R_nil _ _ _ _ _, Kd.S_alloc HS.out _, by have := blk_lt HX6.out; omega, HB6.out.size, Nat.le_refl _⟩)
    obtain ⟨gb, hgb⟩ : ∃ gb, gb = w6.heap.size := ⟨_, rfl⟩
    obtain ⟨gx, hgx⟩ : ∃ gx, gx = w.heap.size := ⟨_, rfl⟩
    have HGX := Aside0.mk hgx
    rw [← hgb] at HGI
    rw [← hgb]
    have hml : l0.length ≤ 9223372036854775807 := by omega
    clear HB6 HX6 HS hgb hgx
    go_loopw [4, 5, 6] (fun i _ _ wr => ∃ (j : Nat) (bl : List S46) (rows : List (List Value)) (prev : List (List Int)) (Ab : Option Addr) (cb : Nat), j ≤ l0.length ∧ i = .int .i64 j ∧ Aside0 (graphL l0.length (l0.drop j) j bl prev = some (r1, r2)) ∧ Aside0 (RowsOK w P0_ bl rows) ∧ Aside0 (GInv w gb w.heap.size Ab bl.length cb Ap l0.length cp rows prev wr)) (fun i _ _ _ => l0.length - (intOf i).toNat)
    case atStart => exact ⟨0, [], [], _, none, 0, Nat.zero_le _, rfl, HG, ⟨rfl, fun j x c h => by simp at h⟩, HGI⟩
    case round =>
      clear HG HGI
      obtain ⟨j, bl, rows, prev, Ab, cb, hj, rfl, HG, HRW, HI⟩ := hrel
      by_cases hlt : j < l0.length
      · have hg := HG.out
        rw [drop_L1 l0 j hlt] at hg
        simp only [graphL] at hg
        by_cases hlm : bl.length < 3518437208883
        · rw [if_pos hlm] at hg
          replace hg := Option.bind_eq_some_iff.mp hg
          obtain ⟨prev', hE, hg⟩ := hg
          have HE := Aside0.mk hE
          have HG := Aside0.mk hg
          have HLM := Aside0.mk hlm
          clear hE hg hlm
          obtain ⟨ad, Aj, cj, ea, hx, hxl, hxc⟩ := at_L1 HR.out (j : Int) (by omega) (by omega)
          subst ea
          rw [Int.toNat_natCast] at hx
          have HX0 := Aside0.mk hx
          have HXC := Aside0.mk hxc
          have hmx : (rd_L1 l0 (j : Int)).length ≤ 9223372036854775807 := hxc.2.1
          have HRL := Aside0.mk (show rows.length = bl.length from HRW.out.1)
          have HROW := Aside0.mk (show RowsOK w P0_ (bl ++ [⟨(j : Int), wrap64 ((j : Int) + 1), rd_L1 l0 (j : Int)⟩]) (rows ++ [[.int .i64 (j : Int), .int .i64 (wrap64 ((j : Int) + 1)), .slice Aj (rd_L1 l0 (j : Int)).length cj]]) from by
            refine HRW.out.snoc (k46_mkF w P0_ ⟨(j : Int), wrap64 ((j : Int) + 1), rd_L1 l0 (j : Int)⟩ hxl ?_)
            obtain ⟨ad2, cs, ea2, _, hK, hcc, _⟩ := Kd.F_get HV.out ([] : List Int) (j : Int) (by omega) (by omega)
            injection ea2 with ea2
            subst ea2
            intro W' hW
            obtain ⟨A5, c5, e5, l5, q5⟩ := hK W' hW
            have hu := hcc 0 (.slice A5 (rd_L1 l0 (j : Int)).length c5) (by rw [e5]; rfl)
            rw [show (Kd.slice 3 (Kd.int .i64)).sz = 1 from rfl, Nat.mul_one, Nat.add_zero, Int.toNat_natCast, HX0.out] at hu
            injection hu with hu
            injection hu with hu _ _
            rw [hu]
            exact q5)
          clear hx hxl hxc HRW
          have HID := Aside0.mk HI.out.drew
          have HBD := Aside0.mk HI.out.drew.1
          have HIR := Aside0.mk HI.out.drew.2.2.2.1
          have HFR := Aside0.mk (show ∀ k, wr.drew.heap.size ≤ k → w.heap.size ≤ k from fun k hk => Nat.le_trans HI.out.drew.1.size hk)
          have HONE := Aside0.mk (show ∀ u ∈ ([.int .i64 (j : Int), .int .i64 (wrap64 ((j : Int) + 1)), .slice Aj (rd_L1 l0 (j : Int)).length cj] : List Value), u.oneCell' = true from by simp [Value.oneCell'])
          have kb0 := HI.out.drew.box.1
          have kx : wr.drew.cell? (ad.add j) = some (.slice Aj (rd_L1 l0 (j : Int)).length cj) := pw_cell_below HI.out.drew.1 HX0.out
          clear HI
          go_wp2_with fail
          refine start_ (n := 14) (S := fun w' => w'.cell? ⟨gb, 0, none⟩ = some (.slice Ab bl.length cb) ∧ w'.cell? (ad.add j) = some (.slice Aj (rd_L1 l0 (j : Int)).length cj)) (ds := [13]) #[false, false, false, false, false, false, false, false, false, false, false, false, false, false] (by kernel_rfl) rfl rfl ⟨kb0, kx⟩ (fun hHeld => ?_)
          generalize wr.drew = wd at kb0 kx HID HBD HIR HFR hHeld ⊢
          refine pure_ (i := 0) (N := some 17) (v := ?_) (a' := ?_) #[true, false, false, false, false, false, false, false, false, false, false, false, false, false] rfl rfl (by kernel_rfl) (fun _ _ _ h => h) (Or.inl ⟨by rfl, ?_⟩) ?_ ?_
          rotate_left
          · intro w'
            go_simp
            with_reducible rfl
          rotate_left
          · simp only [Act.put, List.setIfInBounds_toArray, List.set_cons_zero, List.set_cons_succ, i64_w, i32_w]
            rfl
          refine pure_ (i := 2) (N := some 19) (v := ?_) (a' := ?_) #[true, false, true, false, false, false, false, false, false, false, false, false, false, false] rfl rfl (by kernel_rfl) (fun _ _ _ h => h) (Or.inl ⟨by rfl, ?_⟩) ?_ ?_
          rotate_left
          · intro w'
            go_simp
            with_reducible rfl
          rotate_left
          · simp only [Act.put, List.setIfInBounds_toArray, List.set_cons_zero, List.set_cons_succ, i64_w, i32_w]
            rfl
          refine pure_ (i := 3) (N := some 20) (v := ?_) (a' := ?_) #[true, false, true, true, false, false, false, false, false, false, false, false, false, false] rfl rfl (by kernel_rfl) (fun _ _ _ h => h) (Or.inl ⟨by rfl, ?_⟩) ?_ ?_
          rotate_left
          · intro w'
            go_simp
            with_reducible rfl
          rotate_left
          · simp only [Act.put, List.setIfInBounds_toArray, List.set_cons_zero, List.set_cons_succ, i64_w, i32_w]
            rfl
          refine pure_ (i := 4) (N := some 21) (v := ?_) (a' := ?_) #[true, false, true, true, true, false, false, false, false, false, false, false, false, false] rfl rfl (by kernel_rfl) (fun _ _ _ h => h) (Or.inl ⟨by rfl, ?_⟩) ?_ ?_
          rotate_left
          · intro w'
            go_simp
            with_reducible rfl
          rotate_left
          · simp only [Act.put, List.setIfInBounds_toArray, List.set_cons_zero, List.set_cons_succ, i64_w, i32_w]
            rfl
          refine pure_ (i := 5) (N := some 22) (v := ?_) (a' := ?_) #[true, false, true, true, true, true, false, false, false, false, false, false, false, false] rfl rfl (by kernel_rfl) (fun _ _ _ h => h) (Or.inl ⟨by rfl, ?_⟩) ?_ ?_
          rotate_left
          · intro w'
            go_simp
            with_reducible rfl
          rotate_left
          · simp only [Act.put, List.setIfInBounds_toArray, List.set_cons_zero, List.set_cons_succ, i64_w, i32_w]
            rfl
          refine pure_ (i := 6) (N := some 23) (v := ?_) (a' := ?_) #[true, false, true, true, true, true, true, false, false, false, false, false, false, false] rfl rfl (by kernel_rfl) (fun _ _ _ h => h) (Or.inl ⟨by rfl, ?_⟩) ?_ ?_
          rotate_left
          · intro w'
            go_simp
            with_reducible rfl
          rotate_left
          · simp only [Act.put, List.setIfInBounds_toArray, List.set_cons_zero, List.set_cons_succ, i64_w, i32_w]
            rfl
          refine pure_ (i := 7) (N := some 24) (v := ?_) (a' := ?_) #[true, false, true, true, true, true, true, true, false, false, false, false, false, false] rfl rfl (by kernel_rfl) (fun _ _ _ h => h) (Or.inl ⟨by rfl, ?_⟩) ?_ ?_
          rotate_left
          · intro w'
            go_simp
            with_reducible rfl
          rotate_left
          · simp only [Act.put, List.setIfInBounds_toArray, List.set_cons_zero, List.set_cons_succ, i64_w, i32_w]
            rfl
          refine take_ (i := 1) (N := some 18) (v := ?_) (a' := ?_) #[true, true, true, true, true, true, true, true, false, false, false, false, false, false] rfl rfl (by kernel_rfl) (fun _ _ _ h => h) (Or.inl ⟨by rfl, ?_⟩) hHeld ?_ ?_
          rotate_left
          · rintro w' ⟨s0, s1⟩
            go_simp
            with_reducible rfl
          rotate_left
          · simp only [Act.put, List.setIfInBounds_toArray, List.set_cons_zero, List.set_cons_succ, i64_w, i32_w]
            rfl
          refine take_ (i := 8) (N := some 25) (v := ?_) (a' := ?_) #[true, true, true, true, true, true, true, true, true, false, false, false, false, false] rfl rfl (by kernel_rfl) (fun _ _ _ h => h) (Or.inl ⟨by rfl, ?_⟩) hHeld ?_ ?_
          rotate_left
          · rintro w' ⟨s0, s1⟩
            go_simp
            with_reducible rfl
          rotate_left
          · simp only [Act.put, List.setIfInBounds_toArray, List.set_cons_zero, List.set_cons_succ, i64_w, i32_w]
            rfl
          refine pure_ (i := 9) (N := some 26) (v := ?_) (a' := ?_) #[true, true, true, true, true, true, true, true, true, true, false, false, false, false] rfl rfl (by kernel_rfl) (fun _ _ _ h => h) (Or.inl ⟨by rfl, ?_⟩) ?_ ?_
          rotate_left
          · intro w'
            go_simp
            with_reducible rfl
          rotate_left
          · simp only [Act.put, List.setIfInBounds_toArray, List.set_cons_zero, List.set_cons_succ, i64_w, i32_w]
            rfl
          refine one_ (i := 10) (N := some 27) #[true, true, true, true, true, true, true, true, true, true, true, false, false, false] rfl rfl (by kernel_rfl) (by decide) (fun K hK => ?_)
          refine value_ (w1 := ?_) (v := ?_) (by rfl) rfl ?_ ?_
          rotate_left 2
          · go_simp
            constructor
            · rfl
            · rfl
          refine hK.out _ _ ⟨pw_cell_below (below_alloc (Below.refl _ _) _) kb0, pw_cell_below (below_alloc (Below.refl _ _) _) kx⟩ (fun hHeld => ?_)
          clear hK K
          refine norm_ (a' := ?_) ?_ ?_
          rotate_left
          · show Act.put _ (some 27) _ = _
            simp only [Act.put, List.setIfInBounds_toArray, List.set_cons_zero, List.set_cons_succ, i64_w, i32_w]
            rfl
          refine one_ (i := 11) (N := some 28) #[true, true, true, true, true, true, true, true, true, true, true, true, false, false] rfl rfl (by kernel_rfl) (by decide) (fun K hK => ?_)
          refine Kd.R_append_step (Kd.raw 3) (w0 := w) w.heap.size rfl (.tmp 18) (.tmp 27) 22 46 (.agg #[.int .i64 0, .int .i64 0, .slice none 0 0]) 40 rfl Try.underlying22 info46 rfl (by decide) (by omega) (.slice Ab bl.length cb) rows [.int .i64 (j : Int), .int .i64 (wrap64 ((j : Int) + 1)), .slice Aj (rd_L1 l0 (j : Int)).length cj] [.int .i64 (j : Int), .int .i64 (wrap64 ((j : Int) + 1)), .slice Aj (rd_L1 l0 (j : Int)).length cj] (fun k => w.heap.size ≤ k) (fun _ => False) rfl rfl ⟨rfl, rfl, HONE.out⟩ (fun _ hk => hk.elim) HFR.out HIR.out HBD.out HBD.out.size (by have := HLM.out; have := HRL.out; omega) ?_
          intro v1 w9 ho hb hg hat
          obtain ⟨A9, c9, rfl⟩ := Kd.R_slice ho
          obtain ⟨⟨cq0, fq0⟩, hG9⟩ := HID.out.push ho hb hg
          have hx9 := pw_cell_below (Below.refl _ _) (show w9.cell? (ad.add j) = some (.slice Aj (rd_L1 l0 (j : Int)).length cj) from pw_cell_below hb HX0.out)
          simp only [List.length_append, List.length_cons, List.length_nil, Nat.zero_add] at cq0 fq0 hG9
          rw [HRL.out] at hG9
          have HG9 := Aside0.mk hG9
          clear hG9 ho hb hg hat
          refine hK.out _ _ ⟨cq0, hx9⟩ (fun hHeld => ?_)
          clear hK K
          refine norm_ (a' := ?_) ?_ ?_
          rotate_left
          · show Act.put _ (some 28) _ = _
            simp only [Act.put, List.setIfInBounds_toArray, List.set_cons_zero, List.set_cons_succ, i64_w, i32_w]
            rfl
          refine pure_ (i := 12) (N := some 29) (v := ?_) (a' := ?_) #[true, true, true, true, true, true, true, true, true, true, true, true, true, false] rfl rfl (by kernel_rfl) (fun _ _ _ h => h) (Or.inl ⟨by rfl, ?_⟩) ?_ ?_
          rotate_left
          · intro w'
            go_simp
            with_reducible rfl
          rotate_left
          · simp only [Act.put, List.setIfInBounds_toArray, List.set_cons_zero, List.set_cons_succ, i64_w, i32_w]
            rfl
          refine last_ (i := 13) (N := none) #[true, true, true, true, true, true, true, true, true, true, true, true, true, true] rfl rfl (by kernel_rfl) (by decide) (fun K hK => ?_)
          refine skip_ (w1 := ?_) (by rfl) rfl ?_ ?_
          rotate_left
          · go_simp
            rfl
          refine hK.out _ _ ?_
          clear hK K
          refine done_ (by kernel_rfl) ?_
          go_wp2_with fail
          clear kb0 kx cq0 fq0 hx9
          rw [HRL.out]
          generalize w9.setCell ⟨gb, 0, none⟩ (.slice A9 (bl.length + 1) c9) = wk at HG9 ⊢
          clear HID HBD HIR HFR
          go_loopw [5, 6] (fun k _ wq => ∃ (q : Nat) (prev1 : List (List Int)), q ≤ (rd_L1 l0 (j : Int)).length ∧ k = .int .i64 q ∧ Aside0 (addE l0.length (j : Int) ((rd_L1 l0 (j : Int)).drop q) prev1 = some prev') ∧ Aside0 (GInv w gb w.heap.size A9 (bl.length + 1) c9 Ap l0.length cp (rows ++ [[.int .i64 (j : Int), .int .i64 (wrap64 ((j : Int) + 1)), .slice Aj (rd_L1 l0 (j : Int)).length cj]]) prev1 wq)) (fun k _ _ => (rd_L1 l0 (j : Int)).length - (intOf k).toNat)
          case atStart => exact ⟨0, prev, Nat.zero_le _, rfl, HE, HG9⟩
          case round =>
            clear HE HG9
            obtain ⟨q, prev1, hq, rfl, HE, HI⟩ := hrel
            have kx := pw_cell_below HI.out.1 HX0.out
            have hj0 : (j : Int) < (l0.length : Int) := by omega
            by_cases hqt : q < (rd_L1 l0 (j : Int)).length
            · have he := HE.out
              rw [drop_rd (rd_L1 l0 (j : Int)) q hqt] at he
              obtain ⟨b, hb⟩ : ∃ b, b = rd (rd_L1 l0 (j : Int)) (q : Int) := ⟨_, rfl⟩
              obtain ⟨ad2, ea2, hx2⟩ := Kd.at_int (Kd.C_below HXC.out HI.out.1) q (by omega) (by omega)
              subst ea2
              rw [Int.toNat_natCast] at hx2
              rw [← hb] at he hx2
              clear hb HE
              simp only [addE] at he
              by_cases hin : 0 ≤ b ∧ b < (l0.length : Int)
              · rw [if_pos hin] at he
                obtain ⟨b0, b1⟩ := hin
                by_cases hl2 : (rd_L1 prev1 b).length < 17592186044416 ∧ l0.length = prev1.length
                · rw [if_pos hl2] at he
                  have HE := Aside0.mk he
                  have HLM2 := Aside0.mk hl2.1
                  clear he hl2
                  go_wp2_with fail
                  obtain ⟨gp, Ax, cx, oka, eap, hcx, hfx, hfrx, hRx, hend⟩ := HI.out.drew.add b b0 b1
                  have HRX := Aside0.mk hRx
                  have HEND := Aside0.mk hend
                  have HFRX := Aside0.mk hfrx
                  have HBD := Aside0.mk HI.out.drew.1
                  have kp1 := HI.out.drew.box.2
                  rw [eap] at kp1
                  clear hRx hend hfrx HI kx hx2
                  have EAP := Aside0.mk eap
                  clear eap
                  refine start_ (n := 13) (S := fun w' => w'.cell? ⟨gb, 1, none⟩ = some (.slice (some ⟨gp, 0, none⟩) l0.length cp) ∧ w'.cell? ⟨gp, b.toNat, none⟩ = some (.slice Ax (rd_L1 prev1 b).length cx)) (ds := [12]) #[false, false, false, false, false, false, false, false, false, false, false, false, false] (by kernel_rfl) rfl rfl ⟨kp1, hcx⟩ (fun hHeld => ?_)
                  generalize wr.drew = wd at kp1 hcx hfx HRX HEND HFRX HBD hHeld ⊢
                  refine pure_ (i := 0) (N := some 54) (v := ?_) (a' := ?_) #[true, false, false, false, false, false, false, false, false, false, false, false, false] rfl rfl (by kernel_rfl) (fun _ _ _ h => h) (Or.inl ⟨by rfl, ?_⟩) ?_ ?_
                  rotate_left
                  · intro w'
                    go_simp
                    with_reducible rfl
                  rotate_left
                  · simp only [Act.put, List.setIfInBounds_toArray, List.set_cons_zero, List.set_cons_succ, i64_w, i32_w]
                    rfl
                  refine pure_ (i := 2) (N := some 56) (v := ?_) (a' := ?_) #[true, false, true, false, false, false, false, false, false, false, false, false, false] rfl rfl (by kernel_rfl) (fun _ _ _ h => h) (Or.inl ⟨by rfl, ?_⟩) ?_ ?_
                  rotate_left
                  · intro w'
                    go_simp
                    with_reducible rfl
                  rotate_left
                  · simp only [Act.put, List.setIfInBounds_toArray, List.set_cons_zero, List.set_cons_succ, i64_w, i32_w]
                    rfl
                  refine pure_ (i := 3) (N := some 57) (v := ?_) (a' := ?_) #[true, false, true, true, false, false, false, false, false, false, false, false, false] rfl rfl (by kernel_rfl) (fun _ _ _ h => h) (Or.inl ⟨by rfl, ?_⟩) ?_ ?_
                  rotate_left
                  · intro w'
                    go_simp
                    with_reducible rfl
                  rotate_left
                  · simp only [Act.put, List.setIfInBounds_toArray, List.set_cons_zero, List.set_cons_succ, i64_w, i32_w]
                    rfl
                  refine pure_ (i := 5) (N := some 59) (v := ?_) (a' := ?_) #[true, false, true, true, false, true, false, false, false, false, false, false, false] rfl rfl (by kernel_rfl) (fun _ _ _ h => h) (Or.inl ⟨by rfl, ?_⟩) ?_ ?_
                  rotate_left
                  · intro w'
                    go_simp
                    with_reducible rfl
                  rotate_left
                  · simp only [Act.put, List.setIfInBounds_toArray, List.set_cons_zero, List.set_cons_succ, i64_w, i32_w]
                    rfl
                  refine pure_ (i := 8) (N := some 62) (v := ?_) (a' := ?_) #[true, false, true, true, false, true, false, false, true, false, false, false, false] rfl rfl (by kernel_rfl) (fun _ _ _ h => h) (Or.inl ⟨by rfl, ?_⟩) ?_ ?_
                  rotate_left
                  · intro w'
                    go_simp
                    with_reducible rfl
                  rotate_left
                  · simp only [Act.put, List.setIfInBounds_toArray, List.set_cons_zero, List.set_cons_succ, i64_w, i32_w]
                    rfl
                  refine take_ (i := 1) (N := some 55) (v := ?_) (a' := ?_) #[true, true, true, true, false, true, false, false, true, false, false, false, false] rfl rfl (by kernel_rfl) (fun _ _ _ h => h) (Or.inl ⟨by rfl, ?_⟩) hHeld ?_ ?_
                  rotate_left
                  · rintro w' ⟨s0, s1⟩
                    go_simp
                    with_reducible rfl
                  rotate_left
                  · simp only [Act.put, List.setIfInBounds_toArray, List.set_cons_zero, List.set_cons_succ, i64_w, i32_w]
                    rfl
                  refine take_ (i := 4) (N := some 58) (v := ?_) (a' := ?_) #[true, true, true, true, true, true, false, false, true, false, false, false, false] rfl rfl (by kernel_rfl) (fun _ _ _ h => h) (Or.inl ⟨by rfl, ?_⟩) hHeld ?_ ?_
                  rotate_left
                  · rintro w' ⟨s0, s1⟩
                    go_simp
                    with_reducible rfl
                  rotate_left
                  · simp only [Act.put, List.setIfInBounds_toArray, List.set_cons_zero, List.set_cons_succ, i64_w, i32_w]
                    rfl
                  refine pure_ (i := 6) (N := some 60) (v := ?_) (a' := ?_) #[true, true, true, true, true, true, true, false, true, false, false, false, false] rfl rfl (by kernel_rfl) (fun _ _ _ h => h) (Or.inl ⟨by rfl, ?_⟩) ?_ ?_
                  rotate_left
                  · intro w'
                    go_simp
                    with_reducible rfl
                  rotate_left
                  · simp only [Act.put, List.setIfInBounds_toArray, List.set_cons_zero, List.set_cons_succ, i64_w, i32_w]
                    rfl
                  refine take_ (i := 7) (N := some 61) (v := ?_) (a' := ?_) #[true, true, true, true, true, true, true, true, true, false, false, false, false] rfl rfl (by kernel_rfl) (fun _ _ _ h => h) (Or.inl ⟨by rfl, ?_⟩) hHeld ?_ ?_
                  rotate_left
                  · rintro w' ⟨s0, s1⟩
                    go_simp
                    with_reducible rfl
                  rotate_left
                  · simp only [Act.put, List.setIfInBounds_toArray, List.set_cons_zero, List.set_cons_succ, i64_w, i32_w]
                    rfl
                  refine one_ (i := 9) (N := some 63) #[true, true, true, true, true, true, true, true, true, true, false, false, false] rfl rfl (by kernel_rfl) (by decide) (fun K hK => ?_)
                  refine value_ (w1 := ?_) (v := ?_) (by rfl) rfl ?_ ?_
                  rotate_left 2
                  · go_simp
                    constructor
                    · rfl
                    · rfl
                  refine hK.out _ _ ⟨pw_cell_below (below_alloc (Below.refl _ _) _) kp1, pw_cell_below (below_alloc (Below.refl _ _) _) hcx⟩ (fun hHeld => ?_)
                  clear hK K
                  refine norm_ (a' := ?_) ?_ ?_
                  rotate_left
                  · show Act.put _ (some 63) _ = _
                    simp only [Act.put, List.setIfInBounds_toArray, List.set_cons_zero, List.set_cons_succ, i64_w, i32_w]
                    rfl
                  refine one_ (i := 10) (N := some 64) #[true, true, true, true, true, true, true, true, true, true, true, false, false] rfl rfl (by kernel_rfl) (by decide) (fun K hK => ?_)
                  refine Kd.R_append_step (Kd.int .i64) (w0 := w) w.heap.size rfl (.tmp 61) (.tmp 63) 29 3 (.int .i64 0) 8 rfl Try.underlying29 info3 rfl (by decide) (by omega) (.slice Ax (rd_L1 prev1 b).length cx) (rd_L1 prev1 b) (j : Int) [.int .i64 (j : Int)] oka (fun _ => False) rfl rfl rfl (fun _ hk => hk.elim) HFRX.out HRX.out HBD.out HBD.out.size (by have := HLM2.out; omega) ?_
                  intro v1 w9 ho hb hg hat
                  obtain ⟨⟨cq1, fq1, kq1⟩, hG9⟩ := HEND.out v1 w9 _ ho hb hg
                  rw [EAP.out] at kq1
                  obtain ⟨A9', c9', rfl⟩ := Kd.R_slice ho
                  simp only [List.length_append, List.length_cons, List.length_nil, Nat.zero_add] at hG9
                  have HG9 := Aside0.mk hG9
                  clear hG9 ho hb hg hat
                  refine hK.out _ _ ⟨kq1, cq1⟩ (fun hHeld => ?_)
                  clear hK K
                  refine norm_ (a' := ?_) ?_ ?_
                  rotate_left
                  · show Act.put _ (some 64) _ = _
                    simp only [Act.put, List.setIfInBounds_toArray, List.set_cons_zero, List.set_cons_succ, i64_w, i32_w]
                    rfl
                  refine pure_ (i := 11) (N := some 65) (v := ?_) (a' := ?_) #[true, true, true, true, true, true, true, true, true, true, true, true, false] rfl rfl (by kernel_rfl) (fun _ _ _ h => h) (Or.inl ⟨by rfl, ?_⟩) ?_ ?_
                  rotate_left
                  · intro w'
                    go_simp
                    with_reducible rfl
                  rotate_left
                  · simp only [Act.put, List.setIfInBounds_toArray, List.set_cons_zero, List.set_cons_succ, i64_w, i32_w]
                    rfl
                  refine last_ (i := 12) (N := none) #[true, true, true, true, true, true, true, true, true, true, true, true, true] rfl rfl (by kernel_rfl) (by decide) (fun K hK => ?_)
                  refine skip_ (w1 := ?_) (by rfl) rfl ?_ ?_
                  rotate_left
                  · go_simp
                    rfl
                  refine hK.out _ _ ?_
                  clear hK K
                  refine done_ (by kernel_rfl) ?_
                  go_wp2_with fail
                  go_roundw
                  case rel => exact ⟨q + 1, _, by omega, by go_num, HE, HG9⟩
                  case measure => simp [intOf]; omega
                · rw [if_neg hl2] at he; exact absurd he (by simp)
              · rw [if_neg hin] at he
                have HE := Aside0.mk he
                clear he
                by_cases b0 : 0 ≤ b
                · have b1 : ¬ b < (l0.length : Int) := fun h => hin ⟨b0, h⟩
                  clear hin
                  go_wp2_with fail
                  go_roundw
                  case rel => exact ⟨q + 1, prev1, by omega, by go_num, HE, HI⟩
                  case measure => simp [intOf]; omega
                · clear hin
                  go_wp2_with fail
                  go_roundw
                  case rel => exact ⟨q + 1, prev1, by omega, by go_num, HE, HI⟩
                  case measure => simp [intOf]; omega
            · have he := HE.out
              rw [List.drop_eq_nil_of_le (by omega)] at he
              simp only [addE, Option.some.injEq] at he
              subst he
              go_wp2_with fail
              go_roundw
              case rel => exact ⟨j + 1, _, _, _, A9, c9, by omega, by go_num, HG, HROW, by rw [List.length_append]; exact HI⟩
              case measure => simp [intOf]; omega
        · rw [if_neg hlm] at hg; exact absurd hg (by simp)
      · have hg := HG.out
        rw [List.drop_eq_nil_of_le (by omega)] at hg
        simp only [graphL, Option.some.injEq, Prod.mk.injEq] at hg
        obtain ⟨rfl, rfl⟩ := hg
        have hbx := HI.out
        obtain ⟨kg0, kg1⟩ := HI.out.box
        have kz0 : wr.cell? ⟨w.heap.size, 0, none⟩ = some (.slice none 0 0) := (blk_cell HI.out.2.2.1 0).trans rfl
        have kz1 : wr.cell? ⟨w.heap.size, 1, none⟩ = some (.slice none 0 0) := (blk_cell HI.out.2.2.1 1).trans rfl
        have fz0 : wr.frozen? ⟨w.heap.size, 0, none⟩ = false := blk_frozen HI.out.2.2.1 0
        have fz1 : wr.frozen? ⟨w.heap.size, 1, none⟩ = false := blk_frozen HI.out.2.2.1 1
        clear hbx
        go_wp2_with fail
        obtain ⟨hx, hN1, hN2, hB⟩ := HI.out.finish HRW.out
        exact bodyPost_ret (results_cell_row rfl _ _ w.heap.size 25 #[.slice Ab bl.length cb, .slice Ap l0.length cp] (0, 0) _ rfl hx Try.underlying25 rfl (by kernel_rfl)) rfl ⟨_, _, rfl, hN1, hN2, hB⟩
  · rw [if_neg hlim] at h; exact absurd h (by simp)

end Go.Proofs.Ytnkbmpdghjhlfaa.P
