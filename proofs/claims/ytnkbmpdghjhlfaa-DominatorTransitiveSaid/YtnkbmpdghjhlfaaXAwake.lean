/- The contract of ontimelaw25.awake: the chapter's example. -/
import Derived.Test.YtnkbmpdghjhlfaaPx0
import Derived.Test.YtnkbmpdghjhlfaaXGraph
import Derived.Outline
namespace Go.Proofs.Ytnkbmpdghjhlfaa.P
open Go.RowKit Go.Proofs.YtnkbmpdghjhlfaaW.PrintWords Go.Proofs.YtnkbmpdghjhlfaaW.PrintLast Go.Proofs.YtnkbmpdghjhlfaaW.PrintMore
attribute [local go_sem] max2_int min2_int max_two min_two max_three min_three max_four min_four
set_option linter.unusedVariables false
set_option linter.unusedSimpArgs false


/-- A list of numbers written out in a new block. -/
theorem lit_C (W : World) (xs : List Int) (hm : xs.length ≤ 9223372036854775807) : Kd.C (Kd.int .i64) (W.alloc (.cells (nums .i64 xs).toArray 3)) (some ⟨W.heap.size, 0, none⟩) xs.length xs := by
  refine ⟨rfl, hm, fun _ => ⟨_, rfl, fun j p hj => ⟨[.int .i64 p], rfl, rfl, fun i u hu => ?_⟩⟩⟩
  have hi : i = 0 := by
    have := (List.getElem?_eq_some_iff.1 hu).1
    simp at this
    omega
  subst hi
  simp at hu
  subst hu
  rw [show (Kd.int .i64).sz = 1 from rfl, Nat.mul_one, Nat.add_zero, add_plain, blk_cell (blk_new W _)]
  simp [nums, hj]
def awG : List (List Int) := [[1, 2], [3], [3], []]
def awB : List S46 := [⟨0, 1, [1, 2]⟩, ⟨1, 2, [3]⟩, ⟨2, 3, [3]⟩, ⟨3, 4, []⟩]
def awP : List (List Int) := [[], [0], [0], [1, 2]]
theorem aw1 : ontimelaw25_Graph.f awG = some (awB, awP) := by kernel_rfl
theorem aw2 : dominator_Frontier.f 30 awB awP = some [[], [3], [3], []] := by kernel_rfl
theorem aw3 : cfg_Valid.f 30 awB awP = some true := by kernel_rfl
theorem aw4 : dominator_Tree.f 30 awB awP = some [-1, 0, 0, 0] := by kernel_rfl
theorem aw5 : dominator_Order.f 30 awB awP = some [0, 2, 1, 3] := by kernel_rfl
def ontimelaw25_awake.f : Option Bool := some true

theorem aw_V (W : World) : Kd.V (Kd.slice 3 (Kd.int .i64)) 29 ((((W.alloc (.cells #[.int .i64 1, .int .i64 2] 3)).alloc (.cells #[.int .i64 3] 3)).alloc (.cells #[.int .i64 3] 3)).alloc (.cells #[.slice (some ⟨W.heap.size, 0, none⟩) 2 2, .slice (some ⟨W.heap.size + 1, 0, none⟩) 1 1, .slice (some ⟨W.heap.size + 2, 0, none⟩) 1 1, .slice none 0 0] 29)) ((((W.alloc (.cells #[.int .i64 1, .int .i64 2] 3)).alloc (.cells #[.int .i64 3] 3)).alloc (.cells #[.int .i64 3] 3)).alloc (.cells #[.slice (some ⟨W.heap.size, 0, none⟩) 2 2, .slice (some ⟨W.heap.size + 1, 0, none⟩) 1 1, .slice (some ⟨W.heap.size + 2, 0, none⟩) 1 1, .slice none 0 0] 29)).heap.size (fun k_ => True) (.slice (some ⟨W.heap.size + 3, 0, none⟩) awG.length 4) awG := by
  have c0 := lit_C W [1, 2] (by decide)
  have c1 := lit_C (W.alloc (.cells #[.int .i64 1, .int .i64 2] 3)) [3] (by decide)
  have c2 := lit_C ((W.alloc (.cells #[.int .i64 1, .int .i64 2] 3)).alloc (.cells #[.int .i64 3] 3)) [3] (by decide)
  simp only [World.size_alloc] at c1 c2
  refine Kd.V_mk (by decide) (Kd.F_mono (Kd.C_F (Kd.heap_slice 3 (Kd.heap_int .i64)) ⟨rfl, by decide, fun _ => ⟨_, rfl, fun j p hj => ?_⟩⟩) (fun _ _ => trivial))
  have hcell : ∀ i u, (#[Value.slice (some ⟨W.heap.size, 0, none⟩) 2 2, .slice (some ⟨W.heap.size + 1, 0, none⟩) 1 1, .slice (some ⟨W.heap.size + 2, 0, none⟩) 1 1, .slice none 0 0] : Array Value)[i]? = some u → ((((W.alloc (.cells #[.int .i64 1, .int .i64 2] 3)).alloc (.cells #[.int .i64 3] 3)).alloc (.cells #[.int .i64 3] 3)).alloc (.cells #[.slice (some ⟨W.heap.size, 0, none⟩) 2 2, .slice (some ⟨W.heap.size + 1, 0, none⟩) 1 1, .slice (some ⟨W.heap.size + 2, 0, none⟩) 1 1, .slice none 0 0] 29)).cell? ⟨W.heap.size + 3, i, none⟩ = some u := by
    intro i u hu
    have h := blk_new (((W.alloc (.cells #[.int .i64 1, .int .i64 2] 3)).alloc (.cells #[.int .i64 3] 3)).alloc (.cells #[.int .i64 3] 3)) (.cells #[.slice (some ⟨W.heap.size, 0, none⟩) 2 2, .slice (some ⟨W.heap.size + 1, 0, none⟩) 1 1, .slice (some ⟨W.heap.size + 2, 0, none⟩) 1 1, .slice none 0 0] 29 (0, 0))
    simp only [World.size_alloc] at h
    rw [blk_cell h]
    exact hu
  have one : ∀ (c : List Value) (v : Value), c = [v] → (#[Value.slice (some ⟨W.heap.size, 0, none⟩) 2 2, .slice (some ⟨W.heap.size + 1, 0, none⟩) 1 1, .slice (some ⟨W.heap.size + 2, 0, none⟩) 1 1, .slice none 0 0] : Array Value)[j]? = some v → ∀ i u, c[i]? = some u → ((((W.alloc (.cells #[.int .i64 1, .int .i64 2] 3)).alloc (.cells #[.int .i64 3] 3)).alloc (.cells #[.int .i64 3] 3)).alloc (.cells #[.slice (some ⟨W.heap.size, 0, none⟩) 2 2, .slice (some ⟨W.heap.size + 1, 0, none⟩) 1 1, .slice (some ⟨W.heap.size + 2, 0, none⟩) 1 1, .slice none 0 0] 29)).cell? ((⟨W.heap.size + 3, 0, none⟩ : Addr).add (j * (Kd.slice 3 (Kd.int .i64)).sz + i)) = some u := by
    rintro c v rfl hv i u hu
    have hi : i = 0 := by
      have := (List.getElem?_eq_some_iff.1 hu).1
      simp at this
      omega
    subst hi
    simp at hu
    subst hu
    rw [show (Kd.slice 3 (Kd.int .i64)).sz = 1 from rfl, Nat.mul_one, Nat.add_zero, add_plain]
    exact hcell j v hv
  match j, hj with
  | 0, hj =>
    obtain rfl : p = [1, 2] := by simpa [awG] using hj.symm
    exact ⟨_, rfl, ⟨_, 2, rfl, by decide, Kd.C_alloc (Kd.C_alloc (Kd.C_alloc c0 _) _) _⟩, one _ _ rfl rfl⟩
  | 1, hj =>
    obtain rfl : p = [3] := by simpa [awG] using hj.symm
    exact ⟨_, rfl, ⟨_, 1, rfl, by decide, Kd.C_alloc (Kd.C_alloc c1 _) _⟩, one _ _ rfl rfl⟩
  | 2, hj =>
    obtain rfl : p = [3] := by simpa [awG] using hj.symm
    exact ⟨_, rfl, ⟨_, 1, rfl, by decide, Kd.C_alloc c2 _⟩, one _ _ rfl rfl⟩
  | 3, hj =>
    obtain rfl : p = [] := by simpa [awG] using hj.symm
    exact ⟨_, rfl, ⟨none, 0, rfl, by decide, Kd.C_nil _ _⟩, one _ _ rfl rfl⟩
  | j + 4, hj => simp [awG] at hj
theorem ontimelaw25_awake.calls (r : Bool) (w : World) (h : ontimelaw25_awake.f = some r) :
    Calls Try.prog 12 #[] w fun e w' => e = .returned (.bool r) ∧ Below w.heap.size w w' := by
  obtain rfl : r = true := by simpa [ontimelaw25_awake.f] using h.symm
  clear h
  go_enter Try.func12, Try.ntmps12
  go_wp2_with fail
  refine (ontimelaw25_Graph.calls _ _ _ _ _ _ _ (aw_V w) aw1).mono ?_
  rintro e w31 ⟨v0, v1, rfl, hN0, hN1, hB⟩
  obtain ⟨A0, c0, rfl⟩ := Kd.N_slice hN0
  obtain ⟨A1, c1, rfl⟩ := Kd.N_slice hN1
  have hB1 : Below w.heap.size w w31 := by
    exact below_step (below_alloc (below_alloc (below_alloc (below_alloc (Below.refl _ _) _) _) _) _) hB
  have hC0 := (Kd.N_reads' hN0).2
  have hC1 := (Kd.N_reads' hN1).2
  have HC := Aside0.mk (And.intro hC0 hC1)
  have HB := Aside0.mk hB1
  clear hN0 hN1 hB hC0 hC1 hB1
  dsimp only
  go_wp2_with fail
  refine (dominator_Frontier.calls 30 _ _ _ _ _ _ _ _ (Kd.C_alloc HC.out.1.2 _) HC.out.1.1 (Kd.C_alloc HC.out.2.2 _) HC.out.2.1 aw2).mono ?_
  rintro e w36 ⟨v0, rfl, hS, hBe⟩
  have HB2 := Aside0.mk (below_step (below_alloc HB.out _) hBe)
  have hb1 := blk_below (blk_new w31 (.cells #[Value.slice A0 awB.length c0, Value.slice A1 awP.length c1] 25)) hBe
  have hC0 := Aside0.mk (Kd.C_below (Kd.C_alloc HC.out.1.2 _) hBe)
  have hC1 := Aside0.mk (Kd.C_below (Kd.C_alloc HC.out.2.2 _) hBe)
  have hc0 := HC.out.1.1
  have hc1 := HC.out.2.1
  obtain ⟨A2, c2, rfl⟩ := Kd.S_slice hS
  have hCF := Aside0.mk (Kd.S_reads' hS)
  clear hS hBe HC HB
  have hx0 : w36.cell? ⟨w31.heap.size, 0, none⟩ = some (.slice A0 awB.length c0) := by rw [blk_cell hb1]; rfl
  have hx1 : w36.cell? ⟨w31.heap.size, 1, none⟩ = some (.slice A1 awP.length c1) := by rw [blk_cell hb1]; rfl
  dsimp only
  go_wp2_with fail
  refine (cfg_Valid.calls 30 _ _ _ _ _ _ _ _ hC0.out hc0 hC1.out hc1 aw3).mono ?_
  rintro e w37 ⟨rfl, hBe⟩
  have HB3 := Aside0.mk (below_step HB2.out hBe)
  have hb2 := blk_below hb1 hBe
  have hC0' := Aside0.mk (Kd.C_below hC0.out hBe)
  have hC1' := Aside0.mk (Kd.C_below hC1.out hBe)
  have hCF' := Aside0.mk (And.intro hCF.out.2.1 (Kd.C_below hCF.out.2.2 hBe))
  clear hBe HB2 hC0 hC1 hCF hb1 hx0 hx1
  have hx0 : w37.cell? ⟨w31.heap.size, 0, none⟩ = some (.slice A0 awB.length c0) := by rw [blk_cell hb2]; rfl
  have hx1 : w37.cell? ⟨w31.heap.size, 1, none⟩ = some (.slice A1 awP.length c1) := by rw [blk_cell hb2]; rfl
  dsimp only
  go_wp2_with fail
  refine (dominator_Tree.calls 30 _ _ _ _ _ _ _ _ hC0'.out hc0 hC1'.out hc1 aw4).mono ?_
  rintro e w38 ⟨v0, rfl, hS, hBe⟩
  have HB4 := Aside0.mk (below_step HB3.out hBe)
  have hb1 := blk_below hb2 hBe
  have hC0 := Aside0.mk (Kd.C_below hC0'.out hBe)
  have hC1 := Aside0.mk (Kd.C_below hC1'.out hBe)
  have hCF := Aside0.mk (And.intro hCF'.out.1 (Kd.C_below hCF'.out.2 hBe))
  obtain ⟨A3, c3, rfl⟩ := Kd.R_slice hS
  have hCT := Aside0.mk (Kd.R_reads' hS)
  clear hBe HB3 hC0' hC1' hCF' hb2 hx0 hx1 hS
  have hx0 : w38.cell? ⟨w31.heap.size, 0, none⟩ = some (.slice A0 awB.length c0) := by rw [blk_cell hb1]; rfl
  have hx1 : w38.cell? ⟨w31.heap.size, 1, none⟩ = some (.slice A1 awP.length c1) := by rw [blk_cell hb1]; rfl
  dsimp only
  go_wp2_with fail
  refine (ontimeref25_Ints.calls 30 _ _ _ _ _ _ true _ (Kd.C_alloc hCT.out.2.2 _) hCT.out.2.1 (lit_C w38 [-1, 0, 0, 0] (by decide)) (Nat.le_refl _) (by kernel_rfl)).mono ?_
  rintro e w39 ⟨rfl, hD⟩
  have hBe : Below w38.heap.size w38 w39 := by
    obtain ⟨n, rfl⟩ := hD
    exact pw_below_drewN (below_alloc (Below.refl _ _) _) n
  have HB5 := Aside0.mk (below_step HB4.out hBe)
  have hb2 := blk_below hb1 hBe
  have hC0' := Aside0.mk (Kd.C_below hC0.out hBe)
  have hC1' := Aside0.mk (Kd.C_below hC1.out hBe)
  have hCF' := Aside0.mk (And.intro hCF.out.1 (Kd.C_below hCF.out.2 hBe))
  clear hBe HB4 hC0 hC1 hCF hb1 hx0 hx1 hD hCT
  have hx0 : w39.cell? ⟨w31.heap.size, 0, none⟩ = some (.slice A0 awB.length c0) := by rw [blk_cell hb2]; rfl
  have hx1 : w39.cell? ⟨w31.heap.size, 1, none⟩ = some (.slice A1 awP.length c1) := by rw [blk_cell hb2]; rfl
  dsimp only
  go_wp2_with fail
  refine (dominator_Order.calls 30 _ _ _ _ _ _ _ _ hC0'.out hc0 hC1'.out hc1 aw5).mono ?_
  rintro e w40 ⟨v0, rfl, hS, hBe⟩
  have HB4 := Aside0.mk (below_step HB5.out hBe)
  have hCF := Aside0.mk (And.intro hCF'.out.1 (Kd.C_below hCF'.out.2 hBe))
  obtain ⟨A4, c4, rfl⟩ := Kd.R_slice hS
  have hCT := Aside0.mk (Kd.R_reads' hS)
  clear hBe HB5 hC0' hC1' hCF' hb2 hx0 hx1 hS
  dsimp only
  go_wp2_with fail
  refine (ontimeref25_Ints.calls 30 _ _ _ _ _ _ true _ (Kd.C_alloc hCT.out.2.2 _) hCT.out.2.1 (lit_C w40 [0, 2, 1, 3] (by decide)) (Nat.le_refl _) (by kernel_rfl)).mono ?_
  rintro e w41 ⟨rfl, hD⟩
  have hBe : Below w40.heap.size w40 w41 := by
    obtain ⟨n, rfl⟩ := hD
    exact pw_below_drewN (below_alloc (Below.refl _ _) _) n
  have HB5 := Aside0.mk (below_step HB4.out hBe)
  have hF := Kd.C_below hCF.out.2 hBe
  clear HB4 hCF hCT hD hBe
  obtain ⟨ad, Ar1, cr1, e1, hx1, hl1, hi1⟩ := at_L1 hF 1 (by decide) (by decide)
  subst e1
  have hx : w41.cell? ⟨ad.block, ad.off + 1, none⟩ = some (.slice Ar1 1 cr1) := hx1
  have HF := Aside0.mk hF
  have HI := Aside0.mk hi1
  have HL := Aside0.mk hl1
  clear hx1 hF hi1 hl1
  dsimp only
  go_wp2_with fail
  refine (ontimeref25_Ints.calls 30 _ _ [3] _ _ _ true _ (Kd.C_alloc HI.out _) HL.out (lit_C w41 [3] (by decide)) (Nat.le_refl _) (by kernel_rfl)).mono ?_
  rintro e w42 ⟨rfl, hD⟩
  have hBe : Below w41.heap.size w41 w42 := by
    obtain ⟨n, rfl⟩ := hD
    exact pw_below_drewN (below_alloc (Below.refl _ _) _) n
  have HB6 := Aside0.mk (below_step HB5.out hBe)
  have hF := Kd.C_below HF.out hBe
  clear HB5 HF HI HL hD hBe hx
  obtain ⟨ad1, Ar1, cr1, e1, hx1, hl1, hi1⟩ := at_L1 hF 2 (by decide) (by decide)
  obtain rfl : ad = ad1 := by simpa using e1
  have hx : w42.cell? ⟨ad.block, ad.off + 2, none⟩ = some (.slice Ar1 1 cr1) := hx1
  have HF := Aside0.mk hF
  have HI := Aside0.mk hi1
  have HL := Aside0.mk hl1
  clear hx1 hF hi1 hl1 e1
  dsimp only
  go_wp2_with fail
  refine (ontimeref25_Ints.calls 30 _ _ [3] _ _ _ true _ (Kd.C_alloc HI.out _) HL.out (lit_C w42 [3] (by decide)) (Nat.le_refl _) (by kernel_rfl)).mono ?_
  rintro e w43 ⟨rfl, hD⟩
  have hBe : Below w42.heap.size w42 w43 := by
    obtain ⟨n, rfl⟩ := hD
    exact pw_below_drewN (below_alloc (Below.refl _ _) _) n
  have HB7 := Aside0.mk (below_step HB6.out hBe)
  have hF := Kd.C_below HF.out hBe
  clear HB6 HF HI HL hD hBe hx
  obtain ⟨ad1, Ar1, cr1, e1, hx1, hl1, hi1⟩ := at_L1 hF 0 (by decide) (by decide)
  obtain rfl : ad = ad1 := by simpa using e1
  have hx : w43.cell? (ad.add 0) = some (.slice Ar1 0 cr1) := hx1
  rw [show ad.add 0 = ad by cases ad; simp [Addr.add]] at hx
  clear hx1 hF hi1 hl1 e1
  dsimp only
  go_wp2_with fail
  go_ret
  exact ⟨rfl, HB7.out⟩

end Go.Proofs.Ytnkbmpdghjhlfaa.P
