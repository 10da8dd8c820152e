/- The contract of ontimeref47.Fits and choose, which call each other. -/
import Derived.Test.YthdjhgidccmlfaaPx0
namespace Go.Proofs.Ythdjhgidccmlfaa.P
open Go.RowKit Go.Proofs.YthdjhgidccmlfaaW.PrintWords Go.Proofs.YthdjhgidccmlfaaW.PrintLast Go.Proofs.YthdjhgidccmlfaaW.PrintMore
attribute [local go_sem] max2_int min2_int max_two min_two max_three min_three max_four min_four
set_option linter.unusedVariables false
set_option linter.unusedSimpArgs false

def openJ (j : S85) : Bool := decide (0 < j.f2)
mutual
def fitsF : Nat → List S85 → Int → Int → Int → Option Bool
  | 0, _, _, _, _ => none
  | k + 1, l, cores, slot, until_ => if l.any openJ = true then (if until_ ≤ slot then some false else chooseF k l cores slot until_ 0 cores) else some true
def chooseF : Nat → List S85 → Int → Int → Int → Nat → Int → Option Bool
  | 0, _, _, _, _, _, _ => none
  | k + 1, l, cores, slot, until_, frm, free => if frm = l.length then fitsF k l cores (wrap64 (slot + 1)) until_ else
    if frm < l.length ∧ l.length ≤ 1000000 then
      (if 0 < free ∧ 0 < (rd_T85 l frm).f2 ∧ (rd_T85 l frm).f0 ≤ slot ∧ slot < (rd_T85 l frm).f1 then
        (chooseF k (l.set frm ⟨(rd_T85 l frm).f0, (rd_T85 l frm).f1, wrap64 ((rd_T85 l frm).f2 - 1)⟩) cores slot until_ (frm + 1) (wrap64 (free - 1))).bind fun b => if b = true then some true else chooseF k l cores slot until_ (frm + 1) free
      else chooseF k l cores slot until_ (frm + 1) free) else none
end
theorem fits_mono : ∀ k, (∀ l cores slot u, LeO (fitsF k l cores slot u) (fitsF (k + 1) l cores slot u)) ∧ ∀ l cores slot u frm free, LeO (chooseF k l cores slot u frm free) (chooseF (k + 1) l cores slot u frm free)
  | 0 => ⟨fun _ _ _ _ => by unfold fitsF; exact LeO.none _, fun _ _ _ _ _ _ => by unfold chooseF; exact LeO.none _⟩
  | k + 1 => by
    obtain ⟨i1, i2⟩ := fits_mono k
    refine ⟨fun l cores slot u => ?_, fun l cores slot u frm free => ?_⟩
    · rw [fitsF.eq_2, fitsF.eq_2]
      exact LeO.ite (LeO.ite (LeO.refl _) (i2 _ _ _ _ _ _)) (LeO.refl _)
    · rw [chooseF.eq_2, chooseF.eq_2]
      exact LeO.ite (i1 _ _ _ _) (LeO.ite (LeO.ite (LeO.bind (i2 _ _ _ _ _ _) (fun _ => LeO.ite (LeO.refl _) (i2 _ _ _ _ _ _))) (i2 _ _ _ _ _ _)) (LeO.refl _))
theorem take_any (l : List S85) (j : Nat) (h : j < l.length) : (l.take (j + 1)).any openJ = ((l.take j).any openJ || openJ (rd_T85 l (j : Int))) := by
  rw [List.take_succ_eq_append_getElem h, List.any_append]
  have : rd_T85 l (j : Int) = l[j] := by
    unfold rd_T85
    rw [Int.toNat_natCast, List.getD_eq_getElem?_getD, List.getElem?_eq_getElem h]
    rfl
  rw [this]
  simp
abbrev FitsC (k : Nat) : Prop := ∀ (A : Option Addr) (c : Nat) (l : List S85) (cores slot u : Int) (r : Bool) (w : World), Kd.C k85 w A l.length l → l.length ≤ c → fitsF k l cores slot u = some r →
  Calls Try.prog 53 #[.slice A l.length c, .int .i64 cores, .int .i64 slot, .int .i64 u] w fun e w' => e = .returned (.bool r) ∧ Below w.heap.size w w'
abbrev ChooseC (k : Nat) : Prop := ∀ (A : Option Addr) (c : Nat) (l : List S85) (cores slot u : Int) (frm : Nat) (free : Int) (r : Bool) (w : World), Kd.C k85 w A l.length l → l.length ≤ c → chooseF k l cores slot u frm free = some r →
  Calls Try.prog 75 #[.slice A l.length c, .int .i64 cores, .int .i64 slot, .int .i64 u, .int .i64 (frm : Int), .int .i64 free] w fun e w' => e = .returned (.bool r) ∧ Below w.heap.size w w'
set_option maxHeartbeats 4000000 in
set_option maxRecDepth 100000 in
theorem fits_step (k : Nat) (IC : ChooseC k) : FitsC (k + 1) := by
  intro A c l cores slot u r w hC hc h
  have hu85 := Try.underlying85
  have HC := Aside0.mk hC
  have Hc := Aside0.mk hc
  have H := Aside0.mk h
  have hlm : l.length ≤ 9223372036854775807 := hC.2.1
  clear hC hc h
  go_enter Try.func53, Try.ntmps53
  go_wp2_with fail
  go_loopw [9, 10] (fun v9 v10 wr => ∃ j : Nat, j ≤ l.length ∧ v10 = .int .i64 j ∧ v9 = .bool ((l.take j).any openJ) ∧ wr = w) (fun _ v10 _ => l.length - (intOf v10).toNat)
  case atStart => exact ⟨0, Nat.zero_le _, rfl, by simp, rfl⟩
  case round =>
    obtain ⟨j, hj, rfl, rfl, rfl⟩ := hrel
    by_cases hjl : j < l.length
    · obtain ⟨ad, rfl, x0, x1, x2⟩ := at_T85 HC.out j (by omega) (by omega)
      rw [Int.toNat_natCast] at x0 x1 x2
      have ht := take_any l j hjl
      by_cases e : 0 < (rd_T85 l (j : Int)).f2
      · have d := decide_eq_true e
        have d' : openJ (rd_T85 l (j : Int)) = true := d
        rw [d', Bool.or_true] at ht
        clear e d'
        go_wp2_with fail
        go_roundw
        case rel => exact ⟨j + 1, by omega, by go_num, by rw [ht], trivial⟩
        case measure => simp [intOf]; omega
      · have d := decide_eq_false e
        have d' : openJ (rd_T85 l (j : Int)) = false := d
        rw [d', Bool.or_false] at ht
        clear e d'
        go_wp2_with fail
        go_roundw
        case rel => exact ⟨j + 1, by omega, by go_num, by rw [ht], trivial⟩
        case measure => simp [intOf]; omega
    · obtain rfl : j = l.length := by omega
      rw [List.take_length]
      have h := H.out
      unfold fitsF at h
      clear H hjl
      by_cases ha : l.any openJ = true
      · rw [if_pos ha] at h
        rw [ha]
        by_cases hs : u ≤ slot
        · rw [if_pos hs] at h
          obtain rfl := Option.some.inj h
          have d := decide_eq_true hs
          clear h hs
          go_wp2_with fail
          go_ret
          exact ⟨rfl, Below.refl _ _⟩
        · rw [if_neg hs] at h
          have d := decide_eq_false hs
          have H := Aside0.mk h
          clear h hs
          go_wp2_with (go_at_call 75; refine (IC A c l cores slot u 0 cores r _ HC.out Hc.out H.out).mono ?_; rintro e w5 ⟨rfl, hb⟩; have HB5 := Aside0.mk hb; clear hb)
          go_ret
          exact ⟨rfl, HB5.out⟩
      · rw [if_neg ha] at h
        obtain rfl := Option.some.inj h
        have ha' : l.any openJ = false := by simpa using ha
        rw [ha']
        clear h ha ha'
        go_wp2_with fail
        go_ret
        exact ⟨rfl, Below.refl _ _⟩
set_option maxHeartbeats 8000000 in
set_option maxRecDepth 100000 in
theorem choose_step (k : Nat) (IF : FitsC k) (IC : ChooseC k) : ChooseC (k + 1) := by
  intro A c l cores slot u frm free r w hC hc h
  have hu85 := Try.underlying85
  have HC := Aside0.mk hC
  have Hc := Aside0.mk hc
  unfold chooseF at h
  have hlm : l.length ≤ 9223372036854775807 := hC.2.1
  clear hC hc
  by_cases e : frm = l.length
  · rw [if_pos e] at h
    have H := Aside0.mk h
    have d : ((frm : Int) == (l.length : Int)) = true := by rw [beq_iff_eq, e]
    clear h e
    go_enter Try.func75, Try.ntmps75
    go_wp2_with (go_at_call 53; with_reducible refine (IF A c l cores _ u r _ HC.out Hc.out H.out).mono ?_; rintro e w5 ⟨rfl, hb⟩; have HB5 := Aside0.mk hb; clear hb)
    go_ret
    exact ⟨rfl, HB5.out⟩
  · rw [if_neg e] at h
    have d : ((frm : Int) == (l.length : Int)) = false := by rw [beq_eq_false_iff_ne]; omega
    clear e
    split at h
    · rename_i hb
      obtain ⟨hf, hl6⟩ := hb
      obtain ⟨ad, rfl, x0, x1, x2⟩ := at_T85 HC.out frm (by omega) (by omega)
      rw [Int.toNat_natCast] at x0 x1 x2
      obtain ⟨j, hj⟩ : ∃ j, j = rd_T85 l (frm : Int) := ⟨_, rfl⟩
      rw [← hj] at h x0 x1 x2
      have H := Aside0.mk h
      have HJ := Aside0.mk hj
      clear h hj
      have i0 : (0 : Int) ≤ (frm : Int) := by omega
      have i1 : (frm : Int) < (l.length : Int) := by omega
      go_enter Try.func75, Try.ntmps75
      go_upto_region 4 with fail
      obtain ⟨gj, hgj⟩ : ∃ gj, gj = w.heap.size := ⟨_, rfl⟩
      rw [← hgj]
      have BJ := Aside0.mk (show (w.alloc (.cells #[.int .i64 j.f0, .int .i64 j.f1, .int .i64 j.f2] 85)).heap[gj]? = some (.cells #[.int .i64 j.f0, .int .i64 j.f1, .int .i64 j.f2] 85 (0, 0)) from by rw [hgj]; exact blk_new _ _)
      have HB := Aside0.mk (below_alloc (Below.refl w.heap.size w) (.cells #[.int .i64 j.f0, .int .i64 j.f1, .int .i64 j.f2] 85))
      clear hgj x0 x1 x2
      generalize w.alloc (.cells #[.int .i64 j.f0, .int .i64 j.f1, .int .i64 j.f2] 85) = w1 at BJ HB ⊢
      have bj0 : w1.cell? ⟨gj, 0, none⟩ = some (.int .i64 j.f0) := (blk_cell BJ.out 0).trans rfl
      have bj1 : w1.cell? ⟨gj, 1, none⟩ = some (.int .i64 j.f1) := (blk_cell BJ.out 1).trans rfl
      have bj2 : w1.cell? ⟨gj, 2, none⟩ = some (.int .i64 j.f2) := (blk_cell BJ.out 2).trans rfl
      have skip : ¬ (0 < free ∧ 0 < j.f2 ∧ j.f0 ≤ slot ∧ slot < j.f1) → chooseF k l cores slot u (frm + 1) free = some r := fun hn => by
        have h := H.out
        rw [if_neg hn] at h
        exact h
      by_cases g1 : 0 < free
      · have d1 := decide_eq_true g1
        by_cases g2 : 0 < j.f2
        · have d2 := decide_eq_true g2
          by_cases g3 : j.f0 ≤ slot
          · have d3 := decide_eq_true g3
            by_cases g4 : slot < j.f1
            · have d4 := decide_eq_true g4
              have h := H.out
              rw [if_pos ⟨g1, g2, g3, g4⟩] at h
              obtain ⟨b, hb1, hb2⟩ := Option.bind_eq_some_iff.1 h
              have H1 := Aside0.mk hb1
              have H2 := Aside0.mk hb2
              clear h H skip g1 g2 g3 g4 hb1 hb2
              go_upto_region 5 with fail
              clear d1 d2 d3 d4 bj0 bj1 bj2
              have HW1 := Aside0.mk (Below.refl w1.heap.size w1)
              go_upto_region 6 with (first
                | ((with_reducible refine gate_dst (N := 48) rfl ?_); (try (refine gate_guard (by rfl) ?_; dsimp only)); refine Kd.R_lit k85 (w0 := w1) w1.heap.size 85 ?hg (N := 48) ?hd (xs := ([] : List S85)) (inner := []) (ok := fun _ => True) (okp := fun _ => True) ?hr ?hp (fun _ hk => hk) trivial HW1.out (Nat.le_refl _) (by simp) ?_; (case hd => rfl); (case hg => rfl); (case hr => first | (go_simp; done) | (go_simp; rfl)); (case hp => exact (Reps.none _ _)); intro v12 w2 ho hb hg_ hnew_; have HO := Aside0.mk ho; have HB1 := Aside0.mk hb; clear ho hb hg_ hnew_)
                | ((with_reducible refine gate_builtin (b := .append) (xs := #[.tmp 48, .tmp 49]) rfl ?_); (try (refine gate_guard (by rfl) ?_; dsimp only)); at_builtin; refine Kd.R_append_rows k85 (w0 := w1) w1.heap.size rfl (.tmp 48) (.tmp 49) 86 85 (.agg #[.int .i64 0, .int .i64 0, .int .i64 0]) 24 rfl Try.underlying86 info85 rfl (by decide) (by omega) v12 [] l _ _ _ (fun _ => True) (fun _ => False) rfl rfl ?aO ?aR (fun _ _ h => h) (fun _ h => h.elim) ?aF ?aB ?aS ?aL ?_; (case aR => exact Kd.C_below HC.out (below_step HB.out HB1.out)); (case aB => exact HB1.out); (case aF => exact fun _ _ => trivial); (case aO => exact HO.out); (case aS => exact HB1.out.size); (case aL => simp only [List.length_nil]; omega); intro v14 w3 ho hb hg hat; have HM := Aside0.mk ho; have HB3 := Aside0.mk hb; clear ho hb hg hat HO HB1))
              rw [List.nil_append] at HM
              obtain ⟨g, cm, rfl, hgb, hgl, cells, hcells⟩ := Kd.R_form HM.out (by omega)
              obtain ⟨cc, hcl, hKM, hcc, hfr⟩ := Kd.R_elem HM.out z85 (frm : Int) (by omega) (by omega)
              have hsz : k85.sz = 3 := rfl
              rw [hsz, Int.toNat_natCast] at hcc hfr
              have hKM' : k85.M w3 w1.heap.size (fun k => True ∧ k ≠ g) (rd_T85 l (frm : Int)) cc := hKM
              rw [← HJ.out] at hKM'
              obtain ⟨c0, c1, rfl, rfl, c2, c3, rfl, rfl, rfl⟩ := hKM'
              have e2 : w3.cell? ⟨g, frm * 3 + 2, none⟩ = some (.int .i64 j.f2) := hcc 2 _ rfl
              have f2 : w3.frozen? ⟨g, frm * 3 + 2, none⟩ = false := hfr 2
              have HCC := Aside0.mk hcc
              have BJ3 := Aside0.mk (blk_below BJ.out HB3.out)
              have bj2 : w3.cell? ⟨gj, 2, none⟩ = some (.int .i64 j.f2) := (blk_cell BJ3.out 2).trans rfl
              clear hcc hfr hcells hcl hKM
              go_upto_region 7 with fail
              obtain ⟨hR4, hG4⟩ := Kd.R_seg (j := 2) (seg := [.int .i64 (wrap64 (j.f2 - 1))]) (x' := ⟨j.f0, j.f1, wrap64 (j.f2 - 1)⟩) (okp := fun _ => False) HM.out (frm : Int) i0 i1 (c := [.int .i64 j.f0, .int .i64 j.f1, .int .i64 j.f2]) rfl HCC.out (Nat.le_refl _) (k85_mkM w3 w1.heap.size (fun _ => False) ⟨j.f0, j.f1, wrap64 (j.f2 - 1)⟩) (fun _ h => h.elim)
              rw [Int.toNat_natCast] at hR4 hG4
              have hBB := Aside0.mk (HB3.out.grown hG4 HB3.out.size (fun k hk => by injection hk with hk; omega))
              have HR4 := Aside0.mk hR4
              have e4 : w3.setCells g (frm * k85.sz + 2) [.int .i64 (wrap64 (j.f2 - 1))] = w3.setCell ⟨g, frm * 3 + 2, none⟩ (.int .i64 (wrap64 (j.f2 - 1))) := rfl
              rw [e4] at HR4 hBB
              clear hR4 hG4 HM HB3 e4 e2 f2 HCC bj2 BJ BJ3
              generalize w3.setCell ⟨g, frm * 3 + 2, none⟩ (.int .i64 (wrap64 (j.f2 - 1))) = w4 at HR4 hBB ⊢
              obtain ⟨m, hm⟩ : ∃ m, m = l.set frm ⟨j.f0, j.f1, wrap64 (j.f2 - 1)⟩ := ⟨_, rfl⟩
              rw [← hm] at H1
              have hml : l.length = m.length := by rw [hm, List.length_set]
              have HR5 : Aside0 (k85.R 85 w4 w1.heap.size (fun _ => True) (.slice (some ⟨g, 0, none⟩) l.length cm) m) := ⟨by rw [hm]; exact HR4.out⟩
              rw [hml] at HR5
              have HCm := Aside0.mk (Kd.R_reads' HR5.out)
              have HBB2 := Aside0.mk (below_step HB.out hBB.out)
              rw [hml]
              rw [hml] at Hc HC hlm d i1
              have HLM := Aside0.mk hml
              clear HR4 HR5 hBB HB hm HW1 hgb hgl hml HJ
              cases b with
              | true =>
                obtain rfl : true = r := by have := H2.out; rw [if_pos rfl] at this; exact Option.some.inj this
                clear H2
                go_wp2_with (go_at_call 75; rw [show (frm : Int) + 1 = ((frm + 1 : Nat) : Int) from rfl]; with_reducible refine (IC (some ⟨g, 0, none⟩) cm m cores slot u (frm + 1) (wrap64 (free - 1)) true _ HCm.out.2.2 HCm.out.2.1 H1.out).mono ?_; rintro e w5 ⟨rfl, hb⟩; have HB5 := Aside0.mk (below_step HBB2.out hb); clear hb)
                go_ret
                exact ⟨rfl, HB5.out⟩
              | false =>
                have h2 := H2.out
                rw [if_neg (by simp)] at h2
                have H3 := Aside0.mk h2
                clear h2 H2
                rw [← HLM.out] at Hc HC
                go_wp2_with (first
                  | (go_at_call 75; rw [show (frm : Int) + 1 = ((frm + 1 : Nat) : Int) from rfl]; with_reducible refine (IC (some ⟨g, 0, none⟩) cm m cores slot u (frm + 1) (wrap64 (free - 1)) false _ HCm.out.2.2 HCm.out.2.1 H1.out).mono ?_; rintro e w5 ⟨rfl, hb⟩; have HB5 := Aside0.mk (below_step HBB2.out hb); clear hb HBB2)
                  | (go_at_call 75; rw [show (frm : Int) + 1 = ((frm + 1 : Nat) : Int) from rfl]; rw [← HLM.out]; with_reducible refine (IC (some ad) c l cores slot u (frm + 1) free r _ (Kd.C_below HC.out HB5.out) Hc.out H3.out).mono ?_; rintro e w6 ⟨rfl, hb⟩; have HB6 := Aside0.mk (below_step HB5.out hb); clear hb))
                go_ret
                exact ⟨rfl, HB6.out⟩
            · have d4 := decide_eq_false g4
              have H1 := Aside0.mk (skip (fun z => g4 z.2.2.2))
              clear skip H g1 g2 g3 g4
              go_wp2_with (go_at_call 75; rw [show (frm : Int) + 1 = ((frm + 1 : Nat) : Int) from rfl]; with_reducible refine (IC (some ad) c l cores slot u (frm + 1) free r _ (Kd.C_below HC.out HB.out) Hc.out H1.out).mono ?_; rintro e w5 ⟨rfl, hb⟩; have HB5 := Aside0.mk (below_step HB.out hb); clear hb)
              go_ret
              exact ⟨rfl, HB5.out⟩
          · have d3 := decide_eq_false g3
            have H1 := Aside0.mk (skip (fun z => g3 z.2.2.1))
            clear skip H g1 g2 g3
            go_wp2_with (go_at_call 75; rw [show (frm : Int) + 1 = ((frm + 1 : Nat) : Int) from rfl]; with_reducible refine (IC (some ad) c l cores slot u (frm + 1) free r _ (Kd.C_below HC.out HB.out) Hc.out H1.out).mono ?_; rintro e w5 ⟨rfl, hb⟩; have HB5 := Aside0.mk (below_step HB.out hb); clear hb)
            go_ret
            exact ⟨rfl, HB5.out⟩
        · have d2 := decide_eq_false g2
          have H1 := Aside0.mk (skip (fun z => g2 z.2.1))
          clear skip H g1 g2
          go_wp2_with (go_at_call 75; rw [show (frm : Int) + 1 = ((frm + 1 : Nat) : Int) from rfl]; with_reducible refine (IC (some ad) c l cores slot u (frm + 1) free r _ (Kd.C_below HC.out HB.out) Hc.out H1.out).mono ?_; rintro e w5 ⟨rfl, hb⟩; have HB5 := Aside0.mk (below_step HB.out hb); clear hb)
          go_ret
          exact ⟨rfl, HB5.out⟩
      · have d1 := decide_eq_false g1
        have H1 := Aside0.mk (skip (fun z => g1 z.1))
        clear skip H g1
        go_wp2_with (go_at_call 75; rw [show (frm : Int) + 1 = ((frm + 1 : Nat) : Int) from rfl]; with_reducible refine (IC (some ad) c l cores slot u (frm + 1) free r _ (Kd.C_below HC.out HB.out) Hc.out H1.out).mono ?_; rintro e w5 ⟨rfl, hb⟩; have HB5 := Aside0.mk (below_step HB.out hb); clear hb)
        go_ret
        exact ⟨rfl, HB5.out⟩
    · exact absurd h (by simp)
theorem fits_all : ∀ k, FitsC k ∧ ChooseC k
  | 0 => ⟨fun _ _ _ _ _ _ _ _ _ _ h => by unfold fitsF at h; exact absurd h (by simp), fun _ _ _ _ _ _ _ _ _ _ _ _ h => by unfold chooseF at h; exact absurd h (by simp)⟩
  | k + 1 => ⟨fits_step k (fits_all k).2, choose_step k (fits_all k).1 (fits_all k).2⟩
def ontimeref47_Fits.f (k : Nat) (l : List S85) (cores slot u : Int) : Option Bool := fitsF k l cores slot u
theorem ontimeref47_Fits.mono : ∀ a0 a1 a2 a3 k, LeO (ontimeref47_Fits.f k a0 a1 a2 a3) (ontimeref47_Fits.f (k + 1) a0 a1 a2 a3) := fun a0 a1 a2 a3 k => (fits_mono k).1 a0 a1 a2 a3
theorem ontimeref47_Fits.calls (k : Nat) (A0 : Option Addr) (c0 : Nat) (l0 : List S85) (a1 a2 a3 : Int) (r : Bool) (w : World) (hr0 : Kd.C k85 w A0 l0.length l0) (hc0 : l0.length ≤ c0) (h : ontimeref47_Fits.f k l0 a1 a2 a3 = some r) :
    Calls Try.prog 53 #[.slice A0 l0.length c0, .int .i64 a1, .int .i64 a2, .int .i64 a3] w fun e w' => e = .returned (.bool r) ∧ Below w.heap.size w w' := (fits_all k).1 A0 c0 l0 a1 a2 a3 r w hr0 hc0 h
end Go.Proofs.Ythdjhgidccmlfaa.P
