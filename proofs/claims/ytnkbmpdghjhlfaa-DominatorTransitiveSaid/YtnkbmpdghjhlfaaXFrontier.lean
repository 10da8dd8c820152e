/- The contract of dominator.Frontier. -/
import Derived.Test.YtnkbmpdghjhlfaaPx0
import Derived.Test.YtnkbmpdghjhlfaaXTree
import Derived.Test.YtnkbmpdghjhlfaaXDom
namespace Go.Proofs.Ytnkbmpdghjhlfaa.P
open Go.RowKit Go.Proofs.YtnkbmpdghjhlfaaW.PrintWords Go.Proofs.YtnkbmpdghjhlfaaW.PrintLast Go.Proofs.YtnkbmpdghjhlfaaW.PrintMore
attribute [local go_sem] max2_int min2_int max_two min_two max_three min_three max_four min_four
set_option linter.unusedVariables false
set_option linter.unusedSimpArgs false


/-! ### a row of rows: one element's row is appended to -/
abbrev RR (w : World) (base : Nat) (ok : Nat → Prop) (v : Value) (xs : List (List Int)) : Prop := Kd.S (Kd.slice 3 (Kd.int .i64)) 29 w base ok v xs
theorem elem_append {W : World} {base g n cap : Nat} {ok : Nat → Prop} {xs : List (List Int)} (hS : RR W base ok (.slice (some ⟨g, 0, none⟩) n cap) xs) (i : Int) (h0 : 0 ≤ i) (h1 : i < n) :
    ∃ (A : Option Addr) (c : Nat) (oka : Nat → Prop), W.cell? ⟨g, i.toNat, none⟩ = some (.slice A (rd_L1 xs i).length c) ∧ W.frozen? ⟨g, i.toNat, none⟩ = false ∧ (∀ k, W.heap.size ≤ k → ok k → oka k) ∧
      Kd.R (Kd.int .i64) 3 W base oka (.slice A (rd_L1 xs i).length c) (rd_L1 xs i) ∧ (∀ k, oka k → ok k) ∧
      ∀ (v1 : Value) (w1 : World) (ys : List Int), Kd.R (Kd.int .i64) 3 w1 base oka v1 ys → W.grownBy w1 (Value.slice A (rd_L1 xs i).length c).ownBlock →
        w1.cell? ⟨g, i.toNat, none⟩ = some (.slice A (rd_L1 xs i).length c) ∧ w1.frozen? ⟨g, i.toNat, none⟩ = false ∧ RR (w1.setCell ⟨g, i.toNat, none⟩ v1) base ok (.slice (some ⟨g, 0, none⟩) n cap) (xs.set i.toNat ys) ∧ w1.grownBy (w1.setCell ⟨g, i.toNat, none⟩ v1) (some g) := by
  obtain ⟨oki, c, hcl, hM, hcc, hfr, hoki, hH⟩ := Kd.S_elem hS ([] : List Int) i h0 h1
  obtain ⟨v, rfl, hR⟩ := hM
  obtain ⟨A, c, rfl⟩ := Kd.R_slice hR
  have hsz : (Kd.slice 3 (Kd.int .i64)).sz = 1 := rfl
  have hc0 := hcc 0 _ rfl
  have hf0 := hfr 0
  rw [hsz, Nat.mul_one, Nat.add_zero] at hc0 hf0
  refine ⟨A, c, fun k => oki k ∨ ok k ∧ W.heap.size ≤ k, hc0, hf0, fun k hk ho => .inr ⟨ho, hk⟩, Kd.R_mono hR (fun k hk => .inl hk), fun k hk => hk.elim (fun h => (hoki k h).1) (fun h => h.1), ?_⟩
  intro v1 w1 ys hv1 hg
  have hH1 := Kd.H_grown (Kd.H_widen hH) hg (fun k e => .inl (hR.1 k e))
  obtain ⟨rows, _, hraw, _, _, hcc1, _⟩ := Kd.H_raw hH1 h0 h1
  have hc1 := hcc1 0 _ rfl
  rw [hsz, Nat.mul_one, Nat.add_zero] at hc1
  obtain ⟨_, hf1⟩ := Kd.H_at hH1 h0 h1
  have hf1' := hf1 0
  rw [hsz, Nat.mul_one, Nat.add_zero] at hf1'
  have hone : ∀ q ∈ [v1], q.oneCell' = true := by
    intro q hq
    rw [List.mem_singleton.1 hq]
    exact (Kd.R_val hv1).2
  obtain ⟨hH2, hg2⟩ := Kd.H_seg hH1 h0 h1 (seg := [v1]) (j := 0) (by rw [hsz]; exact Nat.le_refl _) hone
  have e1 : w1.setCells g (i.toNat * (Kd.slice 3 (Kd.int .i64)).sz + 0) [v1] = w1.setCell ⟨g, i.toNat, none⟩ v1 := by
    rw [hsz, Nat.mul_one, Nat.add_zero]; rfl
  rw [e1] at hH2 hg2
  refine ⟨hc1, hf1', ?_, hg2⟩
  have hne : ∀ k, (oki k ∨ ok k ∧ W.heap.size ≤ k) → k ≠ g := by
    intro k hk he
    subst he
    obtain ⟨_, f, hR9⟩ := hH1
    exact (hR9.1 k (by simp [Value.ownBlock])).2 hk
  exact Kd.H_back hH2 (x' := ys) (okp := fun k => oki k ∨ ok k ∧ W.heap.size ≤ k) ⟨v1, rfl, Kd.R_far (p := ⟨g, i.toNat, none⟩) hv1 hne v1⟩ (fun k hk => hk)

/-! ### what Frontier computes -/
def inF (reached : List Bool) (idom : List Int) (a : Int) : List Int → Option Bool
  | [] => some false
  | p :: r => if 0 ≤ p ∧ p < (reached.length : Int) then (if rdOf false reached p = true ∧ domB idom a p = true then some true else inF reached idom a r) else none
def markL : List Int → List Bool → Option (List Bool)
  | [], reached => some reached
  | b :: r, reached => if 0 ≤ b ∧ b < (reached.length : Int) then markL r (reached.set b.toNat true) else none
def frB (reached : List Bool) (idom : List Int) (prev : List (List Int)) (a : Int) : Nat → Int → List (List Int) → Option (List (List Int))
  | 0, _, out => some out
  | d + 1, b, out => if a ≠ b ∧ domB idom a b = true then frB reached idom prev a d (b + 1) out else if 0 ≤ b ∧ b < (prev.length : Int) then (inF reached idom a (rd_L1 prev b)).bind fun y =>
      if y = true then (if 0 ≤ a ∧ a < (out.length : Int) ∧ (rd_L1 out a).length < 17592186044416 then frB reached idom prev a d (b + 1) (out.set a.toNat (rd_L1 out a ++ [b])) else none) else frB reached idom prev a d (b + 1) out else none
def frA (reached : List Bool) (idom : List Int) (prev : List (List Int)) (n : Nat) : Nat → Int → List (List Int) → Option (List (List Int))
  | 0, _, out => some out
  | d + 1, a, out => if 0 ≤ a ∧ a < (reached.length : Int) then (if rdOf false reached a = true then (frB reached idom prev a n 0 out).bind fun o => frA reached idom prev n d (a + 1) o else frA reached idom prev n d (a + 1) out) else none
def dominator_Frontier.f (k : Nat) (l0 : List S46) (l1 : List (List Int)) : Option (List (List Int)) :=
  (dominator_Tree.f k l0 l1).bind fun idom => if idom.length = 0 then some [] else if l0.length ≤ 11728124029610 ∧ 0 < l0.length then
    (dominator_Order.f k l0 l1).bind fun order => (markL order (List.replicate l0.length false)).bind fun reached => frA reached idom l1 l0.length l0.length 0 (List.replicate l0.length []) else none
theorem dominator_Frontier.mono : ∀ a0 a1 k, LeO (dominator_Frontier.f k a0 a1) (dominator_Frontier.f (k + 1) a0 a1) := by
  intro a0 a1 k
  unfold dominator_Frontier.f
  exact LeO.bind (dominator_Tree.mono _ _ _) fun o => LeO.ite (LeO.refl _) (LeO.ite (LeO.bind (dominator_Order.mono _ _ _) fun r => LeO.refl _) (LeO.refl _))

/-! ### the closure, and the search over it -/
/-- What the closure reads. -/
def Cl (gr gi ga rb cr ci : Nat) (Ai : Option Addr) (reached : List Bool) (idom : List Int) (a : Int) (w : World) : Prop :=
  w.heap[gr]? = some (.cells #[.slice (some ⟨rb, 0, none⟩) reached.length cr] 36 (0, 0)) ∧ w.heap[gi]? = some (.cells #[.slice Ai idom.length ci] 29 (0, 0)) ∧ w.heap[ga]? = some (.cells #[.int .i64 a] 3 (0, 0)) ∧
  Kd.C Kd.bool w (some ⟨rb, 0, none⟩) reached.length reached ∧ Kd.C (Kd.int .i64) w Ai idom.length idom ∧ idom.length ≤ ci
theorem Cl.below {gr gi ga rb cr ci : Nat} {Ai : Option Addr} {reached : List Bool} {idom : List Int} {a : Int} {w w1 : World} (h : Cl gr gi ga rb cr ci Ai reached idom a w) (hb : Below w.heap.size w w1) : Cl gr gi ga rb cr ci Ai reached idom a w1 :=
  ⟨blk_below h.1 hb, blk_below h.2.1 hb, blk_below h.2.2.1 hb, Kd.C_below h.2.2.2.1 hb, Kd.C_below h.2.2.2.2.1 hb, h.2.2.2.2.2⟩
theorem cell_bool {w : World} {b n : Nat} {xs : List Bool} (h : Kd.C Kd.bool w (some ⟨b, 0, none⟩) n xs) (i : Int) (h0 : 0 ≤ i) (h1 : i < n) : w.cell? ⟨b, i.toNat, none⟩ = some (.bool (rdOf false xs i)) := by
  obtain ⟨ad, ea, hx⟩ := Kd.at_bool h i h0 h1
  injection ea with ea
  subst ea
  rwa [add_plain] at hx
set_option maxHeartbeats 1000000 in
set_option maxRecDepth 100000 in
theorem fcl_calls (gr gi ga rb cr ci : Nat) (Ai : Option Addr) (reached : List Bool) (idom : List Int) (a p : Int) (y : Bool) (w : World) (h : Cl gr gi ga rb cr ci Ai reached idom a w) (h0 : 0 ≤ p) (h1 : p < (reached.length : Int)) (hy : (rdOf false reached p && domB idom a p) = y) :
    Calls Try.prog 33 #[.int .i64 p, .pointer (some ⟨gr, 0, none⟩), .pointer (some ⟨gi, 0, none⟩), .pointer (some ⟨ga, 0, none⟩)] w fun e w' => e = .returned (.bool y) ∧ Below w.heap.size w w' := by
  obtain ⟨e1, e2, e3, c1, c2, hci⟩ := h
  have k1 : w.cell? ⟨gr, 0, none⟩ = some (.slice (some ⟨rb, 0, none⟩) reached.length cr) := (blk_cell e1 0).trans rfl
  have k2 : w.cell? ⟨gi, 0, none⟩ = some (.slice Ai idom.length ci) := (blk_cell e2 0).trans rfl
  have k3 : w.cell? ⟨ga, 0, none⟩ = some (.int .i64 a) := (blk_cell e3 0).trans rfl
  have k4 := cell_bool c1 p h0 h1
  have C2 := Aside0.mk c2
  have HCI := Aside0.mk hci
  clear e1 e2 e3 c1 c2 hci
  cases hq : rdOf false reached p with
  | true =>
    rw [hq] at k4 hy
    rw [Bool.true_and] at hy
    subst hy
    clear hq
    go_enter Try.func33, Try.ntmps33
    go_wp2_with (go_at_call 19; refine (dom_calls Ai ci idom a p w C2.out HCI.out).mono ?_; rintro e w1 ⟨rfl, hb⟩; have HB := Aside0.mk hb; clear hb)
    go_ret
    exact ⟨rfl, HB.out⟩
  | false =>
    rw [hq] at k4 hy
    rw [Bool.false_and] at hy
    subst hy
    clear hq
    go_enter Try.func33, Try.ntmps33
    go_wp2_with fail
    go_ret
    exact ⟨rfl, Below.refl _ _⟩
set_option maxHeartbeats 1000000 in
set_option maxRecDepth 100000 in
theorem index_calls (gr gi ga rb cr ci : Nat) (Ai : Option Addr) (reached : List Bool) (idom : List Int) (a : Int) (A : Option Addr) (c : Nat) (l : List Int) (y : Bool) (w : World) (h : Cl gr gi ga rb cr ci Ai reached idom a w) (hr : Kd.C (Kd.int .i64) w A l.length l) (hy : inF reached idom a l = some y) :
    Calls Try.prog 39 #[.slice A l.length c, .func (Fn.func 33) #[] #[.pointer (some ⟨gr, 0, none⟩), .pointer (some ⟨gi, 0, none⟩), .pointer (some ⟨ga, 0, none⟩)]] w fun e w' => (∃ i : Int, e = .returned (.int .i64 i) ∧ decide (0 ≤ i) = y) ∧ Below w.heap.size w w' := by
  have hm : l.length ≤ 9223372036854775807 := hr.2.1
  have HC := Aside0.mk h
  have HR := Aside0.mk hr
  have HY := Aside0.mk hy
  clear h hr hy
  go_enter Try.func39, Try.ntmps39
  go_wp2_with fail
  go_loopw [5, 8] (fun _ i wr => ∃ j : Nat, j ≤ l.length ∧ i = .int .i64 j ∧ Aside0 (inF reached idom a (l.drop j) = some y) ∧ Aside0 (Below w.heap.size w wr)) (fun _ i _ => l.length - (intOf i).toNat)
  case atStart => exact ⟨0, Nat.zero_le _, rfl, HY, ⟨Below.refl _ _⟩⟩
  case round =>
    clear HY
    obtain ⟨j, hj, rfl, HY, HB⟩ := hrel
    by_cases hlt : j < l.length
    · have hY := HY.out
      rw [drop_rd l j hlt] at hY
      obtain ⟨p, hp⟩ : ∃ p, p = rd l (j : Int) := ⟨_, rfl⟩
      obtain ⟨ad, ea, hx⟩ := Kd.at_int (Kd.C_below HR.out HB.out) j (by omega) (by omega)
      subst ea
      rw [Int.toNat_natCast] at hx
      rw [← hp] at hY hx
      clear hp HY
      simp only [inF] at hY
      by_cases hin : 0 ≤ p ∧ p < (reached.length : Int)
      · rw [if_pos hin] at hY
        obtain ⟨p0, p1⟩ := hin
        by_cases hq : rdOf false reached p = true ∧ domB idom a p = true
        · rw [if_pos hq] at hY
          injection hY with hY
          subst hY
          have HQ := Aside0.mk (show (rdOf false reached p && domB idom a p) = true by rw [hq.1, hq.2]; rfl)
          clear hq
          go_wp2_with (go_at_call 33; refine (fcl_calls gr gi ga rb cr ci Ai reached idom a p true wr (HC.out.below HB.out) p0 p1 HQ.out).mono ?_; rintro e w1 ⟨rfl, hb⟩; have HB2 := Aside0.mk (below_step HB.out hb); clear hb)
          go_ret
          exact ⟨⟨_, rfl, by simp⟩, HB2.out⟩
        · rw [if_neg hq] at hY
          have HY := Aside0.mk hY
          have HQ := Aside0.mk (show (rdOf false reached p && domB idom a p) = false by
            cases h1 : rdOf false reached p <;> cases h2 : domB idom a p <;> simp_all)
          clear hq hY
          go_wp2_with (go_at_call 33; refine (fcl_calls gr gi ga rb cr ci Ai reached idom a p false wr (HC.out.below HB.out) p0 p1 HQ.out).mono ?_; rintro e w1 ⟨rfl, hb⟩; have HB2 := Aside0.mk (below_step HB.out hb); clear hb)
          go_roundw
          case rel => exact ⟨j + 1, by omega, by go_num, HY, HB2⟩
          case measure => simp [intOf]; omega
      · rw [if_neg hin] at hY; exact absurd hY (by simp)
    · have hY := HY.out
      rw [List.drop_eq_nil_of_le (by omega)] at hY
      simp only [inF, Option.some.injEq] at hY
      subst hY
      go_wp2_with fail
      go_ret
      exact ⟨⟨_, rfl, rfl⟩, HB.out⟩
set_option maxHeartbeats 1000000 in
theorem contains_calls (gr gi ga rb cr ci : Nat) (Ai : Option Addr) (reached : List Bool) (idom : List Int) (a : Int) (A : Option Addr) (c : Nat) (l : List Int) (y : Bool) (w : World) (h : Cl gr gi ga rb cr ci Ai reached idom a w) (hr : Kd.C (Kd.int .i64) w A l.length l) (hy : inF reached idom a l = some y) :
    Calls Try.prog 32 #[.slice A l.length c, .func (Fn.func 33) #[] #[.pointer (some ⟨gr, 0, none⟩), .pointer (some ⟨gi, 0, none⟩), .pointer (some ⟨ga, 0, none⟩)]] w fun e w' => e = .returned (.bool y) ∧ Below w.heap.size w w' := by
  have HC := Aside0.mk h
  have HR := Aside0.mk hr
  have HY := Aside0.mk hy
  clear h hr hy
  go_enter Try.func32, Try.ntmps32
  go_wp2_with (go_at_call 39; refine (index_calls gr gi ga rb cr ci Ai reached idom a A c l y w HC.out HR.out HY.out).mono ?_; rintro e w1 ⟨⟨i, rfl, hi⟩, hb⟩; have HB := Aside0.mk hb; have HI := Aside0.mk hi; clear hb hi)
  go_ret
  exact ⟨by rw [← HI.out]; rfl, HB.out⟩

/-- What Frontier leaves where it is. B: where the blocks of the result begin. -/
def FInv (w0 : World) (gg gr gi rb cr ci B : Nat) (Ai : Option Addr) (A0 : Option Addr) (c0 : Nat) (l0 : List S46) (A1 : Option Addr) (c1 : Nat) (l1 : List (List Int)) (reached : List Bool) (idom : List Int) (w : World) : Prop :=
  Below w0.heap.size w0 w ∧ w.heap[gg]? = some (.cells #[.slice A0 l0.length c0, .slice A1 l1.length c1] 25 (0, 0)) ∧ w.heap[gr]? = some (.cells #[.slice (some ⟨rb, 0, none⟩) reached.length cr] 36 (0, 0)) ∧
  w.heap[gi]? = some (.cells #[.slice Ai idom.length ci] 29 (0, 0)) ∧ Kd.R Kd.bool 4 w w0.heap.size (fun k => k < B) (.slice (some ⟨rb, 0, none⟩) reached.length cr) reached ∧ Kd.R (Kd.int .i64) 3 w w0.heap.size (fun k => k < B) (.slice Ai idom.length ci) idom ∧
  gg < B ∧ gr < B ∧ gi < B ∧ B ≤ w.heap.size
section
variable {w0 w w1 : World} {gg gr gi rb cr ci B : Nat} {Ai A0 : Option Addr} {c0 : Nat} {l0 : List S46} {A1 : Option Addr} {c1 : Nat} {l1 : List (List Int)} {reached : List Bool} {idom : List Int}
theorem FInv.step (h : FInv w0 gg gr gi rb cr ci B Ai A0 c0 l0 A1 c1 l1 reached idom w) (hb : Below w0.heap.size w0 w1) (hm : ∀ k, k < B → w1.heap[k]? = w.heap[k]?) (hs : w.heap.size ≤ w1.heap.size) : FInv w0 gg gr gi rb cr ci B Ai A0 c0 l0 A1 c1 l1 reached idom w1 := by
  obtain ⟨_, e1, e2, e3, h4, h5, b1, b2, b3, b4⟩ := h
  exact ⟨hb, (hm _ b1).trans e1, (hm _ b2).trans e2, (hm _ b3).trans e3, Kd.R_step h4 (fun k hk _ => hm k hk), Kd.R_step h5 (fun k hk _ => hm k hk), b1, b2, b3, Nat.le_trans b4 hs⟩
theorem FInv.below (h : FInv w0 gg gr gi rb cr ci B Ai A0 c0 l0 A1 c1 l1 reached idom w) (hb : Below w.heap.size w w1) : FInv w0 gg gr gi rb cr ci B Ai A0 c0 l0 A1 c1 l1 reached idom w1 :=
  h.step (below_step h.1 hb) (fun k hk => hb.block k (Nat.lt_of_lt_of_le hk h.2.2.2.2.2.2.2.2.2)) hb.size
theorem FInv.grown (h : FInv w0 gg gr gi rb cr ci B Ai A0 c0 l0 A1 c1 l1 reached idom w) {row : Option Nat} (hb : Below w0.heap.size w0 w1) (hg : w.grownBy w1 row) (hr : ∀ k, row = some k → B ≤ k) : FInv w0 gg gr gi rb cr ci B Ai A0 c0 l0 A1 c1 l1 reached idom w1 :=
  h.step hb (fun k hk => hg.block k (Nat.lt_of_lt_of_le hk h.2.2.2.2.2.2.2.2.2) (fun e => by have := hr k e.symm; omega)) hg.size
theorem FInv.drew (h : FInv w0 gg gr gi rb cr ci B Ai A0 c0 l0 A1 c1 l1 reached idom w) : FInv w0 gg gr gi rb cr ci B Ai A0 c0 l0 A1 c1 l1 reached idom w.drew := h.step (below_drew1 h.1) (fun _ _ => rfl) (Nat.le_refl _)
theorem FInv.storeM (h : FInv w0 gg gr gi rb cr ci B Ai A0 c0 l0 A1 c1 l1 reached idom w) (i : Int) (h0 : 0 ≤ i) (h1 : i < reached.length) :
    FInv w0 gg gr gi rb cr ci B Ai A0 c0 l0 A1 c1 l1 (reached.set i.toNat true) idom (w.setCell ⟨rb, i.toNat, none⟩ (.bool true)) := by
  obtain ⟨hb, e1, e2, e3, h4, h5, b1, b2, b3, b4⟩ := h
  obtain ⟨g, cp, ev, gb, gl, cells, hg⟩ := Kd.R_form h4 (by omega)
  injection ev with ea _ ec
  injection ea with ea
  injection ea with eg
  subst eg ec
  have hp := Kd.R_putg h4 i true
  refine ⟨below_set hb gb, blk_far e1 (blk_ne e1 hg (by decide)) _, ?_, blk_far e3 (blk_ne e3 hg (by decide)) _, ?_, Kd.R_over' h5 (Kd.R_typed h4) (by decide) hp.2, b1, b2, b3, ?_⟩
  · rw [List.length_set]; exact blk_far e2 (blk_ne e2 hg (by decide)) _
  · rw [List.length_set]; exact hp.1
  · exact Nat.le_trans b4 hp.2.size
theorem FInv.cellM (h : FInv w0 gg gr gi rb cr ci B Ai A0 c0 l0 A1 c1 l1 reached idom w) (i : Int) (h0 : 0 ≤ i) (h1 : i < reached.length) : w.cell? ⟨rb, i.toNat, none⟩ = some (.bool (rdOf false reached i)) ∧ w.frozen? ⟨rb, i.toNat, none⟩ = false :=
  Kd.R_celln false h.2.2.2.2.1 i h0 h1
theorem FInv.boxG (h : FInv w0 gg gr gi rb cr ci B Ai A0 c0 l0 A1 c1 l1 reached idom w) : w.cell? ⟨gg, 0, none⟩ = some (.slice A0 l0.length c0) ∧ w.cell? ⟨gg, 1, none⟩ = some (.slice A1 l1.length c1) := ⟨(blk_cell h.2.1 0).trans rfl, (blk_cell h.2.1 1).trans rfl⟩
theorem FInv.boxR (h : FInv w0 gg gr gi rb cr ci B Ai A0 c0 l0 A1 c1 l1 reached idom w) : w.cell? ⟨gr, 0, none⟩ = some (.slice (some ⟨rb, 0, none⟩) reached.length cr) := (blk_cell h.2.2.1 0).trans rfl
theorem FInv.boxI (h : FInv w0 gg gr gi rb cr ci B Ai A0 c0 l0 A1 c1 l1 reached idom w) : w.cell? ⟨gi, 0, none⟩ = some (.slice Ai idom.length ci) := (blk_cell h.2.2.2.1 0).trans rfl
theorem FInv.cl (h : FInv w0 gg gr gi rb cr ci B Ai A0 c0 l0 A1 c1 l1 reached idom w) {ga : Nat} {a : Int} (ha : w.heap[ga]? = some (.cells #[.int .i64 a] 3 (0, 0))) : Cl gr gi ga rb cr ci Ai reached idom a w :=
  ⟨h.2.2.1, h.2.2.2.1, ha, (Kd.R_reads' h.2.2.2.2.1).2.2, (Kd.R_reads' h.2.2.2.2.2.1).2.2, (Kd.R_reads' h.2.2.2.2.2.1).2.1⟩
end

theorem FInv.start {w w2 w3 w5 : World} {rb cr ci n : Nat} {Ai A0 : Option Addr} {c0 : Nat} {l0 : List S46} {A1 : Option Addr} {c1 : Nat} {l1 : List (List Int)} {idom : List Int} (hb2 : Below w.heap.size w w2) (he2 : w2.heap[w.heap.size]? = some (.cells #[.slice A0 l0.length c0, .slice A1 l1.length c1] 25 (0, 0))) (hlt : w.heap.size < w2.heap.size)
    (hi2 : Kd.R (Kd.int .i64) 3 w2 w.heap.size (fun _ => True) (.slice Ai idom.length ci) idom) (hb3 : Below (w2.alloc (.cells #[.slice Ai idom.length ci] 29)).heap.size (w2.alloc (.cells #[.slice Ai idom.length ci] 29)) w3)
    (hm3 : Kd.R Kd.bool 4 w3 (w2.alloc (.cells #[.slice Ai idom.length ci] 29)).heap.size (fun _ => True) (.slice (some ⟨rb, 0, none⟩) n cr) (List.replicate n false)) (hb5 : Below (w3.alloc (.cells #[.slice (some ⟨rb, 0, none⟩) n cr] 36)).heap.size (w3.alloc (.cells #[.slice (some ⟨rb, 0, none⟩) n cr] 36)) w5) :
    FInv w w.heap.size w3.heap.size w2.heap.size rb cr ci w5.heap.size Ai A0 c0 l0 A1 c1 l1 (List.replicate n false) idom w5 := by
  have s2 := hb2.size
  have s3 := hb3.size
  have s5 := hb5.size
  simp at s3 s5
  have b3 : Below w.heap.size w w3 := below_step (below_alloc hb2 _) hb3
  have b5 : Below w.heap.size w w5 := below_step (below_alloc b3 _) hb5
  refine ⟨b5, blk_below (blk_alloc (blk_below (blk_alloc he2 _) hb3) _) hb5, ?_, blk_below (blk_alloc (blk_below (blk_new w2 _) hb3) _) hb5, ?_, ?_, by omega, by omega, by omega, Nat.le_refl _⟩
  · rw [List.length_replicate]; exact blk_below (blk_new w3 _) hb5
  · rw [List.length_replicate]
    exact Kd.R_mono (Kd.R_bound (Kd.R_below (Kd.R_alloc (Kd.R_lower hm3 (Nat.le_trans s2 (by simp))) _) hb5)) (fun k hk => hk.2.2.1)
  · exact Kd.R_mono (Kd.R_bound (Kd.R_below (Kd.R_alloc (Kd.R_below (Kd.R_alloc hi2 _) hb3) _) hb5)) (fun k hk => hk.2.2.1)

theorem app_step {w0 W : World} {gg gr gi rb cr ci B g n cg ga : Nat} {Ai A0 : Option Addr} {c0 : Nat} {l0 : List S46} {A1 : Option Addr} {c1 : Nat} {l1 : List (List Int)} {reached : List Bool} {idom : List Int} {out : List (List Int)} {a : Int}
    (hF : FInv w0 gg gr gi rb cr ci B Ai A0 c0 l0 A1 c1 l1 reached idom W) (hS : RR W w0.heap.size (fun k => B ≤ k ∧ k ≠ ga) (.slice (some ⟨g, 0, none⟩) n cg) out) (ha : W.heap[ga]? = some (.cells #[.int .i64 a] 3 (0, 0))) (i : Int) (h0 : 0 ≤ i) (h1 : i < n) :
    ∃ (A : Option Addr) (c : Nat) (oka : Nat → Prop), W.cell? ⟨g, i.toNat, none⟩ = some (.slice A (rd_L1 out i).length c) ∧ W.frozen? ⟨g, i.toNat, none⟩ = false ∧ (∀ k, W.heap.size ≤ k → oka k) ∧ Kd.R (Kd.int .i64) 3 W w0.heap.size oka (.slice A (rd_L1 out i).length c) (rd_L1 out i) ∧
      ∀ (v1 : Value) (w1 : World) (ys : List Int), Kd.R (Kd.int .i64) 3 w1 w0.heap.size oka v1 ys → Below w0.heap.size w0 w1 → W.grownBy w1 (Value.slice A (rd_L1 out i).length c).ownBlock →
        (w1.cell? ⟨g, i.toNat, none⟩ = some (.slice A (rd_L1 out i).length c) ∧ w1.frozen? ⟨g, i.toNat, none⟩ = false ∧ w1.cell? ⟨ga, 0, none⟩ = some (.int .i64 a)) ∧ FInv w0 gg gr gi rb cr ci B Ai A0 c0 l0 A1 c1 l1 reached idom (w1.setCell ⟨g, i.toNat, none⟩ v1) ∧ RR (w1.setCell ⟨g, i.toNat, none⟩ v1) w0.heap.size (fun k => B ≤ k ∧ k ≠ ga) (.slice (some ⟨g, 0, none⟩) n cg) (out.set i.toNat ys) ∧ (w1.setCell ⟨g, i.toNat, none⟩ v1).heap[ga]? = some (.cells #[.int .i64 a] 3 (0, 0)) := by
  obtain ⟨A, c, oka, hc, hf, hfr, hR, hok, hend⟩ := elem_append hS i h0 h1
  have hgl := blk_lt ha
  have hB := hF.2.2.2.2.2.2.2.2.2
  refine ⟨A, c, oka, hc, hf, fun k hk => hfr k hk ⟨by omega, by omega⟩, hR, fun v1 w1 ys hv hb hg => ?_⟩
  obtain ⟨c1', f1', hS2, hg2⟩ := hend v1 w1 ys hv hg
  have hgB : B ≤ g := ((Kd.S_R hS).1 g (by simp [Value.ownBlock])).1
  have hgw : w0.heap.size ≤ g := Kd.S_base hS g (by simp [Value.ownBlock])
  have hF1 := hF.grown hb hg (fun k e => (hok k (hR.1 k e)).1)
  have hb2 : Below w0.heap.size w0 (w1.setCell ⟨g, i.toNat, none⟩ v1) := below_set hb hgw
  have ha1 : w1.heap[ga]? = some (.cells #[.int .i64 a] 3 (0, 0)) := blk_grown ha hg (fun e => (hok ga (hR.1 ga e.symm)).2 rfl)
  refine ⟨⟨c1', f1', (blk_cell ha1 0).trans rfl⟩, hF1.grown hb2 hg2 (fun k e => by injection e with e; omega), hS2, ?_⟩
  obtain ⟨cells, hcg⟩ := Kd.S_typed hS g (by simp [Value.ownBlock])
  have hne : ga ≠ g := blk_ne ha hcg (by decide)
  exact blk_far ha1 hne _
theorem RR.fresh {w : World} {base B : Nat} {v : Value} {xs : List (List Int)} (h : RR w base (fun k => B ≤ k) v xs) (o : Obj) : RR (w.alloc o) base (fun k => B ≤ k ∧ k ≠ w.heap.size) v xs :=
  Kd.S_alloc (Kd.S_mono (Kd.S_bound h) (fun k hk => ⟨hk.1, by have := hk.2.2.1; omega⟩)) o

set_option maxHeartbeats 4000000 in
set_option maxRecDepth 100000 in
theorem dominator_Frontier.calls (k : Nat) (A0 : Option Addr) (c0 : Nat) (l0 : List S46) (A1 : Option Addr) (c1 : Nat) (l1 : List (List Int)) (r : List (List Int)) (w : World) (hr0 : Kd.C k46 w A0 l0.length l0) (hc0 : l0.length ≤ c0) (hr1 : Kd.C (Kd.slice 3 (Kd.int .i64)) w A1 l1.length l1) (hc1 : l1.length ≤ c1) (h : dominator_Frontier.f k l0 l1 = some r) :
    Calls Try.prog 16 #[.agg #[.slice A0 l0.length c0, .slice A1 l1.length c1]] w fun e w' => ∃ v0_ : Value, e = .returned (v0_) ∧ Kd.S (Kd.slice 3 (Kd.int .i64)) 29 w' w.heap.size (fun _ => True) v0_ r ∧ Below w.heap.size w w' := by
  have hu25 := Try.underlying25
  have hl0 : l0.length ≤ 9223372036854775807 := hr0.2.1
  have HR0 := Aside0.mk hr0
  have HR1 := Aside0.mk hr1
  have HC0 := Aside0.mk hc0
  have HC1 := Aside0.mk hc1
  clear hr0 hr1 hc0 hc1
  unfold dominator_Frontier.f at h
  replace h := Option.bind_eq_some_iff.mp h
  obtain ⟨idom, hv, h⟩ := h
  have HV := Aside0.mk hv
  clear hv
  by_cases hI0 : idom.length = 0
  · rw [if_pos hI0] at h
    injection h with h
    subst h
    obtain rfl : idom = [] := List.eq_nil_of_length_eq_zero hI0
    clear hI0
    go_enter Try.func16, Try.ntmps16
    go_wp2_with (go_at_call 14; refine (dominator_Tree.calls k A0 c0 l0 A1 c1 l1 [] _ (Kd.C_alloc HR0.out _) HC0.out (Kd.C_alloc HR1.out _) HC1.out HV.out).mono ?_; rintro e w2 ⟨v, rfl, ho, hb⟩; have HB := Aside0.mk (below_step (below_alloc (Below.refl w.heap.size w) _) hb); obtain ⟨Ao, co, rfl⟩ := Kd.R_slice ho; clear hb ho; rw [List.length_nil])
    go_ret
    exact ⟨_, rfl, Kd.S_nil _ _ _ _ _, below_alloc HB.out _⟩
  · rw [if_neg hI0] at h
    by_cases hlim : l0.length ≤ 11728124029610 ∧ 0 < l0.length
    · rw [if_pos hlim] at h
      obtain ⟨hlim, hpos⟩ := hlim
      replace h := Option.bind_eq_some_iff.mp h
      obtain ⟨order, hord, h⟩ := h
      replace h := Option.bind_eq_some_iff.mp h
      obtain ⟨reached, hmk, h⟩ := h
      have HORD := Aside0.mk hord
      have HMK := Aside0.mk hmk
      have HFA := Aside0.mk h
      clear hord hmk h
      have hz : ((idom.length : Int) == 0) = false := beq_eq_false_iff_ne.2 (by omega)
      clear hI0
      go_enter Try.func16, Try.ntmps16
      go_wp2_with (first | (go_at_call 14; refine (dominator_Tree.calls k A0 c0 l0 A1 c1 l1 idom _ (Kd.C_alloc HR0.out _) HC0.out (Kd.C_alloc HR1.out _) HC1.out HV.out).mono ?_; rintro e w2 ⟨v, rfl, ho, hb⟩; have HE2 := Aside0.mk (blk_below (blk_new w _) hb); obtain ⟨Ai, ci, rfl⟩ := Kd.R_slice ho; have HI2 := Aside0.mk (Kd.R_lower ho (Nat.le_trans (Nat.le_succ _) (by simp) : w.heap.size ≤ _)); have HB2 := Aside0.mk (below_step (below_alloc (Below.refl w.heap.size w) _) hb); have k2 : ∀ o, (w2.alloc o).cell? ⟨w.heap.size, 0, none⟩ = some (.slice A0 l0.length c0) := fun o => (blk_cell (blk_alloc HE2.out o) 0).trans rfl; clear hb ho) | ((with_reducible refine gate_dst (N := 18) rfl ?_); refine Kd.R_make Kd.bool _ 4 rfl (N := 18) rfl 36 _ _ rfl (l0.length : Int) rfl rfl Try.underlying36 (.bool false) 1 info4 rfl (by decide) (by omega) false (ok := fun _ => True) (okp := fun _ => True) rfl (fun _ hk => hk) trivial (by omega) (by omega) (Below.refl _ _) (Nat.le_refl _) ?_; intro v3 w3 ho hb hg_ hnew_; clear hg_ hnew_; rw [Int.toNat_natCast] at ho; obtain ⟨rb, cr, rfl, gb_, gl_, _⟩ := Kd.R_form ho (by rw [List.length_replicate]; exact hpos); have HM3 := Aside0.mk ho; have HB3 := Aside0.mk hb; have k3 : ∀ o, (w3.alloc o).cell? ⟨w.heap.size, 0, none⟩ = some (.slice A0 l0.length c0) ∧ (w3.alloc o).cell? ⟨w.heap.size, 1, none⟩ = some (.slice A1 l1.length c1) := fun o => ⟨(blk_cell (blk_alloc (blk_below (blk_alloc HE2.out _) hb) o) 0).trans rfl, (blk_cell (blk_alloc (blk_below (blk_alloc HE2.out _) hb) o) 1).trans rfl⟩; clear hb ho gb_ gl_ k2; rw [List.length_replicate]) | (go_at_call 15; refine (dominator_Order.calls k A0 c0 l0 A1 c1 l1 order _ (Kd.C_below HR0.out (below_alloc (below_step (below_alloc HB2.out _) HB3.out) _)) HC0.out (Kd.C_below HR1.out (below_alloc (below_step (below_alloc HB2.out _) HB3.out) _)) HC1.out HORD.out).mono ?_; rintro e w5 ⟨v, rfl, ho, hb⟩; obtain ⟨Ao, co, rfl⟩ := Kd.R_slice ho; have HO5 := Aside0.mk ho; have HB5 := Aside0.mk hb; clear ho hb k3))
      have hlt2 : w.heap.size < w2.heap.size := blk_lt HE2.out
      have HF := Aside0.mk (FInv.start (l1 := l1) (A1 := A1) (c1 := c1) HB2.out HE2.out hlt2 HI2.out HB3.out (by have h := HM3.out; rw [List.length_replicate] at h; exact h) HB5.out)
      have HO := Aside0.mk (Kd.R_lower (base' := w.heap.size) HO5.out (by have h2 := HB2.out.size; have h3 := HB3.out.size; simp at h3 ⊢; omega))
      obtain ⟨gr, hgr⟩ : ∃ gr, gr = w3.heap.size := ⟨_, rfl⟩
      obtain ⟨gi, hgi⟩ : ∃ gi, gi = w2.heap.size := ⟨_, rfl⟩
      obtain ⟨B, hB⟩ : ∃ B, B = w5.heap.size := ⟨_, rfl⟩
      rw [← hgr, ← hgi, ← hB] at HF
      rw [← hgr, ← hgi]
      clear hgr hgi hB HE2 HI2 HB2 HM3 HB3 HO5 HB5 hlt2
      have hmo : order.length ≤ 9223372036854775807 := (Kd.R_reads' HO.out).2.2.2.1
      go_loopw [6, 22] (fun _ i wr => ∃ (j : Nat) (re : List Bool), j ≤ order.length ∧ i = .int .i64 j ∧ Aside0 (markL (order.drop j) re = some reached) ∧ Aside0 (re.length = l0.length) ∧ Aside0 (Kd.R (Kd.int .i64) 3 wr w.heap.size (fun _ => True) (.slice Ao order.length co) order) ∧ Aside0 (FInv w w.heap.size gr gi rb cr ci B Ai A0 c0 l0 A1 c1 l1 re idom wr)) (fun _ i _ => order.length - (intOf i).toNat)
      case atStart => exact ⟨0, _, Nat.zero_le _, rfl, HMK, ⟨by simp⟩, HO, HF⟩
      case round =>
        clear HF HO HMK
        obtain ⟨j, re, hj, rfl, HMK, HL, HO, HF⟩ := hrel
        by_cases hlt : j < order.length
        · have hr := HMK.out
          rw [drop_rd order j hlt] at hr
          obtain ⟨b, hb⟩ : ∃ b, b = rd order (j : Int) := ⟨_, rfl⟩
          obtain ⟨ad, ea, hx⟩ := Kd.at_int (Kd.R_reads' HO.out).2.2 j (by omega) (by omega)
          subst ea
          rw [Int.toNat_natCast] at hx
          rw [← hb] at hr hx
          clear hb HMK
          simp only [markL] at hr
          by_cases hin : 0 ≤ b ∧ b < (re.length : Int)
          · rw [if_pos hin] at hr
            obtain ⟨b0, b1⟩ := hin
            have HMK := Aside0.mk hr
            have kR := HF.out.boxR
            obtain ⟨cM, fM⟩ := HF.out.cellM b b0 b1
            have HF1 := Aside0.mk (HF.out.storeM b b0 b1)
            have HO1 := Aside0.mk (Kd.R_over' HO.out (Kd.R_typed HF.out.2.2.2.2.1) (by decide) (Kd.R_putg HF.out.2.2.2.2.1 b true).2)
            have hL := HL.out
            rw [hL] at kR b1
            clear hr hL
            go_wp2_with fail
            go_roundw
            case rel => exact ⟨j + 1, re.set b.toNat true, by omega, by go_num, HMK, ⟨by rw [List.length_set]; exact HL.out⟩, HO1, HF1⟩
            case measure => simp [intOf]; omega
          · rw [if_neg hin] at hr; exact absurd hr (by simp)
        · have hr := HMK.out
          rw [List.drop_eq_nil_of_le (by omega)] at hr
          simp only [markL, Option.some.injEq] at hr
          subst hr
          obtain ⟨kG0, kG1⟩ := HF.out.boxG
          have hBw := HF.out.2.2.2.2.2.2.2.2.2
          have HBW := Aside0.mk hBw
          clear hBw
          go_wp2_with ((with_reducible refine gate_dst (N := 33) rfl ?_); refine Kd.S_make (Kd.slice 3 (Kd.int .i64)) w.heap.size 29 rfl (N := 33) rfl 23 _ _ rfl (l0.length : Int) rfl rfl Try.underlying23 (.slice none 0 0) 24 info29 rfl (by decide) (by omega) [] (ok := fun k => B ≤ k) (okp := fun _ => False) ⟨_, rfl, Kd.R_nil _ _ _ _ _⟩ (fun _ hk => hk.elim) HBW.out (by omega) (by omega) HF.out.1 HF.out.1.size ?_; intro v6 w6 ho hb hg hnew_; rw [Int.toNat_natCast] at ho; obtain ⟨g, cg, rfl, gb_, gl_, _⟩ := Kd.S_form ho (by rw [List.length_replicate]; exact hpos); rw [List.length_replicate] at ho ⊢; have HS := Aside0.mk ho; have HF6 := Aside0.mk (HF.out.grown hb hg (fun k e => by cases e)); obtain ⟨kH0, kH1⟩ := HF6.out.boxG; clear ho hb hg hnew_ gb_ gl_ kG0 kG1)
          have hrl : (Kd.R_reads' HF.out.2.2.2.2.1).1 = (Kd.R_reads' HF.out.2.2.2.2.1).1 := rfl
          clear hrl
          go_loopw [8, 37] (fun _ i wr => ∃ (j : Nat) (out : List (List Int)), j ≤ l0.length ∧ i = .int .i64 j ∧ Aside0 (frA re idom l1 l0.length (l0.length - j) (j : Int) out = some r) ∧ Aside0 (FInv w w.heap.size gr gi rb cr ci B Ai A0 c0 l0 A1 c1 l1 re idom wr) ∧ Aside0 (RR wr w.heap.size (fun k => B ≤ k) (.slice (some ⟨g, 0, none⟩) l0.length cg) out)) (fun _ i _ => l0.length - (intOf i).toNat)
          case atStart => exact ⟨0, _, Nat.zero_le _, rfl, HFA, HF6, HS⟩
          case round =>
            clear HFA HF HF6 HS HBW kH0 kH1 HO
            obtain ⟨j, out, hj, rfl, HFA, HF, HS⟩ := hrel
            by_cases hlta : j < l0.length
            · have hfa := HFA.out
              rw [show l0.length - j = (l0.length - (j + 1)) + 1 by omega] at hfa
              simp only [frA] at hfa
              by_cases hin : (0 : Int) ≤ (j : Int) ∧ (j : Int) < (re.length : Int)
              · rw [if_pos hin] at hfa
                have hFa := HF.out.below (below_alloc (Below.refl _ _) (.cells #[.int .i64 (j : Int)] 3))
                have hSa := RR.fresh HS.out (.cells #[.int .i64 (j : Int)] 3)
                have hea : (wr.alloc (.cells #[.int .i64 (j : Int)] 3)).heap[wr.heap.size]? = some (.cells #[.int .i64 (j : Int)] 3 (0, 0)) := blk_new wr _
                have kR := hFa.boxR
                obtain ⟨cM, _⟩ := hFa.cellM (j : Int) hin.1 hin.2
                have kA : (wr.alloc (.cells #[.int .i64 (j : Int)] 3)).cell? ⟨wr.heap.size, 0, none⟩ = some (.int .i64 (j : Int)) := (blk_cell hea 0).trans rfl
                obtain ⟨kG0, kG1⟩ := hFa.boxG
                have HL' := Aside0.mk HL.out
                rw [HL.out] at kR
                rw [Int.toNat_natCast] at cM
                have HFa := Aside0.mk hFa
                have HSa := Aside0.mk hSa
                have HEa := Aside0.mk hea
                clear hFa hSa hea HF HS HFA hin
                by_cases hq : rdOf false re (j : Int) = true
                · rw [if_pos hq] at hfa
                  rw [hq] at cM
                  replace hfa := Option.bind_eq_some_iff.mp hfa
                  obtain ⟨out2, hfb, hfa⟩ := hfa
                  have HFA := Aside0.mk hfa
                  have HFB := Aside0.mk hfb
                  clear hq hfa hfb
                  go_wp2_with fail
                  clear kR cM kA
                  obtain ⟨ga, hga⟩ : ∃ ga, ga = wr.heap.size := ⟨_, rfl⟩
                  obtain ⟨wa, hwa⟩ : ∃ wa, wa = wr.alloc (.cells #[.int .i64 (j : Int)] 3) := ⟨_, rfl⟩
                  rw [← hwa, ← hga] at HEa HSa
                  rw [← hwa] at HFa kG0 kG1
                  rw [← hwa, ← hga]
                  clear hga hwa kG0 kG1
                  go_loopw [9, 48] (fun _ i wq => ∃ (q : Nat) (out1 : List (List Int)), q ≤ l0.length ∧ i = .int .i64 q ∧ Aside0 (frB re idom l1 (j : Int) (l0.length - q) (q : Int) out1 = some out2) ∧ Aside0 (FInv w w.heap.size gr gi rb cr ci B Ai A0 c0 l0 A1 c1 l1 re idom wq) ∧ Aside0 (RR wq w.heap.size (fun k => B ≤ k ∧ k ≠ ga) (.slice (some ⟨g, 0, none⟩) l0.length cg) out1) ∧ Aside0 (wq.heap[ga]? = some (.cells #[.int .i64 (j : Int)] 3 (0, 0)))) (fun _ i _ => l0.length - (intOf i).toNat)
                  case atStart => exact ⟨0, out, Nat.zero_le _, rfl, HFB, HFa, HSa, HEa⟩
                  case round =>
                    clear HFB HFa HSa HEa
                    obtain ⟨q, out1, hq, rfl, HFB, HF, HS, HE⟩ := hrel
                    by_cases hltb : q < l0.length
                    · have hfb := HFB.out
                      rw [show l0.length - q = (l0.length - (q + 1)) + 1 by omega] at hfb
                      simp only [frB] at hfb
                      clear HFB
                      have kI := HF.out.boxI
                      have kA : wr.cell? ⟨ga, 0, none⟩ = some (.int .i64 (j : Int)) := (blk_cell HE.out 0).trans rfl
                      by_cases hab : (j : Int) = (q : Int)
                      · have hd : ¬ ((j : Int) ≠ (q : Int) ∧ domB idom (j : Int) (q : Int) = true) := fun h => h.1 hab
                        rw [if_neg hd] at hfb
                        by_cases hin : (0 : Int) ≤ (q : Int) ∧ (q : Int) < (l1.length : Int)
                        · rw [if_pos hin] at hfb
                          have HQ1 := Aside0.mk hin.2
                          have HBIND := Aside0.mk (Option.bind_eq_some_iff.mp hfb)
                          have hab1 : ((j : Int) != (q : Int)) = false := bne_eq_false_iff_eq.2 hab
                          clear hd hin hfb hab
                          have hb1 : (q : Int) < (l1.length : Int) := by have := HQ1.out; omega
                          obtain ⟨y, hy, hfb2⟩ := HBIND.out
                          obtain ⟨ad1, B1, d1, ea1, hy0, hyl, hyc⟩ := at_L1 HR1.out (q : Int) (by omega) hb1
                          subst ea1
                          rw [Int.toNat_natCast] at hy0
                          have HYC := Aside0.mk (Kd.C_below hyc HF.out.1)
                          have hyx := pw_cell_below HF.out.1 hy0
                          obtain ⟨kG0, kG1⟩ := HF.out.boxG
                          have HIN := Aside0.mk hy
                          have HCL := Aside0.mk (HF.out.cl HE.out)
                          have HFB2 := Aside0.mk hfb2
                          clear hy hfb2 hyl hyc hy0 HBIND
                          cases y with
                          | false =>
                            have HN := Aside0.mk (show frB re idom l1 (j : Int) (l0.length - (q + 1)) ((q : Int) + 1) out1 = some out2 from by simpa using HFB2.out)
                            clear HFB2
                            go_wp2_with (go_at_call 32; refine (contains_calls gr gi ga rb cr ci Ai re idom (j : Int) B1 d1 (rd_L1 l1 (q : Int)) false wr HCL.out HYC.out HIN.out).mono ?_; rintro e w8 ⟨rfl, hb⟩; have HF8 := Aside0.mk (HF.out.below hb); have HS8 := Aside0.mk (Kd.S_below HS.out hb); have HE8 := Aside0.mk (blk_below HE.out hb); clear hb)
                            go_roundw
                            case rel => exact ⟨q + 1, out1, by omega, by go_num, HN, HF8, HS8, HE8⟩
                            case measure => simp [intOf]; omega
                          | true =>
                            have hfb2 := HFB2.out
                            rw [if_pos rfl] at hfb2
                            clear HFB2
                            by_cases hap : (0 : Int) ≤ (j : Int) ∧ (j : Int) < (out1.length : Int) ∧ (rd_L1 out1 (j : Int)).length < 17592186044416
                            · rw [if_pos hap] at hfb2
                              have HN := Aside0.mk (show frB re idom l1 (j : Int) (l0.length - (q + 1)) ((q : Int) + 1) (out1.set j (rd_L1 out1 (j : Int) ++ [(q : Int)])) = some out2 from by simpa using hfb2)
                              have hlim2 := hap.2.2
                              clear hfb2 hap
                              have HLM := Aside0.mk hlim2
                              clear hlim2
                              go_wp2_with (go_at_call 32; refine (contains_calls gr gi ga rb cr ci Ai re idom (j : Int) B1 d1 (rd_L1 l1 (q : Int)) true wr HCL.out HYC.out HIN.out).mono ?_; rintro e w8 ⟨rfl, hb⟩; have HF8 := Aside0.mk (HF.out.below hb); have HS8 := Aside0.mk (Kd.S_below HS.out hb); have HE8 := Aside0.mk (blk_below HE.out hb); clear hb)
                              have hst := app_step HF8.out.drew (Kd.S_drew HS8.out) (blk_drew HE8.out) (j : Int) (by omega) (by omega)
                              rw [Int.toNat_natCast] at hst
                              obtain ⟨Ax, cx, oka, hcx, hfx, hfrx, hRx, hend⟩ := hst
                              have HRX := Aside0.mk hRx
                              have HEND := Aside0.mk hend
                              have HFRX := Aside0.mk hfrx
                              have HBD := Aside0.mk HF8.out.drew.1
                              have kAd : w8.drew.cell? ⟨ga, 0, none⟩ = some (.int .i64 (j : Int)) := (blk_cell (blk_drew HE8.out) 0).trans rfl
                              clear hRx hend hfrx kG0 kG1 hyx HE HS HF
                              refine start_ (n := 11) (S := fun w' => w'.cell? ⟨ga, 0, none⟩ = some (.int .i64 (j : Int)) ∧ w'.cell? ⟨g, j, none⟩ = some (.slice Ax (rd_L1 out1 (j : Int)).length cx)) (ds := [10]) #[false, false, false, false, false, false, false, false, false, false, false] (by kernel_rfl) rfl rfl ⟨kAd, hcx⟩ (fun hHeld => ?_)
                              generalize w8.drew = wd at kAd hcx hfx HRX HEND HFRX HBD hHeld ⊢
                              refine pure_ (i := 0) (N := some 67) (v := ?_) (a' := ?_) #[true, false, false, false, false, false, false, false, false, false, false] rfl rfl (by kernel_rfl) (fun _ _ _ h => h) (Or.inl ⟨by rfl, ?_⟩) ?_ ?_
                              rotate_left
                              · intro w'
                                go_simp
                                with_reducible rfl
                              rotate_left
                              · simp only [Act.put, List.setIfInBounds_toArray, List.set_cons_zero, List.set_cons_succ, i64_w, i32_w]
                                rfl
                              refine pure_ (i := 2) (N := some 69) (v := ?_) (a' := ?_) #[true, false, true, false, false, false, false, false, false, false, false] rfl rfl (by kernel_rfl) (fun _ _ _ h => h) (Or.inl ⟨by rfl, ?_⟩) ?_ ?_
                              rotate_left
                              · intro w'
                                go_simp
                                with_reducible rfl
                              rotate_left
                              · simp only [Act.put, List.setIfInBounds_toArray, List.set_cons_zero, List.set_cons_succ, i64_w, i32_w]
                                rfl
                              refine pure_ (i := 6) (N := some 73) (v := ?_) (a' := ?_) #[true, false, true, false, false, false, true, false, false, false, false] rfl rfl (by kernel_rfl) (fun _ _ _ h => h) (Or.inl ⟨by rfl, ?_⟩) ?_ ?_
                              rotate_left
                              · intro w'
                                go_simp
                                with_reducible rfl
                              rotate_left
                              · simp only [Act.put, List.setIfInBounds_toArray, List.set_cons_zero, List.set_cons_succ, i64_w, i32_w]
                                rfl
                              refine take_ (i := 1) (N := some 68) (v := ?_) (a' := ?_) #[true, true, true, false, false, false, true, false, false, false, false] rfl rfl (by kernel_rfl) (fun _ _ _ h => h) (Or.inl ⟨by rfl, ?_⟩) hHeld ?_ ?_
                              rotate_left
                              · rintro w' ⟨s0, s1⟩
                                go_simp
                                with_reducible rfl
                              rotate_left
                              · simp only [Act.put, List.setIfInBounds_toArray, List.set_cons_zero, List.set_cons_succ, i64_w, i32_w]
                                rfl
                              refine take_ (i := 3) (N := some 70) (v := ?_) (a' := ?_) #[true, true, true, true, false, false, true, false, false, false, false] rfl rfl (by kernel_rfl) (fun _ _ _ h => h) (Or.inl ⟨by rfl, ?_⟩) hHeld ?_ ?_
                              rotate_left
                              · rintro w' ⟨s0, s1⟩
                                go_simp
                                with_reducible rfl
                              rotate_left
                              · simp only [Act.put, List.setIfInBounds_toArray, List.set_cons_zero, List.set_cons_succ, i64_w, i32_w]
                                rfl
                              refine pure_ (i := 4) (N := some 71) (v := ?_) (a' := ?_) #[true, true, true, true, true, false, true, false, false, false, false] rfl rfl (by kernel_rfl) (fun _ _ _ h => h) (Or.inl ⟨by rfl, ?_⟩) ?_ ?_
                              rotate_left
                              · intro w'
                                go_simp
                                with_reducible rfl
                              rotate_left
                              · simp only [Act.put, List.setIfInBounds_toArray, List.set_cons_zero, List.set_cons_succ, i64_w, i32_w]
                                rfl
                              refine take_ (i := 5) (N := some 72) (v := ?_) (a' := ?_) #[true, true, true, true, true, true, true, false, false, false, false] rfl rfl (by kernel_rfl) (fun _ _ _ h => h) (Or.inl ⟨by rfl, ?_⟩) hHeld ?_ ?_
                              rotate_left
                              · rintro w' ⟨s0, s1⟩
                                go_simp
                                with_reducible rfl
                              rotate_left
                              · simp only [Act.put, List.setIfInBounds_toArray, List.set_cons_zero, List.set_cons_succ, i64_w, i32_w]
                                rfl
                              refine one_ (i := 7) (N := some 74) #[true, true, true, true, true, true, true, true, false, false, false] rfl rfl (by kernel_rfl) (by decide) (fun K hK => ?_)
                              refine value_ (w1 := ?_) (v := ?_) (by rfl) rfl ?_ ?_
                              rotate_left 2
                              · go_simp
                                constructor
                                · rfl
                                · rfl
                              refine hK.out _ _ ⟨pw_cell_below (below_alloc (Below.refl _ _) _) kAd, pw_cell_below (below_alloc (Below.refl _ _) _) hcx⟩ (fun hHeld => ?_)
                              clear hK K
                              refine norm_ (a' := ?_) ?_ ?_
                              rotate_left
                              · show Act.put _ (some 74) _ = _
                                simp only [Act.put, List.setIfInBounds_toArray, List.set_cons_zero, List.set_cons_succ, i64_w, i32_w]
                                rfl
                              refine one_ (i := 8) (N := some 75) #[true, true, true, true, true, true, true, true, true, false, false] rfl rfl (by kernel_rfl) (by decide) (fun K hK => ?_)
                              refine Kd.R_append_step (Kd.int .i64) (w0 := w) w.heap.size rfl (.tmp 72) (.tmp 74) 29 3 (.int .i64 0) 8 rfl Try.underlying29 info3 rfl (by decide) (by omega) (.slice Ax (rd_L1 out1 (j : Int)).length cx) (rd_L1 out1 (j : Int)) (q : Int) [.int .i64 (q : Int)] oka (fun _ => False) rfl rfl rfl (fun _ hk => hk.elim) HFRX.out HRX.out HBD.out HBD.out.size (by have := HLM.out; omega) ?_
                              intro v1 w9 ho hb hg hat
                              obtain ⟨⟨cq1, fq1, kq1⟩, hF9, hS9, hE9⟩ := HEND.out v1 w9 _ ho hb hg
                              obtain ⟨A9, c9, rfl⟩ := Kd.R_slice ho
                              simp only [List.length_append, List.length_cons, List.length_nil, Nat.zero_add] at hF9 hS9 hE9
                              have HF9 := Aside0.mk hF9
                              have HS9 := Aside0.mk hS9
                              have HE9 := Aside0.mk hE9
                              clear hF9 hS9 hE9 ho hb hg hat
                              refine hK.out _ _ ⟨kq1, cq1⟩ (fun hHeld => ?_)
                              clear hK K
                              refine norm_ (a' := ?_) ?_ ?_
                              rotate_left
                              · show Act.put _ (some 75) _ = _
                                simp only [Act.put, List.setIfInBounds_toArray, List.set_cons_zero, List.set_cons_succ, i64_w, i32_w]
                                rfl
                              refine pure_ (i := 9) (N := some 76) (v := ?_) (a' := ?_) #[true, true, true, true, true, true, true, true, true, true, false] rfl rfl (by kernel_rfl) (fun _ _ _ h => h) (Or.inl ⟨by rfl, ?_⟩) ?_ ?_
                              rotate_left
                              · intro w'
                                go_simp
                                with_reducible rfl
                              rotate_left
                              · simp only [Act.put, List.setIfInBounds_toArray, List.set_cons_zero, List.set_cons_succ, i64_w, i32_w]
                                rfl
                              refine last_ (i := 10) (N := none) #[true, true, true, true, true, true, true, true, true, true, true] rfl rfl (by kernel_rfl) (by decide) (fun K hK => ?_)
                              refine skip_ (w1 := ?_) (by rfl) rfl ?_ ?_
                              rotate_left
                              · go_simp
                                rfl
                              refine hK.out _ _ ?_
                              clear hK K
                              refine done_ (by kernel_rfl) ?_
                              
                              go_wp2_with fail
                              go_roundw
                              case rel => exact ⟨q + 1, _, by omega, by go_num, HN, HF9, HS9, HE9⟩
                              case measure => simp [intOf]; omega
                            · rw [if_neg hap] at hfb2; exact absurd hfb2 (by simp)
                        · rw [if_neg hin] at hfb; exact absurd hfb (by simp)
                      · have hab1 : ((j : Int) != (q : Int)) = true := bne_iff_ne.2 hab
                        by_cases hdm : domB idom (j : Int) (q : Int) = true
                        · rw [if_pos ⟨hab, hdm⟩] at hfb
                          have HFB := Aside0.mk hfb
                          have HDM := Aside0.mk hdm
                          clear hab hdm hfb
                          go_wp2_with (go_at_call 19; refine (dom_calls Ai ci idom (j : Int) (q : Int) wr (HF.out.cl HE.out).2.2.2.2.1 (HF.out.cl HE.out).2.2.2.2.2).mono ?_; rw [HDM.out]; rintro e w7 ⟨rfl, hb⟩; have HF7 := Aside0.mk (HF.out.below hb); have HS7 := Aside0.mk (Kd.S_below HS.out hb); have HE7 := Aside0.mk (blk_below HE.out hb); clear hb)
                          go_roundw
                          case rel => exact ⟨q + 1, out1, by omega, by go_num, HFB, HF7, HS7, HE7⟩
                          case measure => simp [intOf]; omega
                        · rw [if_neg (fun h => hdm h.2)] at hfb
                          have HDM := Aside0.mk (Bool.eq_false_iff.mpr hdm)
                          by_cases hin : (0 : Int) ≤ (q : Int) ∧ (q : Int) < (l1.length : Int)
                          · rw [if_pos hin] at hfb
                            have HQ1 := Aside0.mk hin.2
                            have HBIND := Aside0.mk (Option.bind_eq_some_iff.mp hfb)
                            clear hin hfb hab hdm kI kA
                            have kA : wr.cell? ⟨ga, 0, none⟩ = some (.int .i64 (j : Int)) := (blk_cell HE.out 0).trans rfl
                            have hb1 : (q : Int) < (l1.length : Int) := by have := HQ1.out; omega
                            obtain ⟨y, hy, hfb2⟩ := HBIND.out
                            obtain ⟨ad1, B1, d1, ea1, hy0, hyl, hyc⟩ := at_L1 HR1.out (q : Int) (by omega) hb1
                            subst ea1
                            rw [Int.toNat_natCast] at hy0
                            have HYC := Aside0.mk hyc
                            have HY0 := Aside0.mk hy0
                            have kI := HF.out.boxI
                            have HCW := Aside0.mk (HF.out.cl HE.out)
                            have HIN := Aside0.mk hy
                            have HFB2 := Aside0.mk hfb2
                            clear hy hfb2 hyl hyc hy0 HBIND
                            cases y with
                            | false =>
                              have HN := Aside0.mk (show frB re idom l1 (j : Int) (l0.length - (q + 1)) ((q : Int) + 1) out1 = some out2 from by simpa using HFB2.out)
                              clear HFB2
                              go_wp2_with (first | (go_at_call 19; refine (dom_calls Ai ci idom (j : Int) (q : Int) wr HCW.out.2.2.2.2.1 HCW.out.2.2.2.2.2).mono ?_; rw [HDM.out]; rintro e w7 ⟨rfl, hb⟩; have HF7 := Aside0.mk (HF.out.below hb); have HS7 := Aside0.mk (Kd.S_below HS.out hb); have HE7 := Aside0.mk (blk_below HE.out hb); obtain ⟨kG0, kG1⟩ := HF7.out.boxG; have hyx := pw_cell_below HF7.out.1 HY0.out; clear hb) | (go_at_call 32; refine (contains_calls gr gi ga rb cr ci Ai re idom (j : Int) B1 d1 (rd_L1 l1 (q : Int)) false w7 (HF7.out.cl HE7.out) (Kd.C_below HYC.out HF7.out.1) HIN.out).mono ?_; rintro e w8 ⟨rfl, hb⟩; have HF8 := Aside0.mk (HF7.out.below hb); have HS8 := Aside0.mk (Kd.S_below HS7.out hb); have HE8 := Aside0.mk (blk_below HE7.out hb); clear hb))
                              go_roundw
                              case rel => exact ⟨q + 1, out1, by omega, by go_num, HN, HF8, HS8, HE8⟩
                              case measure => simp [intOf]; omega
                            | true =>
                              have hfb2 := HFB2.out
                              rw [if_pos rfl] at hfb2
                              clear HFB2
                              by_cases hap : (0 : Int) ≤ (j : Int) ∧ (j : Int) < (out1.length : Int) ∧ (rd_L1 out1 (j : Int)).length < 17592186044416
                              · rw [if_pos hap] at hfb2
                                have HN := Aside0.mk (show frB re idom l1 (j : Int) (l0.length - (q + 1)) ((q : Int) + 1) (out1.set j (rd_L1 out1 (j : Int) ++ [(q : Int)])) = some out2 from by simpa using hfb2)
                                have hlim2 := hap.2.2
                                clear hfb2 hap
                                have HLM := Aside0.mk hlim2
                                clear hlim2
                                go_wp2_with (first | (go_at_call 19; refine (dom_calls Ai ci idom (j : Int) (q : Int) wr HCW.out.2.2.2.2.1 HCW.out.2.2.2.2.2).mono ?_; rw [HDM.out]; rintro e w7 ⟨rfl, hb⟩; have HF7 := Aside0.mk (HF.out.below hb); have HS7 := Aside0.mk (Kd.S_below HS.out hb); have HE7 := Aside0.mk (blk_below HE.out hb); obtain ⟨kG0, kG1⟩ := HF7.out.boxG; have hyx := pw_cell_below HF7.out.1 HY0.out; clear hb) | (go_at_call 32; refine (contains_calls gr gi ga rb cr ci Ai re idom (j : Int) B1 d1 (rd_L1 l1 (q : Int)) true w7 (HF7.out.cl HE7.out) (Kd.C_below HYC.out HF7.out.1) HIN.out).mono ?_; rintro e w8 ⟨rfl, hb⟩; have HF8 := Aside0.mk (HF7.out.below hb); have HS8 := Aside0.mk (Kd.S_below HS7.out hb); have HE8 := Aside0.mk (blk_below HE7.out hb); clear hb))
                                have hst := app_step HF8.out.drew (Kd.S_drew HS8.out) (blk_drew HE8.out) (j : Int) (by omega) (by omega)
                                rw [Int.toNat_natCast] at hst
                                obtain ⟨Ax, cx, oka, hcx, hfx, hfrx, hRx, hend⟩ := hst
                                have HRX := Aside0.mk hRx
                                have HEND := Aside0.mk hend
                                have HFRX := Aside0.mk hfrx
                                have HBD := Aside0.mk HF8.out.drew.1
                                have kAd : w8.drew.cell? ⟨ga, 0, none⟩ = some (.int .i64 (j : Int)) := (blk_cell (blk_drew HE8.out) 0).trans rfl
                                clear hRx hend hfrx kG0 kG1 hyx HE HS HF HE7 HS7 HF7 HCW
                                refine start_ (n := 11) (S := fun w' => w'.cell? ⟨ga, 0, none⟩ = some (.int .i64 (j : Int)) ∧ w'.cell? ⟨g, j, none⟩ = some (.slice Ax (rd_L1 out1 (j : Int)).length cx)) (ds := [10]) #[false, false, false, false, false, false, false, false, false, false, false] (by kernel_rfl) rfl rfl ⟨kAd, hcx⟩ (fun hHeld => ?_)
                                generalize w8.drew = wd at kAd hcx hfx HRX HEND HFRX HBD hHeld ⊢
                                refine pure_ (i := 0) (N := some 67) (v := ?_) (a' := ?_) #[true, false, false, false, false, false, false, false, false, false, false] rfl rfl (by kernel_rfl) (fun _ _ _ h => h) (Or.inl ⟨by rfl, ?_⟩) ?_ ?_
                                rotate_left
                                · intro w'
                                  go_simp
                                  with_reducible rfl
                                rotate_left
                                · simp only [Act.put, List.setIfInBounds_toArray, List.set_cons_zero, List.set_cons_succ, i64_w, i32_w]
                                  rfl
                                refine pure_ (i := 2) (N := some 69) (v := ?_) (a' := ?_) #[true, false, true, false, false, false, false, false, false, false, false] rfl rfl (by kernel_rfl) (fun _ _ _ h => h) (Or.inl ⟨by rfl, ?_⟩) ?_ ?_
                                rotate_left
                                · intro w'
                                  go_simp
                                  with_reducible rfl
                                rotate_left
                                · simp only [Act.put, List.setIfInBounds_toArray, List.set_cons_zero, List.set_cons_succ, i64_w, i32_w]
                                  rfl
                                refine pure_ (i := 6) (N := some 73) (v := ?_) (a' := ?_) #[true, false, true, false, false, false, true, false, false, false, false] rfl rfl (by kernel_rfl) (fun _ _ _ h => h) (Or.inl ⟨by rfl, ?_⟩) ?_ ?_
                                rotate_left
                                · intro w'
                                  go_simp
                                  with_reducible rfl
                                rotate_left
                                · simp only [Act.put, List.setIfInBounds_toArray, List.set_cons_zero, List.set_cons_succ, i64_w, i32_w]
                                  rfl
                                refine take_ (i := 1) (N := some 68) (v := ?_) (a' := ?_) #[true, true, true, false, false, false, true, false, false, false, false] rfl rfl (by kernel_rfl) (fun _ _ _ h => h) (Or.inl ⟨by rfl, ?_⟩) hHeld ?_ ?_
                                rotate_left
                                · rintro w' ⟨s0, s1⟩
                                  go_simp
                                  with_reducible rfl
                                rotate_left
                                · simp only [Act.put, List.setIfInBounds_toArray, List.set_cons_zero, List.set_cons_succ, i64_w, i32_w]
                                  rfl
                                refine take_ (i := 3) (N := some 70) (v := ?_) (a' := ?_) #[true, true, true, true, false, false, true, false, false, false, false] rfl rfl (by kernel_rfl) (fun _ _ _ h => h) (Or.inl ⟨by rfl, ?_⟩) hHeld ?_ ?_
                                rotate_left
                                · rintro w' ⟨s0, s1⟩
                                  go_simp
                                  with_reducible rfl
                                rotate_left
                                · simp only [Act.put, List.setIfInBounds_toArray, List.set_cons_zero, List.set_cons_succ, i64_w, i32_w]
                                  rfl
                                refine pure_ (i := 4) (N := some 71) (v := ?_) (a' := ?_) #[true, true, true, true, true, false, true, false, false, false, false] rfl rfl (by kernel_rfl) (fun _ _ _ h => h) (Or.inl ⟨by rfl, ?_⟩) ?_ ?_
                                rotate_left
                                · intro w'
                                  go_simp
                                  with_reducible rfl
                                rotate_left
                                · simp only [Act.put, List.setIfInBounds_toArray, List.set_cons_zero, List.set_cons_succ, i64_w, i32_w]
                                  rfl
                                refine take_ (i := 5) (N := some 72) (v := ?_) (a' := ?_) #[true, true, true, true, true, true, true, false, false, false, false] rfl rfl (by kernel_rfl) (fun _ _ _ h => h) (Or.inl ⟨by rfl, ?_⟩) hHeld ?_ ?_
                                rotate_left
                                · rintro w' ⟨s0, s1⟩
                                  go_simp
                                  with_reducible rfl
                                rotate_left
                                · simp only [Act.put, List.setIfInBounds_toArray, List.set_cons_zero, List.set_cons_succ, i64_w, i32_w]
                                  rfl
                                refine one_ (i := 7) (N := some 74) #[true, true, true, true, true, true, true, true, false, false, false] rfl rfl (by kernel_rfl) (by decide) (fun K hK => ?_)
                                refine value_ (w1 := ?_) (v := ?_) (by rfl) rfl ?_ ?_
                                rotate_left 2
                                · go_simp
                                  constructor
                                  · rfl
                                  · rfl
                                refine hK.out _ _ ⟨pw_cell_below (below_alloc (Below.refl _ _) _) kAd, pw_cell_below (below_alloc (Below.refl _ _) _) hcx⟩ (fun hHeld => ?_)
                                clear hK K
                                refine norm_ (a' := ?_) ?_ ?_
                                rotate_left
                                · show Act.put _ (some 74) _ = _
                                  simp only [Act.put, List.setIfInBounds_toArray, List.set_cons_zero, List.set_cons_succ, i64_w, i32_w]
                                  rfl
                                refine one_ (i := 8) (N := some 75) #[true, true, true, true, true, true, true, true, true, false, false] rfl rfl (by kernel_rfl) (by decide) (fun K hK => ?_)
                                refine Kd.R_append_step (Kd.int .i64) (w0 := w) w.heap.size rfl (.tmp 72) (.tmp 74) 29 3 (.int .i64 0) 8 rfl Try.underlying29 info3 rfl (by decide) (by omega) (.slice Ax (rd_L1 out1 (j : Int)).length cx) (rd_L1 out1 (j : Int)) (q : Int) [.int .i64 (q : Int)] oka (fun _ => False) rfl rfl rfl (fun _ hk => hk.elim) HFRX.out HRX.out HBD.out HBD.out.size (by have := HLM.out; omega) ?_
                                intro v1 w9 ho hb hg hat
                                obtain ⟨⟨cq1, fq1, kq1⟩, hF9, hS9, hE9⟩ := HEND.out v1 w9 _ ho hb hg
                                obtain ⟨A9, c9, rfl⟩ := Kd.R_slice ho
                                simp only [List.length_append, List.length_cons, List.length_nil, Nat.zero_add] at hF9 hS9 hE9
                                have HF9 := Aside0.mk hF9
                                have HS9 := Aside0.mk hS9
                                have HE9 := Aside0.mk hE9
                                clear hF9 hS9 hE9 ho hb hg hat
                                refine hK.out _ _ ⟨kq1, cq1⟩ (fun hHeld => ?_)
                                clear hK K
                                refine norm_ (a' := ?_) ?_ ?_
                                rotate_left
                                · show Act.put _ (some 75) _ = _
                                  simp only [Act.put, List.setIfInBounds_toArray, List.set_cons_zero, List.set_cons_succ, i64_w, i32_w]
                                  rfl
                                refine pure_ (i := 9) (N := some 76) (v := ?_) (a' := ?_) #[true, true, true, true, true, true, true, true, true, true, false] rfl rfl (by kernel_rfl) (fun _ _ _ h => h) (Or.inl ⟨by rfl, ?_⟩) ?_ ?_
                                rotate_left
                                · intro w'
                                  go_simp
                                  with_reducible rfl
                                rotate_left
                                · simp only [Act.put, List.setIfInBounds_toArray, List.set_cons_zero, List.set_cons_succ, i64_w, i32_w]
                                  rfl
                                refine last_ (i := 10) (N := none) #[true, true, true, true, true, true, true, true, true, true, true] rfl rfl (by kernel_rfl) (by decide) (fun K hK => ?_)
                                refine skip_ (w1 := ?_) (by rfl) rfl ?_ ?_
                                rotate_left
                                · go_simp
                                  rfl
                                refine hK.out _ _ ?_
                                clear hK K
                                refine done_ (by kernel_rfl) ?_
                                
                                go_wp2_with fail
                                go_roundw
                                case rel => exact ⟨q + 1, _, by omega, by go_num, HN, HF9, HS9, HE9⟩
                                case measure => simp [intOf]; omega
                              · rw [if_neg hap] at hfb2; exact absurd hfb2 (by simp)
                          · rw [if_neg hin] at hfb; exact absurd hfb (by simp)
                    · have hfb := HFB.out
                      rw [show l0.length - q = 0 by omega] at hfb
                      simp only [frB, Option.some.injEq] at hfb
                      subst hfb
                      have HS9 := Aside0.mk (show RR wr w.heap.size (fun k => B ≤ k) _ out1 from Kd.S_mono HS.out (fun k hk => hk.1))
                      go_wp2_with fail
                      go_roundw
                      case rel => exact ⟨j + 1, out1, by omega, by go_num, HFA, HF, HS9⟩
                      case measure => simp [intOf]; omega
                · rw [if_neg hq] at hfa
                  rw [Bool.eq_false_iff.mpr hq] at cM
                  have HFA := Aside0.mk hfa
                  clear hq hfa
                  have HS2 := Aside0.mk (show RR (wr.alloc (.cells #[.int .i64 (j : Int)] 3)) w.heap.size (fun k => B ≤ k) _ out from Kd.S_mono HSa.out (fun k hk => hk.1))
                  go_wp2_with fail
                  go_roundw
                  case rel => exact ⟨j + 1, out, by omega, by go_num, HFA, HFa, HS2⟩
                  case measure => simp [intOf]; omega
              · rw [if_neg hin] at hfa; exact absurd hfa (by simp)
            · have hfa := HFA.out
              rw [show l0.length - j = 0 by omega] at hfa
              simp only [frA, Option.some.injEq] at hfa
              subst hfa
              go_wp2_with fail
              go_ret
              exact ⟨_, rfl, Kd.S_mono HS.out (fun _ _ => trivial), HF.out.1⟩
    · rw [if_neg hlim] at h; exact absurd h (by simp)

end Go.Proofs.Ytnkbmpdghjhlfaa.P
