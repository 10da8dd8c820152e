/- The contract of dominator.Tree. -/
import Derived.Test.YtnkbmpdghjhlfaaPx0
import Derived.Test.YtnkbmpdghjhlfaaXOrder
namespace Go.Proofs.Ytnkbmpdghjhlfaa.P
open Go.RowKit Go.Proofs.YtnkbmpdghjhlfaaW.PrintWords Go.Proofs.YtnkbmpdghjhlfaaW.PrintLast Go.Proofs.YtnkbmpdghjhlfaaW.PrintMore
attribute [local go_sem] max2_int min2_int max_two min_two max_three min_three max_four min_four
set_option linter.unusedVariables false
set_option linter.unusedSimpArgs false


/-! ### what Tree computes -/
def meetF (rank idom : List Int) : Nat → Int → Int → Option Int
  | 0, _, _ => none
  | k + 1, a, b => if a = b then some a else if 0 ≤ a ∧ a < (rank.length : Int) ∧ 0 ≤ b ∧ b < (rank.length : Int) ∧ rank.length = idom.length then (if rd rank a > rd rank b then meetF rank idom k (rd idom a) b else meetF rank idom k a (rd idom b)) else none
def bestL (rank idom : List Int) (k : Nat) : List Int → Int → Option Int
  | [], best => some best
  | p :: r, best => if 0 ≤ p ∧ p < (rank.length : Int) ∧ rank.length = idom.length then (if rd rank p < 0 then bestL rank idom k r best else if rd idom p < 0 then bestL rank idom k r best else if best < 0 then bestL rank idom k r p else (meetF rank idom k best p).bind fun m => bestL rank idom k r m) else none
def passL (rank : List Int) (prev : List (List Int)) (k : Nat) : List Int → List Int → Bool → Option (List Int × Bool)
  | [], idom, ch => some (idom, ch)
  | b :: r, idom, ch => if 0 ≤ b ∧ b < (prev.length : Int) ∧ b < (idom.length : Int) then (bestL rank idom k (rd_L1 prev b) (-1)).bind fun best => if best ≠ rd idom b then passL rank prev k r (idom.set b.toNat best) true else passL rank prev k r idom ch else none
def outerF (rank : List Int) (prev : List (List Int)) (order : List Int) : Nat → List Int → Option (List Int)
  | 0, _ => none
  | k + 1, idom => (passL rank prev k order idom false).bind fun p => if p.2 = true then outerF rank prev order k p.1 else some p.1
def rankL : List Int → Nat → List Int → Option (List Int)
  | [], _, rank => some rank
  | b :: r, i, rank => if 0 ≤ b ∧ b < (rank.length : Int) then rankL r (i + 1) (rank.set b.toNat (i : Int)) else none
def dominator_Tree.f (k : Nat) (l0 : List S46) (l1 : List (List Int)) : Option (List Int) :=
  (dominator_Order.f k l0 l1).bind fun order => if order.length = 0 then some [] else if l0.length ≤ 17592186044416 ∧ 0 < l0.length then
    (rankL order 0 (List.replicate l0.length (-1))).bind fun rank => (outerF rank l1 order.tail k ((List.replicate l0.length (-1)).set 0 0)).bind fun idom => some (idom.set 0 (-1)) else none

theorem meetF.mono (rank idom : List Int) : ∀ k a b, LeO (meetF rank idom k a b) (meetF rank idom (k + 1) a b)
  | 0, _, _ => LeO.none _
  | k + 1, a, b => by
    unfold meetF
    exact LeO.ite (LeO.refl _) (LeO.ite (LeO.ite (meetF.mono rank idom k _ _) (meetF.mono rank idom k _ _)) (LeO.refl _))
theorem bestL.mono (rank idom : List Int) (k : Nat) : ∀ l b, LeO (bestL rank idom k l b) (bestL rank idom (k + 1) l b)
  | [], _ => LeO.refl _
  | p :: r, b => by
    unfold bestL
    exact LeO.ite (LeO.ite (bestL.mono rank idom k r b) (LeO.ite (bestL.mono rank idom k r b) (LeO.ite (bestL.mono rank idom k r p) (LeO.bind (meetF.mono rank idom k _ _) fun m => bestL.mono rank idom k r m)))) (LeO.refl _)
theorem passL.mono (rank : List Int) (prev : List (List Int)) (k : Nat) : ∀ l i c, LeO (passL rank prev k l i c) (passL rank prev (k + 1) l i c)
  | [], _, _ => LeO.refl _
  | b :: r, i, c => by
    unfold passL
    exact LeO.ite (LeO.bind (bestL.mono rank i k _ _) fun m => LeO.ite (passL.mono rank prev k r _ _) (passL.mono rank prev k r _ _)) (LeO.refl _)
theorem outerF.mono (rank : List Int) (prev : List (List Int)) (order : List Int) : ∀ k i, LeO (outerF rank prev order k i) (outerF rank prev order (k + 1) i)
  | 0, _ => LeO.none _
  | k + 1, i => by
    unfold outerF
    exact LeO.bind (passL.mono rank prev k _ _ _) fun p => LeO.ite (outerF.mono rank prev order k _) (LeO.refl _)
theorem dominator_Tree.mono : ∀ a0 a1 k, LeO (dominator_Tree.f k a0 a1) (dominator_Tree.f (k + 1) a0 a1) := by
  intro a0 a1 k
  unfold dominator_Tree.f
  exact LeO.bind (dominator_Order.mono _ _ _) fun o => LeO.ite (LeO.refl _) (LeO.ite (LeO.bind (LeO.refl _) fun r => LeO.bind (outerF.mono _ _ _ _ _) fun i => LeO.refl _) (LeO.refl _))

/-! ### the closure meet -/
theorem cell_int {w : World} {b n : Nat} {xs : List Int} (h : Kd.C (Kd.int .i64) w (some ⟨b, 0, none⟩) n xs) (i : Int) (h0 : 0 ≤ i) (h1 : i < n) : w.cell? ⟨b, i.toNat, none⟩ = some (.int .i64 (rd xs i)) := by
  obtain ⟨ad, ea, hx⟩ := Kd.at_int h i h0 h1
  injection ea with ea
  subst ea
  rwa [add_plain] at hx

set_option maxHeartbeats 1000000 in
set_option maxRecDepth 100000 in
theorem meet_calls (gr gi rb ib cr ci : Nat) (rank idom : List Int) (k : Nat) : ∀ (a b r : Int) (w : World),
    w.heap[gr]? = some (.cells #[.slice (some ⟨rb, 0, none⟩) rank.length cr] 29 (0, 0)) → w.heap[gi]? = some (.cells #[.slice (some ⟨ib, 0, none⟩) idom.length ci] 29 (0, 0)) →
    Kd.C (Kd.int .i64) w (some ⟨rb, 0, none⟩) rank.length rank → Kd.C (Kd.int .i64) w (some ⟨ib, 0, none⟩) idom.length idom → meetF rank idom k a b = some r →
    Calls Try.prog 29 #[.int .i64 a, .int .i64 b, .pointer (some ⟨gr, 0, none⟩), .pointer (some ⟨gi, 0, none⟩)] w fun e w' => e = .returned (.int .i64 r) ∧ Drawn0 w w' := by
  intro a b r w e1 e2 hR hI h
  have HR := Aside0.mk hR
  have HI := Aside0.mk hI
  have E1 := Aside0.mk e1
  have E2 := Aside0.mk e2
  have H := Aside0.mk h
  clear e1 e2 hR hI h
  go_enter Try.func29, Try.ntmps29
  go_wp2_with fail
  go_loopg [0, 1] k (fun kq va vb w' => ∃ (a1 b1 : Int), va = .int .i64 a1 ∧ vb = .int .i64 b1 ∧ Aside0 (meetF rank idom kq a1 b1 = some r) ∧ Drawn0 w w')
  case atStart => exact ⟨a, b, rfl, rfl, H, Drawn0.refl _⟩
  case round =>
    clear H
    obtain ⟨a1, b1, rfl, rfl, H, HD⟩ := hrel
    cases gk with
    | zero => exact absurd H.out (by simp [meetF])
    | succ k1 =>
    have h := H.out
    unfold meetF at h
    clear H
    by_cases he : a1 = b1
    · subst he
      rw [if_pos rfl] at h
      injection h with h
      subst h
      have hq : (a1 != a1) = false := bne_self_eq_false a1
      go_wp2_with fail
      go_ret
      exact ⟨rfl, HD⟩
    · rw [if_neg he] at h
      have hq : (a1 != b1) = true := bne_iff_ne.2 he
      by_cases hb : 0 ≤ a1 ∧ a1 < (rank.length : Int) ∧ 0 ≤ b1 ∧ b1 < (rank.length : Int) ∧ rank.length = idom.length
      · rw [if_pos hb] at h
        obtain ⟨h0, h1, h2, h3, h4⟩ := hb
        have k1c : wr.cell? ⟨gr, 0, none⟩ = some (.slice (some ⟨rb, 0, none⟩) rank.length cr) := (blk_cell (blk_below E1.out HD.below) 0).trans rfl
        have k2c : wr.cell? ⟨gi, 0, none⟩ = some (.slice (some ⟨ib, 0, none⟩) idom.length ci) := (blk_cell (blk_below E2.out HD.below) 0).trans rfl
        have c1 := cell_int (Kd.C_below HR.out HD.below) a1 h0 h1
        have c2 := cell_int (Kd.C_below HR.out HD.below) b1 h2 h3
        have c3 := cell_int (Kd.C_below HI.out HD.below) a1 h0 (by omega)
        have c4 := cell_int (Kd.C_below HI.out HD.below) b1 h2 (by omega)
        have i0 : 0 ≤ a1 ∧ a1 < (rank.length : Int) := ⟨h0, h1⟩
        have i1 : 0 ≤ b1 ∧ b1 < (rank.length : Int) := ⟨h2, h3⟩
        have i2 : a1 < (idom.length : Int) := by omega
        have i3 : b1 < (idom.length : Int) := by omega
        have H4 := Aside0.mk h4
        clear h4 he
        by_cases hg : rd rank a1 > rd rank b1
        · rw [if_pos hg] at h
          have H := Aside0.mk h
          have hg' : rd rank b1 < rd rank a1 := hg
          clear h hg
          go_wp2_with fail
          go_quiet (fail)
          go_wp2_with fail
          go_roundg k1
          case measure => omega
          case rel => exact ⟨rd idom a1, b1, rfl, rfl, H, HD.step _⟩
        · rw [if_neg hg] at h
          have H := Aside0.mk h
          have hg' : ¬ rd rank b1 < rd rank a1 := hg
          clear h hg
          go_wp2_with fail
          go_quiet (fail)
          go_wp2_with fail
          go_roundg k1
          case measure => omega
          case rel => exact ⟨a1, rd idom b1, rfl, rfl, H, HD.step _⟩
      · rw [if_neg hb] at h; exact absurd h (by simp)

/-- What Tree leaves where it is, and the two lists as they now are. -/
def TInv (w0 : World) (gg gr gi rb ib cr ci : Nat) (A0 : Option Addr) (c0 : Nat) (l0 : List S46) (A1 : Option Addr) (c1 : Nat) (l1 : List (List Int)) (vO : Value) (order rank idom : List Int) (w : World) : Prop :=
  Below w0.heap.size w0 w ∧ w.heap[gg]? = some (.cells #[.slice A0 l0.length c0, .slice A1 l1.length c1] 25 (0, 0)) ∧
  w.heap[gr]? = some (.cells #[.slice (some ⟨rb, 0, none⟩) rank.length cr] 29 (0, 0)) ∧ w.heap[gi]? = some (.cells #[.slice (some ⟨ib, 0, none⟩) idom.length ci] 29 (0, 0)) ∧
  Kd.R (Kd.int .i64) 3 w w0.heap.size (fun k => k = rb) (.slice (some ⟨rb, 0, none⟩) rank.length cr) rank ∧ Kd.R (Kd.int .i64) 3 w w0.heap.size (fun k => k = ib) (.slice (some ⟨ib, 0, none⟩) idom.length ci) idom ∧
  Kd.R (Kd.int .i64) 3 w w0.heap.size (fun k => k ≠ rb ∧ k ≠ ib) vO order ∧ rb ≠ ib
section
variable {w0 w : World} {gg gr gi rb ib cr ci : Nat} {A0 : Option Addr} {c0 : Nat} {l0 : List S46} {A1 : Option Addr} {c1 : Nat} {l1 : List (List Int)} {vO : Value} {order rank idom : List Int}
theorem TInv.drewN (h : TInv w0 gg gr gi rb ib cr ci A0 c0 l0 A1 c1 l1 vO order rank idom w) (n : Nat) : TInv w0 gg gr gi rb ib cr ci A0 c0 l0 A1 c1 l1 vO order rank idom (w.drewN n) := by
  obtain ⟨hb, h1, h2, h3, h4, h5, h6, h7⟩ := h
  exact ⟨pw_below_drewN hb n, h1, h2, h3, Kd.R_drewN h4 n, Kd.R_drewN h5 n, Kd.R_drewN h6 n, h7⟩
theorem R_blk {e base : Nat} {ok : Nat → Prop} {b n c : Nat} {xs : List Int} (h : Kd.R (Kd.int .i64) e w base ok (.slice (some ⟨b, 0, none⟩) n c) xs) (hp : 0 < xs.length) : base ≤ b ∧ b < w.heap.size ∧ ∃ cells, w.heap[b]? = some (.cells cells e (0, 0)) := by
  obtain ⟨g, cp, ev, gb, gl, hg⟩ := Kd.R_form h hp
  injection ev with ea _ _
  injection ea with ea
  injection ea with eg
  subst eg
  exact ⟨gb, gl, hg⟩
theorem TInv.storeI (h : TInv w0 gg gr gi rb ib cr ci A0 c0 l0 A1 c1 l1 vO order rank idom w) (i x : Int) (h0 : 0 ≤ i) (h1 : i < idom.length) :
    TInv w0 gg gr gi rb ib cr ci A0 c0 l0 A1 c1 l1 vO order rank (idom.set i.toNat x) (w.setCell ⟨ib, i.toNat, none⟩ (.int .i64 x)) := by
  obtain ⟨hb, e1, e2, e3, h4, h5, h6, h7⟩ := h
  obtain ⟨gb, gl, cells, hg⟩ := R_blk h5 (by omega)
  have hp := Kd.R_putg h5 i x
  refine ⟨below_set hb gb, blk_far e1 (blk_ne e1 hg (by decide)) _, blk_far e2 (blk_ne e2 hg (by decide)) _, ?_, ?_, ?_, ?_, h7⟩
  · rw [List.length_set]; exact blk_far e3 (blk_ne e3 hg (by decide)) _
  · exact Kd.R_far (p := ⟨ib, _, none⟩) h4 (fun k hk => by rw [hk]; exact h7) _
  · rw [List.length_set]; exact hp.1
  · exact Kd.R_far (p := ⟨ib, _, none⟩) h6 (fun k hk => hk.2) _
theorem TInv.storeR (h : TInv w0 gg gr gi rb ib cr ci A0 c0 l0 A1 c1 l1 vO order rank idom w) (i x : Int) (h0 : 0 ≤ i) (h1 : i < rank.length) :
    TInv w0 gg gr gi rb ib cr ci A0 c0 l0 A1 c1 l1 vO order (rank.set i.toNat x) idom (w.setCell ⟨rb, i.toNat, none⟩ (.int .i64 x)) := by
  obtain ⟨hb, e1, e2, e3, h4, h5, h6, h7⟩ := h
  obtain ⟨gb, gl, cells, hg⟩ := R_blk h4 (by omega)
  have hp := Kd.R_putg h4 i x
  refine ⟨below_set hb gb, blk_far e1 (blk_ne e1 hg (by decide)) _, ?_, blk_far e3 (blk_ne e3 hg (by decide)) _, ?_, ?_, ?_, h7⟩
  · rw [List.length_set]; exact blk_far e2 (blk_ne e2 hg (by decide)) _
  · rw [List.length_set]; exact hp.1
  · exact Kd.R_far (p := ⟨rb, _, none⟩) h5 (fun k hk => by rw [hk]; exact h7.symm) _
  · exact Kd.R_far (p := ⟨rb, _, none⟩) h6 (fun k hk => hk.1) _
theorem TInv.cellR (h : TInv w0 gg gr gi rb ib cr ci A0 c0 l0 A1 c1 l1 vO order rank idom w) (i : Int) (h0 : 0 ≤ i) (h1 : i < rank.length) : w.cell? ⟨rb, i.toNat, none⟩ = some (.int .i64 (rd rank i)) ∧ w.frozen? ⟨rb, i.toNat, none⟩ = false := by
  obtain ⟨hb, e1, e2, e3, h4, h5, h6, h7⟩ := h
  obtain ⟨gb, gl, cells, hg⟩ := R_blk h4 (by omega)
  exact ⟨cell_int (Kd.R_reads' h4).2.2 i h0 h1, blk_frozen hg _⟩
theorem TInv.cellI (h : TInv w0 gg gr gi rb ib cr ci A0 c0 l0 A1 c1 l1 vO order rank idom w) (i : Int) (h0 : 0 ≤ i) (h1 : i < idom.length) : w.cell? ⟨ib, i.toNat, none⟩ = some (.int .i64 (rd idom i)) ∧ w.frozen? ⟨ib, i.toNat, none⟩ = false := by
  obtain ⟨hb, e1, e2, e3, h4, h5, h6, h7⟩ := h
  obtain ⟨gb, gl, cells, hg⟩ := R_blk h5 (by omega)
  exact ⟨cell_int (Kd.R_reads' h5).2.2 i h0 h1, blk_frozen hg _⟩
theorem TInv.boxG (h : TInv w0 gg gr gi rb ib cr ci A0 c0 l0 A1 c1 l1 vO order rank idom w) : w.cell? ⟨gg, 0, none⟩ = some (.slice A0 l0.length c0) ∧ w.cell? ⟨gg, 1, none⟩ = some (.slice A1 l1.length c1) := ⟨(blk_cell h.2.1 0).trans rfl, (blk_cell h.2.1 1).trans rfl⟩
theorem TInv.boxR (h : TInv w0 gg gr gi rb ib cr ci A0 c0 l0 A1 c1 l1 vO order rank idom w) : w.cell? ⟨gr, 0, none⟩ = some (.slice (some ⟨rb, 0, none⟩) rank.length cr) := (blk_cell h.2.2.1 0).trans rfl
theorem TInv.boxI (h : TInv w0 gg gr gi rb ib cr ci A0 c0 l0 A1 c1 l1 vO order rank idom w) : w.cell? ⟨gi, 0, none⟩ = some (.slice (some ⟨ib, 0, none⟩) idom.length ci) := (blk_cell h.2.2.2.1 0).trans rfl
theorem TInv.below (h : TInv w0 gg gr gi rb ib cr ci A0 c0 l0 A1 c1 l1 vO order rank idom w) : Below w0.heap.size w0 w := h.1
theorem TInv.readsO {Ao : Option Addr} {co : Nat} (h : TInv w0 gg gr gi rb ib cr ci A0 c0 l0 A1 c1 l1 (.slice Ao order.length co) order rank idom w) : Kd.C (Kd.int .i64) w Ao order.length order := (Kd.R_reads' h.2.2.2.2.2.2.1).2.2
theorem TInv.start {w2 w3 w4 : World} {gg : Nat} {vO : Value} (hb : Below w0.heap.size w0 w2) (hgg : w2.heap[gg]? = some (.cells #[.slice A0 l0.length c0, .slice A1 l1.length c1] 25 (0, 0))) (hO : Kd.R (Kd.int .i64) 3 w2 w0.heap.size (fun _ => True) vO order)
    (hb3 : Below w2.heap.size w2 w3) (hr : Kd.R (Kd.int .i64) 3 w3 w2.heap.size (fun k => k = w2.heap.size) (.slice (some ⟨rb, 0, none⟩) rank.length cr) rank) (hb4 : Below (w3.heap.size + 1) (w3.alloc (.cells #[.slice (some ⟨rb, 0, none⟩) rank.length cr] 29)) w4)
    (hi : Kd.R (Kd.int .i64) 3 w4 (w3.heap.size + 1) (fun k => k = w3.heap.size + 1) (.slice (some ⟨ib, 0, none⟩) idom.length ci) idom) :
    TInv w0 gg w3.heap.size w4.heap.size rb ib cr ci A0 c0 l0 A1 c1 l1 vO order rank idom (w4.alloc (.cells #[.slice (some ⟨ib, 0, none⟩) idom.length ci] 29)) := by
  have hrb : rb = w2.heap.size := hr.1 rb rfl
  have hib : ib = w3.heap.size + 1 := hi.1 ib rfl
  have s2 := hb.size
  have s3 := hb3.size
  have s4 := hb4.size
  have hb4' : Below (w3.alloc (.cells #[.slice (some ⟨rb, 0, none⟩) rank.length cr] 29)).heap.size (w3.alloc (.cells #[.slice (some ⟨rb, 0, none⟩) rank.length cr] 29)) w4 := by simpa using hb4
  have hW3 : Below w0.heap.size w0 (w3.alloc (.cells #[.slice (some ⟨rb, 0, none⟩) rank.length cr] 29)) := below_alloc (below_step hb hb3) _
  have hW : Below w0.heap.size w0 w4 := below_step hW3 hb4'
  refine ⟨below_alloc hW _, blk_alloc (blk_below (blk_alloc (blk_below hgg hb3) _) hb4') _, blk_alloc (blk_below (blk_new w3 _) hb4') _, blk_new w4 _, ?_, ?_, ?_, by omega⟩
  · exact Kd.R_alloc (Kd.R_below (Kd.R_alloc (Kd.R_lower (Kd.R_mono hr (fun k hk => hk.trans hrb.symm)) (by omega)) _) hb4') _
  · exact Kd.R_alloc (Kd.R_lower (Kd.R_mono hi (fun k hk => hk.trans hib.symm)) (by omega)) _
  · refine Kd.R_alloc (Kd.R_below (Kd.R_alloc (Kd.R_below (Kd.R_mono (Kd.R_bound hO) (fun k hk => ?_)) hb3) _) hb4') _
    have := hk.2.2.1
    omega
end

def fill (n j : Nat) : List Int := List.replicate j (-1) ++ List.replicate (n - j) 0
theorem fill_len {n j : Nat} (h : j ≤ n) : (fill n j).length = n := by simp [fill]; omega
theorem fill_set {n j : Nat} (h : j < n) : (fill n j).set j (-1) = fill n (j + 1) := by
  unfold fill
  rw [show n - j = (n - (j + 1)) + 1 by omega, List.replicate_succ, List.set_append_right _ _ (by simp)]
  simp only [List.length_replicate, Nat.sub_self, List.set_cons_zero]
  rw [List.replicate_succ', List.append_assoc]
  rfl
theorem fill_all (n : Nat) : fill n n = List.replicate n (-1) := by simp [fill]
theorem fill_none (n : Nat) : fill n 0 = List.replicate n 0 := by simp [fill]
section
variable {w0 w : World} {gg gr gi rb ib cr ci : Nat} {A0 : Option Addr} {c0 : Nat} {l0 : List S46} {A1 : Option Addr} {c1 : Nat} {l1 : List (List Int)} {vO : Value} {order : List Int} {n j : Nat}
theorem TInv.fillRI (h : TInv w0 gg gr gi rb ib cr ci A0 c0 l0 A1 c1 l1 vO order (fill n j) (fill n j) w) (hj : j < n) :
    TInv w0 gg gr gi rb ib cr ci A0 c0 l0 A1 c1 l1 vO order (fill n (j + 1)) (fill n (j + 1)) ((w.setCell ⟨rb, j, none⟩ (.int .i64 (-1))).setCell ⟨ib, j, none⟩ (.int .i64 (-1))) := by
  have h1 := h.storeR (j : Int) (-1) (by omega) (by rw [fill_len (by omega)]; omega)
  have h2 := h1.storeI (j : Int) (-1) (by omega) (by rw [fill_len (by omega)]; omega)
  rw [Int.toNat_natCast, fill_set hj] at h2
  exact h2
theorem TInv.fillIR (h : TInv w0 gg gr gi rb ib cr ci A0 c0 l0 A1 c1 l1 vO order (fill n j) (fill n j) w) (hj : j < n) :
    TInv w0 gg gr gi rb ib cr ci A0 c0 l0 A1 c1 l1 vO order (fill n (j + 1)) (fill n (j + 1)) ((w.setCell ⟨ib, j, none⟩ (.int .i64 (-1))).setCell ⟨rb, j, none⟩ (.int .i64 (-1))) := by
  have h1 := h.storeI (j : Int) (-1) (by omega) (by rw [fill_len (by omega)]; omega)
  have h2 := h1.storeR (j : Int) (-1) (by omega) (by rw [fill_len (by omega)]; omega)
  rw [Int.toNat_natCast, fill_set hj] at h2
  exact h2
end
section
variable {w0 w : World} {gg gr gi rb ib cr ci : Nat} {A0 : Option Addr} {c0 : Nat} {l0 : List S46} {A1 : Option Addr} {c1 : Nat} {l1 : List (List Int)} {vO : Value} {order rank idom : List Int}
theorem TInv.apart (h : TInv w0 gg gr gi rb ib cr ci A0 c0 l0 A1 c1 l1 vO order rank idom w) (hp : 0 < rank.length) (hq : 0 < idom.length) : (gr ≠ rb ∧ gr ≠ ib ∧ gi ≠ rb ∧ gi ≠ ib) ∧ (rb ≠ gr ∧ ib ≠ gr ∧ rb ≠ gi ∧ ib ≠ gi) := by
  obtain ⟨hb, e1, e2, e3, h4, h5, h6, h7⟩ := h
  obtain ⟨_, _, cs, hr⟩ := R_blk h4 hp
  obtain ⟨_, _, ci, hi⟩ := R_blk h5 hq
  have q1 := blk_ne e2 hr (by decide)
  have q2 := blk_ne e2 hi (by decide)
  have q3 := blk_ne e3 hr (by decide)
  have q4 := blk_ne e3 hi (by decide)
  exact ⟨⟨q1, q2, q3, q4⟩, q1.symm, q2.symm, q3.symm, q4.symm⟩
end
theorem cut_tail (Ao : Option Addr) (co : Nat) (order : List Int) (hp : 0 < order.length) (hc : order.length ≤ co) : ∃ A' : Option Addr, (∀ W : World, (Instr.slice 29 (.slice Ao order.length co) (some (.int .i64 1)) none none).run Try.prog W = .ok (.slice A' order.tail.length (co - 1)) W) ∧
    (∀ w : World, Kd.C (Kd.int .i64) w Ao order.length order → Kd.C (Kd.int .i64) w A' order.tail.length order.tail) := by
  obtain ⟨i0, hi, hz0, hz1, hz2⟩ := info_parts info3
  obtain ⟨A', h1, h2, _⟩ := print_drop_of (P := Try.prog) (Value.int .i64) (0 : Int) 29 3 .i64 Try.underlying29 hi hz1 Ao co order 1 (by omega) (by omega) hc
  have e1 : order.drop (1 : Int).toNat = order.tail := by simp
  rw [e1] at h1 h2
  exact ⟨A', h1, fun w h => Kd.C_of_reads (d := (0 : Int)) (h2 w (Kd.reads_of_C h))⟩
theorem drop_rd (xs : List Int) (j : Nat) (h : j < xs.length) : xs.drop j = rd xs j :: xs.drop (j + 1) := by
  rw [List.drop_eq_getElem_cons h]
  congr 1
  unfold rd
  rw [Int.toNat_natCast]
  simp [List.getD, List.getElem?_eq_getElem h]
theorem TInv.drew {w0 w : World} {gg gr gi rb ib cr ci : Nat} {A0 : Option Addr} {c0 : Nat} {l0 : List S46} {A1 : Option Addr} {c1 : Nat} {l1 : List (List Int)} {vO : Value} {order rank idom : List Int} (h : TInv w0 gg gr gi rb ib cr ci A0 c0 l0 A1 c1 l1 vO order rank idom w) : TInv w0 gg gr gi rb ib cr ci A0 c0 l0 A1 c1 l1 vO order rank idom w.drew := by
  obtain ⟨hb, h1, h2, h3, h4, h5, h6, h7⟩ := h
  exact ⟨below_drew1 hb, h1, h2, h3, Kd.R_drew h4, Kd.R_drew h5, Kd.R_drew h6, h7⟩
theorem TInv.of_drawn {w0 w w' : World} {gg gr gi rb ib cr ci : Nat} {A0 : Option Addr} {c0 : Nat} {l0 : List S46} {A1 : Option Addr} {c1 : Nat} {l1 : List (List Int)} {vO : Value} {order rank idom : List Int} (h : TInv w0 gg gr gi rb ib cr ci A0 c0 l0 A1 c1 l1 vO order rank idom w) (hd : Drawn0 w w') : TInv w0 gg gr gi rb ib cr ci A0 c0 l0 A1 c1 l1 vO order rank idom w' := by
  obtain ⟨⟨n, rfl⟩⟩ := hd
  exact h.drewN n

set_option maxHeartbeats 4000000 in
set_option maxRecDepth 100000 in
theorem dominator_Tree.calls (k : Nat) (A0 : Option Addr) (c0 : Nat) (l0 : List S46) (A1 : Option Addr) (c1 : Nat) (l1 : List (List Int)) (r : List Int) (w : World) (hr0 : Kd.C k46 w A0 l0.length l0) (hc0 : l0.length ≤ c0) (hr1 : Kd.C (Kd.slice 3 (Kd.int .i64)) w A1 l1.length l1) (hc1 : l1.length ≤ c1) (h : dominator_Tree.f k l0 l1 = some r) :
    Calls Try.prog 14 #[.agg #[.slice A0 l0.length c0, .slice A1 l1.length c1]] w fun e w' => ∃ v0_ : Value, e = .returned (v0_) ∧ Kd.R (Kd.int .i64) 3 w' w.heap.size (fun _ => True) v0_ r ∧ Below w.heap.size w w' := by
  have hu25 := Try.underlying25
  have hl0 : l0.length ≤ 9223372036854775807 := hr0.2.1
  have HR0 := Aside0.mk hr0
  have HR1 := Aside0.mk hr1
  have HC0 := Aside0.mk hc0
  have HC1 := Aside0.mk hc1
  clear hr0 hr1 hc0 hc1
  unfold dominator_Tree.f at h
  replace h := Option.bind_eq_some_iff.mp h
  obtain ⟨order, hv, h⟩ := h
  have HV := Aside0.mk hv
  clear hv
  by_cases hO0 : order.length = 0
  · rw [if_pos hO0] at h
    injection h with h
    subst h
    obtain rfl : order = [] := List.eq_nil_of_length_eq_zero hO0
    clear hO0
    go_enter Try.func14, Try.ntmps14
    go_wp2_with (go_at_call 15; refine (dominator_Order.calls k A0 c0 l0 A1 c1 l1 [] _ (Kd.C_alloc HR0.out _) HC0.out (Kd.C_alloc HR1.out _) HC1.out HV.out).mono ?_; rintro e w2 ⟨v, rfl, ho, hb⟩; have HB := Aside0.mk (below_step (below_alloc (Below.refl w.heap.size w) _) hb); obtain ⟨Ao, co, rfl⟩ := Kd.R_slice ho; clear hb ho; rw [List.length_nil])
    go_ret
    exact ⟨_, rfl, Kd.R_nil _ _ _ _ _, HB.out⟩
  · rw [if_neg hO0] at h
    by_cases hlim : l0.length ≤ 17592186044416 ∧ 0 < l0.length
    · rw [if_pos hlim] at h
      obtain ⟨hlim, hpos⟩ := hlim
      replace h := Option.bind_eq_some_iff.mp h
      obtain ⟨rank, hrk, h⟩ := h
      replace h := Option.bind_eq_some_iff.mp h
      obtain ⟨idom, hout, h⟩ := h
      injection h with h
      have HRK := Aside0.mk hrk
      have HOUT := Aside0.mk hout
      have HFIN := Aside0.mk h
      clear hrk hout h
      have hz : ((order.length : Int) == 0) = false := beq_eq_false_iff_ne.2 (by omega)
      have HZ := Aside0.mk hO0
      clear hO0
      go_enter Try.func14, Try.ntmps14
      go_wp2_with (first | (go_at_call 15; refine (dominator_Order.calls k A0 c0 l0 A1 c1 l1 order _ (Kd.C_alloc HR0.out _) HC0.out (Kd.C_alloc HR1.out _) HC1.out HV.out).mono ?_; rintro e w2 ⟨v, rfl, ho, hb⟩; have HE2 := Aside0.mk (blk_below (blk_new w _) hb); obtain ⟨Ao, co, rfl⟩ := Kd.R_slice ho; have HO := Aside0.mk (Kd.R_lower ho (Nat.le_trans (Nat.le_succ _) (by simp) : w.heap.size ≤ _)); have HB := Aside0.mk (below_step (below_alloc (Below.refl w.heap.size w) _) hb); have k2 : w2.cell? ⟨w.heap.size, 0, none⟩ = some (.slice A0 l0.length c0) := (blk_cell HE2.out 0).trans rfl; clear hb ho) | ((with_reducible refine gate_dst (N := 24) rfl ?_); refine Kd.R_make (Kd.int .i64) _ 3 rfl (N := 24) rfl 29 _ _ rfl (l0.length : Int) rfl rfl Try.underlying29 (.int .i64 0) 8 info3 rfl (by decide) (by omega) 0 (ok := fun k => k = w2.heap.size) (okp := fun _ => False) rfl (fun _ hk => hk.elim) rfl (by omega) (by omega) (Below.refl _ _) (Nat.le_refl _) ?_; intro v3 w3 ho hb hg_ hnew_; clear hg_ hnew_; rw [Int.toNat_natCast] at ho; obtain ⟨rb, cr, rfl, gb_, gl_, _⟩ := Kd.R_form ho (by rw [List.length_replicate]; exact hpos); have HR3 := Aside0.mk ho; have HB3 := Aside0.mk hb; have k3 : ∀ o, (w3.alloc o).cell? ⟨w.heap.size, 0, none⟩ = some (.slice A0 l0.length c0) := fun o => (blk_cell (blk_alloc (blk_below HE2.out hb) o) 0).trans rfl; clear hb ho gb_ gl_ k2; rw [List.length_replicate]) | ((with_reducible refine gate_dst (N := 28) rfl ?_); refine Kd.R_make (Kd.int .i64) (w3.heap.size + 1) 3 rfl (N := 28) rfl 29 _ _ rfl (l0.length : Int) rfl rfl Try.underlying29 (.int .i64 0) 8 info3 rfl (by decide) (by omega) 0 (ok := fun k => k = w3.heap.size + 1) (okp := fun _ => False) rfl (fun _ hk => hk.elim) (by simp) (by omega) (by omega) (Below.refl _ _) (by simp) ?_; intro v4 w4 ho hb hg_ hnew_; clear hg_ hnew_; rw [Int.toNat_natCast] at ho; obtain ⟨ib, ci, rfl, gb_, gl_, _⟩ := Kd.R_form ho (by rw [List.length_replicate]; exact hpos); have HI4 := Aside0.mk ho; have HB4 := Aside0.mk hb; clear hb ho gb_ gl_ k3; rw [List.length_replicate]))
      have HT0 := Aside0.mk (TInv.start (w0 := w) (l1 := l1) (A1 := A1) (c1 := c1) (rank := fill l0.length 0) (idom := fill l0.length 0) HB.out HE2.out HO.out HB3.out (by have h := HR3.out; rw [List.length_replicate] at h; rw [fill_len (Nat.zero_le _), fill_none]; exact h) (by rw [fill_len (Nat.zero_le _)]; exact HB4.out) (by have h := HI4.out; rw [List.length_replicate] at h; rw [fill_len (Nat.zero_le _), fill_none]; exact h))
      clear HE2 HO HB HR3 HB3 HI4 HB4
      rw [fill_len (Nat.zero_le _)] at HT0
      obtain ⟨gr, hgr⟩ : ∃ gr, gr = w3.heap.size := ⟨_, rfl⟩
      obtain ⟨gi, hgi⟩ : ∃ gi, gi = w4.heap.size := ⟨_, rfl⟩
      rw [← hgr, ← hgi] at HT0
      rw [← hgr, ← hgi]
      clear hgr hgi
      go_loopw [6, 31] (fun _ i wr => ∃ j : Nat, j ≤ l0.length ∧ i = .int .i64 j ∧ Aside0 (TInv w w.heap.size gr gi rb ib cr ci A0 c0 l0 A1 c1 l1 (.slice Ao order.length co) order (fill l0.length j) (fill l0.length j) wr)) (fun _ i _ => l0.length - (intOf i).toNat)
      case atStart => exact ⟨0, Nat.zero_le _, rfl, HT0⟩
      case round =>
        clear HT0
        obtain ⟨j, hj, rfl, HT⟩ := hrel
        by_cases hlt : j < l0.length
        · have kR := HT.out.boxR
          have kI := HT.out.boxI
          rw [fill_len hj] at kR kI
          obtain ⟨cR, fR⟩ := HT.out.cellR (j : Int) (by omega) (by rw [fill_len hj]; omega)
          obtain ⟨cI, fI⟩ := HT.out.cellI (j : Int) (by omega) (by rw [fill_len hj]; omega)
          rw [Int.toNat_natCast] at cR fR cI fI
          have hne := HT.out.2.2.2.2.2.2.2
          have hne' := hne.symm
          obtain ⟨⟨q1, q2, q3, q4⟩, p1, p2, p3, p4⟩ := HT.out.apart (by rw [fill_len hj]; exact hpos) (by rw [fill_len hj]; exact hpos)
          go_wp2_with fail
          go_region
          go_wp2_with fail
          go_roundw
          case rel => exact ⟨j + 1, by omega, by go_num, ⟨by first | exact (HT.out.fillRI hlt).drew | exact (HT.out.fillIR hlt).drew | exact HT.out.fillRI hlt | exact HT.out.fillIR hlt⟩⟩
          case measure => simp [intOf]; omega
        · obtain rfl : j = l0.length := by omega
          rw [fill_all] at HT
          have h2 := HT.out.readsO
          have hmo : order.length ≤ 9223372036854775807 := h2.2.1
          clear h2 hlt
          go_wp2_with fail
          go_loopw [7, 8, 43] (fun _ _ i wq => ∃ (j : Nat) (rk : List Int), j ≤ order.length ∧ i = .int .i64 j ∧ Aside0 (rankL (order.drop j) j rk = some rank) ∧ Aside0 (rk.length = l0.length) ∧ Aside0 (TInv w w.heap.size gr gi rb ib cr ci A0 c0 l0 A1 c1 l1 (.slice Ao order.length co) order rk (List.replicate l0.length (-1)) wq)) (fun _ _ i _ => order.length - (intOf i).toNat)
          case atStart => exact ⟨0, _, Nat.zero_le _, rfl, HRK, ⟨by simp⟩, HT⟩
          case round =>
            clear HT HRK
            obtain ⟨j, rk, hj, rfl, HRK, HL, HT⟩ := hrel
            by_cases hlt : j < order.length
            · have hr := HRK.out
              rw [drop_rd order j hlt] at hr
              obtain ⟨b, hb⟩ : ∃ b, b = rd order (j : Int) := ⟨_, rfl⟩
              obtain ⟨ad, ea, hx⟩ := Kd.at_int HT.out.readsO j (by omega) (by omega)
              subst ea
              rw [Int.toNat_natCast] at hx
              rw [← hb] at hr hx
              clear hb HRK
              simp only [rankL] at hr
              by_cases hin : 0 ≤ b ∧ b < (rk.length : Int)
              · rw [if_pos hin] at hr
                obtain ⟨b0, b1⟩ := hin
                have HRK := Aside0.mk hr
                have kR := HT.out.boxR
                obtain ⟨cR, fR⟩ := HT.out.cellR b b0 b1
                have hL := HL.out
                rw [hL] at kR b1
                clear hr hL
                go_wp2_with fail
                go_roundw
                case rel => exact ⟨j + 1, rk.set b.toNat (j : Int), by omega, by go_num, HRK, ⟨by rw [List.length_set]; exact HL.out⟩, ⟨HT.out.storeR b j b0 (by rw [HL.out]; exact b1)⟩⟩
                case measure => simp [intOf]; omega
              · rw [if_neg hin] at hr; exact absurd hr (by simp)
            · have hr := HRK.out
              rw [List.drop_eq_nil_of_le (by omega)] at hr
              simp only [rankL, Option.some.injEq] at hr
              subst hr
              have kI := HT.out.boxI
              obtain ⟨cI, fI⟩ := HT.out.cellI 0 (by omega) (by rw [List.length_replicate]; omega)
              rw [List.length_replicate] at kI
              have HT1 := Aside0.mk (HT.out.storeI 0 0 (by omega) (by rw [List.length_replicate]; omega))
              obtain ⟨A', hcut, hcC⟩ := cut_tail Ao co order (by have := HZ.out; omega) (Kd.R_reads' HT.out.2.2.2.2.2.2.1).2.1
              have HCUT := Aside0.mk hcut
              have HCC := Aside0.mk hcC
              simp only [Int.toNat_zero] at cI fI HT1
              clear hcut hcC HRK HT
              have htm : order.tail.length ≤ 9223372036854775807 := by simp; omega
              obtain ⟨tl, htl⟩ : ∃ tl, tl = order.tail := ⟨_, rfl⟩
              rw [← htl] at HOUT HCUT HCC htm
              clear htl
              have hp0 : (0 : Int) < (l0.length : Int) := by omega
              have hp1 : (0 : Int) ≤ 0 ∧ (0 : Int) < (l0.length : Int) := ⟨by omega, hp0⟩
              go_wp2_with fail
              go_loopg [10] k (fun kq v10 w' => ∃ (ch : Bool) (im : List Int), v10 = .bool ch ∧ Aside0 (im.length = l0.length) ∧ Aside0 (if ch = true then outerF rk l1 tl kq im = some idom else im = idom) ∧ Aside0 (TInv w w.heap.size gr gi rb ib cr ci A0 c0 l0 A1 c1 l1 (.slice Ao order.length co) order rk im w'))
              case atStart => exact ⟨true, _, rfl, ⟨by simp⟩, ⟨by rw [if_pos rfl]; exact HOUT.out⟩, HT1⟩
              case round =>
                clear HT1 HOUT kI cI fI
                obtain ⟨ch, im, rfl, HLI, HO, HT⟩ := hrel
                cases ch with
                | false =>
                  have hO := HO.out
                  rw [if_neg (by decide)] at hO
                  subst hO
                  have kI := HT.out.boxI
                  obtain ⟨cI, fI⟩ := HT.out.cellI 0 (by omega) (by rw [HLI.out]; omega)
                  have HT2 := Aside0.mk (HT.out.storeI 0 (-1) (by omega) (by rw [HLI.out]; omega))
                  rw [HLI.out] at kI
                  simp only [Int.toNat_zero] at cI fI HT2
                  have k2 := HT2.out.boxI
                  rw [List.length_set, HLI.out] at k2
                  clear HT HO
                  go_wp2_with fail
                  go_ret
                  refine ⟨_, rfl, ?_, HT2.out.below⟩
                  rw [← HFIN.out]
                  have h := HT2.out.2.2.2.2.2.1
                  rw [List.length_set, HLI.out] at h
                  exact Kd.R_mono h (fun _ _ => trivial)
                | true =>
                  cases gk with
                  | zero => exact absurd HO.out (by simp [outerF])
                  | succ k1 =>
                  have hO := HO.out
                  rw [if_pos rfl] at hO
                  unfold outerF at hO
                  replace hO := Option.bind_eq_some_iff.mp hO
                  obtain ⟨⟨im2, ch2⟩, hP, hO⟩ := hO
                  have HP := Aside0.mk hP
                  have HO2 := Aside0.mk (show (if ch2 = true then outerF rk l1 tl k1 im2 = some idom else im2 = idom) by
                    revert hO
                    cases ch2 <;> simp)
                  have hslice := HCUT.out
                  clear hP hO HO
                  go_wp2_with fail
                  clear hslice
                  go_loopw [10, 12, 13, 60] (fun v10 _ _ i wq => ∃ (j : Nat) (im1 : List Int) (ch1 : Bool), j ≤ tl.length ∧ i = .int .i64 j ∧ v10 = .bool ch1 ∧ Aside0 (passL rk l1 k1 (tl.drop j) im1 ch1 = some (im2, ch2)) ∧ Aside0 (im1.length = l0.length) ∧ Aside0 (TInv w w.heap.size gr gi rb ib cr ci A0 c0 l0 A1 c1 l1 (.slice Ao order.length co) order rk im1 wq)) (fun _ _ _ i _ => tl.length - (intOf i).toNat)
                  case atStart => exact ⟨0, im, false, Nat.zero_le _, rfl, rfl, HP, HLI, HT⟩
                  case round =>
                    clear HP HT HLI
                    obtain ⟨j, im1, ch1, hj, rfl, rfl, HP, HLI, HT⟩ := hrel
                    by_cases hlt : j < tl.length
                    · have hP := HP.out
                      rw [drop_rd tl j hlt] at hP
                      obtain ⟨b, hb⟩ : ∃ b, b = rd tl (j : Int) := ⟨_, rfl⟩
                      obtain ⟨ad, ea, hx⟩ := Kd.at_int (HCC.out _ HT.out.readsO) j (by omega) (by omega)
                      subst ea
                      rw [Int.toNat_natCast] at hx
                      rw [← hb] at hP hx
                      clear hb HP
                      simp only [passL] at hP
                      by_cases hin : 0 ≤ b ∧ b < (l1.length : Int) ∧ b < (im1.length : Int)
                      · rw [if_pos hin] at hP
                        obtain ⟨b0, b1, b2⟩ := hin
                        replace hP := Option.bind_eq_some_iff.mp hP
                        obtain ⟨best, hB, hP⟩ := hP
                        have HB := Aside0.mk hB
                        have HP := Aside0.mk hP
                        obtain ⟨kG0, kG1⟩ := HT.out.boxG
                        obtain ⟨ad1, B1, d1, ea1, hy0, hyl, hyc⟩ := at_L1 HR1.out b b0 b1
                        subst ea1
                        have hy := pw_cell_below HT.out.below hy0
                        clear hy0
                        have HYC := Aside0.mk hyc
                        have hmp : (rd_L1 l1 b).length ≤ 9223372036854775807 := hyc.2.1
                        clear hB hP hyl hyc
                        have HX := Aside0.mk hx
                        have HY := Aside0.mk hy
                        have HG0 := Aside0.mk kG0
                        go_wp2_with fail
                        go_loopw [13, 15, 70] (fun v13 _ i wz => ∃ (q : Nat) (be : Int), q ≤ (rd_L1 l1 b).length ∧ i = .int .i64 q ∧ v13 = .int .i64 be ∧ Aside0 (bestL rk im1 k1 ((rd_L1 l1 b).drop q) be = some best) ∧ Aside0 (TInv w w.heap.size gr gi rb ib cr ci A0 c0 l0 (some ad1) c1 l1 (.slice Ao order.length co) order rk im1 wz)) (fun _ _ i _ => (rd_L1 l1 b).length - (intOf i).toNat)
                        case atStart => exact ⟨0, -1, Nat.zero_le _, rfl, rfl, HB, HT⟩
                        case round =>
                          clear HB HT hx hy kG0 kG1
                          obtain ⟨q, be, hq, rfl, rfl, HB, HT⟩ := hrel
                          by_cases hqt : q < (rd_L1 l1 b).length
                          · have hB := HB.out
                            rw [drop_rd (rd_L1 l1 b) q hqt] at hB
                            obtain ⟨p, hp⟩ : ∃ p, p = rd (rd_L1 l1 b) (q : Int) := ⟨_, rfl⟩
                            obtain ⟨ad2, ea2, hx2⟩ := Kd.at_int (Kd.C_below HYC.out HT.out.below) q (by omega) (by omega)
                            subst ea2
                            rw [Int.toNat_natCast] at hx2
                            rw [← hp] at hB hx2
                            clear hp HB
                            simp only [bestL] at hB
                            by_cases hpi : 0 ≤ p ∧ p < (rk.length : Int) ∧ rk.length = im1.length
                            · rw [if_pos hpi] at hB
                              obtain ⟨p0, p1, p2⟩ := hpi
                              have kR := HT.out.boxR
                              have kI := HT.out.boxI
                              obtain ⟨cR, _⟩ := HT.out.cellR p p0 p1
                              obtain ⟨cI, _⟩ := HT.out.cellI p p0 (by omega)
                              have P2 := Aside0.mk p2
                              rw [HLI.out] at kI
                              rw [p2, HLI.out] at kR p1
                              clear p2
                              by_cases r0 : rd rk p < 0
                              · rw [if_pos r0] at hB
                                have HB := Aside0.mk hB
                                have r0' : decide (rd rk p < 0) = true := decide_eq_true r0
                                clear hB r0
                                go_wp2_with fail
                                go_roundw
                                case rel => exact ⟨q + 1, be, by omega, by go_num, rfl, HB, HT⟩
                                case measure => simp [intOf]; omega
                              · rw [if_neg r0] at hB
                                have r0' : decide (rd rk p < 0) = false := decide_eq_false r0
                                clear r0
                                by_cases r1 : rd im1 p < 0
                                · rw [if_pos r1] at hB
                                  have HB := Aside0.mk hB
                                  have r1' : decide (rd im1 p < 0) = true := decide_eq_true r1
                                  clear hB r1
                                  go_wp2_with fail
                                  go_roundw
                                  case rel => exact ⟨q + 1, be, by omega, by go_num, rfl, HB, HT⟩
                                  case measure => simp [intOf]; omega
                                · rw [if_neg r1] at hB
                                  have r1' : decide (rd im1 p < 0) = false := decide_eq_false r1
                                  clear r1
                                  by_cases r2 : be < 0
                                  · rw [if_pos r2] at hB
                                    have HB := Aside0.mk hB
                                    clear hB
                                    go_wp2_with fail
                                    go_roundw
                                    case rel => exact ⟨q + 1, p, by omega, by go_num, rfl, HB, HT⟩
                                    case measure => simp [intOf]; omega
                                  · rw [if_neg r2] at hB
                                    replace hB := Option.bind_eq_some_iff.mp hB
                                    obtain ⟨m, hM, hB⟩ := hB
                                    have HB := Aside0.mk hB
                                    have HM := Aside0.mk hM
                                    clear hB hM
                                    go_wp2_with (go_at_call 29; refine (meet_calls gr gi rb ib cr ci rk im1 k1 be p m wr HT.out.2.2.1 HT.out.2.2.2.1 (Kd.R_reads' HT.out.2.2.2.2.1).2.2 (Kd.R_reads' HT.out.2.2.2.2.2.1).2.2 HM.out).mono ?_; rintro e w9 ⟨rfl, hd⟩; have HT9 := Aside0.mk (HT.out.of_drawn hd); clear hd)
                                    go_roundw
                                    case rel => exact ⟨q + 1, m, by omega, by go_num, rfl, HB, HT9⟩
                                    case measure => simp [intOf]; omega
                            · rw [if_neg hpi] at hB; exact absurd hB (by simp)
                          · have hB := HB.out
                            rw [List.drop_eq_nil_of_le (by omega)] at hB
                            simp only [bestL, Option.some.injEq] at hB
                            subst hB
                            have kI := HT.out.boxI
                            obtain ⟨cI, fI⟩ := HT.out.cellI b b0 b2
                            rw [HLI.out] at kI
                            have b2' : b < (l0.length : Int) := by have := HLI.out; omega
                            have B2 := Aside0.mk b2
                            clear b2
                            by_cases hne : be = rd im1 b
                            · have hP := HP.out
                              rw [if_neg (by simpa using hne)] at hP
                              have HP := Aside0.mk hP
                              have hbn : (be != rd im1 b) = false := bne_eq_false_iff_eq.2 hne
                              clear hP hne
                              go_wp2_with fail
                              go_roundw
                              case rel => exact ⟨j + 1, im1, ch1, by omega, by go_num, rfl, HP, HLI, HT⟩
                              case measure => simp [intOf]; omega
                            · have hP := HP.out
                              rw [if_pos hne] at hP
                              have HP := Aside0.mk hP
                              have hbn : (be != rd im1 b) = true := bne_iff_ne.2 hne
                              clear hP hne
                              go_wp2_with fail
                              go_roundw
                              case rel => exact ⟨j + 1, im1.set b.toNat be, true, by omega, by go_num, rfl, HP, ⟨by rw [List.length_set]; exact HLI.out⟩, ⟨HT.out.storeI b be b0 B2.out⟩⟩
                              case measure => simp [intOf]; omega
                      · rw [if_neg hin] at hP; exact absurd hP (by simp)
                    · have hP := HP.out
                      rw [List.drop_eq_nil_of_le (by omega)] at hP
                      simp only [passL, Option.some.injEq, Prod.mk.injEq] at hP
                      obtain ⟨rfl, rfl⟩ := hP
                      go_wp2_with fail
                      go_roundg k1
                      case measure => omega
                      case rel => exact ⟨ch1, im1, rfl, HLI, HO2, HT⟩
    · rw [if_neg hlim] at h; exact absurd h (by simp)

end Go.Proofs.Ytnkbmpdghjhlfaa.P
