/- Cooper, Harvey and Kennedy's search, second half: one pass, all passes, and what dominator.Tree answers. -/
import Derived.Test.YtnkbmpdghjhlfaaMTree
namespace Go.Proofs.Ytnkbmpdghjhlfaa.M
open Go.RowKit Go.Proofs.Ytnkbmpdghjhlfaa.P Go.Proofs.YtnkbmpdghjhlfaaW.PrintWords
set_option linter.unusedVariables false
set_option linter.unusedSimpArgs false

theorem rd_neg (xs : List Int) {y : Int} (h : y < 0) : rd xs y = rd xs 0 := by
  unfold rd
  rw [show y.toNat = (0 : Int).toNat by omega]
theorem rd_set_all {xs : List Int} {b v : Int} (hb : 0 < b) (hl : b < xs.length) (y : Int) : rd (xs.set b.toNat v) y = if y = b then v else rd xs y := by
  by_cases hy : 0 ≤ y
  · exact rd_set (by omega) hl hy
  · rw [rd_neg _ (by omega), rd_set (by omega) hl (Int.le_refl _), if_neg (by omega), if_neg (by omega), ← rd_neg xs (by omega : y < 0)]
theorem Anc.congr {f g : Int → Int} {P : Int → Prop} {x y : Int} (h : Anc f x y) (hfg : ∀ z, P z → f z = g z) (hP : ∀ z, P z → P (f z)) (hx : P x) : Anc g x y := by
  induction h with
  | refl x => exact .refl _
  | @step x y _ ih =>
    have := ih (hP x hx)
    rw [hfg x hx] at this
    exact .step this

section
variable {nx pv : List (List Int)} {n : Nat} {order rank : List Int}
/-- A state. -/
structure St (nx : List (List Int)) (n : Nat) (rank c : List Int) : Prop where
  len : c.length = n
  inv : Inv (Ed nx) (rd rank) (rd c)
  un : ∀ x : Int, 0 ≤ x → x < n → ¬ Rd nx x → rd c x = -1

theorem pass_run (hn : 0 < n) (hE : ∀ a b, Ed nx a b → 0 ≤ b ∧ b < n) (hpl : pv.length = n) (hE1 : ∀ a b, Ed nx a b → 0 ≤ a ∧ a < n) (hp : ∀ b p : Int, 0 ≤ b → (p ∈ rd_L1 pv b ↔ Ed nx p b)) (ho : Ord nx order) (hk : Rk nx n order rank) (m : Nat) (hm : ∀ a b, Rd nx a → Rd nx b → rd rank a + rd rank b < m) :
    ∀ (L pre c : List Int) (ch : Bool), order = pre ++ L → 0 ∈ pre → St nx n rank c → (∀ x ∈ pre, 0 ≤ rd c x) →
      ∃ c' ch', passL rank pv m L c ch = some (c', ch') ∧ St nx n rank c' ∧ (∀ x ∈ order, 0 ≤ rd c' x) ∧ (∀ x : Int, x ∉ L → rd c' x = rd c x) ∧
        (∀ b ∈ L, ∀ p, Ed nx p b → Rd nx p → 0 ≤ mix (rd rank) (rd c) (rd c') b p → Anc (mix (rd rank) (rd c) (rd c') b) p (rd c' b)) ∧ (ch' = true ↔ ch = true ∨ c' ≠ c) := by
  have hr := hk.ranked ho
  intro L
  induction L with
  | nil =>
    intro pre c ch he h0 hs hpre
    rw [List.append_nil] at he
    exact ⟨c, ch, rfl, hs, fun x hx => hpre x (by rw [← he]; exact hx), fun _ _ => rfl, fun b hb => by simp at hb, by simp⟩
  | cons b L ih =>
    intro pre c ch he h0 hs hpre
    have hbo : b ∈ order := by rw [he]; simp
    have hbR : Rd nx b := (ho.mem b).1 hbo
    have hbr := reach_range hn hE hbR
    have hb0 : b ≠ 0 := by
      intro e
      have := ho.nodup
      rw [he] at this
      exact (List.nodup_append.1 this).2.2 0 h0 b List.mem_cons_self e.symm
    have hbpos : 0 < b := by omega
    have hbc : b < (c.length : Int) := by rw [hs.len]; exact hbr.2
    have hbpre : b ∉ pre := by
      intro hb
      have := ho.nodup
      rw [he] at this
      exact (List.nodup_append.1 this).2.2 b hb b List.mem_cons_self rfl
    have hbL : b ∉ L := by
      have := ho.nodup
      rw [he] at this
      exact (List.nodup_cons.1 (List.nodup_append.1 this).2.1).1
    have hrb : rd rank b = pre.length := hk.pos _ _ _ he
    have hrL : ∀ y ∈ L, rd rank b < rd rank y := by
      intro y hy
      obtain ⟨l1, l2, e⟩ := List.append_of_mem hy
      have : rd rank y = (pre ++ b :: l1).length := hk.pos (pre ++ b :: l1) y l2 (by rw [he, e]; simp)
      rw [this, hrb]
      simp only [List.length_append, List.length_cons]
      omega
    -- the best
    obtain ⟨x, hx, hcase⟩ := best_run hn hE ho hk c hs.len hs.inv m hm (rd_L1 pv b) (-1) (fun p hpm => hE1 _ _ ((hp b p hbr.1).1 hpm)) (.inl rfl)
    obtain ⟨p0, hp0, e0⟩ : ∃ p ∈ pre, Ed nx p b := by
      rcases ho.before _ _ _ he with h | h
      · exact absurd h hb0
      · exact h
    have hp0R : Rd nx p0 := (ho.mem p0).1 (by rw [he]; exact List.mem_append_left _ hp0)
    have hp0c : Cn nx c p0 := ⟨hp0R, hpre p0 hp0⟩
    have hp0r : rd rank p0 < rd rank b := by
      obtain ⟨l1, l2, e⟩ := List.append_of_mem hp0
      have : rd rank p0 = l1.length := hk.pos l1 p0 (l2 ++ b :: L) (by rw [he, e]; simp)
      rw [this, hrb, e]
      simp only [List.length_append, List.length_cons]
      omega
    rcases hcase with ⟨_, _, h3⟩ | ⟨g1, _, g3, g4⟩
    · exact absurd hp0c (h3 p0 ((hp b p0 hbr.1).2 e0))
    have hxr : rd rank x < rd rank b := by
      have := (g3 p0 ((hp b p0 hbr.1).2 e0) hp0c).2
      omega
    have hxb : x ≠ b := fun e => by rw [e] at hxr; omega
    have hxn := (reach_range hn hE g1.1).1
    have hxd : ∀ d, d ≠ b → ¬ Rc (Ed nx) d b → ¬ Rc (Ed nx) d x := fun d hd hdb => g4 d (fun h => absurd rfl h) (fun p hpm _ => dom_pred hdb hd ((hp b p hbr.1).1 hpm))
    -- the state behind it
    obtain ⟨c2, ch2, hc2, hl2, hrun, hch2⟩ : ∃ c2 ch2, (∀ y, rd c2 y = if y = b then x else rd c y) ∧ c2.length = n ∧ passL rank pv m (b :: L) c ch = passL rank pv m L c2 ch2 ∧ (x = rd c b ∧ c2 = c ∧ ch2 = ch ∨ x ≠ rd c b ∧ ch2 = true) := by
      by_cases hxc : x ≠ rd c b
      · refine ⟨c.set b.toNat x, true, fun y => rd_set_all hbpos hbc y, by rw [List.length_set]; exact hs.len, ?_, .inr ⟨hxc, rfl⟩⟩
        rw [passL, if_pos ⟨hbr.1, by rw [hpl]; exact hbr.2, hbc⟩, hx, Option.bind_some, if_pos hxc]
      · have hxc' : x = rd c b := Classical.not_not.1 hxc
        refine ⟨c, ch, fun y => ?_, hs.len, ?_, .inl ⟨hxc', rfl, rfl⟩⟩
        · split
          · rename_i h; rw [h, hxc']
          · rfl
        · rw [passL, if_pos ⟨hbr.1, by rw [hpl]; exact hbr.2, hbc⟩, hx, Option.bind_some, if_neg hxc]
    have hs2 : St nx n rank c2 := by
      refine ⟨hl2, ⟨by rw [hc2, if_neg (fun e => hb0 e.symm)]; exact hs.inv.zero, fun y hy hy0 => ?_⟩, fun y y0 y1 hy => ?_⟩
      · by_cases hyb : y = b
        · subst hyb
          right
          rw [hc2 y, if_pos rfl, hc2 x, if_neg hxb]
          exact ⟨g1.1, g1.2, hxr, hxd⟩
        · rw [hc2 y, if_neg hyb]
          rcases hs.inv.ok y hy hy0 with q | ⟨q1, q2, q3, q4⟩
          · exact .inl q
          · right
            refine ⟨q1, ?_, q3, q4⟩
            rw [hc2]
            split
            · exact hxn
            · exact q2
      · rw [hc2, if_neg (fun e => hy (by rw [e]; exact hbR))]
        exact hs.un y y0 y1 hy
    obtain ⟨c', ch', r1, r2, r3, r4, r5, r6⟩ := ih (pre ++ [b]) c2 ch2 (by rw [he]; simp) (List.mem_append_left _ h0) hs2 (fun y hy => by
      rw [hc2]
      split
      · exact hxn
      · rename_i hyb
        rcases List.mem_append.1 hy with hy | hy
        · exact hpre y hy
        · exact absurd (List.mem_singleton.1 hy) hyb)
    have hcb : rd c' b = x := by rw [r4 b hbL, hc2, if_pos rfl]
    refine ⟨c', ch', by rw [hrun]; exact r1, r2, r3, fun y hy => ?_, fun b2 hb2 p e hpR hnn => ?_, ?_⟩
    · rw [r4 y (fun h => hy (List.mem_cons_of_mem _ h)), hc2, if_neg (fun e => hy (by rw [e]; exact List.mem_cons_self))]
    · rcases List.mem_cons.1 hb2 with rfl | hb2
      · have hmix : mix (rd rank) (rd c) (rd c') b2 = rd c := by
          funext y
          unfold mix
          split
          · rename_i hlt
            have hyL : y ∉ L := fun h => by have := hrL y h; omega
            rw [r4 y hyL, hc2, if_neg (fun e => by rw [e] at hlt; omega)]
          · rfl
        rw [hmix] at hnn ⊢
        rw [hcb]
        exact (g3 p ((hp _ p hbr.1).2 e) ⟨hpR, hnn⟩).1
      · have hmix : mix (rd rank) (rd c) (rd c') b2 = mix (rd rank) (rd c2) (rd c') b2 := by
          funext y
          unfold mix
          split
          · rfl
          · rename_i hlt
            have := hrL b2 hb2
            rw [hc2, if_neg (fun e => by rw [e] at hlt; omega)]
        rw [hmix] at hnn ⊢
        exact r5 b2 hb2 p e hpR hnn
    · rcases hch2 with ⟨h1, h2, h3⟩ | ⟨h1, h2⟩
      · rw [r6, h2, h3]
      · rw [r6, h2]
        refine ⟨fun _ => .inr (fun e => h1 ?_), fun _ => .inl rfl⟩
        rw [← hcb, e]

/-- What Tree answers on a graph. -/
structure TreeOk (nx : List (List Int)) (n : Nat) (idom : List Int) : Prop where
  len : idom.length = n
  zero : rd idom 0 = -1
  un : ∀ x : Int, 0 ≤ x → x < n → ¬ Rd nx x → rd idom x = -1
  idom : ∀ x, Rd nx x → x ≠ 0 → Idom (Ed nx) (rd idom x) x
theorem TreeOk.unique {a b : List Int} (ha : TreeOk nx n a) (hb : TreeOk nx n b) : a = b := by
  refine rd_ext (ha.len.trans hb.len.symm) fun i h0 h1 => ?_
  by_cases hi : i = 0
  · rw [hi, ha.zero, hb.zero]
  · by_cases hR : Rd nx i
    · exact Idom.unique hR (ha.idom i hR hi) (hb.idom i hR hi)
    · rw [ha.un i h0 (by rw [← ha.len]; exact h1) hR, hb.un i h0 (by rw [← ha.len]; exact h1) hR]

/-- The passes end. -/
theorem outer_run (hn : 0 < n) (hE : ∀ a b, Ed nx a b → 0 ≤ b ∧ b < n) (hpl : pv.length = n) (hE1 : ∀ a b, Ed nx a b → 0 ≤ a ∧ a < n) (hp : ∀ b p : Int, 0 ≤ b → (p ∈ rd_L1 pv b ↔ Ed nx p b)) (ho : Ord nx order) (hk : Rk nx n order rank) :
    ∃ S k0, (∀ k, k0 ≤ k → outerF rank pv order.tail k ((List.replicate n (-1)).set 0 0) = some S) ∧ S.length = n ∧ rd S 0 = 0 ∧ (∀ x : Int, 0 ≤ x → x < n → ¬ Rd nx x → rd S x = -1) ∧ ∀ x, Rd nx x → x ≠ 0 → Idom (Ed nx) (rd S x) x := by
  have hr := hk.ranked ho
  obtain ⟨t, ht⟩ := ho.head
  have htail : order.tail = t := by rw [ht]; rfl
  have hm : ∀ a b, Rd nx a → Rd nx b → rd rank a + rd rank b < ((2 * order.length + 1 : Nat) : Int) := by
    intro a b ha hb
    obtain ⟨l1, l2, e1⟩ := List.append_of_mem ((ho.mem a).2 ha)
    obtain ⟨l3, l4, e2⟩ := List.append_of_mem ((ho.mem b).2 hb)
    rw [hk.pos _ _ _ e1, hk.pos _ _ _ e2]
    have h1 := congrArg List.length e1
    have h2 := congrArg List.length e2
    simp only [List.length_append, List.length_cons] at h1 h2
    omega
  generalize hM : 2 * order.length + 1 = M at hm
  have pass := fun c hs h0 => pass_run (pv := pv) hn hE hpl hE1 hp ho hk M hm order.tail [0] c false (by rw [ht]; rfl) (by simp) hs h0
  let step : List Int → List Int := fun c => match passL rank pv M order.tail c false with | some p => p.1 | none => c
  obtain ⟨C, hC0, hCs⟩ : ∃ C : Nat → List Int, C 0 = (List.replicate n (-1)).set 0 0 ∧ ∀ k, C (k + 1) = step (C k) := ⟨fun k => Nat.rec ((List.replicate n (-1)).set 0 0) (fun _ c => step c) k, rfl, fun k => rfl⟩
  have hinit : ∀ y : Int, 0 ≤ y → y < n → rd (C 0) y = if y = 0 then 0 else -1 := by
    intro y h0 h1
    rw [hC0]
    have : rd ((List.replicate n (-1)).set (0 : Int).toNat 0) y = if y = 0 then 0 else rd (List.replicate n (-1)) y := rd_set (Int.le_refl _) (by rw [List.length_replicate]; omega) h0
    refine this.trans ?_
    split
    · rfl
    · exact gD_rep _ h0 h1
  have hS : ∀ k, St nx n rank (C k) ∧ 0 ≤ rd (C k) 0 := by
    intro k
    induction k with
    | zero =>
      refine ⟨⟨by rw [hC0, List.length_set, List.length_replicate], ⟨by rw [hinit 0 (by omega) (by omega), if_pos rfl], fun x hx hx0 => .inl ?_⟩, fun x h0 h1 hx => ?_⟩, by rw [hinit 0 (by omega) (by omega), if_pos rfl]; omega⟩
      · have := reach_range hn hE hx
        rw [hinit x this.1 this.2, if_neg hx0]
      · rw [hinit x h0 h1, if_neg (fun e => hx (by rw [e]; exact .zero (by decide)))]
    | succ k ih =>
      obtain ⟨c', ch', r1, r2, r3, _⟩ := pass (C k) ih.1 (fun x hx => by rw [List.mem_singleton.1 hx]; exact ih.2)
      have e : C (k + 1) = c' := by rw [hCs]; show (match passL rank pv M order.tail (C k) false with | some p => p.1 | none => C k) = c'; rw [r1]
      rw [e]
      exact ⟨r2, r3 0 (by rw [ht]; exact List.mem_cons_self)⟩
  have hrun : ∀ k, ∃ ch, passL rank pv M order.tail (C k) false = some (C (k + 1), ch) ∧ (∀ x ∈ order, 0 ≤ rd (C (k + 1)) x) ∧ Pass (Ed nx) (rd rank) (rd (C k)) (rd (C (k + 1))) ∧ (ch = true ↔ C (k + 1) ≠ C k) := by
    intro k
    obtain ⟨c', ch', r1, r2, r3, r4, r5, r6⟩ := pass (C k) (hS k).1 (fun x hx => by rw [List.mem_singleton.1 hx]; exact (hS k).2)
    have e : C (k + 1) = c' := by rw [hCs]; show (match passL rank pv M order.tail (C k) false with | some p => p.1 | none => C k) = c'; rw [r1]
    rw [e]
    refine ⟨ch', r1, r3, fun b hb hb0 p => r5 b ?_ p, by simpa using r6⟩
    have := (ho.mem b).2 hb
    rw [ht] at this
    rw [htail]
    exact (List.mem_cons.1 this).resolve_left hb0
  have hF : ∀ k, Full (Ed nx) (rd (C (k + 1))) := fun k x hx => by
    obtain ⟨ch, _, h, _⟩ := hrun k
    exact h x ((ho.mem x).2 hx)
  obtain ⟨K, hK⟩ := passes hr hE hn (fun k => rd (C k)) (fun k => (hS k).1.inv) hF (fun k => by obtain ⟨ch, _, _, h, _⟩ := hrun k; exact h)
  have hfix : ∀ k, K + 1 ≤ k → C (k + 1) = C k := by
    intro k hk'
    obtain ⟨k, rfl⟩ : ∃ j, k = j + 1 := ⟨k - 1, by omega⟩
    refine rd_ext ((hS _).1.len.trans (hS _).1.len.symm) fun i h0 h1 => ?_
    rw [(hS _).1.len] at h1
    by_cases hi : i = 0
    · rw [hi, (hS _).1.inv.zero, (hS _).1.inv.zero]
    · by_cases hR : Rd nx i
      · exact Idom.unique hR (hK (k + 1) (by omega) i hR hi) (hK k (by omega) i hR hi)
      · rw [(hS _).1.un i h0 h1 hR, (hS _).1.un i h0 h1 hR]
  have hall : ∀ d, C (K + 1 + d) = C (K + 1) := by
    intro d
    induction d with
    | zero => rfl
    | succ d ih => exact (hfix (K + 1 + d) (by omega)).trans ih
  have hstop : ∀ i, C (i + 1) = C i → ∀ d, C (i + d) = C i := by
    intro i hi d
    induction d with
    | zero => rfl
    | succ d ih =>
      rw [← Nat.add_assoc, hCs, ih, ← hCs]
      exact hi
  have hpm : ∀ k i p, M ≤ k → passL rank pv M order.tail (C i) false = some p → passL rank pv k order.tail (C i) false = some p := fun k i p hk h => at_rounds (g := fun k => passL rank pv k order.tail (C i) false) (fun k => passL.mono rank pv k order.tail (C i) false) hk h
  have loop : ∀ d i, i + d = K + 2 → ∃ k0, ∀ k, k0 ≤ k → outerF rank pv order.tail k (C i) = some (C (K + 1)) := by
    intro d
    induction d with
    | zero =>
      intro i hi
      obtain ⟨ch, h1, _, _, h4⟩ := hrun i
      refine ⟨M + 1, fun k hk' => ?_⟩
      obtain ⟨k, rfl⟩ : ∃ j, k = j + 1 := ⟨k - 1, by omega⟩
      have e := hfix i (by omega)
      have hch : ch = false := by
        cases hq : ch with
        | false => rfl
        | true => exact absurd e (h4.1 hq)
      rw [outerF, hpm k i _ (by omega) h1, Option.bind_some, hch, if_neg (by simp)]
      dsimp only
      rw [show i + 1 = K + 1 + 2 by omega, hall]
    | succ d ih =>
      intro i hi
      obtain ⟨ch, h1, _, _, h4⟩ := hrun i
      obtain ⟨k0, hk0⟩ := ih (i + 1) (by omega)
      refine ⟨M + 1 + k0, fun k hk' => ?_⟩
      obtain ⟨k, rfl⟩ : ∃ j, k = j + 1 := ⟨k - 1, by omega⟩
      rw [outerF, hpm k i _ (by omega) h1, Option.bind_some]
      cases hq : ch with
      | true =>
        rw [if_pos rfl]
        exact hk0 k (by omega)
      | false =>
        rw [if_neg (by simp)]
        have e : C (i + 1) = C i := Classical.not_not.1 (fun h => by have := h4.2 h; rw [hq] at this; simp at this)
        have := hstop i e (K + 1 - i)
        rw [show i + (K + 1 - i) = K + 1 by omega] at this
        dsimp only
        rw [e, this]
  obtain ⟨k0, hk0⟩ := loop (K + 2) 0 (by omega)
  refine ⟨C (K + 1), k0, fun k hk => by rw [← hC0]; exact hk0 k hk, (hS _).1.len, (hS _).1.inv.zero, (hS _).1.un, fun x hx hx0 => hK K (Nat.le_refl _) x hx hx0⟩
end

theorem tree_ev {bl : List S46} {pv : List (List Int)} (hn : bl.length ≤ 14) (hv : validB bl pv = true) :
    ∃ idom, (∃ k0, ∀ k, k0 ≤ k → dominator_Tree.f k bl pv = some idom) ∧ TreeOk (rowsOf bl) bl.length idom := by
  have g := good_of hv
  have hn0 := g.n0
  obtain ⟨order, ⟨k1, h1⟩, _, ho, hol⟩ := order_ev hn hv
  have hE := fun a b => g.edge (a := a) (b := b)
  have hE1 : ∀ a b, Ed (rowsOf bl) a b → 0 ≤ a ∧ a < bl.length := fun a b e => ⟨e.1, by have := e.2.1; rw [rows_len] at this; exact this⟩
  obtain ⟨rank, hr1, hr2⟩ := rank_ev hn0 hE ho
  obtain ⟨S, k2, h2, s1, s2, s3, s4⟩ := outer_run (pv := pv) hn0 hE g.pl hE1 (fun b p hb => g.pred hb) ho hr2
  have hset : ∀ y : Int, 0 ≤ y → rd (S.set (0 : Int).toNat (-1)) y = if y = 0 then -1 else rd S y := fun y hy => rd_set (Int.le_refl _) (by rw [s1]; omega) hy
  refine ⟨S.set 0 (-1), ⟨max k1 k2, fun k hk => ?_⟩, ⟨by rw [List.length_set]; exact s1, (hset 0 (Int.le_refl _)).trans (if_pos rfl), fun x x0 x1 hx => ?_, fun x hx hx0 => ?_⟩⟩
  · obtain ⟨t, ht⟩ := ho.head
    unfold dominator_Tree.f
    rw [h1 k (by omega), Option.bind_some, if_neg (by rw [ht]; simp), if_pos ⟨by omega, hn0⟩, hr1, Option.bind_some, h2 k (by omega), Option.bind_some]
  · refine (hset x x0).trans ?_
    rw [if_neg (fun e => hx (by rw [e]; exact .zero (by decide)))]
    exact s3 x x0 x1 hx
  · have e := hset x (reach_range hn0 hE hx).1
    rw [if_neg hx0] at e
    have := s4 x hx hx0
    rw [← e] at this
    exact this
theorem tree_bad {bl : List S46} {pv : List (List Int)} (hn : bl.length ≤ 14) (hv : validB bl pv = false) : ∃ k0, ∀ k, k0 ≤ k → dominator_Tree.f k bl pv = some [] := by
  obtain ⟨k0, h⟩ := order_bad hn hv
  refine ⟨k0, fun k hk => ?_⟩
  unfold dominator_Tree.f
  rw [h k hk]
  rfl
end Go.Proofs.Ytnkbmpdghjhlfaa.M
