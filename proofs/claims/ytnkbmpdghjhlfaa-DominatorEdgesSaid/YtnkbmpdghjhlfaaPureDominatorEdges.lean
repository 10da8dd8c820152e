/- The plain law of DominatorEdges: an immediate dominator dominates every reached predecessor of its block, and a new edge from it to the block leaves the tree as it is. No conditions. -/
import Derived.Test.YtnkbmpdghjhlfaaMFacts
import Derived.Test.YtnkbmpdghjhlfaaMIn
import Derived.Test.YtnkbmpdghjhlfaaPx11
namespace Go.Proofs.Ytnkbmpdghjhlfaa.Pure
open Go.RowKit Go.Proofs.Ytnkbmpdghjhlfaa.P Go.Proofs.Ytnkbmpdghjhlfaa.M Go.Proofs.YtnkbmpdghjhlfaaW.PrintWords
set_option linter.unusedVariables false

/-- The blocks that Graph builds. -/
def mkB : List (List Int) → Nat → List S46
  | [], _ => []
  | row :: r, i => ⟨(i : Int), wrap64 ((i : Int) + 1), row⟩ :: mkB r (i + 1)
theorem mkB_len : ∀ (rows : List (List Int)) (i : Nat), (mkB rows i).length = rows.length
  | [], _ => rfl
  | row :: r, i => by unfold mkB; rw [List.length_cons, List.length_cons, mkB_len]
theorem mkB_rows : ∀ (rows : List (List Int)) (i : Nat), rowsOf (mkB rows i) = rows
  | [], _ => rfl
  | row :: r, i => by
    unfold mkB rowsOf
    rw [List.map_cons]
    exact congrArg (row :: ·) (mkB_rows r (i + 1))
theorem addE_run (n : Nat) (i : Int) : ∀ (row : List Int) (prev : List (List Int)) (m : Nat), prev.length = n → inR n row → (∀ b : Int, 0 ≤ b → (rd_L1 prev b).length ≤ m) → m + row.length ≤ 1000 → addE n i row prev = some (addP i row prev)
  | [], prev, m, _, _, _, _ => rfl
  | t :: r, prev, m, hl, hr, hm, hb => by
    have ht := hr t List.mem_cons_self
    have hlt := hm t ht.1
    simp only [List.length_cons] at hb
    unfold addE addP
    rw [if_pos ht, if_pos ⟨by omega, hl.symm⟩]
    refine addE_run n i r _ (m + 1) (by rw [List.length_set]; exact hl) hr.tail (fun b hb => ?_) (by omega)
    have e : rd_L1 (prev.set t.toNat (rd_L1 prev t ++ [i])) b = if b = t then rd_L1 prev t ++ [i] else rd_L1 prev b := gD_set ht.1 (by rw [hl]; exact ht.2) hb
    rw [e]
    split
    · rw [List.length_append, List.length_singleton]; omega
    · have := hm b hb; omega
theorem graphL_run (n : Nat) (hn : n ≤ 14) : ∀ (rows : List (List Int)) (i : Nat) (bl : List S46) (prev : List (List Int)), prev.length = n → (∀ row ∈ rows, inR n row ∧ row.length ≤ 2) → (∀ b : Int, 0 ≤ b → (rd_L1 prev b).length ≤ 2 * i) → bl.length = i → i + rows.length ≤ n →
    graphL n rows i bl prev = some (bl ++ mkB rows i, prevAll rows i prev)
  | [], i, bl, prev, _, _, _, _, _ => by unfold graphL mkB prevAll; rw [List.append_nil]
  | row :: r, i, bl, prev, hl, hr, hm, hbl, hin => by
    have hrow := hr row List.mem_cons_self
    simp only [List.length_cons] at hin
    unfold graphL mkB prevAll
    have hlen := addP_len (i : Int) row prev (by rw [hl]; exact hrow.1) (2 * i) hm
    rw [if_pos (by omega), addE_run n i row prev (2 * i) hl hrow.1 hm (by omega), Option.bind_some]
    rw [graphL_run n hn r (i + 1) _ _ (by rw [addP_length]; exact hl) (fun row h => hr row (List.mem_cons_of_mem _ h)) (fun b hb => by have := hlen b hb; omega) (by rw [List.length_append, List.length_singleton, hbl]) (by omega), List.append_assoc]
    rfl
theorem okAll_mkB (n : Nat) : ∀ (rows : List (List Int)) (i : Nat) (e : Int), i + rows.length ≤ 1000 → e ≤ i → (∀ row ∈ rows, inR n row ∧ row.length ≤ 2 ∧ ¬ (row.length = 2 ∧ rd row 0 = rd row 1)) → okAll n (mkB rows i) e
  | [], _, _, _, _, _ => trivial
  | row :: r, i, e, hi, he, h => by
    simp only [List.length_cons] at hi
    have hw : wrap64 ((i : Int) + 1) = ((i + 1 : Nat) : Int) := wrapN (by omega)
    have hrow := h row List.mem_cons_self
    unfold mkB okAll
    rw [hw]
    refine ⟨⟨by show ¬ (i : Int) < e; omega, by show ¬ ((i + 1 : Nat) : Int) ≤ (i : Int); omega, hrow.2.1, hrow.2.2, hrow.1⟩, okAll_mkB n r (i + 1) _ (by omega) (Int.le_refl _) (fun row hh => h row (List.mem_cons_of_mem _ hh))⟩
theorem okAll_dist {n : Nat} : ∀ (bl : List S46) (e : Int), okAll n bl e → ∀ row ∈ rowsOf bl, ¬ (row.length = 2 ∧ rd row 0 = rd row 1)
  | [], _, _, row, h => by simp [rowsOf] at h
  | b :: r, e, h, row, hr => by
    rcases List.mem_cons.1 hr with rfl | hr
    · exact h.1.2.2.2.1
    · exact okAll_dist r _ h.2 row hr
/-- Graph builds a valid graph. -/
theorem graph_ok (rows : List (List Int)) (h0 : 0 < rows.length) (hn : rows.length ≤ 14) (h : ∀ row ∈ rows, inR rows.length row ∧ row.length ≤ 2 ∧ ¬ (row.length = 2 ∧ rd row 0 = rd row 1)) :
    ∃ bl pv, ontimelaw25_Graph.f rows = some (bl, pv) ∧ validB bl pv = true ∧ rowsOf bl = rows ∧ bl.length = rows.length := by
  have hl := mkB_len rows 0
  refine ⟨mkB rows 0, prevAll rows 0 (List.replicate rows.length []), ?_, ?_, mkB_rows rows 0, hl⟩
  · unfold ontimelaw25_Graph.f
    rw [if_pos (by omega)]
    refine (graphL_run rows.length hn rows 0 [] _ (by simp) (fun row hr => ⟨(h row hr).1, (h row hr).2.1⟩) (fun b hb => ?_) rfl (by omega)).trans ?_
    · unfold rd_L1
      rw [List.getD_eq_getElem?_getD, List.getElem?_replicate]
      split <;> simp
    · rw [List.nil_append]
  · unfold validB
    rw [mkB_rows, hl]
    exact decide_eq_true ⟨by omega, by rw [prevAll_length, List.length_replicate], okAll_mkB rows.length rows 0 0 (by omega) (Int.le_refl _) h, rfl⟩

section
variable {nx : List (List Int)} {idom : List Int}
/-- A new edge from the immediate dominator. -/
theorem more_ok (g : Gr nx) (ht : TreeOk nx nx.length idom) (hd : ∀ row ∈ nx, ¬ (row.length = 2 ∧ rd row 0 = rd row 1)) {a b : Int} (hb : Rd nx b) (hb0 : b ≠ 0) (ha : rd idom b = a) (hlen : (rd_L1 nx a).length ≤ 1) (hnew : b ∉ rd_L1 nx a) :
    ∃ bl pv, ontimelaw25_Graph.f (nx.set a.toNat (rd_L1 nx a ++ [b])) = some (bl, pv) ∧ ∃ k0, ∀ k, k0 ≤ k → dominator_Tree.f k bl pv = some idom := by
  have hi := ht.idom b hb hb0
  rw [ha] at hi
  have har := reach_range g.n0 g.rng (dom_reached hi.2.1 hb)
  have hbr := reach_range g.n0 g.rng hb
  generalize hm : nx.set a.toNat (rd_L1 nx a ++ [b]) = more
  have hml : more.length = nx.length := by rw [← hm, List.length_set]
  have hrow : ∀ x : Int, 0 ≤ x → rd_L1 more x = if x = a then rd_L1 nx a ++ [b] else rd_L1 nx x := fun x hx => by rw [← hm]; exact gD_set har.1 har.2 hx
  have hed : ∀ u v, Ed more u v ↔ Ed nx u v ∨ u = a ∧ v = b := by
    intro u v
    unfold Ed
    rw [hml]
    constructor
    · rintro ⟨h0, h1, h2⟩
      rw [hrow u h0] at h2
      by_cases e : u = a
      · rw [if_pos e] at h2
        rcases List.mem_append.1 h2 with h2 | h2
        · exact .inl ⟨h0, h1, by rw [e]; exact h2⟩
        · exact .inr ⟨e, List.mem_singleton.1 h2⟩
      · rw [if_neg e] at h2
        exact .inl ⟨h0, h1, h2⟩
    · rintro (⟨h0, h1, h2⟩ | ⟨h1, h2⟩)
      · refine ⟨h0, h1, ?_⟩
        rw [hrow u h0]
        by_cases e : u = a
        · rw [if_pos e, ← e]; exact List.mem_append_left _ h2
        · rw [if_neg e]; exact h2
      · subst h1 h2
        exact ⟨har.1, har.2, by rw [hrow u har.1, if_pos rfl]; simp⟩
  have hmem : ∀ row ∈ more, row ∈ nx ∨ row = rd_L1 nx a ++ [b] := by
    intro row hr
    rw [← hm] at hr
    rcases List.mem_or_eq_of_mem_set hr with h | h
    · exact .inl h
    · exact .inr h
  have inr_of : ∀ row ∈ nx, inR nx.length row := by
    intro row hr t htm
    obtain ⟨i, i0, i1, e⟩ := mem_gD (d := ([] : List Int)) hr
    have := g.rng i t ⟨i0, i1, by unfold rd_L1; rw [e]; exact htm⟩
    exact this
  obtain ⟨bl, pv, h1, h2, h3, h4⟩ := graph_ok more (by rw [hml]; exact g.n0) (by rw [hml]; exact g.n14) (fun row hr => by
    rw [hml]
    rcases hmem row hr with h | h
    · exact ⟨inr_of row h, g.two row h, hd row h⟩
    · subst h
      refine ⟨fun t htm => ?_, by rw [List.length_append, List.length_singleton]; omega, fun ⟨hl2, he⟩ => ?_⟩
      · rcases List.mem_append.1 htm with htm | htm
        · exact g.rng a t ⟨har.1, har.2, htm⟩
        · rw [List.mem_singleton.1 htm]; exact hbr
      · rw [List.length_append, List.length_singleton] at hl2
        match hq : rd_L1 nx a with
        | [] => rw [hq] at hl2; simp at hl2
        | [y] =>
          rw [hq] at he hnew
          have : y = b := by simpa [rd] using he
          exact hnew (by rw [this]; exact List.mem_singleton.2 rfl)
        | y :: z :: r => rw [hq] at hl2; simp at hl2)
  obtain ⟨idom', h5, ht'⟩ := tree_ev (by rw [h4, hml]; exact g.n14) h2
  refine ⟨bl, pv, h1, ?_⟩
  rw [h3, h4, hml] at ht'
  have hrc : ∀ x c, Rc (Ed more) x c ↔ Rc (Ed nx) x c := by
    intro x c
    constructor
    · intro h
      refine Rc.more (a := a) (b := b) hi.2.1 (Rc.less (fun u v huv => (hed u v).1 huv) h) (fun x hx hxb => hi.2.2 x hxb hx)
    · exact Rc.less (fun u v huv => (hed u v).2 (.inl huv))
  have hsame : TreeOk more nx.length idom := by
    refine ⟨ht.len, ht.zero, fun x x0 x1 hx => ht.un x x0 x1 (fun h => hx ((hrc _ _).2 h)), fun x hx hx0 => ?_⟩
    have q := ht.idom x ((hrc _ _).1 hx) hx0
    exact ⟨q.1, fun h => q.2.1 ((hrc _ _).1 h), fun d hd hdx h => q.2.2 d hd (fun h' => hdx ((hrc _ _).2 h')) ((hrc _ _).1 h)⟩
  rw [hsame.unique ht']
  exact h5

theorem ed_l2 (g : Gr nx) (ht : TreeOk nx nx.length idom) (hd : ∀ row ∈ nx, ¬ (row.length = 2 ∧ rd row 0 = rd row 1)) : ∀ (d b : Nat), b + d = nx.length + 1 → 0 < b → ∃ k, ontimelaw25_DominatorEdges.l2 k nx idom b = some true := by
  have h14 := g.n14
  have hli : idom.length = nx.length := ht.len
  intro d
  induction d with
  | zero => intro b hb _; exact ⟨1, by rw [ontimelaw25_DominatorEdges.l2, if_neg (by omega)]⟩
  | succ d ih =>
    intro b hb hb0
    obtain ⟨k, hk⟩ := ih (b + 1) (by omega) (by omega)
    by_cases hbI : (b : Int) < (nx.length : Int)
    · have hbi : (b : Int) < (idom.length : Int) := by omega
      have hbn : (0 : Int) ≤ (b : Int) := by omega
      have hb2 : b < 1000000000000000000 := by omega
      have skip : ∀ k a, ontimelaw25_DominatorEdges.j4 (k + 1) nx idom b a true = ontimelaw25_DominatorEdges.l2 k nx idom ((b + 1 : Nat) : Int) := by
        intro k a
        rw [ontimelaw25_DominatorEdges.j4, if_pos rfl, wrapN hb2]
      by_cases c1 : rd idom b < 0
      · exact ⟨k + 2, by rw [ontimelaw25_DominatorEdges.l2, if_pos hbI, if_pos hbn, if_pos hbi, if_pos c1, skip]; exact hk⟩
      by_cases c2 : rd idom b ≥ (nx.length : Int)
      · exact ⟨k + 2, by rw [ontimelaw25_DominatorEdges.l2, if_pos hbI, if_pos hbn, if_pos hbi, if_neg c1, if_pos c2, skip]; exact hk⟩
      have a0 : 0 ≤ rd idom b := by omega
      have a1 : rd idom b < (nx.length : Int) := by omega
      by_cases c3 : ((rd_L1 nx (rd idom b)).length : Int) > 1
      · exact ⟨k + 2, by rw [ontimelaw25_DominatorEdges.l2, if_pos hbI, if_pos hbn, if_pos hbi, if_neg c1, if_neg c2, if_pos a0, if_pos a1, if_pos c3, skip]; exact hk⟩
      obtain ⟨k1, h1⟩ := in_ev (rd_L1 nx (rd idom b)) b (by omega)
      have head : ∀ k, k1 ≤ k → ontimelaw25_DominatorEdges.l2 (k + 1) nx idom b = ontimelaw25_DominatorEdges.j4 k nx idom b (rd idom b) (decide ((b : Int) ∈ rd_L1 nx (rd idom b))) := by
        intro k hk
        rw [ontimelaw25_DominatorEdges.l2, if_pos hbI, if_pos hbn, if_pos hbi, if_neg c1, if_neg c2, if_pos a0, if_pos a1, if_neg c3, h1 k hk, Option.bind_some]
      by_cases c4 : (b : Int) ∈ rd_L1 nx (rd idom b)
      · refine ⟨max k k1 + 1 + 1, ?_⟩
        rw [head _ (by omega), decide_eq_true c4, skip]
        exact at_rounds (fun k => (ontimelaw25_DominatorEdges.mono_l k).2.2.2.1 _ _ _) (Nat.le_max_left k k1) hk
      · have hbR : Rd nx b := by
          apply Classical.byContradiction
          intro h
          have := ht.un b hbn hbI h
          omega
        obtain ⟨bl, pv, e1, k2, h2⟩ := more_ok g ht hd hbR (by omega) rfl (by omega) c4
        obtain ⟨k3, h3⟩ := ints_ev idom idom (by omega)
        refine ⟨max k1 (max k2 k3) + 1 + 1, ?_⟩
        have l0 : ([] : List (List Int)).length + nx.length < 5864062014805 := by simp; omega
        have l1 : ([] : List Int).length + (rd_L1 nx (rd idom b)).length < 17592186044416 := by simp; omega
        have l2 : (rd_L1 nx (rd idom b)).length < 17592186044416 := by omega
        rw [head _ (by omega), decide_eq_false c4, ontimelaw25_DominatorEdges.j4, if_neg (by simp), Option.bind_some, if_pos l0, Option.bind_some, Option.bind_some, if_pos a0, if_pos a1, if_pos l1, Option.bind_some, List.nil_append, List.nil_append, if_pos l2, if_pos a1, e1, Option.bind_some]
        dsimp only
        rw [h2 _ (by omega), Option.bind_some, h3 _ (by omega), Option.bind_some, if_pos (by simp)]
    · exact ⟨1, by rw [ontimelaw25_DominatorEdges.l2, if_neg hbI]⟩

theorem ed_l1 (g : Gr nx) (ht : TreeOk nx nx.length idom) {s : List Bool} (hs : s.length = nx.length) (hin : ∀ b : Int, 0 ≤ b → (rdOf false s b = true ↔ Rd nx b)) (hdom : ∀ a b : Int, Rd nx b → 0 ≤ a → a < nx.length → (domB idom a b = true ↔ ¬ Rc (Ed nx) a b)) (p : Nat) (hpn : p < nx.length) : ∀ (d j : Nat), j + d = (rd_L1 nx p).length →
    ∀ res, (∃ k, ontimelaw25_DominatorEdges.l0 k nx idom s ((p + 1 : Nat) : Int) = some res) → ∃ k, ontimelaw25_DominatorEdges.l1 k nx idom s p j = some res := by
  have h14 := g.n14
  have hli : idom.length = nx.length := ht.len
  have hpI : (p : Int) < (nx.length : Int) := by omega
  have hps : (p : Int) < (s.length : Int) := by omega
  have hp0 : (0 : Int) ≤ (p : Int) := by omega
  have hp2 : p < 1000000000000000000 := by omega
  have h2 := g.two _ (gD_mem (d := ([] : List Int)) hp0 hpI)
  have h2' : (rd_L1 nx p).length ≤ 2 := h2
  intro d
  induction d with
  | zero =>
    intro j hj res ⟨k, hk⟩
    exact ⟨k + 2, by rw [ontimelaw25_DominatorEdges.l1, if_pos hp0, if_pos hpI, if_neg (by omega), ontimelaw25_DominatorEdges.j2, if_neg (by simp), wrapN hp2]; exact hk⟩
  | succ d ih =>
    intro j hj res hres
    have hj1 : (j : Int) < ((rd_L1 nx p).length : Int) := by omega
    have hj0 : (0 : Int) ≤ (j : Int) := by omega
    have hj2 : j < 1000000000000000000 := by omega
    by_cases c : rdOf false s p = true
    · have hR := (hin p hp0).1 c
      have e : Ed nx p (rd (rd_L1 nx p) j) := ⟨hp0, hpI, gD_mem hj0 hj1⟩
      have hbr := g.rng _ _ e
      have hb : Rd nx (rd (rd_L1 nx p) j) := .step hR e (by omega)
      have hbi : rd (rd_L1 nx p) j < (idom.length : Int) := by rw [hli]; exact hbr.2
      obtain ⟨k, hk⟩ := ih (j + 1) (by omega) res hres
      have head : ∀ k, ontimelaw25_DominatorEdges.l1 (k + 2) nx idom s p j = (if (rd (rd_L1 nx p) j) > 0 then (if 0 ≤ (rd (rd_L1 nx p) j) then (if (rd (rd_L1 nx p) j) < (idom.length : Int) then ((dominator_Dominates.f idom (rd idom (rd (rd_L1 nx p) j)) p).bind fun t358 => (if t358 = true then (ontimelaw25_DominatorEdges.l1 k nx idom s p ((j + 1 : Nat) : Int)) else (some false))) else (none)) else (none)) else (ontimelaw25_DominatorEdges.l1 k nx idom s p ((j + 1 : Nat) : Int))) := by
        intro k
        rw [ontimelaw25_DominatorEdges.l1, if_pos hp0, if_pos hpI, if_pos hj1, if_pos hps, c, ontimelaw25_DominatorEdges.j2, if_pos rfl, if_pos hp0, if_pos hpI, if_pos hj0, if_pos hj1, wrapN hj2]
      by_cases c1 : (rd (rd_L1 nx p) j) > 0
      · have hi := ht.idom _ hb (by omega)
        have hir := reach_range g.n0 g.rng (dom_reached hi.2.1 hb)
        have hdm := (hdom _ p hR hir.1 hir.2).2 (dom_pred hi.2.1 hi.1 e)
        refine ⟨k + 2, ?_⟩
        rw [head, if_pos c1, if_pos hbr.1, if_pos hbi, dominator_Dominates.f, Option.bind_some, hdm, if_pos rfl]
        exact hk
      · exact ⟨k + 2, by rw [head, if_neg c1]; exact hk⟩
    · obtain ⟨k, hk⟩ := hres
      have c' : rdOf false s p = false := by simpa using c
      exact ⟨k + 2, by rw [ontimelaw25_DominatorEdges.l1, if_pos hp0, if_pos hpI, if_pos hj1, if_pos hps, c', ontimelaw25_DominatorEdges.j2, if_neg (by simp), wrapN hp2]; exact hk⟩
theorem ed_l0 (g : Gr nx) (ht : TreeOk nx nx.length idom) (hd : ∀ row ∈ nx, ¬ (row.length = 2 ∧ rd row 0 = rd row 1)) {s : List Bool} (hs : s.length = nx.length) (hin : ∀ b : Int, 0 ≤ b → (rdOf false s b = true ↔ Rd nx b)) (hdom : ∀ a b : Int, Rd nx b → 0 ≤ a → a < nx.length → (domB idom a b = true ↔ ¬ Rc (Ed nx) a b)) : ∀ (d p : Nat), p + d = nx.length →
    ∃ k, ontimelaw25_DominatorEdges.l0 k nx idom s p = some true := by
  intro d
  induction d with
  | zero =>
    intro p hp
    obtain ⟨k, hk⟩ := ed_l2 g ht hd nx.length 1 (by omega) (by omega)
    exact ⟨k + 1, by rw [ontimelaw25_DominatorEdges.l0, if_neg (by omega)]; exact hk⟩
  | succ d ih =>
    intro p hp
    obtain ⟨k, hk⟩ := ed_l1 g ht hs hin hdom p (by omega) (rd_L1 nx p).length 0 (by omega) true (ih (p + 1) (by omega))
    exact ⟨k + 1, by rw [ontimelaw25_DominatorEdges.l0, if_pos (by omega)]; exact hk⟩
end

theorem DominatorEdges : ontimelaw25_DominatorEdges.Pure := by
  intro bl pv _ _
  obtain ⟨k1, h1⟩ := next_ev bl pv
  by_cases hv : bl.length ≤ 14 ∧ validB bl pv = true
  · have g := gr_of hv.1 hv.2
    have hrl := rows_len bl
    obtain ⟨order, idom, r, _, ⟨k3, h3⟩, _, _, ht, _, _, _, hd1, _⟩ := facts hv.1 hv.2
    obtain ⟨s, ⟨k4, h4⟩, hs, hin⟩ := g.reach (-1)
    obtain ⟨k5, h5⟩ := ed_l0 g ht (okAll_dist bl 0 (good_of hv.2).all) hs hin (fun a b hb a0 a1 => hd1 a b hb a0 (by omega)) (rowsOf bl).length 0 (by omega)
    refine ⟨max k1 (max k3 (max k4 k5)), ?_⟩
    unfold ontimelaw25_DominatorEdges.f
    rw [h1 _ (by omega), if_pos hv]
    simp only [ontimelaw25_awake.f, Option.bind_some, if_true]
    rw [h3 _ (by omega)]
    simp only [Option.bind_some]
    rw [h4 _ (by omega)]
    simp only [Option.bind_some]
    have e1 : (idom.length : Int) = ((rowsOf bl).length : Int) := by rw [ht.len]
    rw [if_pos e1]
    exact at_rounds (fun k => (ontimelaw25_DominatorEdges.mono_l k).1 _ _ _ _) (by omega) h5
  · refine ⟨k1, ?_⟩
    unfold ontimelaw25_DominatorEdges.f
    rw [h1 _ (by omega), if_neg hv]
    simp [ontimelaw25_awake.f]
end Go.Proofs.Ytnkbmpdghjhlfaa.Pure
