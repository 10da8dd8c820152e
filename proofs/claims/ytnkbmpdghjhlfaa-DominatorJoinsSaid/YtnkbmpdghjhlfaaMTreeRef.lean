/- The reference's Tree, and what following an immediate-dominator list answers, in plain Lean. Conditions: the list is a valid graph's, of at most 14 blocks. -/
import Derived.Test.YtnkbmpdghjhlfaaMTree2
import Derived.Test.YtnkbmpdghjhlfaaMReach
import Derived.Test.YtnkbmpdghjhlfaaMInts
import Derived.Test.YtnkbmpdghjhlfaaPx4
import Derived.Test.YtnkbmpdghjhlfaaXDom
namespace Go.Proofs.Ytnkbmpdghjhlfaa.M
open Go.RowKit Go.Proofs.Ytnkbmpdghjhlfaa.P Go.Proofs.YtnkbmpdghjhlfaaW.PrintWords
set_option linter.unusedVariables false
set_option linter.unusedSimpArgs false

/-- What a graph of at most 14 blocks must have. -/
structure Gr (nx : List (List Int)) : Prop where
  n0 : 0 < nx.length
  n14 : nx.length ≤ 14
  rng : ∀ a b, Ed nx a b → 0 ≤ b ∧ b < nx.length
  two : ∀ row ∈ nx, row.length ≤ 2
theorem gr_of {bl : List S46} {pv : List (List Int)} (hn : bl.length ≤ 14) (hv : validB bl pv = true) : Gr (rowsOf bl) := by
  have g := good_of hv
  have h0 := g.n0
  exact ⟨by rw [rows_len]; exact h0, by rw [rows_len]; exact hn, fun a b e => by rw [rows_len]; exact g.edge e, g.two⟩

section
variable {nx : List (List Int)}
theorem Gr.reach (g : Gr nx) (skip : Int) : ∃ res, (∃ k0, ∀ k, k0 ≤ k → ontimeref25_Reach.f k nx skip = some res) ∧ res.length = nx.length ∧ ∀ b : Int, 0 ≤ b → (rdOf false res b = true ↔ Rc (Ed nx) skip b) := reach_ev g.n0 (by have := g.n14; omega) g.rng g.two skip
theorem Gr.dom (g : Gr nx) (a b : Int) (ha : 0 ≤ a ∧ a < nx.length) (hb : 0 ≤ b ∧ b < nx.length) : ∃ r, (∃ k0, ∀ k, k0 ≤ k → ontimeref25_Dominates.f k nx a b = some r) ∧ (r = true ↔ a = b ∨ Rc (Ed nx) (-1) a ∧ ¬ Rc (Ed nx) a b) := refdom_ev g.n0 (by have := g.n14; omega) g.rng g.two a b ha hb
theorem Gr.dom_r (g : Gr nx) (a b : Int) (ha : 0 ≤ a ∧ a < nx.length) (hb : Rd nx b) :
    ∃ r, (∃ k0, ∀ k, k0 ≤ k → ontimeref25_Dominates.f k nx a b = some r) ∧ (r = true ↔ ¬ Rc (Ed nx) a b) := by
  obtain ⟨r, h1, h2⟩ := g.dom a b ha (reach_range g.n0 g.rng hb)
  refine ⟨r, h1, h2.trans ⟨fun h => ?_, fun h => .inr ⟨dom_reached h hb, h⟩⟩⟩
  rcases h with h | h
  · subst h; exact Rc.refl _
  · exact h.2

/-- a passes the reference's test for b. -/
def Q (nx : List (List Int)) (b a : Int) : Prop := a ≠ b ∧ Rd nx a ∧ ¬ Rc (Ed nx) a b ∧ ∀ c, Rd nx c → c ≠ b → c ≠ a → ¬ Rc (Ed nx) c b → ¬ Rc (Ed nx) c a
theorem Q.idom {b a : Int} (hb : Rd nx b) : Q nx b a ↔ Idom (Ed nx) a b := by
  constructor
  · rintro ⟨h1, h2, h3, h4⟩
    refine ⟨h1, h3, fun d hd hdb => ?_⟩
    by_cases hda : d = a
    · subst hda; exact Rc.refl _
    · exact h4 d (dom_reached hdb hb) hd hda hdb
  · rintro ⟨h1, h2, h3⟩
    exact ⟨h1, dom_reached h2 hb, h2, fun c _ hcb hca hd => h3 c hcb hd⟩

theorem rtree_l2 (g : Gr nx) (x3 : List Int) (s : List Bool) (hs : s.length = nx.length) (hin : ∀ b : Int, 0 ≤ b → (rdOf false s b = true ↔ Rd nx b)) (x6 : Int) (b a : Int) (hb : Rd nx b) (ha : Rd nx a) :
    ∀ (d c : Nat) (all : Bool), c + d = nx.length → ∃ r : Bool, (r = true ↔ all = true ∧ ∀ c' : Int, (c : Int) ≤ c' → Rd nx c' → c' ≠ b → c' ≠ a → ¬ Rc (Ed nx) c' b → ¬ Rc (Ed nx) c' a) ∧
      ∀ res, (∃ k, ontimeref25_Tree.l1 k nx x3 s b (if r = true then a else x6) (wrap64 (a + 1)) = some res) → ∃ k, ontimeref25_Tree.l2 k nx x3 s b x6 a all c = some res := by
  have h14 := g.n14
  intro d
  induction d with
  | zero =>
    intro c all hc
    refine ⟨all, ⟨fun h => ⟨h, fun c' hc' hR => ?_⟩, fun h => h.1⟩, fun res ⟨k, hk⟩ => ⟨k + 1, ?_⟩⟩
    · have := reach_range g.n0 g.rng hR
      omega
    · rw [ontimeref25_Tree.l2, if_neg (by omega)]
      cases all with
      | true => rw [if_pos rfl] at hk ⊢; exact hk
      | false => rw [if_neg (by simp)] at hk ⊢; exact hk
  | succ d ih =>
    intro c all hc
    have hcI : (c : Int) < (nx.length : Int) := by omega
    have hcs : (c : Int) < (s.length : Int) := by omega
    have hc0 : (0 : Int) ≤ (c : Int) := by omega
    have hc2 : c < 1000000000000000000 := by omega
    have keep : ∀ r : Bool, (¬ (Rd nx c ∧ (c : Int) ≠ b ∧ (c : Int) ≠ a ∧ ¬ Rc (Ed nx) c b) ∨ ¬ Rc (Ed nx) c a) → (r = true ↔ all = true ∧ ∀ c' : Int, ((c + 1 : Nat) : Int) ≤ c' → Rd nx c' → c' ≠ b → c' ≠ a → ¬ Rc (Ed nx) c' b → ¬ Rc (Ed nx) c' a) → (r = true ↔ all = true ∧ ∀ c' : Int, (c : Int) ≤ c' → Rd nx c' → c' ≠ b → c' ≠ a → ¬ Rc (Ed nx) c' b → ¬ Rc (Ed nx) c' a) := by
      intro r hno hr
      rw [hr]
      refine ⟨fun h => ⟨h.1, fun c' hc' k1 k2 k3 k4 => ?_⟩, fun h => ⟨h.1, fun c' hc' => h.2 c' (by omega)⟩⟩
      by_cases e : c' = c
      · subst e
        rcases hno with hno | hno
        · exact absurd ⟨k1, k2, k3, k4⟩ hno
        · exact hno
      · exact h.2 c' (by omega) k1 k2 k3 k4
    obtain ⟨r, hr, hrun⟩ := ih (c + 1) all (by omega)
    by_cases c1 : (c : Int) = b
    · refine ⟨r, keep r (.inl (fun h => h.2.1 c1)) hr, fun res hres => ?_⟩
      obtain ⟨k, hk⟩ := hrun res hres
      exact ⟨k + 1, by rw [ontimeref25_Tree.l2, if_pos hcI, if_pos c1, wrapN hc2]; exact hk⟩
    by_cases c2 : (c : Int) = a
    · refine ⟨r, keep r (.inl (fun h => h.2.2.1 c2)) hr, fun res hres => ?_⟩
      obtain ⟨k, hk⟩ := hrun res hres
      exact ⟨k + 1, by rw [ontimeref25_Tree.l2, if_pos hcI, if_neg c1, if_pos c2, wrapN hc2]; exact hk⟩
    by_cases c3 : rdOf false s c = true
    · have hR := (hin c hc0).1 c3
      obtain ⟨q1, ⟨k1, h1⟩, e1⟩ := g.dom_r c b ⟨hc0, hcI⟩ hb
      obtain ⟨q2, ⟨k2, h2⟩, e2⟩ := g.dom_r c a ⟨hc0, hcI⟩ ha
      have head : ∀ k, k1 ≤ k → ontimeref25_Tree.l2 (k + 1) nx x3 s b x6 a all c = (if q1 = true then ((ontimeref25_Dominates.f k nx c a).bind fun t158 => (if t158 = true then (ontimeref25_Tree.l2 k nx x3 s b x6 a all ((c + 1 : Nat) : Int)) else (ontimeref25_Tree.l2 k nx x3 s b x6 a false ((c + 1 : Nat) : Int)))) else (ontimeref25_Tree.l2 k nx x3 s b x6 a all ((c + 1 : Nat) : Int))) := by
        intro k hk
        rw [ontimeref25_Tree.l2, if_pos hcI, if_neg c1, if_neg c2, if_pos hc0, if_pos hcs, if_pos c3, h1 k hk, Option.bind_some, wrapN hc2]
      have up : ∀ {al : Bool} {res : List Int} {k k' : Nat}, k ≤ k' → ontimeref25_Tree.l2 k nx x3 s b x6 a al ((c + 1 : Nat) : Int) = some res → ontimeref25_Tree.l2 k' nx x3 s b x6 a al ((c + 1 : Nat) : Int) = some res := fun hk h => at_rounds (fun k => (ontimeref25_Tree.mono_l k).2.2.2.2 _ _ _ _ _ _ _ _) hk h
      by_cases d1 : q1 = true
      · by_cases d2 : q2 = true
        · refine ⟨r, keep r (.inr (e2.1 d2)) hr, fun res hres => ?_⟩
          obtain ⟨k, hk⟩ := hrun res hres
          refine ⟨max k (max k1 k2) + 1, ?_⟩
          rw [head _ (by omega), if_pos d1, h2 _ (by omega), Option.bind_some, if_pos d2]
          exact up (by omega) hk
        · obtain ⟨r', hr', hrun'⟩ := ih (c + 1) false (by omega)
          have hrf : r' = false := by
            cases hq : r' with
            | false => rfl
            | true => exact absurd (hr'.1 hq).1 (by simp)
          refine ⟨false, ⟨fun h => by simp at h, fun h => ?_⟩, fun res hres => ?_⟩
          · exact absurd (e2.2 (h.2 c (Int.le_refl _) hR c1 c2 (e1.1 d1))) d2
          · obtain ⟨k, hk⟩ := hrun' res (by rw [hrf]; exact hres)
            refine ⟨max k (max k1 k2) + 1, ?_⟩
            rw [head _ (by omega), if_pos d1, h2 _ (by omega), Option.bind_some, if_neg d2]
            exact up (by omega) hk
      · refine ⟨r, keep r (.inl (fun h => d1 (e1.2 h.2.2.2))) hr, fun res hres => ?_⟩
        obtain ⟨k, hk⟩ := hrun res hres
        refine ⟨max k k1 + 1, ?_⟩
        rw [head _ (by omega), if_neg d1]
        exact up (by omega) hk
    · refine ⟨r, keep r (.inl (fun h => c3 ((hin c hc0).2 h.1))) hr, fun res hres => ?_⟩
      obtain ⟨k, hk⟩ := hrun res hres
      exact ⟨k + 1, by rw [ontimeref25_Tree.l2, if_pos hcI, if_neg c1, if_neg c2, if_pos hc0, if_pos hcs, if_neg c3, wrapN hc2]; exact hk⟩

theorem rtree_l1 (g : Gr nx) (x3 : List Int) (hx3 : x3.length < 1000) (s : List Bool) (hs : s.length = nx.length) (hin : ∀ b : Int, 0 ≤ b → (rdOf false s b = true ↔ Rd nx b)) (b : Int) (hb : Rd nx b) (hb0 : 0 < b) :
    ∀ (d a : Nat) (x6 : Int), a + d = nx.length → ∃ F, (F = x6 ∧ (∀ a' : Int, (a : Int) ≤ a' → ¬ Q nx b a') ∨ Q nx b F) ∧
      ∀ res, (∃ k, ontimeref25_Tree.l0 k nx (x3 ++ [F]) s (wrap64 (b + 1)) = some res) → ∃ k, ontimeref25_Tree.l1 k nx x3 s b x6 a = some res := by
  have h14 := g.n14
  have hbr := reach_range g.n0 g.rng hb
  have hbs : b < (s.length : Int) := by omega
  have hb1 : 0 ≤ b := hbr.1
  intro d
  induction d with
  | zero =>
    intro a x6 ha
    refine ⟨x6, .inl ⟨rfl, fun a' ha' h => ?_⟩, fun res ⟨k, hk⟩ => ⟨k + 2, ?_⟩⟩
    · have := reach_range g.n0 g.rng h.2.1
      omega
    · rw [ontimeref25_Tree.l1, if_neg (by omega), ontimeref25_Tree.j2, if_neg (by simp), if_pos (by omega)]
      exact hk
  | succ d ih =>
    intro a x6 ha
    have haI : (a : Int) < (nx.length : Int) := by omega
    have has : (a : Int) < (s.length : Int) := by omega
    have ha0 : (0 : Int) ≤ (a : Int) := by omega
    have ha2 : a < 1000000000000000000 := by omega
    have hsb : rdOf false s b = true := (hin b hb1).2 hb
    have top : ∀ k, ontimeref25_Tree.l1 (k + 1) nx x3 s b x6 a = ontimeref25_Tree.j2 k nx x3 s b x6 a true := by
      intro k
      rw [ontimeref25_Tree.l1, if_pos haI, if_pos hb0, if_pos hb1, if_pos hbs, hsb]
    have skip : ∀ k, ontimeref25_Tree.j3 (k + 1) nx x3 s b x6 a true = ontimeref25_Tree.l1 k nx x3 s b x6 ((a + 1 : Nat) : Int) := by
      intro k
      rw [ontimeref25_Tree.j3, if_pos rfl, wrapN ha2]
    obtain ⟨F, hF, hrun⟩ := ih (a + 1) x6 (by omega)
    have keep : ¬ Q nx b a → (F = x6 ∧ (∀ a' : Int, (a : Int) ≤ a' → ¬ Q nx b a') ∨ Q nx b F) := by
      intro hno
      rcases hF with ⟨h1, h2⟩ | h
      · exact .inl ⟨h1, fun a' ha' => by
          by_cases e : a' = a
          · rw [e]; exact hno
          · exact h2 a' (by omega)⟩
      · exact .inr h
    by_cases c1 : (a : Int) = b
    · refine ⟨F, keep (fun h => h.1 c1), fun res hres => ?_⟩
      obtain ⟨k, hk⟩ := hrun res hres
      exact ⟨k + 3, by rw [top, ontimeref25_Tree.j2, if_pos rfl, if_pos c1, skip]; exact hk⟩
    by_cases c2 : rdOf false s a = true
    · have hR := (hin a ha0).1 c2
      obtain ⟨q1, ⟨k1, h1⟩, e1⟩ := g.dom_r a b ⟨ha0, haI⟩ hb
      have head : ∀ k, k1 ≤ k → ontimeref25_Tree.l1 (k + 2) nx x3 s b x6 a = ontimeref25_Tree.j3 k nx x3 s b x6 a (!q1) := by
        intro k hk
        rw [top, ontimeref25_Tree.j2, if_pos rfl, if_neg c1, if_pos ha0, if_pos has, if_pos c2, h1 k hk, Option.bind_some]
      by_cases d1 : q1 = true
      · obtain ⟨r, hr, hrun2⟩ := rtree_l2 g x3 s hs hin x6 b a hb hR nx.length 0 true (by omega)
        have hrQ : r = true ↔ Q nx b a := by
          rw [hr]
          refine ⟨fun h => ⟨c1, hR, e1.1 d1, fun c hc => h.2 c ?_ hc⟩, fun h => ⟨rfl, fun c _ hc => h.2.2.2 c hc⟩⟩
          have := reach_range g.n0 g.rng hc
          omega
        obtain ⟨F2, hF2, hrun3⟩ := ih (a + 1) (if r = true then a else x6) (by omega)
        refine ⟨F2, ?_, fun res hres => ?_⟩
        · rcases hF2 with ⟨g1, g2⟩ | g1
          · by_cases hrt : r = true
            · rw [if_pos hrt] at g1
              exact .inr (by rw [g1]; exact hrQ.1 hrt)
            · rw [if_neg hrt] at g1
              refine .inl ⟨g1, fun a' ha' => ?_⟩
              by_cases e : a' = a
              · rw [e]; exact fun h => hrt (hrQ.2 h)
              · exact g2 a' (by omega)
          · exact .inr g1
        · obtain ⟨k, hk⟩ := hrun3 res hres
          obtain ⟨k2, hk2⟩ := hrun2 res ⟨k, by rw [wrapN ha2]; exact hk⟩
          refine ⟨max k1 k2 + 1 + 2, ?_⟩
          rw [head _ (by omega), ontimeref25_Tree.j3, d1, if_neg (by simp)]
          exact at_rounds (fun k => (ontimeref25_Tree.mono_l k).2.2.2.2 _ _ _ _ _ _ _ _) (Nat.le_max_right k1 k2) hk2
      · refine ⟨F, keep (fun h => d1 (e1.2 h.2.2.1)), fun res hres => ?_⟩
        obtain ⟨k, hk⟩ := hrun res hres
        refine ⟨max k1 k + 1 + 2, ?_⟩
        have d1' : q1 = false := by simpa using d1
        rw [head _ (by omega), d1', Bool.not_false, skip]
        exact at_rounds (fun k => (ontimeref25_Tree.mono_l k).2.1 _ _ _ _ _ _) (Nat.le_max_right k1 k) hk
    · refine ⟨F, keep (fun h => c2 ((hin a ha0).2 h.2.1)), fun res hres => ?_⟩
      obtain ⟨k, hk⟩ := hrun res hres
      exact ⟨k + 3, by rw [top, ontimeref25_Tree.j2, if_pos rfl, if_neg c1, if_pos ha0, if_pos has, if_neg c2, skip]; exact hk⟩

/-- The reference's answer for b. -/
def Rf (nx : List (List Int)) (b F : Int) : Prop := (Rd nx b ∧ 0 < b → (F = -1 ∧ ∀ a, ¬ Q nx b a) ∨ Q nx b F) ∧ (¬ (Rd nx b ∧ 0 < b) → F = -1)
theorem rtree_l0 (g : Gr nx) (s : List Bool) (hs : s.length = nx.length) (hin : ∀ b : Int, 0 ≤ b → (rdOf false s b = true ↔ Rd nx b)) :
    ∀ (d b : Nat) (x3 : List Int), b + d = nx.length → x3.length = b → (∀ i : Nat, i < b → Rf nx i (rd x3 i)) → ∃ res, (∃ k, ontimeref25_Tree.l0 k nx x3 s b = some res) ∧ res.length = nx.length ∧ ∀ i : Nat, i < nx.length → Rf nx i (rd res i) := by
  have h14 := g.n14
  intro d
  induction d with
  | zero =>
    intro b x3 hb hl h
    exact ⟨x3, ⟨1, by rw [ontimeref25_Tree.l0, if_neg (by omega)]⟩, by omega, fun i hi => h i (by omega)⟩
  | succ d ih =>
    intro b x3 hb hl h
    have hbI : (b : Int) < (nx.length : Int) := by omega
    have hb2 : b < 1000000000000000000 := by omega
    have app : ∀ F, Rf nx b F → ∀ i : Nat, i < b + 1 → Rf nx i (rd (x3 ++ [F]) i) := by
      intro F hF i hi
      by_cases e : i = b
      · subst e
        have : rd (x3 ++ [F]) (i : Int) = F := by
          unfold rd
          rw [List.getD_eq_getElem?_getD, Int.toNat_natCast, List.getElem?_append_right (by omega), hl, Nat.sub_self]
          rfl
        rw [this]
        exact hF
      · have : rd (x3 ++ [F]) (i : Int) = rd x3 i := by
          unfold rd
          rw [List.getD_eq_getElem?_getD, List.getD_eq_getElem?_getD, Int.toNat_natCast, List.getElem?_append_left (by omega)]
        rw [this]
        exact h i (by omega)
    by_cases hR : Rd nx b ∧ 0 < (b : Int)
    · obtain ⟨F, hF, hrun⟩ := rtree_l1 g x3 (by omega) s hs hin b hR.1 hR.2 nx.length 0 (-1) (by omega)
      obtain ⟨res, ⟨k, hk⟩, r1, r2⟩ := ih (b + 1) (x3 ++ [F]) (by omega) (by rw [List.length_append]; simp; omega) (app F ⟨fun _ => hF.imp (fun h => ⟨h.1, fun a hq => h.2 a (by have := reach_range g.n0 g.rng hq.2.1; omega) hq⟩) id, fun h => absurd hR h⟩)
      obtain ⟨k2, hk2⟩ := hrun res ⟨k, by rw [wrapN hb2]; exact hk⟩
      exact ⟨res, ⟨k2 + 1, by rw [ontimeref25_Tree.l0, if_pos hbI]; exact hk2⟩, r1, r2⟩
    · obtain ⟨res, ⟨k, hk⟩, r1, r2⟩ := ih (b + 1) (x3 ++ [-1]) (by omega) (by rw [List.length_append]; simp; omega) (app (-1) ⟨fun h => absurd h hR, fun _ => rfl⟩)
      have n0 := g.n0
      have h0I : (0 : Int) < (nx.length : Int) := by omega
      have hbs : (b : Int) < (s.length : Int) := by omega
      have hbn : (0 : Int) ≤ (b : Int) := by omega
      have hx3 : x3.length < 17592186044416 := by omega
      refine ⟨res, ⟨k + 3, ?_⟩, r1, r2⟩
      rw [ontimeref25_Tree.l0, if_pos hbI, ontimeref25_Tree.l1, if_pos h0I]
      by_cases c1 : (b : Int) > 0
      · have c2 : rdOf false s b = false := by
          cases hq : rdOf false s b with
          | false => rfl
          | true => exact absurd ⟨(hin b hbn).1 hq, c1⟩ hR
        rw [if_pos c1, if_pos hbn, if_pos hbs, c2, ontimeref25_Tree.j2, if_neg (by simp), if_pos hx3, wrapN hb2]
        exact hk
      · rw [if_neg c1, ontimeref25_Tree.j2, if_neg (by simp), if_pos hx3, wrapN hb2]
        exact hk

/-- The reference's tree is the tree. -/
theorem rtree_ev (g : Gr nx) {idom : List Int} (ht : TreeOk nx nx.length idom) : ∃ k0, ∀ k, k0 ≤ k → ontimeref25_Tree.f k nx = some idom := by
  obtain ⟨s, ⟨k1, h1⟩, hs, hin⟩ := g.reach (-1)
  obtain ⟨res, ⟨k2, h2⟩, r1, r2⟩ := rtree_l0 g s hs hin nx.length 0 [] (by omega) rfl (fun i hi => by omega)
  have hT : TreeOk nx nx.length res := by
    have n0 := g.n0
    have at_ : ∀ x : Int, 0 ≤ x → x < nx.length → Rf nx x (rd res x) := by
      intro x x0 x1
      have := r2 x.toNat (by omega)
      rw [show ((x.toNat : Nat) : Int) = x by omega] at this
      exact this
    refine ⟨r1, (at_ 0 (Int.le_refl _) (by omega)).2 (fun h => by omega), fun x x0 x1 hx => (at_ x x0 x1).2 (fun h => hx h.1), fun x hx hx0 => ?_⟩
    have hr := reach_range g.n0 g.rng hx
    rcases (at_ x hr.1 hr.2).1 ⟨hx, by omega⟩ with ⟨_, h⟩ | h
    · exact absurd ((Q.idom hx).2 (ht.idom x hx hx0)) (h _)
    · exact (Q.idom hx).1 h
  have e := hT.unique ht
  refine ev_of (fun k => ontimeref25_Tree.mono nx k) ⟨max k1 k2, ?_⟩
  unfold ontimeref25_Tree.f
  rw [h1 _ (by omega), Option.bind_some, ← e]
  exact at_rounds (fun k => (ontimeref25_Tree.mono_l k).1 _ _ _ _) (Nat.le_max_right k1 k2) h2

/-- Following the tree up from b. -/
theorem domL_ok (g : Gr nx) {idom : List Int} (ht : TreeOk nx nx.length idom) {r : Int → Int} (hr : Ranked (Ed nx) r) (a : Int) : ∀ (k : Nat) (b : Int), Rd nx b → r b ≤ k → (domL idom a k b = true ↔ ¬ Rc (Ed nx) a b) := by
  have zero : ∀ b, Rd nx b → r b ≤ 0 → b = 0 := by
    intro b hb h
    apply Classical.byContradiction
    intro hb0
    obtain ⟨p, hp, _, hlt⟩ := hr.2 b hb hb0
    have := hr.1 p hp
    omega
  have at0 : ¬ Rc (Ed nx) a 0 ↔ a = 0 := by
    constructor
    · intro h
      apply Classical.byContradiction
      intro h0
      exact h (.zero h0)
    · intro h
      subst h
      exact Rc.refl _
  intro k
  induction k with
  | zero =>
    intro b hb hk
    rw [zero b hb (by omega), at0]
    unfold domL
    exact beq_iff_eq
  | succ k ih =>
    intro b hb hk
    unfold domL
    by_cases hab : a = b
    · rw [if_pos hab]
      subst hab
      exact ⟨fun _ => Rc.refl _, fun _ => rfl⟩
    rw [if_neg hab]
    by_cases hb0 : b = 0
    · subst hb0
      rw [ht.zero, if_neg (by omega), at0]
      simp [hab]
    · have hi := ht.idom b hb hb0
      have hiR := dom_reached hi.2.1 hb
      have hir := reach_range g.n0 g.rng hiR
      have hlt := dom_rank hr _ _ b (Nat.le_refl _) hb hi.2.1 hi.1
      rw [if_pos ⟨hir.1, by rw [ht.len]; exact hir.2⟩, ih _ hiR (by omega)]
      exact (hi.iff hab).symm
end

/-- All that is known of a valid graph of at most 14 blocks. -/
theorem facts {bl : List S46} {pv : List (List Int)} (hn : bl.length ≤ 14) (hv : validB bl pv = true) :
    ∃ order idom r, (∃ k0, ∀ k, k0 ≤ k → dominator_Order.f k bl pv = some order) ∧ (∃ k0, ∀ k, k0 ≤ k → dominator_Tree.f k bl pv = some idom) ∧ Ord (rowsOf bl) order ∧ order.length ≤ bl.length ∧ TreeOk (rowsOf bl) (rowsOf bl).length idom ∧
      Ranked (Ed (rowsOf bl)) r ∧ (∀ b, Rd (rowsOf bl) b → r b < bl.length) ∧ (∀ l1 b l2, order = l1 ++ b :: l2 → r b = l1.length) ∧
      (∀ a b : Int, Rd (rowsOf bl) b → 0 ≤ a → a < bl.length → (domB idom a b = true ↔ ¬ Rc (Ed (rowsOf bl)) a b)) ∧ (∀ a b : Int, ¬ Rd (rowsOf bl) b → 0 ≤ b → b < bl.length → 0 ≤ a → a < bl.length → (domB idom a b = true ↔ a = b)) := by
  have g := good_of hv
  have gr := gr_of hn hv
  obtain ⟨order, ho1, _, ho, hol⟩ := order_ev hn hv
  obtain ⟨rank, _, hk⟩ := rank_ev g.n0 (fun a b => g.edge (a := a) (b := b)) ho
  obtain ⟨idom, ht1, ht⟩ := tree_ev hn hv
  have hr := hk.ranked ho
  have hlt : ∀ b, Rd (rowsOf bl) b → rd rank b < bl.length := by
    intro b hb
    obtain ⟨l1, l2, e⟩ := List.append_of_mem ((ho.mem b).2 hb)
    rw [hk.pos _ _ _ e]
    have := congrArg List.length e
    simp only [List.length_append, List.length_cons] at this
    omega
  have ht' : TreeOk (rowsOf bl) (rowsOf bl).length idom := by rw [rows_len]; exact ht
  refine ⟨order, idom, rd rank, ho1, ht1, ho, hol, ht', hr, hlt, hk.pos, fun a b hb a0 a1 => ?_, fun a b hb b0 b1 a0 a1 => ?_⟩
  · have hbr := reach_range g.n0 (fun a b => g.edge (a := a) (b := b)) hb
    unfold domB
    rw [if_pos ⟨a0, by rw [ht.len]; exact a1, hbr.1, by rw [ht.len]; exact hbr.2⟩]
    refine domL_ok gr ht' hr a _ b hb ?_
    have := hlt b hb
    rw [ht.len]
    omega
  · unfold domB
    rw [if_pos ⟨a0, by rw [ht.len]; exact a1, b0, by rw [ht.len]; exact b1⟩, ht.len]
    have n0 := g.n0
    obtain ⟨m, hm⟩ : ∃ m, bl.length = m + 1 := ⟨bl.length - 1, by omega⟩
    rw [hm]
    unfold domL
    by_cases hab : a = b
    · simp [hab]
    · rw [if_neg hab, ht.un b b0 b1 hb, if_neg (by omega)]
      simp [hab]
end Go.Proofs.Ytnkbmpdghjhlfaa.M
