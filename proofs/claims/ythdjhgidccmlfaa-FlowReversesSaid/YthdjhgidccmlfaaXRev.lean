/- The walk of ontimelaw47.FlowReverses, over the contracts of what it calls. -/
import Derived.Test.YthdjhgidccmlfaaXMax
import Derived.Test.YthdjhgidccmlfaaXAwake
import Derived.Test.YthdjhgidccmlfaaPx5
namespace Go.Proofs.Ythdjhgidccmlfaa.P
open Go.RowKit Go.Proofs.YthdjhgidccmlfaaW.PrintWords Go.Proofs.YthdjhgidccmlfaaW.PrintLast Go.Proofs.YthdjhgidccmlfaaW.PrintMore
attribute [local go_sem] max2_int min2_int max_two min_two max_three min_three max_four min_four
set_option linter.unusedVariables false
set_option linter.unusedSimpArgs false

/-- A row of whole numbers of one's own. -/
abbrev RI (w : World) (base : Nat) (ok : Nat → Prop) (v : Value) (xs : List Int) : Prop := Kd.R (Kd.int .i64) 3 w base ok v xs
/-! ### every block has a colour -/
def paint (f : Nat → Nat) (n i : Nat) : Nat → Nat := fun k => if n ≤ k then i else f k
def dye (f : Nat → Nat) (n i c : Nat) : Nat → Nat := fun k => if n ≤ k then i else if f k = c then i else f k
theorem paint_old {f : Nat → Nat} {n i k : Nat} (h : k < n) : paint f n i k = f k := if_neg (by omega)
theorem paint_new {f : Nat → Nat} {n i k : Nat} (h : n ≤ k) : paint f n i k = i := if_pos h
theorem dye_old {f : Nat → Nat} {n i c j k : Nat} (h : k < n) (hj : f k = j) (hc : j ≠ c) : dye f n i c k = j := by
  unfold dye
  rw [if_neg (by omega), if_neg (by omega)]
  exact hj
theorem dye_row {f : Nat → Nat} {n i c k : Nat} (h : k < n) (hj : f k = c) : dye f n i c k = i := by
  unfold dye
  rw [if_neg (by omega), if_pos hj]
theorem dye_new {f : Nat → Nat} {n i c k : Nat} (h : n ≤ k) : dye f n i c k = i := if_pos h
theorem rr_other {W w1 : World} {base i j : Nat} {f f' : Nat → Nat} {v u : Value} {X : List (List Int)} (h : RR W base (fun k => f k = j) u X) (hij : i ≠ j) (hv : ∀ k, v.ownBlock = some k → f k = i) (hg : W.grownBy w1 v.ownBlock) (hf : ∀ k, k < W.heap.size → f k = j → f' k = j) : RR w1 base (fun k => f' k = j) u X :=
  Kd.S_mono (Kd.S_grown (Kd.S_bound h) hg (fun k hk he => by have h1 := hv k he.symm; have h2 := hk.1; omega)) (fun k hk => hf k hk.2.2.1 hk.1)
theorem ri_other {W w1 : World} {base i j : Nat} {f f' : Nat → Nat} {v u : Value} {X : List Int} (h : RI W base (fun k => f k = j) u X) (hij : i ≠ j) (hv : ∀ k, v.ownBlock = some k → f k = i) (hg : W.grownBy w1 v.ownBlock) (hf : ∀ k, k < W.heap.size → f k = j → f' k = j) : RI w1 base (fun k => f' k = j) u X :=
  Kd.R_mono (Kd.R_grown (Kd.R_bound h) hg (fun k hk he => by have h1 := hv k he.symm; have h2 := hk.1; omega)) (fun k hk => hf k hk.2.2.1 hk.1)
theorem rr_own {W : World} {base j : Nat} {f : Nat → Nat} {u : Value} {X : List (List Int)} (h : RR W base (fun k => f k = j) u X) : ∀ k, u.ownBlock = some k → f k = j := (Kd.S_R h).1
theorem ri_own {W : World} {base j : Nat} {f : Nat → Nat} {u : Value} {X : List Int} (h : RI W base (fun k => f k = j) u X) : ∀ k, u.ownBlock = some k → f k = j := h.1
theorem ri_paint {W : World} {base i : Nat} {f : Nat → Nat} {u : Value} {X : List Int} (h : RI W base (fun k => f k = i) u X) : RI W base (fun k => paint f W.heap.size i k = i) u X :=
  Kd.R_mono (Kd.R_bound h) (fun k hk => (paint_old hk.2.2.1).trans hk.1)
/-- A row that goes into rows of rows. -/
theorem ri_in {W : World} {base c : Nat} {f : Nat → Nat} {u : Value} {X : List Int} (h : RI W base (fun k => f k = c) u X) : RI W base (fun k => f k = c ∧ k < W.heap.size) u X :=
  Kd.R_mono (Kd.R_bound h) (fun k hk => ⟨hk.1, hk.2.2.1⟩)
theorem rr_in {W : World} {base i c : Nat} {f : Nat → Nat} {u : Value} {X : List (List Int)} (h : RR W base (fun k => f k = i) u X) (hc : i ≠ c) : RR W base (fun k => dye f W.heap.size i c k = i ∧ ¬ (f k = c ∧ k < W.heap.size)) u X :=
  Kd.S_mono (Kd.S_bound h) (fun k hk => ⟨dye_old hk.2.2.1 hk.1 hc, fun e => by have h1 := hk.1; have h2 := e.1; omega⟩)
theorem in_ok {W : World} {base i c : Nat} {f : Nat → Nat} {u : Value} {X : List (List Int)} (h : RR W base (fun k => f k = i) u X) (hc : i ≠ c) : ∀ k, (f k = c ∧ k < W.heap.size) → dye f W.heap.size i c k = i ∧ some k ≠ u.ownBlock :=
  fun k hk => ⟨dye_row hk.2 hk.1, fun e => by have h1 := rr_own h k e.symm; have h2 := hk.1; omega⟩
structure Three (w : World) (base : Nat) (f : Nat → Nat) (a b c : Value) (X Y Z : List (List Int)) : Prop where
  X : RR w base (fun k => f k = 0) a X
  Y : RR w base (fun k => f k = 1) b Y
  Z : RR w base (fun k => f k = 2) c Z
structure Six (w : World) (base : Nat) (f : Nat → Nat) (a b c d e g : Value) (X Y Z : List (List Int)) (x y z : List Int) : Prop where
  X : RR w base (fun k => f k = 0) a X
  Y : RR w base (fun k => f k = 1) b Y
  Z : RR w base (fun k => f k = 2) c Z
  x : RI w base (fun k => f k = 3) d x
  y : RI w base (fun k => f k = 4) e y
  z : RI w base (fun k => f k = 5) g z
section
variable {W w1 : World} {base : Nat} {f : Nat → Nat} {a b c d e g v1 : Value} {X Y Z : List (List Int)} {x y z : List Int} {q : Int}
theorem Six.px (h : Six W base f a b c d e g X Y Z x y z) (ho : RI w1 base (fun k => paint f W.heap.size 3 k = 3) v1 (x ++ [q])) (hg : W.grownBy w1 d.ownBlock) : Six w1 base (paint f W.heap.size 3) a b c v1 e g X Y Z (x ++ [q]) y z :=
  ⟨rr_other (i := 3) h.X (by omega) (ri_own h.x) hg (fun k hk hj => (paint_old hk).trans hj), rr_other (i := 3) h.Y (by omega) (ri_own h.x) hg (fun k hk hj => (paint_old hk).trans hj), rr_other (i := 3) h.Z (by omega) (ri_own h.x) hg (fun k hk hj => (paint_old hk).trans hj), ho, ri_other (i := 3) h.y (by omega) (ri_own h.x) hg (fun k hk hj => (paint_old hk).trans hj), ri_other (i := 3) h.z (by omega) (ri_own h.x) hg (fun k hk hj => (paint_old hk).trans hj)⟩
theorem Six.py (h : Six W base f a b c d e g X Y Z x y z) (ho : RI w1 base (fun k => paint f W.heap.size 4 k = 4) v1 (y ++ [q])) (hg : W.grownBy w1 e.ownBlock) : Six w1 base (paint f W.heap.size 4) a b c d v1 g X Y Z x (y ++ [q]) z :=
  ⟨rr_other (i := 4) h.X (by omega) (ri_own h.y) hg (fun k hk hj => (paint_old hk).trans hj), rr_other (i := 4) h.Y (by omega) (ri_own h.y) hg (fun k hk hj => (paint_old hk).trans hj), rr_other (i := 4) h.Z (by omega) (ri_own h.y) hg (fun k hk hj => (paint_old hk).trans hj), ri_other (i := 4) h.x (by omega) (ri_own h.y) hg (fun k hk hj => (paint_old hk).trans hj), ho, ri_other (i := 4) h.z (by omega) (ri_own h.y) hg (fun k hk hj => (paint_old hk).trans hj)⟩
theorem Six.pz (h : Six W base f a b c d e g X Y Z x y z) (ho : RI w1 base (fun k => paint f W.heap.size 5 k = 5) v1 (z ++ [q])) (hg : W.grownBy w1 g.ownBlock) : Six w1 base (paint f W.heap.size 5) a b c d e v1 X Y Z x y (z ++ [q]) :=
  ⟨rr_other (i := 5) h.X (by omega) (ri_own h.z) hg (fun k hk hj => (paint_old hk).trans hj), rr_other (i := 5) h.Y (by omega) (ri_own h.z) hg (fun k hk hj => (paint_old hk).trans hj), rr_other (i := 5) h.Z (by omega) (ri_own h.z) hg (fun k hk hj => (paint_old hk).trans hj), ri_other (i := 5) h.x (by omega) (ri_own h.z) hg (fun k hk hj => (paint_old hk).trans hj), ri_other (i := 5) h.y (by omega) (ri_own h.z) hg (fun k hk hj => (paint_old hk).trans hj), ho⟩
/-- The rows go in one after another. -/
structure Five (w : World) (base : Nat) (f : Nat → Nat) (a b c e g : Value) (X Y Z : List (List Int)) (y z : List Int) : Prop where
  X : RR w base (fun k => f k = 0) a X
  Y : RR w base (fun k => f k = 1) b Y
  Z : RR w base (fun k => f k = 2) c Z
  y : RI w base (fun k => f k = 4) e y
  z : RI w base (fun k => f k = 5) g z
structure Four (w : World) (base : Nat) (f : Nat → Nat) (a b c g : Value) (X Y Z : List (List Int)) (z : List Int) : Prop where
  X : RR w base (fun k => f k = 0) a X
  Y : RR w base (fun k => f k = 1) b Y
  Z : RR w base (fun k => f k = 2) c Z
  z : RI w base (fun k => f k = 5) g z
theorem Six.in0 (h : Six W base f a b c d e g X Y Z x y z) (ho : RR w1 base (fun k => dye f W.heap.size 0 3 k = 0) v1 (X ++ [x])) (hg : W.grownBy w1 a.ownBlock) : Five w1 base (dye f W.heap.size 0 3) v1 b c e g (X ++ [x]) Y Z y z :=
  ⟨ho, rr_other (i := 0) h.Y (by omega) (rr_own h.X) hg (fun k hk hj => dye_old hk hj (by omega)), rr_other (i := 0) h.Z (by omega) (rr_own h.X) hg (fun k hk hj => dye_old hk hj (by omega)), ri_other (i := 0) h.y (by omega) (rr_own h.X) hg (fun k hk hj => dye_old hk hj (by omega)), ri_other (i := 0) h.z (by omega) (rr_own h.X) hg (fun k hk hj => dye_old hk hj (by omega))⟩
theorem Five.in1 (h : Five W base f a b c e g X Y Z y z) (ho : RR w1 base (fun k => dye f W.heap.size 1 4 k = 1) v1 (Y ++ [y])) (hg : W.grownBy w1 b.ownBlock) : Four w1 base (dye f W.heap.size 1 4) a v1 c g X (Y ++ [y]) Z z :=
  ⟨rr_other (i := 1) h.X (by omega) (rr_own h.Y) hg (fun k hk hj => dye_old hk hj (by omega)), ho, rr_other (i := 1) h.Z (by omega) (rr_own h.Y) hg (fun k hk hj => dye_old hk hj (by omega)), ri_other (i := 1) h.z (by omega) (rr_own h.Y) hg (fun k hk hj => dye_old hk hj (by omega))⟩
theorem Four.in2 (h : Four W base f a b c g X Y Z z) (ho : RR w1 base (fun k => dye f W.heap.size 2 5 k = 2) v1 (Z ++ [z])) (hg : W.grownBy w1 c.ownBlock) : Three w1 base (dye f W.heap.size 2 5) a b v1 X Y (Z ++ [z]) :=
  ⟨rr_other (i := 2) h.X (by omega) (rr_own h.Z) hg (fun k hk hj => dye_old hk hj (by omega)), rr_other (i := 2) h.Y (by omega) (rr_own h.Z) hg (fun k hk hj => dye_old hk hj (by omega)), ho⟩
theorem Three.below (h : Three W base f a b c X Y Z) (hb : Below W.heap.size W w1) : Three w1 base f a b c X Y Z := ⟨Kd.S_below h.X hb, Kd.S_below h.Y hb, Kd.S_below h.Z hb⟩
theorem Three.six (h : Three W base f a b c X Y Z) : Six W base f a b c (.slice none 0 0) (.slice none 0 0) (.slice none 0 0) X Y Z [] [] [] := ⟨h.X, h.Y, h.Z, Kd.R_nil _ _ _ _ _, Kd.R_nil _ _ _ _ _, Kd.R_nil _ _ _ _ _⟩
theorem Three.nil (W : World) (base : Nat) : Three W base (fun _ => 0) (.slice none 0 0) (.slice none 0 0) (.slice none 0 0) [] [] [] := ⟨Kd.S_nil _ _ _ _ _, Kd.S_nil _ _ _ _ _, Kd.S_nil _ _ _ _ _⟩
/-- One cell of one row of the third is written. -/
theorem Three.put {n cap gc : Nat} (h : Three W base f a b (.slice (some ⟨gc, 0, none⟩) n cap) X Y Z) (i : Int) (h0 : 0 ≤ i) (h1 : i < n) (j : Int) (h2 : 0 ≤ j) (h3 : j < (rd_L4 Z i).length) :
    ∃ (g2 c : Nat), W.cell? ⟨gc, i.toNat, none⟩ = some (.slice (some ⟨g2, 0, none⟩) (rd_L4 Z i).length c) ∧ W.cell? ⟨g2, j.toNat, none⟩ = some (.int .i64 (rd (rd_L4 Z i) j)) ∧ W.frozen? ⟨g2, j.toNat, none⟩ = false ∧ base ≤ g2 ∧
      ∀ q : Int, Three (W.setCell ⟨g2, j.toNat, none⟩ (.int .i64 q)) base f a b (.slice (some ⟨gc, 0, none⟩) n cap) X Y (Z.set i.toNat ((rd_L4 Z i).set j.toNat q)) := by
  obtain ⟨g2, c, e1, e2, e3, e4, e5, e6⟩ := elem_put h.Z i h0 h1 j h2 h3
  refine ⟨g2, c, e1, e2, e3, e4, fun q => ⟨Kd.S_far h.X (fun k hk => ?_) _, Kd.S_far h.Y (fun k hk => ?_) _, e6 q⟩⟩
  · intro ek
    have ek' : k = g2 := ek
    rw [ek'] at hk
    omega
  · intro ek
    have ek' : k = g2 := ek
    rw [ek'] at hk
    omega
end

set_option maxHeartbeats 8000000 in
set_option maxRecDepth 100000 in
/-- The law passes by. -/
theorem rev_bad (K : Nat) (A : Option Addr) (c : Nat) (l : List (List Int)) (a1 a2 a3 a4 a5 : Int) (w : World) (hC : Kd.C (Kd.slice 3 (Kd.int .i64)) w A l.length l) (hc : l.length ≤ c) (hv : ontimelaw47_network.f K l 14 = some false) :
    Calls Try.prog 14 #[.slice A l.length c, .int .u8 a1, .int .u8 a2, .int .u8 a3, .int .u8 a4, .int .u8 a5] w fun e w' => e = .returned (.bool true) ∧ Below w.heap.size w w' := by
  have HC := Aside0.mk hC
  have Hc := Aside0.mk hc
  have HV := Aside0.mk hv
  clear hC hc hv
  go_enter Try.func14, Try.ntmps14
  have HB := Aside0.mk (Below.refl w.heap.size w)
  go_wp2_with (first
    | (go_at_call 41; refine (ontimelaw47_awake.calls true _ rfl).mono ?_; rintro e w2 ⟨rfl, hb⟩; have nb := Aside0.mk (below_step HB.out hb); clear HB hb; have HB := nb; clear nb)
    | (go_at_call 44; refine (ontimelaw47_network.calls K A c l 14 false _ (Kd.C_below HC.out HB.out) Hc.out HV.out).mono ?_; rintro e w3 ⟨rfl, hd⟩; have nb := Aside0.mk (below_step HB.out hd.below); clear HB hd; have HB := nb; clear nb))
  go_ret
  exact ⟨rfl, HB.out⟩

/-- The rows so far. -/
def backR (l : List (List Int)) (a j : Nat) : List Int := (List.range j).map fun b : Nat => rd (rd_L4 l (b : Int)) (a : Int)
def manyR (l : List (List Int)) (T : Int) (a j : Nat) : List Int := (List.range j).map fun b : Nat => wrap64 (rd (rd_L4 l (a : Int)) (b : Int) * T)
def moreR (l : List (List Int)) (a j : Nat) : List Int := (List.range j).map fun b : Nat => rd (rd_L4 l (a : Int)) (b : Int)
def backL (l : List (List Int)) (n i : Nat) : List (List Int) := (List.range i).map fun a : Nat => backR l a n
def manyL (l : List (List Int)) (T : Int) (n i : Nat) : List (List Int) := (List.range i).map fun a : Nat => manyR l T a n
def moreL (l : List (List Int)) (n i : Nat) : List (List Int) := (List.range i).map fun a : Nat => moreR l a n
theorem backR_s (l : List (List Int)) (a j : Nat) : backR l a j ++ [rd (rd_L4 l (j : Int)) (a : Int)] = backR l a (j + 1) := by simp [backR, List.range_succ]
theorem manyR_s (l : List (List Int)) (T : Int) (a j : Nat) : manyR l T a j ++ [wrap64 (rd (rd_L4 l (a : Int)) (j : Int) * T)] = manyR l T a (j + 1) := by simp [manyR, List.range_succ]
theorem moreR_s (l : List (List Int)) (a j : Nat) : moreR l a j ++ [rd (rd_L4 l (a : Int)) (j : Int)] = moreR l a (j + 1) := by simp [moreR, List.range_succ]
theorem backL_s (l : List (List Int)) (n i : Nat) : backL l n i ++ [backR l i n] = backL l n (i + 1) := by simp [backL, List.range_succ]
theorem manyL_s (l : List (List Int)) (T : Int) (n i : Nat) : manyL l T n i ++ [manyR l T i n] = manyL l T n (i + 1) := by simp [manyL, List.range_succ]
theorem moreL_s (l : List (List Int)) (n i : Nat) : moreL l n i ++ [moreR l i n] = moreL l n (i + 1) := by simp [moreL, List.range_succ]
theorem backR_l (l : List (List Int)) (a j : Nat) : (backR l a j).length = j := by simp [backR]
theorem manyR_l (l : List (List Int)) (T : Int) (a j : Nat) : (manyR l T a j).length = j := by simp [manyR]
theorem moreR_l (l : List (List Int)) (a j : Nat) : (moreR l a j).length = j := by simp [moreR]
theorem backL_l (l : List (List Int)) (n i : Nat) : (backL l n i).length = i := by simp [backL]
theorem manyL_l (l : List (List Int)) (T : Int) (n i : Nat) : (manyL l T n i).length = i := by simp [manyL]
theorem moreL_l (l : List (List Int)) (n i : Nat) : (moreL l n i).length = i := by simp [moreL]
theorem moreL_at (l : List (List Int)) (n i p : Nat) (h : p < i) : rd_L4 (moreL l n i) (p : Int) = moreR l p n := by
  unfold rd_L4 moreL
  rw [Int.toNat_natCast, List.getD_eq_getElem?_getD, List.getElem?_map, List.getElem?_range h]
  rfl
theorem max_at (k : Nat) (A0 : Option Addr) (c0 n : Nat) (l0 : List (List Int)) (a1 a2 : Int) (r1 : Int) (r2 : List (List Int)) (r3 : Int) (w : World) (hn : l0.length = n) (hr0 : Kd.C (Kd.slice 3 (Kd.int .i64)) w A0 l0.length l0) (hc0 : n ≤ c0) (h : flow_Max.f k l0 a1 a2 = some (r1, r2, r3)) :
    Calls Try.prog 46 #[.slice A0 n c0, .int .i64 a1, .int .i64 a2] w fun e w' => ∃ v0_ : Value, e = .returned (.tuple #[.int .i64 r1, v0_, .int .i64 r3]) ∧ Below w.heap.size w w' := by
  subst hn
  refine (flow_Max.calls k A0 c0 l0 a1 a2 r1 r2 r3 w hr0 hc0 h).mono ?_
  rintro e w' ⟨v, rfl, _, hb⟩
  exact ⟨v, rfl, hb⟩
set_option maxHeartbeats 8000000 in
set_option maxRecDepth 100000 in
/-- The law looks. -/
theorem rev_good (K : Nat) (A : Option Addr) (c : Nat) (l : List (List Int)) (a1 a2 a3 a4 a5 : Int) (w : World) (hC : Kd.C (Kd.slice 3 (Kd.int .i64)) w A l.length l) (hc : l.length ≤ c) (h14 : l.length ≤ 14) (hq : ∀ a : Nat, a < l.length → (rd_L4 l (a : Int)).length = l.length) (h5 : 0 ≤ a5 ∧ a5 < 256)
    (hv : ontimelaw47_network.f K l 14 = some true) (s t : Int) (he : ontimelaw47_ends.f l a1 a2 = some (s, t)) (value : Int) (xs : List (List Int)) (hm : flow_Max.f K l s t = some (value, xs, 0)) (p q : Nat) (he2 : ontimelaw47_ends.f l a3 a4 = some ((p : Int), (q : Int))) (hp : p < l.length) (hq2 : q < l.length) (T : Int) (hT : T = 1 + a5 % 5)
    (hfin : (∀ a b : Nat, a < l.length → b < l.length → rd (rd_L4 l (a : Int)) (b : Int) ≤ 134217728) → ∃ d x1 x2 x3, flow_Max.f K (backL l l.length l.length) t s = some (value, x1, 0) ∧ flow_Max.f K (manyL l T l.length l.length) s t = some (wrap64 (T * value), x2, 0) ∧
      flow_Max.f K ((moreL l l.length l.length).set p ((rd_L4 (moreL l l.length l.length) p).set q (wrap64 (rd (rd_L4 (moreL l l.length l.length) p) q + a5)))) s t = some (d, x3, 0) ∧ value ≤ d ∧ d ≤ wrap64 (value + a5)) :
    Calls Try.prog 14 #[.slice A l.length c, .int .u8 a1, .int .u8 a2, .int .u8 a3, .int .u8 a4, .int .u8 a5] w fun e w' => e = .returned (.bool true) ∧ Below w.heap.size w w' := by
  have HC := Aside0.mk hC
  have Hc := Aside0.mk hc
  have HV := Aside0.mk hv
  have HE := Aside0.mk he
  have HE2 := Aside0.mk he2
  have HM := Aside0.mk hm
  have HQ := Aside0.mk hq
  have HPQ := Aside0.mk (And.intro hp hq2)
  have HF := Aside0.mk hfin
  have HT := Aside0.mk hT
  clear hC hc hv he he2 hm hq hp hq2 hfin hT
  have HB := Aside0.mk (Below.refl w.heap.size w)
  have le9 : (l.length : Int) ≤ 9223372036854775807 := by omega
  go_enter Try.func14, Try.ntmps14
  go_upto_region 5 with (first
    | (go_at_call 41; refine (ontimelaw47_awake.calls true _ rfl).mono ?_; rintro e w2 ⟨rfl, hb⟩; have nb := Aside0.mk (below_step HB.out hb); clear HB hb; have HB := nb; clear nb)
    | (go_at_call 44; refine (ontimelaw47_network.calls K A c l 14 true _ (Kd.C_below HC.out HB.out) Hc.out HV.out).mono ?_; rintro e w3 ⟨rfl, hd⟩; have nb := Aside0.mk (below_step HB.out hd.below); clear HB hd; have HB := nb; clear nb)
    | (go_at_call 45; refine (ontimelaw47_ends.calls A c l a1 a2 s t _ (Kd.C_below HC.out HB.out) Hc.out HE.out).mono ?_; rintro e w3 ⟨rfl, hd⟩; have nb := Aside0.mk (below_step HB.out hd.below); clear HB hd; have HB := nb; clear nb)
    | (go_at_call 46; refine (flow_Max.calls K A c l s t value xs 0 _ (Kd.C_below HC.out HB.out) Hc.out HM.out).mono ?_; rintro e w4 ⟨v4, rfl, hS, hb⟩; have nb := Aside0.mk (below_step HB.out hb); clear HB hb hS; have HB := nb; clear nb))
  have k5 : (0 : Int) ≤ a5 := h5.1
  have k6 : a5 < 256 := h5.2
  go_upto_region 6 with fail
  rw [show (1 + a5 % 5 : Int) = T from HT.out.symm]
  go_wp2_with fail
  go_loopw [19, 20, 21, 67] (fun v19 v20 v21 v67 wr => ∃ (i : Nat) (f : Nat → Nat), i ≤ l.length ∧ v67 = .int .i64 (i : Int) ∧ Aside0 (Three wr w.heap.size f v19 v20 v21 (backL l l.length i) (manyL l T l.length i) (moreL l l.length i)) ∧ Aside0 (∀ a b : Nat, a < i → b < l.length → rd (rd_L4 l (a : Int)) (b : Int) ≤ 134217728) ∧ Aside0 (Below w.heap.size w wr)) (fun _ _ _ v67 _ => l.length - (intOf v67).toNat)
  case atStart => exact ⟨0, fun _ => 0, Nat.zero_le _, rfl, ⟨Three.nil _ _⟩, ⟨fun a b h _ => absurd h (Nat.not_lt_zero a)⟩, HB⟩
  case round =>
    clear HB
    obtain ⟨i, f, hi, rfl, H3, HL, HB⟩ := hrel
    by_cases hin : i < l.length
    · have i0 : (0 : Int) ≤ (i : Int) := by omega
      have i1 : (i : Int) < (l.length : Int) := by omega
      go_wp2_with fail
      go_loopw [23, 24, 25, 72] (fun v23 v24 v25 v72 wq => ∃ (j : Nat) (f2 : Nat → Nat), j ≤ l.length ∧ v72 = .int .i64 (j : Int) ∧ Aside0 (Six wq w.heap.size f2 u19 u20 u21 v23 v24 v25 (backL l l.length i) (manyL l T l.length i) (moreL l l.length i) (backR l i j) (manyR l T i j) (moreR l i j)) ∧ Aside0 (∀ b : Nat, b < j → rd (rd_L4 l (i : Int)) (b : Int) ≤ 134217728) ∧ Aside0 (Below w.heap.size w wq)) (fun _ _ _ v72 _ => l.length - (intOf v72).toNat)
      case atStart => exact ⟨0, f, Nat.zero_le _, rfl, ⟨H3.out.six⟩, ⟨fun b h => absurd h (Nat.not_lt_zero b)⟩, HB⟩
      case round =>
        clear H3 HB
        obtain ⟨j, f2, hj, rfl, H6, HR, HB⟩ := hrel
        by_cases hjn : j < l.length
        · have j0 : (0 : Int) ≤ (j : Int) := by omega
          have j1 : (j : Int) < (l.length : Int) := by omega
          obtain ⟨ad, Ai, ci, rfl, y1, li, hi4⟩ := at_L4 HC.out (i : Int) i0 i1
          have q1 := HQ.out i hin
          have q2 := HQ.out j hjn
          obtain ⟨adi, rfl, y2⟩ := cell_row hi4 (j : Int) j0 (by omega)
          obtain ⟨ad9, Aj, cj, e9, z1, lj, hj4⟩ := at_L4 HC.out (j : Int) j0 j1
          obtain rfl : ad = ad9 := Option.some.inj e9
          obtain ⟨adj, rfl, z2⟩ := cell_row hj4 (i : Int) i0 (by omega)
          simp only [Int.toNat_natCast] at y1 y2 z1 z2
          rw [q1] at y1
          rw [q2] at z1
          have Y1 := Aside0.mk y1
          have Y2 := Aside0.mk y2
          have Z1 := Aside0.mk z1
          have Z2 := Aside0.mk z2
          clear y1 y2 z1 z2 li hi4 lj hj4 e9 q1 q2
          have y1 := (HB.out.cell (World.block_lt_of_cell? _ _ Y1.out)).trans Y1.out
          have y2 := (HB.out.cell (World.block_lt_of_cell? _ _ Y2.out)).trans Y2.out
          have z1 := (HB.out.cell (World.block_lt_of_cell? _ _ Z1.out)).trans Z1.out
          have z2 := (HB.out.cell (World.block_lt_of_cell? _ _ Z2.out)).trans Z2.out
          by_cases hbig : 134217728 < rd (rd_L4 l (i : Int)) (j : Int)
          · have d := decide_eq_true hbig
            clear H6
            go_wp2_with fail
            go_ret
            exact ⟨rfl, HB.out⟩
          · have d := decide_eq_false hbig
            have HBG := Aside0.mk hbig
            clear hbig
            go_wp2_with (first
              | ((with_reducible refine gate_builtin (b := .append) (xs := #[.tmp 83, .tmp 91]) rfl ?_); at_builtin; refine Kd.R_append (Kd.int .i64) (w0 := w) w.heap.size rfl (.tmp 83) (.tmp 91) 55 3 (.int .i64 0) 8 rfl Try.underlying55 info3 rfl (by decide) (by omega) u23 (backR l i j) (rd (rd_L4 l (j : Int)) (i : Int)) [.int .i64 (rd (rd_L4 l (j : Int)) (i : Int))] (fun k => paint f2 wr.heap.size 3 k = 3) (fun _ => False) rfl rfl ?aP (fun _ hk => hk.elim) ?aF ?aO ?aB ?aS ?aL ?_; (case aO => exact ri_paint H6.out.x); (case aP => exact rfl); (case aB => exact HB.out); (case aF => exact fun k hk => paint_new hk); (case aS => exact HB.out.size); (case aL => rw [backR_l]; omega); intro v3_ w3_ ho hb hg hat; have n6 := Aside0.mk (H6.out.px ho hg); rw [backR_s] at n6; have nb := Aside0.mk hb; clear H6 HB ho hb hg hat; have H6 := n6; have HB := nb; clear n6 nb; have y1 := (HB.out.cell (World.block_lt_of_cell? _ _ Y1.out)).trans Y1.out; have y2 := (HB.out.cell (World.block_lt_of_cell? _ _ Y2.out)).trans Y2.out)
              | ((with_reducible refine gate_builtin (b := .append) (xs := #[.tmp 93, .tmp 103]) rfl ?_); at_builtin; refine Kd.R_append (Kd.int .i64) (w0 := w) w.heap.size rfl (.tmp 93) (.tmp 103) 55 3 (.int .i64 0) 8 rfl Try.underlying55 info3 rfl (by decide) (by omega) u24 (manyR l T i j) (wrap64 (rd (rd_L4 l (i : Int)) (j : Int) * T)) [.int .i64 (wrap64 (rd (rd_L4 l (i : Int)) (j : Int) * T))] (fun k => paint (paint f2 wr.heap.size 3) w3_.heap.size 4 k = 4) (fun _ => False) rfl rfl ?aP (fun _ hk => hk.elim) ?aF ?aO ?aB ?aS ?aL ?_; (case aO => exact ri_paint H6.out.y); (case aP => exact rfl); (case aB => exact HB.out); (case aF => exact fun k hk => paint_new hk); (case aS => exact HB.out.size); (case aL => rw [manyR_l]; omega); intro v4_ w4_ ho hb hg hat; have n6 := Aside0.mk (H6.out.py ho hg); rw [manyR_s] at n6; have nb := Aside0.mk hb; clear H6 HB ho hb hg hat; have H6 := n6; have HB := nb; clear n6 nb; have y1 := (HB.out.cell (World.block_lt_of_cell? _ _ Y1.out)).trans Y1.out; have y2 := (HB.out.cell (World.block_lt_of_cell? _ _ Y2.out)).trans Y2.out)
              | ((with_reducible refine gate_builtin (b := .append) (xs := #[.tmp 105, .tmp 113]) rfl ?_); at_builtin; refine Kd.R_append (Kd.int .i64) (w0 := w) w.heap.size rfl (.tmp 105) (.tmp 113) 55 3 (.int .i64 0) 8 rfl Try.underlying55 info3 rfl (by decide) (by omega) u25 (moreR l i j) (rd (rd_L4 l (i : Int)) (j : Int)) [.int .i64 (rd (rd_L4 l (i : Int)) (j : Int))] (fun k => paint (paint (paint f2 wr.heap.size 3) w3_.heap.size 4) w4_.heap.size 5 k = 5) (fun _ => False) rfl rfl ?aP (fun _ hk => hk.elim) ?aF ?aO ?aB ?aS ?aL ?_; (case aO => exact ri_paint H6.out.z); (case aP => exact rfl); (case aB => exact HB.out); (case aF => exact fun k hk => paint_new hk); (case aS => exact HB.out.size); (case aL => rw [moreR_l]; omega); intro v5_ w5_ ho hb hg hat; have n6 := Aside0.mk (H6.out.pz ho hg); rw [moreR_s] at n6; have nb := Aside0.mk hb; clear H6 HB ho hb hg hat; have H6 := n6; have HB := nb; clear n6 nb))
            go_roundw
            case rel => exact ⟨j + 1, _, by omega, by go_num, H6, ⟨fun b hb => by
              by_cases e : b = j
              · subst e; have := HBG.out; omega
              · exact HR.out b (by omega)⟩, HB⟩
            case measure => simp [intOf]; omega
        · obtain rfl : j = l.length := by omega
          obtain ⟨A3, c3, e3⟩ := Kd.R_slice H6.out.x
          obtain ⟨A4, c4, e4⟩ := Kd.R_slice H6.out.y
          obtain ⟨A5, c5, e5⟩ := Kd.R_slice H6.out.z
          subst e3 e4 e5
          go_wp2_with (first
            | ((with_reducible refine gate_builtin (b := .append) (xs := #[.tmp 116, .tmp 118]) rfl ?_); at_builtin; refine Kd.S_append (Kd.slice 3 (Kd.int .i64)) (w0 := w) w.heap.size rfl (.tmp 116) (.tmp 118) 54 55 (.slice none 0 0) 24 rfl Try.underlying54 info55 rfl (by decide) (by omega) u19 (backL l l.length i) (backR l i l.length) [.slice A3 (backR l i l.length).length c3] (fun k => dye f2 wr.heap.size 0 3 k = 0) (fun k => f2 k = 3 ∧ k < wr.heap.size) rfl rfl ?aP (in_ok H6.out.X (by omega)) ?aF ?aO ?aB ?aS ?aL ?_; (case aP => exact Kd.M_row (ri_in H6.out.x)); (case aB => exact HB.out); (case aF => exact fun k hk => dye_new hk); (case aO => exact rr_in H6.out.X (by omega)); (case aS => exact HB.out.size); (case aL => rw [backL_l]; omega); intro v0_ w0_ ho hb hg hat; have n6 := Aside0.mk (H6.out.in0 ho hg); rw [backL_s] at n6; have nb := Aside0.mk hb; clear H6 HB ho hb hg hat; have H5_ := n6; have HB := nb; clear n6 nb)
            | ((with_reducible refine gate_builtin (b := .append) (xs := #[.tmp 120, .tmp 122]) rfl ?_); at_builtin; refine Kd.S_append (Kd.slice 3 (Kd.int .i64)) (w0 := w) w.heap.size rfl (.tmp 120) (.tmp 122) 54 55 (.slice none 0 0) 24 rfl Try.underlying54 info55 rfl (by decide) (by omega) u20 (manyL l T l.length i) (manyR l T i l.length) [.slice A4 (manyR l T i l.length).length c4] (fun k => dye (dye f2 wr.heap.size 0 3) w0_.heap.size 1 4 k = 1) (fun k => (dye f2 wr.heap.size 0 3) k = 4 ∧ k < w0_.heap.size) rfl rfl ?aP (in_ok H5_.out.Y (by omega)) ?aF ?aO ?aB ?aS ?aL ?_; (case aP => exact Kd.M_row (ri_in H5_.out.y)); (case aB => exact HB.out); (case aF => exact fun k hk => dye_new hk); (case aO => exact rr_in H5_.out.Y (by omega)); (case aS => exact HB.out.size); (case aL => rw [manyL_l]; omega); intro v1_ w1_ ho hb hg hat; have n6 := Aside0.mk (H5_.out.in1 ho hg); rw [manyL_s] at n6; have nb := Aside0.mk hb; clear H5_ HB ho hb hg hat; have H4_ := n6; have HB := nb; clear n6 nb)
            | ((with_reducible refine gate_builtin (b := .append) (xs := #[.tmp 124, .tmp 126]) rfl ?_); at_builtin; refine Kd.S_append (Kd.slice 3 (Kd.int .i64)) (w0 := w) w.heap.size rfl (.tmp 124) (.tmp 126) 54 55 (.slice none 0 0) 24 rfl Try.underlying54 info55 rfl (by decide) (by omega) u21 (moreL l l.length i) (moreR l i l.length) [.slice A5 (moreR l i l.length).length c5] (fun k => dye (dye (dye f2 wr.heap.size 0 3) w0_.heap.size 1 4) w1_.heap.size 2 5 k = 2) (fun k => (dye (dye f2 wr.heap.size 0 3) w0_.heap.size 1 4) k = 5 ∧ k < w1_.heap.size) rfl rfl ?aP (in_ok H4_.out.Z (by omega)) ?aF ?aO ?aB ?aS ?aL ?_; (case aP => exact Kd.M_row (ri_in H4_.out.z)); (case aB => exact HB.out); (case aF => exact fun k hk => dye_new hk); (case aO => exact rr_in H4_.out.Z (by omega)); (case aS => exact HB.out.size); (case aL => rw [moreL_l]; omega); intro v2_ w2_ ho hb hg hat; have n6 := Aside0.mk (H4_.out.in2 ho hg); rw [moreL_s] at n6; have nb := Aside0.mk hb; clear H4_ HB ho hb hg hat; have H3 := n6; have HB := nb; clear n6 nb))
          go_roundw
          case rel => exact ⟨i + 1, _, by omega, by go_num, H3, ⟨fun a b ha hb => by
            by_cases e : a = i
            · subst e; exact HR.out b hb
            · exact HL.out a b (by omega) hb⟩, HB⟩
          case measure => simp [intOf]; omega
    · obtain rfl : i = l.length := by omega
      obtain ⟨d, x1, x2, x3, m1, m2, m3, d1, d2⟩ := HF.out (fun a b ha hb => HL.out a b ha hb)
      obtain ⟨A9, c9, e9⟩ := Kd.S_slice H3.out.X
      obtain ⟨A10, c10, e10⟩ := Kd.S_slice H3.out.Y
      obtain ⟨A11, c11, e11⟩ := Kd.S_slice H3.out.Z
      rw [backL_l] at e9
      rw [manyL_l] at e10
      rw [moreL_l] at e11
      subst e9 e10 e11
      obtain ⟨gc, rfl⟩ := rows_addr H3.out.Z (by have := HPQ.out; omega)
      have M1 := Aside0.mk m1
      have M2 := Aside0.mk m2
      have M3 := Aside0.mk m3
      have D1 := Aside0.mk (And.intro d1 d2)
      clear m1 m2 m3 d1 d2
      go_upto_region 23 with (go_at_call 45; refine (ontimelaw47_ends.calls A c l a3 a4 p q _ (Kd.C_below HC.out HB.out) Hc.out HE2.out).mono ?_; rintro e w5 ⟨rfl, hd⟩; have n3 := Aside0.mk (H3.out.below hd.below); have nb := Aside0.mk (below_step HB.out hd.below); clear HB hd H3; have HB := nb; have H3 := n3; clear nb n3)
      have hZl : (rd_L4 (moreL l l.length l.length) (p : Int)).length = l.length := by rw [moreL_at _ _ _ _ HPQ.out.1, moreR_l]
      obtain ⟨g2, c2, y1, y2, fx, hb2, hput⟩ := H3.out.put (p : Int) (by omega) (by have := HPQ.out; omega) (q : Int) (by omega) (by have := HPQ.out; omega)
      rw [hZl] at y1
      simp only [Int.toNat_natCast] at y1 y2 fx hput
      have p0 : (0 : Int) ≤ (p : Int) := by omega
      have p1 : (p : Int) < (l.length : Int) := by have := HPQ.out; omega
      have q0 : (0 : Int) ≤ (q : Int) := by omega
      have q1 : (q : Int) < (l.length : Int) := by have := HPQ.out; omega
      have p2 : p < l.length := HPQ.out.1
      have q2 : q < l.length := HPQ.out.2
      have HP := Aside0.mk (hput (wrap64 (rd (rd_L4 (moreL l l.length l.length) (p : Int)) (q : Int) + a5)))
      have HB2 := Aside0.mk (HB.out.setCell (p := ⟨g2, q, none⟩) hb2 (.int .i64 (wrap64 (rd (rd_L4 (moreL l l.length l.length) (p : Int)) (q : Int) + a5))))
      have HZ2 := Aside0.mk (show ((moreL l l.length l.length).set p ((rd_L4 (moreL l l.length l.length) (p : Int)).set q (wrap64 (rd (rd_L4 (moreL l l.length l.length) (p : Int)) (q : Int) + a5)))).length = l.length by rw [List.length_set, moreL_l])
      clear hput HB H3 hb2 hZl
      go_upto_region 24 with fail
      generalize w5.setCell ⟨g2, q, none⟩ (.int .i64 (wrap64 (rd (rd_L4 (moreL l l.length l.length) (p : Int)) (q : Int) + a5))) = w6 at HP HB2 ⊢
      clear y1 y2 fx
      go_upto_region 25 with (go_at_call 46; refine (max_at K A9 c9 l.length _ t s value x1 0 _ (backL_l _ _ _) (Kd.S_reads' HP.out.X).2.2 (Kd.S_reads' HP.out.X).2.1 M1.out).mono ?_; rintro e w7 ⟨va, rfl, hb⟩; have n3 := Aside0.mk (HP.out.below hb); have nb := Aside0.mk (below_step HB2.out hb); clear hb HB2 HP; have HB := nb; have H3 := n3; clear nb n3)
      go_upto_region 26 with (go_at_call 46; refine (max_at K A10 c10 l.length _ s t (wrap64 (T * value)) x2 0 _ (manyL_l _ _ _ _) (Kd.S_reads' H3.out.Y).2.2 (Kd.S_reads' H3.out.Y).2.1 M2.out).mono ?_; rintro e w8 ⟨vb, rfl, hb⟩; have n3 := Aside0.mk (H3.out.below hb); have nb := Aside0.mk (below_step HB.out hb); clear hb HB H3; have HB := nb; have H3 := n3; clear nb n3)
      go_upto_region 27 with (go_at_call 46; refine (max_at K (some ⟨gc, 0, none⟩) c11 l.length _ s t d x3 0 _ HZ2.out (Kd.S_reads' H3.out.Z).2.2 (Kd.S_reads' H3.out.Z).2.1 M3.out).mono ?_; rintro e w9 ⟨vc, rfl, hb⟩; have n3 := Aside0.mk (H3.out.below hb); have nb := Aside0.mk (below_step HB.out hb); clear hb HB H3; have HB := nb; have H3 := n3; clear nb n3)
      have e1 : decide (value ≤ d) = true := decide_eq_true D1.out.1
      have e2 : decide (d ≤ wrap64 (value + a5)) = true := decide_eq_true D1.out.2
      go_wp2_with fail
      go_ret
      exact ⟨by simp, HB.out⟩
/-- What the plain law must show. -/
def ontimelaw47_FlowReverses.Pure : Prop := ∀ (l : List (List Int)) (a1 a2 a3 a4 a5 : Int), l.length ≤ maxLen → (Lit.int .u8 a1).wf = true → (Lit.int .u8 a2).wf = true → (Lit.int .u8 a3).wf = true → (Lit.int .u8 a4).wf = true → (Lit.int .u8 a5).wf = true →
    (∃ K, ontimelaw47_network.f K l 14 = some false) ∨
    ∃ K, l.length ≤ 14 ∧ (∀ a : Nat, a < l.length → (rd_L4 l (a : Int)).length = l.length) ∧ (0 ≤ a5 ∧ a5 < 256) ∧ ontimelaw47_network.f K l 14 = some true ∧ ∃ s t, ontimelaw47_ends.f l a1 a2 = some (s, t) ∧ ∃ value xs, flow_Max.f K l s t = some (value, xs, 0) ∧ ∃ p q : Nat, ontimelaw47_ends.f l a3 a4 = some ((p : Int), (q : Int)) ∧ p < l.length ∧ q < l.length ∧ ∃ T : Int, T = 1 + a5 % 5 ∧
      ((∀ a b : Nat, a < l.length → b < l.length → rd (rd_L4 l (a : Int)) (b : Int) ≤ 134217728) → ∃ d x1 x2 x3, flow_Max.f K (backL l l.length l.length) t s = some (value, x1, 0) ∧ flow_Max.f K (manyL l T l.length l.length) s t = some (wrap64 (T * value), x2, 0) ∧
      flow_Max.f K ((moreL l l.length l.length).set p ((rd_L4 (moreL l l.length l.length) p).set q (wrap64 (rd (rd_L4 (moreL l l.length l.length) p) q + a5)))) s t = some (d, x3, 0) ∧ value ≤ d ∧ d ≤ wrap64 (value + a5))
theorem ontimelaw47_FlowReverses.walk (P : ontimelaw47_FlowReverses.Pure) (A : Option Addr) (c : Nat) (l : List (List Int)) (a1 a2 a3 a4 a5 : Int) (w : World) (hC : Kd.C (Kd.slice 3 (Kd.int .i64)) w A l.length l) (hc : l.length ≤ c) (hm : l.length ≤ maxLen) (w1 : (Lit.int .u8 a1).wf = true) (w2 : (Lit.int .u8 a2).wf = true) (w3 : (Lit.int .u8 a3).wf = true) (w4 : (Lit.int .u8 a4).wf = true) (w5 : (Lit.int .u8 a5).wf = true) :
    Calls Try.prog 14 #[.slice A l.length c, .int .u8 a1, .int .u8 a2, .int .u8 a3, .int .u8 a4, .int .u8 a5] w fun e w' => e = .returned (.bool true) ∧ Below w.heap.size w w' := by
  rcases P l a1 a2 a3 a4 a5 hm w1 w2 w3 w4 w5 with ⟨K, h⟩ | ⟨K, h14, hq, h5, hv, s, t, he, value, xs, hmx, p, q, he2, hp, hq2, T, hT, hfin⟩
  · exact rev_bad K A c l a1 a2 a3 a4 a5 w hC hc h
  · exact rev_good K A c l a1 a2 a3 a4 a5 w hC hc h14 hq h5 hv s t he value xs hmx p q he2 hp hq2 T hT hfin
end Go.Proofs.Ythdjhgidccmlfaa.P
