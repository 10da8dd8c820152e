/- The contract of flow's augment. -/
import Derived.Test.YthdjhgidccmlfaaXRows
namespace Go.Proofs.Ythdjhgidccmlfaa.P
open Go.RowKit Go.Proofs.YthdjhgidccmlfaaW.PrintWords Go.Proofs.YthdjhgidccmlfaaW.PrintLast Go.Proofs.YthdjhgidccmlfaaW.PrintMore
attribute [local go_sem] max2_int min2_int max_two min_two max_three min_three max_four min_four
set_option linter.unusedVariables false
set_option linter.unusedSimpArgs false

/-- The least residual capacity on the way back from v. -/
def leastF (rows : List (List Int)) (before : List Int) (s : Int) : Nat → Int → Int → Option Int
  | 0, _, _ => none
  | k + 1, v, least => if v = s then some least else
    if 0 ≤ v ∧ v < (before.length : Int) ∧ 0 ≤ rd before v ∧ rd before v < (rows.length : Int) ∧ v < ((rd_L4 rows (rd before v)).length : Int) then leastF rows before s k (rd before v) (if rd (rd_L4 rows (rd before v)) v < least then rd (rd_L4 rows (rd before v)) v else least) else none
/-- One edge less, its reverse more. -/
def push1 (rows : List (List Int)) (u v x : Int) : List (List Int) := rows.set u.toNat ((rd_L4 rows u).set v.toNat (wrap64 (rd (rd_L4 rows u) v + x)))
def pushF (before : List Int) (s least : Int) : Nat → Int → List (List Int) → Option (List (List Int))
  | 0, _, _ => none
  | k + 1, v, rows => if v = s then some rows else
    if 0 ≤ v ∧ v < (before.length : Int) ∧ 0 ≤ rd before v ∧ rd before v < (rows.length : Int) ∧ v < ((rd_L4 rows (rd before v)).length : Int) ∧ v < (rows.length : Int) ∧ rd before v < ((rd_L4 (push1 rows (rd before v) v (-least)) v).length : Int) then
      pushF before s least k (rd before v) (push1 (push1 rows (rd before v) v (-least)) v (rd before v) least) else none
def augF (k : Nat) (rows : List (List Int)) (before : List Int) (s t : Int) : Option (Int × List (List Int)) :=
  (leastF rows before s k t 2147483648).bind fun least => (pushF before s least k t rows).bind fun rows' => some (least, rows')

theorem cell_row {w : World} {A : Option Addr} {n : Nat} {xs : List Int} (h : Kd.C (Kd.int .i64) w A n xs) (i : Int) (h0 : 0 ≤ i) (h1 : i < n) : ∃ ad, A = some ad ∧ w.cell? (ad.add i.toNat) = some (.int .i64 (rd xs i)) := Kd.at_int h i h0 h1

set_option maxHeartbeats 4000000 in
set_option maxRecDepth 100000 in
theorem aug_calls (k : Nat) (w0 w : World) (base B g cap : Nat) (A1 : Option Addr) (c1 : Nat) (rows : List (List Int)) (before : List Int) (s t least : Int) (rows' : List (List Int))
    (hS : RR w base (fun q => q < B) (.slice (some ⟨g, 0, none⟩) rows.length cap) rows) (hR : Kd.R (Kd.int .i64) 3 w base (fun q => B ≤ q) (.slice A1 before.length c1) before) (HB : Below base w0 w) (hbase : base ≤ w.heap.size) (h : augF k rows before s t = some (least, rows')) :
    Calls Try.prog 88 #[.slice (some ⟨g, 0, none⟩) rows.length cap, .slice A1 before.length c1, .int .i64 s, .int .i64 t] w fun e w' => e = .returned (.int .i64 least) ∧ RR w' base (fun q => q < B) (.slice (some ⟨g, 0, none⟩) rows.length cap) rows' ∧ Below base w0 w' := by
  unfold augF at h
  obtain ⟨l, h1, h⟩ := Option.bind_eq_some_iff.1 h
  obtain ⟨r', h2, h⟩ := Option.bind_eq_some_iff.1 h
  obtain ⟨rfl, rfl⟩ : l = least ∧ r' = rows' := by simpa using h
  have H1 := Aside0.mk h1
  have H2 := Aside0.mk h2
  have HS := Aside0.mk hS
  have HR := Aside0.mk hR
  have HBB := Aside0.mk HB
  clear h h1 h2 hS hR HB
  go_enter Try.func88, Try.ntmps88
  go_wp2_with fail
  go_loopg [9, 10] k (fun kq v9 v10 w' => ∃ (a v : Int), v9 = .int .i64 a ∧ v10 = .int .i64 v ∧ Aside0 (leastF rows before s kq v a = some l) ∧ w' = w)
  case atStart => exact ⟨2147483648, t, rfl, rfl, H1, rfl⟩
  case round =>
    clear H1
    obtain ⟨a, v, rfl, rfl, H, rfl⟩ := hrel
    cases gk with
    | zero => exact absurd H.out (by simp [leastF])
    | succ k1 =>
    have h := H.out
    unfold leastF at h
    clear H
    by_cases he : v = s
    · subst he
      rw [if_pos rfl] at h
      injection h with h
      subst h
      have hq : (v != v) = false := bne_self_eq_false v
      go_wp2_with fail
      clear hq
      go_loopg [11] k (fun kq v11 w' => ∃ (u : Int) (rs : List (List Int)), v11 = .int .i64 u ∧ Aside0 (pushF before v a kq u rs = some r') ∧ Aside0 (rs.length = rows.length) ∧ Aside0 (RR w' base (fun q => q < B) (.slice (some ⟨g, 0, none⟩) rows.length cap) rs) ∧ Aside0 (Kd.R (Kd.int .i64) 3 w' base (fun q => B ≤ q) (.slice A1 before.length c1) before) ∧ Aside0 (Below base w0 w'))
      case atStart => exact ⟨t, rows, rfl, H2, ⟨rfl⟩, HS, HR, HBB⟩
      case round =>
        clear H2 HS HR HBB
        obtain ⟨u, rs, rfl, H, HLn, HS, HR, HB⟩ := hrel
        cases gk with
        | zero => exact absurd H.out (by simp [pushF])
        | succ k1 =>
        have h := H.out
        unfold pushF at h
        clear H
        by_cases he : u = v
        · subst he
          rw [if_pos rfl] at h
          injection h with h
          subst h
          have hq : (u != u) = false := bne_self_eq_false u
          go_wp2_with fail
          go_ret
          exact ⟨rfl, HS.out, HB.out⟩
        · rw [if_neg he] at h
          have hq : (u != v) = true := bne_iff_ne.2 he
          by_cases hb : 0 ≤ u ∧ u < (before.length : Int) ∧ 0 ≤ rd before u ∧ rd before u < (rs.length : Int) ∧ u < ((rd_L4 rs (rd before u)).length : Int) ∧ u < (rs.length : Int) ∧ rd before u < ((rd_L4 (push1 rs (rd before u) u (-a)) u).length : Int)
          · rw [if_pos hb] at h
            obtain ⟨b0, b1, b2, b3, b4, b5, b6⟩ := hb
            have hln := HLn.out
            have b3' : rd before u < (rows.length : Int) := by omega
            have b5' : u < (rows.length : Int) := by omega
            obtain ⟨ad, rfl, x1⟩ := cell_row (Kd.R_reads' HR.out).2.2 u b0 b1
            obtain ⟨p, hp⟩ : ∃ p, p = rd before u := ⟨_, rfl⟩
            rw [← hp] at h b2 b3 b4 b6 b3' x1
            have HP := Aside0.mk hp
            clear hp
            obtain ⟨g2, cr, x2, x3, f3, hb2, hB2, hput⟩ := elem_put HS.out p b2 b3' u b0 b4
            have H := Aside0.mk h
            clear h he
            go_wp2_with fail
            have ea : rd (rd_L4 rs p) u - a = rd (rd_L4 rs p) u + -a := Int.sub_eq_add_neg
            rw [ea]
            have S1 := Aside0.mk (show RR (wr.setCell ⟨g2, u.toNat, none⟩ (.int .i64 (wrap64 (rd (rd_L4 rs p) u + -a)))) base (fun q => q < B) (.slice (some ⟨g, 0, none⟩) rows.length cap) (push1 rs p u (-a)) from hput _)
            have R1 := Aside0.mk (Kd.R_far (p := ⟨g2, u.toNat, none⟩) HR.out (fun q hq => by have hq : B ≤ q := hq; show q ≠ g2; omega) (.int .i64 (wrap64 (rd (rd_L4 rs p) u + -a))))
            have B1 := Aside0.mk (HB.out.setCell (p := ⟨g2, u.toNat, none⟩) hb2 (.int .i64 (wrap64 (rd (rd_L4 rs p) u + -a))))
            have L1 := Aside0.mk (show (push1 rs p u (-a)).length = rows.length by unfold push1; rw [List.length_set]; exact hln)
            clear HS HR HB HLn hput x1 x2 x3 f3 hb2 hB2 ea hln
            generalize wr.setCell ⟨g2, u.toNat, none⟩ (.int .i64 (wrap64 (rd (rd_L4 rs p) u + -a))) = wm at S1 R1 B1 ⊢
            obtain ⟨rs1, hrs1⟩ : ∃ rs1, rs1 = push1 rs p u (-a) := ⟨_, rfl⟩
            rw [← hrs1] at S1 L1 b6
            have HRS := Aside0.mk hrs1
            clear hrs1
            obtain ⟨ad', ead, x1⟩ := cell_row (Kd.R_reads' R1.out).2.2 u b0 b1
            injection ead with ead
            subst ead
            have hpx : wm.cell? (ad.add u.toNat) = some (.int .i64 p) := by rw [x1, HP.out]
            clear x1
            obtain ⟨g3, c3, y2, y3, fy, hb3, hB3, hput⟩ := elem_put (Kd.S_drew S1.out) u b0 (by have := L1.out; omega) p b2 b6
            have y2' : wm.cell? ⟨g, u.toNat, none⟩ = some (.slice (some ⟨g3, 0, none⟩) (rd_L4 rs1 u).length c3) := y2
            have y3' : wm.cell? ⟨g3, p.toNat, none⟩ = some (.int .i64 (rd (rd_L4 rs1 u) p)) := y3
            have fy' : wm.frozen? ⟨g3, p.toNat, none⟩ = false := fy
            clear y2 y3 fy
            go_region
            have S2 := Aside0.mk (show RR (wm.setCell ⟨g3, p.toNat, none⟩ (.int .i64 (wrap64 (rd (rd_L4 rs1 u) p + a)))).drew base (fun q => q < B) (.slice (some ⟨g, 0, none⟩) rows.length cap) (push1 rs1 u p a) from hput _)
            have R2 := Aside0.mk (Kd.R_drew (Kd.R_far (p := ⟨g3, p.toNat, none⟩) R1.out (fun q hq => by have hq : B ≤ q := hq; show q ≠ g3; omega) (.int .i64 (wrap64 (rd (rd_L4 rs1 u) p + a)))))
            have B2 := Aside0.mk (below_drew1 (B1.out.setCell (p := ⟨g3, p.toNat, none⟩) hb3 (.int .i64 (wrap64 (rd (rd_L4 rs1 u) p + a)))))
            have L2 := Aside0.mk (show (push1 rs1 u p a).length = rows.length by unfold push1; rw [List.length_set]; exact L1.out)
            clear S1 R1 B1 hput y2' y3' fy' hb3 hB3 hpx
            generalize (wm.setCell ⟨g3, p.toNat, none⟩ (.int .i64 (wrap64 (rd (rd_L4 rs1 u) p + a)))).drew = wz at S2 R2 B2 ⊢
            obtain ⟨ad', ead, x1⟩ := cell_row (Kd.R_reads' R2.out).2.2 u b0 b1
            injection ead with ead
            subst ead
            have hpx : wz.cell? (ad.add u.toNat) = some (.int .i64 p) := by rw [x1, HP.out]
            clear x1
            have HH := Aside0.mk (show pushF before v a k1 p (push1 rs1 u p a) = some r' by rw [HRS.out]; exact H.out)
            clear H HRS HP
            go_wp2_with fail
            go_roundg k1
            case measure => omega
            case rel => exact ⟨p, push1 rs1 u p a, rfl, HH, L2, S2, R2, B2⟩
          · rw [if_neg hb] at h; exact absurd h (by simp)
    · rw [if_neg he] at h
      have hq : (v != s) = true := bne_iff_ne.2 he
      by_cases hb : 0 ≤ v ∧ v < (before.length : Int) ∧ 0 ≤ rd before v ∧ rd before v < (rows.length : Int) ∧ v < ((rd_L4 rows (rd before v)).length : Int)
      · rw [if_pos hb] at h
        obtain ⟨b0, b1, b2, b3, b4⟩ := hb
        obtain ⟨ad, rfl, x1⟩ := cell_row (Kd.R_reads' HR.out).2.2 v b0 b1
        obtain ⟨g2, cr, x2, x3⟩ := elem_get HS.out (rd before v) b2 b3 v b0 b4
        by_cases hm : rd (rd_L4 rows (rd before v)) v < a
        · rw [if_pos hm] at h
          have H := Aside0.mk h
          clear h he
          go_wp2_with fail
          go_roundg k1
          case measure => omega
          case rel => exact ⟨_, _, rfl, rfl, H, rfl⟩
        · rw [if_neg hm] at h
          have H := Aside0.mk h
          clear h he
          go_wp2_with fail
          go_roundg k1
          case measure => omega
          case rel => exact ⟨_, _, rfl, rfl, H, rfl⟩
      · rw [if_neg hb] at h; exact absurd h (by simp)
end Go.Proofs.Ythdjhgidccmlfaa.P
