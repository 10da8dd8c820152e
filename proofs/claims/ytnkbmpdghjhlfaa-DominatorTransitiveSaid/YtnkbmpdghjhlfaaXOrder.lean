/- The contract of dominator.Order. -/
import Derived.Test.YtnkbmpdghjhlfaaPx0
import Derived.Test.YtnkbmpdghjhlfaaPx1
import Derived.Test.YtnkbmpdghjhlfaaPx2

import Derived.Laws.EntriesVeiled
namespace Go.Proofs.Ytnkbmpdghjhlfaa.P
open Go.RowKit Go.Proofs.YtnkbmpdghjhlfaaW.PrintWords Go.Proofs.YtnkbmpdghjhlfaaW.PrintLast Go.Proofs.YtnkbmpdghjhlfaaW.PrintMore
attribute [local go_sem] max2_int min2_int max_two min_two max_three min_three max_four min_four
set_option linter.unusedVariables false
set_option linter.unusedSimpArgs false


/-- the successors one by one: whoever has not been seen is visited -/
def visL (f : Int → List Bool → List Int → Option (List Bool × List Int)) : List Int → List Bool → List Int → Option (List Bool × List Int)
  | [], seen, out => some (seen, out)
  | s :: r, seen, out => if 0 ≤ s then (if s < (seen.length : Int) then (if rdOf false seen s = true then visL f r seen out else (f s seen out).bind fun p => visL f r p.1 p.2) else none) else none
def vis (bl : List S46) : Nat → Int → List Bool → List Int → Option (List Bool × List Int)
  | 0, _, _, _ => none
  | k + 1, b, seen, out => if 0 ≤ b then (if b < (seen.length : Int) then (if b < (bl.length : Int) then (visL (vis bl k) (rd_T46 bl b).f2 (seen.set b.toNat true) out).bind fun p => if p.2.length < 17592186044416 then some (p.1, p.2 ++ [b]) else none else none) else none) else none

/-- What the search leaves where it is, and what it has done so far. -/
def VInv (w0 : World) (gs gg gv go sb cap : Nat) (A0 : Option Addr) (c0 : Nat) (l0 : List S46) (A1 : Option Addr) (c1 : Nat) (l1 : List (List Int)) (seen : List Bool) (out : List Int) (w : World) : Prop :=
  Below w0.heap.size w0 w ∧ w.heap[gs]? = some (.cells #[.slice (some ⟨sb, 0, none⟩) seen.length cap] 36 (0, 0)) ∧
  w.heap[gg]? = some (.cells #[.slice A0 l0.length c0, .slice A1 l1.length c1] 25 (0, 0)) ∧
  w.heap[gv]? = some (.cells #[.func (Fn.func 30) #[] #[.pointer (some ⟨gs, 0, none⟩), .pointer (some ⟨gg, 0, none⟩), .pointer (some ⟨gv, 0, none⟩), .pointer (some ⟨go, 0, none⟩)]] 48 (0, 0)) ∧
  Kd.R Kd.bool 4 w w0.heap.size (fun _ => True) (.slice (some ⟨sb, 0, none⟩) seen.length cap) seen ∧
  (w0.heap.size ≤ gs ∧ w0.heap.size ≤ gg ∧ w0.heap.size ≤ gv ∧ w0.heap.size ≤ go) ∧
  ∃ vo, w.heap[go]? = some (.cells #[vo] 29 (0, 0)) ∧ Kd.R (Kd.int .i64) 3 w w0.heap.size (fun _ => True) vo out
section
variable {w0 w : World} {gs gg gv go sb cap : Nat} {A0 : Option Addr} {c0 : Nat} {l0 : List S46} {A1 : Option Addr} {c1 : Nat} {l1 : List (List Int)} {seen : List Bool} {out : List Int}
theorem VInv.drewN (h : VInv w0 gs gg gv go sb cap A0 c0 l0 A1 c1 l1 seen out w) (n : Nat) : VInv w0 gs gg gv go sb cap A0 c0 l0 A1 c1 l1 seen out (w.drewN n) := by
  obtain ⟨hb, h1, h2, h3, h4, h5, vo, h6, h7⟩ := h
  exact ⟨pw_below_drewN hb n, h1, h2, h3, Kd.R_drewN h4 n, h5, vo, h6, Kd.R_drewN h7 n⟩
theorem VInv.store (h : VInv w0 gs gg gv go sb cap A0 c0 l0 A1 c1 l1 seen out w) (i : Int) (h0 : 0 ≤ i) (h1 : i < seen.length) :
    VInv w0 gs gg gv go sb cap A0 c0 l0 A1 c1 l1 (seen.set i.toNat true) out (w.setCell ⟨sb, i.toNat, none⟩ (.bool true)) := by
  obtain ⟨hb, e1, e2, e3, h4, h5, vo, h6, h7⟩ := h
  obtain ⟨g, cp, ev, gb, gl, cells, hg⟩ := Kd.R_form h4 (by omega)
  injection ev with ea _ ec
  injection ea with ea
  injection ea with eg
  subst eg ec
  have hp := Kd.R_putg h4 i true
  refine ⟨below_set hb gb, ?_, ?_, ?_, ?_, h5, vo, ?_, ?_⟩
  · rw [List.length_set]; exact blk_far e1 (blk_ne e1 hg (by decide)) _
  · exact blk_far e2 (blk_ne e2 hg (by decide)) _
  · exact blk_far e3 (blk_ne e3 hg (by decide)) _
  · rw [List.length_set]; exact hp.1
  · exact blk_far h6 (blk_ne h6 hg (by decide)) _
  · exact Kd.R_over' h7 (Kd.R_typed h4) (by decide) hp.2
theorem VInv.push (h : VInv w0 gs gg gv go sb cap A0 c0 l0 A1 c1 l1 seen out w) {vo v1 : Value} {w1 : World} {x : Int} (hv : w.heap[go]? = some (.cells #[vo] 29 (0, 0)))
    (hr : Kd.R (Kd.int .i64) 3 w1 w0.heap.size (fun _ => True) v1 (out ++ [x])) (hb1 : Below w0.heap.size w0 w1) (hg : w.grownBy w1 vo.ownBlock) :
    VInv w0 gs gg gv go sb cap A0 c0 l0 A1 c1 l1 seen (out ++ [x]) (w1.setCell ⟨go, 0, none⟩ v1) := by
  obtain ⟨hb, e1, e2, e3, h4, h5, vo', h6, h7⟩ := h
  obtain rfl : vo' = vo := by
    rw [h6] at hv
    injection hv with hv
    injection hv with hv _
    injection hv with hv
    injection hv with hv _
  have n1 := blk_grown e1 hg (Kd.R_ne h7 e1 (by decide))
  have n2 := blk_grown e2 hg (Kd.R_ne h7 e2 (by decide))
  have n3 := blk_grown e3 hg (Kd.R_ne h7 e3 (by decide))
  have n6 := blk_grown h6 hg (Kd.R_ne h7 h6 (by decide))
  have n4 := Kd.R_over' h4 (Kd.R_typed h7) (by decide) hg
  refine ⟨below_set hb1 h5.2.2.2, ?_, ?_, ?_, ?_, h5, v1, ?_, ?_⟩
  · exact blk_far n1 (blk_ne n1 n6 (by decide)) _
  · exact blk_far n2 (blk_ne n2 n6 (by decide)) _
  · exact blk_far n3 (blk_ne n3 n6 (by decide)) _
  · exact Kd.R_far (p := ⟨go, 0, none⟩) (Kd.R_types n4 n6 (by decide)) (fun _ hk => hk.2) _ |> fun h => Kd.R_mono h (fun _ _ => trivial)
  · exact blk_put (cs := #[vo']) n6 0 v1 rfl
  · exact Kd.R_far (p := ⟨go, 0, none⟩) (Kd.R_types hr n6 (by decide)) (fun _ hk => hk.2) _ |> fun h => Kd.R_mono h (fun _ _ => trivial)

theorem VInv.below (h : VInv w0 gs gg gv go sb cap A0 c0 l0 A1 c1 l1 seen out w) : Below w0.heap.size w0 w := h.1
end
set_option maxHeartbeats 4000000 in
set_option maxRecDepth 100000 in
theorem visit_calls (w0 : World) (gs gg gv go sb cap : Nat) (A0 : Option Addr) (c0 : Nat) (l0 : List S46) (A1 : Option Addr) (c1 : Nat) (l1 : List (List Int)) (hr0 : Kd.C k46 w0 A0 l0.length l0) (k : Nat) :
    ∀ (b : Int) (seen : List Bool) (out : List Int) (r1 : List Bool) (r2 : List Int) (w : World), VInv w0 gs gg gv go sb cap A0 c0 l0 A1 c1 l1 seen out w → vis l0 k b seen out = some (r1, r2) →
    Calls Try.prog 30 #[.int .i64 b, .pointer (some ⟨gs, 0, none⟩), .pointer (some ⟨gg, 0, none⟩), .pointer (some ⟨gv, 0, none⟩), .pointer (some ⟨go, 0, none⟩)] w fun e w' => e = .returned (.tuple #[]) ∧ VInv w0 gs gg gv go sb cap A0 c0 l0 A1 c1 l1 r1 r2 w' := by
  have HR0 := Aside0.mk hr0
  clear hr0
  induction k with
  | zero => intro b seen out r1 r2 w _ h; exact absurd h (by simp [vis])
  | succ k ih =>
  intro b seen out r1 r2 w hI h
  simp only [vis] at h
  by_cases h0 : 0 ≤ b
  · rw [if_pos h0] at h
    by_cases h1 : b < (seen.length : Int)
    · rw [if_pos h1] at h
      by_cases h2 : b < (l0.length : Int)
      · rw [if_pos h2] at h
        obtain ⟨⟨s1, o1⟩, hL, h⟩ := Option.bind_eq_some_iff.mp h
        by_cases h3 : o1.length < 17592186044416
        · simp only [if_pos h3, Option.some.injEq, Prod.mk.injEq] at h
          obtain ⟨rfl, rfl⟩ := h
          have HL := Aside0.mk hL
          have HI := Aside0.mk hI
          have IH := Aside0.mk ih
          clear hL hI ih
          obtain ⟨hb, e1, e2, e3, h4, h5, vo, h6, h7⟩ := HI.out
          have k1 : w.cell? ⟨gs, 0, none⟩ = some (.slice (some ⟨sb, 0, none⟩) seen.length cap) := (blk_cell e1 0).trans rfl
          obtain ⟨kx, kf⟩ := Kd.R_celln false h4 b h0 h1
          have HW := Aside0.mk (HI.out.store b h0 h1)
          clear hb e1 e2 e3 h4 h5 h6 h7
          obtain ⟨ad, A2, c2, ea, _, _, hx2, hl2, hr2⟩ := at_T46 HR0.out b h0 h2
          subst ea
          have hmx : (rd_T46 l0 b).f2.length ≤ 9223372036854775807 := hr2.2.1
          have HX2 := Aside0.mk hx2
          have HL2 := Aside0.mk hl2
          have HR2 := Aside0.mk hr2
          clear hl2 hr2 hx2
          have k46u := Try.underlying46
          go_enter Try.func30, Try.ntmps30
          go_wp2_with ((with_reducible refine gate_store (t := 4) (p := 10) rfl ?_); refine store_event (t := 4) (p := 10) (v := ?vo_w13) (w1 := (w.setCell ⟨sb, b.toNat, none⟩ (.bool true))) ?hg ?ho ?hn ?hr ?_; (case ho => rfl); (case hg => rfl); (case hn => rfl); (case hr => first | (go_simp; done) | (go_simp; rfl)); intro w13 hw; have HI1 := Aside0.mk (show VInv w0 gs gg gv go sb cap (some ad) c0 l0 A1 c1 l1 (seen.set b.toNat true) out w13 from hw ▸ HW.out); clear HW hw k1 kf kx; obtain ⟨hb, e1, e2, e3, h4, h5, vo, h6, h7⟩ := HI1.out; have k2 : w13.cell? ⟨gg, 0, none⟩ = some (.slice (some ad) l0.length c0) := (blk_cell e2 0).trans rfl; have k3 := pw_cell_below hb HX2.out; clear hb e1 e2 e3 h4 h5 h6 h7)
          go_loopw [7, 18] (fun _ i wr => ∃ (j : Nat) (se : List Bool) (ou : List Int), j ≤ (rd_T46 l0 b).f2.length ∧ i = .int .i64 j ∧ Aside0 (visL (vis l0 k) ((rd_T46 l0 b).f2.drop j) se ou = some (s1, o1)) ∧ Aside0 (VInv w0 gs gg gv go sb cap (some ad) c0 l0 A1 c1 l1 se ou wr)) (fun _ i _ => (rd_T46 l0 b).f2.length - (intOf i).toNat)
          case atStart => exact ⟨0, _, out, Nat.zero_le _, rfl, HL, HI1⟩
          case round =>
            clear HI1 HL HI k2 k3
            obtain ⟨j, se, ou, hj, rfl, HL, HI⟩ := hrel
            obtain ⟨hb, e1, e2, e3, h4, h5, vo2, h6, h7⟩ := HI.out
            have k1 : wr.cell? ⟨gs, 0, none⟩ = some (.slice (some ⟨sb, 0, none⟩) se.length cap) := (blk_cell e1 0).trans rfl
            by_cases hlt : j < (rd_T46 l0 b).f2.length
            · obtain ⟨ad3, ea, g3⟩ := Kd.at_int (Kd.C_below HR2.out hb) j (by omega) (by omega)
              subst ea
              rw [Int.toNat_natCast] at g3
              have k4 : wr.cell? ⟨gv, 0, none⟩ = some (.func (Fn.func 30) #[] #[.pointer (some ⟨gs, 0, none⟩), .pointer (some ⟨gg, 0, none⟩), .pointer (some ⟨gv, 0, none⟩), .pointer (some ⟨go, 0, none⟩)]) := (blk_cell e3 0).trans rfl
              have hL := HL.out
              have hd : (rd_T46 l0 b).f2.drop j = rd (rd_T46 l0 b).f2 j :: (rd_T46 l0 b).f2.drop (j + 1) := by
                rw [List.drop_eq_getElem_cons hlt]
                congr 1
                unfold rd
                rw [Int.toNat_natCast]
                simp [List.getD, List.getElem?_eq_getElem hlt]
              rw [hd] at hL
              simp only [visL] at hL
              clear hd HL
              obtain ⟨s, hs⟩ : ∃ s, s = rd (rd_T46 l0 b).f2 (j : Int) := ⟨_, rfl⟩
              rw [← hs] at hL g3
              clear hs
              by_cases q0 : 0 ≤ s
              · rw [if_pos q0] at hL
                by_cases q1 : s < (se.length : Int)
                · rw [if_pos q1] at hL
                  obtain ⟨kx, _⟩ := Kd.R_celln false h4 s q0 q1
                  by_cases q2 : rdOf false se s = true
                  · rw [if_pos q2] at hL
                    rw [q2] at kx
                    have HL := Aside0.mk hL
                    clear hL q2 hb e1 e2 e3 h4 h5 h6 h7
                    go_wp2_with fail
                    go_roundw
                    case rel => exact ⟨j + 1, se, ou, by omega, by go_num, HL, HI⟩
                    case measure => simp [intOf]; omega
                  · rw [if_neg q2] at hL
                    rw [Bool.eq_false_iff.mpr q2] at kx
                    obtain ⟨⟨s2, o2⟩, hC, hL⟩ := Option.bind_eq_some_iff.mp hL
                    have HL := Aside0.mk hL
                    have HC := Aside0.mk hC
                    clear hL hC q2 hb e1 e2 e3 h4 h5 h6 h7
                    go_wp2_with (go_at_call 30; refine (IH.out s se ou s2 o2 wr HI.out HC.out).mono ?_; rintro e w1 ⟨rfl, hI⟩; have HI2 := Aside0.mk hI; clear hI)
                    go_roundw
                    case rel => exact ⟨j + 1, s2, o2, by omega, by go_num, HL, HI2⟩
                    case measure => simp [intOf]; omega
                · rw [if_neg q1] at hL; exact absurd hL (by simp)
              · rw [if_neg q0] at hL; exact absurd hL (by simp)
            · have hL := HL.out
              rw [List.drop_eq_nil_of_le (by omega)] at hL
              simp only [visL, Option.some.injEq, Prod.mk.injEq] at hL
              obtain ⟨rfl, rfl⟩ := hL
              have k5 : wr.cell? ⟨go, 0, none⟩ = some vo2 := (blk_cell h6 0).trans rfl
              obtain ⟨Ao, co, rfl⟩ := Kd.R_slice h7
              have HO := Aside0.mk h7
              have H6 := Aside0.mk h6
              have HB := Aside0.mk hb
              clear hb e1 e2 e3 h4 h5 h6 h7
              go_wp2_with (first | ((with_reducible refine gate_builtin (b := .append) (xs := #[.tmp 31, .tmp 33]) rfl ?_); at_builtin; refine Kd.R_append (Kd.int .i64) (w0 := w0) w0.heap.size rfl (.tmp 31) (.tmp 33) 29 3 (.int .i64 0) 8 rfl Try.underlying29 info3 rfl (by decide) (by omega) (.slice Ao ou.length co) ou b [.int .i64 b] (fun _ => True) (fun _ => False) rfl rfl ?aP (fun _ hk => hk.elim) ?aF ?aO ?aB ?aS ?aL ?_; (case aP => exact rfl); (case aB => exact HB.out); (case aF => exact (fun _ _ => trivial)); (case aO => exact HO.out); (case aS => exact below_size HB.out); (case aL => omega); intro v1 w2 ho hb1 hg hat; obtain ⟨A9, c9, rfl⟩ := Kd.R_slice ho; have HI3 := Aside0.mk (HI.out.push H6.out ho hb1 hg); have k6 : w2.cell? ⟨go, 0, none⟩ = some (.slice Ao ou.length co) := (blk_cell (blk_grown H6.out hg (Kd.R_ne HO.out H6.out (by decide))) 0).trans rfl; have k7 : w2.frozen? ⟨go, 0, none⟩ = false := blk_frozen (blk_grown H6.out hg (Kd.R_ne HO.out H6.out (by decide))) 0; clear ho hb1 hg hat))
              first | go_end0 | ((try simp only [Exit.inBlock, Exit.then]); refine bodyPost_ret (results_none rfl _ _ _) rfl ?_)
              exact ⟨rfl, by simpa only [List.length_append, List.length_cons, List.length_nil, Nat.zero_add] using HI3.out⟩
        · simp only [if_neg h3] at h; exact absurd h (by simp)
      · rw [if_neg h2] at h; exact absurd h (by simp)
    · rw [if_neg h1] at h; exact absurd h (by simp)
  · rw [if_neg h0] at h; exact absurd h (by simp)

def dominator_Order.f (k : Nat) (l0 : List S46) (l1 : List (List Int)) : Option (List Int) :=
  (cfg_Valid.f k l0 l1).bind fun v => if v = true then (if l0.length ≤ 140737488355328 then (vis l0 (l0.length + 1) 0 (List.replicate l0.length false) []).bind fun p => slices_Reverse_int_int.f k p.2 else none) else some []
theorem dominator_Order.mono : ∀ a0 a1 k, LeO (dominator_Order.f k a0 a1) (dominator_Order.f (k + 1) a0 a1) := by
  intro a0 a1 k
  unfold dominator_Order.f
  refine LeO.bind (cfg_Valid.mono _ _ _) fun v => LeO.ite (LeO.ite (LeO.bind (LeO.refl _) fun p => slices_Reverse_int_int.mono _ _) (LeO.refl _)) (LeO.refl _)


theorem VInv.start {w w3 : World} {gg sb cap n : Nat} {A0 : Option Addr} {c0 : Nat} {l0 : List S46} {A1 : Option Addr} {c1 : Nat} {l1 : List (List Int)} (hb : Below w.heap.size w w3)
    (hgg : w3.heap[gg]? = some (.cells #[.slice A0 l0.length c0, .slice A1 l1.length c1] 25 (0, 0))) (hge : w.heap.size ≤ gg) (ho : Kd.R Kd.bool 4 w3 w.heap.size (fun _ => True) (.slice (some ⟨sb, 0, none⟩) n cap) (List.replicate n false)) :
    VInv w w3.heap.size gg (w3.heap.size + 2) (w3.heap.size + 1) sb cap A0 c0 l0 A1 c1 l1 (List.replicate n false) [] (((w3.alloc (.cells #[.slice (some ⟨sb, 0, none⟩) n cap] 36)).alloc (.cells #[.slice none 0 0] 29)).alloc (.cells #[.func (Fn.func 30) #[] #[.pointer (some ⟨w3.heap.size, 0, none⟩), .pointer (some ⟨gg, 0, none⟩), .pointer (some ⟨w3.heap.size + 2, 0, none⟩), .pointer (some ⟨w3.heap.size + 1, 0, none⟩)]] 48)) := by
  have hs := hb.size
  refine ⟨below_alloc (below_alloc (below_alloc hb _) _) _, ?_, blk_alloc (blk_alloc (blk_alloc hgg _) _) _, ?_, ?_, ⟨hs, hge, by omega, by omega⟩, .slice none 0 0, ?_, Kd.R_nil _ _ _ _ _⟩
  · rw [List.length_replicate]; exact blk_alloc (blk_alloc (blk_new w3 _) _) _
  · have h := blk_new ((w3.alloc (.cells #[.slice (some ⟨sb, 0, none⟩) n cap] 36)).alloc (.cells #[.slice none 0 0] 29)) (.cells #[.func (Fn.func 30) #[] #[.pointer (some ⟨w3.heap.size, 0, none⟩), .pointer (some ⟨gg, 0, none⟩), .pointer (some ⟨w3.heap.size + 2, 0, none⟩), .pointer (some ⟨w3.heap.size + 1, 0, none⟩)]] 48 (0, 0))
    simpa using h
  · rw [List.length_replicate]; exact Kd.R_alloc (Kd.R_alloc (Kd.R_alloc ho _) _) _
  · have h := blk_new (w3.alloc (.cells #[.slice (some ⟨sb, 0, none⟩) n cap] 36)) (.cells #[.slice none 0 0] 29 (0, 0))
    exact blk_alloc (by simpa using h) _

set_option maxHeartbeats 4000000 in
set_option maxRecDepth 100000 in
theorem dominator_Order.calls (k : Nat) (A0 : Option Addr) (c0 : Nat) (l0 : List S46) (A1 : Option Addr) (c1 : Nat) (l1 : List (List Int)) (r : List Int) (w : World) (hr0 : Kd.C k46 w A0 l0.length l0) (hc0 : l0.length ≤ c0) (hr1 : Kd.C (Kd.slice 3 (Kd.int .i64)) w A1 l1.length l1) (hc1 : l1.length ≤ c1) (h : dominator_Order.f k l0 l1 = some r) :
    Calls Try.prog 15 #[.agg #[.slice A0 l0.length c0, .slice A1 l1.length c1]] w fun e w' => ∃ v0_ : Value, e = .returned (v0_) ∧ Kd.R (Kd.int .i64) 3 w' w.heap.size (fun _ => True) v0_ r ∧ Below w.heap.size w w' := by
  have hu25 := Try.underlying25
  have hl0 : l0.length ≤ 9223372036854775807 := hr0.2.1
  have HR0 := Aside0.mk hr0
  have HR1 := Aside0.mk hr1
  have HC0 := Aside0.mk hc0
  have HC1 := Aside0.mk hc1
  clear hr0 hr1 hc0 hc1
  unfold dominator_Order.f at h
  replace h := Option.bind_eq_some_iff.mp h
  obtain ⟨v, hv, h⟩ := h
  have HV := Aside0.mk hv
  clear hv
  by_cases hvt : v = true
  · subst hvt
    rw [if_pos rfl] at h
    by_cases hlim : l0.length ≤ 140737488355328
    · rw [if_pos hlim] at h
      replace h := Option.bind_eq_some_iff.mp h
      obtain ⟨⟨se, ou⟩, hs, h⟩ := h
      have hpos : 0 < l0.length := by
        simp only [vis] at hs
        by_cases hp : (0 : Int) < ((List.replicate l0.length false).length : Int)
        · simpa using hp
        · rw [if_pos (Int.le_refl 0), if_neg hp] at hs; exact absurd hs (by simp)
      have HS := Aside0.mk hs
      have HRV := Aside0.mk (show slices_Reverse_int_int.f k ou = some r from h)
      clear hs h
      go_enter Try.func15, Try.ntmps15
      go_wp2_with (first | (go_at_call 28; refine (cfg_Valid.calls k A0 c0 l0 A1 c1 l1 true _ (Kd.C_alloc HR0.out _) HC0.out (Kd.C_alloc HR1.out _) HC1.out HV.out).mono ?_; rintro e w2 ⟨rfl, hb⟩; have HE2 := Aside0.mk (blk_below (blk_new w _) hb); have HB := Aside0.mk (below_step (below_alloc (Below.refl w.heap.size w) _) hb); have k2 : w2.cell? ⟨w.heap.size, 0, none⟩ = some (.slice A0 l0.length c0) := (blk_cell HE2.out 0).trans rfl; clear hb) | ((with_reducible refine gate_dst (N := 12) rfl ?_); refine Kd.R_make Kd.bool _ 4 rfl (N := 12) rfl 36 _ _ rfl (l0.length : Int) rfl rfl Try.underlying36 (.bool false) 1 info4 rfl (by decide) (by omega) false (ok := fun _ => True) (okp := fun _ => True) rfl (fun _ hk => hk) trivial (by omega) (by omega) (Below.refl _ _) (Nat.le_refl _) ?_; intro v3 w3 ho hb hg_ hnew_; clear hg_ hnew_; rw [Int.toNat_natCast] at ho; obtain ⟨sb, cap, rfl, gb_, gl_, _⟩ := Kd.R_form ho (by rw [List.length_replicate]; exact hpos); rw [List.length_replicate] at ho ⊢; have HO := Aside0.mk (Kd.R_lower ho (below_size HB.out)); have HB3 := Aside0.mk (below_step HB.out hb); have HE3 := Aside0.mk (blk_below HE2.out hb); clear hb ho gb_ gl_ k2) | (go_at_call 30; refine (visit_calls w w3.heap.size w.heap.size (w3.heap.size + 2) (w3.heap.size + 1) sb cap A0 c0 l0 A1 c1 l1 HR0.out (l0.length + 1) 0 (List.replicate l0.length false) [] se ou _ (VInv.start HB3.out HE3.out (Nat.le_refl _) HO.out) HS.out).mono ?_; rintro e w4 ⟨rfl, hI⟩; obtain ⟨hb, _, _, _, _, hge, vo, h6, h7⟩ := hI; obtain ⟨Ao, co, rfl⟩ := Kd.R_slice h7; have H6 := Aside0.mk h6; have H7 := Aside0.mk h7; have HB4 := Aside0.mk hb; have k4 : w4.cell? ⟨w3.heap.size + 1, 0, none⟩ = some (.slice Ao ou.length co) := (blk_cell H6.out 0).trans rfl; clear hb h6 h7 hge) | (go_at_call 31; refine (slices_Reverse_int_int.calls k (fun k_ => some k_ = (.slice Ao ou.length co : Value).ownBlock) (.slice Ao ou.length co) ou r w _ HB4.out (Kd.R_tight rfl H7.out) HRV.out).mono ?_; rintro e w5 ⟨rfl, h8, hb, hk⟩; have H8 := Aside0.mk h8; have HB5 := Aside0.mk hb; have k5 : w5.cell? ⟨w3.heap.size + 1, 0, none⟩ = some (.slice Ao ou.length co) := (blk_cell (blk_kept H6.out hk (fun e => (Kd.R_ne H7.out H6.out (by decide)) e)) 0).trans rfl; clear h8 hb hk k4))
      (try go_wp2_with fail)
      go_ret
      exact ⟨_, rfl, Kd.R_mono H8.out (fun _ _ => trivial), HB5.out⟩
    · rw [if_neg hlim] at h; exact absurd h (by simp)
  · replace hvt := Bool.eq_false_iff.mpr hvt
    subst hvt
    simp only [Bool.false_eq_true, if_false, Option.some.injEq] at h
    subst h
    go_enter Try.func15, Try.ntmps15
    go_wp2_with (go_at_call 28; refine (cfg_Valid.calls k A0 c0 l0 A1 c1 l1 false _ (Kd.C_alloc HR0.out _) HC0.out (Kd.C_alloc HR1.out _) HC1.out HV.out).mono ?_; rintro e w2 ⟨rfl, hb⟩; have HB := Aside0.mk (below_step (below_alloc (Below.refl w.heap.size w) _) hb); clear hb)
    go_ret
    exact ⟨_, rfl, Kd.R_nil _ _ _ _ _, HB.out⟩

end Go.Proofs.Ytnkbmpdghjhlfaa.P
