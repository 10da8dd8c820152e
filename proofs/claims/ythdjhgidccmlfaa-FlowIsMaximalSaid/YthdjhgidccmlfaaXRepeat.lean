/- The contract of slices.Repeat at []int, for a list of one number. -/
import Derived.Test.YthdjhgidccmlfaaPxBits
import Derived.Laws.CopyOwn
import Derived.Deep.RegionLaw
namespace Go.Proofs.Ythdjhgidccmlfaa.P
open Go.RowKit Go.Proofs.YthdjhgidccmlfaaW.PrintWords Go.Proofs.YthdjhgidccmlfaaW.PrintLast Go.Proofs.YthdjhgidccmlfaaW.PrintMore
attribute [local go_sem] max2_int min2_int max_two min_two max_three min_three max_four min_four
set_option linter.unusedVariables false
set_option linter.unusedSimpArgs false

theorem u64_small (x : Int) (hx : 0 ≤ x) (hy : x < 18446744073709551616) : IntKind.u64.wrap x = x := by
  simp [IntKind.wrap, IntKind.bits, IntKind.signed]
  omega
theorem mul_one_ok (n : Int) (h0 : 0 ≤ n) (h1 : n ≤ 1000000) : bits_Mul.f 1 n = some (0, n) := by
  have m : ∀ x : Int, 0 ≤ x → x ≤ 1000000 → bits .and .u64 x 4294967295 = x := by
    intro x hx hy
    have := bits_mask .u64 32 (by decide) (fun n a b => u64_small n a (by omega)) 32 (by decide) x hx (by omega)
    have e : ((2 : Int) ^ 32 - 1) = 4294967295 := by decide
    have e2 : ((2 : Int) ^ 32) = 4294967296 := by decide
    rw [e, e2] at this
    rw [this]
    omega
  have d1 : n / 4294967296 = 0 := by omega
  have d3 : (1 : Int) / 4294967296 = 0 := by decide
  have w0 : IntKind.u64.wrap 0 = 0 := by decide
  have wn := u64_small n h0 (by omega)
  have m0 := m 0 (by omega) (by omega)
  unfold bits_Mul.f bits_Mul64.f
  simp only [m n h0 h1, m 1 (by omega) (by omega), d1, d3, Int.zero_mul, Int.mul_zero, Int.one_mul, w0, wn, Int.zero_add, Int.add_zero, m0, Option.bind_some, Int.zero_ediv]

section
variable {P : Program} {ops : Array Oper} {o : Oper} {a : Act} {W : World} {K : Act → World → Prop} {Q : Exit → Act → World → Prop} {E : Prop}
/-- copy(v[c:], v[:c]), v a row of one's own. -/
theorem step_copy_self {w0 : World} (base : Nat) (hgd : o.guard = none) (s x : Operand) (t e : TypeId) (ho : o.op = .call { callee := .builtin .copy, args := #[s, x], argTypes := #[t, t] }) (ht : P.underlying t = some (.slice e)) (hinfo : (P.info? e).map (·.size) = some 1)
    (g n cap c : Nat) (xs : List Int) (ok : Nat → Prop) (hs : a.eval s = .slice (some ⟨g, c, none⟩) (n - c) (cap - c)) (hx : a.eval x = .slice (some ⟨g, 0, none⟩) c cap) (hn : xs.length = n) (hc0 : 0 < c) (hc : c < n)
    (HO : Kd.R (Kd.int .i64) e W base ok (.slice (some ⟨g, 0, none⟩) n cap) xs) (HB : Below base w0 W) (hbase : base ≤ W.heap.size)
    (h : ∀ w1, Kd.R (Kd.int .i64) e w1 base ok (.slice (some ⟨g, 0, none⟩) n cap) (xs.take c ++ xs.take (min c (n - c)) ++ xs.drop (c + min c (n - c))) → Below base w0 w1 → K (a.put o.dst (.int .i64 ((min c (n - c) : Nat) : Int))) w1) :
    if Region.wanted o (yielded ops a.tmps) = true then Oper.wp P o a W K Q else E := by
  have hw : Region.wanted o (yielded ops a.tmps) = true := by simp [Region.wanted, hgd]
  rw [if_pos hw]
  have HO' : Kd.R (Kd.scalar (Value.int .i64) (fun _ => rfl)) e W base ok (.slice (some ⟨g, 0, none⟩) n cap) xs := HO
  have hown := Kd.own_of_R HO'
  have hR := Kd.reads_of_C (enc := Value.int .i64) (d := (0 : Int)) (h1 := fun _ => rfl) (Kd.R_reads' HO').2.2
  obtain ⟨m, hm⟩ : ∃ m, m = min c (n - c) := ⟨_, rfl⟩
  rw [← hm] at h
  obtain ⟨ad, hA, hcell⟩ := hR.2.2 (by omega)
  injection hA with hA
  subst hA
  rcases hown.2 with ⟨hx0, _⟩ | ⟨g', cap', cur, hv, hb, hh, hnc, hcm, hcs, htake⟩
  · injection hx0 with hx0; cases hx0
  injection hv with hv1 hv2 hv3
  injection hv1 with hv1
  injection hv1 with hv1
  subst hv1
  subst hv3
  have hcs1 : cur.size = cap := by omega
  have hkl : (encs (Value.int .i64) (xs.take m)).length = m := by rw [encs_length, List.length_take]; omega
  have hsrc : ∀ j u, (encs (Value.int .i64) (xs.take m))[j]? = some u → W.cell? ((⟨g, 0, none⟩ : Addr).add j) = some u := by
    intro j u hu
    have hj : j < (xs.take m).length := by
      rcases Nat.lt_or_ge j (xs.take m).length with h | h
      · exact h
      · rw [List.getElem?_eq_none (by rw [encs_length]; exact h)] at hu
        cases hu
    have hjm : j < m := by rw [List.length_take] at hj; omega
    rw [encs_get (d := (0 : Int)) _ j hj] at hu
    rw [hcell j (by omega), ← hu]
    simp [List.getD_eq_getElem?_getD, hjm]
  have hr := run_copy_cells (P := P) W t t o.type e g c (n - c) (cap - c) ⟨g, 0, none⟩ c cap (encs (Value.int .i64) (xs.take m)) ht hinfo (by rw [hkl, hm]) hsrc
    (fun j hj => by rw [cell_of_row W g _ cur e (0, 0) hh]; simp <;> omega) (fun j _ => blk_frozen hh _) (by intro u hu; simp only [encs, List.mem_map] at hu; obtain ⟨q, _, rfl⟩ := hu; rfl)
  obtain ⟨cur', h3, h4, h5⟩ := setCells_row (encs (Value.int .i64) (xs.take m)) c W cur hh (by rw [hkl]; omega)
  obtain ⟨s1, s2, s3, s4⟩ := setCells_same g (encs (Value.int .i64) (xs.take m)) c W
  have hg : W.grownBy (W.setCells g c (encs (Value.int .i64) (xs.take m))) (some g) := ⟨s1, s2, s3, by rw [s4]; exact Nat.le_refl _, fun k _ hk => setCells_far _ _ k (fun he => hk (by rw [he]))⟩
  have hln : (xs.take c ++ xs.take m ++ xs.drop (c + m)).length = n := by
    rw [List.length_append, List.length_append, List.length_take, List.length_take, List.length_drop]
    omega
  unfold Oper.wp
  simp only [execOp, ho, resolve, invoke, builtin, Sem.run_bind, Sem.run_pure, Result.andThen_ok, List.map_toArray, List.map_cons, List.map_nil, hs, hx, hr, hkl]
  refine h _ (Kd.R_of_own ?_ HO'.1) (HB.grown hg hbase (fun k hk => by injection hk with hk; omega))
  rw [hln]
  refine ⟨by rw [encs_length, hln, Nat.mul_one], .inr ⟨g, cap, cur', rfl, hb, h3, by omega, hcm, by rw [h4, hcs], ?_⟩⟩
  have htk : cur.toList.take n = encs (Value.int .i64) xs := by rw [← hn, ← htake, Nat.mul_one, hn]
  have q1 : encs (Value.int .i64) (xs.take c) = cur.toList.take c := by
    have : encs (Value.int .i64) (xs.take c) = (encs (Value.int .i64) xs).take c := by simp [encs, List.map_take]
    rw [this, ← htk, List.take_take, Nat.min_eq_left (by omega)]
  have q2 : encs (Value.int .i64) (xs.drop (c + m)) = (cur.toList.drop (c + m)).take (n - (c + m)) := by
    have : encs (Value.int .i64) (xs.drop (c + m)) = (encs (Value.int .i64) xs).drop (c + m) := by simp [encs, List.map_drop]
    rw [this, ← htk, List.drop_take]
  rw [h5, hkl, encs_append, encs_append, q1, q2, Nat.mul_one, List.take_append, List.take_of_length_le (by rw [List.length_append, hkl, List.length_take, Array.length_toList]; omega)]
  congr 2
  rw [List.length_append, hkl, List.length_take, Array.length_toList]
  omega
end

/-- What lies in the new list while it fills. -/
def filled (v : Int) (n c : Nat) : List Int := List.replicate c v ++ List.replicate (n - c) 0
theorem filled_len (v : Int) (n c : Nat) (h : c ≤ n) : (filled v n c).length = n := by
  simp [filled] <;> omega
theorem filled_next (v : Int) (n c : Nat) (h : c ≤ n) : (filled v n c).take c ++ (filled v n c).take (min c (n - c)) ++ (filled v n c).drop (c + min c (n - c)) = filled v n (c + min c (n - c)) := by
  unfold filled
  have e1 : (List.replicate c v ++ List.replicate (n - c) (0 : Int)).take c = List.replicate c v := by
    rw [List.take_append_of_le_length (by simp)]; simp
  have e2 : (List.replicate c v ++ List.replicate (n - c) (0 : Int)).take (min c (n - c)) = List.replicate (min c (n - c)) v := by
    rw [List.take_append_of_le_length (by simp <;> omega)]; simp <;> omega
  have e3 : (List.replicate c v ++ List.replicate (n - c) (0 : Int)).drop (c + min c (n - c)) = List.replicate (n - (c + min c (n - c))) 0 := by
    rw [List.drop_append, List.drop_of_length_le (by simp), List.nil_append, List.drop_replicate, List.length_replicate]
    congr 1
    omega
  rw [e1, e2, e3, List.replicate_append_replicate]

theorem R_addr {W : World} {base e n cap : Nat} {ok : Nat → Prop} {A : Option Addr} {xs : List Int} (h : Kd.R (Kd.int .i64) e W base ok (.slice A n cap) xs) (hn : 0 < n) : ∃ g, A = some ⟨g, 0, none⟩ := by
  have hl := (Kd.R_reads' h).1
  have h' : Kd.R (Kd.scalar (Value.int .i64) (fun _ => rfl)) e W base ok (.slice A n cap) xs := h
  rcases (Kd.own_of_R h').2 with ⟨hx0, hx1⟩ | ⟨g', cap', cur, hv, _⟩
  · omega
  · injection hv with hv1 hv2 hv3
    exact ⟨g', hv1⟩
theorem info3s : (Try.prog.info? 3).map (·.size) = some 1 := by kernel_rfl
def slices_Repeat_int_int.f (l : List Int) (n : Int) : Option (List Int) := if l.length = 1 ∧ 0 ≤ n ∧ n ≤ 1000000 then some (List.replicate n.toNat (rd l 0)) else none
set_option maxHeartbeats 1000000 in
set_option maxRecDepth 100000 in
theorem slices_Repeat_int_int.calls (A0 : Option Addr) (c0 : Nat) (l0 : List Int) (a1 : Int) (r : List Int) (w : World) (hr0 : Kd.C (Kd.int .i64) w A0 l0.length l0) (hc0 : l0.length ≤ c0) (h : slices_Repeat_int_int.f l0 a1 = some r) :
    Calls Try.prog 89 #[.slice A0 l0.length c0, .int .i64 a1] w fun e w' => ∃ v0_ : Value, e = .returned v0_ ∧ Kd.R (Kd.int .i64) 3 w' w.heap.size (fun _ => True) v0_ r ∧ Below w.heap.size w w' := by
  have hl : (l0.length = 1 ∧ 0 ≤ a1 ∧ a1 ≤ 1000000) ∧ List.replicate a1.toNat (rd l0 0) = r := by
    unfold slices_Repeat_int_int.f at h
    split at h
    · exact ⟨by assumption, Option.some.inj h⟩
    · simp at h
  obtain ⟨⟨e1, k0, k1⟩, rfl⟩ := hl
  obtain ⟨n, rfl⟩ := Int.eq_ofNat_of_zero_le k0
  have HL := Aside0.mk (show n ≤ 1000000 by omega)
  have HR := Aside0.mk hr0
  have d1 : decide ((n : Int) < 0) = false := decide_eq_false (by omega)
  have d2 : decide ((9223372036854775807 : Int) < (n : Int)) = false := decide_eq_false (by omega)
  have e2 : IntKind.u64.wrap (n : Int) = (n : Int) := u64_small _ (by omega) (by omega)
  have e3 : wrap64 (n : Int) = (n : Int) := by unfold wrap64; omega
  have b0 : decide (0 ≤ (n : Int)) = true := decide_eq_true (by omega)
  have b1 : decide ((n : Int).toNat ≤ 35184372088832) = true := decide_eq_true (by omega)
  obtain ⟨v, hv⟩ : ∃ v, v = rd l0 0 := ⟨_, rfl⟩
  rw [← hv]
  have HV := Aside0.mk (show l0 = [v] by
    match l0, e1 with
    | [x], _ => rw [hv]; rfl)
  clear h hr0 k0 k1 hv
  go_enter Try.func89, Try.ntmps89
  go_wp2_with (first
    | (go_at_call 98; refine (bits_Mul.calls 1 n 0 n w (mul_one_ok n (by omega) (by have := HL.out; omega))).mono ?_; rintro e w1 ⟨rfl, hd⟩; (have hB : Below w.heap.size w w1 := by (obtain ⟨q, rfl⟩ := hd; exact pw_below_drewN (Below.refl _ _) q)); have HB := Aside0.mk hB; clear hd hB)
    | ((with_reducible refine gate_dst (N := 30) rfl ?_); (try (refine gate_guard (by rfl) ?_; dsimp only)); refine Kd.R_make (Kd.int .i64) _ 3 rfl (N := 30) rfl 55 _ _ rfl (n : Int) (congrArg (Value.int .i64) e3) (congrArg (Value.int .i64) e3) Try.underlying55 (.int .i64 0) 8 info3 rfl (by decide) (by omega) 0 (ok := fun _ => True) (okp := fun _ => True) rfl (fun _ hk => hk) trivial (by omega) (by have := HL.out; omega) (Below.refl _ _) (Nat.le_refl _) ?_; intro v30 w2 ho hb hg_ hnew_; have HO := Aside0.mk (Kd.R_lower ho HB.out.size); have HB2 := Aside0.mk (below_step HB.out hb); clear ho hb hg_ hnew_ HB; rw [Int.toNat_natCast] at HO; obtain ⟨Ao, co, eo⟩ := Kd.R_slice HO.out; subst eo; rw [List.length_replicate] at HO)
    | ((with_reducible refine gate_builtin (b := .copy) (xs := #[.tmp 31, .tmp 32]) rfl ?_); (try (refine gate_guard (by rfl) ?_; dsimp only)); refine Kd.R_copy (enc := Value.int .i64) (h1 := fun _ => rfl) (0 : Int) (w0 := w) w.heap.size rfl (.tmp 31) (.tmp 32) 55 55 3 rfl Try.underlying55 info3s (.slice Ao n co) (List.replicate n 0) l0 A0 1 c0 (fun _ => True) rfl rfl HO.out ?aR HB2.out HB2.out.size ?_; (case aR => (have q := Kd.C_below HR.out HB2.out; rw [e1] at q; exact q)); intro w3 ho hb hg_; have HO3 := Aside0.mk ho; have HB3 := Aside0.mk hb; clear ho hb hg_ HO HB2)
    )
  rw [List.length_replicate] at HO3
  obtain ⟨c1, hc1⟩ : ∃ c1, c1 = min 1 n := ⟨_, rfl⟩
  rw [← hc1] at HO3 ⊢
  have hc2 : c1 ≤ n ∧ (0 < n → 0 < c1) := by
    omega
  have hfil : l0.take c1 ++ (List.replicate n (0 : Int)).drop c1 = filled v n c1 := by
    unfold filled
    rw [HV.out, List.drop_replicate]
    rcases Nat.eq_zero_or_pos n with h0 | h0
    · subst h0
      obtain rfl : c1 = 0 := by omega
      rfl
    · obtain rfl : c1 = 1 := by omega
      rfl
  rw [hfil] at HO3
  clear hfil hc1 HR HV
  go_loopw [8] (fun i wr => ∃ c : Nat, c ≤ n ∧ (0 < n → 0 < c) ∧ i = .int .i64 c ∧ Aside0 (Kd.R (Kd.int .i64) 3 wr w.heap.size (fun _ => True) (.slice Ao n co) (filled v n c)) ∧ Aside0 (Below w.heap.size w wr)) (fun i _ => n - (intOf i).toNat)
  case atStart => exact ⟨c1, hc2.1, hc2.2, rfl, HO3, HB3⟩
  case round =>
    clear HO3 HB3 hc2
    obtain ⟨c, hcn, hc0, rfl, HO, HB⟩ := hrel
    by_cases hlt : c < n
    · have hc1 := hc0 (by omega)
      obtain ⟨g, rfl⟩ := R_addr HO.out (by omega)
      have f1 : decide ((c : Int) < (n : Int)) = true := decide_eq_true (by omega)
      have f2 : (0 : Int) ≤ (c : Int) := by omega
      have f3 : (c : Int) ≤ (n : Int) := by omega
      have f4 : c ≤ n := hcn
      have hco := (Kd.R_reads' HO.out).2.1
      have f5 : c ≤ co := by omega
      have f6 : ¬ co = c := by omega
      go_wp2_with fail
      go_region_law (refine step_copy_self (w0 := w) w.heap.size rfl (.tmp 41) (.tmp 44) 55 3 rfl Try.underlying55 info3s g n co c (filled v n c) (fun _ => True) (by simp [Act.eval, Act.put]) (by simp [Act.eval, Act.put]) (filled_len v n c hcn) hc1 hlt (Kd.R_drew HO.out) (below_drew1 HB.out) HB.out.size ?_; intro w4 ho hb)
      rw [filled_next v n c hcn] at ho
      have HO4 := Aside0.mk ho
      have HB4 := Aside0.mk hb
      clear ho hb HO HB
      have hL := HL.out
      have fw : IntKind.i64.wrap ((c : Int) + ((min c (n - c) : Nat) : Int)) = ((c + min c (n - c) : Nat) : Int) := by rw [IntKind.wrap_i64]; omega
      simp only [Act.put, List.getElem_toArray, List.getElem_cons_zero, List.getElem_cons_succ, List.setIfInBounds_toArray, List.set_cons_zero, List.set_cons_succ]
      go_simp

      go_wp2_with fail
      go_roundw
      case rel => exact ⟨c + min c (n - c), by omega, fun _ => by omega, by first | go_num | (simp; done) | rfl, HO4, HB4⟩
      case measure => simp [intOf]; omega
    · obtain rfl : c = n := by omega
      go_wp2_with fail
      go_ret
      refine ⟨_, rfl, ?_, HB.out⟩
      have := HO.out
      rw [Int.toNat_natCast]
      unfold filled at this
      simpa using this
end Go.Proofs.Ythdjhgidccmlfaa.P
