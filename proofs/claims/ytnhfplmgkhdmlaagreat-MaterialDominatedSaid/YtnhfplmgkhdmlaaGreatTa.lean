/- What is proved: the reference: sums and products of integers; sums of intervals. No conditions beyond those in the statements. -/
import Derived.Test.YtnhfplmgkhdmlaaGreatSa
set_option linter.unusedVariables false
set_option linter.unusedSimpArgs false
set_option maxHeartbeats 4000000
set_option maxRecDepth 8000
/-
The reference's sums of limbs.
-/
namespace Go.Pi
open Go Go.Proofs Num
theorem compare'_r (x y : Int) (hna : ll x ≤ 1099511627776) (hnb : ll y ≤ 1099511627776) : Rq 133 [.sl false (us (lm x)), .sl false (us (lm y))] = some (.int .i64 (vl (lm x) - vl (lm y)).sign) := by
  have hA := lm_lm x
  have hB := lm_lm y
  have lA := length_lm x
  have lB := length_lm y
  refine RL_of (f := 133) (fn := Tryz.f133) Tryz.func133 rfl rfl rfl (Nat.le_of_ble_eq_true rfl) ?_
  by_cases h1 : (lm x).length = (lm y).length
  · simp -implicitDefEqProofs (maxSteps := 5000000) (disch := omega) only [go_sem, h1, if_pos, if_neg, dec_t, dec_f, IntWalk.i64_in, IntWalk.u32_in, IntWalk.u64_in, beq_no]
    generalize hL : execL _ _ _ _ _ (.loop _) _ = L
    obtain ⟨⟨e, r, M⟩, rfl, H⟩ := loop_of hL (fun k s => (∃ nx, s.M = ⟨fun _ => .dead, nx⟩) ∧ k ≤ (lm y).length ∧ s.r 5 = .int .i64 ((k : Int) - 1) ∧ (∃ ea, s.r 0 = .sl ea (us (lm x))) ∧ (∃ eb, s.r 1 = .sl eb (us (lm y))) ∧ (lm x).drop k = (lm y).drop k)
      (fun w => (w.1 = .exit 0 ∧ vl (lm x) - vl (lm y) = 0) ∨ (w.1 = .ret ∧ w.2.r 4 = .int .i64 (vl (lm x) - vl (lm y)).sign)) ⟨(lm y).length, by
        simp -implicitDefEqProofs only [go_sem]
        refine ⟨⟨_, rfl⟩, ⟨_, rfl⟩, ⟨_, rfl⟩, ?_⟩
        rw [List.drop_length, ← h1, List.drop_length]⟩ (by
        rintro k ⟨r, M⟩ ⟨⟨nx, rfl⟩, hk, h5, ⟨ea, h0⟩, ⟨eb, h1'⟩, hd⟩
        dsimp only at h5 h0 h1'
        by_cases hk0 : 0 < k
        · have e1 : ((k : Int) - 1).toNat = k - 1 := by omega
          have e2 : k - 1 + 1 = k := by omega
          by_cases hlt : (lm x).getD (k - 1) 0 < (lm y).getD (k - 1) 0
          · simp -implicitDefEqProofs (maxSteps := 5000000) (disch := omega) only [go_sem, h5, h0, h1', e1, us_get, hlt, if_pos, if_neg, dec_t, dec_f, IntWalk.i64_in, IntWalk.u32_in, IntWalk.u64_in, beq_no]
            right
            have := vl_lt_at hA hB (by omega) (by omega) (by rw [e2]; exact hd) hlt
            rw [Int.sign_eq_neg_one_of_neg (by omega)]
          · by_cases hgt : (lm y).getD (k - 1) 0 < (lm x).getD (k - 1) 0
            · simp -implicitDefEqProofs (maxSteps := 5000000) (disch := omega) only [go_sem, h5, h0, h1', e1, us_get, hlt, hgt, if_pos, if_neg, dec_t, dec_f, IntWalk.i64_in, IntWalk.u32_in, IntWalk.u64_in, beq_no]
              right
              have := vl_lt_at hB hA (by omega) (by omega) (by rw [e2]; exact hd.symm) hgt
              rw [Int.sign_eq_one_of_pos (by omega)]
            · simp -implicitDefEqProofs (maxSteps := 5000000) (disch := omega) only [go_sem, h5, h0, h1', e1, us_get, hlt, hgt, if_pos, if_neg, dec_t, dec_f, IntWalk.i64_in, IntWalk.u32_in, IntWalk.u64_in, beq_no]
              refine ⟨k - 1, by omega, ⟨_, rfl⟩, by omega, by congr 1; omega, ⟨_, rfl⟩, ⟨_, rfl⟩, ?_⟩
              exact drop_step (by omega) (by omega) (by rw [e2]; exact hd) (by omega)
        · have : k = 0 := by omega
          subst this
          simp -implicitDefEqProofs (maxSteps := 5000000) (disch := omega) only [go_sem, h5, h0, h1', if_pos, if_neg, dec_t, dec_f, IntWalk.i64_in, IntWalk.u32_in, IntWalk.u64_in, beq_no]
          left
          simp only [List.drop_zero] at hd
          have := congrArg vl hd
          omega)
    rcases H with ⟨rfl, h⟩ | ⟨rfl, h⟩
    · simp -implicitDefEqProofs only [go_sem, h]
      rfl
    · dsimp only at h
      simp -implicitDefEqProofs only [go_sem, h]
  · by_cases h2 : (lm x).length < (lm y).length
    · simp -implicitDefEqProofs (maxSteps := 5000000) (disch := omega) only [go_sem, h1, h2, if_pos, if_neg, dec_t, dec_f, IntWalk.i64_in, IntWalk.u32_in, IntWalk.u64_in, beq_no]
      have := vl_lt_len h2
      rw [Int.sign_eq_neg_one_of_neg (by omega)]
    · simp -implicitDefEqProofs (maxSteps := 5000000) (disch := omega) only [go_sem, h1, h2, if_pos, if_neg, dec_t, dec_f, IntWalk.i64_in, IntWalk.u32_in, IntWalk.u64_in, beq_no]
      have := vl_lt_len (a := y) (b := x) (by omega)
      rw [Int.sign_eq_one_of_pos (by omega)]
theorem cmp'_r {a b : Int} (ha : ll a ≤ 1000000000) (hb : ll b ≤ 1000000000) : Rq 94 [.agg (zI a), .agg (zI b)] = some (.int .i64 (a - b).sign) := by
  refine RL_of (f := 94) (fn := Tryz.f94) Tryz.func94 rfl rfl rfl (Nat.le_of_ble_eq_true rfl) ?_
  have c1 := compare'_r a b (by omega) (by omega)
  have c2 := compare'_r b a (by omega) (by omega)
  rw [vl_lm', vl_lm'] at c1 c2
  by_cases h1 : a < 0
  · by_cases h2 : b < 0
    · rw [if_pos h1, if_pos h2] at c2
      simp -implicitDefEqProofs (maxSteps := 5000000) (disch := omega) only [go_sem, ng_neg h1, ng_neg h2, c2, if_pos, if_neg, dec_t, dec_f, IntWalk.i64_in, IntWalk.u32_in, IntWalk.u64_in, beq_no]
      congr 3; omega
    · simp -implicitDefEqProofs (maxSteps := 5000000) (disch := omega) only [go_sem, ng_neg h1, ng_nn (Int.not_lt.1 h2), if_pos, if_neg, dec_t, dec_f, IntWalk.i64_in, IntWalk.u32_in, IntWalk.u64_in, beq_no]
      rw [Int.sign_eq_neg_one_of_neg (by omega)]
  · by_cases h2 : b < 0
    · simp -implicitDefEqProofs (maxSteps := 5000000) (disch := omega) only [go_sem, ng_neg h2, ng_nn (Int.not_lt.1 h1), if_pos, if_neg, dec_t, dec_f, IntWalk.i64_in, IntWalk.u32_in, IntWalk.u64_in, beq_no]
      rw [Int.sign_eq_one_of_pos (by omega)]
    · rw [if_neg h1, if_neg h2] at c1
      simp -implicitDefEqProofs (maxSteps := 5000000) (disch := omega) only [go_sem, ng_nn (Int.not_lt.1 h1), ng_nn (Int.not_lt.1 h2), c1, if_pos, if_neg, dec_t, dec_f, IntWalk.i64_in, IntWalk.u32_in, IntWalk.u64_in, beq_no]
theorem plus'_r {a b : List Int} (ha : Lm a) (hb : Lm b) (hna : a.length ≤ 1000000000) (hnb : b.length ≤ 1000000000) : Rq 135 [.sl false (us a), .sl false (us b)] = some (.sl false (us (lm (vl a + vl b)))) := by
  refine RL_of (f := 135) (fn := Tryz.f135) Tryz.func135 rfl rfl rfl (Nat.le_of_ble_eq_true rfl) ?_
  simp -implicitDefEqProofs (maxSteps := 5000000) (disch := omega) only [go_sem, if_pos, if_neg, dec_t, dec_f, IntWalk.i64_in, IntWalk.u32_in, IntWalk.u64_in, beq_no]
  generalize hc : condE _ _ _ _ = c
  obtain ⟨A, B, ea, eb, r, rfl, h0, h1, hA, hB, hl, hs, hm⟩ : ∃ A B ea eb r, c = some (.normal, ⟨r, mem0⟩) ∧ r 0 = .sl ea (us A) ∧ r 1 = .sl eb (us B) ∧ Lm A ∧ Lm B ∧ B.length ≤ A.length ∧ vl A + vl B = vl a + vl b ∧ A.length = max a.length b.length := by
    rw [← hc]
    by_cases h : a.length < b.length
    · simp -implicitDefEqProofs (maxSteps := 5000000) (disch := omega) only [go_sem, if_pos, if_neg, dec_t, dec_f, IntWalk.i64_in, IntWalk.u32_in, IntWalk.u64_in, beq_no]
      exact ⟨b, a, _, _, _, rfl, by simp -implicitDefEqProofs only [go_sem]; rfl, by simp -implicitDefEqProofs only [go_sem]; rfl, hb, ha, by omega, by omega, by omega⟩
    · simp -implicitDefEqProofs (maxSteps := 5000000) (disch := omega) only [go_sem, if_pos, if_neg, dec_t, dec_f, IntWalk.i64_in, IntWalk.u32_in, IntWalk.u64_in, beq_no]
      exact ⟨a, b, _, _, _, rfl, by simp -implicitDefEqProofs only [go_sem]; rfl, by simp -implicitDefEqProofs only [go_sem]; rfl, ha, hb, by omega, by omega, by omega⟩
  clear hc
  have hn : A.length ≤ 1000000000 := by omega
  have e1 : ((A.length : Int) + 1).toNat = A.length + 1 := by omega
  simp -implicitDefEqProofs (maxSteps := 5000000) (disch := omega) only [go_sem, h0, h1, e1, zeros_one, if_pos, if_neg, dec_t, dec_f, IntWalk.i64_in, IntWalk.u32_in, IntWalk.u64_in, beq_no]
  generalize hL : execL _ _ _ _ _ (.loop _) _ = L
  obtain ⟨⟨e, r, ⟨m, nx⟩⟩, rfl, rfl, ⟨o, c, ho, hol, hc0, hv, hm0, h5, h6, h0⟩⟩ := loop_of hL (fun k s => ∃ i o c, (k = A.length - i ∧ i ≤ A.length ∧ Lm o ∧ o.length = i ∧ (0 ≤ c ∧ c ≤ 1) ∧ vl o + pw i * c = vl (A.take i) + vl (B.take i)) ∧ s.M.m 0 = .live true 143 (us (o ++ List.replicate (A.length + 1 - i) 0)) ∧
      s.r 5 = .ref 0 1 0 (A.length + 1) (A.length + 1) true ∧ s.r 6 = .int .u32 c ∧ s.r 7 = .int .i64 i ∧ s.r 0 = .sl ea (us A) ∧ s.r 1 = .sl eb (us B))
    (fun y => y.1 = .exit 0 ∧ ∃ o c, Lm o ∧ o.length = A.length ∧ (0 ≤ c ∧ c ≤ 1) ∧ vl o + pw A.length * c = vl A + vl B ∧ y.2.M.m 0 = .live true 143 (us (o ++ List.replicate 1 0)) ∧
      y.2.r 5 = .ref 0 1 0 (A.length + 1) (A.length + 1) true ∧ y.2.r 6 = .int .u32 c ∧ y.2.r 0 = .sl ea (us A)) ⟨A.length, 0, [], 0, by
      simp -implicitDefEqProofs (maxSteps := 5000000) (disch := omega) only [go_sem, h0, h1, if_pos, if_neg, dec_t, dec_f, IntWalk.i64_in, IntWalk.u32_in, IntWalk.u64_in, beq_no]
      exact ⟨⟨rfl, by omega, lm_nil, by simp [vl]⟩, rfl, rfl⟩⟩ (by
      rintro k ⟨r, ⟨m, nx⟩⟩ ⟨i, o, c, ⟨rfl, hi, ho, hol, hc0, hv⟩, hm0, h5, h6, h7, h0, h1⟩
      dsimp only at h5 h6 h7 h0 h1 hm0
      by_cases hlt : i < A.length
      · have e1 : (i : Int).toNat = i := by omega
        have b1 := lm_getD hA i
        have b2 := lm_getD hB i
        have v1 := vl_take_any A i
        have v2 := vl_take_any B i
        have st := fun x : Int => rep_set (n := A.length + 1) (x := x) hol (by omega)
        have ll : (o ++ List.replicate (A.length + 1 - i) (0 : Int)).length = A.length + 1 := by rw [List.length_append, List.length_replicate]; omega
        have key : ∀ x c', x + 1000000000 * c' = A.getD i 0 + c + B.getD i 0 → 0 ≤ x → x < 1000000000 → Lm (o ++ [x]) ∧ (o ++ [x]).length = i + 1 ∧ vl (o ++ [x]) + pw (i + 1) * c' = vl (A.take (i + 1)) + vl (B.take (i + 1)) := fun x c' hx h0 h1 => by
          refine ⟨lm_append.2 ⟨ho, lm_cons.2 ⟨⟨h0, h1⟩, lm_nil⟩⟩, by simp [hol], ?_⟩
          rw [v1, v2, vl_snoc, hol, pw_succ]
          exact plus_step hv hx
        by_cases hb' : i < B.length
        · simp -implicitDefEqProofs (maxSteps := 5000000) (disch := omega) only [go_sem, hm0, h5, h6, h7, h0, h1, e1, us_get, us_set, st, ll, Int.tmod_eq_emod_of_nonneg, Int.tdiv_eq_ediv_of_nonneg, if_pos, if_neg, dec_t, dec_f, IntWalk.i64_in, IntWalk.u32_in, IntWalk.u64_in, beq_no]
          obtain ⟨k1, k2, k3⟩ := key ((c + A.getD i 0 + B.getD i 0) % 1000000000) ((c + A.getD i 0 + B.getD i 0) / 1000000000) (by omega) (by omega) (by omega)
          exact ⟨_, by omega, i + 1, _, _, ⟨rfl, by omega, k1, k2, by omega, k3⟩, rfl, rfl, by rfl⟩
        · have g0 := getD_over (l := B) (i := i) (by omega)
          simp -implicitDefEqProofs (maxSteps := 5000000) (disch := omega) only [go_sem, hm0, h5, h6, h7, h0, h1, e1, us_get, us_set, st, ll, Int.tmod_eq_emod_of_nonneg, Int.tdiv_eq_ediv_of_nonneg, if_pos, if_neg, dec_t, dec_f, IntWalk.i64_in, IntWalk.u32_in, IntWalk.u64_in, beq_no]
          obtain ⟨k1, k2, k3⟩ := key ((c + A.getD i 0) % 1000000000) ((c + A.getD i 0) / 1000000000) (by omega) (by omega) (by omega)
          exact ⟨_, by omega, i + 1, _, _, ⟨rfl, by omega, k1, k2, by omega, k3⟩, rfl, rfl, by rfl⟩
      · have : i = A.length := by omega
        subst this
        simp -implicitDefEqProofs (maxSteps := 5000000) (disch := omega) only [go_sem, h7, h0, if_pos, if_neg, dec_t, dec_f, IntWalk.i64_in, IntWalk.u32_in, IntWalk.u64_in, beq_no]
        rw [List.take_length, List.take_of_length_le hl] at hv
        refine ⟨o, c, ho, hol, hc0, hv, ?_, h5, h6⟩
        rw [hm0, show A.length + 1 - A.length = 1 by omega])
  dsimp only at hm0 h5 h6 h0
  have e2 : (A.length : Int).toNat = A.length := by omega
  have st : ∀ x, (o ++ List.replicate 1 0).set A.length x = o ++ [x] := fun x => by
    rw [show 1 = 0 + 1 by omega, set_mid hol, List.replicate_zero, List.append_nil]
  have ol : (o ++ [c]).length = A.length + 1 := by simp [hol]
  have ol' : (o ++ List.replicate 1 (0 : Int)).length = A.length + 1 := by simp [hol]
  have t := trim'_r (l := o ++ [c]) (lm_append.2 ⟨ho, lm_cons.2 ⟨by omega, lm_nil⟩⟩) (by omega)
  rw [vl_snoc, hol, hv, hs] at t
  have tk : (o ++ [c]).take (A.length + 1) = o ++ [c] := List.take_of_length_le (by omega)
  simp -implicitDefEqProofs (maxSteps := 5000000) (disch := omega) only [go_sem, hm0, h5, h6, h0, e2, st, gd_us, elems_us, ol, ol', us_set, List.drop_zero, tk, t, if_pos, if_neg, dec_t, dec_f, IntWalk.i64_in, IntWalk.u32_in, IntWalk.u64_in, beq_no]
theorem minus'_r {a b : List Int} (ha : Lm a) (hb : Lm b) (hna : a.length ≤ 1000000000) (hle : vl b ≤ vl a) (hlb : b.length ≤ a.length) : Rq 136 [.sl false (us a), .sl false (us b)] = some (.sl false (us (lm (vl a - vl b)))) := by
  refine RL_of (f := 136) (fn := Tryz.f136) Tryz.func136 rfl rfl rfl (Nat.le_of_ble_eq_true rfl) ?_
  have e0 : (a.length : Int).toNat = a.length := by omega
  simp -implicitDefEqProofs (maxSteps := 5000000) (disch := omega) only [go_sem, zeros_one, e0, if_pos, if_neg, dec_t, dec_f, IntWalk.i64_in, IntWalk.u32_in, IntWalk.u64_in, beq_no]
  generalize hL : execL _ _ _ _ _ (.loop _) _ = L
  obtain ⟨⟨e, r, ⟨m, nx⟩⟩, rfl, rfl, ⟨o, c, ho, hol, hc0, hv, hm0, h5⟩⟩ := loop_of hL (fun k s => ∃ i o c, (k = a.length - i ∧ i ≤ a.length ∧ Lm o ∧ o.length = i ∧ (0 ≤ c ∧ c ≤ 1) ∧ vl o - pw i * c = vl (a.take i) - vl (b.take i)) ∧ s.M.m 0 = .live true 143 (us (o ++ List.replicate (a.length - i) 0)) ∧
      s.r 5 = .ref 0 1 0 a.length a.length true ∧ s.r 6 = .int .u32 c ∧ s.r 7 = .int .i64 i ∧ s.r 0 = .sl false (us a) ∧ s.r 1 = .sl false (us b))
    (fun y => y.1 = .exit 0 ∧ ∃ o c, Lm o ∧ o.length = a.length ∧ (0 ≤ c ∧ c ≤ 1) ∧ vl o - pw a.length * c = vl a - vl b ∧ y.2.M.m 0 = .live true 143 (us o) ∧
      y.2.r 5 = .ref 0 1 0 a.length a.length true) ⟨a.length, 0, [], 0, by
      simp -implicitDefEqProofs (maxSteps := 5000000) (disch := omega) only [go_sem, Nat.sub_zero, List.nil_append, if_pos, if_neg, dec_t, dec_f, IntWalk.i64_in, IntWalk.u32_in, IntWalk.u64_in, beq_no]
      exact ⟨⟨by omega, lm_nil, by simp [vl]⟩, rfl⟩⟩ (by
      rintro k ⟨r, ⟨m, nx⟩⟩ ⟨i, o, c, ⟨rfl, hi, ho, hol, hc0, hv⟩, hm0, h5, h6, h7, h0, h1⟩
      dsimp only at h5 h6 h7 h0 h1 hm0
      by_cases hlt : i < a.length
      · have e1 : (i : Int).toNat = i := by omega
        have b1 := lm_getD ha i
        have b2 := lm_getD hb i
        have v1 := vl_take_any a i
        have v2 := vl_take_any b i
        have st := fun x : Int => rep_set (x := x) hol hlt
        have ll : (o ++ List.replicate (a.length - i) (0 : Int)).length = a.length := by rw [List.length_append, List.length_replicate]; omega
        have key : ∀ x c', x - 1000000000 * c' = a.getD i 0 - c - b.getD i 0 → 0 ≤ x → x < 1000000000 → Lm (o ++ [x]) ∧ (o ++ [x]).length = i + 1 ∧ vl (o ++ [x]) - pw (i + 1) * c' = vl (a.take (i + 1)) - vl (b.take (i + 1)) := fun x c' hx h0 h1 => by
          refine ⟨lm_append.2 ⟨ho, lm_cons.2 ⟨⟨h0, h1⟩, lm_nil⟩⟩, by simp [hol], ?_⟩
          rw [v1, v2, vl_snoc, hol, pw_succ]
          exact minus_step hv hx
        by_cases hb' : i < b.length
        · by_cases hx : a.getD i 0 < c + b.getD i 0
          · simp -implicitDefEqProofs (maxSteps := 5000000) (disch := omega) only [go_sem, hm0, h5, h6, h7, h0, h1, e1, us_get, us_set, st, ll, if_pos, if_neg, dec_t, dec_f, IntWalk.i64_in, IntWalk.u32_in, IntWalk.u64_in, beq_no]
            obtain ⟨k1, k2, k3⟩ := key (a.getD i 0 + 1000000000 - c - b.getD i 0) 1 (by omega) (by omega) (by omega)
            exact ⟨_, by omega, i + 1, _, _, ⟨rfl, by omega, k1, k2, by omega, k3⟩, rfl, rfl, rfl⟩
          · simp -implicitDefEqProofs (maxSteps := 5000000) (disch := omega) only [go_sem, hm0, h5, h6, h7, h0, h1, e1, us_get, us_set, st, ll, if_pos, if_neg, dec_t, dec_f, IntWalk.i64_in, IntWalk.u32_in, IntWalk.u64_in, beq_no]
            obtain ⟨k1, k2, k3⟩ := key (a.getD i 0 + 1000000000 - c - b.getD i 0 - 1000000000) 0 (by omega) (by omega) (by omega)
            exact ⟨_, by omega, i + 1, _, _, ⟨rfl, by omega, k1, k2, by omega, k3⟩, rfl, rfl, rfl⟩
        · have g0 := getD_over (l := b) (i := i) (by omega)
          by_cases hx : a.getD i 0 < c
          · simp -implicitDefEqProofs (maxSteps := 5000000) (disch := omega) only [go_sem, hm0, h5, h6, h7, h0, h1, e1, us_get, us_set, st, ll, if_pos, if_neg, dec_t, dec_f, IntWalk.i64_in, IntWalk.u32_in, IntWalk.u64_in, beq_no]
            obtain ⟨k1, k2, k3⟩ := key (a.getD i 0 + 1000000000 - c) 1 (by omega) (by omega) (by omega)
            exact ⟨_, by omega, i + 1, _, _, ⟨rfl, by omega, k1, k2, by omega, k3⟩, rfl, rfl, rfl⟩
          · simp -implicitDefEqProofs (maxSteps := 5000000) (disch := omega) only [go_sem, hm0, h5, h6, h7, h0, h1, e1, us_get, us_set, st, ll, if_pos, if_neg, dec_t, dec_f, IntWalk.i64_in, IntWalk.u32_in, IntWalk.u64_in, beq_no]
            obtain ⟨k1, k2, k3⟩ := key (a.getD i 0 + 1000000000 - c - 1000000000) 0 (by omega) (by omega) (by omega)
            exact ⟨_, by omega, i + 1, _, _, ⟨rfl, by omega, k1, k2, by omega, k3⟩, rfl, rfl, rfl⟩
      · have : i = a.length := by omega
        subst this
        simp -implicitDefEqProofs (maxSteps := 5000000) (disch := omega) only [go_sem, h7, h0, if_pos, if_neg, dec_t, dec_f, IntWalk.i64_in, IntWalk.u32_in, IntWalk.u64_in, beq_no]
        rw [List.take_length, List.take_of_length_le hlb] at hv
        rw [Nat.sub_self, List.replicate_zero, List.append_nil] at hm0
        exact ⟨o, c, ho, hol, hc0, hv, hm0, h5⟩)
  dsimp only at hm0 h5
  have p1 := vl_lt ho
  have p2 := vl_nonneg ho
  have hc : c = 0 := by
    have p0 := pw_pos a.length
    rw [hol] at p1
    rcases (show c = 0 ∨ c = 1 by omega) with h | h
    · exact h
    · subst h; omega
  subst hc
  have t := trim'_r (l := o) ho (by omega)
  rw [show vl o = vl a - vl b by omega] at t
  have tk : o.take a.length = o := List.take_of_length_le (by omega)
  simp -implicitDefEqProofs (maxSteps := 5000000) (disch := omega) only [go_sem, hm0, h5, gd_us, elems_us, hol, List.drop_zero, tk, t, if_pos, if_neg, dec_t, dec_f, IntWalk.i64_in, IntWalk.u32_in, IntWalk.u64_in, beq_no]
end Go.Pi

set_option linter.unusedVariables false
set_option linter.unusedSimpArgs false
set_option maxHeartbeats 4000000
set_option maxRecDepth 8000
/-
The reference's sums and products of integers.
-/
namespace Go.Pi
open Go Go.Proofs Num
theorem neg'_r {a : Int} (ha : ll a ≤ 1000000000) : Rq 100 [.agg (zI a)] = some (.agg (zI (-a))) := by
  refine RL_of (f := 100) (fn := Tryz.f100) Tryz.func100 rfl rfl rfl (Nat.le_of_ble_eq_true rfl) ?_
  have la := length_lm a
  have va := vl_lm' a
  have sp := fun bb : Bool => signed'_r (b := bb) (lm_lm a) (by omega)
  rw [va] at sp
  have s1 := sp true
  have s0 := sp false
  simp only [if_true, Bool.false_eq_true, if_false] at s1 s0
  by_cases h1 : a < 0
  · rw [if_pos h1] at s0
    simp -implicitDefEqProofs (maxSteps := 5000000) (disch := omega) only [go_sem, ng_neg h1, s0, if_pos, if_neg, dec_t, dec_f, IntWalk.i64_in, IntWalk.u32_in, IntWalk.u64_in, beq_no]
  · rw [if_neg h1] at s1
    simp -implicitDefEqProofs (maxSteps := 5000000) (disch := omega) only [go_sem, ng_nn (Int.not_lt.1 h1), s1, if_pos, if_neg, dec_t, dec_f, IntWalk.i64_in, IntWalk.u32_in, IntWalk.u64_in, beq_no]
theorem lenle {x y : Int} (h : vl (lm x) ≤ vl (lm y)) : (lm x).length ≤ (lm y).length := by
  by_cases h' : (lm y).length < (lm x).length
  · have := vl_lt_len h'; omega
  · omega
theorem add'_r {a b : Int} (ha : ll a ≤ 1000000000) (hb : ll b ≤ 1000000000) : Rq 99 [.agg (zI a), .agg (zI b)] = some (.agg (zI (a + b))) := by
  refine RL_of (f := 99) (fn := Tryz.f99) Tryz.func99 rfl rfl rfl (Nat.le_of_ble_eq_true rfl) ?_
  have la := length_lm a
  have lb := length_lm b
  have pl := plus'_r (lm_lm a) (lm_lm b) (by omega) (by omega)
  have co := compare'_r a b (by omega) (by omega)
  have va := vl_lm' a
  have vb := vl_lm' b
  have lab := ll_add a b
  have sg := fun (x y : Int) (bb : Bool) (hx : ll x ≤ 1000000001) => signed'_r (b := bb) (lm_lm x) (by rw [length_lm]; omega)
  by_cases h1 : a < 0
  · rw [if_pos h1] at va
    by_cases h2 : b < 0
    · rw [if_pos h2] at vb
      rw [show vl (lm a) + vl (lm b) = -(a + b) by omega, lm_neg] at pl
      have s := signed'_r (b := true) (lm_lm (a + b)) (by rw [length_lm]; omega)
      rw [vl_lm', if_pos rfl, if_pos (by omega), Int.neg_neg] at s
      simp -implicitDefEqProofs (maxSteps := 5000000) (disch := omega) only [go_sem, ng_neg h1, ng_neg h2, pl, s, if_pos, if_neg, dec_t, dec_f, IntWalk.i64_in, IntWalk.u32_in, IntWalk.u64_in, beq_no]
    · rw [if_neg h2] at vb
      by_cases hc : vl (lm a) < vl (lm b)
      · have m := minus'_r (lm_lm b) (lm_lm a) (by omega) (by omega) (lenle (by omega))
        rw [show vl (lm b) - vl (lm a) = a + b by omega] at m
        have s := signed'_r (b := false) (lm_lm (a + b)) (by rw [length_lm]; omega)
        rw [vl_lm', if_neg (by simp), if_neg (by omega)] at s
        rw [Int.sign_eq_neg_one_of_neg (by omega)] at co
        simp -implicitDefEqProofs (maxSteps := 5000000) (disch := omega) only [go_sem, ng_neg h1, ng_nn (Int.not_lt.1 h2), co, s, m, if_pos, if_neg, dec_t, dec_f, IntWalk.i64_in, IntWalk.u32_in, IntWalk.u64_in, beq_no]
      · have m := minus'_r (lm_lm a) (lm_lm b) (by omega) (by omega) (lenle (by omega))
        rw [show vl (lm a) - vl (lm b) = -(a + b) by omega, lm_neg] at m
        have s := signed'_r (b := true) (lm_lm (a + b)) (by rw [length_lm]; omega)
        rw [vl_lm', if_pos rfl, show -(if a + b < 0 then -(a + b) else a + b) = a + b by split <;> omega] at s
        have sg : ¬ (vl (lm a) - vl (lm b)).sign < 0 := by
          have := Int.sign_nonneg_iff.2 (show 0 ≤ vl (lm a) - vl (lm b) by omega); omega
        simp -implicitDefEqProofs (maxSteps := 5000000) (disch := omega) only [go_sem, ng_neg h1, ng_nn (Int.not_lt.1 h2), co, sg, s, m, if_pos, if_neg, dec_t, dec_f, IntWalk.i64_in, IntWalk.u32_in, IntWalk.u64_in, beq_no]
  · rw [if_neg h1] at va
    by_cases h2 : b < 0
    · rw [if_pos h2] at vb
      by_cases hc : vl (lm a) < vl (lm b)
      · have m := minus'_r (lm_lm b) (lm_lm a) (by omega) (by omega) (lenle (by omega))
        rw [show vl (lm b) - vl (lm a) = -(a + b) by omega, lm_neg] at m
        have s := signed'_r (b := true) (lm_lm (a + b)) (by rw [length_lm]; omega)
        rw [vl_lm', if_pos rfl, if_pos (by omega), Int.neg_neg] at s
        rw [Int.sign_eq_neg_one_of_neg (by omega)] at co
        simp -implicitDefEqProofs (maxSteps := 5000000) (disch := omega) only [go_sem, ng_neg h2, ng_nn (Int.not_lt.1 h1), co, s, m, if_pos, if_neg, dec_t, dec_f, IntWalk.i64_in, IntWalk.u32_in, IntWalk.u64_in, beq_no]
      · have m := minus'_r (lm_lm a) (lm_lm b) (by omega) (by omega) (lenle (by omega))
        rw [show vl (lm a) - vl (lm b) = a + b by omega] at m
        have s := signed'_r (b := false) (lm_lm (a + b)) (by rw [length_lm]; omega)
        rw [vl_lm', if_neg (by simp), if_neg (by omega)] at s
        have sg : ¬ (vl (lm a) - vl (lm b)).sign < 0 := by
          have := Int.sign_nonneg_iff.2 (show 0 ≤ vl (lm a) - vl (lm b) by omega); omega
        simp -implicitDefEqProofs (maxSteps := 5000000) (disch := omega) only [go_sem, ng_neg h2, ng_nn (Int.not_lt.1 h1), co, sg, s, m, if_pos, if_neg, dec_t, dec_f, IntWalk.i64_in, IntWalk.u32_in, IntWalk.u64_in, beq_no]
    · rw [if_neg h2] at vb
      rw [show vl (lm a) + vl (lm b) = a + b by omega] at pl
      have s := signed'_r (b := false) (lm_lm (a + b)) (by rw [length_lm]; omega)
      rw [vl_lm', if_neg (by simp), if_neg (by omega)] at s
      simp -implicitDefEqProofs (maxSteps := 5000000) (disch := omega) only [go_sem, ng_nn (Int.not_lt.1 h1), ng_nn (Int.not_lt.1 h2), pl, s, if_pos, if_neg, dec_t, dec_f, IntWalk.i64_in, IntWalk.u32_in, IntWalk.u64_in, beq_no]
theorem sub'_r {a b : Int} (ha : ll a ≤ 1000000000) (hb : ll b ≤ 1000000000) : Rq 158 [.agg (zI a), .agg (zI b)] = some (.agg (zI (a - b))) := by
  refine RL_of (f := 158) (fn := Tryz.f158) Tryz.func158 rfl rfl rfl (Nat.le_of_ble_eq_true rfl) ?_
  have ad := add'_r (a := a) (b := -b) ha (by rw [ll_neg]; exact hb)
  have ne := neg'_r hb
  rw [← Int.sub_eq_add_neg] at ad
  simp only [zI_eq] at ad ne
  simp -implicitDefEqProofs (maxSteps := 5000000) (disch := omega) only [go_sem, ne, ad, if_pos, if_neg, dec_t, dec_f, IntWalk.i64_in, IntWalk.u32_in, IntWalk.u64_in, beq_no]
theorem wr_i64 (n : Int) : IntKind.i64.wrap n = if 9223372036854775808 ≤ n % 18446744073709551616 then n % 18446744073709551616 - 18446744073709551616 else n % 18446744073709551616 := by
  simp [IntKind.wrap, IntKind.bits, IntKind.signed]
theorem short'_3 {l : List Int} (hl : Lm l) (h : l.length ≤ 3) (h1 : vl l < 18446744073709551616) : Rq 143 [.sl false (us l)] = some (.int .u64 (vl l)) := by
  by_cases h2 : l.length ≤ 2
  · exact short'_r hl h2
  · refine RL_of (f := 143) (fn := Tryz.f143) Tryz.func143 rfl rfl rfl (Nat.le_of_ble_eq_true rfl) ?_
    rcases l with _ | ⟨x, _ | ⟨y, _ | ⟨z, _ | ⟨w, l⟩⟩⟩⟩
    · simp at h2
    · simp at h2
    · simp at h2
    · rw [lm_cons, lm_cons, lm_cons] at hl
      simp only [vl] at h1
      simp -implicitDefEqProofs (disch := omega) only [go_sem, xL_loop, lpE_normal, lpE_exit, us_nil, us_cons, vl, show ((1 : Nat) : Int) = 1 from rfl, show ((2 : Nat) : Int) = 2 from rfl, show ((3 : Nat) : Int) = 3 from rfl, if_pos, if_neg, dec_t, dec_f, IntWalk.i64_in, IntWalk.u64_in, beq_no]
      refine congrArg some (congrArg (PV.int .u64) ?_); omega
    · simp at h
theorem times'_r {a b : List Int} (ha : Lm a) (hb : Lm b) (hn : a.length + b.length ≤ 1099511627776) : Rq 132 [.sl false (us a), .sl false (us b)] = some (.sl false (us (lm (vl a * vl b)))) := by
  refine RL_of (f := 132) (fn := Tryz.f132) Tryz.func132 rfl rfl rfl (Nat.le_of_ble_eq_true rfl) ?_
  have e0 : ((a.length : Int) + b.length).toNat = a.length + b.length := by omega
  simp -implicitDefEqProofs (maxSteps := 5000000) (disch := omega) only [go_sem, zeros_one, e0, if_pos, if_neg, dec_t, dec_f, IntWalk.i64_in, IntWalk.u32_in, IntWalk.u64_in, beq_no]
  generalize hL : execL _ _ _ _ _ (.loop _) _ = L
  obtain ⟨⟨e, r, ⟨m, nx⟩⟩, rfl, rfl, ⟨o, ho, hol, hv, hm0, h5⟩⟩ := loop_of hL (fun k s => ∃ i o, (k = a.length - i ∧ i ≤ a.length ∧ Lm o ∧ o.length = a.length + b.length ∧ vl o = vl (a.take i) * vl b ∧ ∀ j, i + b.length ≤ j → o.getD j 0 = 0) ∧ s.M.m 0 = .live true 143 (us o) ∧
      s.r 5 = .ref 0 1 0 (a.length + b.length) (a.length + b.length) true ∧ s.r 6 = .int .i64 i ∧ s.r 0 = .sl false (us a) ∧ s.r 1 = .sl false (us b))
    (fun y => y.1 = .exit 0 ∧ ∃ o, Lm o ∧ o.length = a.length + b.length ∧ vl o = vl a * vl b ∧ y.2.M.m 0 = .live true 143 (us o) ∧
      y.2.r 5 = .ref 0 1 0 (a.length + b.length) (a.length + b.length) true) ⟨a.length, by
      simp -implicitDefEqProofs (maxSteps := 5000000) (disch := omega) only [go_sem, if_pos, if_neg, dec_t, dec_f, IntWalk.i64_in, IntWalk.u32_in, IntWalk.u64_in, beq_no]
      refine ⟨0, List.replicate (a.length + b.length) 0, ⟨rfl, by omega, lm_rep _, by simp, by rw [vl_rep]; simp [vl], fun j _ => ?_⟩, rfl, rfl⟩
      rw [List.getD_eq_getElem?_getD, List.getElem?_replicate]; split <;> rfl⟩ (by
      rintro k ⟨r, ⟨m, nx⟩⟩ ⟨i, o, ⟨rfl, hi, ho, hol, hv, hz⟩, hm0, h5, h6, h0, h1⟩
      dsimp only at hm0 h5 h6 h0 h1
      by_cases hlt : i < a.length
      · have e1 : (i : Int).toNat = i := by omega
        have b1 := lm_getD ha i
        simp -implicitDefEqProofs (maxSteps := 5000000) (disch := omega) only [go_sem, h5, h6, h0, h1, if_pos, if_neg, dec_t, dec_f, IntWalk.i64_in, IntWalk.u32_in, IntWalk.u64_in, beq_no]
        generalize hL2 : execL _ _ _ _ _ (.loop _) _ = L2
        obtain ⟨⟨e, r2, ⟨m2, nx2⟩⟩, rfl, rfl, ⟨o2, c, ho2, hol2, hc0, hv2, hz2, hm2, g5, g7, g6, g0, g1⟩⟩ := loop_of hL2 (fun k2 s => ∃ q o c, (k2 = b.length - q ∧ q ≤ b.length ∧ Lm o ∧ o.length = a.length + b.length ∧ (0 ≤ c ∧ c < 1000000000) ∧ vl o + pw (i + q) * c = vl (a.take i) * vl b + pw i * (a.getD i 0 * vl (b.take q)) ∧ ∀ j, i + b.length ≤ j → o.getD j 0 = 0) ∧ s.M.m 0 = .live true 143 (us o) ∧
          s.r 5 = .ref 0 1 0 (a.length + b.length) (a.length + b.length) true ∧ s.r 7 = .int .u64 c ∧ s.r 6 = .int .i64 i ∧ s.r 0 = .sl false (us a) ∧ s.r 1 = .sl false (us b) ∧ s.r 8 = .int .i64 q)
          (fun y => y.1 = .exit 2 ∧ ∃ o c, Lm o ∧ o.length = a.length + b.length ∧ (0 ≤ c ∧ c < 1000000000) ∧ vl o + pw (i + b.length) * c = vl (a.take i) * vl b + pw i * (a.getD i 0 * vl b) ∧ (∀ j, i + b.length ≤ j → o.getD j 0 = 0) ∧ y.2.M.m 0 = .live true 143 (us o) ∧
          y.2.r 5 = .ref 0 1 0 (a.length + b.length) (a.length + b.length) true ∧ y.2.r 7 = .int .u64 c ∧ y.2.r 6 = .int .i64 i ∧ y.2.r 0 = .sl false (us a) ∧ y.2.r 1 = .sl false (us b)) ⟨b.length, by
          simp -implicitDefEqProofs (maxSteps := 5000000) (disch := omega) only [go_sem, hm0, h5, h6, h0, h1, if_pos, if_neg, dec_t, dec_f, IntWalk.i64_in, IntWalk.u32_in, IntWalk.u64_in, beq_no]
          exact ⟨0, o, 0, ⟨by omega, by omega, ho, hol, by omega, by simp [vl, hv], hz⟩, rfl, rfl, rfl⟩⟩ (by
          rintro k ⟨r, ⟨m, nx⟩⟩ ⟨q, o, c, ⟨rfl, hq, ho, hol, hc, hv, hz⟩, hm0, h5, h7, h6, h0, h1, h8⟩
          dsimp only at hm0 h5 h6 h7 h8 h0 h1
          by_cases hq2 : q < b.length
          · have e2 : (q : Int).toNat = q := by omega
            have e3 : ((i : Int) + q).toNat = i + q := by omega
            have b2 := lm_getD hb q
            have b3 := lm_getD ho (i + q)
            have b4 := mul_le b1.1 b1.2 b2.1 b2.2
            have v2 := vl_take_any b q
            have st := vl_set o (i + q)
            have t1 : 0 ≤ c + o.getD (i + q) 0 + a.getD i 0 * b.getD q 0 := by omega
            simp -implicitDefEqProofs (maxSteps := 5000000) (disch := omega) only [go_sem, hm0, h5, h6, h7, h8, h0, h1, e1, e2, e3, us_get, us_set, hol, Int.tmod_eq_emod_of_nonneg, Int.tdiv_eq_ediv_of_nonneg, if_pos, if_neg, dec_t, dec_f, IntWalk.i64_in, IntWalk.u32_in, IntWalk.u64_in, beq_no]
            generalize hq' : (c + o.getD (i + q) 0 + a.getD i 0 * b.getD q 0) / 1000000000 = q'
            generalize hr' : (c + o.getD (i + q) 0 + a.getD i 0 * b.getD q 0) % 1000000000 = r'
            refine ⟨_, by omega, q + 1, _, q', ⟨rfl, by omega, lm_set ho (i + q) (v := r') (by omega), by rw [List.length_set]; exact hol, by omega, ?_, fun j hj => by rw [getD_setn (by omega)]; exact hz j hj⟩, rfl, rfl, by rfl⟩
            rw [st _ (by omega), v2, ← Nat.add_assoc, pw_succ]
            have := times_step (q := q') (r := r') (x := a.getD i 0) (y := b.getD q 0) (ou := o.getD (i + q) 0) hv (by omega)
            rw [this, pw_add]
            grind
          · have : q = b.length := by omega
            subst this
            simp -implicitDefEqProofs (maxSteps := 5000000) (disch := omega) only [go_sem, hm0, h5, h6, h7, h8, h0, h1, if_pos, if_neg, dec_t, dec_f, IntWalk.i64_in, IntWalk.u32_in, IntWalk.u64_in, beq_no]
            exact ⟨o, c, ho, hol, hc, by rw [hv, List.take_length], hz, rfl, rfl⟩)
        dsimp only at hm2 g5 g6 g7 g0 g1
        have e4 : ((i : Int) + b.length).toNat = i + b.length := by omega
        simp -implicitDefEqProofs (maxSteps := 5000000) (disch := omega) only [go_sem, hm2, g5, g6, g7, g0, g1, e4, hol2, if_pos, if_neg, dec_t, dec_f, IntWalk.i64_in, IntWalk.u32_in, IntWalk.u64_in, beq_no]
        refine ⟨_, by omega, i + 1, _, ⟨rfl, by omega, lm_set ho2 (i + b.length) (v := c) (by omega), by rw [List.length_set]; exact hol2, ?_, fun j hj => by rw [getD_setn (by omega)]; exact hz2 j (by omega)⟩, rfl, by rfl⟩
        rw [vl_set o2 (i + b.length) c (by omega), hz2 _ (Nat.le_refl _), Int.sub_zero, hv2, vl_take_any a i]
        grind
      · have : i = a.length := by omega
        subst this
        simp -implicitDefEqProofs (maxSteps := 5000000) (disch := omega) only [go_sem, hm0, h5, h6, h0, if_pos, if_neg, dec_t, dec_f, IntWalk.i64_in, IntWalk.u32_in, IntWalk.u64_in, beq_no]
        rw [List.take_length] at hv
        exact ⟨o, ho, hol, hv, rfl⟩)
  dsimp only at hm0 h5
  have t := trim'_r (l := o) ho (by omega)
  rw [hv] at t
  have tk : o.take (a.length + b.length) = o := List.take_of_length_le (by omega)
  simp -implicitDefEqProofs (maxSteps := 5000000) (disch := omega) only [go_sem, hm0, h5, gd_us, elems_us, hol, List.drop_zero, tk, t, if_pos, if_neg, dec_t, dec_f, IntWalk.i64_in, IntWalk.u32_in, IntWalk.u64_in, beq_no]
theorem mul'_r {a b : Int} (ha : ll a ≤ 1000000000) (hb : ll b ≤ 1000000000) : Rq 93 [.agg (zI a), .agg (zI b)] = some (.agg (zI (a * b))) := by
  refine RL_of (f := 93) (fn := Tryz.f93) Tryz.func93 rfl rfl rfl (Nat.le_of_ble_eq_true rfl) ?_
  have la := length_lm a
  have lb := length_lm b
  have t := times'_r (lm_lm a) (lm_lm b) (by omega)
  have lab := ll_mul a b
  have va := vl_lm' a
  have vb := vl_lm' b
  have ab : vl (lm a) * vl (lm b) = a * b ∨ vl (lm a) * vl (lm b) = -(a * b) := by
    rw [va, vb]
    split <;> split
    · left; rw [Int.neg_mul_neg]
    · right; rw [Int.neg_mul]
    · right; rw [Int.mul_neg]
    · left; rfl
  have t : Rq 132 [.sl false (us (lm a)), .sl false (us (lm b))] = some (.sl false (us (lm (a * b)))) := by
    rw [t]
    rcases ab with h | h
    · rw [h]
    · rw [h, lm_neg]
  have s1 := signed'_r (b := true) (lm_lm (a * b)) (by rw [length_lm]; omega)
  have s0 := signed'_r (b := false) (lm_lm (a * b)) (by rw [length_lm]; omega)
  rw [vl_lm', if_pos rfl] at s1
  rw [vl_lm', if_neg (by simp)] at s0
  by_cases h1 : a < 0
  · by_cases h2 : b < 0
    · have := Int.mul_pos_of_neg_of_neg h1 h2
      rw [if_neg (by omega)] at s0
      simp -implicitDefEqProofs (maxSteps := 5000000) (disch := omega) only [go_sem, ng_neg h1, ng_neg h2, t, s0, if_pos, if_neg, dec_t, dec_f, IntWalk.i64_in, IntWalk.u32_in, IntWalk.u64_in, beq_no]
    · have := Int.mul_nonpos_of_nonpos_of_nonneg (Int.le_of_lt h1) (Int.not_lt.1 h2)
      rw [show -(if a * b < 0 then -(a * b) else a * b) = a * b by split <;> omega] at s1
      simp -implicitDefEqProofs (maxSteps := 5000000) (disch := omega) only [go_sem, ng_neg h1, ng_nn (Int.not_lt.1 h2), t, s1, if_pos, if_neg, dec_t, dec_f, IntWalk.i64_in, IntWalk.u32_in, IntWalk.u64_in, beq_no]
  · by_cases h2 : b < 0
    · have := Int.mul_nonpos_of_nonneg_of_nonpos (Int.not_lt.1 h1) (Int.le_of_lt h2)
      rw [show -(if a * b < 0 then -(a * b) else a * b) = a * b by split <;> omega] at s1
      simp -implicitDefEqProofs (maxSteps := 5000000) (disch := omega) only [go_sem, ng_neg h2, ng_nn (Int.not_lt.1 h1), t, s1, if_pos, if_neg, dec_t, dec_f, IntWalk.i64_in, IntWalk.u32_in, IntWalk.u64_in, beq_no]
    · have := Int.mul_nonneg (Int.not_lt.1 h1) (Int.not_lt.1 h2)
      rw [if_neg (by omega)] at s0
      simp -implicitDefEqProofs (maxSteps := 5000000) (disch := omega) only [go_sem, ng_nn (Int.not_lt.1 h1), ng_nn (Int.not_lt.1 h2), t, s0, if_pos, if_neg, dec_t, dec_f, IntWalk.i64_in, IntWalk.u32_in, IntWalk.u64_in, beq_no]
theorem by'_r {a : List Int} {n : Int} (ha : Lm a) (hn : a.length ≤ 1000000000) (h0 : 0 ≤ n) (h1 : n < 1000000000) : Rq 166 [.sl false (us a), .int .u32 n] = some (.sl false (us (lm (vl a * n)))) := by
  refine RL_of (f := 166) (fn := Tryz.f166) Tryz.func166 rfl rfl rfl (Nat.le_of_ble_eq_true rfl) ?_
  have t := trim'_r (l := [n]) (lm_cons.2 ⟨⟨h0, h1⟩, lm_nil⟩) (by simp)
  have e : vl [n] = n := by simp [vl]
  have l1 : ll n ≤ 1 := ll_small (by omega) h1
  rw [e] at t
  have m := times'_r (b := lm n) ha (lm_lm n) (by rw [length_lm]; omega)
  rw [vl_lm', if_neg (by omega)] at m
  simp only [us_cons, us_nil] at t
  simp -implicitDefEqProofs (maxSteps := 5000000) (disch := omega) only [go_sem, t, m, if_pos, if_neg, dec_t, dec_f, IntWalk.i64_in, IntWalk.u32_in, IntWalk.u64_in, beq_no]
end Go.Pi
