/- What is proved: the functions on limbs: trim, compare, plus, signed, minus, times, and on integers: signs, sums, products. No conditions beyond those in the statements. -/
import Derived.Test.YtnhfplmgkhdmlaaGreatSx
import Derived.Test.YtnhfplmgkhdmlaaGreatPd
import Derived.Test.YtnhfplmgkhdmlaaGreatNa
set_option linter.unusedVariables false
set_option linter.unusedSimpArgs false
set_option maxHeartbeats 4000000
set_option maxRecDepth 8000
/-
What the functions on limbs answer.
-/
namespace Go.Pi
open Go Go.Proofs Num
theorem getD_take {l : List Int} {i j : Nat} (h : j < i) : (l.take i).getD j 0 = l.getD j 0 := by
  rw [List.getD_eq_getElem?_getD, List.getElem?_take_of_lt h, List.getD_eq_getElem?_getD]
theorem trim_c (l : List Int) (hl : Lm l) (hn : l.length ≤ 1099511627776) (ex : Bool) (M : Mem) : ∃ ex', Cq 150 [.sl ex (us l)] M = some (.sl ex' (us (lm (vl l))), M) := by
  suffices h : ∃ ex', fin Pq _ (execL Pq Xq sq cq 150 _ ⟨ini 0 [.sl ex (us l)], M⟩) = some (.sl ex' (us (lm (vl l))), M) from
    h.imp fun _ h => CL_of (f := 150) (fn := Tryz.f150) Tryz.func150 rfl rfl rfl (Nat.le_of_ble_eq_true rfl) h
  obtain ⟨m, nx⟩ := M
  simp -implicitDefEqProofs only [go_sem]
  generalize hL : execL _ _ _ _ _ (.loop _) _ = L
  obtain ⟨⟨e, r, M⟩, rfl, rfl, rfl, ex', h0⟩ := loop_of hL (fun i s => s.M = ⟨m, nx⟩ ∧ i ≤ l.length ∧ vl (l.take i) = vl l ∧ ∃ ex, s.r 0 = .sl ex (us (l.take i)))
    (fun y => y.1 = .exit 0 ∧ y.2.M = ⟨m, nx⟩ ∧ ∃ ex, y.2.r 0 = .sl ex (us (lm (vl l)))) ⟨l.length, by
      refine ⟨rfl, Nat.le_refl _, by simp, ex, ?_⟩
      simp -implicitDefEqProofs only [go_sem, List.take_length]⟩ (by
      rintro i ⟨r, M⟩ ⟨rfl, hi, hv, ex, h0⟩
      dsimp only at h0
      have hlt : (l.take i).length = i := by rw [List.length_take]; omega
      by_cases h : 0 < i
      · have e1 : ((i : Int) - 1).toNat = i - 1 := by omega
        by_cases hz : l.getD (i - 1) 0 = 0
        · simp -implicitDefEqProofs (maxSteps := 5000000) (disch := omega) only [go_sem, h0, hlt, e1, us_get, us_take, getD_take, hz, if_pos, if_neg, dec_t, dec_f, IntWalk.i64_in, IntWalk.u32_in, IntWalk.u64_in, beq_no]
          refine ⟨i - 1, by omega, by omega, ?_, ⟨_, by rw [List.take_take, Nat.min_eq_left (Nat.sub_le i 1)]⟩⟩
          · rw [← hv]
            have := vl_take_succ l (i - 1) (by omega)
            rw [show i - 1 + 1 = i by omega, hz] at this
            omega
        · simp -implicitDefEqProofs (maxSteps := 5000000) (disch := omega) only [go_sem, h0, hlt, e1, us_get, us_take, getD_take, hz, if_pos, if_neg, dec_t, dec_f, IntWalk.i64_in, IntWalk.u32_in, IntWalk.u64_in, beq_no]
          refine ⟨ex, ?_⟩
          rw [lm_take_of hl i hi hv (.inr hz)]
      · have : i = 0 := by omega
        subst this
        simp -implicitDefEqProofs (maxSteps := 5000000) (disch := omega) only [go_sem, h0, hlt, if_pos, if_neg, dec_t, dec_f, IntWalk.i64_in, IntWalk.u32_in, IntWalk.u64_in, beq_no]
        refine ⟨ex, ?_⟩
        rw [← lm_take_of hl 0 hi hv (.inl rfl), List.take_zero])
  dsimp only at h0
  simp -implicitDefEqProofs only [go_sem, h0]
  exact ⟨_, rfl⟩
end Go.Pi

set_option linter.unusedVariables false
set_option linter.unusedSimpArgs false
set_option maxHeartbeats 4000000
set_option maxRecDepth 8000
/-
Comparing limbs.
-/
namespace Go.Pi
open Go Go.Proofs Num
@[go_sem] theorem trim_r {l : List Int} (hl : Lm l) (hn : l.length ≤ 1099511627776) : Rq 150 [.sl false (us l)] = some (.sl false (us (lm (vl l)))) := by
  obtain ⟨ex, h⟩ := trim_c l hl hn false mem0
  exact RL_CL h rfl
theorem compare_r {a b : List Int} (ha : Lm a) (hb : Lm b) (hna : a.length ≤ 1099511627776) (hnb : b.length ≤ 1099511627776) : Rq 117 [.sl false (us a), .sl false (us b)] = some (.int .i64 (vl a - vl b).sign) := by
  have wa : vl (lm (vl a)) = vl a := by rw [vl_lm]; have := vl_nonneg ha; omega
  have wb : vl (lm (vl b)) = vl b := by rw [vl_lm]; have := vl_nonneg hb; omega
  have hA := lm_lm (vl a)
  have hB := lm_lm (vl b)
  have lA : (lm (vl a)).length ≤ a.length := by
    have h0 := vl_nonneg ha
    rw [length_lm]; exact ll_le (vl_lt ha) (by have := pw_pos a.length; omega)
  have lB : (lm (vl b)).length ≤ b.length := by
    have h0 := vl_nonneg hb
    rw [length_lm]; exact ll_le (vl_lt hb) (by have := pw_pos b.length; omega)
  refine RL_of (f := 117) (fn := Tryz.f117) Tryz.func117 rfl rfl rfl (Nat.le_of_ble_eq_true rfl) ?_
  have t1 := trim_r ha hna
  have t2 := trim_r hb hnb
  by_cases h1 : (lm (vl a)).length = (lm (vl b)).length
  · simp -implicitDefEqProofs (maxSteps := 5000000) (disch := omega) only [go_sem, t1, t2, h1, if_pos, if_neg, dec_t, dec_f, IntWalk.i64_in, IntWalk.u32_in, IntWalk.u64_in, beq_no]
    generalize hL : execL _ _ _ _ _ (.loop _) _ = L
    obtain ⟨⟨e, r, M⟩, rfl, H⟩ := loop_of hL (fun k s => (∃ nx, s.M = ⟨fun _ => .dead, nx⟩) ∧ k ≤ (lm (vl b)).length ∧ s.r 5 = .int .i64 ((k : Int) - 1) ∧ (∃ ea, s.r 0 = .sl ea (us (lm (vl a)))) ∧ (∃ eb, s.r 1 = .sl eb (us (lm (vl b)))) ∧ (lm (vl a)).drop k = (lm (vl b)).drop k)
      (fun y => (y.1 = .exit 0 ∧ vl a - vl b = 0) ∨ (y.1 = .ret ∧ y.2.r 4 = .int .i64 (vl a - vl b).sign)) ⟨(lm (vl b)).length, by
        simp -implicitDefEqProofs only [go_sem]
        refine ⟨⟨_, rfl⟩, ⟨_, rfl⟩, ⟨_, rfl⟩, ?_⟩
        rw [List.drop_length, ← h1, List.drop_length]⟩ (by
        rintro k ⟨r, M⟩ ⟨⟨nx, rfl⟩, hk, h5, ⟨ea, h0⟩, ⟨eb, h1'⟩, hd⟩
        dsimp only at h5 h0 h1'
        by_cases hk0 : 0 < k
        · have e1 : ((k : Int) - 1).toNat = k - 1 := by omega
          have e2 : k - 1 + 1 = k := by omega
          by_cases hlt : (lm (vl a)).getD (k - 1) 0 < (lm (vl b)).getD (k - 1) 0
          · simp -implicitDefEqProofs (maxSteps := 5000000) (disch := omega) only [go_sem, h5, h0, h1', e1, us_get, hlt, if_pos, if_neg, dec_t, dec_f, IntWalk.i64_in, IntWalk.u32_in, IntWalk.u64_in, beq_no]
            right
            have := vl_lt_at hA hB (by omega) (by omega) (by rw [e2]; exact hd) hlt
            rw [Int.sign_eq_neg_one_of_neg (by omega)]
          · by_cases hgt : (lm (vl b)).getD (k - 1) 0 < (lm (vl a)).getD (k - 1) 0
            · simp -implicitDefEqProofs (maxSteps := 5000000) (disch := omega) only [go_sem, h5, h0, h1', e1, us_get, hlt, hgt, if_pos, if_neg, dec_t, dec_f, IntWalk.i64_in, IntWalk.u32_in, IntWalk.u64_in, beq_no]
              right
              have := vl_lt_at hB hA (by omega) (by omega) (by rw [e2]; exact hd.symm) hgt
              rw [Int.sign_eq_one_of_pos (by omega)]
            · simp -implicitDefEqProofs (maxSteps := 5000000) (disch := omega) only [go_sem, h5, h0, h1', e1, us_get, hlt, hgt, if_pos, if_neg, dec_t, dec_f, IntWalk.i64_in, IntWalk.u32_in, IntWalk.u64_in, beq_no]
              refine ⟨k - 1, by omega, ⟨_, rfl⟩, by omega, by congr 1; omega, ⟨_, rfl⟩, ⟨_, rfl⟩, ?_⟩
              exact drop_step (by omega) (by omega) (by rw [e2]; exact hd) (by omega)
        · have : k = 0 := by omega
          subst this
          simp -implicitDefEqProofs (maxSteps := 5000000) (disch := omega) only [go_sem, h5, h0, h1', if_pos, if_neg, dec_t, dec_f, IntWalk.i64_in, IntWalk.u32_in, IntWalk.u64_in, beq_no]
          left
          simp only [List.drop_zero] at hd
          have := congrArg vl hd
          omega)
    rcases H with ⟨rfl, h⟩ | ⟨rfl, h⟩
    · simp -implicitDefEqProofs only [go_sem, h]
      rfl
    · dsimp only at h
      simp -implicitDefEqProofs only [go_sem, h]
  · by_cases h2 : (lm (vl a)).length < (lm (vl b)).length
    · simp -implicitDefEqProofs (maxSteps := 5000000) (disch := omega) only [go_sem, t1, t2, h1, h2, if_pos, if_neg, dec_t, dec_f, IntWalk.i64_in, IntWalk.u32_in, IntWalk.u64_in, beq_no]
      have := vl_lt_len h2
      rw [Int.sign_eq_neg_one_of_neg (by omega)]
    · simp -implicitDefEqProofs (maxSteps := 5000000) (disch := omega) only [go_sem, t1, t2, h1, h2, if_pos, if_neg, dec_t, dec_f, IntWalk.i64_in, IntWalk.u32_in, IntWalk.u64_in, beq_no]
      have := vl_lt_len (a := vl b) (b := vl a) (by omega)
      rw [Int.sign_eq_one_of_pos (by omega)]
end Go.Pi

set_option linter.unusedVariables false
set_option linter.unusedSimpArgs false
set_option maxHeartbeats 4000000
set_option maxRecDepth 8000
/-
Adding limbs.
-/
namespace Go.Pi
open Go Go.Proofs Num
theorem plus_r {a b : List Int} (ha : Lm a) (hb : Lm b) (hna : a.length ≤ 1099511627776) (hnb : b.length ≤ 1099511627776) : Rq 156 [.sl false (us a), .sl false (us b)] = some (.sl false (us (dg (max a.length b.length + 1) (vl a + vl b)))) := by
  refine RL_of (f := 156) (fn := Tryz.f156) Tryz.func156 rfl rfl rfl (Nat.le_of_ble_eq_true rfl) ?_
  simp -implicitDefEqProofs (maxSteps := 5000000) (disch := omega) only [go_sem, if_pos, if_neg, dec_t, dec_f, IntWalk.i64_in, IntWalk.u32_in, IntWalk.u64_in, beq_no]
  generalize hc : condE _ _ _ _ = c
  obtain ⟨A, B, ea, eb, r, rfl, h0, h1, hA, hB, hl, hs, hm⟩ : ∃ A B ea eb r, c = some (.normal, ⟨r, mem0⟩) ∧ r 0 = .sl ea (us A) ∧ r 1 = .sl eb (us B) ∧ Lm A ∧ Lm B ∧ B.length ≤ A.length ∧ vl A + vl B = vl a + vl b ∧ A.length = max a.length b.length := by
    rw [← hc]
    by_cases h : a.length < b.length
    · simp -implicitDefEqProofs (maxSteps := 5000000) (disch := omega) only [go_sem, if_pos, if_neg, dec_t, dec_f, IntWalk.i64_in, IntWalk.u32_in, IntWalk.u64_in, beq_no]
      exact ⟨b, a, _, _, _, rfl, by simp -implicitDefEqProofs only [go_sem]; rfl, by simp -implicitDefEqProofs only [go_sem]; rfl, hb, ha, by omega, by omega, by omega⟩
    · simp -implicitDefEqProofs (maxSteps := 5000000) (disch := omega) only [go_sem, if_pos, if_neg, dec_t, dec_f, IntWalk.i64_in, IntWalk.u32_in, IntWalk.u64_in, beq_no]
      exact ⟨a, b, _, _, _, rfl, by simp -implicitDefEqProofs only [go_sem]; rfl, by simp -implicitDefEqProofs only [go_sem]; rfl, ha, hb, by omega, by omega, by omega⟩
  clear hc
  have hn : A.length ≤ 1099511627776 := by omega
  have e1 : ((A.length : Int) + 1).toNat = A.length + 1 := by omega
  simp -implicitDefEqProofs (maxSteps := 5000000) (disch := omega) only [go_sem, h0, h1, e1, zeros_one, if_pos, if_neg, dec_t, dec_f, IntWalk.i64_in, IntWalk.u32_in, IntWalk.u64_in, beq_no]
  generalize hL : execL _ _ _ _ _ (.loop _) _ = L
  obtain ⟨⟨e, r, ⟨m, nx⟩⟩, rfl, rfl, ⟨o, c, ho, hol, hc0, hv, hm0, h5, h6⟩⟩ := loop_of hL (fun k s => ∃ i o c, (k = A.length - i ∧ i ≤ A.length ∧ Lm o ∧ o.length = i ∧ (0 ≤ c ∧ c ≤ 1) ∧ vl o + pw i * c = vl (A.take i) + vl (B.take i)) ∧ s.M.m 0 = .live true 143 (us (o ++ List.replicate (A.length + 1 - i) 0)) ∧
      s.r 5 = .ref 0 1 0 i (A.length + 1) true ∧ s.r 6 = .int .u32 c ∧ s.r 20 = .sl ea (us A) ∧ s.r 21 = .int .i64 A.length ∧ s.r 22 = .int .i64 i ∧ s.r 1 = .sl eb (us B))
    (fun y => y.1 = .exit 0 ∧ ∃ o c, Lm o ∧ o.length = A.length ∧ (0 ≤ c ∧ c ≤ 1) ∧ vl o + pw A.length * c = vl A + vl B ∧ y.2.M.m 0 = .live true 143 (us (o ++ List.replicate 1 0)) ∧
      y.2.r 5 = .ref 0 1 0 A.length (A.length + 1) true ∧ y.2.r 6 = .int .u32 c) ⟨A.length, 0, [], 0, by
      simp -implicitDefEqProofs (maxSteps := 5000000) (disch := omega) only [go_sem, h1, if_pos, if_neg, dec_t, dec_f, IntWalk.i64_in, IntWalk.u32_in, IntWalk.u64_in, beq_no]
      exact ⟨⟨rfl, by omega, lm_nil, by simp [vl]⟩, rfl, rfl⟩⟩ (by
      rintro k ⟨r, ⟨m, nx⟩⟩ ⟨i, o, c, ⟨rfl, hi, ho, hol, hc0, hv⟩, hm0, h5, h6, h20, h21, h22, h1⟩
      dsimp only at h5 h6 h20 h21 h22 h1 hm0
      by_cases hlt : i < A.length
      · have e1 : (i : Int).toNat = i := by omega
        have b1 := lm_getD hA i
        have b2 := lm_getD hB i
        have v1 := vl_take_any A i
        have v2 := vl_take_any B i
        have ap := fun (nx : Nat) (x : Int) (e : TypeId) => apY_one (nx := nx) (x := x) (e := e) (off := 0) (len := i) (cap := A.length + 1) (ex := true) hm0 (by omega) (by rw [List.length_append, List.length_replicate]; omega)
        have st : ∀ x, (o ++ List.replicate (A.length + 1 - i) 0).set i x = (o ++ [x]) ++ List.replicate (A.length + 1 - (i + 1)) 0 := fun x => by
          rw [show A.length + 1 - i = A.length + 1 - (i + 1) + 1 by omega, set_mid hol]
        have key : ∀ x c', x + 1000000000 * c' = A.getD i 0 + c + B.getD i 0 → 0 ≤ x → x < 1000000000 → Lm (o ++ [x]) ∧ (o ++ [x]).length = i + 1 ∧ vl (o ++ [x]) + pw (i + 1) * c' = vl (A.take (i + 1)) + vl (B.take (i + 1)) := fun x c' hx h0 h1 => by
          refine ⟨lm_append.2 ⟨ho, lm_cons.2 ⟨⟨h0, h1⟩, lm_nil⟩⟩, by simp [hol], ?_⟩
          rw [v1, v2, vl_snoc, hol, pw_succ]
          exact plus_step hv hx
        by_cases hb' : i < B.length
        · by_cases hx : 1000000000 ≤ A.getD i 0 + c + B.getD i 0
          · simp -implicitDefEqProofs (maxSteps := 5000000) (disch := omega) only [go_sem, h5, h6, h20, h21, h22, h1, e1, us_get, ap, st, if_pos, if_neg, dec_t, dec_f, IntWalk.i64_in, IntWalk.u32_in, IntWalk.u64_in, beq_no]
            obtain ⟨k1, k2, k3⟩ := key (A.getD i 0 + c + B.getD i 0 - 1000000000) 1 (by omega) (by omega) (by omega)
            exact ⟨_, by omega, i + 1, _, _, ⟨rfl, by omega, k1, k2, by omega, k3⟩, rfl, rfl, rfl, rfl⟩
          · simp -implicitDefEqProofs (maxSteps := 5000000) (disch := omega) only [go_sem, h5, h6, h20, h21, h22, h1, e1, us_get, ap, st, if_pos, if_neg, dec_t, dec_f, IntWalk.i64_in, IntWalk.u32_in, IntWalk.u64_in, beq_no]
            obtain ⟨k1, k2, k3⟩ := key (A.getD i 0 + c + B.getD i 0) 0 (by omega) (by omega) (by omega)
            exact ⟨_, by omega, i + 1, _, _, ⟨rfl, by omega, k1, k2, by omega, k3⟩, rfl, rfl, rfl, rfl⟩
        · have g0 := getD_over (l := B) (i := i) (by omega)
          by_cases hx : 1000000000 ≤ A.getD i 0 + c
          · simp -implicitDefEqProofs (maxSteps := 5000000) (disch := omega) only [go_sem, h5, h6, h20, h21, h22, h1, e1, us_get, ap, st, if_pos, if_neg, dec_t, dec_f, IntWalk.i64_in, IntWalk.u32_in, IntWalk.u64_in, beq_no]
            obtain ⟨k1, k2, k3⟩ := key (A.getD i 0 + c - 1000000000) 1 (by omega) (by omega) (by omega)
            exact ⟨_, by omega, i + 1, _, _, ⟨rfl, by omega, k1, k2, by omega, k3⟩, rfl, rfl, rfl, rfl⟩
          · simp -implicitDefEqProofs (maxSteps := 5000000) (disch := omega) only [go_sem, h5, h6, h20, h21, h22, h1, e1, us_get, ap, st, if_pos, if_neg, dec_t, dec_f, IntWalk.i64_in, IntWalk.u32_in, IntWalk.u64_in, beq_no]
            obtain ⟨k1, k2, k3⟩ := key (A.getD i 0 + c) 0 (by omega) (by omega) (by omega)
            exact ⟨_, by omega, i + 1, _, _, ⟨rfl, by omega, k1, k2, by omega, k3⟩, rfl, rfl, rfl, rfl⟩
      · have : i = A.length := by omega
        subst this
        simp -implicitDefEqProofs (maxSteps := 5000000) (disch := omega) only [go_sem, h21, h22, if_pos, if_neg, dec_t, dec_f, IntWalk.i64_in, IntWalk.u32_in, IntWalk.u64_in, beq_no]
        rw [List.take_length, List.take_of_length_le hl] at hv
        refine ⟨o, c, ho, hol, hc0, hv, ?_, h5, h6⟩
        rw [hm0, show A.length + 1 - A.length = 1 by omega])
  dsimp only at hm0 h5 h6
  have ap := fun (nx : Nat) (x : Int) (e : TypeId) => apY_one (nx := nx) (x := x) (e := e) (off := 0) (len := A.length) (cap := A.length + 1) (ex := true) hm0 (by omega) (by rw [List.length_append, List.length_replicate]; omega)
  have st : ∀ x, (o ++ List.replicate 1 0).set A.length x = (o ++ [x]) ++ List.replicate 0 0 := fun x => by
    rw [show 1 = 0 + 1 by omega, set_mid hol]
  have ol : (o ++ [c]).length = A.length + 1 := by simp [hol]
  simp -implicitDefEqProofs (maxSteps := 5000000) (disch := omega) only [go_sem, h5, h6, ap, st, gd_us, elems_us, ol, List.replicate_zero, if_pos, if_neg, dec_t, dec_f, IntWalk.i64_in, IntWalk.u32_in, IntWalk.u64_in, beq_no]
  rw [List.take_of_length_le (by omega)]
  congr 3
  refine dg_of (lm_append.2 ⟨ho, lm_cons.2 ⟨by omega, lm_nil⟩⟩) (by omega) ?_
  rw [vl_snoc, hol]
  omega
end Go.Pi

set_option linter.unusedVariables false
set_option linter.unusedSimpArgs false
set_option maxHeartbeats 4000000
set_option maxRecDepth 8000
/-
Integers from limbs.
-/
namespace Go.Pi
open Go Go.Proofs Num
/-- An integer's cells. -/
def zI (v : Int) : List PV := [.bool (ng v), .sl false (us (lm v))]
@[go_sem] theorem zI_eq (v : Int) : zI v = [.bool (ng v), .sl false (us (lm v))] := nr rfl
theorem signed_r {b : Bool} {l : List Int} (hl : Lm l) (hn : l.length ≤ 1099511627776) : Rq 118 [.bool b, .sl false (us l)] = some (.agg (zI (if b then -(vl l) else vl l))) := by
  refine RL_of (f := 118) (fn := Tryz.f118) Tryz.func118 rfl rfl rfl (Nat.le_of_ble_eq_true rfl) ?_
  simp -implicitDefEqProofs (maxSteps := 5000000) (disch := omega) only [go_sem, if_pos, if_neg, dec_t, dec_f, IntWalk.i64_in, IntWalk.u32_in, IntWalk.u64_in, beq_no]
  generalize hL : execL _ _ _ _ _ (.loop _) _ = L
  obtain ⟨⟨e, r, ⟨m, nx⟩⟩, rfl, rfl, ⟨i, hi, hv, ht, hm0, h0, h1, h4, h5⟩⟩ := loop_of hL (fun k s => (k ≤ l.length ∧ vl (l.take k) = vl l) ∧ s.M.m 0 = .live true 35 [.bool false, .sl false []] ∧ s.r 0 = .bool b ∧ s.r 1 = .sl false (us l) ∧ s.r 4 = .ptr 0 0 ∧ s.r 5 = .int .i64 k)
    (fun y => y.1 = .exit 0 ∧ ∃ i, i ≤ l.length ∧ vl (l.take i) = vl l ∧ (i = 0 ∨ l.getD (i - 1) 0 ≠ 0) ∧ y.2.M.m 0 = .live true 35 [.bool false, .sl false []] ∧ y.2.r 0 = .bool b ∧ y.2.r 1 = .sl false (us l) ∧ y.2.r 4 = .ptr 0 0 ∧ y.2.r 5 = .int .i64 i) ⟨l.length, by
      simp -implicitDefEqProofs only [go_sem, List.take_length]⟩ (by
      rintro i ⟨r, ⟨m, nx⟩⟩ ⟨⟨hi, hv⟩, hm0, h0, h1, h4, h5⟩
      dsimp only at hm0 h0 h1 h4 h5
      by_cases h : 0 < i
      · have e1 : ((i : Int) - 1).toNat = i - 1 := by omega
        by_cases hz : l.getD (i - 1) 0 = 0
        · simp -implicitDefEqProofs (maxSteps := 5000000) (disch := omega) only [go_sem, hm0, h0, h1, h4, h5, e1, us_get, hz, if_pos, if_neg, dec_t, dec_f, IntWalk.i64_in, IntWalk.u32_in, IntWalk.u64_in, beq_no]
          refine ⟨i - 1, by omega, ⟨by omega, ?_⟩, by congr 1; omega⟩
          rw [← hv]
          have := vl_take_succ l (i - 1) (by omega)
          rw [show i - 1 + 1 = i by omega, hz] at this
          omega
        · simp -implicitDefEqProofs (maxSteps := 5000000) (disch := omega) only [go_sem, hm0, h0, h1, h4, h5, e1, us_get, hz, if_pos, if_neg, dec_t, dec_f, IntWalk.i64_in, IntWalk.u32_in, IntWalk.u64_in, beq_no]
          exact ⟨i, hi, hv, .inr hz, rfl⟩
      · have : i = 0 := by omega
        subst this
        simp -implicitDefEqProofs (maxSteps := 5000000) (disch := omega) only [go_sem, hm0, h0, h1, h4, h5, if_pos, if_neg, dec_t, dec_f, IntWalk.i64_in, IntWalk.u32_in, IntWalk.u64_in, beq_no]
        exact ⟨0, hi, hv, .inl rfl, rfl⟩)
  dsimp only at hm0 h0 h1 h4 h5
  have hT := lm_take_of hl i hi hv ht
  have hn0 := vl_nonneg hl
  have hi0 : 0 < i ↔ 0 < vl l := by
    constructor
    · intro h
      rcases ht with rfl | ht
      · omega
      · have h1 := pw_le_vl (lm_take i hl) (by rw [List.length_take]; omega) (by
          rw [List.length_take, Nat.min_eq_left hi, getD_take (by omega)]; exact ht)
        have h2 := pw_pos ((l.take i).length - 1)
        omega
    · intro h
      by_cases h0 : i = 0
      · subst h0; simp [vl] at hv; omega
      · omega
  cases b with
  | true =>
    by_cases hp : 0 < i
    · simp -implicitDefEqProofs (maxSteps := 5000000) (disch := omega) only [go_sem, hm0, h0, h1, h4, h5, us_take, hT, if_pos, if_neg, dec_t, dec_f, IntWalk.i64_in, IntWalk.u32_in, IntWalk.u64_in, beq_no]
      rw [ng_neg (by omega), lm_neg]
    · simp -implicitDefEqProofs (maxSteps := 5000000) (disch := omega) only [go_sem, hm0, h0, h1, h4, h5, us_take, hT, if_pos, if_neg, dec_t, dec_f, IntWalk.i64_in, IntWalk.u32_in, IntWalk.u64_in, beq_no]
      rw [ng_nn (by omega), lm_neg]
  | false =>
    simp -implicitDefEqProofs (maxSteps := 5000000) (disch := omega) only [go_sem, hm0, h0, h1, h4, h5, us_take, hT, if_pos, if_neg, dec_t, dec_f, IntWalk.i64_in, IntWalk.u32_in, IntWalk.u64_in, beq_no]
    rw [ng_nn (by omega)]
theorem split_r {u : Int} (h0 : 0 ≤ u) (h1 : u < 18446744073709551616) : Rq 151 [.int .u64 u] = some (.sl false (us (dg 3 u))) := by
  refine RL_of (f := 151) (fn := Tryz.f151) Tryz.func151 rfl rfl rfl (Nat.le_of_ble_eq_true rfl) ?_
  simp -implicitDefEqProofs (maxSteps := 5000000) (disch := omega) only [go_sem, Int.tmod_eq_emod_of_nonneg, Int.tdiv_eq_ediv_of_nonneg, if_pos, if_neg, dec_t, dec_f, IntWalk.i64_in, IntWalk.u32_in, IntWalk.u64_in, beq_no]
  simp only [dg, us_cons, us_nil]
  rw [show u / 1000000000 / 1000000000 % 1000000000 = u / 1000000000 / 1000000000 by omega]
end Go.Pi

set_option linter.unusedVariables false
set_option linter.unusedSimpArgs false
set_option maxHeartbeats 4000000
set_option maxRecDepth 8000
/-
Subtracting limbs, limbs by a limb.
-/
namespace Go.Pi
open Go Go.Proofs Num
theorem rep_set {o : List Int} {i n : Nat} {x : Int} (h : o.length = i) (hi : i < n) : (o ++ List.replicate (n - i) 0).set i x = (o ++ [x]) ++ List.replicate (n - (i + 1)) 0 := by
  rw [show n - i = n - (i + 1) + 1 by omega, set_mid h]
theorem minus_r {a b : List Int} (ha : Lm a) (hb : Lm b) (hna : a.length ≤ 1099511627776) (hnb : b.length ≤ 1099511627776) (hle : vl b ≤ vl a) (hlb : b.length ≤ a.length) : Rq 157 [.sl false (us a), .sl false (us b)] = some (.sl false (us (dg a.length (vl a - vl b)))) := by
  refine RL_of (f := 157) (fn := Tryz.f157) Tryz.func157 rfl rfl rfl (Nat.le_of_ble_eq_true rfl) ?_
  have e0 : (a.length : Int).toNat = a.length := by omega
  simp -implicitDefEqProofs (maxSteps := 5000000) (disch := omega) only [go_sem, zeros_one, e0, if_pos, if_neg, dec_t, dec_f, IntWalk.i64_in, IntWalk.u32_in, IntWalk.u64_in, beq_no]
  generalize hL : execL _ _ _ _ _ (.loop _) _ = L
  obtain ⟨⟨e, r, ⟨m, nx⟩⟩, rfl, rfl, ⟨o, c, ho, hol, hc0, hv, hm0, h5⟩⟩ := loop_of hL (fun k s => ∃ i o c, (k = a.length - i ∧ i ≤ a.length ∧ Lm o ∧ o.length = i ∧ (0 ≤ c ∧ c ≤ 1) ∧ vl o - pw i * c = vl (a.take i) - vl (b.take i)) ∧ s.M.m 0 = .live true 143 (us (o ++ List.replicate (a.length - i) 0)) ∧
      s.r 5 = .ref 0 1 0 a.length a.length true ∧ s.r 6 = .int .u32 c ∧ s.r 13 = .sl false (us a) ∧ s.r 14 = .int .i64 a.length ∧ s.r 15 = .int .i64 i ∧ s.r 1 = .sl false (us b))
    (fun y => y.1 = .exit 0 ∧ ∃ o c, Lm o ∧ o.length = a.length ∧ (0 ≤ c ∧ c ≤ 1) ∧ vl o - pw a.length * c = vl a - vl b ∧ y.2.M.m 0 = .live true 143 (us o) ∧
      y.2.r 5 = .ref 0 1 0 a.length a.length true) ⟨a.length, 0, [], 0, by
      simp -implicitDefEqProofs (maxSteps := 5000000) (disch := omega) only [go_sem, Nat.sub_zero, List.nil_append, if_pos, if_neg, dec_t, dec_f, IntWalk.i64_in, IntWalk.u32_in, IntWalk.u64_in, beq_no]
      exact ⟨⟨by omega, lm_nil, by simp [vl]⟩, rfl⟩⟩ (by
      rintro k ⟨r, ⟨m, nx⟩⟩ ⟨i, o, c, ⟨rfl, hi, ho, hol, hc0, hv⟩, hm0, h5, h6, h13, h14, h15, h1⟩
      dsimp only at h5 h6 h13 h14 h15 h1 hm0
      by_cases hlt : i < a.length
      · have e1 : (i : Int).toNat = i := by omega
        have b1 := lm_getD ha i
        have b2 := lm_getD hb i
        have v1 := vl_take_any a i
        have v2 := vl_take_any b i
        have st := fun x : Int => rep_set (x := x) hol hlt
        have ll : (o ++ List.replicate (a.length - i) (0 : Int)).length = a.length := by rw [List.length_append, List.length_replicate]; omega
        have key : ∀ x c', x - 1000000000 * c' = a.getD i 0 - c - b.getD i 0 → 0 ≤ x → x < 1000000000 → Lm (o ++ [x]) ∧ (o ++ [x]).length = i + 1 ∧ vl (o ++ [x]) - pw (i + 1) * c' = vl (a.take (i + 1)) - vl (b.take (i + 1)) := fun x c' hx h0 h1 => by
          refine ⟨lm_append.2 ⟨ho, lm_cons.2 ⟨⟨h0, h1⟩, lm_nil⟩⟩, by simp [hol], ?_⟩
          rw [v1, v2, vl_snoc, hol, pw_succ]
          exact minus_step hv hx
        by_cases hb' : i < b.length
        · by_cases hx : a.getD i 0 < c + b.getD i 0
          · simp -implicitDefEqProofs (maxSteps := 5000000) (disch := omega) only [go_sem, hm0, h5, h6, h13, h14, h15, h1, e1, us_get, us_set, st, ll, if_pos, if_neg, dec_t, dec_f, IntWalk.i64_in, IntWalk.u32_in, IntWalk.u64_in, beq_no]
            obtain ⟨k1, k2, k3⟩ := key (a.getD i 0 + 1000000000 - (c + b.getD i 0)) 1 (by omega) (by omega) (by omega)
            exact ⟨_, by omega, i + 1, _, _, ⟨rfl, by omega, k1, k2, by omega, k3⟩, rfl, rfl, rfl⟩
          · simp -implicitDefEqProofs (maxSteps := 5000000) (disch := omega) only [go_sem, hm0, h5, h6, h13, h14, h15, h1, e1, us_get, us_set, st, ll, if_pos, if_neg, dec_t, dec_f, IntWalk.i64_in, IntWalk.u32_in, IntWalk.u64_in, beq_no]
            obtain ⟨k1, k2, k3⟩ := key (a.getD i 0 - (c + b.getD i 0)) 0 (by omega) (by omega) (by omega)
            exact ⟨_, by omega, i + 1, _, _, ⟨rfl, by omega, k1, k2, by omega, k3⟩, rfl, rfl, rfl⟩
        · have g0 := getD_over (l := b) (i := i) (by omega)
          by_cases hx : a.getD i 0 < c
          · simp -implicitDefEqProofs (maxSteps := 5000000) (disch := omega) only [go_sem, hm0, h5, h6, h13, h14, h15, h1, e1, us_get, us_set, st, ll, if_pos, if_neg, dec_t, dec_f, IntWalk.i64_in, IntWalk.u32_in, IntWalk.u64_in, beq_no]
            obtain ⟨k1, k2, k3⟩ := key (a.getD i 0 + 1000000000 - c) 1 (by omega) (by omega) (by omega)
            exact ⟨_, by omega, i + 1, _, _, ⟨rfl, by omega, k1, k2, by omega, k3⟩, rfl, rfl, rfl⟩
          · simp -implicitDefEqProofs (maxSteps := 5000000) (disch := omega) only [go_sem, hm0, h5, h6, h13, h14, h15, h1, e1, us_get, us_set, st, ll, if_pos, if_neg, dec_t, dec_f, IntWalk.i64_in, IntWalk.u32_in, IntWalk.u64_in, beq_no]
            obtain ⟨k1, k2, k3⟩ := key (a.getD i 0 - c) 0 (by omega) (by omega) (by omega)
            exact ⟨_, by omega, i + 1, _, _, ⟨rfl, by omega, k1, k2, by omega, k3⟩, rfl, rfl, rfl⟩
      · have : i = a.length := by omega
        subst this
        simp -implicitDefEqProofs (maxSteps := 5000000) (disch := omega) only [go_sem, h14, h15, if_pos, if_neg, dec_t, dec_f, IntWalk.i64_in, IntWalk.u32_in, IntWalk.u64_in, beq_no]
        rw [List.take_length, List.take_of_length_le hlb] at hv
        rw [Nat.sub_self, List.replicate_zero, List.append_nil] at hm0
        exact ⟨o, c, ho, hol, hc0, hv, hm0, h5⟩)
  dsimp only at hm0 h5
  simp -implicitDefEqProofs (maxSteps := 5000000) (disch := omega) only [go_sem, hm0, h5, gd_us, elems_us, hol, if_pos, if_neg, dec_t, dec_f, IntWalk.i64_in, IntWalk.u32_in, IntWalk.u64_in, beq_no]
  rw [List.take_of_length_le (by omega)]
  congr 3
  refine dg_of ho hol ?_
  have p1 := vl_lt ho
  have p2 := vl_nonneg ho
  have : c = 0 := by
    have p0 := pw_pos a.length
    rw [hol] at p1
    rcases (show c = 0 ∨ c = 1 by omega) with h | h
    · exact h
    · subst h; omega
  subst this
  omega
theorem byWord_r {a : List Int} {b : Int} (ha : Lm a) (hna : a.length ≤ 1099511627776) (hb0 : 0 < b) (hb1 : b < 1000000000) : Rq 169 [.sl false (us a), .int .u32 b] = some (.tup [.sl false (us (dg a.length (vl a / b))), .sl false (us [vl a % b])]) := by
  refine RL_of (f := 169) (fn := Tryz.f169) Tryz.func169 rfl rfl rfl (Nat.le_of_ble_eq_true rfl) ?_
  have e0 : (a.length : Int).toNat = a.length := by omega
  simp -implicitDefEqProofs (maxSteps := 5000000) (disch := omega) only [go_sem, zeros_one, e0, if_pos, if_neg, dec_t, dec_f, IntWalk.i64_in, IntWalk.u32_in, IntWalk.u64_in, beq_no]
  generalize hL : execL _ _ _ _ _ (.loop _) _ = L
  obtain ⟨⟨e, r, ⟨m, nx⟩⟩, rfl, rfl, ⟨o, c, ho, hol, hc0, hv, hm0, h6, h7⟩⟩ := loop_of hL (fun k s => ∃ o c, (k ≤ a.length ∧ Lm o ∧ o.length = a.length - k ∧ (0 ≤ c ∧ c < b) ∧ vl (a.drop k) = vl o * b + c) ∧ s.M.m 0 = .live true 143 (us (List.replicate k 0 ++ o)) ∧
      s.r 6 = .ref 0 1 0 a.length a.length true ∧ s.r 7 = .int .u64 c ∧ s.r 8 = .int .i64 ((k : Int) - 1) ∧ s.r 0 = .sl false (us a) ∧ s.r 1 = .int .u32 b)
    (fun y => y.1 = .exit 0 ∧ ∃ o c, Lm o ∧ o.length = a.length ∧ (0 ≤ c ∧ c < b) ∧ vl a = vl o * b + c ∧ y.2.M.m 0 = .live true 143 (us o) ∧
      y.2.r 6 = .ref 0 1 0 a.length a.length true ∧ y.2.r 7 = .int .u64 c) ⟨a.length, [], 0, by
      simp -implicitDefEqProofs (maxSteps := 5000000) (disch := omega) only [go_sem, Nat.sub_zero, List.append_nil, if_pos, if_neg, dec_t, dec_f, IntWalk.i64_in, IntWalk.u32_in, IntWalk.u64_in, beq_no]
      exact ⟨lm_nil, by omega, by omega, by simp [vl]⟩⟩ (by
      rintro k ⟨r, ⟨m, nx⟩⟩ ⟨o, c, ⟨hk, ho, hol, hc0, hv⟩, hm0, h6, h7, h8, h0, h1⟩
      dsimp only at h6 h7 h8 h0 h1 hm0
      by_cases hk0 : 0 < k
      · have e1 : ((k : Int) - 1).toNat = k - 1 := by omega
        have b1 := lm_getD ha (k - 1)
        have v1 := vl_drop_succ a (k - 1) (by omega)
        rw [show k - 1 + 1 = k by omega] at v1
        have st : ∀ x : Int, (List.replicate k 0 ++ o).set (k - 1) x = List.replicate (k - 1) 0 ++ (x :: o) := fun x => by
          have h2 : List.replicate k (0 : Int) = List.replicate (k - 1) 0 ++ [0] := by
            rw [← List.replicate_succ', show k - 1 + 1 = k by omega]
          rw [h2, List.append_assoc, List.set_append_right (h := by simp), List.length_replicate, Nat.sub_self]; rfl
        have ll : (List.replicate k (0 : Int) ++ o).length = a.length := by rw [List.length_append, List.length_replicate]; omega
        have t0 : 0 ≤ c * 1000000000 + a.getD (k - 1) 0 := by omega
        have t1 : c * 1000000000 + a.getD (k - 1) 0 < b * 1000000000 := by omega
        have t2 : 0 ≤ (c * 1000000000 + a.getD (k - 1) 0) / b := Int.ediv_nonneg t0 (by omega)
        have t3 : (c * 1000000000 + a.getD (k - 1) 0) / b < 1000000000 := Int.ediv_lt_of_lt_mul hb0 (by omega)
        have t4 : 0 ≤ (c * 1000000000 + a.getD (k - 1) 0) % b := Int.emod_nonneg _ (by omega)
        have t5 : (c * 1000000000 + a.getD (k - 1) 0) % b < b := Int.emod_lt_of_pos _ hb0
        have t6 := Int.mul_ediv_add_emod (c * 1000000000 + a.getD (k - 1) 0) b
        simp -implicitDefEqProofs (maxSteps := 5000000) (disch := omega) only [go_sem, hm0, h6, h7, h8, h0, h1, e1, us_get, us_set, st, ll, Int.tmod_eq_emod_of_nonneg, Int.tdiv_eq_ediv_of_nonneg, if_pos, if_neg, dec_t, dec_f, IntWalk.i64_in, IntWalk.u32_in, IntWalk.u64_in, beq_no]
        refine ⟨k - 1, by omega, _, _, ⟨by omega, lm_cons.2 ⟨⟨t2, t3⟩, ho⟩, by simp only [List.length_cons]; omega, ⟨t4, t5⟩, ?_⟩, rfl, rfl, by congr 1; omega⟩
        rw [v1, hv]
        simp only [vl]
        grind
      · have : k = 0 := by omega
        subst this
        simp -implicitDefEqProofs (maxSteps := 5000000) (disch := omega) only [go_sem, hm0, h6, h7, h8, h0, h1, if_pos, if_neg, dec_t, dec_f, IntWalk.i64_in, IntWalk.u32_in, IntWalk.u64_in, beq_no]
        exact ⟨o, c, ho, by omega, hc0, by rw [← hv, List.drop_zero], by rw [List.replicate_zero, List.nil_append], rfl⟩)
  dsimp only at hm0 h6 h7
  simp -implicitDefEqProofs (maxSteps := 5000000) (disch := omega) only [go_sem, hm0, h6, h7, gd_us, elems_us, hol, if_pos, if_neg, dec_t, dec_f, IntWalk.i64_in, IntWalk.u32_in, IntWalk.u64_in, beq_no]
  rw [List.take_of_length_le (by omega)]
  have d1 : vl a / b = vl o := by
    rw [hv, Int.mul_comm, Int.mul_add_ediv_left _ _ (by omega), Int.ediv_eq_zero_of_lt hc0.1 hc0.2]; omega
  have d2 : vl a % b = c := by
    rw [hv, Int.mul_comm, Int.mul_add_emod_self_left, Int.emod_eq_of_lt hc0.1 hc0.2]
  rw [d1, d2, ← dg_of ho hol rfl, us_cons, us_nil]
theorem word_0 : Rq 152 [.agg (zI 0)] = some (.tup [.int .u64 0, .bool true]) := by
  refine RL_of (f := 152) (fn := Tryz.f152) Tryz.func152 rfl rfl rfl (Nat.le_of_ble_eq_true rfl) ?_
  simp -implicitDefEqProofs (maxSteps := 5000000) (disch := omega) only [go_sem, lm_zero, if_pos, if_neg, dec_t, dec_f, IntWalk.i64_in, IntWalk.u32_in, IntWalk.u64_in, beq_no]
/-- An integer of at most two limbs. -/
theorem word_r {v : Int} (h : ll v ≤ 2) : Rq 152 [.agg (zI v)] = some (.tup [.int .u64 v.natAbs, .bool true]) := by
  refine RL_of (f := 152) (fn := Tryz.f152) Tryz.func152 rfl rfl rfl (Nat.le_of_ble_eq_true rfl) ?_
  have hl := length_lm v
  have hv := vl_lm v
  have hm := lm_lm v
  simp only [zI_eq]
  generalize lm v = l at hl hv hm
  rcases l with _ | ⟨x, _ | ⟨y, _ | ⟨z, l⟩⟩⟩
  · simp only [vl] at hv
    simp -implicitDefEqProofs (maxSteps := 5000000) (disch := omega) only [go_sem, ← hv, if_pos, if_neg, dec_t, dec_f, IntWalk.i64_in, IntWalk.u32_in, IntWalk.u64_in, beq_no]
  · simp only [vl] at hv
    rw [lm_cons] at hm
    simp -implicitDefEqProofs (maxSteps := 5000000) (disch := omega) only [go_sem, us_cons, us_nil, ← hv, if_pos, if_neg, dec_t, dec_f, IntWalk.i64_in, IntWalk.u32_in, IntWalk.u64_in, beq_no]
    exact congrArg (fun z => some (PV.tup [.int .u64 z, .bool true])) (by omega)
  · simp only [vl] at hv
    rw [lm_cons, lm_cons] at hm
    simp -implicitDefEqProofs (maxSteps := 5000000) (disch := omega) only [go_sem, us_cons, us_nil, ← hv, if_pos, if_neg, dec_t, dec_f, IntWalk.i64_in, IntWalk.u32_in, IntWalk.u64_in, beq_no]
    exact congrArg (fun z => some (PV.tup [.int .u64 z, .bool true])) (by omega)
  · simp at hl; omega
theorem word_n {v : Int} (h : ¬ ll v ≤ 2) (hn : ll v ≤ 1099511627776) : Rq 152 [.agg (zI v)] = some (.tup [.int .u64 0, .bool false]) := by
  refine RL_of (f := 152) (fn := Tryz.f152) Tryz.func152 rfl rfl rfl (Nat.le_of_ble_eq_true rfl) ?_
  have hl := length_lm v
  simp -implicitDefEqProofs (maxSteps := 5000000) (disch := omega) only [go_sem, hl, if_pos, if_neg, dec_t, dec_f, IntWalk.i64_in, IntWalk.u32_in, IntWalk.u64_in, beq_no]
end Go.Pi

set_option linter.unusedVariables false
set_option linter.unusedSimpArgs false
set_option maxHeartbeats 4000000
set_option maxRecDepth 8000
/-
Multiplying limbs.
-/
namespace Go.Pi
open Go Go.Proofs Num
theorem times_c {a b : List Int} (ha : Lm a) (hb : Lm b) (hn : a.length + b.length ≤ 1099511627776) (ea eb : Bool) (m0 : Nat → Blk) (n0 : Nat) :
    ∃ m, Cq 119 [.sl ea (us a), .sl eb (us b)] ⟨m0, n0⟩ = some (.ref n0 1 0 (a.length + b.length) (a.length + b.length) true, ⟨m, n0 + 1⟩) ∧ m n0 = .live true 143 (us (dg (a.length + b.length) (vl a * vl b))) ∧ ∀ j, j ≠ n0 → m j = m0 j := by
  suffices h : ∃ m, fin Pq _ (execL Pq Xq sq cq 119 _ ⟨ini 0 [.sl ea (us a), .sl eb (us b)], ⟨m0, n0⟩⟩) = some (.ref n0 1 0 (a.length + b.length) (a.length + b.length) true, ⟨m, n0 + 1⟩) ∧ m n0 = .live true 143 (us (dg (a.length + b.length) (vl a * vl b))) ∧ ∀ j, j ≠ n0 → m j = m0 j from
    h.imp fun _ h => ⟨CL_of (f := 119) (fn := Tryz.f119) Tryz.func119 rfl rfl rfl (Nat.le_of_ble_eq_true rfl) h.1, h.2⟩
  have e0 : ((a.length : Int) + b.length).toNat = a.length + b.length := by omega
  simp -implicitDefEqProofs (maxSteps := 5000000) (disch := omega) only [go_sem, zeros_one, e0, if_pos, if_neg, dec_t, dec_f, IntWalk.i64_in, IntWalk.u32_in, IntWalk.u64_in, beq_no]
  generalize hL : execL _ _ _ _ _ (.loop _) _ = L
  obtain ⟨⟨e, r, ⟨m, nx⟩⟩, rfl, rfl, rfl, hmj, ⟨o, ho, hol, hv, hm0, h5⟩⟩ := loop_of hL (fun k s => s.M.nx = n0 + 1 ∧ (∀ j, j ≠ n0 → s.M.m j = m0 j) ∧ ∃ i o, (k = a.length - i ∧ i ≤ a.length ∧ Lm o ∧ o.length = a.length + b.length ∧ vl o = vl (a.take i) * vl b ∧ ∀ j, i + b.length ≤ j → o.getD j 0 = 0) ∧ s.M.m n0 = .live true 143 (us o) ∧
      s.r 5 = .ref n0 1 0 (a.length + b.length) (a.length + b.length) true ∧ s.r 18 = .sl ea (us a) ∧ s.r 19 = .int .i64 a.length ∧ s.r 20 = .int .i64 i ∧ s.r 1 = .sl eb (us b))
    (fun y => y.1 = .exit 0 ∧ y.2.M.nx = n0 + 1 ∧ (∀ j, j ≠ n0 → y.2.M.m j = m0 j) ∧ ∃ o, Lm o ∧ o.length = a.length + b.length ∧ vl o = vl a * vl b ∧ y.2.M.m n0 = .live true 143 (us o) ∧
      y.2.r 5 = .ref n0 1 0 (a.length + b.length) (a.length + b.length) true) ⟨a.length, by
      simp -implicitDefEqProofs (maxSteps := 5000000) (disch := omega) only [go_sem, if_pos, if_neg, dec_t, dec_f, IntWalk.i64_in, IntWalk.u32_in, IntWalk.u64_in, beq_no]
      refine ⟨fun j hj => by rw [beq_no hj]; rfl, 0, List.replicate (a.length + b.length) 0, ⟨rfl, by omega, lm_rep _, by simp, by rw [vl_rep]; simp [vl], fun j _ => ?_⟩, rfl, rfl⟩
      rw [List.getD_eq_getElem?_getD, List.getElem?_replicate]; split <;> rfl⟩ (by
      rintro k ⟨r, ⟨m, nx⟩⟩ ⟨rfl, hmj, i, o, ⟨rfl, hi, ho, hol, hv, hz⟩, hm0, h5, h18, h19, h20, h1⟩
      dsimp only at hmj hm0 h5 h18 h19 h20 h1
      by_cases hlt : i < a.length
      · have e1 : (i : Int).toNat = i := by omega
        have b1 := lm_getD ha i
        simp -implicitDefEqProofs (maxSteps := 5000000) (disch := omega) only [go_sem, h5, h18, h19, h20, h1, e1, us_get, if_pos, if_neg, dec_t, dec_f, IntWalk.i64_in, IntWalk.u32_in, IntWalk.u64_in, beq_no]
        generalize hL2 : execL _ _ _ _ _ (.loop _) _ = L2
        obtain ⟨⟨e, r2, ⟨m2, nx2⟩⟩, rfl, rfl, rfl, hmj2, ⟨o2, c, ho2, hol2, hc0, hv2, hz2, hm2, g5, g8, g18, g19, g20, g1, g6⟩⟩ := loop_of hL2 (fun k2 s => s.M.nx = n0 + 1 ∧ (∀ j, j ≠ n0 → s.M.m j = m0 j) ∧ ∃ q o c, (k2 = b.length - q ∧ q ≤ b.length ∧ Lm o ∧ o.length = a.length + b.length ∧ (0 ≤ c ∧ c < 1000000000) ∧ vl o + pw (i + q) * c = vl (a.take i) * vl b + pw i * (a.getD i 0 * vl (b.take q)) ∧ ∀ j, i + b.length ≤ j → o.getD j 0 = 0) ∧ s.M.m n0 = .live true 143 (us o) ∧
          s.r 5 = .ref n0 1 0 (a.length + b.length) (a.length + b.length) true ∧ s.r 8 = .int .u64 c ∧ s.r 18 = .sl ea (us a) ∧ s.r 19 = .int .i64 a.length ∧ s.r 20 = .int .i64 i ∧ s.r 1 = .sl eb (us b) ∧ s.r 6 = .int .i64 i ∧ s.r 7 = .int .u32 (a.getD i 0) ∧ s.r 25 = .sl eb (us b) ∧ s.r 26 = .int .i64 b.length ∧ s.r 27 = .int .i64 q)
          (fun y => y.1 = .exit 2 ∧ y.2.M.nx = n0 + 1 ∧ (∀ j, j ≠ n0 → y.2.M.m j = m0 j) ∧ ∃ o c, Lm o ∧ o.length = a.length + b.length ∧ (0 ≤ c ∧ c < 1000000000) ∧ vl o + pw (i + b.length) * c = vl (a.take i) * vl b + pw i * (a.getD i 0 * vl b) ∧ (∀ j, i + b.length ≤ j → o.getD j 0 = 0) ∧ y.2.M.m n0 = .live true 143 (us o) ∧
          y.2.r 5 = .ref n0 1 0 (a.length + b.length) (a.length + b.length) true ∧ y.2.r 8 = .int .u64 c ∧ y.2.r 18 = .sl ea (us a) ∧ y.2.r 19 = .int .i64 a.length ∧ y.2.r 20 = .int .i64 i ∧ y.2.r 1 = .sl eb (us b) ∧ y.2.r 6 = .int .i64 i) ⟨b.length, by
          simp -implicitDefEqProofs (maxSteps := 5000000) (disch := omega) only [go_sem, hm0, h5, h18, h19, h20, h1, if_pos, if_neg, dec_t, dec_f, IntWalk.i64_in, IntWalk.u32_in, IntWalk.u64_in, beq_no]
          exact ⟨hmj, 0, o, 0, ⟨by omega, by omega, ho, hol, by omega, by simp [vl, hv], hz⟩, rfl, rfl, rfl⟩⟩ (by
          rintro k ⟨r, ⟨m, nx⟩⟩ ⟨rfl, hmj, q, o, c, ⟨rfl, hq, ho, hol, hc, hv, hz⟩, hm0, h5, h8, h18, h19, h20, h1, h6, h7, h25, h26, h27⟩
          dsimp only at hmj hm0 h5 h8 h18 h19 h20 h1 h6 h7 h25 h26 h27
          by_cases hq2 : q < b.length
          · have e2 : (q : Int).toNat = q := by omega
            have e3 : ((i : Int) + q).toNat = i + q := by omega
            have b2 := lm_getD hb q
            have b3 := lm_getD ho (i + q)
            have b4 := mul_le b1.1 b1.2 b2.1 b2.2
            have v2 := vl_take_any b q
            have st := vl_set o (i + q)
            have t1 : 0 ≤ o.getD (i + q) 0 + a.getD i 0 * b.getD q 0 + c := by omega
            simp -implicitDefEqProofs (maxSteps := 5000000) (disch := omega) only [go_sem, hm0, h5, h8, h18, h19, h20, h1, h6, h7, h25, h26, h27, e2, e3, us_get, us_set, hol, Int.tmod_eq_emod_of_nonneg, Int.tdiv_eq_ediv_of_nonneg, if_pos, if_neg, dec_t, dec_f, IntWalk.i64_in, IntWalk.u32_in, IntWalk.u64_in, beq_no]
            generalize hq' : (o.getD (i + q) 0 + a.getD i 0 * b.getD q 0 + c) / 1000000000 = q'
            generalize hr' : (o.getD (i + q) 0 + a.getD i 0 * b.getD q 0 + c) % 1000000000 = r'
            refine ⟨_, by omega, fun j hj => by rw [beq_no hj]; exact hmj j hj, q + 1, _, q', ⟨rfl, by omega, lm_set ho (i + q) (v := r') (by omega), by rw [List.length_set]; exact hol, by omega, ?_, fun j hj => by rw [getD_setn (by omega)]; exact hz j hj⟩, rfl, rfl, rfl⟩
            rw [st _ (by omega), v2, ← Nat.add_assoc, pw_succ]
            have := times_step (q := q') (r := r') (x := a.getD i 0) (y := b.getD q 0) (ou := o.getD (i + q) 0) hv (by omega)
            rw [this, pw_add]
            grind
          · have : q = b.length := by omega
            subst this
            simp -implicitDefEqProofs (maxSteps := 5000000) (disch := omega) only [go_sem, hm0, h5, h8, h18, h19, h20, h1, h6, h7, h25, h26, h27, if_pos, if_neg, dec_t, dec_f, IntWalk.i64_in, IntWalk.u32_in, IntWalk.u64_in, beq_no]
            exact ⟨hmj, o, c, ho, hol, hc, by rw [hv, List.take_length], hz, rfl, rfl⟩)
        dsimp only at hmj2 hm2 g5 g8 g18 g19 g20 g1 g6
        have e4 : ((i : Int) + b.length).toNat = i + b.length := by omega
        simp -implicitDefEqProofs (maxSteps := 5000000) (disch := omega) only [go_sem, hm2, g5, g8, g18, g19, g20, g1, g6, e4, hol2, if_pos, if_neg, dec_t, dec_f, IntWalk.i64_in, IntWalk.u32_in, IntWalk.u64_in, beq_no]
        refine ⟨_, by omega, fun j hj => by rw [beq_no hj]; exact hmj2 j hj, i + 1, _, ⟨rfl, by omega, lm_set ho2 (i + b.length) (v := c) (by omega), by rw [List.length_set]; exact hol2, ?_, fun j hj => by rw [getD_setn (by omega)]; exact hz2 j (by omega)⟩, rfl, rfl⟩
        rw [vl_set o2 (i + b.length) c (by omega), hz2 _ (Nat.le_refl _), Int.sub_zero, hv2, vl_take_any a i]
        grind
      · have : i = a.length := by omega
        subst this
        simp -implicitDefEqProofs (maxSteps := 5000000) (disch := omega) only [go_sem, hm0, h5, h18, h19, h20, if_pos, if_neg, dec_t, dec_f, IntWalk.i64_in, IntWalk.u32_in, IntWalk.u64_in, beq_no]
        rw [List.take_length] at hv
        exact ⟨hmj, o, ho, hol, hv, rfl⟩)
  dsimp only at hmj hm0 h5
  refine ⟨m, ?_, ?_, hmj⟩
  · simp -implicitDefEqProofs (maxSteps := 5000000) (disch := omega) only [go_sem, hm0, h5, if_pos, if_neg, dec_t, dec_f, IntWalk.i64_in, IntWalk.u32_in, IntWalk.u64_in, beq_no]
  · rw [hm0, dg_of ho hol hv]
theorem times_r {a b : List Int} (ha : Lm a) (hb : Lm b) (hn : a.length + b.length ≤ 1099511627776) : Rq 119 [.sl false (us a), .sl false (us b)] = some (.sl false (us (dg (a.length + b.length) (vl a * vl b)))) := by
  obtain ⟨m, h1, h2, h3⟩ := times_c ha hb hn false false (fun _ => .dead) 0
  refine RL_CL h1 ?_
  simp -implicitDefEqProofs (maxSteps := 5000000) (disch := omega) only [go_sem, h2, gd_us, elems_us, dg_length, if_pos, if_neg, dec_t, dec_f, IntWalk.i64_in, IntWalk.u32_in, IntWalk.u64_in, beq_no]
  rw [List.take_of_length_le (by rw [dg_length]; omega)]
end Go.Pi

set_option linter.unusedVariables false
set_option linter.unusedSimpArgs false
set_option maxHeartbeats 4000000
set_option maxRecDepth 8000
/-
What the functions on integers answer: signs, sums, products.
-/
namespace Go.Pi
open Go Go.Proofs Num
theorem vl_lm' (v : Int) : vl (lm v) = if v < 0 then -v else v := by rw [vl_lm]; split <;> omega
theorem sign_r (v : Int) (h : ll v ≤ 1000000000) : Rq 116 [.agg (zI v)] = some (.int .i64 v.sign) := by
  refine RL_of (f := 116) (fn := Tryz.f116) Tryz.func116 rfl rfl rfl (Nat.le_of_ble_eq_true rfl) ?_
  have hl := length_lm v
  rcases Int.lt_trichotomy v 0 with h0 | h0 | h0
  · simp -implicitDefEqProofs (maxSteps := 5000000) (disch := omega) only [go_sem, ng_neg h0, if_pos, if_neg, dec_t, dec_f, IntWalk.i64_in, IntWalk.u32_in, IntWalk.u64_in, beq_no]
    rw [Int.sign_eq_neg_one_of_neg h0]
  · subst h0
    simp -implicitDefEqProofs (maxSteps := 5000000) (disch := omega) only [go_sem, ng_nn (Int.le_refl 0), lm_zero, if_pos, if_neg, dec_t, dec_f, IntWalk.i64_in, IntWalk.u32_in, IntWalk.u64_in, beq_no]
    rfl
  · have : 0 < (lm v).length := List.length_pos_iff.2 (by rw [Ne, lm_eq_nil]; omega)
    simp -implicitDefEqProofs (maxSteps := 5000000) (disch := omega) only [go_sem, ng_nn (Int.le_of_lt h0), if_pos, if_neg, dec_t, dec_f, IntWalk.i64_in, IntWalk.u32_in, IntWalk.u64_in, beq_no]
    rw [Int.sign_eq_one_of_pos h0]
theorem fromInt64_r {n : Int} (h0 : -9223372036854775808 ≤ n) (h1 : n ≤ 9223372036854775807) : Rq 121 [.int .i64 n] = some (.agg (zI n)) := by
  refine RL_of (f := 121) (fn := Tryz.f121) Tryz.func121 rfl rfl rfl (Nat.le_of_ble_eq_true rfl) ?_
  by_cases h : n < 0
  · have w1 : IntKind.u64.wrap n = n + 18446744073709551616 := by rw [wr_u64]; omega
    have w2 : IntKind.u64.wrap (-(n + 18446744073709551616)) = -n := by rw [wr_u64]; omega
    have s1 := split_r (u := -n) (by omega) (by omega)
    have s2 := signed_r (b := true) (dg_lm 3 (-n)) (by rw [dg_length]; omega)
    rw [vl_dg 3 (-n) (by omega) (by simp [pw]; omega), if_pos rfl, Int.neg_neg] at s2
    simp -implicitDefEqProofs (maxSteps := 5000000) (disch := omega) only [go_sem, w1, w2, s1, s2, if_pos, if_neg, dec_t, dec_f, IntWalk.i64_in, IntWalk.u32_in, IntWalk.u64_in, beq_no]
  · have s1 := split_r (u := n) (by omega) (by omega)
    have s2 := signed_r (b := false) (dg_lm 3 n) (by rw [dg_length]; omega)
    rw [vl_dg 3 n (by omega) (by simp [pw]; omega), if_neg (by simp)] at s2
    simp -implicitDefEqProofs (maxSteps := 5000000) (disch := omega) only [go_sem, s1, s2, if_pos, if_neg, dec_t, dec_f, IntWalk.i64_in, IntWalk.u32_in, IntWalk.u64_in, beq_no]
theorem cmp_r {a b : Int} (ha : ll a ≤ 1000000000) (hb : ll b ≤ 1000000000) : Rq 79 [.agg (zI a), .agg (zI b)] = some (.int .i64 (a - b).sign) := by
  refine RL_of (f := 79) (fn := Tryz.f79) Tryz.func79 rfl rfl rfl (Nat.le_of_ble_eq_true rfl) ?_
  have la := length_lm a
  have lb := length_lm b
  have c1 := compare_r (lm_lm a) (lm_lm b) (by omega) (by omega)
  have c2 := compare_r (lm_lm b) (lm_lm a) (by omega) (by omega)
  rw [vl_lm', vl_lm'] at c1 c2
  by_cases h1 : a < 0
  · by_cases h2 : b < 0
    · rw [if_pos h1, if_pos h2] at c2
      simp -implicitDefEqProofs (maxSteps := 5000000) (disch := omega) only [go_sem, ng_neg h1, ng_neg h2, c2, if_pos, if_neg, dec_t, dec_f, IntWalk.i64_in, IntWalk.u32_in, IntWalk.u64_in, beq_no]
      congr 3; omega
    · simp -implicitDefEqProofs (maxSteps := 5000000) (disch := omega) only [go_sem, ng_neg h1, ng_nn (Int.not_lt.1 h2), if_pos, if_neg, dec_t, dec_f, IntWalk.i64_in, IntWalk.u32_in, IntWalk.u64_in, beq_no]
      rw [Int.sign_eq_neg_one_of_neg (by omega)]
  · by_cases h2 : b < 0
    · simp -implicitDefEqProofs (maxSteps := 5000000) (disch := omega) only [go_sem, ng_neg h2, ng_nn (Int.not_lt.1 h1), if_pos, if_neg, dec_t, dec_f, IntWalk.i64_in, IntWalk.u32_in, IntWalk.u64_in, beq_no]
      rw [Int.sign_eq_one_of_pos (by omega)]
    · rw [if_neg h1, if_neg h2] at c1
      simp -implicitDefEqProofs (maxSteps := 5000000) (disch := omega) only [go_sem, ng_nn (Int.not_lt.1 h1), ng_nn (Int.not_lt.1 h2), c1, if_pos, if_neg, dec_t, dec_f, IntWalk.i64_in, IntWalk.u32_in, IntWalk.u64_in, beq_no]
theorem mul_r {a b : Int} (ha : ll a ≤ 1000000000) (hb : ll b ≤ 1000000000) : Rq 80 [.agg (zI a), .agg (zI b)] = some (.agg (zI (a * b))) := by
  refine RL_of (f := 80) (fn := Tryz.f80) Tryz.func80 rfl rfl rfl (Nat.le_of_ble_eq_true rfl) ?_
  have la := length_lm a
  have lb := length_lm b
  have t := times_r (lm_lm a) (lm_lm b) (by omega)
  have s := fun bb : Bool => signed_r (b := bb) (dg_lm ((lm a).length + (lm b).length) (vl (lm a) * vl (lm b))) (by rw [dg_length]; omega)
  have p := Int.mul_nonneg (vl_nonneg (lm_lm a)) (vl_nonneg (lm_lm b))
  have q : vl (lm a) * vl (lm b) < pw ((lm a).length + (lm b).length) := by
    rw [pw_add]
    have h1 := vl_lt (lm_lm a)
    have h2 := vl_lt (lm_lm b)
    have h3 := vl_nonneg (lm_lm b)
    have h4 := pw_pos (lm a).length
    have h5 := Int.mul_le_mul_of_nonneg_right (Int.le_of_lt h1) h3
    have h6 := Int.mul_lt_mul_of_pos_left h2 h4
    omega
  rw [vl_dg _ _ p q, vl_lm', vl_lm'] at s
  rw [vl_lm', vl_lm'] at t
  have s1 := s true
  have s0 := s false
  by_cases h1 : a < 0
  · by_cases h2 : b < 0
    · simp only [h1, h2, if_true, Bool.false_eq_true, if_false, Int.neg_mul_neg] at s0 t
      simp -implicitDefEqProofs (maxSteps := 5000000) (disch := omega) only [go_sem, ng_neg h1, ng_neg h2, t, s0, if_pos, if_neg, dec_t, dec_f, IntWalk.i64_in, IntWalk.u32_in, IntWalk.u64_in, beq_no]
    · simp only [h1, h2, if_true, if_false, Int.neg_mul, Int.neg_neg] at s1 t
      simp -implicitDefEqProofs (maxSteps := 5000000) (disch := omega) only [go_sem, ng_neg h1, ng_nn (Int.not_lt.1 h2), t, s1, if_pos, if_neg, dec_t, dec_f, IntWalk.i64_in, IntWalk.u32_in, IntWalk.u64_in, beq_no]
  · by_cases h2 : b < 0
    · simp only [h1, h2, if_true, if_false, Int.mul_neg, Int.neg_neg] at s1 t
      simp -implicitDefEqProofs (maxSteps := 5000000) (disch := omega) only [go_sem, ng_neg h2, ng_nn (Int.not_lt.1 h1), t, s1, if_pos, if_neg, dec_t, dec_f, IntWalk.i64_in, IntWalk.u32_in, IntWalk.u64_in, beq_no]
    · simp only [h1, h2, Bool.false_eq_true, if_false] at s0 t
      simp -implicitDefEqProofs (maxSteps := 5000000) (disch := omega) only [go_sem, ng_nn (Int.not_lt.1 h1), ng_nn (Int.not_lt.1 h2), t, s0, if_pos, if_neg, dec_t, dec_f, IntWalk.i64_in, IntWalk.u32_in, IntWalk.u64_in, beq_no]
theorem add_r {a b : Int} (ha : ll a ≤ 1000000000) (hb : ll b ≤ 1000000000) : Rq 128 [.agg (zI a), .agg (zI b)] = some (.agg (zI (a + b))) := by
  refine RL_of (f := 128) (fn := Tryz.f128) Tryz.func128 rfl rfl rfl (Nat.le_of_ble_eq_true rfl) ?_
  have la := length_lm a
  have lb := length_lm b
  have pl := plus_r (lm_lm a) (lm_lm b) (by omega) (by omega)
  have co := compare_r (lm_lm a) (lm_lm b) (by omega) (by omega)
  have na := vl_nonneg (lm_lm a)
  have nb := vl_nonneg (lm_lm b)
  have ua := vl_lt (lm_lm a)
  have ub := vl_lt (lm_lm b)
  have mx : vl (lm a) + vl (lm b) < pw (max (lm a).length (lm b).length + 1) := by
    have h1 := pw_mono (Nat.le_max_left (lm a).length (lm b).length)
    have h2 := pw_mono (Nat.le_max_right (lm a).length (lm b).length)
    rw [pw_succ]; omega
  have sp := fun bb : Bool => signed_r (b := bb) (dg_lm (max (lm a).length (lm b).length + 1) (vl (lm a) + vl (lm b))) (by rw [dg_length]; omega)
  rw [vl_dg _ _ (by omega) mx] at sp
  have lenle : ∀ x y : Int, vl (lm x) ≤ vl (lm y) → (lm x).length ≤ (lm y).length := fun x y h => by
    by_cases h' : (lm y).length < (lm x).length
    · have := vl_lt_len h'; omega
    · omega
  have sm : ∀ (x y : Int) (bb : Bool), (lm x).length ≤ 1000000000 → vl (lm y) ≤ vl (lm x) → Rq 118 [.bool bb, .sl false (us (dg (lm x).length (vl (lm x) - vl (lm y))))] = some (.agg (zI (if bb then -(vl (lm x) - vl (lm y)) else vl (lm x) - vl (lm y)))) := fun x y bb hx h => by
    have ny := vl_nonneg (lm_lm y)
    have ux := vl_lt (lm_lm x)
    have := signed_r (b := bb) (dg_lm (lm x).length (vl (lm x) - vl (lm y))) (by rw [dg_length]; omega)
    rwa [vl_dg _ _ (by omega) (by omega)] at this
  have mi : ∀ x y : Int, (lm x).length ≤ 1000000000 → vl (lm y) ≤ vl (lm x) → Rq 157 [.sl false (us (lm x)), .sl false (us (lm y))] = some (.sl false (us (dg (lm x).length (vl (lm x) - vl (lm y))))) := fun x y hx h =>
    minus_r (lm_lm x) (lm_lm y) (by omega) (by have := lenle y x h; omega) h (lenle y x h)
  have sp1 := sp true
  have sp0 := sp false
  have va := vl_lm' a
  have vb := vl_lm' b
  simp only [if_true, Bool.false_eq_true, if_false] at sp1 sp0
  by_cases h1 : a < 0
  · by_cases h2 : b < 0
    · rw [show -(vl (lm a) + vl (lm b)) = a + b by rw [va, vb, if_pos h1, if_pos h2]; omega] at sp1
      simp -implicitDefEqProofs (maxSteps := 5000000) (disch := omega) only [go_sem, ng_neg h1, ng_neg h2, pl, sp1, if_pos, if_neg, dec_t, dec_f, IntWalk.i64_in, IntWalk.u32_in, IntWalk.u64_in, beq_no]
    · rw [if_pos h1] at va
      rw [if_neg h2] at vb
      by_cases hc : vl (lm a) < vl (lm b)
      · have s := sm b a false (by omega) (by omega)
        have m := mi b a (by omega) (by omega)
        rw [if_neg (by simp), show vl (lm b) - vl (lm a) = a + b by omega] at s
        rw [show vl (lm b) - vl (lm a) = a + b by omega] at m
        rw [Int.sign_eq_neg_one_of_neg (by omega)] at co
        simp -implicitDefEqProofs (maxSteps := 5000000) (disch := omega) only [go_sem, ng_neg h1, ng_nn (Int.not_lt.1 h2), co, s, m, if_pos, if_neg, dec_t, dec_f, IntWalk.i64_in, IntWalk.u32_in, IntWalk.u64_in, beq_no]
      · have s := sm a b true (by omega) (by omega)
        have m := mi a b (by omega) (by omega)
        have sg : ¬ (vl (lm a) - vl (lm b)).sign < 0 := by
          have := Int.sign_nonneg_iff.2 (show 0 ≤ vl (lm a) - vl (lm b) by omega); omega
        rw [if_pos rfl, show -(vl (lm a) - vl (lm b)) = a + b by omega] at s
        simp -implicitDefEqProofs (maxSteps := 5000000) (disch := omega) only [go_sem, ng_neg h1, ng_nn (Int.not_lt.1 h2), co, sg, s, m, if_pos, if_neg, dec_t, dec_f, IntWalk.i64_in, IntWalk.u32_in, IntWalk.u64_in, beq_no]
  · by_cases h2 : b < 0
    · rw [if_neg h1] at va
      rw [if_pos h2] at vb
      by_cases hc : vl (lm a) < vl (lm b)
      · have s := sm b a true (by omega) (by omega)
        have m := mi b a (by omega) (by omega)
        rw [if_pos rfl, show -(vl (lm b) - vl (lm a)) = a + b by omega] at s
        rw [Int.sign_eq_neg_one_of_neg (by omega)] at co
        simp -implicitDefEqProofs (maxSteps := 5000000) (disch := omega) only [go_sem, ng_neg h2, ng_nn (Int.not_lt.1 h1), co, s, m, if_pos, if_neg, dec_t, dec_f, IntWalk.i64_in, IntWalk.u32_in, IntWalk.u64_in, beq_no]
      · have s := sm a b false (by omega) (by omega)
        have m := mi a b (by omega) (by omega)
        have sg : ¬ (vl (lm a) - vl (lm b)).sign < 0 := by
          have := Int.sign_nonneg_iff.2 (show 0 ≤ vl (lm a) - vl (lm b) by omega); omega
        rw [if_neg (by simp), show vl (lm a) - vl (lm b) = a + b by omega] at s
        rw [show vl (lm a) - vl (lm b) = a + b by omega] at m
        simp -implicitDefEqProofs (maxSteps := 5000000) (disch := omega) only [go_sem, ng_neg h2, ng_nn (Int.not_lt.1 h1), co, sg, s, m, if_pos, if_neg, dec_t, dec_f, IntWalk.i64_in, IntWalk.u32_in, IntWalk.u64_in, beq_no]
    · rw [show vl (lm a) + vl (lm b) = a + b by rw [va, vb, if_neg h1, if_neg h2]] at sp0 pl
      simp -implicitDefEqProofs (maxSteps := 5000000) (disch := omega) only [go_sem, ng_nn (Int.not_lt.1 h1), ng_nn (Int.not_lt.1 h2), pl, sp0, if_pos, if_neg, dec_t, dec_f, IntWalk.i64_in, IntWalk.u32_in, IntWalk.u64_in, beq_no]
theorem neg_r {a : Int} (ha : ll a ≤ 1000000000) : Rq 122 [.agg (zI a)] = some (.agg (zI (-a))) := by
  refine RL_of (f := 122) (fn := Tryz.f122) Tryz.func122 rfl rfl rfl (Nat.le_of_ble_eq_true rfl) ?_
  have la := length_lm a
  have va := vl_lm' a
  have sp := fun bb : Bool => signed_r (b := bb) (lm_lm a) (by omega)
  rw [va] at sp
  have s1 := sp true
  have s0 := sp false
  simp only [if_true, Bool.false_eq_true, if_false] at s1 s0
  by_cases h1 : a < 0
  · rw [if_pos h1] at s0
    simp -implicitDefEqProofs (maxSteps := 5000000) (disch := omega) only [go_sem, ng_neg h1, s0, if_pos, if_neg, dec_t, dec_f, IntWalk.i64_in, IntWalk.u32_in, IntWalk.u64_in, beq_no]
  · rw [if_neg h1] at s1
    simp -implicitDefEqProofs (maxSteps := 5000000) (disch := omega) only [go_sem, ng_nn (Int.not_lt.1 h1), s1, if_pos, if_neg, dec_t, dec_f, IntWalk.i64_in, IntWalk.u32_in, IntWalk.u64_in, beq_no]
theorem sub_r {a b : Int} (ha : ll a ≤ 1000000000) (hb : ll b ≤ 1000000000) : Rq 172 [.agg (zI a), .agg (zI b)] = some (.agg (zI (a - b))) := by
  refine RL_of (f := 172) (fn := Tryz.f172) Tryz.func172 rfl rfl rfl (Nat.le_of_ble_eq_true rfl) ?_
  have lb := length_lm b
  have ad := add_r (a := a) (b := -b) ha (by rw [ll_neg]; exact hb)
  rw [← Int.sub_eq_add_neg] at ad
  simp only [zI_eq, lm_neg] at ad
  rcases Int.lt_trichotomy b 0 with h0 | h0 | h0
  · rw [ng_nn (v := -b) (by omega)] at ad
    simp -implicitDefEqProofs (maxSteps := 5000000) (disch := omega) only [go_sem, ng_neg h0, ad, if_pos, if_neg, dec_t, dec_f, IntWalk.i64_in, IntWalk.u32_in, IntWalk.u64_in, beq_no]
  · subst h0
    rw [ng_nn (v := -0) (by omega)] at ad
    simp only [lm_zero, us_nil] at ad
    simp -implicitDefEqProofs (maxSteps := 5000000) (disch := omega) only [go_sem, ng_nn (Int.le_refl 0), lm_zero, us_nil, ad, if_pos, if_neg, dec_t, dec_f, IntWalk.i64_in, IntWalk.u32_in, IntWalk.u64_in, beq_no]
  · have : 0 < (lm b).length := List.length_pos_iff.2 (by rw [Ne, lm_eq_nil]; omega)
    rw [ng_neg (v := -b) (by omega)] at ad
    simp -implicitDefEqProofs (maxSteps := 5000000) (disch := omega) only [go_sem, ng_nn (Int.le_of_lt h0), ad, if_pos, if_neg, dec_t, dec_f, IntWalk.i64_in, IntWalk.u32_in, IntWalk.u64_in, beq_no]
end Go.Pi
