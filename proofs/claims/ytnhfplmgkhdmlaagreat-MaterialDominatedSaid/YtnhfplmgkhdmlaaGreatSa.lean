/- What is proved: the numbers of the reference, and the examples of the chapter. No conditions beyond those in the statements. -/
import Derived.Test.YtnhfplmgkhdmlaaGreatRa
set_option linter.unusedVariables false
set_option linter.unusedSimpArgs false
set_option maxHeartbeats 4000000
set_option maxRecDepth 8000
/-
What the reference's functions on limbs and integers answer.
-/
namespace Go.Pi
open Go Go.Proofs Num
theorem trim'_c (l : List Int) (hl : Lm l) (hn : l.length ≤ 1099511627776) (ex : Bool) (M : Mem) : ∃ ex', Cq 141 [.sl ex (us l)] M = some (.sl ex' (us (lm (vl l))), M) := by
  suffices h : ∃ ex', fin Pq _ (execL Pq Xq sq cq 141 _ ⟨ini 0 [.sl ex (us l)], M⟩) = some (.sl ex' (us (lm (vl l))), M) from
    h.imp fun _ h => CL_of (f := 141) (fn := Tryz.f141) Tryz.func141 rfl rfl rfl (Nat.le_of_ble_eq_true rfl) h
  obtain ⟨m, nx⟩ := M
  simp -implicitDefEqProofs only [go_sem]
  generalize hL : execL _ _ _ _ _ (.loop _) _ = L
  obtain ⟨⟨e, r, M⟩, rfl, rfl, rfl, ex', h0⟩ := loop_of hL (fun i s => s.M = ⟨m, nx⟩ ∧ i ≤ l.length ∧ vl (l.take i) = vl l ∧ ∃ ex, s.r 0 = .sl ex (us (l.take i)))
    (fun y => y.1 = .exit 0 ∧ y.2.M = ⟨m, nx⟩ ∧ ∃ ex, y.2.r 0 = .sl ex (us (lm (vl l)))) ⟨l.length, by
      refine ⟨rfl, Nat.le_refl _, by simp, ex, ?_⟩
      simp -implicitDefEqProofs only [go_sem, List.take_length]⟩ (by
      rintro i ⟨r, M⟩ ⟨rfl, hi, hv, ex, h0⟩
      dsimp only at h0
      have hlt : (l.take i).length = i := by rw [List.length_take]; omega
      by_cases h : 0 < i
      · have e1 : ((i : Int) - 1).toNat = i - 1 := by omega
        by_cases hz : l.getD (i - 1) 0 = 0
        · simp -implicitDefEqProofs (maxSteps := 5000000) (disch := omega) only [go_sem, h0, hlt, e1, us_get, us_take, getD_take, hz, if_pos, if_neg, dec_t, dec_f, IntWalk.i64_in, IntWalk.u32_in, IntWalk.u64_in, beq_no]
          refine ⟨i - 1, by omega, by omega, ?_, ⟨_, by rw [List.take_take, Nat.min_eq_left (Nat.sub_le i 1)]⟩⟩
          · rw [← hv]
            have := vl_take_succ l (i - 1) (by omega)
            rw [show i - 1 + 1 = i by omega, hz] at this
            omega
        · simp -implicitDefEqProofs (maxSteps := 5000000) (disch := omega) only [go_sem, h0, hlt, e1, us_get, us_take, getD_take, hz, if_pos, if_neg, dec_t, dec_f, IntWalk.i64_in, IntWalk.u32_in, IntWalk.u64_in, beq_no]
          refine ⟨ex, ?_⟩
          rw [lm_take_of hl i hi hv (.inr hz)]
      · have : i = 0 := by omega
        subst this
        simp -implicitDefEqProofs (maxSteps := 5000000) (disch := omega) only [go_sem, h0, hlt, if_pos, if_neg, dec_t, dec_f, IntWalk.i64_in, IntWalk.u32_in, IntWalk.u64_in, beq_no]
        refine ⟨ex, ?_⟩
        rw [← lm_take_of hl 0 hi hv (.inl rfl), List.take_zero])
  dsimp only at h0
  simp -implicitDefEqProofs only [go_sem, h0]
  exact ⟨_, rfl⟩
theorem trim'_r {l : List Int} (hl : Lm l) (hn : l.length ≤ 1099511627776) : Rq 141 [.sl false (us l)] = some (.sl false (us (lm (vl l)))) := by
  obtain ⟨ex, h⟩ := trim'_c l hl hn false mem0
  exact RL_CL h rfl
theorem signed'_r {b : Bool} {l : List Int} (hl : Lm l) (hn : l.length ≤ 1099511627776) : Rq 111 [.bool b, .sl false (us l)] = some (.agg (zI (if b then -(vl l) else vl l))) := by
  refine RL_of (f := 111) (fn := Tryz.f111) Tryz.func111 rfl rfl rfl (Nat.le_of_ble_eq_true rfl) ?_
  have t := trim'_r hl hn
  have h0 := vl_nonneg hl
  cases b with
  | false =>
    simp -implicitDefEqProofs (maxSteps := 5000000) (disch := omega) only [go_sem, t, if_pos, if_neg, dec_t, dec_f, IntWalk.i64_in, IntWalk.u32_in, IntWalk.u64_in, beq_no]
    rw [ng_nn h0]
  | true =>
    by_cases hz : vl l = 0
    · rw [hz] at t
      rw [hz]
      simp -implicitDefEqProofs (maxSteps := 5000000) (disch := omega) only [go_sem, t, lm_zero, us_nil, if_pos, if_neg, dec_t, dec_f, IntWalk.i64_in, IntWalk.u32_in, IntWalk.u64_in, beq_no]
      rw [Int.neg_zero, ng_nn (Int.le_refl 0), lm_zero, us_nil]
    · have : 0 < (lm (vl l)).length := List.length_pos_iff.2 (by rw [Ne, lm_eq_nil]; exact hz)
      simp -implicitDefEqProofs (maxSteps := 5000000) (disch := omega) only [go_sem, t, if_pos, if_neg, dec_t, dec_f, IntWalk.i64_in, IntWalk.u32_in, IntWalk.u64_in, beq_no]
      rw [ng_neg (by omega), lm_neg]
theorem limbs'_r {u : Int} (h0 : 0 ≤ u) (h1 : u < 18446744073709551616) : Rq 112 [.int .u64 u] = some (.sl false (us (lm u))) := by
  refine RL_of (f := 112) (fn := Tryz.f112) Tryz.func112 rfl rfl rfl (Nat.le_of_ble_eq_true rfl) ?_
  simp -implicitDefEqProofs (maxSteps := 5000000) (disch := omega) only [go_sem, if_pos, if_neg, dec_t, dec_f, IntWalk.i64_in, IntWalk.u32_in, IntWalk.u64_in, beq_no]
  generalize hL : execL _ _ _ _ _ (.loop _) _ = L
  obtain ⟨⟨e, r, ⟨m, nx⟩⟩, rfl, rfl, k, hk, h3⟩ := loop_of hL (fun i st => ∃ k : Nat, (i = (u / pw k).toNat ∧ (k = 0 ∨ 0 < u / pw (k - 1)) ∧ k ≤ 4) ∧ st.r 0 = .int .u64 (u / pw k) ∧ (k = 0 ∧ st.r 3 = .sl true [] ∨ ∃ id, id < st.M.nx ∧ st.r 3 = .ref id 1 0 k k false ∧ st.M.m id = .live true 143 (us (dg k u))))
    (fun y => y.1 = .exit 0 ∧ ∃ k : Nat, (u / pw k = 0 ∧ (k = 0 ∨ 0 < u / pw (k - 1)) ∧ k ≤ 4) ∧ (k = 0 ∧ y.2.r 3 = .sl true [] ∨ ∃ id, id < y.2.M.nx ∧ y.2.r 3 = .ref id 1 0 k k false ∧ y.2.M.m id = .live true 143 (us (dg k u)))) ⟨u.toNat, 0, ⟨by rw [pw_zero, Int.ediv_one], .inl rfl, by omega⟩, by
      rw [pw_zero, Int.ediv_one]
      simp -implicitDefEqProofs only [go_sem], .inl ⟨rfl, by simp -implicitDefEqProofs only [go_sem]⟩⟩ (by
    clear hL
    rintro i ⟨r, ⟨m, nx⟩⟩ ⟨k, ⟨rfl, hk, hk4⟩, h0', h3⟩
    dsimp only at h0' h3
    have q0 : 0 ≤ u / pw k := Int.ediv_nonneg h0 (Int.le_of_lt (pw_pos k))
    have q1 : u / pw k ≤ u := Int.ediv_le_self _ h0
    have qs : u / pw (k + 1) = u / pw k / 1000000000 := by
      rw [pw_succ, Int.mul_comm, Int.ediv_ediv_of_nonneg (Int.le_of_lt (pw_pos k))]
    have k3 : 0 < u / pw k → k ≤ 3 := fun h => by
      by_cases hc : k = 4
      · subst hc
        have : u / pw 4 = 0 := Int.ediv_eq_zero_of_lt h0 (by simp only [pw]; omega)
        omega
      · omega
    have sn := dg_snoc k u
    generalize hq : u / pw k = q at *
    by_cases hp : 0 < q
    · have k3 := k3 hp
      rcases h3 with ⟨rfl, h3⟩ | ⟨id, hid, h3, hm⟩
      · simp -implicitDefEqProofs (maxSteps := 5000000) (disch := omega) only [go_sem, h0', h3, apY_first, Int.tmod_eq_emod_of_nonneg, Int.tdiv_eq_ediv_of_nonneg, if_pos, if_neg, dec_t, dec_f, IntWalk.i64_in, IntWalk.u32_in, IntWalk.u64_in, beq_no]
        refine ⟨_, ?_, 1, ⟨rfl, .inr (by rw [show 1 - 1 = 0 from rfl, hq]; exact hp), by omega⟩, by rw [qs], .inr ⟨nx, by omega, rfl, by rw [beq_self_eq_true]; rw [sn]; rfl⟩⟩
        rw [qs]; omega
      · have am := fun (nx : Nat) (x : Int) => apY_more (nx := nx) (x := x) hm (dg_length k u) (by omega)
        simp -implicitDefEqProofs (maxSteps := 5000000) (disch := omega) only [go_sem, h0', h3, am, Int.tmod_eq_emod_of_nonneg, Int.tdiv_eq_ediv_of_nonneg, if_pos, if_neg, dec_t, dec_f, IntWalk.i64_in, IntWalk.u32_in, IntWalk.u64_in, beq_no]
        refine ⟨_, ?_, k + 1, ⟨rfl, .inr (by rw [Nat.add_sub_cancel, hq]; exact hp), by omega⟩, by rw [qs], .inr ⟨nx, by omega, rfl, by rw [beq_self_eq_true]; rw [sn]; rfl⟩⟩
        rw [qs]; omega
    · simp -implicitDefEqProofs (maxSteps := 5000000) (disch := omega) only [go_sem, h0', h3, if_pos, if_neg, dec_t, dec_f, IntWalk.i64_in, IntWalk.u32_in, IntWalk.u64_in, beq_no]
      exact ⟨k, ⟨by omega, hk, hk4⟩, h3⟩)
  have hlm : lm u = dg k u := by
    obtain ⟨z1, z2, z3⟩ := hk
    have hu : u < pw k := by
      by_cases hc : u < pw k
      · exact hc
      · have := Int.le_ediv_of_mul_le (a := 1) (b := u) (c := pw k) (pw_pos k) (by omega)
        omega
    have : ll u = k := by
      apply Nat.le_antisymm
      · exact ll_le hu (by have := pw_pos k; omega)
      · rcases z2 with rfl | z2
        · omega
        · by_cases hc : ll u ≤ k - 1
          · have := (lt_of_ll hc).1
            rw [Int.ediv_eq_zero_of_lt h0 this] at z2
            omega
          · omega
    unfold lm
    rw [show ((u.natAbs : Nat) : Int) = u by omega]
    congr 1
  rcases h3 with ⟨rfl, h3⟩ | ⟨id, hid, h3, hm⟩
  · dsimp only at h3
    simp -implicitDefEqProofs (maxSteps := 5000000) (disch := omega) only [go_sem, h3, if_pos, if_neg, dec_t, dec_f, IntWalk.i64_in, IntWalk.u32_in, IntWalk.u64_in, beq_no]
    rw [hlm]; rfl
  · dsimp only at h3 hm
    have dl := dg_length k u
    simp -implicitDefEqProofs (maxSteps := 5000000) (disch := omega) only [go_sem, h3, hm, gd_us, elems_us, List.drop_zero, if_pos, if_neg, dec_t, dec_f, IntWalk.i64_in, IntWalk.u32_in, IntWalk.u64_in, beq_no]
    rw [List.take_of_length_le (by omega), hlm]
end Go.Pi

set_option linter.unusedVariables false
set_option linter.unusedSimpArgs false
set_option maxHeartbeats 4000000
set_option maxRecDepth 8000
/-
The reference's small numbers.
-/
namespace Go.Pi
open Go Go.Proofs Num
theorem fromInt64'_r {n : Int} (h0 : -9223372036854775808 ≤ n) (h1 : n ≤ 9223372036854775807) : Rq 74 [.int .i64 n] = some (.agg (zI n)) := by
  refine RL_of (f := 74) (fn := Tryz.f74) Tryz.func74 rfl rfl rfl (Nat.le_of_ble_eq_true rfl) ?_
  have l3 : ll n ≤ 3 := ll_le (by simp only [pw]; omega) (by simp only [pw]; omega)
  have ln := length_lm n
  have s := fun bb : Bool => signed'_r (b := bb) (lm_lm n) (by omega)
  rw [vl_lm'] at s
  have s1 := s true
  have s0 := s false
  simp only [if_true, Bool.false_eq_true, if_false] at s0 s1
  by_cases h : n < 0
  · have w1 : IntKind.u64.wrap n = n + 18446744073709551616 := by rw [wr_u64]; omega
    have w2 : IntKind.u64.wrap (-(n + 18446744073709551616)) = -n := by rw [wr_u64]; omega
    have l := limbs'_r (u := -n) (by omega) (by omega)
    rw [lm_neg] at l
    rw [if_pos h, Int.neg_neg] at s1
    simp -implicitDefEqProofs (maxSteps := 5000000) (disch := omega) only [go_sem, h, w1, w2, l, s1, if_pos, if_neg, dec_t, dec_f, IntWalk.i64_in, IntWalk.u32_in, IntWalk.u64_in, beq_no]
  · have w1 : IntKind.u64.wrap n = n := by rw [wr_u64]; omega
    have l := limbs'_r (u := n) (by omega) (by omega)
    rw [if_neg h] at s0
    simp -implicitDefEqProofs (maxSteps := 5000000) (disch := omega) only [go_sem, h, w1, l, s0, if_pos, if_neg, dec_t, dec_f, IntWalk.i64_in, IntWalk.u32_in, IntWalk.u64_in, beq_no]
theorem sign'_r (v : Int) (h : ll v ≤ 1000000000) : Rq 107 [.agg (zI v)] = some (.int .i64 v.sign) := by
  refine RL_of (f := 107) (fn := Tryz.f107) Tryz.func107 rfl rfl rfl (Nat.le_of_ble_eq_true rfl) ?_
  have hl := length_lm v
  rcases Int.lt_trichotomy v 0 with h0 | h0 | h0
  · have : 0 < (lm v).length := List.length_pos_iff.2 (by rw [Ne, lm_eq_nil]; omega)
    simp -implicitDefEqProofs (maxSteps := 5000000) (disch := omega) only [go_sem, ng_neg h0, if_pos, if_neg, dec_t, dec_f, IntWalk.i64_in, IntWalk.u32_in, IntWalk.u64_in, beq_no]
    rw [Int.sign_eq_neg_one_of_neg h0]
  · subst h0
    simp -implicitDefEqProofs (maxSteps := 5000000) (disch := omega) only [go_sem, ng_nn (Int.le_refl 0), lm_zero, us_nil, if_pos, if_neg, dec_t, dec_f, IntWalk.i64_in, IntWalk.u32_in, IntWalk.u64_in, beq_no]
    rfl
  · have : 0 < (lm v).length := List.length_pos_iff.2 (by rw [Ne, lm_eq_nil]; omega)
    simp -implicitDefEqProofs (maxSteps := 5000000) (disch := omega) only [go_sem, ng_nn (Int.le_of_lt h0), if_pos, if_neg, dec_t, dec_f, IntWalk.i64_in, IntWalk.u32_in, IntWalk.u64_in, beq_no]
    rw [Int.sign_eq_one_of_pos h0]
theorem short'_r {l : List Int} (hl : Lm l) (h : l.length ≤ 2) : Rq 143 [.sl false (us l)] = some (.int .u64 (vl l)) := by
  refine RL_of (f := 143) (fn := Tryz.f143) Tryz.func143 rfl rfl rfl (Nat.le_of_ble_eq_true rfl) ?_
  rcases l with _ | ⟨x, _ | ⟨y, _ | ⟨z, l⟩⟩⟩
  · simp -implicitDefEqProofs (disch := omega) only [go_sem, xL_loop, lpE_normal, lpE_exit, us_nil, vl, if_pos, if_neg, dec_t, dec_f, IntWalk.i64_in, beq_no]
  · rw [lm_cons] at hl
    simp -implicitDefEqProofs (disch := omega) only [go_sem, xL_loop, lpE_normal, lpE_exit, us_nil, us_cons, vl, show ((1 : Nat) : Int) = 1 from rfl, show ((2 : Nat) : Int) = 2 from rfl, if_pos, if_neg, dec_t, dec_f, IntWalk.i64_in, IntWalk.u64_in, beq_no]
    refine congrArg some (congrArg (PV.int .u64) ?_); omega
  · rw [lm_cons, lm_cons] at hl
    simp -implicitDefEqProofs (disch := omega) only [go_sem, xL_loop, lpE_normal, lpE_exit, us_nil, us_cons, vl, show ((1 : Nat) : Int) = 1 from rfl, show ((2 : Nat) : Int) = 2 from rfl, if_pos, if_neg, dec_t, dec_f, IntWalk.i64_in, IntWalk.u64_in, beq_no]
    refine congrArg some (congrArg (PV.int .u64) ?_); omega
  · simp at h
theorem parts_small {a b : List Int} (ha : Lm a) (hb : Lm b) (h1 : a.length ≤ 2) (h2 : b.length ≤ 2) (h0 : 0 < vl b) :
    Rq 142 [.sl false (us a), .sl false (us b)] = some (.tup [.sl false (us (lm (vl a / vl b))), .sl false (us (lm (vl a % vl b)))]) := by
  refine RL_of (f := 142) (fn := Tryz.f142) Tryz.func142 rfl rfl rfl (Nat.le_of_ble_eq_true rfl) ?_
  have s1 := short'_r ha h1
  have s2 := short'_r hb h2
  have na := vl_nonneg ha
  have ua := vl_lt ha
  have ub := vl_lt hb
  have pa := pw_mono h1
  have pb := pw_mono h2
  have p2 : pw 2 = 1000000000000000000 := by simp [pw]
  have d0 : 0 ≤ vl a / vl b := Int.ediv_nonneg na (by omega)
  have d1 := Int.ediv_le_self (vl b) na
  have m0 : 0 ≤ vl a % vl b := Int.emod_nonneg _ (by omega)
  have m1 : vl a % vl b < vl b := Int.emod_lt_of_pos _ h0
  have l1 := limbs'_r (u := vl a / vl b) d0 (by omega)
  have l2 := limbs'_r (u := vl a % vl b) m0 (by omega)
  have nb : ¬ vl b = 0 := by omega
  simp -implicitDefEqProofs (maxSteps := 5000000) (disch := omega) only [go_sem, s1, s2, l1, l2, nb, Int.tmod_eq_emod_of_nonneg, Int.tdiv_eq_ediv_of_nonneg, if_pos, if_neg, dec_t, dec_f, IntWalk.i64_in, IntWalk.u32_in, IntWalk.u64_in, beq_no]
theorem gcd'_small {a b : Int} (ha : ll a ≤ 2) (hb : ll b ≤ 2) : Rq 109 [.agg (zI a), .agg (zI b)] = some (.agg (zI (Int.gcd a b : Nat))) := by
  refine RL_of (f := 109) (fn := Tryz.f109) Tryz.func109 rfl rfl rfl (Nat.le_of_ble_eq_true rfl) ?_
  have la := length_lm a
  have lb := length_lm b
  have s1 := short'_r (lm_lm a) (by omega)
  have s2 := short'_r (lm_lm b) (by omega)
  rw [vl_lm] at s1 s2
  have g0 := signed'_r (b := false) (lm_lm a) (by omega)
  rw [if_neg (by simp), vl_lm] at g0
  have hG := igcd a b
  have b1 := (lt_of_ll ha).1
  have b2 := (lt_of_ll ha).2
  have b3 := (lt_of_ll hb).1
  have b4 := (lt_of_ll hb).2
  simp only [pw] at b1 b2 b3 b4
  by_cases hz : b = 0
  · subst hz
    have : ((Int.gcd a 0 : Nat) : Int) = a.natAbs := by rw [← hG]; simp
    rw [this]
    have l0 : lm (0 : Int) = [] := lm_zero
    simp -implicitDefEqProofs (disch := omega) only [go_sem, xL_loop, lpE_normal, lpE_exit, l0, us_nil, g0, ng_cast, if_pos, if_neg, dec_t, dec_f, IntWalk.i64_in, IntWalk.u64_in, beq_no]
  · have l0 : 0 < (lm b).length := List.length_pos_iff.2 (by rw [Ne, lm_eq_nil]; exact hz)
    generalize Int.gcd a b = G at *
    simp -implicitDefEqProofs (maxSteps := 5000000) (disch := omega) only [go_sem, if_pos, if_neg, dec_t, dec_f, IntWalk.i64_in, IntWalk.u32_in, IntWalk.u64_in, beq_no]
    rw [xL_loop]
    simp -implicitDefEqProofs (maxSteps := 5000000) (disch := omega) only [go_sem, lpE_exit, s1, s2, if_pos, if_neg, dec_t, dec_f, IntWalk.i64_in, IntWalk.u32_in, IntWalk.u64_in, beq_no]
    generalize hL : execL _ _ _ _ _ (.loop _) _ = L
    obtain ⟨⟨e, r, ⟨m, nx⟩⟩, rfl, rfl, hm, k4, k9⟩ := loop_of hL (fun i st => ∃ u' : Nat, (Nat.gcd u' i = G ∧ u' < 1000000000000000000 ∧ i < 1000000000000000000) ∧ st.M.m 2 = .live true 35 [.bool false, .sl false []] ∧ st.r 4 = .ptr 2 0 ∧ st.r 9 = .int .u64 (u' : Int) ∧ st.r 10 = .int .u64 (i : Int))
      (fun y => y.1 = .exit 2 ∧ y.2.M.m 2 = .live true 35 [.bool false, .sl false []] ∧ y.2.r 4 = .ptr 2 0 ∧ y.2.r 9 = .int .u64 (G : Int)) ⟨b.natAbs, a.natAbs, ⟨hG, by omega, by omega⟩, by simp -implicitDefEqProofs (maxSteps := 5000000) (disch := omega) only [go_sem, if_pos, if_neg, dec_t, dec_f, IntWalk.i64_in, IntWalk.u32_in, IntWalk.u64_in, beq_no], by simp -implicitDefEqProofs (maxSteps := 5000000) (disch := omega) only [go_sem, if_pos, if_neg, dec_t, dec_f, IntWalk.i64_in, IntWalk.u32_in, IntWalk.u64_in, beq_no], by simp -implicitDefEqProofs (maxSteps := 5000000) (disch := omega) only [go_sem, if_pos, if_neg, dec_t, dec_f, IntWalk.i64_in, IntWalk.u32_in, IntWalk.u64_in, beq_no], by simp -implicitDefEqProofs (maxSteps := 5000000) (disch := omega) only [go_sem, if_pos, if_neg, dec_t, dec_f, IntWalk.i64_in, IntWalk.u32_in, IntWalk.u64_in, beq_no]⟩ (by
      clear hL
      rintro i ⟨r, ⟨m, nx⟩⟩ ⟨u', ⟨hg, hu', hv'⟩, hm, k4, k9, k10⟩
      dsimp only at hm k4 k9 k10
      by_cases h : 0 < i
      · have n0 : ¬ (i : Int) = 0 := by omega
        simp -implicitDefEqProofs (maxSteps := 5000000) (disch := omega) only [go_sem, hm, k4, k9, k10, n0, Int.tmod_eq_emod_of_nonneg, if_pos, if_neg, dec_t, dec_f, IntWalk.i64_in, IntWalk.u32_in, IntWalk.u64_in, beq_no]
        have := Nat.mod_lt u' h
        exact ⟨u' % i, this, i, ⟨by rw [← gcd_step]; exact hg, by omega, by omega⟩, rfl, by rw [Int.natCast_emod]⟩
      · have : i = 0 := by omega
        subst this
        rw [Nat.gcd_zero_right] at hg
        simp -implicitDefEqProofs (maxSteps := 5000000) (disch := omega) only [go_sem, hm, k4, k9, k10, if_pos, if_neg, dec_t, dec_f, IntWalk.i64_in, IntWalk.u32_in, IntWalk.u64_in, beq_no]
        rw [hg])
    dsimp only at hm k4 k9
    have gb : (G : Int) < 1000000000000000000 := by
      rw [← hG]
      have := Nat.le_of_dvd (by omega) (Nat.gcd_dvd_right a.natAbs b.natAbs)
      omega
    have li := limbs'_r (u := (G : Int)) (by omega) (by omega)
    have lg := length_lm (G : Int)
    have l3 : ll (G : Int) ≤ 2 := ll_le (by simp only [pw]; omega) (by simp only [pw]; omega)
    have sg := signed'_r (b := false) (lm_lm (G : Int)) (by omega)
    rw [vl_cast, if_neg (by simp)] at sg
    simp -implicitDefEqProofs (maxSteps := 5000000) (disch := omega) only [go_sem, hm, k4, k9, li, sg, ng_cast, if_pos, if_neg, dec_t, dec_f, IntWalk.i64_in, IntWalk.u32_in, IntWalk.u64_in, beq_no]
theorem divMod'_small {a b : Int} (h0 : 0 ≤ a) (h1 : 0 < b) (ha : ll a ≤ 2) (hb : ll b ≤ 2) : Rq 129 [.agg (zI a), .agg (zI b)] = some (.tup [.agg (zI (a / b)), .agg (zI (a % b)), .int .i64 0]) := by
  refine RL_of (f := 129) (fn := Tryz.f129) Tryz.func129 rfl rfl rfl (Nat.le_of_ble_eq_true rfl) ?_
  have la := length_lm a
  have lb := length_lm b
  have l0 : 0 < (lm b).length := List.length_pos_iff.2 (by rw [Ne, lm_eq_nil]; omega)
  have va : vl (lm a) = a := by rw [vl_lm]; omega
  have vb : vl (lm b) = b := by rw [vl_lm]; omega
  have pt := parts_small (lm_lm a) (lm_lm b) (by omega) (by omega) (by omega)
  rw [va, vb] at pt
  have d0 : 0 ≤ a / b := Int.ediv_nonneg h0 (by omega)
  have m0 : 0 ≤ a % b := Int.emod_nonneg _ (by omega)
  have m1 : a % b < b := Int.emod_lt_of_pos _ h1
  have d1 := Int.ediv_le_self b h0
  have ld : ll (a / b) ≤ 2 := Nat.le_trans (ll_mono (by omega)) ha
  have lr : ll (a % b) ≤ 2 := Nat.le_trans (ll_mono (by omega)) hb
  have lld := length_lm (a / b)
  have llr := length_lm (a % b)
  have sq := signed'_r (b := false) (lm_lm (a / b)) (by omega)
  have sr := signed'_r (b := false) (lm_lm (a % b)) (by omega)
  rw [if_neg (by simp), vl_lm, show (((a / b).natAbs : Nat) : Int) = a / b by omega] at sq
  rw [if_neg (by simp), vl_lm, show (((a % b).natAbs : Nat) : Int) = a % b by omega] at sr
  have n1 := ng_nn h0
  have n2 := ng_nn (Int.le_of_lt h1)
  by_cases hz : (lm (a % b)).length = 0
  · simp -implicitDefEqProofs (maxSteps := 5000000) (disch := omega) only [go_sem, n1, n2, pt, sq, sr, if_pos, if_neg, dec_t, dec_f, IntWalk.i64_in, IntWalk.u32_in, IntWalk.u64_in, beq_no]
  · simp -implicitDefEqProofs (maxSteps := 5000000) (disch := omega) only [go_sem, n1, n2, pt, sq, sr, if_pos, if_neg, dec_t, dec_f, IntWalk.i64_in, IntWalk.u32_in, IntWalk.u64_in, beq_no]
theorem unit'_r : Rq 75 [] = some (.agg (zI 1)) := by
  refine RL_of (f := 75) (fn := Tryz.f75) Tryz.func75 rfl rfl rfl (Nat.le_of_ble_eq_true rfl) ?_
  have f := fromInt64'_r (n := 1) (by omega) (by omega)
  simp -implicitDefEqProofs (maxSteps := 5000000) (disch := omega) only [go_sem, f, if_pos, if_neg, dec_t, dec_f, IntWalk.i64_in, IntWalk.u32_in, IntWalk.u64_in, beq_no]
theorem qFromInt64'_r {n : Int} (h0 : -9223372036854775808 ≤ n) (h1 : n ≤ 9223372036854775807) : Rq 34 [.int .i64 n] = some (.agg (zQ (n : Rat))) := by
  refine RL_of (f := 34) (fn := Tryz.f34) Tryz.func34 rfl rfl rfl (Nat.le_of_ble_eq_true rfl) ?_
  have f := fromInt64'_r h0 h1
  have u := unit'_r
  simp -implicitDefEqProofs (maxSteps := 5000000) (disch := omega) only [go_sem, f, u, Rat.num_intCast, Rat.den_intCast, ng_nn (show (0 : Int) ≤ 1 by omega), if_pos, if_neg, dec_t, dec_f, IntWalk.i64_in, IntWalk.u32_in, IntWalk.u64_in, beq_no]
  rfl
theorem of_small {p q : Int} (h0 : 0 ≤ p) (h1 : 0 < q) (hp : ll p ≤ 2) (hq : ll q ≤ 2) : Rq 90 [.agg (zI p), .agg (zI q)] = some (.agg (zQ (Rat.divInt p q))) := by
  refine RL_of (f := 90) (fn := Tryz.f90) Tryz.func90 rfl rfl rfl (Nat.le_of_ble_eq_true rfl) ?_
  have s := sign'_r q (by omega)
  rw [Int.sign_eq_one_of_pos h1] at s
  have g := gcd'_small hp hq
  have g0 : 0 < Int.gcd p q := Int.gcd_pos_of_ne_zero_right _ (by omega)
  have gq : ll (Int.gcd p q : Int) ≤ 2 := Nat.le_trans (ll_mono (by
      rw [Int.natAbs_natCast]
      exact Nat.le_of_dvd (by omega) (Int.gcd_dvd_natAbs_right p q))) hq
  have d1 := divMod'_small h0 (show 0 < (Int.gcd p q : Int) by omega) hp gq
  have d2 := divMod'_small (Int.le_of_lt h1) (show 0 < (Int.gcd p q : Int) by omega) hq gq
  have e1 : (Rat.divInt p q).num = p / (Int.gcd p q : Int) := by rw [Rat.num_divInt, Int.sign_eq_one_of_pos h1, Int.one_mul, Int.gcd_comm]
  have e2 : ((Rat.divInt p q).den : Int) = q / (Int.gcd p q : Int) := by
    rw [Rat.den_divInt, if_neg (by omega), Int.gcd_comm, Int.natCast_ediv]
    congr 1; omega
  have n1 := ng_nn (v := q / (Int.gcd p q : Int)) (Int.ediv_nonneg (by omega) (by omega))
  generalize Int.gcd p q = G at *
  simp only [zI_eq, ng_cast, n1] at s g d1 d2
  simp -implicitDefEqProofs (maxSteps := 5000000) (disch := omega) only [go_sem, s, g, d1, d2, e1, e2, if_pos, if_neg, dec_t, dec_f, IntWalk.i64_in, IntWalk.u32_in, IntWalk.u64_in, beq_no]
theorem frac_13 : Rq 50 [.int .i64 1, .int .i64 3] = some (.agg (zQ (Rat.divInt 1 3))) := by
  refine RL_of (f := 50) (fn := Tryz.f50) Tryz.func50 rfl rfl rfl (Nat.le_of_ble_eq_true rfl) ?_
  have f1 := fromInt64'_r (n := 1) (by omega) (by omega)
  have f2 := fromInt64'_r (n := 3) (by omega) (by omega)
  have l1 := ll_small (v := 1) (by omega) (by omega)
  have l2 := ll_small (v := 3) (by omega) (by omega)
  have o := of_small (p := 1) (q := 3) (by omega) (by omega) (by omega) (by omega)
  simp only [zI_eq] at f1 f2 o
  simp -implicitDefEqProofs (maxSteps := 5000000) (disch := omega) only [go_sem, f1, f2, o, if_pos, if_neg, dec_t, dec_f, IntWalk.i64_in, IntWalk.u32_in, IntWalk.u64_in, beq_no]
end Go.Pi
