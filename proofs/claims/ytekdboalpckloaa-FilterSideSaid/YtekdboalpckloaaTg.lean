/- What is proved: the law on sides by intervals. No conditions beyond those in the statements. -/
import Derived.Test.YtekdboalpckloaaTf
set_option linter.unusedVariables false
set_option linter.unusedSimpArgs false
set_option maxHeartbeats 4000000
set_option maxRecDepth 8000
/-
The law on sides by intervals.
-/
namespace Go.Pi
open Go Go.Proofs Num
theorem ro_in {A B C : Rat} {i s : Int × Int} (h : roF A B C = some i) (hs : B ≠ 0 → sqC C = some s) : ∀ t : Rat, inF s.1 s.2 t → inF i.1 i.2 (A + B * t) := fun t ht => by
  by_cases hB : B = 0
  · have := roF_zero h hB
    subst hB
    rw [show A + 0 * t = A by grind]
    exact this
  · obtain ⟨_, s', hs', hi⟩ := roF_in h hB
    rw [hs hB] at hs'
    obtain rfl := Option.some.inj hs'
    exact hi t ht
theorem tiF_in {n : Rat} {r m : Int × Int} {p : Rat} (h : tiF n (some r) = some m) (hp : inF r.1 r.2 p) : inF m.1 m.2 (n * p) := by
  unfold tiF at h
  dsimp only at h
  cases hb : frF n with
  | none => rw [hb] at h; cases h
  | some b => rw [hb] at h; exact muF_in h (frF_in hb) hp
/-- Bounds for the root of the radicand that serve both coordinates. -/
theorem sdF_in {A B C AX BX AY BY PC : Rat} {i : Int × Int} (h : sdF A B C AX BX AY BY PC = some i) (h0 : 0 ≤ PC) :
    ∃ s : Int × Int, (0 ≤ s.1 ∧ s.1 ≤ s.2 ∧ (s.1 : Rat) * (s.1 : Rat) ≤ PC * 65536 * 65536 ∧ PC * 65536 * 65536 ≤ (s.2 : Rat) * (s.2 : Rat)) ∧ ∀ t : Rat, inF s.1 s.2 t → inF i.1 i.2 ((A * AX + B * AY - C) + (A * BX + B * BY) * t) := by
  unfold sdF at h
  cases hx : roF AX BX PC with
  | none => rw [hx] at h; unfold tiF at h; cases h
  | some rx =>
    rw [hx] at h
    cases hy : roF AY BY PC with
    | none =>
      rw [hy] at h
      cases hm : tiF A (some rx) with
      | none => rw [hm] at h; cases h
      | some m => rw [hm] at h; unfold tiF at h; cases h
    | some ry =>
      rw [hy] at h
      cases hm : tiF A (some rx) with
      | none => rw [hm] at h; cases h
      | some m =>
        rw [hm] at h
        cases hn : tiF B (some ry) with
        | none => rw [hn] at h; cases h
        | some n =>
          rw [hn] at h
          dsimp only at h
          cases hc : frF C with
          | none => rw [hc] at h; cases h
          | some c =>
            rw [hc] at h
            dsimp only at h
            cases hs : prF (m.1 + n.1) (m.2 + n.2) with
            | none => rw [hs] at h; cases h
            | some u =>
              rw [hs] at h
              dsimp only at h
              -- the bounds
              have hb : ∃ s : Int × Int, (0 ≤ s.1 ∧ s.1 ≤ s.2 ∧ (s.1 : Rat) * (s.1 : Rat) ≤ PC * 65536 * 65536 ∧ PC * 65536 * 65536 ≤ (s.2 : Rat) * (s.2 : Rat)) ∧ (BX ≠ 0 → sqC PC = some s) ∧ (BY ≠ 0 → sqC PC = some s) := by
                by_cases k1 : BX = 0
                · by_cases k2 : BY = 0
                  · obtain ⟨s, hs⟩ := bounds_any h0
                    exact ⟨s, hs, fun h => absurd k1 h, fun h => absurd k2 h⟩
                  · obtain ⟨_, s, hs, _⟩ := roF_in hy k2
                    exact ⟨s, sqC_spec hs h0, fun _ => hs, fun _ => hs⟩
                · obtain ⟨_, s, hs, _⟩ := roF_in hx k1
                  exact ⟨s, sqC_spec hs h0, fun _ => hs, fun _ => hs⟩
              obtain ⟨s, hb, h1, h2⟩ := hb
              refine ⟨s, hb, fun t ht => ?_⟩
              have i1 := tiF_in hm (ro_in hx h1 t ht)
              have i2 := tiF_in hn (ro_in hy h2 t ht)
              have i3 := prF_in hs i1 i2
              have i4 : inF (-c.2) (-c.1) (-C) := by
                have := frF_in hc
                unfold inF at *
                rw [Rat.intCast_neg, Rat.intCast_neg]
                constructor <;> grind
              have i5 := prF_in (a := u) (b := (-c.2, -c.1)) h i3 i4
              rw [show A * AX + B * AY - C + (A * BX + B * BY) * t = A * (AX + BX * t) + B * (AY + BY * t) + -C by grind]
              exact i5
theorem arg_Point {p : PV} (h : ArgT Pq 9 68 p) : ∃ a b c d e : RA, p = .agg (a.cs ++ (b.cs ++ (c.cs ++ (d.cs ++ e.cs)))) ∧ a.Wf ∧ b.Wf ∧ c.Wf ∧ d.Wf ∧ e.Wf := by
  obtain ⟨cs, rfl, p, q, rfl, h1, p', q', rfl, h2, p2, q2, rfl, h3, p3, q3, rfl, h4, p4, q4, rfl, h5, rfl⟩ := arg_struct (d := 8) Try.underlying68 h
  obtain ⟨a, rfl, ha⟩ := typ_Rat (d := 4) h1
  obtain ⟨b, rfl, hb⟩ := typ_Rat (d := 4) h2
  obtain ⟨c, rfl, hc⟩ := typ_Rat (d := 4) h3
  obtain ⟨d, rfl, hd⟩ := typ_Rat (d := 4) h4
  obtain ⟨e, rfl, he⟩ := typ_Rat (d := 4) h5
  exact ⟨a, b, c, d, e, by rw [List.append_nil], ha, hb, hc, hd, he⟩
theorem arg_Line {p : PV} (h : ArgT Pq 9 66 p) : ∃ x y z : RA, p = .agg (x.cs ++ (y.cs ++ z.cs)) ∧ x.Wf ∧ y.Wf ∧ z.Wf := by
  obtain ⟨cs, rfl, p, q, rfl, h1, p', q', rfl, h2, p'', q'', rfl, h3, rfl⟩ := arg_struct (d := 8) Try.underlying66 h
  obtain ⟨x, rfl, hx⟩ := typ_Rat (d := 4) h1
  obtain ⟨y, rfl, hy⟩ := typ_Rat (d := 4) h2
  obtain ⟨z, rfl, hz⟩ := typ_Rat (d := 4) h3
  exact ⟨x, y, z, by rw [List.append_nil], hx, hy, hz⟩
theorem side_law {p q : PV} (h : ArgT Pq 9 66 p) (h' : ArgT Pq 9 68 q) : Rq 9 [p, q] = some (.bool true) := by
  obtain ⟨x, y, z, rfl, hx, hy, hz⟩ := arg_Line h
  obtain ⟨a, b, c, d, e, rfl, ha, hb, hc, hd, he⟩ := arg_Point h'
  refine RL_of (f := 9) (fn := Try.f9) Try.func9 rfl rfl rfl (Nat.le_of_ble_eq_true rfl) ?_
  have aw := awake_r
  have v := valid4_r (xs := [x, y, z, a, b, c, d, e]) (k := 3) (by omega) (fun w hw => by simp at hw; rcases hw with rfl | rfl | rfl | rfl | rfl | rfl | rfl | rfl <;> assumption) (by simp)
  simp only [List.map_cons, List.map_nil] at v
  rw [show ((3 : Nat) : Int) = 3 from rfl] at v
  by_cases hv : ∀ w, w ∈ [x, y, z, a, b, c, d, e] → w.Sm 3
  · rw [dec_t hv] at v
    obtain ⟨A, eA, lA⟩ := (hv x (by simp)).q (by omega)
    obtain ⟨B, eB, lB⟩ := (hv y (by simp)).q (by omega)
    obtain ⟨C, eC, lC⟩ := (hv z (by simp)).q (by omega)
    obtain ⟨AX, eAX, lAX⟩ := (hv a (by simp)).q (by omega)
    obtain ⟨BX, eBX, lBX⟩ := (hv b (by simp)).q (by omega)
    obtain ⟨AY, eAY, lAY⟩ := (hv c (by simp)).q (by omega)
    obtain ⟨BY, eBY, lBY⟩ := (hv d (by simp)).q (by omega)
    obtain ⟨PC, ePC, lPC⟩ := (hv e (by simp)).q (by omega)
    rw [eA, eB, eC, eAX, eBX, eAY, eBY, ePC] at v ⊢
    have f1 := side_r (A := A) (B := B) (C := C) (AX := AX) (BX := BX) (AY := AY) (BY := BY) (PC := PC) (by omega) (by omega) (by omega) (by omega) (by omega) (by omega) (by omega) (by omega)
    have f2 := side4_r (A := A) (B := B) (C := C) (AX := AX) (BX := BX) (AY := AY) (BY := BY) (PC := PC) (by omega) (by omega) (by omega) (by omega) (by omega) (by omega) (by omega) (by omega)
    have ex := exact_r' (A := A * AX + B * AY - C) (B := A * BX + B * BY) (C := PC) (by (with_reducible apply Nat.le_trans; (focus (repeat' (first | with_reducible apply rb_mul | with_reducible apply rb_add | with_reducible apply rb_sub | with_reducible apply rb_neg | with_reducible apply rb_divInt | with_reducible apply rb_int | with_reducible apply lb_mul | with_reducible apply lb_add | with_reducible apply lb_sub | with_reducible apply lb_neg | exact Nat.le_refl _))); omega)) (by (with_reducible apply Nat.le_trans; (focus (repeat' (first | with_reducible apply rb_mul | with_reducible apply rb_add | with_reducible apply rb_sub | with_reducible apply rb_neg | with_reducible apply rb_divInt | with_reducible apply rb_int | with_reducible apply lb_mul | with_reducible apply lb_add | with_reducible apply lb_sub | with_reducible apply lb_neg | exact Nat.le_refl _))); omega)) (by omega)
    simp only [zQ_eq] at v
    simp only [zR_eq, zP_eq] at f1 f2 ex
    clear hv eA eB eC eAX eBX eAY eBY ePC hx hy hz ha hb hc hd he h h'
    by_cases hp : PC < 0
    · have s0 := sg_neg hp
      simp -implicitDefEqProofs (disch := first | omega | (with_reducible apply Nat.le_trans; (focus (repeat' (first | with_reducible apply rb_mul | with_reducible apply rb_add | with_reducible apply rb_sub | with_reducible apply rb_neg | with_reducible apply rb_divInt | with_reducible apply rb_int | with_reducible apply lb_mul | with_reducible apply lb_add | with_reducible apply lb_sub | with_reducible apply lb_neg | exact Nat.le_refl _))); omega)) only [go_sem, aw, v, s0, if_pos, if_neg, dec_t, dec_f, IntWalk.i64_in, IntWalk.u32_in, IntWalk.u64_in, beq_no]
    · have s0 : ¬ sg PC < 0 := fun h => hp (sg_lt.1 h)
      have h0 : 0 ≤ PC := by grind
      cases hi : sdF A B C AX BX AY BY PC with
      | none =>
        rw [hi] at f1 f2
        simp -implicitDefEqProofs (disch := first | omega | (with_reducible apply Nat.le_trans; (focus (repeat' (first | with_reducible apply rb_mul | with_reducible apply rb_add | with_reducible apply rb_sub | with_reducible apply rb_neg | with_reducible apply rb_divInt | with_reducible apply rb_int | with_reducible apply lb_mul | with_reducible apply lb_add | with_reducible apply lb_sub | with_reducible apply lb_neg | exact Nat.le_refl _))); omega)) only [go_sem, aw, v, s0, f1, f2, if_pos, if_neg, dec_t, dec_f, IntWalk.i64_in, IntWalk.u32_in, IntWalk.u64_in, beq_no]
      | some i =>
        obtain ⟨s, hs, ht⟩ := sdF_in hi h0
        rw [hi, sgV] at f1 f2
        by_cases kn : 0 < i.1 ∨ i.2 < 0 ∨ i.1 = 0 ∧ i.2 = 0
        · have e := sign_known hs ht kn
          rw [dec_t kn, e] at f1 f2
          simp -implicitDefEqProofs (disch := first | omega | (with_reducible apply Nat.le_trans; (focus (repeat' (first | with_reducible apply rb_mul | with_reducible apply rb_add | with_reducible apply rb_sub | with_reducible apply rb_neg | with_reducible apply rb_divInt | with_reducible apply rb_int | with_reducible apply lb_mul | with_reducible apply lb_add | with_reducible apply lb_sub | with_reducible apply lb_neg | exact Nat.le_refl _))); omega)) only [go_sem, aw, v, s0, f1, f2, ex, if_pos, if_neg, dec_t, dec_f, IntWalk.i64_in, IntWalk.u32_in, IntWalk.u64_in, beq_no]
        · rw [dec_f kn] at f1 f2
          simp -implicitDefEqProofs (disch := first | omega | (with_reducible apply Nat.le_trans; (focus (repeat' (first | with_reducible apply rb_mul | with_reducible apply rb_add | with_reducible apply rb_sub | with_reducible apply rb_neg | with_reducible apply rb_divInt | with_reducible apply rb_int | with_reducible apply lb_mul | with_reducible apply lb_add | with_reducible apply lb_sub | with_reducible apply lb_neg | exact Nat.le_refl _))); omega)) only [go_sem, aw, v, s0, f1, f2, if_pos, if_neg, dec_t, dec_f, IntWalk.i64_in, IntWalk.u32_in, IntWalk.u64_in, beq_no]
  · rw [dec_f hv] at v
    simp only [RA.cs] at v ⊢
    simp -implicitDefEqProofs (disch := omega) only [go_sem, aw, v, if_pos, if_neg, dec_t, dec_f, IntWalk.i64_in, IntWalk.u32_in, IntWalk.u64_in, beq_no]
end Go.Pi
