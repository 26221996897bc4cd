/- What is proved: the laws on circles through three points and on equal lines. No conditions beyond those in the statements. -/
import Derived.Test.YtdapdeamkhldjaaGreatUl
set_option linter.unusedVariables false
set_option linter.unusedSimpArgs false
set_option maxHeartbeats 4000000
set_option maxRecDepth 8000
/-
The law on circles through three points, and on equal lines.
-/
namespace Go.Pi
open Go Go.Proofs Num
theorem validCircle8_s {A B C : Rat} (h1 : rl A ≤ 100000) (h2 : rl B ≤ 100000) (h3 : rl C ≤ 100000) (h : 0 < C) : Rq 33 [.agg [.bool (ng (A).num), .sl false (us (lm (A).num)), .bool false, .sl false (us (lm ((A).den : Int))), .bool (ng (B).num), .sl false (us (lm (B).num)), .bool false, .sl false (us (lm ((B).den : Int))), .bool (ng (C).num), .sl false (us (lm (C).num)), .bool false, .sl false (us (lm ((C).den : Int)))]] = some (.bool true) := by
  refine RL_of (f := 33) (fn := Tryz.f33) Tryz.func33 rfl rfl rfl (Nat.le_of_ble_eq_true rfl) ?_
  have s := sg_pos h
  simp -implicitDefEqProofs (maxSteps := 5000000) (disch := first | omega | (with_reducible apply Nat.le_trans; (focus (repeat' (first | with_reducible assumption | with_reducible apply rb_mul | with_reducible apply rb_add | with_reducible apply rb_sub | with_reducible apply rb_neg | with_reducible apply rb_div | with_reducible apply rb_divInt | with_reducible apply rb_int | with_reducible apply lb_mul | with_reducible apply lb_add | with_reducible apply lb_sub | with_reducible apply lb_neg | exact Nat.le_refl _))); omega)) only [go_sem, s, if_pos, if_neg, dec_t, dec_f, IntWalk.i64_in, IntWalk.u32_in, IntWalk.u64_in, beq_no]
/-- The center relative to a point of the circle, and to another one. -/
theorem center_two {u v s t d x1 y1 x2 y2 : Rat} (hd : d = u * t - v * s) (h0 : d ≠ 0)
    (e1 : x1 = ((u * u + v * v) * t - (s * s + t * t) * v) / (d + d)) (e2 : y1 = ((s * s + t * t) * u - (u * u + v * v) * s) / (d + d))
    (e3 : x2 = (((0 - s) * (0 - s) + (0 - t) * (0 - t)) * (v - t) - ((u - s) * (u - s) + (v - t) * (v - t)) * (0 - t)) / (d + d)) (e4 : y2 = (((u - s) * (u - s) + (v - t) * (v - t)) * (0 - s) - ((0 - s) * (0 - s) + (0 - t) * (0 - t)) * (u - s)) / (d + d)) :
    s + x2 = x1 ∧ t + y2 = y1 := by
  have hD : d + d ≠ 0 := by grind
  have k1 : x1 * (d + d) = (u * u + v * v) * t - (s * s + t * t) * v := by rw [e1]; grind
  have k2 : y1 * (d + d) = (s * s + t * t) * u - (u * u + v * v) * s := by rw [e2]; grind
  have k3 : x2 * (d + d) = ((0 - s) * (0 - s) + (0 - t) * (0 - t)) * (v - t) - ((u - s) * (u - s) + (v - t) * (v - t)) * (0 - t) := by rw [e3]; grind
  have k4 : y2 * (d + d) = ((u - s) * (u - s) + (v - t) * (v - t)) * (0 - s) - ((0 - s) * (0 - s) + (0 - t) * (0 - t)) * (u - s) := by rw [e4]; grind
  clear e1 e2 e3 e4
  constructor
  · have : (s + x2 - x1) * (d + d) = 0 := by
      have : (s + x2 - x1) * (d + d) = s * (d + d) + x2 * (d + d) - x1 * (d + d) := by grind
      rw [this, k1, k3, hd]; grind
    rcases Rat.mul_eq_zero.1 this with h | h
    · grind
    · exact absurd h hD
  · have : (t + y2 - y1) * (d + d) = 0 := by
      have : (t + y2 - y1) * (d + d) = t * (d + d) + y2 * (d + d) - y1 * (d + d) := by grind
      rw [this, k2, k4, hd]; grind
    rcases Rat.mul_eq_zero.1 this with h | h
    · grind
    · exact absurd h hD
theorem center_on {u v s t d x y : Rat} (hd : d = u * t - v * s) (h0 : d ≠ 0)
    (e1 : x = ((u * u + v * v) * t - (s * s + t * t) * v) / (d + d)) (e2 : y = ((s * s + t * t) * u - (u * u + v * v) * s) / (d + d)) :
    (u - x) * (u - x) + (v - y) * (v - y) - (x * x + y * y) = 0 ∧ (s - x) * (s - x) + (t - y) * (t - y) - (x * x + y * y) = 0 ∧ 0 < x * x + y * y := by
  have hD : d + d ≠ 0 := by grind
  have k1 : x * (d + d) = (u * u + v * v) * t - (s * s + t * t) * v := by rw [e1]; grind
  have k2 : y * (d + d) = (s * s + t * t) * u - (u * u + v * v) * s := by rw [e2]; grind
  clear e1 e2
  have a1 : (u * u + v * v - 2 * (u * x + v * y)) = 0 := by
    have : (u * u + v * v - 2 * (u * x + v * y)) * (d + d) = 0 := by
      have : (u * u + v * v - 2 * (u * x + v * y)) * (d + d) = (u * u + v * v) * (d + d) - 2 * (u * (x * (d + d)) + v * (y * (d + d))) := by grind
      rw [this, k1, k2, hd]; grind
    rcases Rat.mul_eq_zero.1 this with h | h
    · exact h
    · exact absurd h hD
  have a2 : (s * s + t * t - 2 * (s * x + t * y)) = 0 := by
    have : (s * s + t * t - 2 * (s * x + t * y)) * (d + d) = 0 := by
      have : (s * s + t * t - 2 * (s * x + t * y)) * (d + d) = (s * s + t * t) * (d + d) - 2 * (s * (x * (d + d)) + t * (y * (d + d))) := by grind
      rw [this, k1, k2, hd]; grind
    rcases Rat.mul_eq_zero.1 this with h | h
    · exact h
    · exact absurd h hD
  refine ⟨by grind, by grind, ?_⟩
  have nz : x ≠ 0 ∨ y ≠ 0 := by
    by_cases hx : x = 0
    · right
      intro hy
      rw [hx, hy] at a1
      have hu : u * u + v * v = 0 := by grind
      by_cases k : u ≠ 0 ∨ v ≠ 0
      · exact sum_ne k hu
      · have u0 : u = 0 := Classical.byContradiction fun h => k (.inl h)
        have v0 : v = 0 := Classical.byContradiction fun h => k (.inr h)
        exact h0 (by rw [hd, u0, v0]; grind)
    · exact .inl hx
  have := sum_ne nz
  have q : ∀ x : Rat, 0 ≤ x * x := fun x => Isq.nn ⟨x, rfl⟩
  have := q x
  have := q y
  grind
theorem circle_law {p q t : PV} (h : ArgT Pq 9 24 p) (h' : ArgT Pq 9 24 q) (h'' : ArgT Pq 9 24 t) : Rq 7 [p, q, t] = some (.bool true) := by
  obtain ⟨_, _, _, ax, ay, rfl, e1, l1, l2⟩ := spot_v h
  obtain ⟨_, _, _, bx, bz, rfl, e2, l3, l4⟩ := spot_v h'
  obtain ⟨_, _, _, cx, cy, rfl, e3, l5, l6⟩ := spot_v h''
  refine RL_of (f := 7) (fn := Tryz.f7) Tryz.func7 rfl rfl rfl (Nat.le_of_ble_eq_true rfl) ?_
  have aw := awake8_r
  clear h h' h''
  simp only [zV_eq] at e1 e2 e3
  by_cases k : (bx - ax) * (cy - ay) - (bz - ay) * (cx - ax) = 0
  · have t1 := cthrough_0 (ax := ax) (ay := ay) (bx := bx) (bz := bz) (cx := cx) (cy := cy) (by omega) (by omega) (by omega) (by omega) (by omega) (by omega) k
    have t2 := cthrough_0 (ax := cx) (ay := cy) (bx := ax) (bz := ay) (cx := bx) (cy := bz) (by omega) (by omega) (by omega) (by omega) (by omega) (by omega) (by grind)
    have t3 := cthrough8_0 (ax := ax) (ay := ay) (bx := bx) (bz := bz) (cx := cx) (cy := cy) (by omega) (by omega) (by omega) (by omega) (by omega) (by omega) k
    simp only [z12] at t1 t2 t3
    simp -implicitDefEqProofs (maxSteps := 5000000) (disch := first | omega | (with_reducible apply Nat.le_trans; (focus (repeat' (first | with_reducible assumption | with_reducible apply rb_mul | with_reducible apply rb_add | with_reducible apply rb_sub | with_reducible apply rb_neg | with_reducible apply rb_div | with_reducible apply rb_divInt | with_reducible apply rb_int | with_reducible apply lb_mul | with_reducible apply lb_add | with_reducible apply lb_sub | with_reducible apply lb_neg | exact Nat.le_refl _))); omega)) only [go_sem, aw, e1, e2, e3, t1, t2, t3, if_pos, if_neg, dec_t, dec_f, IntWalk.i64_in, IntWalk.u32_in, IntWalk.u64_in, beq_no]
  · obtain ⟨u, hu⟩ : ∃ u, u = bx - ax := ⟨_, rfl⟩
    obtain ⟨v, hv⟩ : ∃ v, v = bz - ay := ⟨_, rfl⟩
    obtain ⟨s, hs⟩ : ∃ s, s = cx - ax := ⟨_, rfl⟩
    obtain ⟨t, ht⟩ : ∃ t, t = cy - ay := ⟨_, rfl⟩
    obtain ⟨d, hd⟩ : ∃ d, d = u * t - v * s := ⟨_, rfl⟩
    have d0 : d ≠ 0 := by rw [hd, hu, hv, hs, ht]; exact k
    obtain ⟨x1, hx1⟩ : ∃ x, x = ((u * u + v * v) * t - (s * s + t * t) * v) / (d + d) := ⟨_, rfl⟩
    obtain ⟨y1, hy1⟩ : ∃ y, y = ((s * s + t * t) * u - (u * u + v * v) * s) / (d + d) := ⟨_, rfl⟩
    obtain ⟨x2, hx2⟩ : ∃ x, x = (((0 - s) * (0 - s) + (0 - t) * (0 - t)) * (v - t) - ((u - s) * (u - s) + (v - t) * (v - t)) * (0 - t)) / (d + d) := ⟨_, rfl⟩
    obtain ⟨y2, hy2⟩ : ∃ y, y = (((u - s) * (u - s) + (v - t) * (v - t)) * (0 - s) - ((0 - s) * (0 - s) + (0 - t) * (0 - t)) * (u - s)) / (d + d) := ⟨_, rfl⟩
    have ct := center_two hd d0 hx1 hy1 hx2 hy2
    have co := center_on hd d0 hx1 hy1
    have t1 := cthrough_s (ax := ax) (ay := ay) (bx := bx) (bz := bz) (cx := cx) (cy := cy) (by omega) (by omega) (by omega) (by omega) (by omega) (by omega) hu hv hs ht hd d0 hx1 hy1
    have t3 := cthrough8_s (ax := ax) (ay := ay) (bx := bx) (bz := bz) (cx := cx) (cy := cy) (by omega) (by omega) (by omega) (by omega) (by omega) (by omega) hu hv hs ht hd d0 hx1 hy1
    have t2 := cthrough_s (ax := cx) (ay := cy) (bx := ax) (bz := ay) (cx := bx) (cy := bz) (by omega) (by omega) (by omega) (by omega) (by omega) (by omega) (u := 0 - s) (v := 0 - t) (s := u - s) (t := v - t) (d := d) (x := x2) (y := y2) (by grind) (by grind) (by grind) (by grind) (by grind) d0 hx2 hy2
    have ru : rl u ≤ 30 := by rw [hu]; (with_reducible apply Nat.le_trans; (focus (repeat' (first | with_reducible assumption | with_reducible apply rb_mul | with_reducible apply rb_add | with_reducible apply rb_sub | with_reducible apply rb_neg | with_reducible apply rb_div | with_reducible apply rb_divInt | with_reducible apply rb_int | with_reducible apply lb_mul | with_reducible apply lb_add | with_reducible apply lb_sub | with_reducible apply lb_neg | exact Nat.le_refl _))); omega)
    have rv : rl v ≤ 30 := by rw [hv]; (with_reducible apply Nat.le_trans; (focus (repeat' (first | with_reducible assumption | with_reducible apply rb_mul | with_reducible apply rb_add | with_reducible apply rb_sub | with_reducible apply rb_neg | with_reducible apply rb_div | with_reducible apply rb_divInt | with_reducible apply rb_int | with_reducible apply lb_mul | with_reducible apply lb_add | with_reducible apply lb_sub | with_reducible apply lb_neg | exact Nat.le_refl _))); omega)
    have rs : rl s ≤ 30 := by rw [hs]; (with_reducible apply Nat.le_trans; (focus (repeat' (first | with_reducible assumption | with_reducible apply rb_mul | with_reducible apply rb_add | with_reducible apply rb_sub | with_reducible apply rb_neg | with_reducible apply rb_div | with_reducible apply rb_divInt | with_reducible apply rb_int | with_reducible apply lb_mul | with_reducible apply lb_add | with_reducible apply lb_sub | with_reducible apply lb_neg | exact Nat.le_refl _))); omega)
    have rt : rl t ≤ 30 := by rw [ht]; (with_reducible apply Nat.le_trans; (focus (repeat' (first | with_reducible assumption | with_reducible apply rb_mul | with_reducible apply rb_add | with_reducible apply rb_sub | with_reducible apply rb_neg | with_reducible apply rb_div | with_reducible apply rb_divInt | with_reducible apply rb_int | with_reducible apply lb_mul | with_reducible apply lb_add | with_reducible apply lb_sub | with_reducible apply lb_neg | exact Nat.le_refl _))); omega)
    have rd : rl d ≤ 200 := by rw [hd]; (with_reducible apply Nat.le_trans; (focus (repeat' (first | with_reducible assumption | with_reducible apply rb_mul | with_reducible apply rb_add | with_reducible apply rb_sub | with_reducible apply rb_neg | with_reducible apply rb_div | with_reducible apply rb_divInt | with_reducible apply rb_int | with_reducible apply lb_mul | with_reducible apply lb_add | with_reducible apply lb_sub | with_reducible apply lb_neg | exact Nat.le_refl _))); omega)
    have lx1 : rl x1 ≤ 900 := by rw [hx1]; (with_reducible apply Nat.le_trans; (focus (repeat' (first | with_reducible assumption | with_reducible apply rb_mul | with_reducible apply rb_add | with_reducible apply rb_sub | with_reducible apply rb_neg | with_reducible apply rb_div | with_reducible apply rb_divInt | with_reducible apply rb_int | with_reducible apply lb_mul | with_reducible apply lb_add | with_reducible apply lb_sub | with_reducible apply lb_neg | exact Nat.le_refl _))); omega)
    have ly1 : rl y1 ≤ 900 := by rw [hy1]; (with_reducible apply Nat.le_trans; (focus (repeat' (first | with_reducible assumption | with_reducible apply rb_mul | with_reducible apply rb_add | with_reducible apply rb_sub | with_reducible apply rb_neg | with_reducible apply rb_div | with_reducible apply rb_divInt | with_reducible apply rb_int | with_reducible apply lb_mul | with_reducible apply lb_add | with_reducible apply lb_sub | with_reducible apply lb_neg | exact Nat.le_refl _))); omega)
    clear hx1 hy1 hx2 hy2 rd rt rs rv ru
    have q1 : cx + x2 = ax + x1 := by grind
    have q2 : cy + y2 = ay + y1 := by grind
    have q3 : x2 * x2 + y2 * y2 = x1 * x1 + y1 * y1 := by
      have a : x2 = x1 - s := by grind
      have b : y2 = y1 - t := by grind
      rw [a, b]
      grind
    rw [q1, q2, q3] at t2
    have lQ : rl (x1 * x1 + y1 * y1) ≤ 9000 := by (with_reducible apply Nat.le_trans; (focus (repeat' (first | with_reducible assumption | with_reducible apply rb_mul | with_reducible apply rb_add | with_reducible apply rb_sub | with_reducible apply rb_neg | with_reducible apply rb_div | with_reducible apply rb_divInt | with_reducible apply rb_int | with_reducible apply lb_mul | with_reducible apply lb_add | with_reducible apply lb_sub | with_reducible apply lb_neg | exact Nat.le_refl _))); omega)
    have lX : rl (ax + x1) ≤ 1000 := by (with_reducible apply Nat.le_trans; (focus (repeat' (first | with_reducible assumption | with_reducible apply rb_mul | with_reducible apply rb_add | with_reducible apply rb_sub | with_reducible apply rb_neg | with_reducible apply rb_div | with_reducible apply rb_divInt | with_reducible apply rb_int | with_reducible apply lb_mul | with_reducible apply lb_add | with_reducible apply lb_sub | with_reducible apply lb_neg | exact Nat.le_refl _))); omega)
    have lY : rl (ay + y1) ≤ 1000 := by (with_reducible apply Nat.le_trans; (focus (repeat' (first | with_reducible assumption | with_reducible apply rb_mul | with_reducible apply rb_add | with_reducible apply rb_sub | with_reducible apply rb_neg | with_reducible apply rb_div | with_reducible apply rb_divInt | with_reducible apply rb_int | with_reducible apply lb_mul | with_reducible apply lb_add | with_reducible apply lb_sub | with_reducible apply lb_neg | exact Nat.le_refl _))); omega)
    have i1 := suppInsideAt_s (X := ax + x1) (Y := ay + y1) (Q := x1 * x1 + y1 * y1) (x := ax) (y := ay) (by omega) (by omega) (by omega) (by omega) (by omega)
    have i2 := suppInsideAt_s (X := ax + x1) (Y := ay + y1) (Q := x1 * x1 + y1 * y1) (x := bx) (y := bz) (by omega) (by omega) (by omega) (by omega) (by omega)
    have i3 := suppInsideAt_s (X := ax + x1) (Y := ay + y1) (Q := x1 * x1 + y1 * y1) (x := cx) (y := cy) (by omega) (by omega) (by omega) (by omega) (by omega)
    rw [sg_nought (by grind)] at i1
    rw [sg_nought (by have := co.1; rw [hu, hv] at this; grind)] at i2
    rw [sg_nought (by have := co.2.1; rw [hs, ht] at this; grind)] at i3
    have vc := validCircle8_s (A := ax + x1) (B := ay + y1) (C := x1 * x1 + y1 * y1) (by omega) (by omega) (by omega) co.2.2
    have sc := sameCircle8_s (A := ax + x1) (B := ay + y1) (C := x1 * x1 + y1 * y1) (D := ax + x1) (E := ay + y1) (F := x1 * x1 + y1 * y1) (by omega) (by omega) (by omega) (by omega) (by omega) (by omega)
    rw [dec_t ⟨rfl, rfl, rfl⟩] at sc
    clear ct co hu hv hs ht hd d0 k q1 q2 q3
    generalize x1 * x1 + y1 * y1 = Q at *
    generalize ax + x1 = X at *
    generalize ay + y1 = Y at *
    simp only [zR_eq] at t1 t2 t3
    simp -implicitDefEqProofs (maxSteps := 5000000) (disch := first | omega | (with_reducible apply Nat.le_trans; (focus (repeat' (first | with_reducible assumption | with_reducible apply rb_mul | with_reducible apply rb_add | with_reducible apply rb_sub | with_reducible apply rb_neg | with_reducible apply rb_div | with_reducible apply rb_divInt | with_reducible apply rb_int | with_reducible apply lb_mul | with_reducible apply lb_add | with_reducible apply lb_sub | with_reducible apply lb_neg | exact Nat.le_refl _))); omega)) only [go_sem, aw, e1, e2, e3, t1, t2, t3, i1, i2, i3, vc, sc, if_pos, if_neg, dec_t, dec_f, IntWalk.i64_in, IntWalk.u32_in, IntWalk.u64_in, beq_no]
theorem exF_scale {n A B C : Rat} (hn : n ≠ 0) (h0 : 0 ≤ C) : exF (A * n) (B * n) C = sg n * exF A B C := by
  have h1 := va_sgn (A := A * n) (B := B * n) h0
  have h2 := ((Sgn.const n).mul (va_sgn (A := A) (B := B) h0) (Bnd.const n) (Bnd.va A B h0)).congr (y := va (A * n) (B * n) C) (fun k => by unfold va; grind)
  exact h1.uniq h2
theorem dec_iff {p q : Prop} (h : p ↔ q) : dec p = dec q := by rw [propext h]
theorem same_law {p q t : PV} (h : ArgT Pq 9 46 p) (h' : ArgT Pq 9 46 q) (h'' : ArgT Pq 9 22 t) : Rq 9 [p, q, t] = some (.bool true) := by
  obtain ⟨a, b, c, d, rfl, ha, hb, hc, hd⟩ := arg_Straight h
  obtain ⟨a', b', c', d', rfl, ha', hb', hc', hd'⟩ := arg_Straight h'
  obtain ⟨n, rfl, hn⟩ : ∃ n, t = .int .i16 n ∧ -32768 ≤ n ∧ n < 32768 := by
    unfold ArgT at h''
    rw [Tryz.underlying22] at h''
    obtain ⟨n, h1, hn⟩ := typ_i16 (d := 8) h''
    exact ⟨n, (List.cons.inj h1).1, hn⟩
  obtain ⟨A, B, C, ln, -, lA, lB, lC⟩ := line8_s ha hb hc hd
  obtain ⟨D, E, F, ln2, -, lD, lE, lF⟩ := line8_s ha' hb' hc' hd'
  obtain ⟨AX, BX, AY, BY, PC, pt, hp, l1, l2, l3, l4, l5⟩ := of7_s (c := d') (d := 0) ha' hb' hc' ha (by omega) (by omega)
  refine RL_of (f := 9) (fn := Tryz.f9) Tryz.func9 rfl rfl rfl (Nat.le_of_ble_eq_true rfl) ?_
  have aw := awake8_r
  have s1 := sameLine_s (A := A) (B := B) (C := C) (D := D) (E := E) (F := F) (by omega) (by omega) (by omega) (by omega) (by omega) (by omega)
  have s2 := sameLine_s (A := D) (B := E) (C := F) (D := A) (E := B) (F := C) (by omega) (by omega) (by omega) (by omega) (by omega) (by omega)
  have s3 := sameLine8_s (A := A) (B := B) (C := C) (D := D) (E := E) (F := F) (by omega) (by omega) (by omega) (by omega) (by omega) (by omega)
  rw [dec_iff (q := A * E = B * D ∧ A * F = C * D ∧ B * F = C * E) (by constructor <;> rintro ⟨h1, h2, h3⟩ <;> refine ⟨?_, ?_, ?_⟩ <;> grind)] at s1 s2
  generalize dec (A * E = B * D ∧ A * F = C * D ∧ B * F = C * E) = z at *
  simp only [zR_eq, zP_eq] at ln ln2 pt
  by_cases n0 : n = 0
  · subst n0
    clear h h' h'' ha hb hc hd ha' hb' hc' hd' hn
    cases z
    · simp -implicitDefEqProofs (maxSteps := 5000000) (disch := first | omega | (with_reducible apply Nat.le_trans; (focus (repeat' (first | with_reducible assumption | with_reducible apply rb_mul | with_reducible apply rb_add | with_reducible apply rb_sub | with_reducible apply rb_neg | with_reducible apply rb_div | with_reducible apply rb_divInt | with_reducible apply rb_int | with_reducible apply lb_mul | with_reducible apply lb_add | with_reducible apply lb_sub | with_reducible apply lb_neg | exact Nat.le_refl _))); omega)) only [go_sem, aw, ln, ln2, s1, s2, s3, if_pos, if_neg, dec_t, dec_f, IntWalk.i64_in, IntWalk.u32_in, IntWalk.u64_in, beq_no]
    · simp -implicitDefEqProofs (maxSteps := 5000000) (disch := first | omega | (with_reducible apply Nat.le_trans; (focus (repeat' (first | with_reducible assumption | with_reducible apply rb_mul | with_reducible apply rb_add | with_reducible apply rb_sub | with_reducible apply rb_neg | with_reducible apply rb_div | with_reducible apply rb_divInt | with_reducible apply rb_int | with_reducible apply lb_mul | with_reducible apply lb_add | with_reducible apply lb_sub | with_reducible apply lb_neg | exact Nat.le_refl _))); omega)) only [go_sem, aw, ln, ln2, s1, s2, s3, if_pos, if_neg, dec_t, dec_f, IntWalk.i64_in, IntWalk.u32_in, IntWalk.u64_in, beq_no]
  · have k1 := ll_64 (n := n) (by omega) (by omega)
    have k2 := ll_64 (n := 3) (by omega) (by omega)
    have lr : rl (Rat.divInt n 3) ≤ 7 := by (with_reducible apply Nat.le_trans; (focus (repeat' (first | with_reducible assumption | with_reducible apply rb_mul | with_reducible apply rb_add | with_reducible apply rb_sub | with_reducible apply rb_neg | with_reducible apply rb_div | with_reducible apply rb_divInt | with_reducible apply rb_int | with_reducible apply lb_mul | with_reducible apply lb_add | with_reducible apply lb_sub | with_reducible apply lb_neg | exact Nat.le_refl _))); omega)
    have fr := qFrac'_s (n := n) (d := 3) (by omega) (by omega) (by omega) (by omega)
    have nn : Rat.divInt n 3 ≠ 0 := divInt_ne n0 (by omega)
    have sn : sg (Rat.divInt n 3) = if n < 0 then -1 else 1 := by
      split
      · have := divInt_pos (p := -n) (q := 3) (by omega) (by omega)
        rw [← Rat.neg_divInt] at this
        exact sg_neg (by grind)
      · exact sg_pos (divInt_pos (by omega) (by omega))
    generalize Rat.divInt n 3 = k at *
    have s4 := sameLine_s (A := A) (B := B) (C := C) (D := A * k) (E := B * k) (F := C * k) (by omega) (by omega) (by omega) (by (with_reducible apply Nat.le_trans; (focus (repeat' (first | with_reducible assumption | with_reducible apply rb_mul | with_reducible apply rb_add | with_reducible apply rb_sub | with_reducible apply rb_neg | with_reducible apply rb_div | with_reducible apply rb_divInt | with_reducible apply rb_int | with_reducible apply lb_mul | with_reducible apply lb_add | with_reducible apply lb_sub | with_reducible apply lb_neg | exact Nat.le_refl _))); omega)) (by (with_reducible apply Nat.le_trans; (focus (repeat' (first | with_reducible assumption | with_reducible apply rb_mul | with_reducible apply rb_add | with_reducible apply rb_sub | with_reducible apply rb_neg | with_reducible apply rb_div | with_reducible apply rb_divInt | with_reducible apply rb_int | with_reducible apply lb_mul | with_reducible apply lb_add | with_reducible apply lb_sub | with_reducible apply lb_neg | exact Nat.le_refl _))); omega)) (by (with_reducible apply Nat.le_trans; (focus (repeat' (first | with_reducible assumption | with_reducible apply rb_mul | with_reducible apply rb_add | with_reducible apply rb_sub | with_reducible apply rb_neg | with_reducible apply rb_div | with_reducible apply rb_divInt | with_reducible apply rb_int | with_reducible apply lb_mul | with_reducible apply lb_add | with_reducible apply lb_sub | with_reducible apply lb_neg | exact Nat.le_refl _))); omega))
    rw [dec_t ⟨by grind, by grind, by grind⟩] at s4
    have s5 := suppSide_s (A := A) (B := B) (C := C) (AX := AX) (BX := BX) (AY := AY) (BY := BY) (PC := PC) (by omega) (by omega) (by omega) (by omega) (by omega) (by omega) (by omega) (by omega) hp.nn
    have s6 := suppSide_s (A := A * k) (B := B * k) (C := C * k) (AX := AX) (BX := BX) (AY := AY) (BY := BY) (PC := PC) (by (with_reducible apply Nat.le_trans; (focus (repeat' (first | with_reducible assumption | with_reducible apply rb_mul | with_reducible apply rb_add | with_reducible apply rb_sub | with_reducible apply rb_neg | with_reducible apply rb_div | with_reducible apply rb_divInt | with_reducible apply rb_int | with_reducible apply lb_mul | with_reducible apply lb_add | with_reducible apply lb_sub | with_reducible apply lb_neg | exact Nat.le_refl _))); omega)) (by (with_reducible apply Nat.le_trans; (focus (repeat' (first | with_reducible assumption | with_reducible apply rb_mul | with_reducible apply rb_add | with_reducible apply rb_sub | with_reducible apply rb_neg | with_reducible apply rb_div | with_reducible apply rb_divInt | with_reducible apply rb_int | with_reducible apply lb_mul | with_reducible apply lb_add | with_reducible apply lb_sub | with_reducible apply lb_neg | exact Nat.le_refl _))); omega)) (by (with_reducible apply Nat.le_trans; (focus (repeat' (first | with_reducible assumption | with_reducible apply rb_mul | with_reducible apply rb_add | with_reducible apply rb_sub | with_reducible apply rb_neg | with_reducible apply rb_div | with_reducible apply rb_divInt | with_reducible apply rb_int | with_reducible apply lb_mul | with_reducible apply lb_add | with_reducible apply lb_sub | with_reducible apply lb_neg | exact Nat.le_refl _))); omega)) (by omega) (by omega) (by omega) (by omega) (by omega) hp.nn
    rw [show A * k * AX + B * k * AY - C * k = (A * AX + B * AY - C) * k by grind, show A * k * BX + B * k * BY = (A * BX + B * BY) * k by grind, exF_scale nn hp.nn, sn] at s6
    have bd := exF_bd (A := A * AX + B * AY - C) (B := A * BX + B * BY) hp.nn
    generalize exF _ _ _ = w at *
    simp only [zR_eq, zP_eq, zQ_eq] at s5 s6 fr
    have wr : IntKind.u16.wrap d' = d' := by rw [show IntKind.u16.wrap d' = d' % 65536 by simp [IntKind.wrap, IntKind.bits, IntKind.signed]]; omega
    clear nn sn h h' h'' ha hb hc hd ha' hb' hc' hd'
    by_cases hneg : n < 0
    · rw [if_pos hneg] at s6
      cases z
      · simp -implicitDefEqProofs (maxSteps := 5000000) (disch := first | omega | (with_reducible apply Nat.le_trans; (focus (repeat' (first | with_reducible assumption | with_reducible apply rb_mul | with_reducible apply rb_add | with_reducible apply rb_sub | with_reducible apply rb_neg | with_reducible apply rb_div | with_reducible apply rb_divInt | with_reducible apply rb_int | with_reducible apply lb_mul | with_reducible apply lb_add | with_reducible apply lb_sub | with_reducible apply lb_neg | exact Nat.le_refl _))); omega)) only [go_sem, aw, ln, ln2, s1, s2, s3, n0, fr, s4, s5, s6, pt, wr, hneg, if_pos, if_neg, dec_t, dec_f, IntWalk.i64_in, IntWalk.u32_in, IntWalk.u64_in, beq_no]
      · simp -implicitDefEqProofs (maxSteps := 5000000) (disch := first | omega | (with_reducible apply Nat.le_trans; (focus (repeat' (first | with_reducible assumption | with_reducible apply rb_mul | with_reducible apply rb_add | with_reducible apply rb_sub | with_reducible apply rb_neg | with_reducible apply rb_div | with_reducible apply rb_divInt | with_reducible apply rb_int | with_reducible apply lb_mul | with_reducible apply lb_add | with_reducible apply lb_sub | with_reducible apply lb_neg | exact Nat.le_refl _))); omega)) only [go_sem, aw, ln, ln2, s1, s2, s3, n0, fr, s4, s5, s6, pt, wr, hneg, if_pos, if_neg, dec_t, dec_f, IntWalk.i64_in, IntWalk.u32_in, IntWalk.u64_in, beq_no]
    · rw [if_neg hneg] at s6
      cases z
      · simp -implicitDefEqProofs (maxSteps := 5000000) (disch := first | omega | (with_reducible apply Nat.le_trans; (focus (repeat' (first | with_reducible assumption | with_reducible apply rb_mul | with_reducible apply rb_add | with_reducible apply rb_sub | with_reducible apply rb_neg | with_reducible apply rb_div | with_reducible apply rb_divInt | with_reducible apply rb_int | with_reducible apply lb_mul | with_reducible apply lb_add | with_reducible apply lb_sub | with_reducible apply lb_neg | exact Nat.le_refl _))); omega)) only [go_sem, aw, ln, ln2, s1, s2, s3, n0, fr, s4, s5, s6, pt, wr, hneg, if_pos, if_neg, dec_t, dec_f, IntWalk.i64_in, IntWalk.u32_in, IntWalk.u64_in, beq_no]
      · simp -implicitDefEqProofs (maxSteps := 5000000) (disch := first | omega | (with_reducible apply Nat.le_trans; (focus (repeat' (first | with_reducible assumption | with_reducible apply rb_mul | with_reducible apply rb_add | with_reducible apply rb_sub | with_reducible apply rb_neg | with_reducible apply rb_div | with_reducible apply rb_divInt | with_reducible apply rb_int | with_reducible apply lb_mul | with_reducible apply lb_add | with_reducible apply lb_sub | with_reducible apply lb_neg | exact Nat.le_refl _))); omega)) only [go_sem, aw, ln, ln2, s1, s2, s3, n0, fr, s4, s5, s6, pt, wr, hneg, if_pos, if_neg, dec_t, dec_f, IntWalk.i64_in, IntWalk.u32_in, IntWalk.u64_in, beq_no]
end Go.Pi
