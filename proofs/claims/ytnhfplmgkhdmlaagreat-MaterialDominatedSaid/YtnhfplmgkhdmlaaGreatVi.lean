/- What is proved: arguments of the statements, lists of cuts, the examples of the chapter. No conditions beyond those in the statements. -/
import Derived.Test.YtnhfplmgkhdmlaaGreatVd
import Derived.Test.YtnhfplmgkhdmlaaGreatTw
import Derived.Test.YtnhfplmgkhdmlaaGreatVh
import Derived.Test.YtnhfplmgkhdmlaaGreatDy
import Derived.Test.YtnhfplmgkhdmlaaGreatQb
set_option linter.unusedVariables false
set_option linter.unusedSimpArgs false
set_option maxHeartbeats 4000000
set_option maxRecDepth 8000
/-
What the arguments of the statements on material hold.
-/
namespace Go.Pi
open Go Go.Proofs Num
@[go_sem] theorem ti_i16 : ti Pq 22 = some ⟨.int .i16, 1, 2, [.int .i16 0]⟩ := by kernel_rfl
@[go_sem] theorem ti_Spot : ti Pq 27 = some ⟨.struct [(0, 1), (1, 1), (2, 1)], 3, 6, [.int .i16 0, .int .i16 0, .int .u8 0]⟩ := by kernel_rfl
@[go_sem] theorem ti_p16 : ti Pq 23 = some ⟨.array 3 22, 3, 6, [.int .i16 0, .int .i16 0, .int .i16 0]⟩ := by kernel_rfl
@[go_sem] theorem ti_Stroke : ti Pq 25 = some ⟨.struct [(0, 3), (3, 3), (6, 1)], 7, 14, [.int .i16 0, .int .i16 0, .int .i16 0, .int .i16 0, .int .i16 0, .int .i16 0, .int .u8 0]⟩ := by kernel_rfl
@[go_sem] theorem ti_Strokes : ti Pq 32 = some ⟨.slice 25, 1, 24, [.sl true []]⟩ := by kernel_rfl
@[go_sem] theorem ti_rCuts : ti Pq 29 = some ⟨.slice 46, 1, 24, [.sl true []]⟩ := by kernel_rfl
@[go_sem] theorem ti_mCuts : ti Pq 59 = some ⟨.slice 45, 1, 24, [.sl true []]⟩ := by kernel_rfl
@[go_sem] theorem ti_u82 : ti Pq 63 = some ⟨.array 2 5, 2, 2, [.int .u8 0, .int .u8 0]⟩ := by kernel_rfl
@[go_sem] theorem ti_Stroke2 : ti Pq 53 = some ⟨.array 2 25, 14, 28, [.int .i16 0, .int .i16 0, .int .i16 0, .int .i16 0, .int .i16 0, .int .i16 0, .int .u8 0, .int .i16 0, .int .i16 0, .int .i16 0, .int .i16 0, .int .i16 0, .int .i16 0, .int .u8 0]⟩ := by kernel_rfl
theorem typ_i16 {d : Nat} {cs : List PV} (h : Typ Pq (d + 1) 22 cs) : ∃ a, cs = [.int .i16 a] ∧ -32768 ≤ a ∧ a < 32768 := by
  simp only [Typ, Tryz.underlying22] at h
  obtain ⟨n, rfl, hw⟩ := h
  refine ⟨n, rfl, ?_⟩
  simp only [Lit.wf, Bool.and_eq_true, decide_eq_true_eq] at hw
  have e1 : IntKind.i16.min = -32768 := by decide
  have e2 : IntKind.i16.max = 32767 := by decide
  rw [e1, e2] at hw
  omega
theorem typ_u8 {d : Nat} {cs : List PV} (h : Typ Pq (d + 1) 5 cs) : ∃ a, cs = [.int .u8 a] ∧ 0 ≤ a ∧ a < 256 := by
  simp only [Typ, Tryz.underlying5] at h
  obtain ⟨n, rfl, hw⟩ := h
  refine ⟨n, rfl, ?_⟩
  simp only [Lit.wf, Bool.and_eq_true, decide_eq_true_eq] at hw
  have e1 : IntKind.u8.min = 0 := by decide
  have e2 : IntKind.u8.max = 255 := by decide
  rw [e1, e2] at hw
  omega
theorem arg_i16 {p : PV} (h : ArgT Pq 9 22 p) : ∃ a, p = .int .i16 a ∧ -32768 ≤ a ∧ a < 32768 := by
  unfold ArgT at h
  rw [Tryz.underlying22] at h
  obtain ⟨a, e, ha⟩ := typ_i16 (d := 8) h
  exact ⟨a, by simpa using e, ha⟩
theorem arg_u8 {p : PV} (h : ArgT Pq 9 5 p) : ∃ a, p = .int .u8 a ∧ 0 ≤ a ∧ a < 256 := by
  unfold ArgT at h
  rw [Tryz.underlying5] at h
  obtain ⟨a, e, ha⟩ := typ_u8 (d := 8) h
  exact ⟨a, by simpa using e, ha⟩
theorem arg_Spot {p : PV} (h : ArgT Pq 9 27 p) : ∃ a b c, p = .agg [.int .i16 a, .int .i16 b, .int .u8 c] ∧ (-32768 ≤ a ∧ a < 32768) ∧ (-32768 ≤ b ∧ b < 32768) ∧ (0 ≤ c ∧ c < 256) := by
  obtain ⟨cs, rfl, p, q, rfl, h1, p', q', rfl, h2, p2, q2, rfl, h3, rfl⟩ := arg_struct (d := 8) Tryz.underlying27 h
  obtain ⟨a, rfl, ha⟩ := typ_i16 (d := 7) h1
  obtain ⟨b, rfl, hb⟩ := typ_i16 (d := 7) h2
  obtain ⟨c, rfl, hc⟩ := typ_u8 (d := 7) h3
  exact ⟨a, b, c, rfl, ha, hb, hc⟩
@[go_sem] theorem at2_s {x y d : Int} (h1 : -32768 ≤ x ∧ x < 32768) (h2 : -32768 ≤ y ∧ y < 32768) (h6 : 0 ≤ d ∧ d < 256) :
    Rq 13 [.agg [.int .i16 x, .int .i16 y, .int .u8 d]] = some (.agg (zV (Rat.divInt x (d + 1)) (Rat.divInt y (d + 1)))) := by
  refine RL_of (f := 13) (fn := Tryz.f13) Tryz.func13 rfl rfl rfl (Nat.le_of_ble_eq_true rfl) ?_
  have k1 := ll_64 (n := x) (by omega) (by omega)
  have k2 := ll_64 (n := y) (by omega) (by omega)
  have k6 := ll_64 (n := d + 1) (by omega) (by omega)
  simp -implicitDefEqProofs (maxSteps := 5000000) (disch := first | omega | (with_reducible apply Nat.le_trans; (focus (repeat' (first | with_reducible assumption | with_reducible apply rb_mul | with_reducible apply rb_add | with_reducible apply rb_sub | with_reducible apply rb_neg | with_reducible apply rb_div | with_reducible apply rb_divInt | with_reducible apply rb_int | with_reducible apply lb_mul | with_reducible apply lb_add | with_reducible apply lb_sub | with_reducible apply lb_neg | exact Nat.le_refl _))); omega)) only [go_sem, if_pos, if_neg, dec_t, dec_f, IntWalk.i64_in, IntWalk.u32_in, IntWalk.u64_in, beq_no]
theorem spot_v {p : PV} (h : ArgT Pq 9 27 p) : ∃ a b c x y, p = .agg [.int .i16 a, .int .i16 b, .int .u8 c] ∧ Rq 13 [.agg [.int .i16 a, .int .i16 b, .int .u8 c]] = some (.agg (zV x y)) ∧ rl x ≤ 10 ∧ rl y ≤ 10 := by
  obtain ⟨a, b, c, rfl, ha, hb, hc⟩ := arg_Spot h
  have k1 := ll_64 (n := a) (by omega) (by omega)
  have k2 := ll_64 (n := b) (by omega) (by omega)
  have k6 := ll_64 (n := c + 1) (by omega) (by omega)
  exact ⟨a, b, c, _, _, rfl, at2_s ha hb hc, by (with_reducible apply Nat.le_trans; (focus (repeat' (first | with_reducible assumption | with_reducible apply rb_mul | with_reducible apply rb_add | with_reducible apply rb_sub | with_reducible apply rb_neg | with_reducible apply rb_div | with_reducible apply rb_divInt | with_reducible apply rb_int | with_reducible apply lb_mul | with_reducible apply lb_add | with_reducible apply lb_sub | with_reducible apply lb_neg | exact Nat.le_refl _))); omega), by (with_reducible apply Nat.le_trans; (focus (repeat' (first | with_reducible assumption | with_reducible apply rb_mul | with_reducible apply rb_add | with_reducible apply rb_sub | with_reducible apply rb_neg | with_reducible apply rb_div | with_reducible apply rb_divInt | with_reducible apply rb_int | with_reducible apply lb_mul | with_reducible apply lb_add | with_reducible apply lb_sub | with_reducible apply lb_neg | exact Nat.le_refl _))); omega)⟩
/-- The cells of a stroke. -/
def sC (c : Cut) : List PV := [.int .i16 c.fx, .int .i16 c.fy, .int .i16 c.fz, .int .i16 c.tx, .int .i16 c.ty, .int .i16 c.tz, .int .u8 c.r]
structure _root_.Num.Cut.St (c : Cut) : Prop where
  fx : -32768 ≤ c.fx ∧ c.fx < 32768
  fy : -32768 ≤ c.fy ∧ c.fy < 32768
  fz : -32768 ≤ c.fz ∧ c.fz < 32768
  tx : -32768 ≤ c.tx ∧ c.tx < 32768
  ty : -32768 ≤ c.ty ∧ c.ty < 32768
  tz : -32768 ≤ c.tz ∧ c.tz < 32768
  r : 0 ≤ c.r ∧ c.r < 256
theorem _root_.Num.Cut.St.bd {c : Cut} (h : c.St) : c.Bd := by
  obtain ⟨b1, b2, b3, b4, b5, b6, b7⟩ := h
  exact ⟨by omega, by omega, by omega, by omega, by omega, by omega, by omega⟩
theorem typ_pos16 {d : Nat} {cs : List PV} (h : Typ Pq (d + 2) 23 cs) : ∃ a b c, cs = [.int .i16 a, .int .i16 b, .int .i16 c] ∧ (-32768 ≤ a ∧ a < 32768) ∧ (-32768 ≤ b ∧ b < 32768) ∧ (-32768 ≤ c ∧ c < 32768) := by
  rw [Typ, Tryz.underlying23] at h
  obtain ⟨p, q, rfl, h1, p2, q2, rfl, h2, p3, q3, rfl, h3, rfl⟩ := h
  obtain ⟨a, rfl, ha⟩ := typ_i16 (d := d) h1
  obtain ⟨b, rfl, hb⟩ := typ_i16 (d := d) h2
  obtain ⟨c, rfl, hc⟩ := typ_i16 (d := d) h3
  exact ⟨a, b, c, rfl, ha, hb, hc⟩
theorem typ_Stroke {d : Nat} {cs : List PV} (h : Typ Pq (d + 3) 25 cs) : ∃ c : Cut, cs = sC c ∧ c.St := by
  obtain ⟨p, q, rfl, h1, p', q', rfl, h2, p2, q2, rfl, h3, rfl⟩ := typ_struct (d := d + 2) Tryz.underlying25 h
  obtain ⟨a, b, c, rfl, ha, hb, hc⟩ := typ_pos16 (d := d) h1
  obtain ⟨u, v, w, rfl, hu, hv, hw⟩ := typ_pos16 (d := d) h2
  obtain ⟨r, rfl, hr⟩ := typ_u8 (d := d + 1) h3
  exact ⟨⟨a, b, c, u, v, w, r⟩, rfl, ha, hb, hc, hu, hv, hw, hr⟩
theorem arg_Stroke {p : PV} (h : ArgT Pq 9 25 p) : ∃ c : Cut, p = .agg (sC c) ∧ c.St := by
  unfold ArgT at h
  rw [Tryz.underlying25] at h
  obtain ⟨cs, rfl, h⟩ := h
  obtain ⟨c, rfl, hc⟩ := typ_Stroke (d := 6) h
  exact ⟨c, rfl, hc⟩
theorem arg_Stroke2 {p : PV} (h : ArgT Pq 9 53 p) : ∃ c d : Cut, p = .agg (sC c ++ sC d) ∧ c.St ∧ d.St := by
  unfold ArgT at h
  rw [Tryz.underlying53] at h
  obtain ⟨cs, rfl, h⟩ := h
  rw [Typ, Tryz.underlying53] at h
  obtain ⟨p, q, rfl, h1, p2, q2, rfl, h2, rfl⟩ := h
  obtain ⟨c, rfl, hc⟩ := typ_Stroke (d := 5) h1
  obtain ⟨d, rfl, hd⟩ := typ_Stroke (d := 5) h2
  exact ⟨c, d, by simp, hc, hd⟩
theorem arg_u82 {p : PV} (h : ArgT Pq 9 63 p) : ∃ a b, p = .agg [.int .u8 a, .int .u8 b] ∧ (0 ≤ a ∧ a < 256) ∧ (0 ≤ b ∧ b < 256) := by
  unfold ArgT at h
  rw [Tryz.underlying63] at h
  obtain ⟨cs, rfl, h⟩ := h
  rw [Typ, Tryz.underlying63] at h
  obtain ⟨p, q, rfl, h1, p2, q2, rfl, h2, rfl⟩ := h
  obtain ⟨c, rfl, hc⟩ := typ_u8 (d := 7) h1
  obtain ⟨d, rfl, hd⟩ := typ_u8 (d := 7) h2
  exact ⟨c, d, by simp, hc, hd⟩
/-- A list of strokes, a list of cuts. -/
def sL (l : List Cut) : List PV := l.map fun c => .agg (sC c)
def zL (l : List Cut) : List PV := l.map fun c => .agg (zC c)
theorem arg_Strokes {p : PV} (h : ArgT Pq 9 32 p) : ∃ l : List Cut, p = .sl false (sL l) ∧ (∀ c, c ∈ l → c.St) ∧ l.length ≤ maxLen := by
  unfold ArgT at h
  rw [Tryz.underlying32] at h
  have h : Typ Pq 9 32 [p] := h
  rw [Typ, Tryz.underlying32] at h
  obtain ⟨xs, e, hl, hx⟩ := h
  obtain rfl : p = .sl false xs := by simpa using e
  have key : ∀ xs : List PV, (∀ x, x ∈ xs → ∃ c : Cut, x = .agg (sC c) ∧ c.St) → ∃ l : List Cut, xs = sL l ∧ ∀ c, c ∈ l → c.St := by
    intro xs
    induction xs with
    | nil => intro _; exact ⟨[], rfl, fun x hx => by cases hx⟩
    | cons y ys ih =>
      intro h
      obtain ⟨c, rfl, hc⟩ := h y (by simp)
      obtain ⟨l, rfl, hl⟩ := ih (fun x hx => h x (by simp [hx]))
      exact ⟨c :: l, rfl, fun x hx => by
        rcases List.mem_cons.1 hx with rfl | hx
        · exact hc
        · exact hl x hx⟩
  obtain ⟨l, rfl, hs⟩ := key xs (fun x hx' => by
    obtain ⟨p, rfl, hp⟩ := hx x hx'
    obtain ⟨c, rfl, hc⟩ := typ_Stroke (d := 5) hp
    exact ⟨c, rfl, hc⟩)
  exact ⟨l, rfl, hs, by simpa [sL] using hl⟩
end Go.Pi

set_option linter.unusedVariables false
set_option linter.unusedSimpArgs false
set_option maxHeartbeats 8000000
set_option maxRecDepth 8000
/-
Lists of cuts; the examples of the chapter.
-/
namespace Go.Pi
open Go Go.Proofs Num
@[go_sem] theorem sC_eq (c : Cut) : sC c = [.int .i16 c.fx, .int .i16 c.fy, .int .i16 c.fz, .int .i16 c.tx, .int .i16 c.ty, .int .i16 c.tz, .int .u8 c.r] := nr rfl
theorem i64_small {n : Int} (h : -1000000 ≤ n ∧ n ≤ 1000000) : IntKind.i64.wrap n = n := IntWalk.i64_in (by omega) (by omega)
theorem pos52_s {a b c : Int} (ha : -32768 ≤ a ∧ a < 32768) (hb : -32768 ≤ b ∧ b < 32768) (hc : -32768 ≤ c ∧ c < 32768) : Rq 36 [.agg [.int .i16 a, .int .i16 b, .int .i16 c]] = some (.agg [.int .i64 a, .int .i64 b, .int .i64 c]) := by
  refine RL_of (f := 36) (fn := Tryz.f36) Tryz.func36 rfl rfl rfl (Nat.le_of_ble_eq_true rfl) ?_
  simp -implicitDefEqProofs (maxSteps := 5000000) (disch := omega) only [go_sem, if_pos, if_neg, dec_t, dec_f, IntWalk.i64_in, IntWalk.u32_in, IntWalk.u64_in, beq_no]
theorem sd_rl {c : Cut} (hb : c.Bd) {x y : Rat} (hx : rl x ≤ 20) (hy : rl y ≤ 20) : rl (c.sd x y).A ≤ 6000 ∧ rl (c.sd x y).B ≤ 6000 ∧ rl (c.sd x y).C ≤ 6000 := by
  obtain ⟨b1, b2, b3, b4, b5, b6, b7⟩ := hb
  have l1 := rl_1 (n := c.fx) (by omega)
  have l2 := rl_1 (n := c.fy) (by omega)
  have l3 := rl_1 (n := c.tx) (by omega)
  have l4 := rl_1 (n := c.ty) (by omega)
  have l5 := rl_1 (n := c.fz) (by omega)
  have l6 := rl_1 (n := c.tz) (by omega)
  have l7 := rl_1 (n := c.r) (by omega)
  have l8 := rl_1 (n := c.tz - c.fz) (by omega)
  by_cases hf : c.fl x y
  · rw [sd_fl hf]
    have := rl_zero
    exact ⟨by dsimp only; omega, by dsimp only; omega, by dsimp only; omega⟩
  · unfold Cut.sd
    rw [if_neg hf]
    dsimp only
    have lp : rl (c.pd x y) ≤ 100 := by unfold Cut.pd; (with_reducible apply Nat.le_trans; (focus (repeat' (first | with_reducible assumption | with_reducible apply rb_mul | with_reducible apply rb_add | with_reducible apply rb_sub | with_reducible apply rb_neg | with_reducible apply rb_div | with_reducible apply rb_divInt | with_reducible apply rb_int | with_reducible apply lb_mul | with_reducible apply lb_add | with_reducible apply lb_sub | with_reducible apply lb_neg | exact Nat.le_refl _))); omega)
    have ld : rl c.dd ≤ 20 := by unfold Cut.dd; (with_reducible apply Nat.le_trans; (focus (repeat' (first | with_reducible assumption | with_reducible apply rb_mul | with_reducible apply rb_add | with_reducible apply rb_sub | with_reducible apply rb_neg | with_reducible apply rb_div | with_reducible apply rb_divInt | with_reducible apply rb_int | with_reducible apply lb_mul | with_reducible apply lb_add | with_reducible apply lb_sub | with_reducible apply lb_neg | exact Nat.le_refl _))); omega)
    have li : rl (c.inn x y) ≤ 500 := by unfold Cut.inn; (with_reducible apply Nat.le_trans; (focus (repeat' (first | with_reducible assumption | with_reducible apply rb_mul | with_reducible apply rb_add | with_reducible apply rb_sub | with_reducible apply rb_neg | with_reducible apply rb_div | with_reducible apply rb_divInt | with_reducible apply rb_int | with_reducible apply lb_mul | with_reducible apply lb_add | with_reducible apply lb_sub | with_reducible apply lb_neg | exact Nat.le_refl _))); omega)
    have ls : rl c.sl ≤ 30 := by unfold Cut.sl; (with_reducible apply Nat.le_trans; (focus (repeat' (first | with_reducible assumption | with_reducible apply rb_mul | with_reducible apply rb_add | with_reducible apply rb_sub | with_reducible apply rb_neg | with_reducible apply rb_div | with_reducible apply rb_divInt | with_reducible apply rb_int | with_reducible apply lb_mul | with_reducible apply lb_add | with_reducible apply lb_sub | with_reducible apply lb_neg | exact Nat.le_refl _))); omega)
    have la : rl ((c.fz : Rat) - c.sl * c.pd x y) ≤ 200 := by (with_reducible apply Nat.le_trans; (focus (repeat' (first | with_reducible assumption | with_reducible apply rb_mul | with_reducible apply rb_add | with_reducible apply rb_sub | with_reducible apply rb_neg | with_reducible apply rb_div | with_reducible apply rb_divInt | with_reducible apply rb_int | with_reducible apply lb_mul | with_reducible apply lb_add | with_reducible apply lb_sub | with_reducible apply lb_neg | exact Nat.le_refl _))); omega)
    have m1 := rl_mA (a := (c.fz : Rat) - c.sl * c.pd x y) (b := c.sl) (c := c.inn x y)
    have m2 := rl_mB (b := c.sl) (c := c.inn x y)
    have m3 := rl_mC (b := c.sl) (c := c.inn x y)
    omega
theorem dn_bd {c : Cut} (hb : c.Bd) : c.dn.Bd := by
  unfold Cut.dn
  obtain ⟨b1, b2, b3, b4, b5, b6, b7⟩ := hb
  split
  · exact ⟨b4, b5, b6, b1, b2, b3, b7⟩
  · exact ⟨b1, b2, b3, b4, b5, b6, b7⟩
theorem sw_rl {c : Cut} (hb : c.Bd) {x y : Rat} (hx : rl x ≤ 20) (hy : rl y ≤ 20) : rl (c.sw x y).A ≤ 6000 ∧ rl (c.sw x y).B ≤ 6000 ∧ rl (c.sw x y).C ≤ 6000 := sd_rl (dn_bd hb) hx hy
/-- A root with numbers that are not too great. -/
structure _root_.Num.Rt.Sm (r : Rt) : Prop where
  A : rl r.A ≤ 6000
  B : rl r.B ≤ 6000
  C : rl r.C ≤ 6000
theorem sw_sm {c : Cut} (hb : c.Bd) {x y : Rat} (hx : rl x ≤ 20) (hy : rl y ≤ 20) : (c.sw x y).Sm := by
  obtain ⟨h1, h2, h3⟩ := sw_rl hb hx hy
  exact ⟨h1, h2, h3⟩
theorem int_sm {n : Int} (h : -1000000 ≤ n ∧ n ≤ 1000000) : (⟨(n : Rat), 0, 0⟩ : Rt).Sm := by
  have := rl_1 h
  have := rl_zero
  exact ⟨by dsimp only; omega, by dsimp only; omega, by dsimp only; omega⟩
theorem is_s {r t : Rt} (hr : r.Ok) (sr : r.Sm) (ht : t.Ok) (st : t.Sm) : Rq 15 [.agg (zT r), .agg (zT t)] = some (.bool (dec (r.cm t = 0))) := by
  refine RL_of (f := 15) (fn := Tryz.f15) Tryz.func15 rfl rfl rfl (Nat.le_of_ble_eq_true rfl) ?_
  obtain ⟨a1, a2, a3⟩ := sr
  obtain ⟨b1, b2, b3⟩ := st
  have v := valid3_s (A := r.A) (B := r.B) (C := r.C) (by omega) (by omega) (by omega) hr
  have q := equal5_s (A := r.A) (B := r.B) (C := r.C) (D := t.A) (E := t.B) (F := t.C) (by omega) (by omega) (by omega) (by omega) (by omega) (by omega) hr.nn ht.nn
  unfold Rt.cm
  clear hr ht
  simp -implicitDefEqProofs (maxSteps := 5000000) (disch := first | omega | (with_reducible apply Nat.le_trans; (focus (repeat' (first | with_reducible assumption | with_reducible apply rb_mul | with_reducible apply rb_add | with_reducible apply rb_sub | with_reducible apply rb_neg | with_reducible apply rb_div | with_reducible apply rb_divInt | with_reducible apply rb_int | with_reducible apply lb_mul | with_reducible apply lb_add | with_reducible apply lb_sub | with_reducible apply lb_neg | exact Nat.le_refl _))); omega)) only [go_sem, v, q, if_pos, if_neg, dec_t, dec_f, IntWalk.i64_in, IntWalk.u32_in, IntWalk.u64_in, beq_no]
end Go.Pi

set_option linter.unusedVariables false
set_option linter.unusedSimpArgs false
set_option maxHeartbeats 8000000
set_option maxRecDepth 8000
/-
The examples of the chapter on material.
-/
namespace Go.Pi
open Go Go.Proofs Num
def cLev : Cut := ⟨0, 0, -1, 10, 0, -1, 3⟩
def cDn : Cut := ⟨0, 0, 0, 10, 0, -10, 3⟩
theorem cLev_bd : cLev.Bd := ⟨by decide, by decide, by decide, by decide, by decide, by decide, by decide⟩
theorem cDn_bd : cDn.Bd := ⟨by decide, by decide, by decide, by decide, by decide, by decide, by decide⟩
theorem dn_dn : cDn.dn = cDn := by unfold Cut.dn; rw [if_neg (by decide)]
theorem ov1 : cLev.ov ((5 : Int) : Rat) ((3 : Int) : Rat) cLev.r := ⟨by decide, by decide +kernel⟩
theorem ov2 : ¬ cLev.ov ((14 : Int) : Rat) ((0 : Int) : Rat) cLev.r := fun h => by have := h.2; revert this; decide +kernel
theorem ov3 : cDn.ov ((5 : Int) : Rat) ((0 : Int) : Rat) cDn.r := ⟨by decide, by decide +kernel⟩
theorem ov4 : cDn.ov ((10 : Int) : Rat) ((3 : Int) : Rat) cDn.r := ⟨by decide, by decide +kernel⟩
theorem ov5 : cDn.ov ((5 : Int) : Rat) ((1 : Int) : Rat) cDn.r := ⟨by decide, by decide +kernel⟩
theorem nf3 : ¬ cDn.fl ((5 : Int) : Rat) ((0 : Int) : Rat) := by
  rintro (e | e)
  · revert e; decide
  · revert e; decide +kernel
theorem nf5 : ¬ cDn.fl ((5 : Int) : Rat) ((1 : Int) : Rat) := by
  rintro (e | e)
  · revert e; decide
  · revert e; decide +kernel
theorem cm1 : (cLev.sw ((5 : Int) : Rat) ((3 : Int) : Rat)).cm ⟨((-1 : Int) : Rat), 0, 0⟩ = 0 := by
  rw [sw_level (c := cLev) rfl]
  exact Rt.cm_self rt_int
theorem cm3 : (cDn.sw ((5 : Int) : Rat) ((0 : Int) : Rat)).cm ⟨((-8 : Int) : Rat), 0, 0⟩ = 0 := by
  unfold Cut.sw
  rw [dn_dn]
  unfold Cut.sd
  rw [if_neg nf3]
  unfold Rt.cm
  dsimp only
  rw [cm_mkq (by decide +kernel)]
  decide +kernel
theorem cm4 : (cDn.sw ((10 : Int) : Rat) ((3 : Int) : Rat)).cm ⟨((-10 : Int) : Rat), 0, 0⟩ = 0 := by
  unfold Cut.sw
  rw [dn_dn, sd_fl (.inr (by decide +kernel))]
  exact Rt.cm_self rt_int
theorem cm5 : (cDn.sw ((5 : Int) : Rat) ((1 : Int) : Rat)).cm ⟨mA ((-5 : Int) : Rat) ((-2 : Int) : Rat) ((2 : Int) : Rat), mB ((-2 : Int) : Rat) ((2 : Int) : Rat), mC ((-2 : Int) : Rat) ((2 : Int) : Rat)⟩ = 0 := by
  unfold Cut.sw
  rw [dn_dn]
  unfold Cut.sd
  rw [if_neg nf5]
  unfold Rt.cm
  dsimp only
  rw [cm_mk (by decide +kernel) (by decide +kernel)]
  decide +kernel
@[go_sem] theorem int3_s {n : Int} (h0 : -9223372036854775808 ≤ n) (h1 : n ≤ 9223372036854775807) : Rq 35 [.int .i64 n] = some (.agg (zR (n : Rat) 0 0)) := by
  refine RL_of (f := 35) (fn := Tryz.f35) Tryz.func35 rfl rfl rfl (Nat.le_of_ble_eq_true rfl) ?_
  simp -implicitDefEqProofs (maxSteps := 5000000) (disch := first | omega | (with_reducible apply Nat.le_trans; (focus (repeat' (first | with_reducible assumption | with_reducible apply rb_mul | with_reducible apply rb_add | with_reducible apply rb_sub | with_reducible apply rb_neg | with_reducible apply rb_div | with_reducible apply rb_divInt | with_reducible apply rb_int | with_reducible apply lb_mul | with_reducible apply lb_add | with_reducible apply lb_sub | with_reducible apply lb_neg | exact Nat.le_refl _))); omega)) only [go_sem, if_pos, if_neg, dec_t, dec_f, IntWalk.i64_in, IntWalk.u32_in, IntWalk.u64_in, beq_no]
theorem want_sm : (⟨mA ((-5 : Int) : Rat) ((-2 : Int) : Rat) ((2 : Int) : Rat), mB ((-2 : Int) : Rat) ((2 : Int) : Rat), mC ((-2 : Int) : Rat) ((2 : Int) : Rat)⟩ : Rt).Sm := by
  have l1 := rl_1 (n := -5) (by omega)
  have l2 := rl_1 (n := -2) (by omega)
  have l3 := rl_1 (n := 2) (by omega)
  have m1 := rl_mA (a := ((-5 : Int) : Rat)) (b := ((-2 : Int) : Rat)) (c := ((2 : Int) : Rat))
  have m2 := rl_mB (b := ((-2 : Int) : Rat)) (c := ((2 : Int) : Rat))
  have m3 := rl_mC (b := ((-2 : Int) : Rat)) (c := ((2 : Int) : Rat))
  exact ⟨by dsimp only; omega, by dsimp only; omega, by dsimp only; omega⟩
theorem awake52_r : Rq 10 [] = some (.bool true) := by
  refine RL_of (f := 10) (fn := Tryz.f10) Tryz.func10 rfl rfl rfl (Nat.le_of_ble_eq_true rfl) ?_
  have l (n : Int) (h : -1000000 ≤ n ∧ n ≤ 1000000) : rl (n : Rat) ≤ 20 := by have := rl_1 h; omega
  have a1 := mSwept_s cLev_bd (x := ((5 : Int) : Rat)) (y := ((3 : Int) : Rat)) (l _ (by omega)) (l _ (by omega)) ov1
  have a2 := mSwept_no cLev_bd (x := ((14 : Int) : Rat)) (y := ((0 : Int) : Rat)) (l _ (by omega)) (l _ (by omega)) ov2
  have a3 := mSwept_s cDn_bd (x := ((5 : Int) : Rat)) (y := ((0 : Int) : Rat)) (l _ (by omega)) (l _ (by omega)) ov3
  have a4 := mSwept_s cDn_bd (x := ((10 : Int) : Rat)) (y := ((3 : Int) : Rat)) (l _ (by omega)) (l _ (by omega)) ov4
  have a5 := mSwept_s cDn_bd (x := ((5 : Int) : Rat)) (y := ((1 : Int) : Rat)) (l _ (by omega)) (l _ (by omega)) ov5
  have mk := make3_s (a := ((-5 : Int) : Rat)) (b := ((-2 : Int) : Rat)) (c := ((2 : Int) : Rat)) (by have := l (-5) (by omega); omega) (by have := l (-2) (by omega); omega) (by have := l 2 (by omega); omega) (by decide +kernel)
  have i1 := is_s (Cut.sw_ok ov1) (sw_sm cLev_bd (l _ (by omega)) (l _ (by omega))) rt_int (int_sm (n := -1) (by omega))
  have i3 := is_s (Cut.sw_ok ov3) (sw_sm cDn_bd (l _ (by omega)) (l _ (by omega))) rt_int (int_sm (n := -8) (by omega))
  have i4 := is_s (Cut.sw_ok ov4) (sw_sm cDn_bd (l _ (by omega)) (l _ (by omega))) rt_int (int_sm (n := -10) (by omega))
  have i5 := is_s (Cut.sw_ok ov5) (sw_sm cDn_bd (l _ (by omega)) (l _ (by omega))) (show (⟨mA ((-5 : Int) : Rat) ((-2 : Int) : Rat) ((2 : Int) : Rat), mB ((-2 : Int) : Rat) ((2 : Int) : Rat), mC ((-2 : Int) : Rat) ((2 : Int) : Rat)⟩ : Rt).Ok from mk_red (by decide +kernel)) want_sm
  rw [dec_t cm1] at i1
  rw [dec_t cm3] at i3
  rw [dec_t cm4] at i4
  rw [dec_t cm5] at i5
  clear l
  generalize cLev.sw ((5 : Int) : Rat) ((3 : Int) : Rat) = r1 at *
  generalize cDn.sw ((5 : Int) : Rat) ((0 : Int) : Rat) = r3 at *
  generalize cDn.sw ((10 : Int) : Rat) ((3 : Int) : Rat) = r4 at *
  generalize cDn.sw ((5 : Int) : Rat) ((1 : Int) : Rat) = r5 at *
  generalize mA ((-5 : Int) : Rat) ((-2 : Int) : Rat) ((2 : Int) : Rat) = A at *
  generalize mB ((-2 : Int) : Rat) ((2 : Int) : Rat) = B at *
  generalize mC ((-2 : Int) : Rat) ((2 : Int) : Rat) = C at *
  simp only [zC_eq, zT_eq, zR_eq, z0] at a1 a2 a3 a4 a5 mk i1 i3 i4 i5
  unfold cLev at a1 a2
  unfold cDn at a3 a4 a5
  dsimp only at a1 a2 a3 a4 a5 i1 i3 i4 i5
  simp only [z12] at a2
  simp -implicitDefEqProofs (maxSteps := 5000000) (disch := first | omega | (with_reducible apply Nat.le_trans; (focus (repeat' (first | with_reducible assumption | with_reducible apply rb_mul | with_reducible apply rb_add | with_reducible apply rb_sub | with_reducible apply rb_neg | with_reducible apply rb_div | with_reducible apply rb_divInt | with_reducible apply rb_int | with_reducible apply lb_mul | with_reducible apply lb_add | with_reducible apply lb_sub | with_reducible apply lb_neg | exact Nat.le_refl _))); omega)) only [go_sem, a1, a2, a3, a4, a5, mk, i1, i3, i4, i5, if_pos, if_neg, dec_t, dec_f, IntWalk.i64_in, IntWalk.u32_in, IntWalk.u64_in, beq_no]
end Go.Pi

set_option linter.unusedVariables false
set_option linter.unusedSimpArgs false
set_option maxHeartbeats 8000000
set_option maxRecDepth 8000
/-
Lists of cuts from descriptions.
-/
namespace Go.Pi
open Go Go.Proofs Num
/-- The cells of a list of cuts, one behind the other. -/
def fl (l : List Cut) : List PV := l.flatMap zC
theorem fl_length (l : List Cut) : (fl l).length = l.length * 7 := by
  induction l with
  | nil => rfl
  | cons c l ih =>
    show (zC c ++ fl l).length = _
    rw [List.length_append, ih, List.length_cons]
    have : (zC c).length = 7 := rfl
    omega
theorem fl_append (l k : List Cut) : fl (l ++ k) = fl l ++ fl k := by simp [fl]
theorem fl_one (c : Cut) : fl [c] = zC c := by simp [fl]
theorem chunk_fl (l : List Cut) : chunk 7 l.length (fl l) = zL l := by
  induction l with
  | nil => rfl
  | cons c l ih =>
    show PV.agg ((zC c ++ fl l).take 7) :: chunk 7 l.length ((zC c ++ fl l).drop 7) = PV.agg (zC c) :: zL l
    have e1 : (zC c ++ fl l).take 7 = zC c := List.take_left' rfl
    have e2 : (zC c ++ fl l).drop 7 = fl l := List.drop_left' rfl
    rw [e1, e2, ih]
theorem clo_zL (l : List Cut) : cloL (zL l) = true := by
  induction l with
  | nil => rfl
  | cons c l ih =>
    show (clo (.agg (zC c)) && cloL (zL l)) = true
    rw [ih]; rfl
theorem unif_zL (l : List Cut) : unif 7 (zL l) = true := by
  unfold unif
  rw [List.all_eq_true]
  intro x hx
  obtain ⟨c, -, rfl⟩ := List.mem_map.1 hx
  rfl
theorem elems_fl {l : List Cut} {n : Nat} (h : l.length = n) : elems 7 0 n (fl l) = zL l := by
  subst h
  show chunk 7 l.length ((fl l).drop 0) = zL l
  rw [List.drop_zero, chunk_fl]
theorem gd_fl {l : List Cut} {n : Nat} (h : l.length = n) : gd 7 0 n (fl l) = true := by
  unfold gd
  rw [elems_fl h, clo_zL, unif_zL, fl_length]
  subst h
  simp
theorem zL_length (l : List Cut) : (zL l).length = l.length := by simp [zL]
theorem sL_length (l : List Cut) : (sL l).length = l.length := by simp [sL]
theorem sL_get {l : List Cut} {i : Nat} {c : Cut} (h : l[i]? = some c) : (sL l)[i]? = some (.agg (sC c)) := by simp [sL, h]
theorem zL_get {l : List Cut} {i : Nat} {c : Cut} (h : l[i]? = some c) : (zL l)[i]? = some (.agg (zC c)) := by simp [zL, h]
/-- One cut more. -/
theorem apY_cut0 {m : Nat → Blk} {nx : Nat} {e : TypeId} {fs : List (Nat × Nat)} {z1 z2 z3 z4 z5 z6 z7 : PV} {a b c d u v w : Int} :
    apY ⟨m, nx⟩ e ⟨.struct fs, 7, 56, [z1, z2, z3, z4, z5, z6, z7]⟩ (.sl true []) (some [.agg [.int .i64 a, .int .i64 b, .int .i64 c, .int .i64 d, .int .i64 u, .int .i64 v, .int .i64 w]]) = some (.ref nx 7 0 1 1 false, ⟨upd m nx (.live true e [.int .i64 a, .int .i64 b, .int .i64 c, .int .i64 d, .int .i64 u, .int .i64 v, .int .i64 w]), nx + 1⟩) := by
  have h1 : room 1 56 := by unfold room; omega
  simp [apY, unif, flat, PV.cells, PV.cell1, h1]
theorem apY_cutS {m : Nat → Blk} {nx : Nat} {e : TypeId} {fs : List (Nat × Nat)} {z1 z2 z3 z4 z5 z6 z7 : PV} {a b c d u v w : Int} {id len : Nat} {cs : List PV} (hm : m id = .live true e cs) (hl : cs.length = len * 7) (hr : len ≤ 1000000) :
    apY ⟨m, nx⟩ e ⟨.struct fs, 7, 56, [z1, z2, z3, z4, z5, z6, z7]⟩ (.ref id 7 0 len len false) (some [.agg [.int .i64 a, .int .i64 b, .int .i64 c, .int .i64 d, .int .i64 u, .int .i64 v, .int .i64 w]]) = some (.ref nx 7 0 (len + 1) (len + 1) false, ⟨upd (upd m id .dead) nx (.live true e (cs ++ [.int .i64 a, .int .i64 b, .int .i64 c, .int .i64 d, .int .i64 u, .int .i64 v, .int .i64 w])), nx + 1⟩) := by
  have h1 : room (len + 1) 56 := by unfold room; omega
  simp [apY, unif, flat, PV.cells, PV.cell1, h1, hm, hl]
/-- A list that grows: nothing yet, or a row of its own. -/
def Acc (T : TypeId) (l : List Cut) (v : PV) (m : Nat → Blk) (nx : Nat) : Prop := (l = [] ∧ v = .sl true []) ∨ (∃ id, id < nx ∧ v = .ref id 7 0 l.length l.length false ∧ m id = .live true T (fl l))
theorem take_more {l : List Cut} {i : Nat} {c : Cut} (hc : l[i]? = some c) : l.take (i + 1) = l.take i ++ [c] := by
  rw [List.take_add_one, hc]; rfl
theorem acc_new {T : TypeId} {l : List Cut} {i k nx : Nat} {c : Cut} {m : Nat → Blk} (hc : l[i]? = some c) (hn : l.take i = []) (hk : k < nx) : Acc T (l.take (i + 1)) (.ref k 7 0 1 1 false) (upd m k (.live true T (zC c))) nx := by
  rw [take_more hc, hn]
  refine .inr ⟨k, hk, rfl, ?_⟩
  simp [upd, fl]
theorem acc_more {T : TypeId} {l : List Cut} {i k nx : Nat} {c : Cut} {m : Nat → Blk} (hc : l[i]? = some c) (hk : k < nx) : Acc T (l.take (i + 1)) (.ref k 7 0 ((l.take i).length + 1) ((l.take i).length + 1) false) (upd m k (.live true T (fl (l.take i) ++ zC c))) nx := by
  rw [take_more hc]
  refine .inr ⟨k, hk, by rw [List.length_append]; rfl, ?_⟩
  simp [upd, fl_append, fl_one]
theorem Of_s {e : Bool} {l : List Cut} (hs : ∀ c, c ∈ l → c.St) : Rq 11 [.sl e (sL l)] = some (.tup [.sl false (zL (l.take 12)), .bool (dec (l.length ≤ 12))]) := by
  refine RL_of (f := 11) (fn := Tryz.f11) Tryz.func11 rfl rfl rfl (Nat.le_of_ble_eq_true rfl) ?_
  simp -implicitDefEqProofs (maxSteps := 5000000) (disch := omega) only [go_sem, sL_length, if_pos, if_neg, dec_t, dec_f, IntWalk.i64_in, IntWalk.u32_in, IntWalk.u64_in, beq_no]
  generalize hL : execL _ _ _ _ _ (.loop _) _ = L
  obtain ⟨⟨e, r, ⟨m, nx⟩⟩, rfl, rfl, h0, h4⟩ := loop_of hL (fun k s => ∃ i, k + i = l.length ∧ i ≤ 12 ∧ s.r 0 = .sl e (sL l) ∧ s.r 5 = .int .i64 (i : Int) ∧ Acc 46 (l.take i) (s.r 4) s.M.m s.M.nx)
    (fun y => y.1 = .exit 0 ∧ y.2.r 0 = .sl e (sL l) ∧ Acc 46 (l.take 12) (y.2.r 4) y.2.M.m y.2.M.nx) ⟨l.length, 0, by omega, by omega, by simp -implicitDefEqProofs only [go_sem], by simp -implicitDefEqProofs only [go_sem]; rfl, .inl ⟨rfl, by simp -implicitDefEqProofs only [go_sem]⟩⟩ (by
      rintro k ⟨r, ⟨m, nx⟩⟩ ⟨i, hk, hi, h0, h5, ha⟩
      dsimp only at h0 h5 ha
      by_cases h1 : i < l.length
      · by_cases h2 : i < 12
        · obtain ⟨c, hc⟩ : ∃ c, l[i]? = some c := ⟨l[i], List.getElem?_eq_getElem h1⟩
          obtain ⟨b1, b2, b3, b4, b5, b6, b7⟩ := hs c (List.mem_of_getElem? hc)
          have g := sL_get hc
          simp only [sC_eq] at g
          have p1 := pos52_s b1 b2 b3
          have p2 := pos52_s b4 b5 b6
          have e1 : (i : Int).toNat = i := by omega
          rcases ha with ⟨hn, h4⟩ | ⟨id, hid, h4, hm⟩
          · simp -implicitDefEqProofs (maxSteps := 5000000) (disch := omega) only [go_sem, h0, h5, h4, sL_length, g, p1, p2, e1, apY_cut0, if_pos, if_neg, dec_t, dec_f, IntWalk.i64_in, IntWalk.u32_in, IntWalk.u64_in, beq_no]
            exact ⟨k - 1, by omega, i + 1, by omega, by omega, rfl, acc_new hc hn (by omega)⟩
          · have ap := fun nx' => apY_cutS (m := m) (nx := nx') (a := c.fx) (b := c.fy) (c := c.fz) (d := c.tx) (u := c.ty) (v := c.tz) (w := c.r) (fs := [(0, 3), (3, 3), (6, 1)]) (z1 := .int .i64 0) (z2 := .int .i64 0) (z3 := .int .i64 0) (z4 := .int .i64 0) (z5 := .int .i64 0) (z6 := .int .i64 0) (z7 := .int .i64 0) hm (fl_length _) (by rw [List.length_take]; omega)
            simp -implicitDefEqProofs (maxSteps := 5000000) (disch := omega) only [go_sem, h0, h5, h4, sL_length, g, p1, p2, e1, ap, if_pos, if_neg, dec_t, dec_f, IntWalk.i64_in, IntWalk.u32_in, IntWalk.u64_in, beq_no]
            exact ⟨k - 1, by omega, i + 1, by omega, by omega, rfl, acc_more hc (by omega)⟩
        · simp -implicitDefEqProofs (maxSteps := 5000000) (disch := omega) only [go_sem, h0, h5, sL_length, if_pos, if_neg, dec_t, dec_f, IntWalk.i64_in, IntWalk.u32_in, IntWalk.u64_in, beq_no]
          rw [show 12 = i by omega]
          exact ha
      · simp -implicitDefEqProofs (maxSteps := 5000000) (disch := omega) only [go_sem, h0, h5, sL_length, if_pos, if_neg, dec_t, dec_f, IntWalk.i64_in, IntWalk.u32_in, IntWalk.u64_in, beq_no]
        rw [List.take_of_length_le (by omega)] at ha ⊢
        exact ha)
  dsimp only at h0 h4
  rcases h4 with ⟨hn, h4⟩ | ⟨id, hid, h4, hm⟩
  · rw [hn]
    by_cases h12 : l.length ≤ 12
    · rw [dec_t h12]
      simp -implicitDefEqProofs (maxSteps := 5000000) (disch := omega) only [go_sem, h0, h4, sL_length, if_pos, if_neg, dec_t, dec_f, IntWalk.i64_in, IntWalk.u32_in, IntWalk.u64_in, beq_no]
      rfl
    · rw [dec_f h12]
      simp -implicitDefEqProofs (maxSteps := 5000000) (disch := omega) only [go_sem, h0, h4, sL_length, if_pos, if_neg, dec_t, dec_f, IntWalk.i64_in, IntWalk.u32_in, IntWalk.u64_in, beq_no]
      rfl
  · have g1 := gd_fl (l := l.take 12) rfl
    have g2 := elems_fl (l := l.take 12) rfl
    by_cases h12 : l.length ≤ 12
    · rw [dec_t h12]
      simp -implicitDefEqProofs (maxSteps := 5000000) (disch := omega) only [go_sem, h0, h4, hm, sL_length, g1, g2, if_pos, if_neg, dec_t, dec_f, IntWalk.i64_in, IntWalk.u32_in, IntWalk.u64_in, beq_no]
    · rw [dec_f h12]
      simp -implicitDefEqProofs (maxSteps := 5000000) (disch := omega) only [go_sem, h0, h4, hm, sL_length, g1, g2, if_pos, if_neg, dec_t, dec_f, IntWalk.i64_in, IntWalk.u32_in, IntWalk.u64_in, beq_no]
end Go.Pi
