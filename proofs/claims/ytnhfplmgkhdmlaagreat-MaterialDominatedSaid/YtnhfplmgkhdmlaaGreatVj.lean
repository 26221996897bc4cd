/- What is proved: the order of roots: the program. No conditions beyond those in the statements. -/
import Derived.Test.YtnhfplmgkhdmlaaGreatVh
import Derived.Test.YtnhfplmgkhdmlaaGreatFx
import Derived.Test.YtnhfplmgkhdmlaaGreatDy
set_option linter.unusedVariables false
set_option linter.unusedSimpArgs false
set_option maxHeartbeats 8000000
set_option maxRecDepth 8000
/-
Signs of sums with two roots: the program, with intervals first.
-/
namespace Go.Pi
open Go Go.Proofs Num
@[go_sem] theorem ti_known : ti Pq 157 = some ⟨.struct [(0, 1)], 1, 1, [.bool false]⟩ := by kernel_rfl
def ftL : Option (List PV) → List Nat
  | some vs => ptrsOf vs
  | none => []
@[go_sem] theorem foot_call {k : Nat} {r : Nat → PV} {f : FuncId} {xs : Array Operand} {ts : Array TypeId} : foot k r (.call ⟨.value (.func f), xs, ts⟩) = ftL (evL r xs.toList) := by
  simp only [foot, ftL]
  cases evL r xs.toList <;> rfl
@[go_sem] theorem ftL_some {vs : List PV} : ftL (some vs) = ptrsOf vs := nr rfl
@[go_sem] theorem ptrsOf_nil : ptrsOf [] = [] := nr rfl
@[go_sem] theorem ptrsOf_ptr {id off : Nat} {vs : List PV} : ptrsOf (.ptr id off :: vs) = id :: ptrsOf vs := nr rfl
@[go_sem] theorem ptrsOf_agg {cs : List PV} {vs : List PV} : ptrsOf (.agg cs :: vs) = ptrsOf vs := nr rfl
@[go_sem] theorem ptrsOf_bool {b : Bool} {vs : List PV} : ptrsOf (.bool b :: vs) = ptrsOf vs := nr rfl
@[go_sem] theorem ptrsOf_int {k : IntKind} {b : Int} {vs : List PV} : ptrsOf (.int k b :: vs) = ptrsOf vs := nr rfl
@[go_sem] theorem ptrsOf_sl {b : Bool} {us vs : List PV} : ptrsOf (.sl b us :: vs) = ptrsOf vs := nr rfl
/-- What 'with' answers, and the memory behind it. -/
noncomputable def withR (b : Blk) (id : Nat) (x y : Int) (ok : Bool) (m : Nat → Blk) (nx : Nat) : Option (PV × Mem) := match b with
  | .live true ty [.bool k] => if id < nx then some (.agg [.int .i64 x, .int .i64 y], ⟨upd (upd (upd (upd m nx (.live true 139 [.int .i64 x, .int .i64 y])) (nx + 1) (.live true 139 [.int .i64 0, .int .i64 0])) id (.live true ty [.bool (k && ok)])) (nx + 1) (.live true 139 [.int .i64 x, .int .i64 y]), nx + 2⟩) else Cq 164 [.ptr id 0, .agg [.int .i64 x, .int .i64 y], .bool ok] ⟨m, nx⟩
  | _ => Cq 164 [.ptr id 0, .agg [.int .i64 x, .int .i64 y], .bool ok] ⟨m, nx⟩
theorem with_c {id nx : Nat} {m : Nat → Blk} {x y : Int} {k ok : Bool} {ty : TypeId} (hm : m id = .live true ty [.bool k]) (h : id < nx) : Cq 164 [.ptr id 0, .agg [.int .i64 x, .int .i64 y], .bool ok] ⟨m, nx⟩ = some (.agg [.int .i64 x, .int .i64 y], ⟨upd (upd (upd (upd m nx (.live true 139 [.int .i64 x, .int .i64 y])) (nx + 1) (.live true 139 [.int .i64 0, .int .i64 0])) id (.live true ty [.bool (k && ok)])) (nx + 1) (.live true 139 [.int .i64 x, .int .i64 y]), nx + 2⟩) := by
  refine CL_of (f := 164) (fn := Tryz.f164) Tryz.func164 rfl rfl rfl (Nat.le_of_ble_eq_true rfl) ?_
  have e1 : ¬ id = nx := by omega
  have e2 : ¬ id = nx + 1 := by omega
  have e3 : ¬ nx + 1 = id := by omega
  have e4 : ¬ nx = id := by omega
  cases k <;> simp -implicitDefEqProofs (maxSteps := 5000000) (disch := omega) only [go_sem, hm, e1, e2, e3, e4, if_pos, if_neg, dec_t, dec_f, IntWalk.i64_in, IntWalk.u32_in, IntWalk.u64_in, beq_no]
@[go_sem] theorem with_eq {id nx : Nat} {m : Nat → Blk} {x y : Int} {ok : Bool} : Cq 164 [.ptr id 0, .agg [.int .i64 x, .int .i64 y], .bool ok] ⟨m, nx⟩ = withR (m id) id x y ok m nx := by
  unfold withR
  split
  · rename_i ty k hm
    split
    · rename_i h
      exact with_c hm h
    · rfl
  · rfl
@[go_sem] theorem withR_live {id nx : Nat} {m : Nat → Blk} {x y : Int} {k ok : Bool} {ty : TypeId} (h : id < nx) : withR (.live true ty [.bool k]) id x y ok m nx = some (.agg [.int .i64 x, .int .i64 y], ⟨upd (upd (upd (upd m nx (.live true 139 [.int .i64 x, .int .i64 y])) (nx + 1) (.live true 139 [.int .i64 0, .int .i64 0])) id (.live true ty [.bool (k && ok)])) (nx + 1) (.live true 139 [.int .i64 x, .int .i64 y]), nx + 2⟩) := if_pos h
theorem pI_get (o : Option (Int × Int)) (h : ∀ i, o = some i → Pr i) : ∃ x y g, pI o = .tup [.agg [.int .i64 x, .int .i64 y], .bool g] ∧ Pr (x, y) ∧ (g = true → o = some (x, y)) := by
  cases o with
  | none => exact ⟨0, 0, false, rfl, ⟨by decide, by decide, by decide⟩, fun e => by cases e⟩
  | some i => exact ⟨i.1, i.2, true, rfl, h i rfl, fun _ => rfl⟩
theorem mu_g {a b : Int × Int} (pa : Pr a) (pb : Pr b) : Rq 162 [.agg [.int .i64 a.1, .int .i64 a.2], .agg [.int .i64 b.1, .int .i64 b.2]] = some (pI (muF a b)) :=
  iMul_r ⟨pa.1, by have := pa.2; omega⟩ ⟨by have := pa.1; have := pa.2; omega, pa.2.2⟩ ⟨pb.1, by have := pb.2; omega⟩ ⟨by have := pb.1; have := pb.2; omega, pb.2.2⟩
theorem sq_g {a : Int × Int} (pa : Pr a) : Rq 161 [.agg [.int .i64 a.1, .int .i64 a.2]] = some (pI (sqF a)) :=
  iSqrt_r ⟨pa.1, by have := pa.2; omega⟩ ⟨by have := pa.1; have := pa.2; omega, pa.2.2⟩
theorem pr_g {a c : Int × Int} (pa : Pr a) (pc : Pr c) (i : Int × Int) (h : prF (a.1 + c.1) (a.2 + c.2) = some i) : Pr i := (prF_pr h (by have := pa.2.1; have := pc.2.1; omega)).1
/-- The root of a number lies in the root of its interval. -/
theorem sq_ra {C : Rat} {c s : Int × Int} (hc : frF C = some c) (hs : sqF c = some s) (h0 : 0 ≤ C) (k : Nat) : inF s.1 s.2 (ra C k) := by
  have e : sqC C = some s := by unfold sqC; rw [hc]; exact hs
  obtain ⟨s0, s1, s2, s3⟩ := sqC_spec e h0
  refine ⟨?_, ?_⟩
  · rw [c65536]; exact ra_lo h0 k s2
  · rw [c65536]; exact ra_hi h0 k (by omega) s3
theorem rquick_s {A B C D M N : Rat} (h1 : rl A ≤ 1000000) (h2 : rl B ≤ 1000000) (h3 : rl C ≤ 1000000) (h4 : rl D ≤ 1000000) (h5 : rl M ≤ 1000000) (h6 : rl N ≤ 1000000) (hM : 0 ≤ M) (hN : 0 ≤ N) :
    ∃ n b, Rq 138 [.agg [.bool (ng (A).num), .sl false (us (lm (A).num)), .bool false, .sl false (us (lm ((A).den : Int))), .bool (ng (B).num), .sl false (us (lm (B).num)), .bool false, .sl false (us (lm ((B).den : Int))), .bool (ng (C).num), .sl false (us (lm (C).num)), .bool false, .sl false (us (lm ((C).den : Int))), .bool (ng (D).num), .sl false (us (lm (D).num)), .bool false, .sl false (us (lm ((D).den : Int))), .bool (ng (M).num), .sl false (us (lm (M).num)), .bool false, .sl false (us (lm ((M).den : Int))), .bool (ng (N).num), .sl false (us (lm (N).num)), .bool false, .sl false (us (lm ((N).den : Int)))]] = some (.tup [.int .i64 n, .bool b]) ∧ (b = true → n = qdF A B C D M N) := by
  have fm := fromRat_r (q := M) (by omega)
  have fn := fromRat_r (q := N) (by omega)
  have fa := fromRat_r (q := A) (by omega)
  have fb := fromRat_r (q := B) (by omega)
  have fc := fromRat_r (q := C) (by omega)
  have fd := fromRat_r (q := D) (by omega)
  simp only [zQ_eq] at fm fn fa fb fc fd
  clear h1 h2 h3 h4 h5 h6
  obtain ⟨x1, y1, g1, e1, p1, q1⟩ := pI_get (frF M) (fun i h => (frF_pr h).1)
  obtain ⟨x3, y3, g3, e3, p3, q3⟩ := pI_get (frF N) (fun i h => (frF_pr h).1)
  obtain ⟨x5, y5, g5, e5, p5, q5⟩ := pI_get (frF B) (fun i h => (frF_pr h).1)
  obtain ⟨x7, y7, g7, e7, p7, q7⟩ := pI_get (frF C) (fun i h => (frF_pr h).1)
  obtain ⟨x9, y9, g9, e9, p9, q9⟩ := pI_get (frF D) (fun i h => (frF_pr h).1)
  obtain ⟨xa, ya, ga, ea, pa, qa⟩ := pI_get (frF A) (fun i h => (frF_pr h).1)
  rw [e1] at fm; rw [e3] at fn; rw [e5] at fb; rw [e7] at fc; rw [e9] at fd; rw [ea] at fa
  clear e1 e3 e5 e7 e9 ea
  have sm := sq_g p1
  have sn := sq_g p3
  obtain ⟨x2, y2, g2, e2, p2, q2⟩ := pI_get (sqF (x1, y1)) (fun i h => sqF_pr p1 h)
  obtain ⟨x4, y4, g4, e4, p4, q4⟩ := pI_get (sqF (x3, y3)) (fun i h => sqF_pr p3 h)
  rw [e2] at sm; rw [e4] at sn
  have mb := mu_g p5 p2
  have mc := mu_g p7 p4
  have me := mu_g p2 p4
  obtain ⟨x6, y6, g6, e6, p6, q6⟩ := pI_get (muF (x5, y5) (x2, y2)) (fun i h => muF_pr h)
  obtain ⟨x8, y8, g8, e8, p8, q8⟩ := pI_get (muF (x7, y7) (x4, y4)) (fun i h => muF_pr h)
  obtain ⟨xe, ye, ge, ee, pe, qe⟩ := pI_get (muF (x2, y2) (x4, y4)) (fun i h => muF_pr h)
  rw [e6] at mb; rw [e8] at mc; rw [ee] at me
  have md := mu_g p9 pe
  obtain ⟨xd, yd, gd, ed, pd, qd⟩ := pI_get (muF (x9, y9) (xe, ye)) (fun i h => muF_pr h)
  rw [ed] at md
  have s1 := add_in pa p6
  have s2 := add_in p8 pd
  obtain ⟨xs, ys, gs, es, ps, qs⟩ := pI_get (prF (xa + x6) (ya + y6)) (pr_g pa p6)
  obtain ⟨xt, yt, gt, et, pt, qt⟩ := pI_get (prF (x8 + xd) (y8 + yd)) (pr_g p8 pd)
  dsimp only at s1 s2
  rw [es] at s1; rw [et] at s2
  have s3 := add_in ps pt
  obtain ⟨xz, yz, gz, ez, pz, qz⟩ := pI_get (prF (xs + xt) (ys + yt)) (pr_g ps pt)
  dsimp only at s3
  rw [ez] at s3
  have sz := iSign_r xz yz
  have all : g1 = true → g2 = true → g3 = true → g4 = true → g5 = true → g6 = true → g7 = true → g8 = true → g9 = true → ge = true → gd = true → ga = true → gs = true → gt = true → gz = true → (0 < xz ∨ yz < 0 ∨ xz = 0 ∧ yz = 0) → (if 0 < xz then 1 else if yz < 0 then -1 else 0) = qdF A B C D M N := by
    intro k1 k2 k3 k4 k5 k6 k7 k8 k9 ke kd ka ks kt kz kn
    refine (known_sgn (i := (xz, yz)) (x := fun k => va A B M k + va C D M k * ra N k) (fun k => ?_) kn).uniq (quad_sgn hM hN)
    have im := sq_ra (q1 k1) (q2 k2) hM k
    have inn := sq_ra (q3 k3) (q4 k4) hN k
    have ib := muF_in (q6 k6) (frF_in (q5 k5)) im
    have ic := muF_in (q8 k8) (frF_in (q7 k7)) inn
    have ie := muF_in (qe ke) im inn
    have id := muF_in (qd kd) (frF_in (q9 k9)) ie
    have i1 := prF_in (a := (xa, ya)) (b := (x6, y6)) (qs ks) (frF_in (qa ka)) ib
    have i2 := prF_in (a := (x8, y8)) (b := (xd, yd)) (qt kt) ic id
    have i3 := prF_in (a := (xs, ys)) (b := (xt, yt)) (qz kz) i1 i2
    have ev : va A B M k + va C D M k * ra N k = A + B * ra M k + (C * ra N k + D * (ra M k * ra N k)) := by unfold va; grind
    dsimp only
    rw [ev]
    unfold inF at i3
    rw [c65536] at i3
    exact i3
  clear q1 q2 q3 q4 q5 q6 q7 q8 q9 qa qe qd qs qt qz p1 p2 p3 p4 p5 p6 p7 p8 p9 pa pe pd ps pt pz hM hN
  obtain ⟨n, hn⟩ : ∃ n : Int, n = (if 0 < xz then 1 else if yz < 0 then -1 else 0) := ⟨_, rfl⟩
  obtain ⟨kb, hk⟩ : ∃ b, b = dec (0 < xz ∨ yz < 0 ∨ xz = 0 ∧ yz = 0) := ⟨_, rfl⟩
  rw [← hn, ← hk] at sz
  rw [← hn] at all
  cases g1 with
  | false =>
    clear all hn hk
    refine ⟨0, false, RL_of (f := 138) (fn := Tryz.f138) Tryz.func138 rfl rfl rfl (Nat.le_of_ble_eq_true rfl) ?_, fun e => by cases e⟩
    simp -implicitDefEqProofs (maxSteps := 5000000) (disch := omega) only [go_sem, fm, fn, sm, sn, fb, fc, fd, fa, mb, mc, me, md, s1, s2, s3, Bool.true_and, Bool.false_and, Bool.not_false, Bool.not_true, if_pos, if_neg, dec_t, dec_f, IntWalk.i64_in, IntWalk.u32_in, IntWalk.u64_in, beq_no]
  | true =>
  cases g2 with
  | false =>
    clear all hn hk
    refine ⟨0, false, RL_of (f := 138) (fn := Tryz.f138) Tryz.func138 rfl rfl rfl (Nat.le_of_ble_eq_true rfl) ?_, fun e => by cases e⟩
    simp -implicitDefEqProofs (maxSteps := 5000000) (disch := omega) only [go_sem, fm, fn, sm, sn, fb, fc, fd, fa, mb, mc, me, md, s1, s2, s3, Bool.true_and, Bool.false_and, Bool.not_false, Bool.not_true, if_pos, if_neg, dec_t, dec_f, IntWalk.i64_in, IntWalk.u32_in, IntWalk.u64_in, beq_no]
  | true =>
  cases g3 with
  | false =>
    clear all hn hk
    refine ⟨0, false, RL_of (f := 138) (fn := Tryz.f138) Tryz.func138 rfl rfl rfl (Nat.le_of_ble_eq_true rfl) ?_, fun e => by cases e⟩
    simp -implicitDefEqProofs (maxSteps := 5000000) (disch := omega) only [go_sem, fm, fn, sm, sn, fb, fc, fd, fa, mb, mc, me, md, s1, s2, s3, Bool.true_and, Bool.false_and, Bool.not_false, Bool.not_true, if_pos, if_neg, dec_t, dec_f, IntWalk.i64_in, IntWalk.u32_in, IntWalk.u64_in, beq_no]
  | true =>
  cases g4 with
  | false =>
    clear all hn hk
    refine ⟨0, false, RL_of (f := 138) (fn := Tryz.f138) Tryz.func138 rfl rfl rfl (Nat.le_of_ble_eq_true rfl) ?_, fun e => by cases e⟩
    simp -implicitDefEqProofs (maxSteps := 5000000) (disch := omega) only [go_sem, fm, fn, sm, sn, fb, fc, fd, fa, mb, mc, me, md, s1, s2, s3, Bool.true_and, Bool.false_and, Bool.not_false, Bool.not_true, if_pos, if_neg, dec_t, dec_f, IntWalk.i64_in, IntWalk.u32_in, IntWalk.u64_in, beq_no]
  | true =>
  cases g5 with
  | false =>
    clear all hn hk
    refine ⟨0, false, RL_of (f := 138) (fn := Tryz.f138) Tryz.func138 rfl rfl rfl (Nat.le_of_ble_eq_true rfl) ?_, fun e => by cases e⟩
    simp -implicitDefEqProofs (maxSteps := 5000000) (disch := omega) only [go_sem, fm, fn, sm, sn, fb, fc, fd, fa, mb, mc, me, md, s1, s2, s3, Bool.true_and, Bool.false_and, Bool.not_false, Bool.not_true, if_pos, if_neg, dec_t, dec_f, IntWalk.i64_in, IntWalk.u32_in, IntWalk.u64_in, beq_no]
  | true =>
  cases g6 with
  | false =>
    clear all hn hk
    refine ⟨0, false, RL_of (f := 138) (fn := Tryz.f138) Tryz.func138 rfl rfl rfl (Nat.le_of_ble_eq_true rfl) ?_, fun e => by cases e⟩
    simp -implicitDefEqProofs (maxSteps := 5000000) (disch := omega) only [go_sem, fm, fn, sm, sn, fb, fc, fd, fa, mb, mc, me, md, s1, s2, s3, Bool.true_and, Bool.false_and, Bool.not_false, Bool.not_true, if_pos, if_neg, dec_t, dec_f, IntWalk.i64_in, IntWalk.u32_in, IntWalk.u64_in, beq_no]
  | true =>
  cases g7 with
  | false =>
    clear all hn hk
    refine ⟨0, false, RL_of (f := 138) (fn := Tryz.f138) Tryz.func138 rfl rfl rfl (Nat.le_of_ble_eq_true rfl) ?_, fun e => by cases e⟩
    simp -implicitDefEqProofs (maxSteps := 5000000) (disch := omega) only [go_sem, fm, fn, sm, sn, fb, fc, fd, fa, mb, mc, me, md, s1, s2, s3, Bool.true_and, Bool.false_and, Bool.not_false, Bool.not_true, if_pos, if_neg, dec_t, dec_f, IntWalk.i64_in, IntWalk.u32_in, IntWalk.u64_in, beq_no]
  | true =>
  cases g8 with
  | false =>
    clear all hn hk
    refine ⟨0, false, RL_of (f := 138) (fn := Tryz.f138) Tryz.func138 rfl rfl rfl (Nat.le_of_ble_eq_true rfl) ?_, fun e => by cases e⟩
    simp -implicitDefEqProofs (maxSteps := 5000000) (disch := omega) only [go_sem, fm, fn, sm, sn, fb, fc, fd, fa, mb, mc, me, md, s1, s2, s3, Bool.true_and, Bool.false_and, Bool.not_false, Bool.not_true, if_pos, if_neg, dec_t, dec_f, IntWalk.i64_in, IntWalk.u32_in, IntWalk.u64_in, beq_no]
  | true =>
  cases g9 with
  | false =>
    clear all hn hk
    refine ⟨0, false, RL_of (f := 138) (fn := Tryz.f138) Tryz.func138 rfl rfl rfl (Nat.le_of_ble_eq_true rfl) ?_, fun e => by cases e⟩
    simp -implicitDefEqProofs (maxSteps := 5000000) (disch := omega) only [go_sem, fm, fn, sm, sn, fb, fc, fd, fa, mb, mc, me, md, s1, s2, s3, Bool.true_and, Bool.false_and, Bool.not_false, Bool.not_true, if_pos, if_neg, dec_t, dec_f, IntWalk.i64_in, IntWalk.u32_in, IntWalk.u64_in, beq_no]
  | true =>
  cases ge with
  | false =>
    clear all hn hk
    refine ⟨0, false, RL_of (f := 138) (fn := Tryz.f138) Tryz.func138 rfl rfl rfl (Nat.le_of_ble_eq_true rfl) ?_, fun e => by cases e⟩
    simp -implicitDefEqProofs (maxSteps := 5000000) (disch := omega) only [go_sem, fm, fn, sm, sn, fb, fc, fd, fa, mb, mc, me, md, s1, s2, s3, Bool.true_and, Bool.false_and, Bool.not_false, Bool.not_true, if_pos, if_neg, dec_t, dec_f, IntWalk.i64_in, IntWalk.u32_in, IntWalk.u64_in, beq_no]
  | true =>
  cases gd with
  | false =>
    clear all hn hk
    refine ⟨0, false, RL_of (f := 138) (fn := Tryz.f138) Tryz.func138 rfl rfl rfl (Nat.le_of_ble_eq_true rfl) ?_, fun e => by cases e⟩
    simp -implicitDefEqProofs (maxSteps := 5000000) (disch := omega) only [go_sem, fm, fn, sm, sn, fb, fc, fd, fa, mb, mc, me, md, s1, s2, s3, Bool.true_and, Bool.false_and, Bool.not_false, Bool.not_true, if_pos, if_neg, dec_t, dec_f, IntWalk.i64_in, IntWalk.u32_in, IntWalk.u64_in, beq_no]
  | true =>
  cases ga with
  | false =>
    clear all hn hk
    refine ⟨0, false, RL_of (f := 138) (fn := Tryz.f138) Tryz.func138 rfl rfl rfl (Nat.le_of_ble_eq_true rfl) ?_, fun e => by cases e⟩
    simp -implicitDefEqProofs (maxSteps := 5000000) (disch := omega) only [go_sem, fm, fn, sm, sn, fb, fc, fd, fa, mb, mc, me, md, s1, s2, s3, Bool.true_and, Bool.false_and, Bool.not_false, Bool.not_true, if_pos, if_neg, dec_t, dec_f, IntWalk.i64_in, IntWalk.u32_in, IntWalk.u64_in, beq_no]
  | true =>
  cases gs with
  | false =>
    clear all hn hk
    refine ⟨0, false, RL_of (f := 138) (fn := Tryz.f138) Tryz.func138 rfl rfl rfl (Nat.le_of_ble_eq_true rfl) ?_, fun e => by cases e⟩
    simp -implicitDefEqProofs (maxSteps := 5000000) (disch := omega) only [go_sem, fm, fn, sm, sn, fb, fc, fd, fa, mb, mc, me, md, s1, s2, s3, Bool.true_and, Bool.false_and, Bool.not_false, Bool.not_true, if_pos, if_neg, dec_t, dec_f, IntWalk.i64_in, IntWalk.u32_in, IntWalk.u64_in, beq_no]
  | true =>
  cases gt with
  | false =>
    clear all hn hk
    refine ⟨0, false, RL_of (f := 138) (fn := Tryz.f138) Tryz.func138 rfl rfl rfl (Nat.le_of_ble_eq_true rfl) ?_, fun e => by cases e⟩
    simp -implicitDefEqProofs (maxSteps := 5000000) (disch := omega) only [go_sem, fm, fn, sm, sn, fb, fc, fd, fa, mb, mc, me, md, s1, s2, s3, Bool.true_and, Bool.false_and, Bool.not_false, Bool.not_true, if_pos, if_neg, dec_t, dec_f, IntWalk.i64_in, IntWalk.u32_in, IntWalk.u64_in, beq_no]
  | true =>
  cases gz with
  | false =>
    clear all hn hk
    refine ⟨0, false, RL_of (f := 138) (fn := Tryz.f138) Tryz.func138 rfl rfl rfl (Nat.le_of_ble_eq_true rfl) ?_, fun e => by cases e⟩
    simp -implicitDefEqProofs (maxSteps := 5000000) (disch := omega) only [go_sem, fm, fn, sm, sn, fb, fc, fd, fa, mb, mc, me, md, s1, s2, s3, Bool.true_and, Bool.false_and, Bool.not_false, Bool.not_true, if_pos, if_neg, dec_t, dec_f, IntWalk.i64_in, IntWalk.u32_in, IntWalk.u64_in, beq_no]
  | true =>
  refine ⟨n, kb, RL_of (f := 138) (fn := Tryz.f138) Tryz.func138 rfl rfl rfl (Nat.le_of_ble_eq_true rfl) ?_, fun e => ?_⟩
  · clear all hn hk
    simp -implicitDefEqProofs (maxSteps := 5000000) (disch := omega) only [go_sem, fm, fn, sm, sn, fb, fc, fd, fa, mb, mc, me, md, s1, s2, s3, sz, Bool.true_and, Bool.false_and, Bool.not_false, Bool.not_true, if_pos, if_neg, dec_t, dec_f, IntWalk.i64_in, IntWalk.u32_in, IntWalk.u64_in, beq_no]
  · rw [hk] at e
    by_cases kn : 0 < xz ∨ yz < 0 ∨ xz = 0 ∧ yz = 0
    · exact all rfl rfl rfl rfl rfl rfl rfl rfl rfl rfl rfl rfl rfl rfl rfl kn
    · rw [dec_f kn] at e; cases e
end Go.Pi

set_option linter.unusedVariables false
set_option linter.unusedSimpArgs false
set_option maxHeartbeats 8000000
set_option maxRecDepth 8000
/-
Signs of sums with two roots, the order of roots: the program.
-/
namespace Go.Pi
open Go Go.Proofs Num
@[go_sem] theorem rsum_s {a b : Rat} (ha : rl a ≤ 100000000) (hb : rl b ≤ 100000000) : Rq 139 [.agg [.bool (ng (a).num), .sl false (us (lm (a).num)), .bool false, .sl false (us (lm ((a).den : Int)))], .agg [.bool (ng (b).num), .sl false (us (lm (b).num)), .bool false, .sl false (us (lm ((b).den : Int)))]] = some (.agg (zQ (a + b))) := by
  refine RL_of (f := 139) (fn := Tryz.f139) Tryz.func139 rfl rfl rfl (Nat.le_of_ble_eq_true rfl) ?_
  simp -implicitDefEqProofs (maxSteps := 5000000) (disch := first | omega | (with_reducible apply Nat.le_trans; (focus (repeat' (first | with_reducible assumption | with_reducible apply rb_mul | with_reducible apply rb_add | with_reducible apply rb_sub | with_reducible apply rb_neg | with_reducible apply rb_div | with_reducible apply rb_divInt | with_reducible apply rb_int | with_reducible apply lb_mul | with_reducible apply lb_add | with_reducible apply lb_sub | with_reducible apply lb_neg | exact Nat.le_refl _))); omega)) only [go_sem, if_pos, if_neg, dec_t, dec_f, IntWalk.i64_in, IntWalk.u32_in, IntWalk.u64_in, beq_no]
theorem rsign_s {A B C D M N : Rat} (h1 : rl A ≤ 100000) (h2 : rl B ≤ 100000) (h3 : rl C ≤ 100000) (h4 : rl D ≤ 100000) (h5 : rl M ≤ 100000) (h6 : rl N ≤ 100000) (hM : 0 ≤ M) (hN : 0 ≤ N) :
    Rq 104 [.agg [.bool (ng (A).num), .sl false (us (lm (A).num)), .bool false, .sl false (us (lm ((A).den : Int))), .bool (ng (B).num), .sl false (us (lm (B).num)), .bool false, .sl false (us (lm ((B).den : Int))), .bool (ng (C).num), .sl false (us (lm (C).num)), .bool false, .sl false (us (lm ((C).den : Int))), .bool (ng (D).num), .sl false (us (lm (D).num)), .bool false, .sl false (us (lm ((D).den : Int))), .bool (ng (M).num), .sl false (us (lm (M).num)), .bool false, .sl false (us (lm ((M).den : Int))), .bool (ng (N).num), .sl false (us (lm (N).num)), .bool false, .sl false (us (lm ((N).den : Int)))]] = some (.int .i64 (qdF A B C D M N)) := by
  obtain ⟨n, b, q, hq⟩ := rquick_s (A := A) (B := B) (C := C) (D := D) (M := M) (N := N) (by omega) (by omega) (by omega) (by omega) (by omega) (by omega) hM hN
  refine RL_of (f := 104) (fn := Tryz.f104) Tryz.func104 rfl rfl rfl (Nat.le_of_ble_eq_true rfl) ?_
  have sM : ¬ sg M < 0 := fun e => by have := sg_lt.1 e; grind
  have sN0 : ¬ sg N < 0 := fun e => by have := sg_lt.1 e; grind
  cases b with
  | true =>
    rw [← hq rfl]
    clear hq hM hN
    simp -implicitDefEqProofs (maxSteps := 5000000) (disch := first | omega | (with_reducible apply Nat.le_trans; (focus (repeat' (first | with_reducible assumption | with_reducible apply rb_mul | with_reducible apply rb_add | with_reducible apply rb_sub | with_reducible apply rb_neg | with_reducible apply rb_div | with_reducible apply rb_divInt | with_reducible apply rb_int | with_reducible apply lb_mul | with_reducible apply lb_add | with_reducible apply lb_sub | with_reducible apply lb_neg | exact Nat.le_refl _))); omega)) only [go_sem, sM, sN0, q, if_pos, if_neg, dec_t, dec_f, IntWalk.i64_in, IntWalk.u32_in, IntWalk.u64_in, beq_no]
  | false =>
  clear hq
  have t1 := rplain_s (a := A) (b := B) (c := M) (by omega) (by omega) (by omega)
  have t2 := rplain_s (a := C) (b := D) (c := M) (by omega) (by omega) (by omega)
  have t3 := rplain_s (a := A * A + M * (B * B) - N * (C * C + M * (D * D))) (b := (A * B - N * (C * D)) + (A * B - N * (C * D))) (c := M) (by (with_reducible apply Nat.le_trans; (focus (repeat' (first | with_reducible assumption | with_reducible apply rb_mul | with_reducible apply rb_add | with_reducible apply rb_sub | with_reducible apply rb_neg | with_reducible apply rb_div | with_reducible apply rb_divInt | with_reducible apply rb_int | with_reducible apply lb_mul | with_reducible apply lb_add | with_reducible apply lb_sub | with_reducible apply lb_neg | exact Nat.le_refl _))); omega)) (by (with_reducible apply Nat.le_trans; (focus (repeat' (first | with_reducible assumption | with_reducible apply rb_mul | with_reducible apply rb_add | with_reducible apply rb_sub | with_reducible apply rb_neg | with_reducible apply rb_div | with_reducible apply rb_divInt | with_reducible apply rb_int | with_reducible apply lb_mul | with_reducible apply lb_add | with_reducible apply lb_sub | with_reducible apply lb_neg | exact Nat.le_refl _))); omega)) (by omega)
  have e : exF (A * A + M * (B * B) - N * (C * C + M * (D * D))) ((A * B - N * (C * D)) + (A * B - N * (C * D))) M = exF (A * A + B * B * M - N * (C * C + D * D * M)) ((A * B - N * (C * D)) + (A * B - N * (C * D))) M := by
    rw [show A * A + M * (B * B) - N * (C * C + M * (D * D)) = A * A + B * B * M - N * (C * C + D * D * M) by grind]
  rw [e] at t3
  have sN : sg N = 0 ∨ sg N = 1 := by rcases sg_cases N with ⟨h, e⟩ | ⟨-, e⟩ | ⟨-, e⟩ <;> first | omega | grind
  have c1 := exF_cases A B hM
  have c2 := exF_cases C D hM
  have c3 := exF_cases (A * A + B * B * M - N * (C * C + D * D * M)) ((A * B - N * (C * D)) + (A * B - N * (C * D))) hM
  unfold qdF
  clear hM hN e
  generalize exF A B M = x at *
  generalize exF C D M = y at *
  generalize exF (A * A + B * B * M - N * (C * C + D * D * M)) ((A * B - N * (C * D)) + (A * B - N * (C * D))) M = z at *
  rcases c1 with e1 | e1 | e1 <;> rcases c2 with e2 | e2 | e2 <;> rcases sN with e3 | e3 <;> subst e1 <;> subst e2 <;> rw [e3] <;> simp -implicitDefEqProofs (maxSteps := 5000000) (disch := first | omega | (with_reducible apply Nat.le_trans; (focus (repeat' (first | with_reducible assumption | with_reducible apply rb_mul | with_reducible apply rb_add | with_reducible apply rb_sub | with_reducible apply rb_neg | with_reducible apply rb_div | with_reducible apply rb_divInt | with_reducible apply rb_int | with_reducible apply lb_mul | with_reducible apply lb_add | with_reducible apply lb_sub | with_reducible apply lb_neg | exact Nat.le_refl _))); omega)) only [go_sem, sM, sN0, q, e3, t1, t2, t3, if_pos, if_neg, dec_t, dec_f, IntWalk.i64_in, IntWalk.u32_in, IntWalk.u64_in, beq_no] <;> try rfl
theorem rcmp_s {A B C D E F : Rat} (h1 : rl A ≤ 10000) (h2 : rl B ≤ 10000) (h3 : rl C ≤ 10000) (h4 : rl D ≤ 10000) (h5 : rl E ≤ 10000) (h6 : rl F ≤ 10000) (hC : 0 ≤ C) (hF : 0 ≤ F) :
    Rq 66 [.agg [.bool (ng (A).num), .sl false (us (lm (A).num)), .bool false, .sl false (us (lm ((A).den : Int))), .bool (ng (B).num), .sl false (us (lm (B).num)), .bool false, .sl false (us (lm ((B).den : Int))), .bool (ng (C).num), .sl false (us (lm (C).num)), .bool false, .sl false (us (lm ((C).den : Int)))], .agg [.bool (ng (D).num), .sl false (us (lm (D).num)), .bool false, .sl false (us (lm ((D).den : Int))), .bool (ng (E).num), .sl false (us (lm (E).num)), .bool false, .sl false (us (lm ((E).den : Int))), .bool (ng (F).num), .sl false (us (lm (F).num)), .bool false, .sl false (us (lm ((F).den : Int)))]] = some (.int .i64 (cmF A B C D E F)) := by
  refine RL_of (f := 66) (fn := Tryz.f66) Tryz.func66 rfl rfl rfl (Nat.le_of_ble_eq_true rfl) ?_
  by_cases k : B = 0 ∧ E = 0
  · have e : sg (A - D) = cmF A B C D E F := cm_uniq hC hF ((Sgn.const (A - D)).congr fun j => by rw [k.1, k.2]; unfold va; grind)
    have s1 : sg B = 0 := sg_eq.2 k.1
    have s2 : sg E = 0 := sg_eq.2 k.2
    rw [← e]
    clear e k hC hF
    simp -implicitDefEqProofs (maxSteps := 5000000) (disch := first | omega | (with_reducible apply Nat.le_trans; (focus (repeat' (first | with_reducible assumption | with_reducible apply rb_mul | with_reducible apply rb_add | with_reducible apply rb_sub | with_reducible apply rb_neg | with_reducible apply rb_div | with_reducible apply rb_divInt | with_reducible apply rb_int | with_reducible apply lb_mul | with_reducible apply lb_add | with_reducible apply lb_sub | with_reducible apply lb_neg | exact Nat.le_refl _))); omega)) only [go_sem, s1, s2, if_pos, if_neg, dec_t, dec_f, IntWalk.i64_in, IntWalk.u32_in, IntWalk.u64_in, beq_no]
  have s : (¬ sg B = 0) ∨ (sg B = 0 ∧ ¬ sg E = 0) := by
    by_cases kB : B = 0
    · exact .inr ⟨sg_eq.2 kB, fun e => k ⟨kB, sg_eq.1 e⟩⟩
    · exact .inl fun e => kB (sg_eq.1 e)
  have ap := rapart_s (A := A) (B := B) (C := C) (D := D) (E := E) (F := F) (by omega) (by omega) (by omega) (by omega) (by omega) (by omega)
  cases ho : apF (roF A B C) (roF D E F) with
  | some n =>
    have e := ap_sgn hC hF ho
    rw [ho] at ap
    unfold apV at ap
    dsimp only at ap
    rw [← e]
    clear e k hC hF ho
    rcases s with s1 | ⟨s1, s2⟩
    · simp -implicitDefEqProofs (maxSteps := 5000000) (disch := first | omega | (with_reducible apply Nat.le_trans; (focus (repeat' (first | with_reducible assumption | with_reducible apply rb_mul | with_reducible apply rb_add | with_reducible apply rb_sub | with_reducible apply rb_neg | with_reducible apply rb_div | with_reducible apply rb_divInt | with_reducible apply rb_int | with_reducible apply lb_mul | with_reducible apply lb_add | with_reducible apply lb_sub | with_reducible apply lb_neg | exact Nat.le_refl _))); omega)) only [go_sem, s1, ap, if_pos, if_neg, dec_t, dec_f, IntWalk.i64_in, IntWalk.u32_in, IntWalk.u64_in, beq_no]
    · simp -implicitDefEqProofs (maxSteps := 5000000) (disch := first | omega | (with_reducible apply Nat.le_trans; (focus (repeat' (first | with_reducible assumption | with_reducible apply rb_mul | with_reducible apply rb_add | with_reducible apply rb_sub | with_reducible apply rb_neg | with_reducible apply rb_div | with_reducible apply rb_divInt | with_reducible apply rb_int | with_reducible apply lb_mul | with_reducible apply lb_add | with_reducible apply lb_sub | with_reducible apply lb_neg | exact Nat.le_refl _))); omega)) only [go_sem, s1, s2, ap, if_pos, if_neg, dec_t, dec_f, IntWalk.i64_in, IntWalk.u32_in, IntWalk.u64_in, beq_no]
  | none =>
    rw [ho] at ap
    unfold apV at ap
    dsimp only at ap
    clear ho k
    by_cases kc : C = F
    · subst kc
      have e : exF (A - D) (B - E) C = cmF A B C D E C := cm_uniq hC hC ((va_sgn (A := A - D) (B := B - E) hC).congr fun j => by unfold va; grind)
      have pl := rplain_s (a := A - D) (b := B - E) (c := C) (by (with_reducible apply Nat.le_trans; (focus (repeat' (first | with_reducible assumption | with_reducible apply rb_mul | with_reducible apply rb_add | with_reducible apply rb_sub | with_reducible apply rb_neg | with_reducible apply rb_div | with_reducible apply rb_divInt | with_reducible apply rb_int | with_reducible apply lb_mul | with_reducible apply lb_add | with_reducible apply lb_sub | with_reducible apply lb_neg | exact Nat.le_refl _))); omega)) (by (with_reducible apply Nat.le_trans; (focus (repeat' (first | with_reducible assumption | with_reducible apply rb_mul | with_reducible apply rb_add | with_reducible apply rb_sub | with_reducible apply rb_neg | with_reducible apply rb_div | with_reducible apply rb_divInt | with_reducible apply rb_int | with_reducible apply lb_mul | with_reducible apply lb_add | with_reducible apply lb_sub | with_reducible apply lb_neg | exact Nat.le_refl _))); omega)) (by omega)
      have sC : sg (C - C) = 0 := sg_eq.2 (by grind)
      rw [← e]
      clear e hC hF
      generalize exF (A - D) (B - E) C = z at *
      rcases s with s1 | ⟨s1, s2⟩
      · simp -implicitDefEqProofs (maxSteps := 5000000) (disch := first | omega | (with_reducible apply Nat.le_trans; (focus (repeat' (first | with_reducible assumption | with_reducible apply rb_mul | with_reducible apply rb_add | with_reducible apply rb_sub | with_reducible apply rb_neg | with_reducible apply rb_div | with_reducible apply rb_divInt | with_reducible apply rb_int | with_reducible apply lb_mul | with_reducible apply lb_add | with_reducible apply lb_sub | with_reducible apply lb_neg | exact Nat.le_refl _))); omega)) only [go_sem, s1, ap, pl, sC, if_pos, if_neg, dec_t, dec_f, IntWalk.i64_in, IntWalk.u32_in, IntWalk.u64_in, beq_no]
      · simp -implicitDefEqProofs (maxSteps := 5000000) (disch := first | omega | (with_reducible apply Nat.le_trans; (focus (repeat' (first | with_reducible assumption | with_reducible apply rb_mul | with_reducible apply rb_add | with_reducible apply rb_sub | with_reducible apply rb_neg | with_reducible apply rb_div | with_reducible apply rb_divInt | with_reducible apply rb_int | with_reducible apply lb_mul | with_reducible apply lb_add | with_reducible apply lb_sub | with_reducible apply lb_neg | exact Nat.le_refl _))); omega)) only [go_sem, s1, s2, ap, pl, sC, if_pos, if_neg, dec_t, dec_f, IntWalk.i64_in, IntWalk.u32_in, IntWalk.u64_in, beq_no]
    · have sC : ¬ sg (C - F) = 0 := fun e => kc (by have := sg_eq.1 e; grind)
      have si := rsign_s (A := A - D) (B := B) (C := -E) (D := 0) (M := C) (N := F) (by (with_reducible apply Nat.le_trans; (focus (repeat' (first | with_reducible assumption | with_reducible apply rb_mul | with_reducible apply rb_add | with_reducible apply rb_sub | with_reducible apply rb_neg | with_reducible apply rb_div | with_reducible apply rb_divInt | with_reducible apply rb_int | with_reducible apply lb_mul | with_reducible apply lb_add | with_reducible apply lb_sub | with_reducible apply lb_neg | exact Nat.le_refl _))); omega)) (by omega) (by rw [rl_neg]; omega) (by have := rl_zero; omega) (by omega) (by omega) hC hF
      unfold cmF
      clear hC hF kc
      generalize qdF (A - D) B (-E) 0 C F = z at *
      rcases s with s1 | ⟨s1, s2⟩
      · simp -implicitDefEqProofs (maxSteps := 5000000) (disch := first | omega | (with_reducible apply Nat.le_trans; (focus (repeat' (first | with_reducible assumption | with_reducible apply rb_mul | with_reducible apply rb_add | with_reducible apply rb_sub | with_reducible apply rb_neg | with_reducible apply rb_div | with_reducible apply rb_divInt | with_reducible apply rb_int | with_reducible apply lb_mul | with_reducible apply lb_add | with_reducible apply lb_sub | with_reducible apply lb_neg | exact Nat.le_refl _))); omega)) only [go_sem, s1, ap, si, sC, if_pos, if_neg, dec_t, dec_f, IntWalk.i64_in, IntWalk.u32_in, IntWalk.u64_in, beq_no]
      · simp -implicitDefEqProofs (maxSteps := 5000000) (disch := first | omega | (with_reducible apply Nat.le_trans; (focus (repeat' (first | with_reducible assumption | with_reducible apply rb_mul | with_reducible apply rb_add | with_reducible apply rb_sub | with_reducible apply rb_neg | with_reducible apply rb_div | with_reducible apply rb_divInt | with_reducible apply rb_int | with_reducible apply lb_mul | with_reducible apply lb_add | with_reducible apply lb_sub | with_reducible apply lb_neg | exact Nat.le_refl _))); omega)) only [go_sem, s1, s2, ap, si, sC, if_pos, if_neg, dec_t, dec_f, IntWalk.i64_in, IntWalk.u32_in, IntWalk.u64_in, beq_no]
theorem rcmpRat_s {A B C d : Rat} (h1 : rl A ≤ 10000) (h2 : rl B ≤ 10000) (h3 : rl C ≤ 10000) (h4 : rl d ≤ 10000) (hC : 0 ≤ C) :
    Rq 71 [.agg [.bool (ng (A).num), .sl false (us (lm (A).num)), .bool false, .sl false (us (lm ((A).den : Int))), .bool (ng (B).num), .sl false (us (lm (B).num)), .bool false, .sl false (us (lm ((B).den : Int))), .bool (ng (C).num), .sl false (us (lm (C).num)), .bool false, .sl false (us (lm ((C).den : Int)))], .agg [.bool (ng (d).num), .sl false (us (lm (d).num)), .bool false, .sl false (us (lm ((d).den : Int)))]] = some (.int .i64 (cmF A B C d 0 0)) := by
  refine RL_of (f := 71) (fn := Tryz.f71) Tryz.func71 rfl rfl rfl (Nat.le_of_ble_eq_true rfl) ?_
  have c := rcmp_s (A := A) (B := B) (C := C) (D := d) (E := 0) (F := 0) h1 h2 h3 h4 (by have := rl_zero; omega) (by have := rl_zero; omega) hC (Rat.le_refl)
  clear hC
  generalize cmF A B C d 0 0 = z at *
  simp -implicitDefEqProofs (maxSteps := 5000000) (disch := first | omega | (with_reducible apply Nat.le_trans; (focus (repeat' (first | with_reducible assumption | with_reducible apply rb_mul | with_reducible apply rb_add | with_reducible apply rb_sub | with_reducible apply rb_neg | with_reducible apply rb_div | with_reducible apply rb_divInt | with_reducible apply rb_int | with_reducible apply lb_mul | with_reducible apply lb_add | with_reducible apply lb_sub | with_reducible apply lb_neg | exact Nat.le_refl _))); omega)) only [go_sem, c, if_pos, if_neg, dec_t, dec_f, IntWalk.i64_in, IntWalk.u32_in, IntWalk.u64_in, beq_no]
end Go.Pi
