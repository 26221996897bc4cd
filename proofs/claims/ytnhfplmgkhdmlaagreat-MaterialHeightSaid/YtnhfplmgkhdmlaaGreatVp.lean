/- What is proved: heights, by program and reference. No conditions beyond those in the statements. -/
import Derived.Test.YtnhfplmgkhdmlaaGreatVi
import Derived.Test.YtnhfplmgkhdmlaaGreatVj
set_option linter.unusedVariables false
set_option linter.unusedSimpArgs false
set_option maxHeartbeats 8000000
set_option maxRecDepth 8000
/-
Heights, by program and reference.
-/
namespace Go.Pi
open Go Go.Proofs Num
theorem heF_snoc {x y : Rat} {o : Rt} {l : List Cut} {i : Nat} {c : Cut} (hc : l[i]? = some c) : heF x y o (l.take (i + 1)) = hst x y (heF x y o (l.take i)) c := by
  rw [take_more hc]
  unfold heF
  rw [List.foldl_append]
  rfl
theorem hst_no {x y : Rat} {o : Rt} {c : Cut} (h : ¬ (c.ov x y c.r ∧ (c.sw x y).cm o < 0)) : hst x y o c = o := if_neg h
theorem hst_yes {x y : Rat} {o : Rt} {c : Cut} (h1 : c.ov x y c.r) (h2 : (c.sw x y).cm o < 0) : hst x y o c = c.sw x y := if_pos ⟨h1, h2⟩
theorem heF_sm {x y : Rat} {o : Rt} {l : List Cut} (ho : o.Sm) (hb : ∀ c, c ∈ l → c.Bd) (hx : rl x ≤ 20) (hy : rl y ≤ 20) : (heF x y o l).Sm := by
  rcases heF_in (x := x) (y := y) (l := l) (o := o) with h | ⟨c, hc, _, h⟩
  · rw [h]; exact ho
  · rw [h]; exact sw_sm (hb c hc) hx hy
theorem mem_take {l : List Cut} {i : Nat} {c : Cut} (h : c ∈ l.take i) : c ∈ l := List.mem_of_mem_take h
theorem mHeight_s {e : Bool} {l : List Cut} (hb : ∀ c, c ∈ l → c.Bd) {top : Int} (ht : -1000000 ≤ top ∧ top ≤ 1000000) {x y : Rat} (hx : rl x ≤ 20) (hy : rl y ≤ 20) (hl : l.length ≤ 1000000000000) :
    Rq 19 [.sl e (zL l), .int .i64 top, .agg [.bool (ng (x).num), .sl false (us (lm (x).num)), .bool false, .sl false (us (lm ((x).den : Int))), .bool (ng (y).num), .sl false (us (lm (y).num)), .bool false, .sl false (us (lm ((y).den : Int)))]] = some (.agg (zT (heF x y ⟨(top : Rat), 0, 0⟩ l))) := by
  refine RL_of (f := 19) (fn := Tryz.f19) Tryz.func19 rfl rfl rfl (Nat.le_of_ble_eq_true rfl) ?_
  have lt := rl_1 ht
  simp -implicitDefEqProofs (maxSteps := 5000000) (disch := first | omega | (with_reducible apply Nat.le_trans; (focus (repeat' (first | with_reducible assumption | with_reducible apply rb_mul | with_reducible apply rb_add | with_reducible apply rb_sub | with_reducible apply rb_neg | with_reducible apply rb_div | with_reducible apply rb_divInt | with_reducible apply rb_int | with_reducible apply lb_mul | with_reducible apply lb_add | with_reducible apply lb_sub | with_reducible apply lb_neg | exact Nat.le_refl _))); omega)) only [go_sem, zL_length, if_pos, if_neg, dec_t, dec_f, IntWalk.i64_in, IntWalk.u32_in, IntWalk.u64_in, beq_no]
  generalize hL : execL _ _ _ _ _ (.loop _) _ = L
  obtain ⟨⟨ex, r, ⟨m, nx⟩⟩, rfl, rfl, h6, h7, hn, hm1, hm2⟩ := loop_of hL (fun k s => ∃ i, k + i = l.length ∧ s.r 15 = .sl e (zL l) ∧ s.r 16 = .int .i64 (l.length : Int) ∧ s.r 17 = .int .i64 (i : Int) ∧ s.r 5 = .ptr 0 0 ∧ s.r 6 = .ptr 1 0 ∧ s.r 7 = .ptr 2 0 ∧ 2 < s.M.nx ∧ s.M.m 0 = .live true 48 [.bool (ng (x).num), .sl false (us (lm (x).num)), .bool false, .sl false (us (lm ((x).den : Int))), .bool (ng (y).num), .sl false (us (lm (y).num)), .bool false, .sl false (us (lm ((y).den : Int)))] ∧ s.M.m 1 = .live true 39 z12 ∧ s.M.m 2 = .live true 39 (zT (heF x y ⟨(top : Rat), 0, 0⟩ (l.take i))))
    (fun y' => y'.1 = .exit 0 ∧ y'.2.r 6 = .ptr 1 0 ∧ y'.2.r 7 = .ptr 2 0 ∧ 2 < y'.2.M.nx ∧ y'.2.M.m 1 = .live true 39 z12 ∧ y'.2.M.m 2 = .live true 39 (zT (heF x y ⟨(top : Rat), 0, 0⟩ l))) ⟨l.length, 0, by omega, by (first | rfl | omega | (simp -implicitDefEqProofs only [go_sem]; done) | (simp -implicitDefEqProofs only [go_sem]; rfl)), by (first | rfl | omega | (simp -implicitDefEqProofs only [go_sem]; done) | (simp -implicitDefEqProofs only [go_sem]; rfl)), by (first | rfl | omega | (simp -implicitDefEqProofs only [go_sem]; done) | (simp -implicitDefEqProofs only [go_sem]; rfl)), by (first | rfl | omega | (simp -implicitDefEqProofs only [go_sem]; done) | (simp -implicitDefEqProofs only [go_sem]; rfl)), by (first | rfl | omega | (simp -implicitDefEqProofs only [go_sem]; done) | (simp -implicitDefEqProofs only [go_sem]; rfl)), by (first | rfl | omega | (simp -implicitDefEqProofs only [go_sem]; done) | (simp -implicitDefEqProofs only [go_sem]; rfl)), by (first | rfl | omega | (simp -implicitDefEqProofs only [go_sem]; done) | (simp -implicitDefEqProofs only [go_sem]; rfl)), by (first | rfl | omega | (simp -implicitDefEqProofs only [go_sem]; done) | (simp -implicitDefEqProofs only [go_sem]; rfl)), by (first | rfl | omega | (simp -implicitDefEqProofs only [go_sem]; done) | (simp -implicitDefEqProofs only [go_sem]; rfl)), by
      rw [show heF x y ⟨(top : Rat), 0, 0⟩ (l.take 0) = ⟨(top : Rat), 0, 0⟩ by rw [List.take_zero]; rfl, zT_eq]; (first | rfl | omega | (simp -implicitDefEqProofs only [go_sem]; done) | (simp -implicitDefEqProofs only [go_sem]; rfl))⟩ (by
      rintro k ⟨r, ⟨m, nx⟩⟩ ⟨i, hk, h15, h16, h17, h5, h6, h7, hn, hm0, hm1, hm2⟩
      dsimp only at h15 h16 h17 h5 h6 h7 hn hm0 hm1 hm2
      by_cases h1 : i < l.length
      · obtain ⟨c, hc⟩ : ∃ c, l[i]? = some c := ⟨l[i], List.getElem?_eq_getElem h1⟩
        have hm := List.mem_of_getElem? hc
        have cb := hb c hm
        have g := zL_get hc
        have e1 : (i : Int).toNat = i := by omega
        have hs := heF_snoc (x := x) (y := y) (o := ⟨(top : Rat), 0, 0⟩) hc
        have ok := heF_ok (x := x) (y := y) (l := l.take i) (o := ⟨(top : Rat), 0, 0⟩) rt_int
        have sm := heF_sm (x := x) (y := y) (o := ⟨(top : Rat), 0, 0⟩) (l := l.take i) (int_sm ht) (fun c h => hb c (mem_take h)) hx hy
        simp only [zC_eq] at g
        by_cases ho : c.ov x y c.r
        · have sw := mSwept_s cb hx hy ho
          have w1 := Cut.sw_ok ho
          have w2 := sw_sm cb hx hy
          have cp := rcmp_s (A := (c.sw x y).A) (B := (c.sw x y).B) (C := (c.sw x y).C) (D := (heF x y ⟨(top : Rat), 0, 0⟩ (l.take i)).A) (E := (heF x y ⟨(top : Rat), 0, 0⟩ (l.take i)).B) (F := (heF x y ⟨(top : Rat), 0, 0⟩ (l.take i)).C) (by have := w2.A; omega) (by have := w2.B; omega) (by have := w2.C; omega) (by have := sm.A; omega) (by have := sm.B; omega) (by have := sm.C; omega) w1.nn ok.nn
          simp only [zC_eq, zT_eq] at sw
          by_cases hc0 : (c.sw x y).cm (heF x y ⟨(top : Rat), 0, 0⟩ (l.take i)) < 0
          · rw [hst_yes ho hc0] at hs
            unfold Rt.cm at hc0
            clear ok sm w1 w2 cb ho
            generalize cmF _ _ _ _ _ _ = z at *
            generalize heF x y ⟨(top : Rat), 0, 0⟩ (l.take i) = o at *
            generalize c.sw x y = w at *
            simp -implicitDefEqProofs (maxSteps := 5000000) (disch := omega) only [go_sem, h15, h16, h17, h5, h6, h7, hm0, hm1, hm2, g, e1, sw, cp, hc0, if_pos, if_neg, dec_t, dec_f, IntWalk.i64_in, IntWalk.u32_in, IntWalk.u64_in, beq_no]
            refine ⟨k - 1, by omega, i + 1, by omega, rfl, by omega, ?_⟩
            rw [hs]
          · rw [hst_no (fun h => hc0 h.2)] at hs
            unfold Rt.cm at hc0
            clear ok sm w1 w2 cb ho
            generalize cmF _ _ _ _ _ _ = z at *
            generalize heF x y ⟨(top : Rat), 0, 0⟩ (l.take i) = o at *
            generalize c.sw x y = w at *
            simp -implicitDefEqProofs (maxSteps := 5000000) (disch := omega) only [go_sem, h15, h16, h17, h5, h6, h7, hm0, hm1, hm2, g, e1, sw, cp, hc0, if_pos, if_neg, dec_t, dec_f, IntWalk.i64_in, IntWalk.u32_in, IntWalk.u64_in, beq_no]
            refine ⟨k - 1, by omega, i + 1, by omega, rfl, by omega, ?_⟩
            rw [hs]
        · have sw := mSwept_no cb hx hy ho
          simp only [zC_eq, z12] at sw
          rw [hst_no (fun h => ho h.1)] at hs
          clear ok sm cb ho
          generalize heF x y ⟨(top : Rat), 0, 0⟩ (l.take i) = o at *
          simp -implicitDefEqProofs (maxSteps := 5000000) (disch := omega) only [go_sem, h15, h16, h17, h5, h6, h7, hm0, hm1, hm2, g, e1, sw, if_pos, if_neg, dec_t, dec_f, IntWalk.i64_in, IntWalk.u32_in, IntWalk.u64_in, beq_no]
          refine ⟨k - 1, by omega, i + 1, by omega, rfl, by omega, ?_⟩
          rw [hs]
      · simp -implicitDefEqProofs (maxSteps := 5000000) (disch := omega) only [go_sem, h15, h16, h17, h6, h7, hm1, hm2, if_pos, if_neg, dec_t, dec_f, IntWalk.i64_in, IntWalk.u32_in, IntWalk.u64_in, beq_no]
        rw [List.take_of_length_le (by omega)]
        exact ⟨hn, rfl⟩)
  dsimp only at h6 h7 hn hm1 hm2
  simp only [z12] at hm1
  simp -implicitDefEqProofs (maxSteps := 5000000) (disch := omega) only [go_sem, h6, h7, hm1, hm2, if_pos, if_neg, dec_t, dec_f, IntWalk.i64_in, IntWalk.u32_in, IntWalk.u64_in, beq_no]
end Go.Pi

set_option linter.unusedVariables false
set_option linter.unusedSimpArgs false
set_option maxHeartbeats 8000000
set_option maxRecDepth 8000
/-
Heights by the reference; the law on heights.
-/
namespace Go.Pi
open Go Go.Proofs Num
theorem rHeight_s {e : Bool} {l : List Cut} (hb : ∀ c, c ∈ l → c.Bd) {top : Int} (ht : -1000000 ≤ top ∧ top ≤ 1000000) {x y : Rat} (hx : rl x ≤ 20) (hy : rl y ≤ 20) (hl : l.length ≤ 1000000000000) :
    Rq 21 [.sl e (zL l), .int .i64 top, .agg [.bool (ng (x).num), .sl false (us (lm (x).num)), .bool false, .sl false (us (lm ((x).den : Int))), .bool (ng (y).num), .sl false (us (lm (y).num)), .bool false, .sl false (us (lm ((y).den : Int)))]] = some (.agg (zT (heF x y ⟨(top : Rat), 0, 0⟩ l))) := by
  refine RL_of (f := 21) (fn := Tryz.f21) Tryz.func21 rfl rfl rfl (Nat.le_of_ble_eq_true rfl) ?_
  have lt := rl_1 ht
  simp -implicitDefEqProofs (maxSteps := 5000000) (disch := first | omega | (with_reducible apply Nat.le_trans; (focus (repeat' (first | with_reducible assumption | with_reducible apply rb_mul | with_reducible apply rb_add | with_reducible apply rb_sub | with_reducible apply rb_neg | with_reducible apply rb_div | with_reducible apply rb_divInt | with_reducible apply rb_int | with_reducible apply lb_mul | with_reducible apply lb_add | with_reducible apply lb_sub | with_reducible apply lb_neg | exact Nat.le_refl _))); omega)) only [go_sem, if_pos, if_neg, dec_t, dec_f, IntWalk.i64_in, IntWalk.u32_in, IntWalk.u64_in, beq_no]
  generalize hL : execL _ _ _ _ _ (.loop _) _ = L
  obtain ⟨⟨ex, r, ⟨m, nx⟩⟩, rfl, rfl, h6, h7, hn, hm1, hm2⟩ := loop_of hL (fun k s => ∃ i, k + i = l.length ∧ s.r 0 = .sl e (zL l) ∧ s.r 8 = .int .i64 (i : Int) ∧ s.r 5 = .ptr 0 0 ∧ s.r 6 = .ptr 1 0 ∧ s.r 7 = .ptr 2 0 ∧ 2 < s.M.nx ∧ s.M.m 0 = .live true 48 [.bool (ng (x).num), .sl false (us (lm (x).num)), .bool false, .sl false (us (lm ((x).den : Int))), .bool (ng (y).num), .sl false (us (lm (y).num)), .bool false, .sl false (us (lm ((y).den : Int)))] ∧ s.M.m 1 = .live true 39 z12 ∧ s.M.m 2 = .live true 39 (zT (heF x y ⟨(top : Rat), 0, 0⟩ (l.take i))))
    (fun y' => y'.1 = .exit 0 ∧ y'.2.r 6 = .ptr 1 0 ∧ y'.2.r 7 = .ptr 2 0 ∧ 2 < y'.2.M.nx ∧ y'.2.M.m 1 = .live true 39 z12 ∧ y'.2.M.m 2 = .live true 39 (zT (heF x y ⟨(top : Rat), 0, 0⟩ l))) ⟨l.length, 0, by omega, by (first | rfl | omega | (simp -implicitDefEqProofs only [go_sem]; done) | (simp -implicitDefEqProofs only [go_sem]; rfl)), by (first | rfl | omega | (simp -implicitDefEqProofs only [go_sem]; done) | (simp -implicitDefEqProofs only [go_sem]; rfl)), by (first | rfl | omega | (simp -implicitDefEqProofs only [go_sem]; done) | (simp -implicitDefEqProofs only [go_sem]; rfl)), by (first | rfl | omega | (simp -implicitDefEqProofs only [go_sem]; done) | (simp -implicitDefEqProofs only [go_sem]; rfl)), by (first | rfl | omega | (simp -implicitDefEqProofs only [go_sem]; done) | (simp -implicitDefEqProofs only [go_sem]; rfl)), by (first | rfl | omega | (simp -implicitDefEqProofs only [go_sem]; done) | (simp -implicitDefEqProofs only [go_sem]; rfl)), by (first | rfl | omega | (simp -implicitDefEqProofs only [go_sem]; done) | (simp -implicitDefEqProofs only [go_sem]; rfl)), by (first | rfl | omega | (simp -implicitDefEqProofs only [go_sem]; done) | (simp -implicitDefEqProofs only [go_sem]; rfl)), by
      rw [show heF x y ⟨(top : Rat), 0, 0⟩ (l.take 0) = ⟨(top : Rat), 0, 0⟩ by rw [List.take_zero]; rfl, zT_eq]; (first | rfl | omega | (simp -implicitDefEqProofs only [go_sem]; done) | (simp -implicitDefEqProofs only [go_sem]; rfl))⟩ (by
      rintro k ⟨r, ⟨m, nx⟩⟩ ⟨i, hk, h0, h8, h5, h6, h7, hn, hm0, hm1, hm2⟩
      dsimp only at h0 h8 h5 h6 h7 hn hm0 hm1 hm2
      by_cases h1 : i < l.length
      · obtain ⟨c, hc⟩ : ∃ c, l[i]? = some c := ⟨l[i], List.getElem?_eq_getElem h1⟩
        have hm := List.mem_of_getElem? hc
        have cb := hb c hm
        have g := zL_get hc
        have e1 : (i : Int).toNat = i := by omega
        have hs := heF_snoc (x := x) (y := y) (o := ⟨(top : Rat), 0, 0⟩) hc
        have ok := heF_ok (x := x) (y := y) (l := l.take i) (o := ⟨(top : Rat), 0, 0⟩) rt_int
        have sm := heF_sm (x := x) (y := y) (o := ⟨(top : Rat), 0, 0⟩) (l := l.take i) (int_sm ht) (fun c h => hb c (mem_take h)) hx hy
        simp only [zC_eq] at g
        by_cases ho : c.ov x y c.r
        · have sw := rSwept_s cb hx hy ho
          have w1 := Cut.sw_ok ho
          have w2 := sw_sm cb hx hy
          have cp := cmp5_s (A := (c.sw x y).A) (B := (c.sw x y).B) (C := (c.sw x y).C) (D := (heF x y ⟨(top : Rat), 0, 0⟩ (l.take i)).A) (E := (heF x y ⟨(top : Rat), 0, 0⟩ (l.take i)).B) (F := (heF x y ⟨(top : Rat), 0, 0⟩ (l.take i)).C) (by have := w2.A; omega) (by have := w2.B; omega) (by have := w2.C; omega) (by have := sm.A; omega) (by have := sm.B; omega) (by have := sm.C; omega) w1.nn ok.nn
          simp only [zC_eq, zT_eq] at sw
          by_cases hc0 : (c.sw x y).cm (heF x y ⟨(top : Rat), 0, 0⟩ (l.take i)) < 0
          · rw [hst_yes ho hc0] at hs
            unfold Rt.cm at hc0
            clear ok sm w1 w2 cb ho
            generalize cmF _ _ _ _ _ _ = z at *
            generalize heF x y ⟨(top : Rat), 0, 0⟩ (l.take i) = o at *
            generalize c.sw x y = w at *
            simp -implicitDefEqProofs (maxSteps := 5000000) (disch := omega) only [go_sem, h0, h8, zL_length, h5, h6, h7, hm0, hm1, hm2, g, e1, sw, cp, hc0, if_pos, if_neg, dec_t, dec_f, IntWalk.i64_in, IntWalk.u32_in, IntWalk.u64_in, beq_no]
            refine ⟨k - 1, by omega, i + 1, by omega, rfl, by omega, ?_⟩
            rw [hs]
          · rw [hst_no (fun h => hc0 h.2)] at hs
            unfold Rt.cm at hc0
            clear ok sm w1 w2 cb ho
            generalize cmF _ _ _ _ _ _ = z at *
            generalize heF x y ⟨(top : Rat), 0, 0⟩ (l.take i) = o at *
            generalize c.sw x y = w at *
            simp -implicitDefEqProofs (maxSteps := 5000000) (disch := omega) only [go_sem, h0, h8, zL_length, h5, h6, h7, hm0, hm1, hm2, g, e1, sw, cp, hc0, if_pos, if_neg, dec_t, dec_f, IntWalk.i64_in, IntWalk.u32_in, IntWalk.u64_in, beq_no]
            refine ⟨k - 1, by omega, i + 1, by omega, rfl, by omega, ?_⟩
            rw [hs]
        · have sw := rSwept_no cb hx hy ho
          simp only [zC_eq, z12] at sw
          rw [hst_no (fun h => ho h.1)] at hs
          clear ok sm cb ho
          generalize heF x y ⟨(top : Rat), 0, 0⟩ (l.take i) = o at *
          simp -implicitDefEqProofs (maxSteps := 5000000) (disch := omega) only [go_sem, h0, h8, zL_length, h5, h6, h7, hm0, hm1, hm2, g, e1, sw, if_pos, if_neg, dec_t, dec_f, IntWalk.i64_in, IntWalk.u32_in, IntWalk.u64_in, beq_no]
          refine ⟨k - 1, by omega, i + 1, by omega, rfl, by omega, ?_⟩
          rw [hs]
      · simp -implicitDefEqProofs (maxSteps := 5000000) (disch := omega) only [go_sem, h0, h8, zL_length, h6, h7, hm1, hm2, if_pos, if_neg, dec_t, dec_f, IntWalk.i64_in, IntWalk.u32_in, IntWalk.u64_in, beq_no]
        rw [List.take_of_length_le (by omega)]
        exact ⟨hn, rfl⟩)
  dsimp only at h6 h7 hn hm1 hm2
  simp only [z12] at hm1
  simp -implicitDefEqProofs (maxSteps := 5000000) (disch := omega) only [go_sem, h6, h7, hm1, hm2, if_pos, if_neg, dec_t, dec_f, IntWalk.i64_in, IntWalk.u32_in, IntWalk.u64_in, beq_no]
theorem of_s {e : Bool} {l : List Cut} (hl : l.length ≤ 1000000) : Rq 20 [.sl e (zL l)] = some (.sl false (zL l)) := by
  refine RL_of (f := 20) (fn := Tryz.f20) Tryz.func20 rfl rfl rfl (Nat.le_of_ble_eq_true rfl) ?_
  simp -implicitDefEqProofs (maxSteps := 5000000) (disch := omega) only [go_sem, zL_length, if_pos, if_neg, dec_t, dec_f, IntWalk.i64_in, IntWalk.u32_in, IntWalk.u64_in, beq_no]
  generalize hL : execL _ _ _ _ _ (.loop _) _ = L
  obtain ⟨⟨e, r, ⟨m, nx⟩⟩, rfl, rfl, h4⟩ := loop_of hL (fun k s => ∃ i, k + i = l.length ∧ s.r 6 = .sl e (zL l) ∧ s.r 7 = .int .i64 (l.length : Int) ∧ s.r 8 = .int .i64 (i : Int) ∧ Acc 45 (l.take i) (s.r 3) s.M.m s.M.nx)
    (fun y => y.1 = .exit 0 ∧ Acc 45 l (y.2.r 3) y.2.M.m y.2.M.nx) ⟨l.length, 0, by omega, by (first | rfl | omega | (simp -implicitDefEqProofs only [go_sem]; done) | (simp -implicitDefEqProofs only [go_sem]; rfl)), by (first | rfl | omega | (simp -implicitDefEqProofs only [go_sem]; done) | (simp -implicitDefEqProofs only [go_sem]; rfl)), by (first | rfl | omega | (simp -implicitDefEqProofs only [go_sem]; done) | (simp -implicitDefEqProofs only [go_sem]; rfl)), .inl ⟨rfl, by (first | rfl | omega | (simp -implicitDefEqProofs only [go_sem]; done) | (simp -implicitDefEqProofs only [go_sem]; rfl))⟩⟩ (by
      rintro k ⟨r, ⟨m, nx⟩⟩ ⟨i, hk, h6, h7, h8, ha⟩
      dsimp only at h6 h7 h8 ha
      by_cases h1 : i < l.length
      · obtain ⟨c, hc⟩ : ∃ c, l[i]? = some c := ⟨l[i], List.getElem?_eq_getElem h1⟩
        have g := zL_get hc
        simp only [zC_eq] at g
        have e1 : (i : Int).toNat = i := by omega
        rcases ha with ⟨hn, h4⟩ | ⟨id, hid, h4, hm⟩
        · simp -implicitDefEqProofs (maxSteps := 5000000) (disch := omega) only [go_sem, h6, h7, h8, h4, g, e1, apY_cut0, if_pos, if_neg, dec_t, dec_f, IntWalk.i64_in, IntWalk.u32_in, IntWalk.u64_in, beq_no]
          exact ⟨k - 1, by omega, i + 1, by omega, rfl, acc_new hc hn (by omega)⟩
        · have e2 : ¬ id = nx := by omega
          have ap := fun (m' : Nat → Blk) (nx' : Nat) (hm' : m' id = .live true 45 (fl (l.take i))) => apY_cutS (m := m') (nx := nx') (a := c.fx) (b := c.fy) (c := c.fz) (d := c.tx) (u := c.ty) (v := c.tz) (w := c.r) (fs := [(0, 3), (3, 3), (6, 1)]) (z1 := .int .i64 0) (z2 := .int .i64 0) (z3 := .int .i64 0) (z4 := .int .i64 0) (z5 := .int .i64 0) (z6 := .int .i64 0) (z7 := .int .i64 0) hm' (fl_length _) (by rw [List.length_take]; omega)
          simp -implicitDefEqProofs (maxSteps := 5000000) (disch := omega) only [go_sem, h6, h7, h8, h4, g, e1, if_pos, if_neg, dec_t, dec_f, IntWalk.i64_in, IntWalk.u32_in, IntWalk.u64_in, beq_no]
          rw [ap _ _ (by simp only [upd, e2, if_false]; exact hm)]
          simp -implicitDefEqProofs (maxSteps := 5000000) (disch := omega) only [go_sem, h6, h7, h8, if_pos, if_neg, dec_t, dec_f, IntWalk.i64_in, IntWalk.u32_in, IntWalk.u64_in, beq_no]
          exact ⟨k - 1, by omega, i + 1, by omega, rfl, acc_more hc (by omega)⟩
      · simp -implicitDefEqProofs (maxSteps := 5000000) (disch := omega) only [go_sem, h6, h7, h8, if_pos, if_neg, dec_t, dec_f, IntWalk.i64_in, IntWalk.u32_in, IntWalk.u64_in, beq_no]
        rw [List.take_of_length_le (by omega)] at ha
        exact ha)
  dsimp only at h4
  rcases h4 with ⟨hn, h4⟩ | ⟨id, hid, h4, hm⟩
  · rw [hn]
    simp -implicitDefEqProofs (maxSteps := 5000000) (disch := omega) only [go_sem, h4, if_pos, if_neg, dec_t, dec_f, IntWalk.i64_in, IntWalk.u32_in, IntWalk.u64_in, beq_no]
    rfl
  · have g1 := gd_fl (l := l) rfl
    have g2 := elems_fl (l := l) rfl
    simp -implicitDefEqProofs (maxSteps := 5000000) (disch := omega) only [go_sem, h4, hm, g1, g2, if_pos, if_neg, dec_t, dec_f, IntWalk.i64_in, IntWalk.u32_in, IntWalk.u64_in, beq_no]
end Go.Pi
