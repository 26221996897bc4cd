/- What is proved: long division. No conditions beyond those in the statements. -/
import Derived.Test.YtnhfplmgkhdmlaaGreatLa
import Derived.Test.YtnhfplmgkhdmlaaGreatNa
set_option linter.unusedVariables false
set_option linter.unusedSimpArgs false
set_option maxHeartbeats 4000000
set_option maxRecDepth 8000
/-
The steps of long division, which write a part of a row.
-/
namespace Go.Pi
open Go Go.Proofs Num
theorem trim_ref {L : List Int} (hl : Lm L) (hn : L.length ≤ 1099511627776) {m : Nat → Blk} {nx id len cap : Nat} {w : Bool} {ty : TypeId} {ex : Bool} (hm : m id = .live w ty (us L)) (hlen : len ≤ L.length) (hc : len ≤ cap) :
    Cq 150 [.ref id 1 0 len cap ex] ⟨m, nx⟩ = some (.ref id 1 0 (lm (vl (L.take len))).length cap ex, ⟨m, nx⟩) ∧ L.take (lm (vl (L.take len))).length = lm (vl (L.take len)) ∧ (lm (vl (L.take len))).length ≤ len := by
  suffices h : ∃ i, i ≤ len ∧ fin Pq _ (execL Pq Xq sq cq 150 _ ⟨ini 0 [.ref id 1 0 len cap ex], ⟨m, nx⟩⟩) = some (.ref id 1 0 i cap ex, ⟨m, nx⟩) ∧ vl (L.take i) = vl (L.take len) ∧ (i = 0 ∨ L.getD (i - 1) 0 ≠ 0) by
    obtain ⟨i, hi, h, hv, ht⟩ := h
    have e := lm_take_of (lm_take len hl) i (by rw [List.length_take]; omega) (by rw [List.take_take, Nat.min_eq_left hi]; exact hv) (by
      rcases ht with ht | ht
      · exact .inl ht
      · by_cases h0 : i = 0
        · exact .inl h0
        · right; rw [getD_take' (by omega)]; exact ht)
    rw [List.take_take, Nat.min_eq_left hi] at e
    have el : (lm (vl (L.take len))).length = i := by rw [← e, List.length_take]; omega
    rw [el]
    exact ⟨CL_of (f := 150) (fn := Tryz.f150) Tryz.func150 rfl rfl rfl (Nat.le_of_ble_eq_true rfl) h, e, hi⟩
  simp -implicitDefEqProofs (maxSteps := 5000000) (disch := omega) only [go_sem, if_pos, if_neg, dec_t, dec_f, IntWalk.i64_in, IntWalk.u32_in, IntWalk.u64_in, beq_no]
  generalize hL : execL _ _ _ _ _ (.loop _) _ = LL
  obtain ⟨⟨e, r, M⟩, rfl, rfl, rfl, i, hi, hv, ht, h0⟩ := loop_of hL (fun i s => s.M = ⟨m, nx⟩ ∧ i ≤ len ∧ vl (L.take i) = vl (L.take len) ∧ s.r 0 = .ref id 1 0 i cap ex)
    (fun y => y.1 = .exit 0 ∧ y.2.M = ⟨m, nx⟩ ∧ ∃ i, i ≤ len ∧ vl (L.take i) = vl (L.take len) ∧ (i = 0 ∨ L.getD (i - 1) 0 ≠ 0) ∧ y.2.r 0 = .ref id 1 0 i cap ex) ⟨len, by
      refine ⟨rfl, Nat.le_refl _, rfl, ?_⟩
      simp -implicitDefEqProofs only [go_sem]⟩ (by
      rintro i ⟨r, M⟩ ⟨rfl, hi, hv, h0⟩
      dsimp only at h0
      by_cases h : 0 < i
      · have e1 : ((i : Int) - 1).toNat = i - 1 := by omega
        by_cases hz : L.getD (i - 1) 0 = 0
        · simp -implicitDefEqProofs (maxSteps := 5000000) (disch := omega) only [go_sem, h0, hm, e1, hz, if_pos, if_neg, dec_t, dec_f, IntWalk.i64_in, IntWalk.u32_in, IntWalk.u64_in, beq_no]
          refine ⟨i - 1, by omega, by omega, ?_, rfl⟩
          rw [← hv]
          have := vl_take_succ L (i - 1) (by omega)
          rw [show i - 1 + 1 = i by omega, hz] at this
          omega
        · simp -implicitDefEqProofs (maxSteps := 5000000) (disch := omega) only [go_sem, h0, hm, e1, hz, if_pos, if_neg, dec_t, dec_f, IntWalk.i64_in, IntWalk.u32_in, IntWalk.u64_in, beq_no]
          exact ⟨i, hi, hv, .inr hz, rfl⟩
      · have : i = 0 := by omega
        subst this
        simp -implicitDefEqProofs (maxSteps := 5000000) (disch := omega) only [go_sem, h0, hm, if_pos, if_neg, dec_t, dec_f, IntWalk.i64_in, IntWalk.u32_in, IntWalk.u64_in, beq_no]
        exact ⟨0, hi, hv, .inl rfl, rfl⟩)
  dsimp only at h0
  refine ⟨i, hi, ?_, hv, ht⟩
  simp -implicitDefEqProofs (maxSteps := 5000000) (disch := omega) only [go_sem, h0, if_pos, if_neg, dec_t, dec_f, IntWalk.i64_in, IntWalk.u32_in, IntWalk.u64_in, beq_no]
theorem subtract_c {U V : List Int} (hU : Lm U) (hV : Lm V) (hn : U.length ≤ 1099511627776) {m : Nat → Blk} {nx iu iv off cu lv cv : Nat} {wv : Bool} {tu tv : TypeId} {eu ev' : Bool} {g : Int}
    (hmu : m iu = .live true tu (us U)) (hmv : m iv = .live wv tv (us V)) (hne : iv ≠ iu) (hlv : lv ≤ V.length) (hnv : lv ≤ 1099511627776) (hoff : off + (lv + 1) ≤ U.length) (hg0 : 0 ≤ g) (hg1 : g ≤ 1000000000) :
    ∃ m', Cq 170 [.ref iu 1 off (lv + 1) cu eu, .ref iv 1 0 lv cv ev', .int .u64 g] ⟨m, nx⟩ = some (.bool (dec (vl ((U.drop off).take (lv + 1)) < g * vl (V.take lv))), ⟨m', nx⟩) ∧
      m' iu = .live true tu (us (spl U off (dg (lv + 1) ((vl ((U.drop off).take (lv + 1)) - g * vl (V.take lv)) % pw (lv + 1))))) ∧ ∀ j, j ≠ iu → m' j = m j := by
  suffices h : ∃ m', fin Pq _ (execL Pq Xq sq cq 170 _ ⟨ini 0 [.ref iu 1 off (lv + 1) cu eu, .ref iv 1 0 lv cv ev', .int .u64 g], ⟨m, nx⟩⟩) = some (.bool (dec (vl ((U.drop off).take (lv + 1)) < g * vl (V.take lv))), ⟨m', nx⟩) ∧
      m' iu = .live true tu (us (spl U off (dg (lv + 1) ((vl ((U.drop off).take (lv + 1)) - g * vl (V.take lv)) % pw (lv + 1))))) ∧ ∀ j, j ≠ iu → m' j = m j from
    h.imp fun _ h => ⟨CL_of (f := 170) (fn := Tryz.f170) Tryz.func170 rfl rfl rfl (Nat.le_of_ble_eq_true rfl) h.1, h.2⟩
  simp -implicitDefEqProofs (maxSteps := 5000000) (disch := omega) only [go_sem, if_pos, if_neg, dec_t, dec_f, IntWalk.i64_in, IntWalk.u32_in, IntWalk.u64_in, beq_no]
  generalize hL : execL _ _ _ _ _ (.loop _) _ = L
  obtain ⟨⟨e, r, ⟨m', nx⟩⟩, rfl, rfl, rfl, hmj, ⟨w, c, b, hw, hwl, hc, hb, hv, hm', h7, h8⟩⟩ := loop_of hL (fun k s => s.M.nx = nx ∧ (∀ j, j ≠ iu → s.M.m j = m j) ∧ ∃ w c b, (k = lv + 1 - w.length ∧ w.length ≤ lv + 1 ∧ Lm w ∧ (0 ≤ c ∧ c < 1000000000) ∧ (0 ≤ b ∧ b ≤ 1) ∧ vl w - pw w.length * (c + b) = vl ((U.drop off).take w.length) - g * vl ((V.take lv).take w.length)) ∧ s.M.m iu = .live true tu (us (spl U off w)) ∧
      s.r 0 = .ref iu 1 off (lv + 1) cu eu ∧ s.r 1 = .ref iv 1 0 lv cv ev' ∧ s.r 2 = .int .u64 g ∧ s.r 7 = .int .u64 c ∧ s.r 8 = .int .u64 b ∧ s.r 14 = .int .i64 ((lv + 1 : Nat) : Int) ∧ s.r 15 = .int .i64 w.length)
    (fun y => y.1 = .exit 0 ∧ y.2.M.nx = nx ∧ (∀ j, j ≠ iu → y.2.M.m j = m j) ∧ ∃ w c b, Lm w ∧ w.length = lv + 1 ∧ (0 ≤ c ∧ c < 1000000000) ∧ (0 ≤ b ∧ b ≤ 1) ∧ vl w - pw (lv + 1) * (c + b) = vl ((U.drop off).take (lv + 1)) - g * vl (V.take lv) ∧ y.2.M.m iu = .live true tu (us (spl U off w)) ∧
      y.2.r 7 = .int .u64 c ∧ y.2.r 8 = .int .u64 b) ⟨lv + 1, by
      simp -implicitDefEqProofs (maxSteps := 5000000) (disch := omega) only [go_sem, if_pos, if_neg, dec_t, dec_f, IntWalk.i64_in, IntWalk.u32_in, IntWalk.u64_in, beq_no]
      exact ⟨fun _ _ => trivial, [], 0, 0, ⟨rfl, by simp, lm_nil, by omega, by omega, by simp [vl]⟩, by rw [spl_nil]; exact hmu, rfl, rfl, rfl⟩⟩ (by
      rintro k ⟨r, ⟨m', nx⟩⟩ ⟨rfl, hmj, w, c, b, ⟨rfl, hi, hw, hc, hb, hv⟩, hm', h0, h1, h2, h7, h8, h14, h15⟩
      dsimp only at hmj hm' h0 h1 h2 h7 h8 h14 h15
      have hmv' : m' iv = .live wv tv (us V) := by rw [hmj iv hne]; exact hmv
      by_cases hlt : w.length < lv + 1
      · have e1 : (w.length : Int).toNat = w.length := by omega
        have b1 := lm_getD hU (off + w.length)
        have b2 := lm_getD hV w.length
        have v1 := vl_take_any (U.drop off) w.length
        have v2 := vl_take_any (V.take lv) w.length
        rw [getD_drop'] at v1
        have sl := spl_length (U := U) (off := off) (w := w) (by omega)
        have sg := spl_get (U := U) (off := off) (w := w) (by omega)
        have ss := fun x => spl_set (U := U) (off := off) (w := w) x (by omega)
        have key : ∀ x c' b', x - 1000000000 * (c' + b') = U.getD (off + w.length) 0 - (V.take lv).getD w.length 0 * g - (c + b) → 0 ≤ x → x < 1000000000 → Lm (w ++ [x]) ∧ (w ++ [x]).length = w.length + 1 ∧ vl (w ++ [x]) - pw (w.length + 1) * (c' + b') = vl ((U.drop off).take (w.length + 1)) - g * vl ((V.take lv).take (w.length + 1)) := fun x c' b' hx h0 h1 => by
          refine ⟨lm_append.2 ⟨hw, lm_cons.2 ⟨⟨h0, h1⟩, lm_nil⟩⟩, by simp, ?_⟩
          rw [v1, v2, vl_snoc, pw_succ]
          exact sub_step hv hx
        by_cases hb' : w.length < lv
        · have gv : (V.take lv).getD w.length 0 = V.getD w.length 0 := getD_take' hb'
          have b4 : 0 ≤ V.getD w.length 0 * g := Int.mul_nonneg b2.1 hg0
          have b5 : V.getD w.length 0 * g ≤ 999999999 * 1000000000 := Int.mul_le_mul (by omega) hg1 hg0 (by omega)
          rw [gv] at key
          have t1 : 0 ≤ c + V.getD w.length 0 * g := by omega
          by_cases hx : U.getD (off + w.length) 0 < (c + V.getD w.length 0 * g) % 1000000000 + b
          · simp -implicitDefEqProofs (maxSteps := 5000000) (disch := omega) only [go_sem, h0, h1, h2, h7, h8, h14, h15, hm', hmv', e1, sl, sg, ss, Int.tmod_eq_emod_of_nonneg, Int.tdiv_eq_ediv_of_nonneg, if_pos, if_neg, dec_t, dec_f, IntWalk.i64_in, IntWalk.u32_in, IntWalk.u64_in, beq_no]
            generalize hq' : (c + V.getD w.length 0 * g) / 1000000000 = q' at *
            generalize hr' : (c + V.getD w.length 0 * g) % 1000000000 = r' at *
            obtain ⟨k1, k2, k3⟩ := key (U.getD (off + w.length) 0 + 1000000000 - (r' + b)) q' 1 (by omega) (by omega) (by omega)
            exact ⟨_, by omega, fun j hj => by rw [beq_no hj]; exact hmj j hj, _, q', 1, ⟨rfl, by omega, k1, by omega, by omega, by rw [k2]; exact k3⟩, rfl, rfl, rfl, by rw [k2]; rfl⟩
          · simp -implicitDefEqProofs (maxSteps := 5000000) (disch := omega) only [go_sem, h0, h1, h2, h7, h8, h14, h15, hm', hmv', e1, sl, sg, ss, Int.tmod_eq_emod_of_nonneg, Int.tdiv_eq_ediv_of_nonneg, if_pos, if_neg, dec_t, dec_f, IntWalk.i64_in, IntWalk.u32_in, IntWalk.u64_in, beq_no]
            generalize hq' : (c + V.getD w.length 0 * g) / 1000000000 = q' at *
            generalize hr' : (c + V.getD w.length 0 * g) % 1000000000 = r' at *
            obtain ⟨k1, k2, k3⟩ := key (U.getD (off + w.length) 0 - (r' + b)) q' 0 (by omega) (by omega) (by omega)
            exact ⟨_, by omega, fun j hj => by rw [beq_no hj]; exact hmj j hj, _, q', 0, ⟨rfl, by omega, k1, by omega, by omega, by rw [k2]; exact k3⟩, rfl, rfl, rfl, by rw [k2]; rfl⟩
        · have gv : (V.take lv).getD w.length 0 = 0 := getD_over (by rw [List.length_take]; omega)
          rw [gv, Int.zero_mul] at key
          by_cases hx : U.getD (off + w.length) 0 < c % 1000000000 + b
          · simp -implicitDefEqProofs (maxSteps := 5000000) (disch := omega) only [go_sem, h0, h1, h2, h7, h8, h14, h15, hm', hmv', e1, sl, sg, ss, Int.tmod_eq_emod_of_nonneg, Int.tdiv_eq_ediv_of_nonneg, if_pos, if_neg, dec_t, dec_f, IntWalk.i64_in, IntWalk.u32_in, IntWalk.u64_in, beq_no]
            generalize hq' : (c) / 1000000000 = q' at *
            generalize hr' : (c) % 1000000000 = r' at *
            obtain ⟨k1, k2, k3⟩ := key (U.getD (off + w.length) 0 + 1000000000 - (r' + b)) q' 1 (by omega) (by omega) (by omega)
            exact ⟨_, by omega, fun j hj => by rw [beq_no hj]; exact hmj j hj, _, q', 1, ⟨rfl, by omega, k1, by omega, by omega, by rw [k2]; exact k3⟩, rfl, rfl, rfl, by rw [k2]; rfl⟩
          · simp -implicitDefEqProofs (maxSteps := 5000000) (disch := omega) only [go_sem, h0, h1, h2, h7, h8, h14, h15, hm', hmv', e1, sl, sg, ss, Int.tmod_eq_emod_of_nonneg, Int.tdiv_eq_ediv_of_nonneg, if_pos, if_neg, dec_t, dec_f, IntWalk.i64_in, IntWalk.u32_in, IntWalk.u64_in, beq_no]
            generalize hq' : (c) / 1000000000 = q' at *
            generalize hr' : (c) % 1000000000 = r' at *
            obtain ⟨k1, k2, k3⟩ := key (U.getD (off + w.length) 0 - (r' + b)) q' 0 (by omega) (by omega) (by omega)
            exact ⟨_, by omega, fun j hj => by rw [beq_no hj]; exact hmj j hj, _, q', 0, ⟨rfl, by omega, k1, by omega, by omega, by rw [k2]; exact k3⟩, rfl, rfl, rfl, by rw [k2]; rfl⟩
      · have hwl : w.length = lv + 1 := by omega
        simp -implicitDefEqProofs (maxSteps := 5000000) (disch := omega) only [go_sem, h14, h15, h7, h8, if_pos, if_neg, dec_t, dec_f, IntWalk.i64_in, IntWalk.u32_in, IntWalk.u64_in, beq_no]
        refine ⟨hmj, w, c, b, hw, hwl, hc, hb, ?_, hm', rfl, rfl⟩
        rw [hwl] at hv
        rw [hv, List.take_of_length_le (l := V.take lv) (by rw [List.length_take]; omega)])
  dsimp only at hmj hm' h7 h8
  have p1 := vl_lt hw
  have p2 := vl_nonneg hw
  rw [hwl] at p1
  have p3 := emod_of p2 p1 hv
  have p4 := pw_pos (lv + 1)
  have iff : vl ((U.drop off).take (lv + 1)) < g * vl (V.take lv) ↔ 0 < c + b := by
    constructor
    · intro h
      by_cases h0 : c + b = 0
      · rw [h0, Int.mul_zero] at hv; omega
      · omega
    · intro h
      have : pw (lv + 1) * 1 ≤ pw (lv + 1) * (c + b) := Int.mul_le_mul_of_nonneg_left (by omega) (by omega)
      omega
  refine ⟨m', ?_, ?_, hmj⟩
  · by_cases h0 : 0 < b
    · rw [dec_t (iff.2 (by omega))]
      simp -implicitDefEqProofs (maxSteps := 5000000) (disch := omega) only [go_sem, h7, h8, if_pos, if_neg, dec_t, dec_f, IntWalk.i64_in, IntWalk.u32_in, IntWalk.u64_in, beq_no]
    · by_cases h1 : 0 < c
      · rw [dec_t (iff.2 (by omega))]
        simp -implicitDefEqProofs (maxSteps := 5000000) (disch := omega) only [go_sem, h7, h8, if_pos, if_neg, dec_t, dec_f, IntWalk.i64_in, IntWalk.u32_in, IntWalk.u64_in, beq_no]
      · rw [dec_f (fun h => by have := iff.1 h; omega)]
        simp -implicitDefEqProofs (maxSteps := 5000000) (disch := omega) only [go_sem, h7, h8, if_pos, if_neg, dec_t, dec_f, IntWalk.i64_in, IntWalk.u32_in, IntWalk.u64_in, beq_no]
  · rw [hm', p3, ← dg_of hw hwl rfl]
theorem restore_c {U V : List Int} (hU : Lm U) (hV : Lm V) (hn : U.length ≤ 1099511627776) {m : Nat → Blk} {nx iu iv off cu lv cv : Nat} {wv : Bool} {tu tv : TypeId} {eu ev' : Bool}
    (hmu : m iu = .live true tu (us U)) (hmv : m iv = .live wv tv (us V)) (hne : iv ≠ iu) (hlv : lv ≤ V.length) (hnv : lv ≤ 1099511627776) (hoff : off + (lv + 1) ≤ U.length) :
    ∃ m', Cq 171 [.ref iu 1 off (lv + 1) cu eu, .ref iv 1 0 lv cv ev'] ⟨m, nx⟩ = some (.tup [], ⟨m', nx⟩) ∧
      m' iu = .live true tu (us (spl U off (dg (lv + 1) ((vl ((U.drop off).take (lv + 1)) + vl (V.take lv)) % pw (lv + 1))))) ∧ ∀ j, j ≠ iu → m' j = m j := by
  suffices h : ∃ m', fin Pq _ (execL Pq Xq sq cq 171 _ ⟨ini 0 [.ref iu 1 off (lv + 1) cu eu, .ref iv 1 0 lv cv ev'], ⟨m, nx⟩⟩) = some (.tup [], ⟨m', nx⟩) ∧
      m' iu = .live true tu (us (spl U off (dg (lv + 1) ((vl ((U.drop off).take (lv + 1)) + vl (V.take lv)) % pw (lv + 1))))) ∧ ∀ j, j ≠ iu → m' j = m j from
    h.imp fun _ h => ⟨CL_of (f := 171) (fn := Tryz.f171) Tryz.func171 rfl rfl rfl (Nat.le_of_ble_eq_true rfl) h.1, h.2⟩
  simp -implicitDefEqProofs (maxSteps := 5000000) (disch := omega) only [go_sem, if_pos, if_neg, dec_t, dec_f, IntWalk.i64_in, IntWalk.u32_in, IntWalk.u64_in, beq_no]
  generalize hL : execL _ _ _ _ _ (.loop _) _ = L
  obtain ⟨⟨e, r, ⟨m', nx⟩⟩, rfl, rfl, rfl, hmj, ⟨w, c, hw, hwl, hc, hv, hm'⟩⟩ := loop_of hL (fun k s => s.M.nx = nx ∧ (∀ j, j ≠ iu → s.M.m j = m j) ∧ ∃ w c, (k = lv + 1 - w.length ∧ w.length ≤ lv + 1 ∧ Lm w ∧ (0 ≤ c ∧ c ≤ 1) ∧ vl w - pw w.length * (-c) = vl ((U.drop off).take w.length) - (-1) * vl ((V.take lv).take w.length)) ∧ s.M.m iu = .live true tu (us (spl U off w)) ∧
      s.r 0 = .ref iu 1 off (lv + 1) cu eu ∧ s.r 1 = .ref iv 1 0 lv cv ev' ∧ s.r 4 = .int .u32 c ∧ s.r 8 = .int .i64 ((lv + 1 : Nat) : Int) ∧ s.r 9 = .int .i64 w.length)
    (fun y => y.1 = .exit 0 ∧ y.2.M.nx = nx ∧ (∀ j, j ≠ iu → y.2.M.m j = m j) ∧ ∃ w c, Lm w ∧ w.length = lv + 1 ∧ (0 ≤ c ∧ c ≤ 1) ∧ vl w - pw (lv + 1) * (-c) = vl ((U.drop off).take (lv + 1)) - (-1) * vl (V.take lv) ∧ y.2.M.m iu = .live true tu (us (spl U off w))) ⟨lv + 1, by
      simp -implicitDefEqProofs (maxSteps := 5000000) (disch := omega) only [go_sem, if_pos, if_neg, dec_t, dec_f, IntWalk.i64_in, IntWalk.u32_in, IntWalk.u64_in, beq_no]
      exact ⟨fun _ _ => trivial, [], 0, ⟨rfl, by simp, lm_nil, by omega, by simp [vl]⟩, by rw [spl_nil]; exact hmu, rfl, rfl⟩⟩ (by
      rintro k ⟨r, ⟨m', nx⟩⟩ ⟨rfl, hmj, w, c, ⟨rfl, hi, hw, hc, hv⟩, hm', h0, h1, h4, h8, h9⟩
      dsimp only at hmj hm' h0 h1 h4 h8 h9
      have hmv' : m' iv = .live wv tv (us V) := by rw [hmj iv hne]; exact hmv
      by_cases hlt : w.length < lv + 1
      · have e1 : (w.length : Int).toNat = w.length := by omega
        have b1 := lm_getD hU (off + w.length)
        have b2 := lm_getD hV w.length
        have v1 := vl_take_any (U.drop off) w.length
        have v2 := vl_take_any (V.take lv) w.length
        rw [getD_drop'] at v1
        have sl := spl_length (U := U) (off := off) (w := w) (by omega)
        have sg := spl_get (U := U) (off := off) (w := w) (by omega)
        have ss := fun x => spl_set (U := U) (off := off) (w := w) x (by omega)
        have key : ∀ x c', x - 1000000000 * (-c') = U.getD (off + w.length) 0 - (V.take lv).getD w.length 0 * (-1) - (-c) → 0 ≤ x → x < 1000000000 → Lm (w ++ [x]) ∧ (w ++ [x]).length = w.length + 1 ∧ vl (w ++ [x]) - pw (w.length + 1) * (-c') = vl ((U.drop off).take (w.length + 1)) - (-1) * vl ((V.take lv).take (w.length + 1)) := fun x c' hx h0 h1 => by
          refine ⟨lm_append.2 ⟨hw, lm_cons.2 ⟨⟨h0, h1⟩, lm_nil⟩⟩, by simp, ?_⟩
          rw [v1, v2, vl_snoc, pw_succ]
          exact sub_step hv hx
        by_cases hb' : w.length < lv
        · have gv : (V.take lv).getD w.length 0 = V.getD w.length 0 := getD_take' hb'
          rw [gv] at key
          by_cases hx : 1000000000 ≤ U.getD (off + w.length) 0 + c + V.getD w.length 0
          · simp -implicitDefEqProofs (maxSteps := 5000000) (disch := omega) only [go_sem, h0, h1, h4, h8, h9, hm', hmv', e1, sl, sg, ss, if_pos, if_neg, dec_t, dec_f, IntWalk.i64_in, IntWalk.u32_in, IntWalk.u64_in, beq_no]
            obtain ⟨k1, k2, k3⟩ := key (U.getD (off + w.length) 0 + c + V.getD w.length 0 - 1000000000) 1 (by omega) (by omega) (by omega)
            exact ⟨_, by omega, fun j hj => by rw [beq_no hj]; exact hmj j hj, _, 1, ⟨rfl, by omega, k1, by omega, by rw [k2]; exact k3⟩, rfl, rfl, by rw [k2]; rfl⟩
          · simp -implicitDefEqProofs (maxSteps := 5000000) (disch := omega) only [go_sem, h0, h1, h4, h8, h9, hm', hmv', e1, sl, sg, ss, if_pos, if_neg, dec_t, dec_f, IntWalk.i64_in, IntWalk.u32_in, IntWalk.u64_in, beq_no]
            obtain ⟨k1, k2, k3⟩ := key (U.getD (off + w.length) 0 + c + V.getD w.length 0) 0 (by omega) (by omega) (by omega)
            exact ⟨_, by omega, fun j hj => by rw [beq_no hj]; exact hmj j hj, _, 0, ⟨rfl, by omega, k1, by omega, by rw [k2]; exact k3⟩, rfl, rfl, by rw [k2]; rfl⟩
        · have gv : (V.take lv).getD w.length 0 = 0 := getD_over (by rw [List.length_take]; omega)
          rw [gv] at key
          by_cases hx : 1000000000 ≤ U.getD (off + w.length) 0 + c
          · simp -implicitDefEqProofs (maxSteps := 5000000) (disch := omega) only [go_sem, h0, h1, h4, h8, h9, hm', hmv', e1, sl, sg, ss, if_pos, if_neg, dec_t, dec_f, IntWalk.i64_in, IntWalk.u32_in, IntWalk.u64_in, beq_no]
            obtain ⟨k1, k2, k3⟩ := key (U.getD (off + w.length) 0 + c - 1000000000) 1 (by omega) (by omega) (by omega)
            exact ⟨_, by omega, fun j hj => by rw [beq_no hj]; exact hmj j hj, _, 1, ⟨rfl, by omega, k1, by omega, by rw [k2]; exact k3⟩, rfl, rfl, by rw [k2]; rfl⟩
          · simp -implicitDefEqProofs (maxSteps := 5000000) (disch := omega) only [go_sem, h0, h1, h4, h8, h9, hm', hmv', e1, sl, sg, ss, if_pos, if_neg, dec_t, dec_f, IntWalk.i64_in, IntWalk.u32_in, IntWalk.u64_in, beq_no]
            obtain ⟨k1, k2, k3⟩ := key (U.getD (off + w.length) 0 + c) 0 (by omega) (by omega) (by omega)
            exact ⟨_, by omega, fun j hj => by rw [beq_no hj]; exact hmj j hj, _, 0, ⟨rfl, by omega, k1, by omega, by rw [k2]; exact k3⟩, rfl, rfl, by rw [k2]; rfl⟩
      · have hwl : w.length = lv + 1 := by omega
        simp -implicitDefEqProofs (maxSteps := 5000000) (disch := omega) only [go_sem, h8, h9, if_pos, if_neg, dec_t, dec_f, IntWalk.i64_in, IntWalk.u32_in, IntWalk.u64_in, beq_no]
        refine ⟨hmj, w, c, hw, hwl, hc, ?_, hm'⟩
        rw [hwl] at hv
        rw [hv, List.take_of_length_le (l := V.take lv) (by rw [List.length_take]; omega)])
  dsimp only at hmj hm'
  have p1 := vl_lt hw
  have p2 := vl_nonneg hw
  rw [hwl] at p1
  have p3 := emod_of p2 p1 hv
  refine ⟨m', ?_, ?_, hmj⟩
  · simp -implicitDefEqProofs (maxSteps := 5000000) (disch := omega) only [go_sem, if_pos, if_neg, dec_t, dec_f, IntWalk.i64_in, IntWalk.u32_in, IntWalk.u64_in, beq_no]
  · rw [hm']
    rw [show vl ((U.drop off).take (lv + 1)) + vl (V.take lv) = vl ((U.drop off).take (lv + 1)) - (-1) * vl (V.take lv) by omega, p3, ← dg_of hw hwl rfl]
end Go.Pi

set_option linter.unusedVariables false
set_option linter.unusedSimpArgs false
set_option maxHeartbeats 4000000
set_option maxRecDepth 8000
/-
Long division.
-/
namespace Go.Pi
open Go Go.Proofs Num
theorem len_le {l : List Int} (h : Lm l) : (lm (vl l)).length ≤ l.length := by
  have h0 := vl_nonneg h
  rw [length_lm]; exact ll_le (vl_lt h) (by have := pw_pos l.length; omega)
theorem vl_vl {l : List Int} (h : Lm l) : vl (lm (vl l)) = vl l := by
  have h0 := vl_nonneg h
  rw [vl_lm]; omega
theorem us_head {l : List Int} (h : l.length = 1) : ∃ x, l = [x] := List.length_eq_one_iff.1 h
theorem divide_one {a b : List Int} (ha : Lm a) (hb : Lm b) (hna : a.length ≤ 1000000000) (hnb : b.length ≤ 1000000000) (h1 : (lm (vl b)).length = 1) :
    Rq 153 [.sl false (us a), .sl false (us b)] = some (.tup [.sl false (us (dg (lm (vl a)).length (vl a / vl b))), .sl false (us [vl a % vl b])]) := by
  refine RL_of (f := 153) (fn := Tryz.f153) Tryz.func153 rfl rfl rfl (Nat.le_of_ble_eq_true rfl) ?_
  obtain ⟨ea, t1⟩ := trim_c a ha (by omega) false mem0
  obtain ⟨eb, t2⟩ := trim_c b hb (by omega) false mem0
  have la := len_le ha
  have va := vl_vl ha
  have vb := vl_vl hb
  obtain ⟨x, hx⟩ := us_head h1
  have hB := lm_lm (vl b)
  rw [hx, lm_cons] at hB
  have vx : vl b = x := by rw [← vb, hx]; simp [vl]
  have hx0 : x ≠ 0 := fun e => by
    have := lm_eq_nil.2 (show vl b = 0 by omega)
    rw [hx] at this; cases this
  have bw := byWord_r (b := x) (lm_lm (vl a)) (by omega) (by omega) (by omega)
  rw [va] at bw
  simp only [mem0_eq] at t1 t2
  simp -implicitDefEqProofs (maxSteps := 5000000) (disch := omega) only [go_sem, t1, t2, h1, hx, us_cons, us_nil, us_length, bw, if_pos, if_neg, dec_t, dec_f, IntWalk.i64_in, IntWalk.u32_in, IntWalk.u64_in, beq_no]
  rw [vx]
theorem divide_less {a b : List Int} (ha : Lm a) (hb : Lm b) (hna : a.length ≤ 1000000000) (hnb : b.length ≤ 1000000000) (h1 : (lm (vl b)).length ≠ 1) (h2 : vl a < vl b) :
    Rq 153 [.sl false (us a), .sl false (us b)] = some (.tup [.sl false (us []), .sl false (us (lm (vl a)))]) := by
  refine RL_of (f := 153) (fn := Tryz.f153) Tryz.func153 rfl rfl rfl (Nat.le_of_ble_eq_true rfl) ?_
  obtain ⟨ea, t1⟩ := trim_c a ha (by omega) false mem0
  obtain ⟨eb, t2⟩ := trim_c b hb (by omega) false mem0
  have la := len_le ha
  have lb := len_le hb
  have va := vl_vl ha
  have vb := vl_vl hb
  have co := compare_r (lm_lm (vl a)) (lm_lm (vl b)) (by omega) (by omega)
  rw [va, vb, Int.sign_eq_neg_one_of_neg (by omega)] at co
  simp only [mem0_eq] at t1 t2
  by_cases hz : lm (vl a) = []
  · rw [hz, us_nil] at co
    simp -implicitDefEqProofs (maxSteps := 5000000) (disch := omega) only [go_sem, t1, t2, h1, co, hz, us_nil, PV.isSl, if_pos, if_neg, dec_t, dec_f, IntWalk.i64_in, IntWalk.u32_in, IntWalk.u64_in, beq_no]
  · have ap := fun (m : Nat → Blk) (nx : Nat) (e : TypeId) => apY_new (m := m) (nx := nx) (e := e) (z := [.int .u32 0]) hz rfl (by omega)
    simp -implicitDefEqProofs (maxSteps := 5000000) (disch := omega) only [go_sem, t1, t2, h1, co, us_nil, ap, gd_us, elems_us, List.take_length, if_pos, if_neg, dec_t, dec_f, IntWalk.i64_in, IntWalk.u32_in, IntWalk.u64_in, beq_no]
theorem divide_inner {c : Code} (hc : lpAt Tryz.f153 1 = some c) {U V : List Int} {n k lu : Nat} {x7 x10 : PV} {r : Nat → PV} {m : Nat → Blk} {nx : Nat} {g rest v1 v2 u0 top Us Vv P vlo ulo : Int}
    (hm1 : m 1 = .live true 143 (us U)) (hm2 : m 2 = .live true 143 (us V)) (h6 : r 6 = .int .i64 n) (h7 : r 7 = x7) (h8 : r 8 = .ref 1 1 0 lu lu false) (h9 : r 9 = .ref 2 1 0 n (n + 1) true) (h10 : r 10 = x10) (h11 : r 11 = .int .i64 k) (h13 : r 13 = .int .u64 g) (h14 : r 14 = .int .u64 rest)
    (hn : 2 ≤ n) (hV : V.length = n + 1) (hU : U.length = lu) (hk : k + n < lu) (hlu : lu ≤ 4000000000)
    (hv1 : V.getD (n - 1) 0 = v1) (hv2 : V.getD (n - 2) 0 = v2) (hu0 : U.getD (k + n - 2) 0 = u0)
    (r5 : 0 < P) (tt : Vv = (v1 * 1000000000 + v2) * P + vlo) (r3 : 0 ≤ vlo) (r4 : vlo < P) (t6 : Us = (top * 1000000000 + u0) * P + ulo) (c4 : 0 ≤ ulo) (c5 : ulo < P) (hUB : Us < 1000000000 * Vv)
    (r1 : v1 < 1000000000) (r6 : 500000000 ≤ v1) (r2 : 0 ≤ v2 ∧ v2 < 1000000000) (c3 : 0 ≤ u0 ∧ u0 < 1000000000) (htopB : top ≤ v1 * 1000000000 + v2)
    (g0 : 0 ≤ g) (gB : g ≤ 2000000000) (ht : top = g * v1 + rest) (hr0 : 0 ≤ rest) (hr1 : rest < 1000000000) (hg : Us < (g + 1) * Vv) :
    ∀ L, execL Pq Xq sq cq 153 (.loop c) ⟨r, ⟨m, nx⟩⟩ = L → ∃ e st, L = some (e, st) ∧ e = .exit 2 ∧ ∃ g, (0 ≤ g ∧ g < 1000000000 ∧ Us < (g + 1) * Vv ∧ g * Vv < Us + Vv) ∧ st.M.m = m ∧ st.r 6 = .int .i64 n ∧ st.r 7 = x7 ∧ st.r 8 = .ref 1 1 0 lu lu false ∧ st.r 9 = .ref 2 1 0 n (n + 1) true ∧ st.r 10 = x10 ∧ st.r 11 = .int .i64 k ∧ st.r 13 = .int .u64 g := by
  obtain rfl := Option.some.inj (show some _ = some c from hc)
  have vV0 : 0 < Vv := by
    have : 0 < (v1 * 1000000000 + v2) * P := Int.mul_pos (by omega) r5
    omega
  have f3 : ((n : Int) - 1).toNat = n - 1 := by omega
  have f4 : ((k : Int) + n - 2).toNat = k + n - 2 := by omega
  have f5 : ((n : Int) - 2).toNat = n - 2 := by omega
  have dn := fun (g rest : Int) (q1 : 0 ≤ g) (q3 : top = g * v1 + rest) => guess_down (U := Us) (V := Vv) (P := P) (g := g) (rest := rest) r5 tt r3 t6 c5 hUB q3 (Int.le_of_lt vV0) q1
  have ge := fun (g' rest' : Int) (a1 : top = g' * v1 + rest') (a2 : 0 ≤ g') (a3 : g' ≤ 1000000000) (a4 : g' * v2 ≤ rest' * 1000000000 + u0) => guess_end (U := Us) (V := Vv) (P := P) r5 tt r3 r4 t6 c4 a1 r2.1 r6 a2 a3 a4
  have fin0 : ∀ g' : Int, (g' * Vv < Us + Vv ∨ g' * Vv ≤ Us) → g' * Vv < Us + Vv := fun g' h => by omega
  clear tt t6 hUB r3 r4 c4 c5 r5
  have brk : ∀ g' rest', top = g' * v1 + rest' → 1000000000 ≤ rest' → g' < 1000000000 := fun g' rest' a1 a2 => by
    by_cases h : g' < 1000000000
    · exact h
    · have : 1000000000 * v1 ≤ g' * v1 := Int.mul_le_mul_of_nonneg_right (by omega) (by omega)
      omega
  have low : ∀ g' : Int, Us < g' * Vv → Us < (g' - 1 + 1) * Vv := fun g' h => by rw [Int.sub_add_cancel]; exact h
  clear htopB
  intro L2 hL2
  obtain ⟨⟨e, st⟩, rfl, h⟩ := loop_of hL2 (fun i st => ∃ g rest, (i = g.toNat ∧ 0 ≤ g ∧ g ≤ 2000000000 ∧ top = g * v1 + rest ∧ 0 ≤ rest ∧ rest < 1000000000 ∧ Us < (g + 1) * Vv) ∧ st.M.m = m ∧ st.r 6 = .int .i64 n ∧ st.r 7 = x7 ∧ st.r 8 = .ref 1 1 0 lu lu false ∧ st.r 9 = .ref 2 1 0 n (n + 1) true ∧ st.r 10 = x10 ∧ st.r 11 = .int .i64 k ∧ st.r 13 = .int .u64 g ∧ st.r 14 = .int .u64 rest)
    (fun y => y.1 = .exit 2 ∧ ∃ g, (0 ≤ g ∧ g < 1000000000 ∧ Us < (g + 1) * Vv ∧ g * Vv < Us + Vv) ∧ y.2.M.m = m ∧ y.2.r 6 = .int .i64 n ∧ y.2.r 7 = x7 ∧ y.2.r 8 = .ref 1 1 0 lu lu false ∧ y.2.r 9 = .ref 2 1 0 n (n + 1) true ∧ y.2.r 10 = x10 ∧ y.2.r 11 = .int .i64 k ∧ y.2.r 13 = .int .u64 g)
    ⟨g.toNat, g, rest, ⟨rfl, g0, gB, ht, hr0, hr1, hg⟩, rfl, h6, h7, h8, h9, h10, h11, h13, h14⟩ (by
    clear hL2 h6 h7 h8 h9 h10 h11 h13 h14 g0 gB ht hr0 hr1 hg
    rintro i ⟨r, ⟨m', nx⟩⟩ ⟨g, rest, ⟨rfl, q1, q2, q3, q4, q5, q6⟩, j0, j6, j7, j8, j9, j10, j11, j13, j14⟩
    dsimp only at j0 j6 j7 j8 j9 j10 j11 j13 j14
    subst j0
    have w1 : 0 ≤ g * v2 := Int.mul_nonneg q1 r2.1
    have w2 : g * v2 ≤ 2000000000 * 999999999 := Int.mul_le_mul q2 (by omega) r2.1 (by omega)
    have dn := dn g rest q1 q3
    by_cases hgB : 1000000000 ≤ g
    · have a1 : top = (g - 1) * v1 + (rest + v1) := by rw [Int.sub_mul]; omega
      have lo := low g (dn (.inl hgB))
      clear dn q6 low
      by_cases hr : 1000000000 ≤ rest + v1
      · have a2 := brk _ _ a1 hr
        have a3 : (g - 1) * v2 ≤ 1000000000 * 999999999 := Int.mul_le_mul (by omega) (by omega) r2.1 (by omega)
        have a4 := fin0 _ (ge (g - 1) (rest + v1) a1 (by omega) (by omega) (by omega))
        clear ge fin0 a1 brk a3 q3
        simp -implicitDefEqProofs (maxSteps := 5000000) (disch := omega) only [go_sem, hm1, hm2, j6, j7, j8, j9, j10, j11, j13, j14, f4, f5, f3, hv1, hv2, hu0, if_pos, if_neg, dec_t, dec_f, IntWalk.i64_in, IntWalk.u32_in, IntWalk.u64_in, beq_no]
        exact ⟨g - 1, ⟨by omega, a2, lo, a4⟩, rfl⟩
      · clear ge fin0 brk q3
        simp -implicitDefEqProofs (maxSteps := 5000000) (disch := omega) only [go_sem, hm1, hm2, j6, j7, j8, j9, j10, j11, j13, j14, f4, f5, f3, hv1, hv2, hu0, if_pos, if_neg, dec_t, dec_f, IntWalk.i64_in, IntWalk.u32_in, IntWalk.u64_in, beq_no]
        exact ⟨(g - 1).toNat, by omega, g - 1, rest + v1, ⟨rfl, by omega, by omega, a1, by omega, by omega, lo⟩, rfl, rfl⟩
    · by_cases hgt : rest * 1000000000 + u0 < g * v2
      · have a1 : top = (g - 1) * v1 + (rest + v1) := by rw [Int.sub_mul]; omega
        have gp : 1 ≤ g := by
          by_cases h : g = 0
          · subst h; omega
          · omega
        have lo := low g (dn (.inr hgt))
        clear dn q6 low
        by_cases hr : 1000000000 ≤ rest + v1
        · have a2 := brk _ _ a1 hr
          have a3 : (g - 1) * v2 ≤ 1000000000 * 999999999 := Int.mul_le_mul (by omega) (by omega) r2.1 (by omega)
          have a4 := fin0 _ (ge (g - 1) (rest + v1) a1 (by omega) (by omega) (by omega))
          clear ge fin0 a1 brk a3 q3
          simp -implicitDefEqProofs (maxSteps := 5000000) (disch := omega) only [go_sem, hm1, hm2, j6, j7, j8, j9, j10, j11, j13, j14, f4, f5, f3, hv1, hv2, hu0, hgt, if_pos, if_neg, dec_t, dec_f, IntWalk.i64_in, IntWalk.u32_in, IntWalk.u64_in, beq_no]
          exact ⟨g - 1, ⟨by omega, a2, lo, a4⟩, rfl⟩
        · clear ge fin0 brk q3
          simp -implicitDefEqProofs (maxSteps := 5000000) (disch := omega) only [go_sem, hm1, hm2, j6, j7, j8, j9, j10, j11, j13, j14, f4, f5, f3, hv1, hv2, hu0, hgt, if_pos, if_neg, dec_t, dec_f, IntWalk.i64_in, IntWalk.u32_in, IntWalk.u64_in, beq_no]
          exact ⟨(g - 1).toNat, by omega, g - 1, rest + v1, ⟨rfl, by omega, by omega, a1, by omega, by omega, lo⟩, rfl, rfl⟩
      · have a4 := fin0 _ (ge g rest q3 q1 (by omega) (by omega))
        clear ge fin0 brk q3 dn low
        simp -implicitDefEqProofs (maxSteps := 5000000) (disch := omega) only [go_sem, hm1, hm2, j6, j7, j8, j9, j10, j11, j13, j14, f4, f5, f3, hv1, hv2, hu0, hgt, if_pos, if_neg, dec_t, dec_f, IntWalk.i64_in, IntWalk.u32_in, IntWalk.u64_in, beq_no]
        exact ⟨g, ⟨q1, by omega, q6, a4⟩, rfl⟩)
  exact ⟨e, st, rfl, h⟩
end Go.Pi

set_option linter.unusedVariables false
set_option linter.unusedSimpArgs false
set_option maxHeartbeats 4000000
set_option maxRecDepth 8000
/-
Long division: a digit, all digits.
-/
namespace Go.Pi
open Go Go.Proofs Num
theorem divide_digit {c : Code} (hc : lpAt Tryz.f153 0 = some c) {U V qs : List Int} {n k lu : Nat} {x7 : PV} {r : Nat → PV} {m : Nat → Blk} {nx : Nat} {v1 v2 Vv T0 : Int}
    (hm1 : m 1 = .live true 143 (us U)) (hm2 : m 2 = .live true 143 (us V)) (hm3 : m 3 = .live true 143 (us (List.replicate (k + 1) 0 ++ qs))) (h6 : r 6 = .int .i64 n) (h7 : r 7 = x7) (h8 : r 8 = .ref 1 1 0 lu lu false) (h9 : r 9 = .ref 2 1 0 n (n + 1) true) (h10 : r 10 = .ref 3 1 0 (lu - n) (lu - n) true) (h11 : r 11 = .int .i64 k)
    (hn : 2 ≤ n) (hV : V.length = n + 1) (hVl : Lm V) (hU : U.length = lu) (hUl : Lm U) (hqs : Lm qs) (hk : k + 1 + qs.length = lu - n) (hnl : n ≤ lu) (hlu : lu ≤ 4000000000)
    (hv1 : V.getD (n - 1) 0 = v1) (hv2 : V.getD (n - 2) 0 = v2) (r6 : 500000000 ≤ v1)
    (hVt : vl (V.take n) = Vv) (hinv : vl U + pw (k + 1) * (vl qs * Vv) = T0) (hlt : vl (U.drop (k + 1)) < Vv) :
    ∃ st, execL Pq Xq sq cq 153 c ⟨r, ⟨m, nx⟩⟩ = some (.normal, st) ∧ ∃ U qs, (U.length = lu ∧ Lm U ∧ Lm qs ∧ k + qs.length = lu - n ∧ vl U + pw k * (vl qs * Vv) = T0 ∧ vl (U.drop k) < Vv) ∧ st.M.m 1 = .live true 143 (us U) ∧ st.M.m 2 = .live true 143 (us V) ∧ st.M.m 3 = .live true 143 (us (List.replicate k 0 ++ qs)) ∧ st.r 6 = .int .i64 n ∧ st.r 7 = x7 ∧ st.r 8 = .ref 1 1 0 lu lu false ∧ st.r 9 = .ref 2 1 0 n (n + 1) true ∧ st.r 10 = .ref 3 1 0 (lu - n) (lu - n) true ∧ st.r 11 = .int .i64 ((k : Int) - 1) := by
  have hx := hc
  obtain rfl := Option.some.inj (show some _ = some c from hc)
  have f1 : ((k : Int) + n).toNat = k + n := by omega
  have f2 : ((k : Int) + n - 1).toNat = k + n - 1 := by omega
  have f3 : ((n : Int) - 1).toNat = n - 1 := by omega
  have f6 : ((k : Int) + n + 1).toNat = k + n + 1 := by omega
  have f7 : k + n + 1 - k = n + 1 := by omega
  have f8 : (k : Int).toNat = k := by omega
  have tt := two_top V hn
  rw [hVt] at tt
  have r1 := lm_getD hVl (n - 1)
  have r2 := lm_getD hVl (n - 2)
  have r3 := vl_nonneg (lm_take (n - 2) hVl)
  have r4 := vl_lt (lm_take (n - 2) hVl)
  rw [List.length_take, Nat.min_eq_left (by omega)] at r4
  have r5 := pw_pos (n - 2)
  rw [hv1] at r1
  rw [hv2] at r2
  rw [hv1, hv2] at tt
  have pwn := pw_succ n
  have pwn0 := pw_pos n
  have vVn : Vv < pw n := by
    have := vl_lt (lm_take n hVl)
    rwa [List.length_take, Nat.min_eq_left (by omega), hVt] at this
  have vV0 : 0 < Vv := by
    have : 0 < (v1 * 1000000000 + v2) * pw (n - 2) := Int.mul_pos (by omega) r5
    omega
  have hz := zero_above hUl (off := k + 1) (n := n) (by omega) (by omega)
  rw [show k + 1 + n = k + (n + 1) by omega] at hz
  have hUs := vl_drop_part (U := U) k (n + 1) (by omega)
  rw [hz, Int.mul_zero, Int.add_zero] at hUs
  have hUk := vl_drop_succ U k (by omega)
  have t6 := three_top (U.drop k) hn
  rw [getD_drop', getD_drop', getD_drop', ← hUs, show k + (n - 1) = k + n - 1 by omega, show k + (n - 2) = k + n - 2 by omega] at t6
  have c0 := lm_getD hUl k
  have c1 := lm_getD hUl (k + n)
  have c2 := lm_getD hUl (k + n - 1)
  have c3 := lm_getD hUl (k + n - 2)
  have c4 := vl_nonneg (lm_take (n - 2) (lm_drop k hUl))
  have c5 := vl_lt (lm_take (n - 2) (lm_drop k hUl))
  rw [List.length_take, Nat.min_eq_left (by rw [List.length_drop]; omega)] at c5
  have c6 := vl_nonneg (lm_drop k hUl)
  generalize hUsv : vl (U.drop k) = Us at *
  have hUB : Us < 1000000000 * Vv := by omega
  generalize hu1 : U.getD (k + n) 0 = u1 at *
  generalize hu2 : U.getD (k + n - 1) 0 = u2 at *
  generalize hu0 : U.getD (k + n - 2) 0 = u0 at *
  generalize htop : u1 * 1000000000 + u2 = top at *
  have htopB : top ≤ v1 * 1000000000 + v2 := by
    by_cases h : top ≤ v1 * 1000000000 + v2
    · exact h
    · have h3 : (v1 * 1000000000 + v2 + 1) * 1000000000 * pw (n - 2) ≤ (top * 1000000000 + u0) * pw (n - 2) := Int.mul_le_mul_of_nonneg_right (by omega) (by omega)
      have h4 : (v1 * 1000000000 + v2 + 1) * 1000000000 * pw (n - 2) = 1000000000 * ((v1 * 1000000000 + v2) * pw (n - 2)) + 1000000000 * pw (n - 2) := by grind
      omega
  have htop0 : 0 ≤ top := by omega
  have g0 : 0 ≤ top / v1 := Int.ediv_nonneg htop0 (by omega)
  have g1 : 0 ≤ top % v1 := Int.emod_nonneg _ (by omega)
  have g2 : top % v1 < v1 := Int.emod_lt_of_pos _ (by omega)
  have g3 := Int.mul_ediv_add_emod top v1
  have g4 : top / v1 ≤ 2000000000 := by
    have h3 : (top / v1) * 500000000 ≤ (top / v1) * v1 := Int.mul_le_mul_of_nonneg_left r6 g0
    have h4 : v1 * (top / v1) = (top / v1) * v1 := Int.mul_comm _ _
    omega
  have nv1 : ¬ v1 = 0 := by omega
  have hg : Us < (top / v1 + 1) * Vv := by
    have k1 : (top / v1 + 1) * ((v1 * 1000000000 + v2) * pw (n - 2) + vl (V.take (n - 2))) = ((top / v1 + 1) * v1 * 1000000000 + (top / v1 + 1) * v2) * pw (n - 2) + (top / v1 + 1) * vl (V.take (n - 2)) := by grind
    have k2 : (top + 1) * 1000000000 ≤ (top / v1 + 1) * v1 * 1000000000 + (top / v1 + 1) * v2 := by
      have : (top / v1 + 1) * v1 = v1 * (top / v1) + v1 := by grind
      have : 0 ≤ (top / v1 + 1) * v2 := Int.mul_nonneg (by omega) r2.1
      omega
    have k3 := Int.mul_le_mul_of_nonneg_right k2 (Int.le_of_lt r5)
    have k4 : (top * 1000000000 + u0 + 1) * pw (n - 2) ≤ (top + 1) * 1000000000 * pw (n - 2) := Int.mul_le_mul_of_nonneg_right (by omega) (by omega)
    have k5 : (top * 1000000000 + u0 + 1) * pw (n - 2) = (top * 1000000000 + u0) * pw (n - 2) + pw (n - 2) := by grind
    have k6 : 0 ≤ (top / v1 + 1) * vl (V.take (n - 2)) := Int.mul_nonneg (by omega) r3
    rw [tt, k1]
    omega
  have inner := fun (c : Code) (hc : lpAt Tryz.f153 1 = some c) (L : Option (Ex × St)) (r' : Nat → PV) (nx' : Nat) (hL : execL Pq Xq sq cq 153 (.loop c) ⟨r', ⟨m, nx'⟩⟩ = L) h6 h7 h8 h9 h10 h11 h13 h14 => divide_inner (c := c) (x7 := x7) (r := r') (nx := nx') (k := k) (lu := lu) hc hm1 hm2 h6 h7 h8 h9 (x10 := .ref 3 1 0 (lu - n) (lu - n) true) h10 h11 (g := top / v1) h13 (rest := top % v1) h14 hn hV hU (by omega) hlu hv1 hv2 hu0 r5 tt r3 r4 t6 c4 c5 hUB r1.2 r6 r2 c3 htopB g0 g4 (by rw [Int.mul_comm]; omega) g1 (by omega) hg L hL
  have vltop : Us < pw (n + 1) := by omega
  have dgt := fun (x : Int) h0 h1 => digit hUl (k := k) (n := n) (by omega) hz (x := x) h0 h1
  rw [hUsv] at dgt
  have v1b := r1.2
  clear tt r3 r4 t6 c4 c5 r1 r2 hUk hg g2 g3 htopB hc hx
  simp -implicitDefEqProofs (maxSteps := 5000000) (disch := omega) only [go_sem, h6, h7, h8, h9, h10, h11, hm1, hm2, hm3, f1, f2, f3, hv1, hu1, hu2, htop, nv1, Int.tmod_eq_emod_of_nonneg, Int.tdiv_eq_ediv_of_nonneg, if_pos, if_neg, dec_t, dec_f, IntWalk.i64_in, IntWalk.u32_in, IntWalk.u64_in, beq_no]
  generalize hL2 : execL _ _ _ _ _ (.loop _) _ = L2
  obtain ⟨e, ⟨r', ⟨m', nx'⟩⟩, rfl, rfl, g, ⟨q1, q2, q3, q4⟩, jm, j6, j7, j8, j9, j10, j11, j13⟩ := inner _ rfl _ _ _ hL2 (by simp -implicitDefEqProofs only [go_sem, h6]) (by simp -implicitDefEqProofs only [go_sem, h7]) (by simp -implicitDefEqProofs only [go_sem, h8]) (by simp -implicitDefEqProofs only [go_sem, h9]) (by simp -implicitDefEqProofs only [go_sem, h10]) (by simp -implicitDefEqProofs only [go_sem, h11]) (by simp -implicitDefEqProofs only [go_sem]) (by simp -implicitDefEqProofs only [go_sem])
  clear hL2 inner h6 h7 h8 h9 h10 h11
  dsimp only at jm j6 j7 j8 j9 j10 j11 j13
  subst jm
  have gV0 : 0 ≤ g * Vv := Int.mul_nonneg q1 (Int.le_of_lt vV0)
  obtain ⟨m2, sb, hs1, hsj⟩ := subtract_c hUl hVl (by omega) (nx := nx') (off := k) (cu := lu - k) (lv := n) (cv := n + 1) (eu := false) (ev' := true) (g := g) hm1 hm2 (by decide) (by omega) (by omega) (by omega) q1 (by omega)
  rw [← hUs, hVt] at sb hs1
  have y1 : 0 ≤ (Us - g * Vv) % pw (n + 1) := Int.emod_nonneg _ (by omega)
  have y2 : (Us - g * Vv) % pw (n + 1) < pw (n + 1) := Int.emod_lt_of_pos _ (by omega)
  obtain ⟨d1, d2, d3, d4, d5, d6⟩ := dgt _ y1 y2
  have hs2 : m2 2 = .live true 143 (us V) := by rw [hsj 2 (by decide)]; exact hm2
  have hs3 : m2 3 = .live true 143 (us (List.replicate (k + 1) 0 ++ qs)) := by rw [hsj 3 (by decide)]; exact hm3
  have pk := pw_succ k
  generalize hU1 : spl U k (dg (n + 1) ((Us - g * Vv) % pw (n + 1))) = U1 at *
  have qset := fun x : Int => rep_set_back (k := k) qs x
  have qlen : (List.replicate (k + 1) (0 : Int) ++ qs).length = lu - n := by rw [List.length_append, List.length_replicate]; omega
  by_cases hneg : Us < g * Vv
  · rw [dec_t hneg] at sb
    have gp : 1 ≤ g := by
      by_cases h : g = 0
      · subst h; omega
      · omega
    obtain ⟨m3, rs, hr1, hrj⟩ := restore_c d1 hVl (by omega) (nx := nx') (off := k) (cu := lu - k) (lv := n) (cv := n + 1) (eu := false) (ev' := true) hs1 hs2 (by decide) (by omega) (by omega) (by omega)
    rw [d5, hVt, mod_back (by omega) (by omega)] at hr1
    obtain ⟨e1, e2, e3, e4, e5, e6⟩ := digit d1 (k := k) (n := n) (by omega) d6 (x := Us - g * Vv + Vv) (by omega) (by omega)
    have hr2 : m3 2 = .live true 143 (us V) := by rw [hrj 2 (by decide)]; exact hs2
    have hr3 : m3 3 = .live true 143 (us (List.replicate (k + 1) 0 ++ qs)) := by rw [hrj 3 (by decide)]; exact hs3
    generalize hU2 : spl U1 k (dg (n + 1) (Us - g * Vv + Vv)) = U2 at *
    have fv : vl U2 + pw k * (vl ((g - 1) :: qs) * Vv) = T0 := by
      rw [e3, d3, d4, ← hinv, pk]
      simp only [vl]
      grind
    rw [d2] at e2
    clear d1 d3 d4 d5 d6 e3 y1 y2 dgt hinv pk q3
    simp -implicitDefEqProofs (maxSteps := 5000000) (disch := omega) only [go_sem, hm1, hm2, hm3, j6, j7, j8, j9, j10, j11, j13, f1, f6, f7, f8, sb, rs, hr1, hr2, hr3, qset, qlen, if_pos, if_neg, dec_t, dec_f, IntWalk.i64_in, IntWalk.u32_in, IntWalk.u64_in, beq_no]
    refine ⟨_, rfl, U2, (g - 1) :: qs, ⟨by omega, e1, lm_cons.2 ⟨⟨by omega, by omega⟩, hqs⟩, by simp only [List.length_cons]; omega, fv, by rw [e4]; omega⟩, ?_⟩
    simp -implicitDefEqProofs only [go_sem, hr1, hr2, j6, j7, j8, j9, j10]
  · rw [dec_f hneg] at sb
    rw [mod_small (by omega) (by omega)] at d3 d4
    have fv : vl U1 + pw k * (vl (g :: qs) * Vv) = T0 := by
      rw [d3, ← hinv, pk]
      simp only [vl]
      grind
    have fl : vl (U1.drop k) < Vv := by
      rw [d4]
      have : (g + 1) * Vv = g * Vv + Vv := by grind
      omega
    clear d3 d4 d5 d6 y1 y2 dgt hinv pk q3
    simp -implicitDefEqProofs (maxSteps := 5000000) (disch := omega) only [go_sem, hm1, hm2, hm3, j6, j7, j8, j9, j10, j11, j13, f1, f6, f7, f8, sb, hs1, hs2, hs3, qset, qlen, if_pos, if_neg, dec_t, dec_f, IntWalk.i64_in, IntWalk.u32_in, IntWalk.u64_in, beq_no]
    refine ⟨_, rfl, U1, g :: qs, ⟨by omega, d1, lm_cons.2 ⟨⟨by omega, by omega⟩, hqs⟩, by simp only [List.length_cons]; omega, fv, fl⟩, ?_⟩
    simp -implicitDefEqProofs only [go_sem, hs1, hs2, j6, j7, j8, j9, j10]
end Go.Pi

set_option linter.unusedVariables false
set_option linter.unusedSimpArgs false
set_option maxHeartbeats 4000000
set_option maxRecDepth 8000
/-
Long division, whole.
-/
namespace Go.Pi
open Go Go.Proofs Num
theorem byWord_len {a : List Int} {b : Int} (ha : Lm a) (hb : 0 < b) : vl (dg a.length (vl a / b)) = vl a / b := by
  have h0 := vl_nonneg ha
  have h1 := vl_lt ha
  refine vl_dg _ _ (Int.ediv_nonneg h0 (by omega)) ?_
  have := Int.ediv_le_self b h0
  omega
theorem divide_long {a b : List Int} (ha : Lm a) (hb : Lm b) (hna : a.length ≤ 1000000000) (hnb : b.length ≤ 1000000000) (h1 : 2 ≤ (lm (vl b)).length) (h2 : vl b ≤ vl a) :
    ∃ q r, Rq 153 [.sl false (us a), .sl false (us b)] = some (.tup [.sl false (us q), .sl false (us r)]) ∧ Lm q ∧ Lm r ∧ vl q = vl a / vl b ∧ vl r = vl a % vl b ∧ q.length ≤ a.length + 2 ∧ r.length ≤ a.length + 2 := by
  obtain ⟨ea, t1⟩ := trim_c a ha (by omega) false mem0
  obtain ⟨eb, t2⟩ := trim_c b hb (by omega) false mem0
  have la := len_le ha
  have lb := len_le hb
  have va := vl_vl ha
  have vb := vl_vl hb
  have co := compare_r (lm_lm (vl a)) (lm_lm (vl b)) (by omega) (by omega)
  have cs : ¬ (vl (lm (vl a)) - vl (lm (vl b))).sign < 0 := by
    have := Int.sign_nonneg_iff.2 (show 0 ≤ vl (lm (vl a)) - vl (lm (vl b)) by omega); omega
  have hlast := lm_last (v := vl b) (by intro e; rw [e] at h1; simp at h1)
  simp only [mem0_eq] at t1 t2
  have hA := lm_lm (vl a)
  have hB := lm_lm (vl b)
  rw [← va, ← vb] at h2 ⊢
  generalize lm (vl a) = A at *
  generalize lm (vl b) = B at *
  generalize hn : B.length = n at *
  have b1r := lm_getD hB (n - 1)
  generalize hb1 : B.getD (n - 1) 0 = b1 at *
  generalize hs : (1000000000 : Int) / (b1 + 1) = s at *
  obtain ⟨s0, s1, s2, s3⟩ := norm_ok (by omega) b1r.2 hs.symm
  suffices h : ∃ q r, (fin Pq _ (execL Pq Xq sq cq 153 _ ⟨ini 0 [.sl false (us a), .sl false (us b)], mem0⟩)).bind fz = some (.tup [.sl false (us q), .sl false (us r)]) ∧ Lm q ∧ Lm r ∧ vl q = vl A / vl B ∧ vl r = vl A % vl B ∧ q.length ≤ a.length + 2 ∧ r.length ≤ a.length + 2 by
    obtain ⟨q, r, h, h'⟩ := h
    exact ⟨q, r, RL_of (f := 153) (fn := Tryz.f153) Tryz.func153 rfl rfl rfl (Nat.le_of_ble_eq_true rfl) h, h'⟩
  have e1 : ((n : Int) - 1).toNat = n - 1 := by omega
  have h1' : ¬ (n : Int) = 1 := by omega
  have nb1 : b1 + 1 ≠ 0 := by omega
  have hS : Lm [s] := lm_cons.2 ⟨by omega, lm_nil⟩
  have vS : vl [s] = s := by simp [vl]
  obtain ⟨m1, t3, hm1, hmj1⟩ := times_c hA hS (by simp; omega) ea true (fun _ => .dead) 0
  rw [vS] at hm1
  simp only [us_cons, us_nil, List.length_cons, List.length_nil, Nat.zero_add] at t3 hm1
  have ap := fun (nx : Nat) (e : TypeId) => apY_grow (nx := nx) (e := e) (x := 0) hm1 (dg_length _ _) (by omega)
  obtain ⟨m2, t4, hm2, hmj2⟩ := times_c hB hS (by simp; omega) eb true (upd m1 1 (.live true 143 (us (dg (A.length + 1) (vl A * s) ++ [0])))) 2
  rw [vS, hn] at hm2
  simp only [us_cons, us_nil, List.length_cons, List.length_nil, Nat.zero_add, hn] at t4 hm2
  have nA := vl_nonneg hA
  have nB := vl_nonneg hB
  -- the divisor
  have vB1 : vl B < (b1 + 1) * pw (n - 1) := by
    have h := vl_take_any B (n - 1)
    rw [show n - 1 + 1 = n by omega, ← hn, List.take_length, hn, hb1] at h
    have h' := vl_lt (lm_take (n - 1) hB)
    rw [List.length_take, Nat.min_eq_left (by omega)] at h'
    rw [h]
    have : (b1 + 1) * pw (n - 1) = pw (n - 1) * b1 + pw (n - 1) := by grind
    omega
  have vB2 : b1 * pw (n - 1) ≤ vl B := by
    have h := vl_take_any B (n - 1)
    rw [show n - 1 + 1 = n by omega, ← hn, List.take_length, hn, hb1] at h
    have h' := vl_nonneg (lm_take (n - 1) hB)
    have : b1 * pw (n - 1) = pw (n - 1) * b1 := Int.mul_comm _ _
    omega
  have pn1 := pw_pos (n - 1)
  have pn : pw n = 1000000000 * pw (n - 1) := by
    have := pw_succ (n - 1)
    rwa [show n - 1 + 1 = n by omega] at this
  have vV1 : vl B * s < pw n := by
    have h3 : vl B * s < (b1 + 1) * pw (n - 1) * s := Int.mul_lt_mul_of_pos_right vB1 (by omega)
    have h4 : (b1 + 1) * pw (n - 1) * s = s * (b1 + 1) * pw (n - 1) := by grind
    have h5 : s * (b1 + 1) * pw (n - 1) ≤ 1000000000 * pw (n - 1) := Int.mul_le_mul_of_nonneg_right s2 (by omega)
    omega
  have vV2 : 500000000 * pw (n - 1) ≤ vl B * s := by
    have h3 : b1 * pw (n - 1) * s ≤ vl B * s := Int.mul_le_mul_of_nonneg_right vB2 (by omega)
    have h4 : b1 * pw (n - 1) * s = s * b1 * pw (n - 1) := by grind
    have h5 : 500000000 * pw (n - 1) ≤ s * b1 * pw (n - 1) := Int.mul_le_mul_of_nonneg_right s3 (by omega)
    omega
  have vV0 : 0 ≤ vl B * s := by omega
  have vVl : (dg (n + 1) (vl B * s)).length = n + 1 := dg_length _ _
  have vVv : vl (dg (n + 1) (vl B * s)) = vl B * s := vl_dg _ _ vV0 (by rw [pw_succ]; omega)
  have tr := fun (m : Nat → Blk) (nx : Nat) (h : m 2 = .live true 143 (us (dg (n + 1) (vl B * s)))) => trim_ref (nx := nx) (ex := true) (cap := n + 1) (dg_lm (n + 1) (vl B * s)) (by omega) h (len := n + 1) (by omega) (Nat.le_refl _)
  have lV : (lm (vl B * s)).length = n := by
    rw [length_lm]
    apply Nat.le_antisymm
    · exact ll_le vV1 (by have := pw_pos n; omega)
    · by_cases h : ll (vl B * s) ≤ n - 1
      · have := (lt_of_ll h).1; omega
      · omega
  rw [List.take_of_length_le (by omega), vVv, lV] at tr
  obtain ⟨t5, vV, -⟩ := tr m2 3 hm2
  have hVl := dg_lm (n + 1) (vl B * s)
  have hUl := lm_append.2 ⟨dg_lm (A.length + 1) (vl A * s), show Lm [0] from lm_cons.2 ⟨by omega, lm_nil⟩⟩
  have hUv : vl (dg (A.length + 1) (vl A * s) ++ [0]) = vl A * s := by
    rw [vl_snoc, Int.mul_zero, Int.add_zero]
    refine vl_dg _ _ (Int.mul_nonneg nA (by omega)) ?_
    rw [pw_succ]
    have h3 := vl_lt hA
    have h4 := pw_pos A.length
    have h5 : vl A * s ≤ vl A * 1000000000 := Int.mul_le_mul_of_nonneg_left (by omega) nA
    omega
  have hUn : (dg (A.length + 1) (vl A * s) ++ [0]).length = A.length + 2 := by simp [dg_length]
  have hm2u : m2 1 = .live true 143 (us (dg (A.length + 1) (vl A * s) ++ [0])) := by
    rw [hmj2 1 (by decide)]; rfl
  generalize dg (A.length + 1) (vl A * s) ++ [0] = U0 at *
  generalize dg (n + 1) (vl B * s) = V at *
  generalize hVv' : vl B * s = Vv at *
  have hnA : n ≤ A.length := by
    by_cases h : A.length < n
    · have h3 := vl_lt hA
      have h4 := pw_mono (m := A.length) (n := n - 1) (by omega)
      have h5 : 1 * pw (n - 1) ≤ b1 * pw (n - 1) := Int.mul_le_mul_of_nonneg_right (by omega) (by omega)
      omega
    · omega
  have e2 : ((A.length + 1 + 1 : Nat) : Int) - n = (A.length + 2 - n : Nat) := by omega
  have zo := zeros_one 0 (A.length + 2 - n)
  simp -implicitDefEqProofs (maxSteps := 5000000) (disch := omega) only [go_sem, t1, t2, h1', hn, co, cs, e1, hb1, nb1, Int.tdiv_eq_ediv_of_nonneg, hs, t3, ap, t4, t5, e2, zo, if_pos, if_neg, dec_t, dec_f, IntWalk.i64_in, IntWalk.u32_in, IntWalk.u64_in, beq_no]
  clear t1 t2 t3 t4 t5 tr ap co cs
  generalize hL : execL _ _ _ _ _ (.loop _) _ = LL
  have hVt : vl (V.take n) = Vv := by rw [vV, vl_lm]; omega
  have r6 : 500000000 ≤ V.getD (n - 1) 0 := by
    have h := vl_take_any V (n - 1)
    rw [show n - 1 + 1 = n by omega, hVt] at h
    have h' := vl_lt (lm_take (n - 1) hVl)
    rw [List.length_take, Nat.min_eq_left (by omega)] at h'
    by_cases h6 : 500000000 ≤ V.getD (n - 1) 0
    · exact h6
    · have : pw (n - 1) * V.getD (n - 1) 0 ≤ pw (n - 1) * 499999999 := Int.mul_le_mul_of_nonneg_left (by omega) (by omega)
      omega
  obtain ⟨⟨e, ⟨r, ⟨m, nx⟩⟩⟩, rfl, rfl, U, qs, ⟨hUl', hU, hqs, hql, hinv, hlt⟩, hm1', hm3', h6, h7, h8, h10⟩ := loop_of hL (fun k st => ∃ U qs, (U.length = A.length + 2 ∧ Lm U ∧ Lm qs ∧ k + qs.length = A.length + 2 - n ∧ vl U + pw k * (vl qs * Vv) = vl A * s ∧ vl (U.drop k) < Vv) ∧
      st.M.m 1 = .live true 143 (us U) ∧ st.M.m 2 = .live true 143 (us V) ∧ st.M.m 3 = .live true 143 (us (List.replicate k 0 ++ qs)) ∧
      st.r 6 = .int .i64 n ∧ st.r 7 = .int .u32 s ∧ st.r 8 = .ref 1 1 0 (A.length + 2) (A.length + 2) false ∧ st.r 9 = .ref 2 1 0 n (n + 1) true ∧ st.r 10 = .ref 3 1 0 (A.length + 2 - n) (A.length + 2 - n) true ∧ st.r 11 = .int .i64 ((k : Int) - 1))
    (fun y => y.1 = .exit 0 ∧ ∃ U qs, (U.length = A.length + 2 ∧ Lm U ∧ Lm qs ∧ qs.length = A.length + 2 - n ∧ vl U + vl qs * Vv = vl A * s ∧ vl U < Vv) ∧
      y.2.M.m 1 = .live true 143 (us U) ∧ y.2.M.m 3 = .live true 143 (us qs) ∧
      y.2.r 6 = .int .i64 n ∧ y.2.r 7 = .int .u32 s ∧ y.2.r 8 = .ref 1 1 0 (A.length + 2) (A.length + 2) false ∧ y.2.r 10 = .ref 3 1 0 (A.length + 2 - n) (A.length + 2 - n) true) ⟨A.length + 2 - n, by
      simp -implicitDefEqProofs (maxSteps := 5000000) (disch := omega) only [go_sem, hm2u, hm2, if_pos, if_neg, dec_t, dec_f, IntWalk.i64_in, IntWalk.u32_in, IntWalk.u64_in, beq_no]
      refine ⟨U0, [], ⟨hUn, hUl, lm_nil, by simp, by simp [vl, hUv], ?_⟩, rfl, by rw [List.append_nil]⟩
      have h3 := vl_split U0 (A.length + 2 - n) (by omega)
      have h4 := vl_nonneg (lm_take (A.length + 2 - n) hUl)
      have h5 : vl A * s < pw (A.length + 2 - n) * pw (n - 1) := by
        rw [← pw_add, show A.length + 2 - n + (n - 1) = A.length + 1 by omega, pw_succ]
        have h3 := vl_lt hA
        have h5 : vl A * s ≤ vl A * 1000000000 := Int.mul_le_mul_of_nonneg_left (by omega) nA
        omega
      have h6 : vl (U0.drop (A.length + 2 - n)) < pw (n - 1) := Int.lt_of_mul_lt_mul_left (by omega) (Int.le_of_lt (pw_pos (A.length + 2 - n)))
      omega⟩ (by
      rintro κ ⟨r, ⟨m, nx⟩⟩ ⟨U, qs, ⟨hUl', hU, hqs, hql, hinv, hlt⟩, hm1', hm2', hm3', h6, h7, h8, h9, h10, h11⟩
      dsimp only at hm1' hm2' hm3' h6 h7 h8 h9 h10 h11
      by_cases hκ : 0 < κ
      · obtain ⟨k, rfl⟩ : ∃ k, κ = k + 1 := ⟨κ - 1, by omega⟩
        rw [show ((k + 1 : Nat) : Int) - 1 = k by omega] at h11
        obtain ⟨st, hst, H⟩ := divide_digit rfl (nx := nx) hm1' hm2' hm3' h6 h7 h8 h9 h10 h11 h1 vVl hVl hUl' hU hqs hql (by omega) (by omega) rfl rfl r6 hVt hinv hlt
        rw [hst]
        exact ⟨k, by omega, H⟩
      · have : κ = 0 := by omega
        subst this
        simp -implicitDefEqProofs (maxSteps := 5000000) (disch := omega) only [go_sem, hm1', hm2', hm3', h6, h7, h8, h9, h10, h11, if_pos, if_neg, dec_t, dec_f, IntWalk.i64_in, IntWalk.u32_in, IntWalk.u64_in, beq_no]
        refine ⟨U, qs, ⟨hUl', hU, hqs, by omega, by rw [← hinv, pw_zero, Int.one_mul], by rw [List.drop_zero] at hlt; exact hlt⟩, rfl, by rw [List.replicate_zero, List.nil_append]⟩)
  dsimp only at hm1' hm3' h6 h7 h8 h10
  have nU := vl_nonneg hU
  rw [← hVv'] at hinv hlt
  obtain ⟨z1, z2, z3⟩ := quot_of (by omega) hinv nU hlt
  have hUn' : vl (U.take n) = vl U := by
    have h3 := vl_split U n (by omega)
    have h4 := vl_nonneg (lm_take n hU)
    have h5 := vl_nonneg (lm_drop n hU)
    by_cases hz : vl (U.drop n) = 0
    · rw [hz, Int.mul_zero, Int.add_zero] at h3; exact h3.symm
    · have : pw n * 1 ≤ pw n * vl (U.drop n) := Int.mul_le_mul_of_nonneg_left (by omega) (Int.le_of_lt (pw_pos n))
      omega
  obtain ⟨tr, trv, trl⟩ := trim_ref hU (by omega) (nx := nx) (ex := false) hm1' (len := n) (cap := A.length + 2) (by omega) (by omega)
  rw [hUn'] at tr trv trl
  have hlU := lm_lm (vl U)
  have bw := byWord_r (b := s) hlU (by omega) (by omega) (by omega)
  have vvU := vl_vl hU
  have bl := byWord_len (b := s) hlU (by omega)
  rw [vvU] at bw bl
  refine ⟨qs, dg (lm (vl U)).length (vl U / s), ?_, hqs, dg_lm _ _, z1, by rw [bl, z2], by omega, by rw [dg_length]; omega⟩
  have f1 : (n : Int).toNat = n := by omega
  simp -implicitDefEqProofs (maxSteps := 5000000) (disch := omega) only [go_sem, Nat.sub_zero, hm1', hm3', h6, h7, h8, h10, f1, tr, gd_us, elems_us, trv, bw, hql, List.drop_zero, if_pos, if_neg, dec_t, dec_f, IntWalk.i64_in, IntWalk.u32_in, IntWalk.u64_in, beq_no]
  rw [List.take_of_length_le (by omega)]
end Go.Pi
