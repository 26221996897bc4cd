/- What is proved: what intervals contain; the laws on products and square roots. No conditions beyond those in the statements. -/
import Derived.Test.YtekdboalpckloaaTd
set_option linter.unusedVariables false
set_option linter.unusedSimpArgs false
set_option maxHeartbeats 4000000
set_option maxRecDepth 8000
/-
What intervals contain: plain laws.
-/
namespace Go.Pi
open Go Go.Proofs Num
theorem prod_lo {L p q a1 a2 b1 b2 : Rat} (ha1 : a1 ≤ p) (ha2 : p ≤ a2) (hb1 : b1 ≤ q) (hb2 : q ≤ b2) (h1 : L ≤ a1 * b1) (h2 : L ≤ a1 * b2) (h3 : L ≤ a2 * b1) (h4 : L ≤ a2 * b2) : L ≤ p * q := by
  by_cases hq : 0 ≤ q
  · have k1 := Rat.mul_nonneg (show 0 ≤ p - a1 by grind) hq
    by_cases ha : 0 ≤ a1
    · have k2 := Rat.mul_nonneg ha (show 0 ≤ q - b1 by grind)
      grind
    · have k2 := Rat.mul_nonneg (show 0 ≤ -a1 by grind) (show 0 ≤ b2 - q by grind)
      grind
  · have k1 := Rat.mul_nonneg (show 0 ≤ a2 - p by grind) (show 0 ≤ -q by grind)
    by_cases ha : 0 ≤ a2
    · have k2 := Rat.mul_nonneg ha (show 0 ≤ q - b1 by grind)
      grind
    · have k2 := Rat.mul_nonneg (show 0 ≤ -a2 by grind) (show 0 ≤ b2 - q by grind)
      grind
theorem prod_hi {H p q a1 a2 b1 b2 : Rat} (ha1 : a1 ≤ p) (ha2 : p ≤ a2) (hb1 : b1 ≤ q) (hb2 : q ≤ b2) (h1 : a1 * b1 ≤ H) (h2 : a1 * b2 ≤ H) (h3 : a2 * b1 ≤ H) (h4 : a2 * b2 ≤ H) : p * q ≤ H := by
  have := prod_lo (L := -H) (p := p) (q := -q) (a1 := a1) (a2 := a2) (b1 := -b2) (b2 := -b1) ha1 ha2 (by grind) (by grind) (by grind) (by grind) (by grind) (by grind)
  grind
theorem c65536 : ((65536 : Int) : Rat) = 65536 := rfl
theorem sl_le (x y : Int) : (sl x y : Rat) * 65536 ≤ (x : Rat) * (y : Rat) := by
  have h1 : (x * y / 65536) * 65536 ≤ x * y := Int.ediv_mul_le _ (by omega)
  have k1 := Rat.intCast_le_intCast.2 h1
  rw [Rat.intCast_mul, Rat.intCast_mul, c65536] at k1
  exact k1
theorem le_su (x y : Int) : (x : Rat) * (y : Rat) ≤ (su x y : Rat) * 65536 := by
  have := sl_le (-x) y
  have e : su x y = -sl (-x) y := by unfold su sl; rw [Int.neg_mul]
  rw [e, Rat.intCast_neg]
  rw [Rat.intCast_neg] at this
  grind
theorem muF_in {a b m : Int × Int} {p q : Rat} (hm : muF a b = some m) (hp : inF a.1 a.2 p) (hq : inF b.1 b.2 q) : inF m.1 m.2 (p * q) := by
  obtain ⟨a1, a2⟩ := a
  obtain ⟨b1, b2⟩ := b
  unfold inF at *
  dsimp only at *
  rw [c65536] at *
  by_cases k : okS a1 b1 ∧ okS a1 b2 ∧ okS a2 b1 ∧ okS a2 b2
  · rw [muF_yes k] at hm
    obtain rfl := Option.some.inj hm
    dsimp only
    have s1 := sl_le a1 b1
    have s2 := sl_le a1 b2
    have s3 := sl_le a2 b1
    have s4 := sl_le a2 b2
    have t1 := le_su a1 b1
    have t2 := le_su a1 b2
    have t3 := le_su a2 b1
    have t4 := le_su a2 b2
    generalize hL : min (min (min (min 2305843009213693952 (sl a1 b1)) (sl a1 b2)) (sl a2 b1)) (sl a2 b2) = L
    generalize hH : max (max (max (max (-2305843009213693952) (su a1 b1)) (su a1 b2)) (su a2 b1)) (su a2 b2) = H
    have l1 : (L : Rat) ≤ (sl a1 b1 : Rat) := Rat.intCast_le_intCast.2 (by omega)
    have l2 : (L : Rat) ≤ (sl a1 b2 : Rat) := Rat.intCast_le_intCast.2 (by omega)
    have l3 : (L : Rat) ≤ (sl a2 b1 : Rat) := Rat.intCast_le_intCast.2 (by omega)
    have l4 : (L : Rat) ≤ (sl a2 b2 : Rat) := Rat.intCast_le_intCast.2 (by omega)
    have g1 : (su a1 b1 : Rat) ≤ (H : Rat) := Rat.intCast_le_intCast.2 (by omega)
    have g2 : (su a1 b2 : Rat) ≤ (H : Rat) := Rat.intCast_le_intCast.2 (by omega)
    have g3 : (su a2 b1 : Rat) ≤ (H : Rat) := Rat.intCast_le_intCast.2 (by omega)
    have g4 : (su a2 b2 : Rat) ≤ (H : Rat) := Rat.intCast_le_intCast.2 (by omega)
    have lo := prod_lo (L := (L : Rat) * 65536) hp.1 hp.2 hq.1 hq.2 (by grind) (by grind) (by grind) (by grind)
    have hi := prod_hi (H := (H : Rat) * 65536) hp.1 hp.2 hq.1 hq.2 (by grind) (by grind) (by grind) (by grind)
    constructor <;> grind
  · rw [muF_no k] at hm; cases hm
theorem prF_in {a b m : Int × Int} {p q : Rat} (hm : prF (a.1 + b.1) (a.2 + b.2) = some m) (hp : inF a.1 a.2 p) (hq : inF b.1 b.2 q) : inF m.1 m.2 (p + q) := by
  unfold prF at hm
  split at hm
  · cases hm
  · obtain rfl := Option.some.inj hm
    unfold inF at *
    dsimp only at *
    rw [Rat.intCast_add, Rat.intCast_add]
    constructor <;> grind
/-- The interval of a root's radicand's root. -/
noncomputable def sqC (C : Rat) : Option (Int × Int) := match frF C with
  | none => none
  | some c => sqF c
theorem sqF_spec {c s : Int × Int} (pc : Pr c) (h : sqF c = some s) : 0 ≤ c.2 ∧ 0 ≤ s.1 ∧ s.1 ≤ s.2 ∧ s.1 * s.1 ≤ max c.1 0 * 65536 ∧ c.2 * 65536 ≤ s.2 * s.2 := by
  obtain ⟨p1, p2, p3⟩ := pc
  unfold sqF at h
  split at h
  · cases h
  · rename_i k
    have r1 := rt_spec (a := max c.1 0 * 65536) (by omega)
    have r2 := rt_spec (a := c.2 * 65536) (by omega)
    have mo := rt_mono (a := max c.1 0 * 65536) (b := c.2 * 65536) (by omega) (by omega)
    have n1 := rt_nn (max c.1 0 * 65536)
    split at h
    · rename_i e
      obtain ⟨-, rfl⟩ := prF_pr h mo
      dsimp only
      omega
    · obtain ⟨-, rfl⟩ := prF_pr h (by omega)
      dsimp only
      omega
theorem cm (a b : Int) : ((a * b : Int) : Rat) = (a : Rat) * (b : Rat) := Rat.intCast_mul a b
theorem sqC_spec {C : Rat} {s : Int × Int} (h : sqC C = some s) (h0 : 0 ≤ C) : 0 ≤ s.1 ∧ s.1 ≤ s.2 ∧ (s.1 : Rat) * (s.1 : Rat) ≤ C * 65536 * 65536 ∧ C * 65536 * 65536 ≤ (s.2 : Rat) * (s.2 : Rat) := by
  unfold sqC at h
  cases hc : frF C with
  | none => rw [hc] at h; cases h
  | some c =>
    rw [hc] at h
    obtain ⟨pc, -⟩ := frF_pr hc
    have ic := frF_in hc
    obtain ⟨c0, s0, s1, s2, s3⟩ := sqF_spec pc h
    refine ⟨s0, s1, ?_, ?_⟩
    · have k := Rat.intCast_le_intCast.2 s2
      rw [cm, cm, c65536] at k
      have : ((max c.1 0 : Int) : Rat) ≤ C * 65536 := by
        rw [Int.max_def]
        split
        · have : ((0 : Int) : Rat) = 0 := rfl
          rw [this]
          have := Rat.mul_nonneg h0 (show (0 : Rat) ≤ 65536 by decide)
          exact this
        · have := ic.1
          rw [c65536] at this
          exact this
      grind
    · have k := Rat.intCast_le_intCast.2 s3
      rw [cm, cm, c65536] at k
      have := ic.2
      rw [c65536] at this
      grind
theorem roF_zero {A B C : Rat} {i : Int × Int} (h : roF A B C = some i) (hB : B = 0) : inF i.1 i.2 A := by
  subst hB
  unfold roF at h
  cases ha : frF A with
  | none => rw [ha] at h; cases h
  | some a =>
    rw [ha] at h
    dsimp only at h
    rw [if_pos (by rfl)] at h
    obtain rfl := Option.some.inj h
    exact frF_in ha
theorem roF_in {A B C : Rat} {i : Int × Int} (h : roF A B C = some i) (hB : B ≠ 0) : 0 ≤ C ∧ ∃ s, sqC C = some s ∧ ∀ t : Rat, inF s.1 s.2 t → inF i.1 i.2 (A + B * t) := by
  unfold roF at h
  cases ha : frF A with
  | none => rw [ha] at h; cases h
  | some a =>
    rw [ha] at h
    dsimp only at h
    rw [if_neg (fun e => hB (num_eq0.1 e))] at h
    cases hb : frF B with
    | none => rw [hb] at h; cases h
    | some b =>
      rw [hb] at h
      cases hc : frF C with
      | none => rw [hc] at h; cases h
      | some c =>
        rw [hc] at h
        dsimp only at h
        split at h
        · cases h
        · rename_i k
          have h0 : 0 ≤ C := Rat.num_nonneg.1 (by omega)
          cases hs : sqF c with
          | none => rw [hs] at h; cases h
          | some s =>
            rw [hs] at h
            dsimp only at h
            cases hm : muF b s with
            | none => rw [hm] at h; cases h
            | some m =>
              rw [hm] at h
              dsimp only at h
              refine ⟨h0, s, by unfold sqC; rw [hc]; exact hs, fun t ht => ?_⟩
              exact prF_in h (frF_in ha) (muF_in hm (frF_in hb) ht)
/-- The sign of A + B sqrt(C), as the laws say it. -/
noncomputable def exF (A B C : Rat) : Int := if sg A = sg B * sg C ∨ sg B * sg C = 0 then sg A else if sg A = 0 then sg B * sg C else sg A * sg (A * A - B * B * C)
theorem exF_neg (A B C : Rat) : exF (-A) (-B) C = -exF A B C := by
  unfold exF
  rw [sg_negq, sg_negq, Int.neg_mul, show -A * -A - -B * -B * C = A * A - B * B * C by grind]
  by_cases h1 : sg A = sg B * sg C ∨ sg B * sg C = 0
  · rw [if_pos h1, if_pos (by omega)]
  · rw [if_neg h1, if_neg (by omega)]
    by_cases h2 : sg A = 0
    · rw [if_pos h2, if_pos (by omega)]
    · rw [if_neg h2, if_neg (by omega), Int.neg_mul]
theorem sq_lt {x y : Rat} (h0 : 0 ≤ x) (h : x < y) : x * x < y * y := by
  have h1 := Rat.mul_nonneg h0 (show 0 ≤ y - x by grind)
  have h2 := Rat.mul_pos (show 0 < y - x by grind) (show 0 < y by grind)
  grind
theorem exF_pos {A B C t1 t2 : Rat} (h0 : 0 ≤ t1) (h12 : t1 ≤ t2) (c1 : t1 * t1 ≤ C) (c2 : C ≤ t2 * t2) (k1 : 0 < A + B * t1) (k2 : 0 < A + B * t2) : exF A B C = 1 := by
  have hC : 0 ≤ C := by have := Rat.mul_nonneg h0 h0; grind
  unfold exF
  rcases sg_cases A with ⟨hA, eA⟩ | ⟨hA, eA⟩ | ⟨hA, eA⟩
  · -- A below nought
    have hB : 0 < B := by
      rcases sg_cases B with ⟨hB, _⟩ | ⟨hB, _⟩ | ⟨hB, _⟩
      · have := Rat.mul_nonneg (show 0 ≤ -B by grind) h0; grind
      · subst hB; grind
      · exact hB
    have ht : 0 < t1 := by
      rcases sg_cases t1 with ⟨h, _⟩ | ⟨h, _⟩ | ⟨h, _⟩
      · grind
      · subst h; grind
      · exact h
    have hC' : 0 < C := by have := Rat.mul_pos ht ht; grind
    rw [eA, sg_pos hB, sg_pos hC', if_neg (by omega), if_neg (by omega)]
    have q1 := sq_lt (x := -A) (y := B * t1) (by grind) (by grind)
    have q2 := Rat.mul_nonneg (Rat.mul_nonneg (Rat.le_of_lt hB) (Rat.le_of_lt hB)) (show 0 ≤ C - t1 * t1 by grind)
    rw [sg_neg (by grind)]
    rfl
  · subst hA
    have hB : 0 < B := by
      rcases sg_cases B with ⟨hB, _⟩ | ⟨hB, _⟩ | ⟨hB, _⟩
      · have := Rat.mul_nonneg (show 0 ≤ -B by grind) h0; grind
      · subst hB; grind
      · exact hB
    have ht : 0 < t1 := by
      rcases sg_cases t1 with ⟨h, _⟩ | ⟨h, _⟩ | ⟨h, _⟩
      · grind
      · subst h; grind
      · exact h
    have hC' : 0 < C := by have := Rat.mul_pos ht ht; grind
    rw [eA, sg_pos hB, sg_pos hC', if_neg (by omega), if_pos rfl]
    rfl
  · rcases sg_cases B with ⟨hB, eB⟩ | ⟨hB, eB⟩ | ⟨hB, eB⟩
    · rcases sg_cases C with ⟨hC', eC⟩ | ⟨hC', eC⟩ | ⟨hC', eC⟩
      · grind
      · rw [eA, eB, eC, if_pos (by omega)]
      · rw [eA, eB, eC, if_neg (by omega), if_neg (by omega)]
        have q1 := sq_lt (x := -B * t2) (y := A) (by have := Rat.mul_nonneg (show 0 ≤ -B by grind) (show 0 ≤ t2 by grind); exact this) (by grind)
        have q2 := Rat.mul_nonneg (Rat.mul_nonneg (show 0 ≤ -B by grind) (show 0 ≤ -B by grind)) (show 0 ≤ t2 * t2 - C by grind)
        rw [sg_pos (by grind)]
        rfl
    · rw [eA, eB, if_pos (by omega)]
    · rcases sg_cases C with ⟨hC', eC⟩ | ⟨hC', eC⟩ | ⟨hC', eC⟩
      · grind
      · rw [eA, eB, eC, if_pos (by omega)]
      · rw [eA, eB, eC, if_pos (by omega)]
theorem exF_zero {A B C t1 t2 : Rat} (h0 : 0 ≤ t1) (h12 : t1 ≤ t2) (c1 : t1 * t1 ≤ C) (c2 : C ≤ t2 * t2) (k1 : A + B * t1 = 0) (k2 : A + B * t2 = 0) : exF A B C = 0 := by
  by_cases hB : B = 0
  · subst hB
    unfold exF
    rw [show sg 0 = 0 from rfl, Int.zero_mul, if_pos (.inr rfl)]
    exact sg_zero (by grind)
  · have ht : t1 = t2 := by
      have : B * (t1 - t2) = 0 := by grind
      rcases Rat.mul_eq_zero.1 this with h | h
      · exact absurd h hB
      · grind
    subst ht
    have hC : C = t1 * t1 := by grind
    have hA : A = -(B * t1) := by grind
    have e : A * A - B * B * C = 0 := by rw [hC, hA]; grind
    unfold exF
    rw [e]
    by_cases hz : t1 = 0
    · have hC0 : C = 0 := by rw [hC, hz]; grind
      have hA0 : A = 0 := by rw [hA, hz]; grind
      rw [sg_zero hC0, Int.mul_zero, if_pos (.inr rfl), sg_zero hA0]
    · have tp : 0 < t1 := by grind
      have cp : 0 < C := by have := Rat.mul_pos tp tp; grind
      rw [hA, sg_negq, sg_mul, sg_pos tp, sg_pos cp, show sg 0 = 0 from rfl, Int.mul_one]
      rcases sg_cases B with ⟨h, e⟩ | ⟨h, e⟩ | ⟨h, e⟩
      · rw [e]; rfl
      · exact absurd h hB
      · rw [e]; rfl
theorem exF_B0 (A C : Rat) : exF A 0 C = sg A := by
  unfold exF
  rw [show sg 0 = 0 from rfl, Int.zero_mul, if_pos (.inr rfl)]
/-- A sign that is known is the exact one. -/
theorem sign_known {A B C : Rat} {i s : Int × Int} (hs : 0 ≤ s.1 ∧ s.1 ≤ s.2 ∧ (s.1 : Rat) * (s.1 : Rat) ≤ C * 65536 * 65536 ∧ C * 65536 * 65536 ≤ (s.2 : Rat) * (s.2 : Rat))
    (hin : ∀ t : Rat, inF s.1 s.2 t → inF i.1 i.2 (A + B * t)) (hk : 0 < i.1 ∨ i.2 < 0 ∨ i.1 = 0 ∧ i.2 = 0) : (if 0 < i.1 then 1 else if i.2 < 0 then -1 else 0) = exF A B C := by
  obtain ⟨s0, s1, s2, s3⟩ := hs
  have z0 : ((0 : Int) : Rat) = 0 := rfl
  have r0 := Rat.intCast_le_intCast.2 s0
  have r1 := Rat.intCast_le_intCast.2 s1
  rw [z0] at r0
  obtain ⟨t1, e1⟩ : ∃ t1 : Rat, t1 * 65536 = s.1 := ⟨(s.1 : Rat) / 65536, by grind⟩
  obtain ⟨t2, e2⟩ : ∃ t2 : Rat, t2 * 65536 = s.2 := ⟨(s.2 : Rat) / 65536, by grind⟩
  have i1 := hin t1 (by unfold inF; rw [c65536]; constructor <;> grind)
  have i2 := hin t2 (by unfold inF; rw [c65536]; constructor <;> grind)
  unfold inF at i1 i2
  rw [c65536] at i1 i2
  have h0 : 0 ≤ t1 := by grind
  have h12 : t1 ≤ t2 := by grind
  have c1 : t1 * t1 ≤ C := by rw [← e1] at s2; grind
  have c2 : C ≤ t2 * t2 := by rw [← e2] at s3; grind
  by_cases k1 : 0 < i.1
  · rw [if_pos k1]
    have := Rat.intCast_lt_intCast.2 k1
    rw [z0] at this
    exact (exF_pos h0 h12 c1 c2 (by grind) (by grind)).symm
  · rw [if_neg k1]
    by_cases k2 : i.2 < 0
    · rw [if_pos k2]
      have := Rat.intCast_lt_intCast.2 k2
      rw [z0] at this
      have e := exF_pos (A := -A) (B := -B) h0 h12 c1 c2 (by grind) (by grind)
      rw [exF_neg] at e
      omega
    · rw [if_neg k2]
      have h3 : i.1 = 0 ∧ i.2 = 0 := by omega
      rw [h3.1, h3.2, z0] at i1 i2
      exact (exF_zero h0 h12 c1 c2 (by grind) (by grind)).symm
/-- Any radicand's root lies between some bounds. -/
theorem bounds_any {C : Rat} (h : 0 ≤ C) : ∃ s : Int × Int, 0 ≤ s.1 ∧ s.1 ≤ s.2 ∧ (s.1 : Rat) * (s.1 : Rat) ≤ C * 65536 * 65536 ∧ C * 65536 * 65536 ≤ (s.2 : Rat) * (s.2 : Rat) := by
  have z0 : ((0 : Int) : Rat) = 0 := rfl
  have z1 : ((1 : Int) : Rat) = 1 := rfl
  have hc := le_ceil (C * 65536 * 65536)
  have h1 : 0 ≤ ceil (C * 65536 * 65536) := by
    have : (0 : Rat) ≤ (ceil (C * 65536 * 65536) : Rat) := by grind
    rw [← z0] at this
    exact Rat.intCast_le_intCast.1 this
  refine ⟨(0, ceil (C * 65536 * 65536) + 1), Int.le_refl _, by dsimp only; omega, ?_, ?_⟩
  · dsimp only; rw [z0]; grind
  · dsimp only
    have h2 := Rat.intCast_le_intCast.2 h1
    rw [z0] at h2
    rw [Rat.intCast_add, z1]
    generalize (ceil (C * 65536 * 65536) : Rat) = n at *
    have := Rat.mul_nonneg h2 h2
    grind
end Go.Pi

set_option linter.unusedVariables false
set_option linter.unusedSimpArgs false
set_option maxHeartbeats 4000000
set_option maxRecDepth 8000
/-
The laws on products, square roots, roots and sides of intervals.
-/
namespace Go.Pi
open Go Go.Proofs Num
def beF (l h s : Int) : Rat := ((l : Rat) + ((h : Rat) - (l : Rat)) * Rat.divInt s 255) * Rat.divInt 1 65536
theorem between_r {l h s : Int} (l0 : -2305843009213693952 ≤ l ∧ l ≤ 2305843009213693952) (h0 : -2305843009213693952 ≤ h ∧ h ≤ 2305843009213693952) (s0 : 0 ≤ s ∧ s < 256) :
    Rq 26 [.agg [.int .i64 l, .int .i64 h], .int .u8 s] = some (.agg (zQ (beF l h s))) := by
  refine RL_of (f := 26) (fn := Try.f26) Try.func26 rfl rfl rfl (Nat.le_of_ble_eq_true rfl) ?_
  have b1 := ll_64 (n := l) (by omega) (by omega)
  have b2 := ll_64 (n := h) (by omega) (by omega)
  have b3 := ll_64 (n := s) (by omega) (by omega)
  have b4 := ll_64 (n := 255) (by omega) (by omega)
  have b5 := ll_64 (n := 1) (by omega) (by omega)
  have b6 := ll_64 (n := 65536) (by omega) (by omega)
  unfold beF
  simp -implicitDefEqProofs (disch := first | omega | (with_reducible apply Nat.le_trans; (focus (repeat' (first | with_reducible apply rb_mul | with_reducible apply rb_add | with_reducible apply rb_sub | with_reducible apply rb_neg | with_reducible apply rb_divInt | with_reducible apply rb_int | with_reducible apply lb_mul | with_reducible apply lb_add | with_reducible apply lb_sub | with_reducible apply lb_neg | exact Nat.le_refl _))); omega)) only [go_sem, if_pos, if_neg, dec_t, dec_f, IntWalk.i64_in, IntWalk.u32_in, IntWalk.u64_in, beq_no]
theorem rl_beF {l h s : Int} (l0 : -2305843009213693952 ≤ l ∧ l ≤ 2305843009213693952) (h0 : -2305843009213693952 ≤ h ∧ h ≤ 2305843009213693952) (s0 : 0 ≤ s ∧ s < 256) : rl (beF l h s) ≤ 1000 := by
  have b1 := ll_64 (n := l) (by omega) (by omega)
  have b2 := ll_64 (n := h) (by omega) (by omega)
  have b3 := ll_64 (n := s) (by omega) (by omega)
  have b4 := ll_64 (n := 255) (by omega) (by omega)
  have b5 := ll_64 (n := 1) (by omega) (by omega)
  have b6 := ll_64 (n := 65536) (by omega) (by omega)
  unfold beF
  (with_reducible apply Nat.le_trans; (focus (repeat' (first | with_reducible apply rb_mul | with_reducible apply rb_add | with_reducible apply rb_sub | with_reducible apply rb_neg | with_reducible apply rb_divInt | with_reducible apply rb_int | with_reducible apply lb_mul | with_reducible apply lb_add | with_reducible apply lb_sub | with_reducible apply lb_neg | exact Nat.le_refl _))); omega)
theorem divInt_255 : Rat.divInt 1 255 * 255 = 1 := by decide +kernel
theorem divInt_s (s : Int) : Rat.divInt s 255 = (s : Rat) * Rat.divInt 1 255 := by
  rw [mul_divInt, Rat.num_intCast, Rat.den_intCast, show (Rat.divInt 1 255).num = 1 by decide +kernel, show (Rat.divInt 1 255).den = 255 by decide +kernel]
  congr 1 <;> simp
theorem beF_in {l h s : Int} (hlh : l ≤ h) (s0 : 0 ≤ s ∧ s < 256) : inF l h (beF l h s) := by
  unfold inF beF
  have d1 := divInt_1
  have d2 := divInt_255
  have k1 := Rat.intCast_le_intCast.2 hlh
  have k2 := Rat.intCast_le_intCast.2 s0.1
  have k3 := Rat.intCast_le_intCast.2 (show s ≤ 255 by omega)
  have z0 : ((0 : Int) : Rat) = 0 := rfl
  have z1 : ((255 : Int) : Rat) = 255 := rfl
  rw [z0] at k2
  rw [z1] at k3
  rw [divInt_s, c65536]
  have e1 : Rat.divInt 1 65536 = 1 / 65536 := by grind
  have e2 : Rat.divInt 1 255 = 1 / 255 := by grind
  rw [e1, e2]
  generalize (l : Rat) = L at *
  generalize (h : Rat) = H at *
  generalize (s : Rat) = S at *
  have m1 := Rat.mul_nonneg (show 0 ≤ H - L by grind) k2
  have m2 := Rat.mul_nonneg (show 0 ≤ H - L by grind) (show 0 ≤ 255 - S by grind)
  constructor <;> grind
theorem exact_r' {A B C : Rat} (hA : rl A ≤ 50000000) (hB : rl B ≤ 50000000) (hC : rl C ≤ 50000000) : Rq 35 [.agg (zR A B C)] = some (.int .i64 (exF A B C)) := by
  refine RL_of (f := 35) (fn := Try.f35) Try.func35 rfl rfl rfl (Nat.le_of_ble_eq_true rfl) ?_
  unfold exF
  have e0 : A * A - B * B * C = A * A - B * B * C := rfl
  rcases sg_cases A with ⟨-, eA⟩ | ⟨-, eA⟩ | ⟨-, eA⟩ <;> rcases sg_cases B with ⟨-, eB⟩ | ⟨-, eB⟩ | ⟨-, eB⟩ <;> rcases sg_cases C with ⟨-, eC⟩ | ⟨-, eC⟩ | ⟨-, eC⟩ <;>
    rcases sg_cases (A * A - B * B * C) with ⟨-, eD⟩ | ⟨-, eD⟩ | ⟨-, eD⟩ <;> rw [eA, eB, eC] <;> simp -implicitDefEqProofs (disch := first | omega | (with_reducible apply Nat.le_trans; (focus (repeat' (first | with_reducible apply rb_mul | with_reducible apply rb_add | with_reducible apply rb_sub | with_reducible apply rb_neg | with_reducible apply rb_divInt | with_reducible apply rb_int | with_reducible apply lb_mul | with_reducible apply lb_add | with_reducible apply lb_sub | with_reducible apply lb_neg | exact Nat.le_refl _))); omega)) only [go_sem, eA, eB, eC, eD, if_pos, if_neg, dec_t, dec_f, IntWalk.i64_in, IntWalk.u32_in, IntWalk.u64_in, beq_no] <;> try rfl
end Go.Pi

set_option linter.unusedVariables false
set_option linter.unusedSimpArgs false
set_option maxHeartbeats 4000000
set_option maxRecDepth 8000
/-
The laws on products, square roots, roots and sides of intervals.
-/
namespace Go.Pi
open Go Go.Proofs Num
@[go_sem] theorem ti_2u8 : ti Pq 47 = some ⟨.array 2 5, 2, 2, [.int .u8 0, .int .u8 0]⟩ := by kernel_rfl
theorem typ_u8 {d : Nat} {cs : List PV} (h : Typ Pq (d + 1) 5 cs) : ∃ a, cs = [.int .u8 a] ∧ 0 ≤ a ∧ a < 256 := by
  simp only [Typ, Try.underlying5] at h
  obtain ⟨n, rfl, hw⟩ := h
  refine ⟨n, rfl, ?_⟩
  simp only [Lit.wf, Bool.and_eq_true, decide_eq_true_eq] at hw
  have e1 : IntKind.u8.min = 0 := by decide
  have e2 : IntKind.u8.max = 255 := by decide
  rw [e1, e2] at hw
  omega
theorem arg_2u8 {p : PV} (h : ArgT Pq 9 47 p) : ∃ a b, p = .agg [.int .u8 a, .int .u8 b] ∧ (0 ≤ a ∧ a < 256) ∧ (0 ≤ b ∧ b < 256) := by
  unfold ArgT at h
  rw [Try.underlying47] at h
  obtain ⟨cs, rfl, h⟩ := h
  unfold Typ at h
  rw [Try.underlying47] at h
  obtain ⟨p, q, rfl, h1, p', q', rfl, h2, rfl⟩ := h
  obtain ⟨a, rfl, ha⟩ := typ_u8 (d := 7) h1
  obtain ⟨b, rfl, hb⟩ := typ_u8 (d := 7) h2
  exact ⟨a, b, rfl, ha, hb⟩
theorem arg_u8 {p : PV} (h : ArgT Pq 9 5 p) : ∃ a, p = .int .u8 a ∧ 0 ≤ a ∧ a < 256 := by
  unfold ArgT at h
  rw [Try.underlying5] at h
  obtain ⟨a, h1, ha⟩ := typ_u8 (d := 8) h
  obtain rfl := (List.cons.inj h1).1
  exact ⟨a, rfl, ha⟩
theorem mul_law {p q t : PV} (h : ArgT Pq 9 34 p) (h' : ArgT Pq 9 34 q) (h'' : ArgT Pq 9 47 t) : Rq 5 [p, q, t] = some (.bool true) := by
  obtain ⟨a, b, rfl, ha, hb⟩ := arg_Ival h
  obtain ⟨c, d, rfl, hc, hd⟩ := arg_Ival h'
  obtain ⟨u, v, rfl, hu, hv⟩ := arg_2u8 h''
  refine RL_of (f := 5) (fn := Try.f5) Try.func5 rfl rfl rfl (Nat.le_of_ble_eq_true rfl) ?_
  have aw := awake_r
  have pr := proper'_r a b
  have pr2 := proper'_r c d
  have of := of'_r a b
  have of2 := of'_r c d
  by_cases hp : a ≤ b ∧ -2305843009213693952 ≤ a ∧ b ≤ 2305843009213693952
  · rw [dec_t hp] at pr
    by_cases hp2 : c ≤ d ∧ -2305843009213693952 ≤ c ∧ d ≤ 2305843009213693952
    · rw [dec_t hp2] at pr2
      have p1 : Pr (a, b) := ⟨hp.2.1, hp.1, hp.2.2⟩
      have p2 : Pr (c, d) := ⟨hp2.2.1, hp2.1, hp2.2.2⟩
      have s1 := iMul_r (a := (a, b)) (b := (c, d)) (by dsimp only; omega) (by dsimp only; omega) (by dsimp only; omega) (by dsimp only; omega)
      have s2 := mul4_r p1 p2
      have se := same4_eq
      have w1 := between_r (l := a) (h := b) (s := u) (by omega) (by omega) hu
      have w2 := between_r (l := c) (h := d) (s := v) (by omega) (by omega) hv
      have r1 := rl_beF (l := a) (h := b) (s := u) (by omega) (by omega) hu
      have r2 := rl_beF (l := c) (h := d) (s := v) (by omega) (by omega) hv
      have in1 := beF_in hp.1 hu
      have in2 := beF_in hp2.1 hv
      dsimp only at s1
      generalize beF a b u = x at *
      generalize beF c d v = y at *
      clear ha hb hc hd h h'
      cases hm : muF (a, b) (c, d) with
      | none =>
        rw [hm] at s1 s2
        simp -implicitDefEqProofs (disch := first | omega | (with_reducible apply Nat.le_trans; (focus (repeat' (first | with_reducible apply rb_mul | with_reducible apply rb_add | with_reducible apply rb_sub | with_reducible apply rb_neg | with_reducible apply rb_divInt | with_reducible apply rb_int | with_reducible apply lb_mul | with_reducible apply lb_add | with_reducible apply lb_sub | with_reducible apply lb_neg | exact Nat.le_refl _))); omega)) only [go_sem, aw, pr, pr2, of, of2, s1, s2, se, if_pos, if_neg, dec_t, dec_f, IntWalk.i64_in, IntWalk.u32_in, IntWalk.u64_in, beq_no]
      | some m =>
        have pm := muF_pr hm
        have inm := muF_in hm in1 in2
        obtain ⟨m1, m2⟩ := m
        obtain ⟨q1, q2, q3⟩ := pm
        dsimp only at q1 q2 q3 inm
        have i := in_r (l := m1) (h := m2) (q := x * y) (Nat.le_trans (rl_mul _ _) (by omega)) (by omega) (by omega) (by omega) (by omega)
        rw [dec_t inm] at i
        rw [hm] at s1 s2
        simp -implicitDefEqProofs (disch := first | omega | (with_reducible apply Nat.le_trans; (focus (repeat' (first | with_reducible apply rb_mul | with_reducible apply rb_add | with_reducible apply rb_sub | with_reducible apply rb_neg | with_reducible apply rb_divInt | with_reducible apply rb_int | with_reducible apply lb_mul | with_reducible apply lb_add | with_reducible apply lb_sub | with_reducible apply lb_neg | exact Nat.le_refl _))); omega)) only [go_sem, aw, pr, pr2, of, of2, s1, s2, se, w1, w2, i, if_pos, if_neg, dec_t, dec_f, IntWalk.i64_in, IntWalk.u32_in, IntWalk.u64_in, beq_no]
    · rw [dec_f hp2] at pr2
      simp -implicitDefEqProofs (disch := omega) only [go_sem, aw, pr, pr2, if_pos, if_neg, dec_t, dec_f, IntWalk.i64_in, IntWalk.u32_in, IntWalk.u64_in, beq_no]
  · rw [dec_f hp] at pr
    by_cases hp2 : c ≤ d ∧ -2305843009213693952 ≤ c ∧ d ≤ 2305843009213693952
    · rw [dec_t hp2] at pr2
      simp -implicitDefEqProofs (disch := omega) only [go_sem, aw, pr, pr2, if_pos, if_neg, dec_t, dec_f, IntWalk.i64_in, IntWalk.u32_in, IntWalk.u64_in, beq_no]
    · rw [dec_f hp2] at pr2
      simp -implicitDefEqProofs (disch := omega) only [go_sem, aw, pr, pr2, if_pos, if_neg, dec_t, dec_f, IntWalk.i64_in, IntWalk.u32_in, IntWalk.u64_in, beq_no]
theorem sqrt_law {p t : PV} (h : ArgT Pq 9 34 p) (h'' : ArgT Pq 9 5 t) : Rq 6 [p, t] = some (.bool true) := by
  obtain ⟨a, b, rfl, ha, hb⟩ := arg_Ival h
  obtain ⟨u, rfl, hu⟩ := arg_u8 h''
  refine RL_of (f := 6) (fn := Try.f6) Try.func6 rfl rfl rfl (Nat.le_of_ble_eq_true rfl) ?_
  have aw := awake_r
  have pr := proper'_r a b
  have of := of'_r a b
  by_cases hp : a ≤ b ∧ -2305843009213693952 ≤ a ∧ b ≤ 2305843009213693952
  · rw [dec_t hp] at pr
    have p1 : Pr (a, b) := ⟨hp.2.1, hp.1, hp.2.2⟩
    have s1 := iSqrt_r (a := (a, b)) (by dsimp only; omega) (by dsimp only; omega)
    have s2 := sqrt4_r p1
    have se := same4_eq
    have w1 := between_r (l := a) (h := b) (s := u) (by omega) (by omega) hu
    have r1 := rl_beF (l := a) (h := b) (s := u) (by omega) (by omega) hu
    have in1 := beF_in hp.1 hu
    dsimp only at s1
    generalize beF a b u = x at *
    clear ha hb h
    have b6 := ll_64 (n := 65536) (by omega) (by omega)
    cases hm : sqF (a, b) with
    | none =>
      rw [hm] at s1 s2
      simp -implicitDefEqProofs (disch := first | omega | (with_reducible apply Nat.le_trans; (focus (repeat' (first | with_reducible apply rb_mul | with_reducible apply rb_add | with_reducible apply rb_sub | with_reducible apply rb_neg | with_reducible apply rb_divInt | with_reducible apply rb_int | with_reducible apply lb_mul | with_reducible apply lb_add | with_reducible apply lb_sub | with_reducible apply lb_neg | exact Nat.le_refl _))); omega)) only [go_sem, aw, pr, of, s1, s2, se, w1, if_pos, if_neg, dec_t, dec_f, IntWalk.i64_in, IntWalk.u32_in, IntWalk.u64_in, beq_no]
    | some m =>
      have pm := sqF_pr p1 hm
      obtain ⟨c0, d0, d1, d2, d3⟩ := sqF_spec p1 hm
      obtain ⟨m1, m2⟩ := m
      obtain ⟨q1, q2, q3⟩ := pm
      dsimp only at q1 q2 q3 c0 d0 d1 d2 d3
      rw [hm] at s1 s2
      have l1 := ll_64 (n := m1) (by omega) (by omega)
      have l2 := ll_64 (n := m2) (by omega) (by omega)
      by_cases hx : x < 0
      · have e := sg_neg hx
        simp -implicitDefEqProofs (disch := first | omega | (with_reducible apply Nat.le_trans; (focus (repeat' (first | with_reducible apply rb_mul | with_reducible apply rb_add | with_reducible apply rb_sub | with_reducible apply rb_neg | with_reducible apply rb_divInt | with_reducible apply rb_int | with_reducible apply lb_mul | with_reducible apply lb_add | with_reducible apply lb_sub | with_reducible apply lb_neg | exact Nat.le_refl _))); omega)) only [go_sem, aw, pr, of, s1, s2, se, w1, e, if_pos, if_neg, dec_t, dec_f, IntWalk.i64_in, IntWalk.u32_in, IntWalk.u64_in, beq_no]
      · have e : ¬ sg x < 0 := fun h => hx (sg_lt.1 h)
        unfold inF at in1
        rw [c65536] at in1
        have k1 := Rat.intCast_le_intCast.2 d2
        have k2 := Rat.intCast_le_intCast.2 d3
        rw [cm, cm, c65536] at k1 k2
        have mx : ((max a 0 : Int) : Rat) ≤ x * 65536 := by
          rw [Int.max_def]
          split
          · have : ((0 : Int) : Rat) = 0 := rfl
            grind
          · exact in1.1
        have e1 : sg (((m1 : Int) : Rat) * ((m1 : Int) : Rat) - x * (((65536 : Int) : Rat) * ((65536 : Int) : Rat))) ≤ 0 := sg_le.2 (by rw [c65536]; grind)
        have e2 : sg (x * (((65536 : Int) : Rat) * ((65536 : Int) : Rat)) - ((m2 : Int) : Rat) * ((m2 : Int) : Rat)) ≤ 0 := sg_le.2 (by rw [c65536]; grind)
        simp -implicitDefEqProofs (disch := first | omega | (with_reducible apply Nat.le_trans; (focus (repeat' (first | with_reducible apply rb_mul | with_reducible apply rb_add | with_reducible apply rb_sub | with_reducible apply rb_neg | with_reducible apply rb_divInt | with_reducible apply rb_int | with_reducible apply lb_mul | with_reducible apply lb_add | with_reducible apply lb_sub | with_reducible apply lb_neg | exact Nat.le_refl _))); omega)) only [go_sem, aw, pr, of, s1, s2, se, w1, e, e1, e2, if_pos, if_neg, dec_t, dec_f, IntWalk.i64_in, IntWalk.u32_in, IntWalk.u64_in, beq_no]
  · rw [dec_f hp] at pr
    simp -implicitDefEqProofs (disch := omega) only [go_sem, aw, pr, if_pos, if_neg, dec_t, dec_f, IntWalk.i64_in, IntWalk.u32_in, IntWalk.u64_in, beq_no]
end Go.Pi
