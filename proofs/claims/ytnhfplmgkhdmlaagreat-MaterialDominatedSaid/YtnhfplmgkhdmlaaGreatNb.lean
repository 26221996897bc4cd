/- What is proved: long division in numbers; sizes and signs of fractions. No conditions beyond those in the statements. -/
import Derived.Test.YtnhfplmgkhdmlaaGreatNa
set_option autoImplicit false
/-
Long division as the reference does it, in numbers.
-/
namespace Num
theorem hi_two {l : List Int} (h : Lm l) {n : Nat} (hn : 1 ≤ n) (hl : l.length ≤ n + 1) : vl l < pw (n - 1) * (l.getD n 0 * 1000000000 + l.getD (n - 1) 0 + 1) := by
  have h1 := vl_take_any l n
  have h2 := vl_take_any l (n - 1)
  rw [show n - 1 + 1 = n by omega] at h2
  rw [List.take_of_length_le hl] at h1
  have h3 := vl_lt (lm_take (n - 1) h)
  have h4 : pw (l.take (n - 1)).length ≤ pw (n - 1) := pw_mono (by rw [List.length_take]; omega)
  have h5 := pw_succ (n - 1)
  rw [show n - 1 + 1 = n by omega] at h5
  rw [h1, h2, h5]
  grind
theorem top_le {l : List Int} (h : Lm l) (hl : 1 ≤ l.length) : l.getD (l.length - 1) 0 * pw (l.length - 1) ≤ vl l := by
  have h2 := vl_take_any l (l.length - 1)
  rw [show l.length - 1 + 1 = l.length by omega, List.take_length] at h2
  have h3 := vl_nonneg (lm_take (l.length - 1) h)
  rw [h2, Int.mul_comm]
  omega
theorem q_le {R V v1 p high q : Int} (hq : q * V ≤ R) (hp : 0 < p) (h1 : 0 < v1) (hV : v1 * p ≤ V) (hR : R < p * (high + 1)) (h0 : 0 ≤ q) : q ≤ high / v1 := by
  have e1 : q * (v1 * p) ≤ q * V := Int.mul_le_mul_of_nonneg_left hV h0
  have e2 : p * (q * v1) < p * (high + 1) := by
    have : p * (q * v1) = q * (v1 * p) := by grind
    omega
  have e3 := Int.lt_of_mul_lt_mul_left e2 (Int.le_of_lt hp)
  exact Int.le_ediv_of_mul_le h1 (by omega)
theorem top_pos {v : Int} (h : v ≠ 0) : 1 ≤ (lm v).length ∧ 1 ≤ (lm v).getD ((lm v).length - 1) 0 := by
  have h1 : lm v ≠ [] := fun e => h (lm_eq_nil.1 e)
  have h2 := lm_last h1
  have h3 := lm_getD (lm_lm v) ((lm v).length - 1)
  have h4 := List.length_pos_iff.2 h1
  omega
/-- What a digit leaves. -/
theorem step_q {R V u q : Int} (hV : 0 < V) (h0 : 0 ≤ R) (h1 : R < V) (hu : 0 ≤ u ∧ u < 1000000000) (hq : q = (R * 1000000000 + u) / V) : 0 ≤ q ∧ q < 1000000000 ∧ q * V ≤ R * 1000000000 + u ∧ R * 1000000000 + u < (q + 1) * V := by
  have a0 : 0 ≤ R * 1000000000 + u := by omega
  have a1 : R * 1000000000 + u < 1000000000 * V := by omega
  refine ⟨?_, ?_, ?_, ?_⟩
  · rw [hq]; exact Int.ediv_nonneg a0 (by omega)
  · rw [hq]; exact Int.ediv_lt_of_lt_mul hV a1
  · rw [hq]; exact Int.ediv_mul_le _ (by omega)
  · rw [hq]; exact Int.lt_ediv_add_one_mul_self _ hV
end Num

set_option autoImplicit false
/-
Rational numbers: bounds of sizes, signs.
-/
namespace Num
theorem rb_mul {a b : Rat} {m n : Nat} (h : rl a ≤ m) (k : rl b ≤ n) : rl (a * b) ≤ m + n := Nat.le_trans (rl_mul a b) (by omega)
theorem rb_add {a b : Rat} {m n : Nat} (h : rl a ≤ m) (k : rl b ≤ n) : rl (a + b) ≤ m + n + 1 := Nat.le_trans (rl_add a b) (by omega)
theorem rb_sub {a b : Rat} {m n : Nat} (h : rl a ≤ m) (k : rl b ≤ n) : rl (a - b) ≤ m + n + 1 := Nat.le_trans (rl_sub a b) (by omega)
theorem rb_neg {a : Rat} {m : Nat} (h : rl a ≤ m) : rl (-a) ≤ m := by rw [rl_neg]; exact h
theorem rb_int {n : Int} {m : Nat} (h : ll n ≤ m) : rl (n : Rat) ≤ m + 1 := Nat.le_trans (rl_int n) (by omega)
theorem rl_divInt' (p q : Int) : rl (Rat.divInt p q) ≤ ll p + ll q + 1 := by
  by_cases h : q = 0
  · subst h
    rw [Rat.divInt_zero]
    have := rl_int 0
    rw [ll_zero] at this
    have h0 : ((0 : Int) : Rat) = 0 := rfl
    rw [h0] at this
    omega
  · have := rl_divInt p q h; omega
theorem rb_divInt {p q : Int} {m n : Nat} (h : ll p ≤ m) (k : ll q ≤ n) : rl (Rat.divInt p q) ≤ m + n + 1 := Nat.le_trans (rl_divInt' p q) (by omega)
theorem lb_mul {a b : Int} {m n : Nat} (h : ll a ≤ m) (k : ll b ≤ n) : ll (a * b) ≤ m + n := Nat.le_trans (ll_mul a b) (by omega)
theorem lb_add {a b : Int} {m n : Nat} (h : ll a ≤ m) (k : ll b ≤ n) : ll (a + b) ≤ m + n + 1 := Nat.le_trans (ll_add a b) (by omega)
theorem lb_sub {a b : Int} {m n : Nat} (h : ll a ≤ m) (k : ll b ≤ n) : ll (a - b) ≤ m + n + 1 := Nat.le_trans (ll_sub a b) (by omega)
theorem lb_neg {a : Int} {m : Nat} (h : ll a ≤ m) : ll (-a) ≤ m := by rw [ll_neg]; exact h
theorem lb_num {q : Rat} {m : Nat} (h : rl q ≤ m) : ll q.num ≤ m := Nat.le_trans (rl_num q) h
theorem lb_den {q : Rat} {m : Nat} (h : rl q ≤ m) : ll (q.den : Int) ≤ m := Nat.le_trans (rl_den q) h
/-- The sign of a fraction. -/
def sg (q : Rat) : Int := q.num.sign
theorem num_lt0 {q : Rat} : q.num < 0 ↔ q < 0 := by
  have := @Rat.num_nonneg q
  constructor
  · intro h
    rcases (Rat.le_total : 0 ≤ q ∨ q ≤ 0) with h' | h'
    · have := this.2 h'; omega
    · rw [Rat.lt_iff_le_and_ne]; refine ⟨h', fun e => ?_⟩; subst e; simp at h
  · intro h
    rcases Int.lt_or_le q.num 0 with h' | h'
    · exact h'
    · have := this.1 h'; grind
theorem num_eq0 {q : Rat} : q.num = 0 ↔ q = 0 := Rat.num_eq_zero
theorem num_gt0 {q : Rat} : 0 < q.num ↔ 0 < q := by
  have h1 := @Rat.num_nonneg q
  have h2 := @num_eq0 q
  constructor
  · intro h
    have h3 := h1.1 (by omega)
    have h4 : ¬ q = 0 := fun e => by have := h2.2 e; omega
    grind
  · intro h
    have h3 := h1.2 (by grind)
    have h4 : ¬ q.num = 0 := fun e => by have := h2.1 e; grind
    omega
theorem sg_neg {q : Rat} (h : q < 0) : sg q = -1 := Int.sign_eq_neg_one_of_neg (num_lt0.2 h)
theorem sg_pos {q : Rat} (h : 0 < q) : sg q = 1 := Int.sign_eq_one_of_pos (num_gt0.2 h)
theorem sg_zero {q : Rat} (h : q = 0) : sg q = 0 := by subst h; rfl
theorem sg_cases (q : Rat) : (q < 0 ∧ sg q = -1) ∨ (q = 0 ∧ sg q = 0) ∨ (0 < q ∧ sg q = 1) := by
  rcases Int.lt_trichotomy q.num 0 with h | h | h
  · have h := num_lt0.1 h; exact .inl ⟨h, sg_neg h⟩
  · have h := num_eq0.1 h; exact .inr (.inl ⟨h, sg_zero h⟩)
  · have h := num_gt0.1 h; exact .inr (.inr ⟨h, sg_pos h⟩)
theorem sg_int (n : Int) : sg (n : Rat) = n.sign := by simp [sg]
theorem sg_lt {q : Rat} : sg q < 0 ↔ q < 0 := by
  rcases sg_cases q with ⟨h, e⟩ | ⟨h, e⟩ | ⟨h, e⟩ <;> rw [e] <;> grind
theorem sg_eq {q : Rat} : sg q = 0 ↔ q = 0 := by
  rcases sg_cases q with ⟨h, e⟩ | ⟨h, e⟩ | ⟨h, e⟩ <;> rw [e] <;> grind
theorem sg_gt {q : Rat} : 0 < sg q ↔ 0 < q := by
  rcases sg_cases q with ⟨h, e⟩ | ⟨h, e⟩ | ⟨h, e⟩ <;> rw [e] <;> grind
theorem sg_le {q : Rat} : sg q ≤ 0 ↔ q ≤ 0 := by
  rcases sg_cases q with ⟨h, e⟩ | ⟨h, e⟩ | ⟨h, e⟩ <;> rw [e] <;> grind
theorem sg_ge {q : Rat} : 0 ≤ sg q ↔ 0 ≤ q := by
  rcases sg_cases q with ⟨h, e⟩ | ⟨h, e⟩ | ⟨h, e⟩ <;> rw [e] <;> grind
theorem sg_mul (a b : Rat) : sg (a * b) = sg a * sg b := by
  rcases sg_cases a with ⟨h, e⟩ | ⟨h, e⟩ | ⟨h, e⟩ <;> rcases sg_cases b with ⟨k, f⟩ | ⟨k, f⟩ | ⟨k, f⟩ <;> rw [e, f]
  · exact sg_pos (by have := Rat.mul_pos (a := -a) (b := -b) (by grind) (by grind); grind)
  · exact sg_zero (by rw [k]; grind)
  · exact sg_neg (by have := Rat.mul_pos (a := -a) (b := b) (by grind) (by grind); grind)
  · exact sg_zero (by rw [h]; grind)
  · exact sg_zero (by rw [h]; grind)
  · exact sg_zero (by rw [h]; grind)
  · exact sg_neg (by have := Rat.mul_pos (a := a) (b := -b) (by grind) (by grind); grind)
  · exact sg_zero (by rw [k]; grind)
  · exact sg_pos (Rat.mul_pos h k)
theorem sg_negq (a : Rat) : sg (-a) = -sg a := by
  rcases sg_cases a with ⟨h, e⟩ | ⟨h, e⟩ | ⟨h, e⟩ <;> rw [e]
  · exact sg_pos (by grind)
  · exact sg_zero (by grind)
  · exact sg_neg (by grind)
/-- The order of two fractions, from their numerators. -/
theorem sg_cross (a b : Rat) : (a.num * b.den - b.num * a.den).sign = sg (a - b) := by
  have e : a - b = Rat.divInt (a.num * b.den - b.num * a.den) ((a.den : Int) * b.den) := by
    rw [Rat.sub_eq_add_neg, add_divInt, Rat.neg_num, Rat.neg_den]; congr 1; rw [Int.neg_mul, Int.sub_eq_add_neg]
  unfold sg
  rw [e, Rat.num_divInt]
  have h1 := a.den_pos
  have h2 := b.den_pos
  have h3 : 0 < (a.den : Int) * b.den := Int.mul_pos (by omega) (by omega)
  rw [Int.sign_eq_one_of_pos h3, Int.one_mul]
  generalize (a.num * b.den - b.num * a.den) = x
  generalize (a.den : Int) * b.den = d at *
  have h4 : 0 < Int.gcd d x := Int.gcd_pos_of_ne_zero_left _ (by omega)
  obtain ⟨k, hk⟩ : (Int.gcd d x : Int) ∣ x := Int.gcd_dvd_right ..
  have h5 : x / (Int.gcd d x : Int) = k := by
    conv => lhs; arg 1; rw [hk]
    exact Int.mul_ediv_cancel_left _ (by omega)
  rw [h5]
  conv => lhs; rw [hk]
  rw [Int.sign_mul, Int.sign_eq_one_of_pos (by omega), Int.one_mul]
end Num
