/- What is proved: square roots of fractions by sequences; roots in reduced form. No conditions beyond those in the statements. -/
import Derived.Test.YtnhfplmgkhdmlaaGreatNb
set_option autoImplicit false
set_option linter.unusedVariables false
/-
Square roots of fractions, by sequences of fractions: signs of what such sequences tend to.
-/
namespace Num
theorem z0 : ((0 : Int) : Rat) = 0 := rfl
theorem z1 : ((1 : Int) : Rat) = 1 := rfl
/-- The units that go to nought. -/
def ep (k : Nat) : Rat := 1 / (65536 * ((k : Rat) + 1))
theorem nn (k : Nat) : (0 : Rat) ≤ (k : Rat) := by
  have := Rat.intCast_le_intCast.2 (show (0 : Int) ≤ (k : Int) by omega)
  rw [z0] at this
  rwa [Rat.intCast_natCast] at this
theorem ep_mul (k : Nat) : ep k * (65536 * ((k : Rat) + 1)) = 1 := by
  have := nn k
  unfold ep
  grind
theorem ep_pos (k : Nat) : 0 < ep k := by
  have h1 := ep_mul k
  have h2 := nn k
  rcases sg_cases (ep k) with ⟨h, _⟩ | ⟨h, _⟩ | ⟨h, _⟩
  · have := Rat.mul_pos (show 0 < -ep k by grind) (show 0 < 65536 * ((k : Rat) + 1) by grind); grind
  · rw [h] at h1; grind
  · exact h
theorem ep_le_one (k : Nat) : ep k ≤ 1 := by
  have h1 := ep_mul k
  have h2 := nn k
  have h3 := ep_pos k
  have := Rat.mul_nonneg (Rat.le_of_lt h3) h2
  grind
theorem arch (x : Rat) : ∃ N : Nat, x ≤ (N : Rat) := by
  refine ⟨(x.floor + 1).toNat, ?_⟩
  have h := @Rat.lt_floor x
  have h1 := Rat.intCast_le_intCast.2 (Int.self_le_toNat (x.floor + 1))
  rw [Rat.intCast_add, z1, Rat.intCast_natCast] at h1
  grind
theorem cast_le {a b : Nat} (h : a ≤ b) : (a : Rat) ≤ (b : Rat) := by
  have := Rat.intCast_le_intCast.2 (show (a : Int) ≤ (b : Int) by omega)
  rwa [Rat.intCast_natCast, Rat.intCast_natCast] at this
/-- Above any bound. -/
theorem ep_small {ε : Rat} (h : 0 < ε) : ∃ N : Nat, ∀ k, N ≤ k → ep k ≤ ε := by
  obtain ⟨N, hN⟩ := arch (1 / ε)
  refine ⟨N, fun k hk => ?_⟩
  have h1 := cast_le hk
  have h2 := ep_mul k
  have h3 := ep_pos k
  have h4 : ε * (1 / ε) = 1 := by grind
  have h5 := Rat.mul_nonneg (Rat.le_of_lt h) (show 0 ≤ (k : Rat) - 1 / ε by grind)
  have h6 : 1 ≤ ε * (65536 * ((k : Rat) + 1)) := by
    have := Rat.mul_nonneg (Rat.le_of_lt h) (nn k)
    grind
  have h7 : 0 ≤ (ε - ep k) * (65536 * ((k : Rat) + 1)) := by grind
  rcases sg_cases (ε - ep k) with ⟨g, _⟩ | ⟨g, _⟩ | ⟨g, _⟩
  · have := Rat.mul_pos (show 0 < -(ε - ep k) by grind) (show 0 < 65536 * ((k : Rat) + 1) by have := nn k; grind)
    grind
  · grind
  · grind
theorem nat_root : ∀ n : Nat, ∃ x : Nat, x * x ≤ n ∧ n < (x + 1) * (x + 1)
  | 0 => ⟨0, by omega, by omega⟩
  | n + 1 => by
    obtain ⟨x, h1, h2⟩ := nat_root n
    by_cases h : n + 1 < (x + 1) * (x + 1)
    · exact ⟨x, by omega, h⟩
    · exact ⟨x + 1, by omega, by
        have : (x + 1 + 1) * (x + 1 + 1) = (x + 1) * (x + 1) + 2 * (x + 1) + 1 := by grind
        omega⟩
/-- A root from below in units. -/
theorem ra_ex {C : Rat} (h : 0 ≤ C) (k : Nat) : ∃ n : Nat, (n : Rat) * ep k * ((n : Rat) * ep k) ≤ C ∧ C < ((n : Rat) + 1) * ep k * (((n : Rat) + 1) * ep k) := by
  have hD := nn k
  have hm := ep_mul k
  generalize hd : 65536 * ((k : Rat) + 1) = D at *
  have hD0 : 0 < D := by grind
  have hX : 0 ≤ C * D * D := Rat.mul_nonneg (Rat.mul_nonneg h (Rat.le_of_lt hD0)) (Rat.le_of_lt hD0)
  have f0 : 0 ≤ (C * D * D).floor := Rat.le_floor_iff.2 (by rw [z0]; exact hX)
  obtain ⟨n, h1, h2⟩ := nat_root (C * D * D).floor.toNat
  have f1 := Rat.floor_le (C * D * D)
  have f2 := @Rat.lt_floor (C * D * D)
  have e : (((C * D * D).floor.toNat : Nat) : Int) = (C * D * D).floor := by omega
  have g1 := Rat.intCast_le_intCast.2 (show ((n * n : Nat) : Int) ≤ (C * D * D).floor by omega)
  have g2 := Rat.intCast_le_intCast.2 (show (C * D * D).floor + 1 ≤ (((n + 1) * (n + 1) : Nat) : Int) by omega)
  rw [Rat.intCast_natCast] at g1 g2
  rw [Rat.natCast_mul] at g1 g2
  rw [Rat.natCast_add, Rat.intCast_add, z1, show ((1 : Nat) : Rat) = 1 from rfl] at g2
  refine ⟨n, ?_, ?_⟩
  · have p := Rat.mul_nonneg (Rat.mul_nonneg (Rat.le_of_lt (ep_pos k)) (Rat.le_of_lt (ep_pos k))) (show 0 ≤ C * D * D - (n : Rat) * (n : Rat) by grind)
    have q : ep k * ep k * (C * D * D) = C := by
      have : ep k * ep k * (C * D * D) = C * (ep k * D) * (ep k * D) := by grind
      rw [this, hm]; grind
    grind
  · have p := Rat.mul_pos (Rat.mul_pos (ep_pos k) (ep_pos k)) (show 0 < ((n : Rat) + 1) * ((n : Rat) + 1) - C * D * D by grind)
    have q : ep k * ep k * (C * D * D) = C := by
      have : ep k * ep k * (C * D * D) = C * (ep k * D) * (ep k * D) := by grind
      rw [this, hm]; grind
    grind
open Classical in
noncomputable def ra (C : Rat) (k : Nat) : Rat := if h : 0 ≤ C then ((ra_ex h k).choose : Rat) * ep k else 0
theorem ra_nn (C : Rat) (k : Nat) : 0 ≤ ra C k := by
  unfold ra
  split
  · exact Rat.mul_nonneg (nn _) (Rat.le_of_lt (ep_pos k))
  · exact Rat.le_refl
theorem ra_spec {C : Rat} (h : 0 ≤ C) (k : Nat) : ra C k * ra C k ≤ C ∧ C < (ra C k + ep k) * (ra C k + ep k) := by
  unfold ra
  rw [dif_pos h]
  have := (ra_ex h k).choose_spec
  generalize (ra_ex h k).choose = n at *
  constructor
  · exact this.1
  · have := this.2; grind
theorem sq_le {x y : Rat} (h0 : 0 ≤ y) (h : x * x ≤ y * y) : x ≤ y := by
  rcases sg_cases (y - x) with ⟨g, _⟩ | ⟨g, _⟩ | ⟨g, _⟩
  · have h1 := Rat.mul_nonneg h0 (show 0 ≤ x - y by grind)
    have h2 := Rat.mul_pos (show 0 < x - y by grind) (show 0 < x by grind)
    grind
  · grind
  · grind
theorem sq_lt' {x y : Rat} (h0 : 0 ≤ y) (h : x * x < y * y) : x < y := by
  have := sq_le h0 (Rat.le_of_lt h)
  rcases sg_cases (y - x) with ⟨g, _⟩ | ⟨g, _⟩ | ⟨g, _⟩
  · grind
  · have : x = y := by grind
    subst this; grind
  · grind
/-- Bounds in units of 1 / 65536 are bounds of the approximations. -/
theorem ra_lo {C : Rat} (h : 0 ≤ C) (k : Nat) {a : Int} (h1 : (a : Rat) * (a : Rat) ≤ C * 65536 * 65536) : (a : Rat) ≤ ra C k * 65536 := by
  have hs := ra_spec h k
  have he := ep_pos k
  have hm := ep_mul k
  unfold ra at *
  rw [dif_pos h] at *
  generalize (ra_ex h k).choose = n at *
  have hn := nn n
  have e0 : 0 ≤ (n : Rat) * ep k + ep k := by have := Rat.mul_nonneg hn (Rat.le_of_lt he); grind
  have k1 : (a : Rat) < ((n : Rat) * ep k + ep k) * 65536 := sq_lt' (by grind) (by grind)
  -- in units
  have hD := nn k
  have k2 := Rat.mul_pos (show 0 < ((n : Rat) * ep k + ep k) * 65536 - (a : Rat) by grind) (show 0 < ((k : Rat) + 1) by grind)
  have k3 : ((n : Rat) * ep k + ep k) * 65536 * ((k : Rat) + 1) = (n : Rat) + 1 := by
    have : ((n : Rat) * ep k + ep k) * 65536 * ((k : Rat) + 1) = ((n : Rat) + 1) * (ep k * (65536 * ((k : Rat) + 1))) := by grind
    rw [this, hm]; grind
  have k4 : (a : Rat) * ((k : Rat) + 1) < (n : Rat) + 1 := by grind
  have k5 : a * ((k : Int) + 1) < (n : Int) + 1 := by
    rw [← Rat.intCast_lt_intCast, Rat.intCast_mul, Rat.intCast_add, Rat.intCast_add, z1, Rat.intCast_natCast, Rat.intCast_natCast]
    exact k4
  have k6 : (a : Rat) * ((k : Rat) + 1) ≤ (n : Rat) := by
    have := Rat.intCast_le_intCast.2 (show a * ((k : Int) + 1) ≤ (n : Int) by omega)
    rw [Rat.intCast_mul, Rat.intCast_add, z1, Rat.intCast_natCast, Rat.intCast_natCast] at this
    exact this
  have k7 : (n : Rat) * ep k * 65536 * ((k : Rat) + 1) = (n : Rat) := by
    have : (n : Rat) * ep k * 65536 * ((k : Rat) + 1) = (n : Rat) * (ep k * (65536 * ((k : Rat) + 1))) := by grind
    rw [this, hm]; grind
  rcases sg_cases ((n : Rat) * ep k * 65536 - (a : Rat)) with ⟨g, _⟩ | ⟨g, _⟩ | ⟨g, _⟩
  · have := Rat.mul_pos (show 0 < -((n : Rat) * ep k * 65536 - (a : Rat)) by grind) (show 0 < ((k : Rat) + 1) by grind)
    grind
  · grind
  · grind
theorem ra_hi {C : Rat} (h : 0 ≤ C) (k : Nat) {a : Int} (h0 : 0 ≤ a) (h1 : C * 65536 * 65536 ≤ (a : Rat) * (a : Rat)) : ra C k * 65536 ≤ (a : Rat) := by
  have hs := ra_spec h k
  have := Rat.intCast_le_intCast.2 h0
  rw [z0] at this
  exact sq_le this (by grind)
theorem ra_le {C : Rat} (h : 0 ≤ C) (k : Nat) : ra C k ≤ C + 1 := by
  have hs := ra_spec h k
  refine sq_le (by grind) ?_
  have := Rat.mul_nonneg h h
  grind
/-! Sequences -/
def Pos (x : Nat → Rat) : Prop := ∃ ε : Rat, 0 < ε ∧ ∃ N, ∀ k, N ≤ k → ε ≤ x k
def Nul (x : Nat → Rat) : Prop := ∀ ε : Rat, 0 < ε → ∃ N, ∀ k, N ≤ k → -ε ≤ x k ∧ x k ≤ ε
def Bnd (x : Nat → Rat) : Prop := ∃ M : Rat, 0 < M ∧ ∀ k, -M ≤ x k ∧ x k ≤ M
def Sgn (x : Nat → Rat) (s : Int) : Prop := (s = 1 ∧ Pos x) ∨ (s = 0 ∧ Nul x) ∨ (s = -1 ∧ Pos fun k => -x k)
theorem Pos.add {x y : Nat → Rat} (h : Pos x) (h' : Pos y) : Pos fun k => x k + y k := by
  obtain ⟨ε, h1, N, h2⟩ := h
  obtain ⟨ε', h1', N', h2'⟩ := h'
  refine ⟨ε, h1, max N N', fun k hk => ?_⟩
  have := h2 k (by omega)
  have := h2' k (by omega)
  grind
theorem Pos.add_nul {x y : Nat → Rat} (h : Pos x) (h' : Nul y) : Pos fun k => x k + y k := by
  obtain ⟨ε, h1, N, h2⟩ := h
  obtain ⟨N', h2'⟩ := h' (ε / 2) (by grind)
  refine ⟨ε / 2, by grind, max N N', fun k hk => ?_⟩
  have := h2 k (by omega)
  have := h2' k (by omega)
  grind
theorem Nul.add {x y : Nat → Rat} (h : Nul x) (h' : Nul y) : Nul fun k => x k + y k := fun ε he => by
  obtain ⟨N, h2⟩ := h (ε / 2) (by grind)
  obtain ⟨N', h2'⟩ := h' (ε / 2) (by grind)
  refine ⟨max N N', fun k hk => ?_⟩
  have := h2 k (by omega)
  have := h2' k (by omega)
  grind
theorem Nul.neg {x : Nat → Rat} (h : Nul x) : Nul fun k => -x k := fun ε he => by
  obtain ⟨N, h2⟩ := h ε he
  exact ⟨N, fun k hk => by have := h2 k hk; grind⟩
theorem Nul.zero : Nul fun _ => 0 := fun ε he => ⟨0, fun k _ => by grind⟩
theorem Pos.congr {x y : Nat → Rat} (h : Pos x) (e : ∀ k, x k = y k) : Pos y := by
  obtain rfl : x = y := funext e
  exact h
theorem Nul.congr {x y : Nat → Rat} (h : Nul x) (e : ∀ k, x k = y k) : Nul y := by
  obtain rfl : x = y := funext e
  exact h
theorem Sgn.congr {x y : Nat → Rat} {s : Int} (h : Sgn x s) (e : ∀ k, x k = y k) : Sgn y s := by
  obtain rfl : x = y := funext e
  exact h
theorem Nul.mul_bnd {x y : Nat → Rat} (h : Nul x) (h' : Bnd y) : Nul fun k => x k * y k := fun ε he => by
  obtain ⟨M, hM, hb⟩ := h'
  have e : M * (ε / M) = ε := by grind
  have e0 : 0 < ε / M := by
    rcases sg_cases (ε / M) with ⟨g, _⟩ | ⟨g, _⟩ | ⟨g, _⟩
    · have := Rat.mul_pos hM (show 0 < -(ε / M) by grind); grind
    · rw [g] at e; grind
    · exact g
  obtain ⟨N, h2⟩ := h (ε / M) e0
  refine ⟨N, fun k hk => ?_⟩
  have h3 := h2 k hk
  have h4 := hb k
  generalize ε / M = d at *
  have p1 := Rat.mul_nonneg (show 0 ≤ d - x k by grind) (show 0 ≤ M - y k by grind)
  have p2 := Rat.mul_nonneg (show 0 ≤ d + x k by grind) (show 0 ≤ M - y k by grind)
  have p3 := Rat.mul_nonneg (show 0 ≤ d - x k by grind) (show 0 ≤ M + y k by grind)
  have p4 := Rat.mul_nonneg (show 0 ≤ d + x k by grind) (show 0 ≤ M + y k by grind)
  constructor <;> grind
theorem Bnd.add {x y : Nat → Rat} (h : Bnd x) (h' : Bnd y) : Bnd fun k => x k + y k := by
  obtain ⟨M, hM, hb⟩ := h
  obtain ⟨M', hM', hb'⟩ := h'
  exact ⟨M + M', by grind, fun k => by have := hb k; have := hb' k; grind⟩
theorem Bnd.mul {x y : Nat → Rat} (h : Bnd x) (h' : Bnd y) : Bnd fun k => x k * y k := by
  obtain ⟨M, hM, hb⟩ := h
  obtain ⟨M', hM', hb'⟩ := h'
  refine ⟨M * M', Rat.mul_pos hM hM', fun k => ?_⟩
  have h3 := hb k
  have h4 := hb' k
  have p1 := Rat.mul_nonneg (show 0 ≤ M - x k by grind) (show 0 ≤ M' - y k by grind)
  have p2 := Rat.mul_nonneg (show 0 ≤ M + x k by grind) (show 0 ≤ M' - y k by grind)
  have p3 := Rat.mul_nonneg (show 0 ≤ M - x k by grind) (show 0 ≤ M' + y k by grind)
  have p4 := Rat.mul_nonneg (show 0 ≤ M + x k by grind) (show 0 ≤ M' + y k by grind)
  constructor <;> grind
theorem Bnd.const (c : Rat) : Bnd fun _ => c := by
  rcases sg_cases c with ⟨g, _⟩ | ⟨g, _⟩ | ⟨g, _⟩
  · exact ⟨-c, by grind, fun k => by grind⟩
  · exact ⟨1, by grind, fun k => by grind⟩
  · exact ⟨c, by grind, fun k => by grind⟩
theorem Bnd.neg {x : Nat → Rat} (h : Bnd x) : Bnd fun k => -x k := by
  obtain ⟨M, hM, hb⟩ := h
  exact ⟨M, hM, fun k => by have := hb k; grind⟩
theorem Bnd.ra {C : Rat} (h : 0 ≤ C) : Bnd (ra C) := ⟨C + 1, by grind, fun k => by have := ra_nn C k; have := ra_le h k; grind⟩
theorem Pos.mul {x y : Nat → Rat} (h : Pos x) (h' : Pos y) : Pos fun k => x k * y k := by
  obtain ⟨ε, h1, N, h2⟩ := h
  obtain ⟨ε', h1', N', h2'⟩ := h'
  refine ⟨ε * ε', Rat.mul_pos h1 h1', max N N', fun k hk => ?_⟩
  have a := h2 k (by omega)
  have b := h2' k (by omega)
  have p1 := Rat.mul_nonneg (show 0 ≤ x k - ε by grind) (show 0 ≤ y k by grind)
  have p2 := Rat.mul_nonneg (Rat.le_of_lt h1) (show 0 ≤ y k - ε' by grind)
  grind
theorem Pos.not_nul {x : Nat → Rat} (h : Pos x) : ¬ Nul x := fun h' => by
  obtain ⟨ε, h1, N, h2⟩ := h
  obtain ⟨N', h2'⟩ := h' (ε / 2) (by grind)
  have := h2 (max N N') (by omega)
  have := h2' (max N N') (by omega)
  grind
theorem Pos.not_neg {x : Nat → Rat} (h : Pos x) : ¬ Pos fun k => -x k := fun h' => by
  have := h.add h'
  exact (this.congr (y := fun _ => 0) fun k => by grind).not_nul Nul.zero
theorem Sgn.uniq {x : Nat → Rat} {s t : Int} (h : Sgn x s) (h' : Sgn x t) : s = t := by
  rcases h with ⟨e, h⟩ | ⟨e, h⟩ | ⟨e, h⟩ <;> rcases h' with ⟨e', h'⟩ | ⟨e', h'⟩ | ⟨e', h'⟩ <;> rw [e, e']
  · exact absurd h' h.not_nul
  · exact absurd h' h.not_neg
  · exact absurd h h'.not_nul
  · exact absurd h.neg h'.not_nul
  · exact absurd h h'.not_neg
  · exact absurd h'.neg h.not_nul
theorem Sgn.neg {x : Nat → Rat} {s : Int} (h : Sgn x s) : Sgn (fun k => -x k) (-s) := by
  rcases h with ⟨e, h⟩ | ⟨e, h⟩ | ⟨e, h⟩ <;> subst e
  · exact .inr (.inr ⟨rfl, h.congr fun k => by grind⟩)
  · exact .inr (.inl ⟨rfl, h.neg⟩)
  · exact .inl ⟨rfl, h⟩
theorem Sgn.add_nul {x y : Nat → Rat} {s : Int} (h : Sgn x s) (h' : Nul y) : Sgn (fun k => x k + y k) s := by
  rcases h with ⟨e, h⟩ | ⟨e, h⟩ | ⟨e, h⟩ <;> subst e
  · exact .inl ⟨rfl, h.add_nul h'⟩
  · exact .inr (.inl ⟨rfl, h.add h'⟩)
  · exact .inr (.inr ⟨rfl, (h.add_nul h'.neg).congr fun k => by grind⟩)
/-- Sequences that differ by what goes to nought. -/
theorem Sgn.near {x y : Nat → Rat} {s : Int} (h : Sgn x s) (h' : Nul fun k => y k - x k) : Sgn y s := (h.add_nul h').congr fun k => by grind
theorem Sgn.mul {x y : Nat → Rat} {s t : Int} (h : Sgn x s) (h' : Sgn y t) (bx : Bnd x) (by_ : Bnd y) : Sgn (fun k => x k * y k) (s * t) := by
  rcases h with ⟨e, h⟩ | ⟨e, h⟩ | ⟨e, h⟩ <;> subst e
  · rcases h' with ⟨e, h'⟩ | ⟨e, h'⟩ | ⟨e, h'⟩ <;> subst e
    · exact .inl ⟨rfl, h.mul h'⟩
    · exact .inr (.inl ⟨rfl, (h'.mul_bnd bx).congr fun k => by grind⟩)
    · exact .inr (.inr ⟨rfl, (h.mul h').congr fun k => by grind⟩)
  · exact .inr (.inl ⟨by omega, h.mul_bnd by_⟩)
  · rcases h' with ⟨e, h'⟩ | ⟨e, h'⟩ | ⟨e, h'⟩ <;> subst e
    · exact .inr (.inr ⟨rfl, (h.mul h').congr fun k => by grind⟩)
    · exact .inr (.inl ⟨rfl, (h'.mul_bnd bx).congr fun k => by grind⟩)
    · exact .inl ⟨rfl, (h.mul h').congr fun k => by grind⟩
theorem Sgn.const (c : Rat) : Sgn (fun _ => c) (sg c) := by
  rcases sg_cases c with ⟨g, e⟩ | ⟨g, e⟩ | ⟨g, e⟩ <;> rw [e]
  · exact .inr (.inr ⟨rfl, -c, by grind, 0, fun k _ => Rat.le_refl⟩)
  · exact .inr (.inl ⟨rfl, by subst g; exact Nul.zero⟩)
  · exact .inl ⟨rfl, c, g, 0, fun k _ => Rat.le_refl⟩
/-- What is eventually above nought, or tends to it. -/
def Nn (x : Nat → Rat) : Prop := Pos x ∨ Nul x
theorem Sgn.nn {x : Nat → Rat} {s : Int} (h : Sgn x s) (h0 : 0 ≤ s) : Nn x := by
  rcases h with ⟨e, h⟩ | ⟨e, h⟩ | ⟨e, h⟩
  · exact .inl h
  · exact .inr h
  · omega
theorem Nn.le {x : Nat → Rat} {s : Int} (h : Nn x) (h' : Sgn x s) : 0 ≤ s := by
  rcases h with h | h
  · rw [h'.uniq (.inl ⟨rfl, h⟩)]; omega
  · rw [h'.uniq (.inr (.inl ⟨rfl, h⟩))]; omega
theorem Nn.add {x y : Nat → Rat} (h : Nn x) (h' : Nn y) : Nn fun k => x k + y k := by
  rcases h with h | h <;> rcases h' with h' | h'
  · exact .inl (h.add h')
  · exact .inl (h.add_nul h')
  · exact .inl ((h'.add_nul h).congr fun k => by grind)
  · exact .inr (h.add h')
/-- How far the squares are from the radicand. -/
theorem ra_err {C : Rat} (h : 0 ≤ C) : Nul fun k => C - ra C k * ra C k := fun ε he => by
  have e1 : (2 * C + 3) * (ε / (2 * C + 3)) = ε := by grind
  have e0 : 0 < ε / (2 * C + 3) := by
    rcases sg_cases (ε / (2 * C + 3)) with ⟨g, _⟩ | ⟨g, _⟩ | ⟨g, _⟩
    · have := Rat.mul_pos (show 0 < 2 * C + 3 by grind) (show 0 < -(ε / (2 * C + 3)) by grind); grind
    · rw [g] at e1; grind
    · exact g
  obtain ⟨N, hN⟩ := ep_small e0
  refine ⟨N, fun k hk => ?_⟩
  have h1 := ra_spec h k
  have h2 := ra_le h k
  have h3 := ra_nn C k
  have h4 := hN k hk
  have h5 := ep_pos k
  have h6 := ep_le_one k
  generalize ε / (2 * C + 3) = d at *
  have p1 := Rat.mul_nonneg (Rat.le_of_lt h5) (show 0 ≤ C + 1 - ra C k by grind)
  have p2 := Rat.mul_nonneg (Rat.le_of_lt h5) (show 0 ≤ 1 - ep k by grind)
  have p3 := Rat.mul_nonneg (show 0 ≤ d - ep k by grind) (show 0 ≤ 2 * C + 3 by grind)
  constructor <;> grind
theorem ra_zero {k : Nat} : ra 0 k = 0 := by
  have h1 := ra_spec (C := 0) (by grind) k
  have h2 := ra_nn 0 k
  rcases sg_cases (ra 0 k) with ⟨g, _⟩ | ⟨g, _⟩ | ⟨g, _⟩
  · grind
  · exact g
  · have := Rat.mul_pos g g; grind
theorem ra_pos {C : Rat} (h : 0 < C) : Pos (ra C) := by
  obtain ⟨c, c0, c1, c2⟩ : ∃ c : Rat, 0 < c ∧ c ≤ 1 ∧ c ≤ C := by
    rcases sg_cases (1 - C) with ⟨g, _⟩ | ⟨g, _⟩ | ⟨g, _⟩
    · exact ⟨1, by grind, by grind, by grind⟩
    · exact ⟨C, by grind, by grind, by grind⟩
    · exact ⟨C, by grind, by grind, by grind⟩
  obtain ⟨N, hN⟩ := ep_small (show 0 < c / 2 by grind)
  refine ⟨c / 2, by grind, N, fun k hk => ?_⟩
  have h1 := ra_spec (Rat.le_of_lt h) k
  have h2 := ra_nn C k
  have h3 := hN k hk
  have h4 := ep_pos k
  have : c < ra C k + ep k := sq_lt' (by grind) (by
    have := Rat.mul_nonneg (Rat.le_of_lt c0) (show 0 ≤ 1 - c by grind); grind)
  grind
/-- The sign of A + B sqrt(C), as the laws say it. -/
def exF (A B C : Rat) : Int := if sg A = sg B * sg C ∨ sg B * sg C = 0 then sg A else if sg A = 0 then sg B * sg C else sg A * sg (A * A - B * B * C)
theorem exF_neg (A B C : Rat) : exF (-A) (-B) C = -exF A B C := by
  unfold exF
  rw [sg_negq, sg_negq, Int.neg_mul, show -A * -A - -B * -B * C = A * A - B * B * C by grind]
  by_cases h1 : sg A = sg B * sg C ∨ sg B * sg C = 0
  · rw [if_pos h1, if_pos (by omega)]
  · rw [if_neg h1, if_neg (by omega)]
    by_cases h2 : sg A = 0
    · rw [if_pos h2, if_pos (by omega)]
    · rw [if_neg h2, if_neg (by omega), Int.neg_mul]
theorem exF_B0 (A C : Rat) : exF A 0 C = sg A := by
  unfold exF
  rw [show sg 0 = 0 from rfl, Int.zero_mul, if_pos (.inr rfl)]
/-- The value of a root, by sequences. -/
noncomputable def va (A B C : Rat) (k : Nat) : Rat := A + B * ra C k
theorem Bnd.va (A B : Rat) {C : Rat} (h : 0 ≤ C) : Bnd (va A B C) := (Bnd.const A).add ((Bnd.const B).mul (Bnd.ra h))
theorem Nul.scale {x : Nat → Rat} (h : Nul x) (c : Rat) : Nul fun k => c * x k := (h.mul_bnd (Bnd.const c)).congr fun k => by grind
theorem va_opp {A B C : Rat} (hA : 0 < A) (hB : B < 0) (hC : 0 < C) : Sgn (va A B C) (sg (A * A - B * B * C)) := by
  have e1 := (ra_err (Rat.le_of_lt hC)).scale (B * B)
  -- the conjugate
  have hc : ∀ k, A ≤ A - B * ra C k ∧ A - B * ra C k ≤ A - B * (C + 1) := fun k => by
    have h1 := Rat.mul_nonneg (show 0 ≤ -B by grind) (ra_nn C k)
    have h2 := Rat.mul_nonneg (show 0 ≤ -B by grind) (show 0 ≤ C + 1 - ra C k by have := ra_le (Rat.le_of_lt hC) k; grind)
    constructor <;> grind
  have hp : ∀ k, va A B C k * (A - B * ra C k) = (A * A - B * B * C) + B * B * (C - ra C k * ra C k) := fun k => by unfold va; grind
  have bp : Pos fun k => A - B * ra C k := ⟨A, hA, 0, fun k _ => (hc k).1⟩
  have bb : Bnd fun k => A - B * ra C k := ⟨A - B * (C + 1), by have := (hc 0); grind, fun k => by have := hc k; grind⟩
  have sp : Sgn (fun k => va A B C k * (A - B * ra C k)) (sg (A * A - B * B * C)) := ((Sgn.const _).add_nul e1).congr fun k => (hp k).symm
  have bv := Bnd.va A B (Rat.le_of_lt hC)
  -- the value has a sign
  obtain ⟨M, hM, hb⟩ := bb
  rcases sp with ⟨e, h⟩ | ⟨e, h⟩ | ⟨e, h⟩ <;> rw [e]
  · obtain ⟨ε, h1, N, h2⟩ := h
    have em : M * (ε / M) = ε := by grind
    refine .inl ⟨rfl, ε / M, ?_, N, fun k hk => ?_⟩
    · rcases sg_cases (ε / M) with ⟨g, _⟩ | ⟨g, _⟩ | ⟨g, _⟩
      · have := Rat.mul_pos hM (show 0 < -(ε / M) by grind); grind
      · rw [g] at em; grind
      · exact g
    · have h3 := h2 k hk
      have h4 := hc k
      have h5 := hb k
      dsimp only at h3 h5
      generalize ε / M = d at *
      generalize A - B * ra C k = y at *
      rcases sg_cases (va A B C k - d) with ⟨g, _⟩ | ⟨g, _⟩ | ⟨g, _⟩
      · have p0 := Rat.mul_pos (show 0 < d - va A B C k by grind) (show 0 < y by grind)
        have d0 : 0 < d := by
          rcases sg_cases d with ⟨g, _⟩ | ⟨g, _⟩ | ⟨g, _⟩
          · have := Rat.mul_pos hM (show 0 < -d by grind); grind
          · rw [g] at em; grind
          · exact g
        have p1 := Rat.mul_nonneg (Rat.le_of_lt d0) (show 0 ≤ M - y by grind)
        grind
      · grind
      · grind
  · refine .inr (.inl ⟨rfl, fun ε he => ?_⟩)
    obtain ⟨N, h2⟩ := h (ε * A) (Rat.mul_pos he hA)
    refine ⟨N, fun k hk => ?_⟩
    have h3 := h2 k hk
    have h4 := hc k
    dsimp only at h3
    generalize A - B * ra C k = y at *
    constructor
    · rcases sg_cases (va A B C k + ε) with ⟨g, _⟩ | ⟨g, _⟩ | ⟨g, _⟩
      · have p0 := Rat.mul_pos (show 0 < -(va A B C k + ε) by grind) (show 0 < y by grind)
        have p1 := Rat.mul_nonneg (Rat.le_of_lt he) (show 0 ≤ y - A by grind)
        grind
      · grind
      · grind
    · rcases sg_cases (ε - va A B C k) with ⟨g, _⟩ | ⟨g, _⟩ | ⟨g, _⟩
      · have p0 := Rat.mul_pos (show 0 < va A B C k - ε by grind) (show 0 < y by grind)
        have p1 := Rat.mul_nonneg (Rat.le_of_lt he) (show 0 ≤ y - A by grind)
        grind
      · grind
      · grind
  · obtain ⟨ε, h1, N, h2⟩ := h
    have em : M * (ε / M) = ε := by grind
    have d0 : 0 < ε / M := by
      rcases sg_cases (ε / M) with ⟨g, _⟩ | ⟨g, _⟩ | ⟨g, _⟩
      · have := Rat.mul_pos hM (show 0 < -(ε / M) by grind); grind
      · rw [g] at em; grind
      · exact g
    refine .inr (.inr ⟨rfl, ε / M, d0, N, fun k hk => ?_⟩)
    have h3 := h2 k hk
    have h4 := hc k
    have h5 := hb k
    dsimp only at h3 h5
    generalize ε / M = d at *
    generalize A - B * ra C k = y at *
    rcases sg_cases (-va A B C k - d) with ⟨g, _⟩ | ⟨g, _⟩ | ⟨g, _⟩
    · have p0 := Rat.mul_pos (show 0 < d + va A B C k by grind) (show 0 < y by grind)
      have p1 := Rat.mul_nonneg (Rat.le_of_lt d0) (show 0 ≤ M - y by grind)
      grind
    · grind
    · grind
theorem va_neg (A B C : Rat) (k : Nat) : -va (-A) (-B) C k = va A B C k := by unfold va; grind
/-- The sign of a root's value. -/
theorem va_sgn {A B C : Rat} (hC : 0 ≤ C) : Sgn (va A B C) (exF A B C) := by
  rcases sg_cases B with ⟨hB, eB⟩ | ⟨hB, eB⟩ | ⟨hB, eB⟩
  · rcases sg_cases C with ⟨hC', eC⟩ | ⟨hC', eC⟩ | ⟨hC', eC⟩
    · grind
    · subst hC'
      unfold exF; rw [eB, eC, if_pos (by omega)]
      exact (Sgn.const A).congr fun k => by unfold va; rw [ra_zero]; grind
    · rcases sg_cases A with ⟨hA, eA⟩ | ⟨hA, eA⟩ | ⟨hA, eA⟩
      · unfold exF; rw [eA, eB, eC, if_pos (by omega)]
        exact .inr (.inr ⟨rfl, -A, by grind, 0, fun k _ => by
          have := Rat.mul_nonneg (show 0 ≤ -B by grind) (ra_nn C k); unfold va; grind⟩)
      · unfold exF; rw [eA, eB, eC, if_neg (by omega), if_pos rfl]
        obtain ⟨ε, h1, N, h2⟩ := ra_pos hC'
        exact .inr (.inr ⟨rfl, -B * ε, Rat.mul_pos (by grind) h1, N, fun k hk => by
          have := Rat.mul_nonneg (show 0 ≤ -B by grind) (show 0 ≤ ra C k - ε by have := h2 k hk; grind)
          subst hA; unfold va; grind⟩)
      · unfold exF; rw [eA, eB, eC, if_neg (by omega), if_neg (by omega), Int.one_mul]
        exact va_opp hA hB hC'
  · subst hB
    rw [exF_B0]
    exact (Sgn.const A).congr fun k => by unfold va; grind
  · rcases sg_cases C with ⟨hC', eC⟩ | ⟨hC', eC⟩ | ⟨hC', eC⟩
    · grind
    · subst hC'
      unfold exF; rw [eB, eC, if_pos (by omega)]
      exact (Sgn.const A).congr fun k => by unfold va; rw [ra_zero]; grind
    · rcases sg_cases A with ⟨hA, eA⟩ | ⟨hA, eA⟩ | ⟨hA, eA⟩
      · have h := (va_opp (A := -A) (B := -B) (by grind) (by grind) hC').neg
        unfold exF; rw [eA, eB, eC, if_neg (by omega), if_neg (by omega)]
        rw [show -A * -A - -B * -B * C = A * A - B * B * C by grind] at h
        rw [show (-1 : Int) * sg (A * A - B * B * C) = -sg (A * A - B * B * C) by omega]
        exact h.congr fun k => va_neg A B C k
      · unfold exF; rw [eA, eB, eC, if_neg (by omega), if_pos rfl]
        obtain ⟨ε, h1, N, h2⟩ := ra_pos hC'
        exact .inl ⟨rfl, B * ε, Rat.mul_pos hB h1, N, fun k hk => by
          have := Rat.mul_nonneg (Rat.le_of_lt hB) (show 0 ≤ ra C k - ε by have := h2 k hk; grind)
          subst hA; unfold va; grind⟩
      · unfold exF; rw [eA, eB, eC, if_pos (by omega)]
        exact .inl ⟨rfl, A, hA, 0, fun k _ => by
          have := Rat.mul_nonneg (Rat.le_of_lt hB) (ra_nn C k); unfold va; grind⟩
end Num

set_option autoImplicit false
set_option linter.unusedVariables false
/-
Quotients and perfect squares of fractions.
-/
namespace Num
theorem div_divInt (a b : Rat) : a / b = Rat.divInt (a.num * b.den) ((a.den : Int) * b.num) := by
  rw [Rat.div_def, Rat.inv_def]
  conv => lhs; arg 1; rw [← Rat.num_divInt_den a]
  rw [Rat.divInt_mul_divInt]
theorem rl_div (a b : Rat) (h : b ≠ 0) : rl (a / b) ≤ rl a + rl b := by
  rw [div_divInt]
  have h0 : b.num ≠ 0 := fun e => h (num_eq0.1 e)
  have h1 := rl_divInt (a.num * b.den) ((a.den : Int) * b.num) (Int.mul_ne_zero (by have := a.den_pos; omega) h0)
  have h2 := ll_mul a.num b.den
  have h3 := ll_mul (a.den : Int) b.num
  have := rl_num a
  have := rl_den a
  have := rl_num b
  have := rl_den b
  omega
theorem rb_div {a b : Rat} {m n : Nat} (h : rl a ≤ m) (k : rl b ≤ n) : rl (a / b) ≤ m + n := by
  by_cases hb : b = 0
  · subst hb
    have e : a / 0 = 0 := by rw [Rat.div_def, Rat.inv_zero, Rat.mul_zero]
    have := rl_int 0
    rw [ll_zero, z0] at this
    have h1 := rl_pos a
    rw [e]; omega
  · have := rl_div a b hb; omega
/-- It is a square. -/
def Isq (q : Rat) : Prop := ∃ s : Rat, s * s = q
def IsqI (n : Int) : Prop := ∃ s : Int, s * s = n
theorem isq_iff (q : Rat) : Isq q ↔ IsqI q.num ∧ IsqI (q.den : Int) := by
  constructor
  · rintro ⟨s, rfl⟩
    have h1 := Rat.num_pow s 2
    have h2 := Rat.den_pow s 2
    rw [show s ^ 2 = s * s by grind] at h1 h2
    exact ⟨⟨s.num, by rw [h1]; grind⟩, ⟨(s.den : Int), by rw [h2]; simp; grind⟩⟩
  · rintro ⟨⟨a, ha⟩, ⟨b, hb⟩⟩
    refine ⟨Rat.divInt a b, ?_⟩
    rw [Rat.divInt_mul_divInt, ha, hb, Rat.num_divInt_den]
theorem isq_zero : Isq 0 := ⟨0, by grind⟩
theorem Isq.nn {q : Rat} (h : Isq q) : 0 ≤ q := by
  obtain ⟨s, rfl⟩ := h
  rcases sg_cases s with ⟨g, _⟩ | ⟨g, _⟩ | ⟨g, _⟩
  · have := Rat.mul_pos (show 0 < -s by grind) (show 0 < -s by grind); grind
  · rw [g]; grind
  · exact Rat.le_of_lt (Rat.mul_pos g g)
open Classical in
/-- The root of a square. -/
noncomputable def sqv (q : Rat) : Rat := if h : Isq q then (if h.choose < 0 then -h.choose else h.choose) else 0
theorem sqv_spec {q : Rat} (h : Isq q) : 0 ≤ sqv q ∧ sqv q * sqv q = q := by
  unfold sqv
  rw [dif_pos h]
  have := h.choose_spec
  split
  · constructor <;> grind
  · constructor <;> grind
theorem sqv_uniq {q s : Rat} (h0 : 0 ≤ s) (h : s * s = q) : sqv q = s := by
  obtain ⟨k0, k1⟩ := sqv_spec (q := q) ⟨s, h⟩
  have h1 := sq_le h0 (show sqv q * sqv q ≤ s * s by grind)
  have h2 := sq_le k0 (show s * s ≤ sqv q * sqv q by grind)
  grind
theorem sqv_zero : sqv 0 = 0 := sqv_uniq (by grind) (by grind)
/-- Numerator and denominator of a square's root. -/
theorem sqv_num {q : Rat} {a b : Int} (h0 : 0 ≤ a) (h1 : 0 < b) (ha : a * a = q.num) (hb : b * b = (q.den : Int)) : (sqv q).num = a ∧ ((sqv q).den : Int) = b := by
  have hg : Int.gcd a b = 1 := by
    have hr := q.reduced
    unfold Nat.Coprime at hr
    have h2 : Int.gcd a b ∣ Nat.gcd q.num.natAbs q.den := by
      refine Nat.dvd_gcd ?_ ?_
      · rw [← ha, Int.natAbs_mul]; exact Nat.dvd_trans (Int.gcd_dvd_natAbs_left a b) (Nat.dvd_mul_right _ _)
      · have : q.den = b.natAbs * b.natAbs := by
          have := congrArg Int.natAbs hb
          rw [Int.natAbs_mul, Int.natAbs_natCast] at this
          exact this.symm
        rw [this]; exact Nat.dvd_trans (Int.gcd_dvd_natAbs_right a b) (Nat.dvd_mul_right _ _)
    rw [hr] at h2
    exact Nat.dvd_one.1 h2
  obtain ⟨s, hs1, hs2⟩ : ∃ s : Rat, s.num = a ∧ (s.den : Int) = b := ⟨⟨a, b.natAbs, by omega, hg⟩, rfl, by show ((b.natAbs : Nat) : Int) = b; omega⟩
  have hs : s * s = q := by
    have n1 := Rat.num_pow s 2
    have n2 := Rat.den_pow s 2
    rw [show s ^ 2 = s * s by grind] at n1 n2
    refine Rat.ext ?_ ?_
    · rw [n1, hs1, ← ha]; grind
    · have : ((s * s).den : Int) = (q.den : Int) := by rw [n2, ← hb, ← hs2]; simp; grind
      omega
  have h0' : 0 ≤ s := Rat.num_nonneg.1 (by rw [hs1]; exact h0)
  rw [sqv_uniq h0' hs]
  exact ⟨hs1, hs2⟩
end Num

set_option autoImplicit false
set_option linter.unusedVariables false
/-
Roots in reduced form, and their signs.
-/
namespace Num
/-- Reduced form. -/
def Red (B C : Rat) : Prop := (B = 0 ∧ C = 0) ∨ (B ≠ 0 ∧ 0 < C ∧ ¬ Isq C)
theorem Red.nn {B C : Rat} (h : Red B C) : 0 ≤ C := by
  rcases h with ⟨_, h⟩ | ⟨_, h, _⟩ <;> grind
/-- The sign of a root in reduced form. -/
def sgR (A B C : Rat) : Int := if sg A = sg B ∨ sg B = 0 then sg A else if sg A = 0 then sg B else if 0 < sg (A * A - B * B * C) then sg A else sg B
theorem norm_ne {A B C : Rat} (h : ¬ Isq C) (hB : B ≠ 0) : A * A - B * B * C ≠ 0 := fun e => h ⟨A / B, by grind⟩
theorem sgR_eq {A B C : Rat} (h : Red B C) : sgR A B C = exF A B C := by
  unfold sgR
  rcases h with ⟨h1, h2⟩ | ⟨h1, h2, h3⟩
  · subst h1
    rw [exF_B0, if_pos (.inr rfl)]
  · unfold exF
    rw [sg_pos h2, Int.mul_one]
    by_cases k1 : sg A = sg B ∨ sg B = 0
    · rw [if_pos k1, if_pos k1]
    · rw [if_neg k1, if_neg k1]
      by_cases k2 : sg A = 0
      · rw [if_pos k2, if_pos k2]
      · rw [if_neg k2, if_neg k2]
        have hn := norm_ne (A := A) h3 h1
        rcases sg_cases (A * A - B * B * C) with ⟨g, e⟩ | ⟨g, e⟩ | ⟨g, e⟩
        · rw [e, if_neg (by omega)]
          rcases sg_cases A with ⟨_, a⟩ | ⟨_, a⟩ | ⟨_, a⟩ <;> rcases sg_cases B with ⟨_, b⟩ | ⟨_, b⟩ | ⟨_, b⟩ <;> omega
        · exact absurd g hn
        · rw [e, if_pos (by omega), Int.mul_one]
open Classical in
/-- The parts of a + b sqrt(c) in reduced form. -/
noncomputable def mA (A B C : Rat) : Rat := if Isq C then A + B * sqv C else A
open Classical in
noncomputable def mB (B C : Rat) : Rat := if Isq C then 0 else B
open Classical in
noncomputable def mC (B C : Rat) : Rat := if Isq C ∨ B = 0 then 0 else C
theorem mk_sq {A B C : Rat} (h : Isq C) : mA A B C = A + B * sqv C ∧ mB B C = 0 ∧ mC B C = 0 := by
  unfold mA mB mC
  rw [if_pos h, if_pos h, if_pos (.inl h)]
  exact ⟨rfl, rfl, rfl⟩
theorem mk_zero {A B C : Rat} (h : ¬ Isq C) (hB : B = 0) : mA A B C = A ∧ mB B C = 0 ∧ mC B C = 0 := by
  unfold mA mB mC
  rw [if_neg h, if_neg h, if_pos (.inr hB)]
  exact ⟨rfl, hB, rfl⟩
theorem mk_no {A B C : Rat} (h : ¬ Isq C) (hB : B ≠ 0) : mA A B C = A ∧ mB B C = B ∧ mC B C = C := by
  unfold mA mB mC
  rw [if_neg h, if_neg h, if_neg (by intro e; rcases e with e | e; exact h e; exact hB e)]
  exact ⟨rfl, rfl, rfl⟩
theorem mk_red {B C : Rat} (h0 : 0 ≤ C) : Red (mB B C) (mC B C) := by
  by_cases h : Isq C
  · obtain ⟨_, h2, h3⟩ := mk_sq (A := 0) (B := B) h
    rw [h2, h3]; exact .inl ⟨rfl, rfl⟩
  · by_cases hB : B = 0
    · obtain ⟨_, h2, h3⟩ := mk_zero (A := 0) h hB
      rw [h2, h3]; exact .inl ⟨rfl, rfl⟩
    · obtain ⟨_, h2, h3⟩ := mk_no (A := 0) h hB
      rw [h2, h3]
      refine .inr ⟨hB, ?_, h⟩
      have : C ≠ 0 := fun e => h (by rw [e]; exact isq_zero)
      grind
theorem ep_nul : Nul ep := fun ε he => by
  obtain ⟨N, hN⟩ := ep_small he
  exact ⟨N, fun k hk => by have := hN k hk; have := ep_pos k; grind⟩
/-- The approximations of a square's root tend to it. -/
theorem sqv_near {C : Rat} (h : Isq C) : Nul fun k => sqv C - ra C k := fun ε he => by
  obtain ⟨N, hN⟩ := ep_small he
  obtain ⟨s0, s1⟩ := sqv_spec h
  refine ⟨N, fun k hk => ?_⟩
  have h1 := ra_spec h.nn k
  have h2 := ra_nn C k
  have h3 := hN k hk
  have h4 := ep_pos k
  have a := sq_le s0 (show ra C k * ra C k ≤ sqv C * sqv C by grind)
  have b := sq_lt' (x := sqv C) (show 0 ≤ ra C k + ep k by grind) (by grind)
  constructor <;> grind
theorem mk_va {A B C : Rat} (h0 : 0 ≤ C) : Nul fun k => va (mA A B C) (mB B C) (mC B C) k - va A B C k := by
  by_cases h : Isq C
  · obtain ⟨h1, h2, h3⟩ := mk_sq (A := A) (B := B) h
    rw [h1, h2, h3]
    exact ((sqv_near h).scale B).congr fun k => by unfold va; rw [ra_zero]; grind
  · by_cases hB : B = 0
    · obtain ⟨h1, h2, h3⟩ := mk_zero (A := A) h hB
      rw [h1, h2, h3]
      exact Nul.zero.congr fun k => by unfold va; rw [ra_zero, hB]; grind
    · obtain ⟨h1, h2, h3⟩ := mk_no (A := A) h hB
      rw [h1, h2, h3]
      exact Nul.zero.congr fun k => by grind
/-- Reducing a root does not change its sign. -/
theorem mk_exF {A B C : Rat} (h0 : 0 ≤ C) : exF (mA A B C) (mB B C) (mC B C) = exF A B C := by
  have h1 := va_sgn (A := mA A B C) (B := mB B C) (C := mC B C) (mk_red h0).nn
  have h2 := (va_sgn (A := A) (B := B) h0).near (mk_va h0)
  exact h1.uniq h2
theorem Nul.self (x : Nat → Rat) : Nul fun k => x k - x k := Nul.zero.congr fun k => by grind
/-- The sign of an interval. -/
def sgI (i : Int × Int) : Int := if 0 < i.1 then 1 else if i.2 < 0 then -1 else 0
theorem known_sgn {x : Nat → Rat} {i : Int × Int} (h : ∀ k, (i.1 : Rat) ≤ x k * 65536 ∧ x k * 65536 ≤ (i.2 : Rat)) (hk : 0 < i.1 ∨ i.2 < 0 ∨ i.1 = 0 ∧ i.2 = 0) : Sgn x (sgI i) := by
  unfold sgI
  by_cases k1 : 0 < i.1
  · rw [if_pos k1]
    have := Rat.intCast_le_intCast.2 (show 1 ≤ i.1 by omega)
    rw [z1] at this
    exact .inl ⟨rfl, 1 / 65536, by grind, 0, fun k _ => by have := h k; grind⟩
  · rw [if_neg k1]
    by_cases k2 : i.2 < 0
    · rw [if_pos k2]
      have := Rat.intCast_le_intCast.2 (show i.2 + 1 ≤ 0 by omega)
      rw [z0, Rat.intCast_add, z1] at this
      exact .inr (.inr ⟨rfl, 1 / 65536, by grind, 0, fun k _ => by have := h k; grind⟩)
    · rw [if_neg k2]
      have h3 : i.1 = 0 ∧ i.2 = 0 := by omega
      refine .inr (.inl ⟨rfl, Nul.zero.congr fun k => ?_⟩)
      have := h k
      rw [h3.1, h3.2, z0] at this
      grind
end Num
