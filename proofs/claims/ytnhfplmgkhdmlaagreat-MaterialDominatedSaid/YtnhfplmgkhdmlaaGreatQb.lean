/- What is proved: cuts that are left, cuts that are divided. No conditions beyond those in the statements. -/
import Derived.Test.YtnhfplmgkhdmlaaGreatQa
set_option autoImplicit false
set_option linter.unusedVariables false
/-
Cuts that are not dominated.
-/
namespace Num
theorem filter_lt {α : Type} {p q : α → Bool} : ∀ {l : List α}, (∀ a, a ∈ l → p a = true → q a = true) → (∃ a, a ∈ l ∧ q a = true ∧ p a = false) → (l.filter p).length < (l.filter q).length
  | [], _, h => by obtain ⟨a, h, _⟩ := h; simp at h
  | x :: l, hpq, h => by
    have le : ∀ l : List α, (∀ a, a ∈ l → p a = true → q a = true) → (l.filter p).length ≤ (l.filter q).length := by
      intro l
      induction l with
      | nil => intro _; simp
      | cons y l ih =>
        intro h
        have := ih (fun a ha => h a (by simp [ha]))
        rw [List.filter_cons, List.filter_cons]
        by_cases hp : p y = true
        · rw [if_pos hp, if_pos (h y (by simp) hp)]; simp; exact this
        · rw [if_neg hp]
          split
          · simp; omega
          · exact this
    obtain ⟨a, ha, h1, h2⟩ := h
    rw [List.filter_cons, List.filter_cons]
    have hl := fun a h => hpq a (List.mem_cons_of_mem x h)
    rcases List.mem_cons.1 ha with rfl | ha
    · rw [if_neg (by simp [h2]), if_pos h1]
      have := le l hl
      simp; omega
    · have := filter_lt (l := l) hl ⟨a, ha, h1, h2⟩
      by_cases hp : p x = true
      · rw [if_pos hp, if_pos (hpq x (by simp) hp)]; simp; exact this
      · rw [if_neg hp]
        split
        · simp; omega
        · exact this
def Cut.zero : Cut := ⟨0, 0, 0, 0, 0, 0, 0⟩
/-- The k-th cut strikes the i-th one out. -/
def out (l : List Cut) (k i : Nat) : Prop := k ≠ i ∧ (l.getD i Cut.zero).dom (l.getD k Cut.zero) ∧ (k < i ∨ ¬ (l.getD k Cut.zero).dom (l.getD i Cut.zero))
theorem out_trans {l : List Cut} {m k i : Nat} (h1 : out l m k) (h2 : out l k i) : out l m i := by
  obtain ⟨a1, a2, a3⟩ := h1
  obtain ⟨b1, b2, b3⟩ := h2
  have d := dom_trans b2 a2
  have c : (l.getD m Cut.zero).dom (l.getD i Cut.zero) → m < i := fun h => by
    have c1 := dom_trans h b2
    have c2 := dom_trans a2 h
    have : m < k := by rcases a3 with a | a; exact a; exact absurd c1 a
    have : k < i := by rcases b3 with a | a; exact a; exact absurd c2 a
    omega
  refine ⟨fun e => ?_, d, ?_⟩
  · subst e
    exact absurd (c d) (by omega)
  · by_cases h : (l.getD m Cut.zero).dom (l.getD i Cut.zero)
    · exact .inl (c h)
    · exact .inr h
theorem out_irr {l : List Cut} {k : Nat} : ¬ out l k k := fun h => h.1 rfl
/-- It is kept. -/
def kept (l : List Cut) (i : Nat) : Prop := ∀ k, k < l.length → ¬ out l k i
open Classical in
noncomputable def cnt (l : List Cut) (i : Nat) : Nat := ((List.range l.length).filter fun k => decide (out l k i)).length
theorem kept_below (l : List Cut) : ∀ (n i : Nat), cnt l i < n → i < l.length → ∃ j, j < l.length ∧ kept l j ∧ (j = i ∨ out l j i)
  | 0, i, h, _ => by omega
  | n + 1, i, h, hi => by
    classical
    by_cases hk : kept l i
    · exact ⟨i, hi, hk, .inl rfl⟩
    · have : ∃ k, k < l.length ∧ out l k i := by
        apply Classical.byContradiction
        intro hn
        exact hk fun k hk ho => hn ⟨k, hk, ho⟩
      obtain ⟨k, hkl, ho⟩ := this
      have lt : cnt l k < cnt l i := by
        unfold cnt
        refine filter_lt (fun m hm hp => ?_) ⟨k, List.mem_range.2 hkl, by simpa using ho, by simpa using out_irr⟩
        simp only [decide_eq_true_eq] at hp ⊢
        exact out_trans hp ho
      obtain ⟨j, j1, j2, j3⟩ := kept_below l n k (by omega) hkl
      refine ⟨j, j1, j2, .inr ?_⟩
      rcases j3 with rfl | j3
      · exact ho
      · exact out_trans j3 ho
open Classical in
/-- The cuts that are kept. -/
noncomputable def redF (l : List Cut) : List Cut := ((List.range l.length).filter fun i => decide (kept l i)).map fun i => l.getD i Cut.zero
theorem mem_redF {l : List Cut} {c : Cut} : c ∈ redF l ↔ ∃ i, i < l.length ∧ kept l i ∧ l.getD i Cut.zero = c := by
  classical
  unfold redF
  simp only [List.mem_map, List.mem_filter, List.mem_range, decide_eq_true_eq]
  constructor
  · rintro ⟨i, ⟨h1, h2⟩, h3⟩; exact ⟨i, h1, h2, h3⟩
  · rintro ⟨i, h1, h2, h3⟩; exact ⟨i, ⟨h1, h2⟩, h3⟩
theorem mem_idx {l : List Cut} {c : Cut} (h : c ∈ l) : ∃ i, i < l.length ∧ l.getD i Cut.zero = c := by
  obtain ⟨i, hi, e⟩ := List.getElem_of_mem h
  exact ⟨i, hi, by rw [List.getD_eq_getElem?_getD, List.getElem?_eq_getElem hi]; exact e⟩
theorem redF_height {x y : Rat} {o : Rt} (ho : o.Ok) (l : List Cut) : (heF x y o (redF l)).cm (heF x y o l) = 0 := by
  have a := heF_cmp (x := x) (y := y) ho (l := l) (m := redF l) (fun c hc hv => by
    obtain ⟨i, hi, rfl⟩ := mem_idx hc
    obtain ⟨j, j1, j2, j3⟩ := kept_below l (cnt l i + 1) i (by omega) hi
    rcases j3 with rfl | j3
    · exact ⟨_, mem_redF.2 ⟨j, j1, j2, rfl⟩, hv, by rw [Rt.cm_self (Cut.sw_ok hv)]; omega⟩
    · obtain ⟨d1, d2⟩ := dom_sw j3.2.1 hv
      exact ⟨_, mem_redF.2 ⟨j, j1, j2, rfl⟩, d1, d2⟩)
  have b := heF_cmp (x := x) (y := y) ho (l := redF l) (m := l) (fun c hc hv => by
    obtain ⟨i, i1, i2, rfl⟩ := mem_redF.1 hc
    refine ⟨_, ?_, hv, by rw [Rt.cm_self (Cut.sw_ok hv)]; omega⟩
    rw [List.getD_eq_getElem?_getD, List.getElem?_eq_getElem i1]
    exact List.getElem_mem i1)
  have := Rt.cm_anti (heF_ok (x := x) (y := y) (l := redF l) ho) (heF_ok (x := x) (y := y) (l := l) ho)
  omega
end Num

set_option autoImplicit false
set_option linter.unusedVariables false
/-
Dividing a cut.
-/
namespace Num
theorem Nul.of_sq {x : Nat → Rat} (h : Nul fun k => x k * x k) : Nul x := fun ε he => by
  obtain ⟨N, hN⟩ := h (ε * ε) (Rat.mul_pos he he)
  refine ⟨N, fun k hk => ?_⟩
  have h1 := (hN k hk).2
  have a := sq_le (Rat.le_of_lt he) (show x k * x k ≤ ε * ε from h1)
  have b := sq_le (Rat.le_of_lt he) (show -x k * -x k ≤ ε * ε by grind)
  constructor <;> grind
theorem Nul.squeeze {x y : Nat → Rat} (h : Nul y) (hx : ∀ k, 0 ≤ x k ∧ x k * x k ≤ y k * y k) : Nul x := fun ε he => by
  obtain ⟨N, hN⟩ := h ε he
  refine ⟨N, fun k hk => ?_⟩
  have h1 := hN k hk
  have h2 := hx k
  have : x k ≤ ε := by
    refine sq_le (Rat.le_of_lt he) ?_
    have a := Rat.mul_nonneg (show 0 ≤ ε - y k by grind) (show 0 ≤ ε + y k by grind)
    grind
  constructor <;> grind
theorem Nul.dom {x y : Nat → Rat} (h : Nul y) (hx : ∀ k, -(y k) ≤ x k ∧ x k ≤ y k) : Nul x := fun ε he => by
  obtain ⟨N, hN⟩ := h ε he
  exact ⟨N, fun k hk => by have := hN k hk; have := hx k; constructor <;> grind⟩
theorem Nul.abs {x : Nat → Rat} (h : Nul x) : Nul fun k => if 0 ≤ x k then x k else -x k := fun ε he => by
  obtain ⟨N, hN⟩ := h ε he
  refine ⟨N, fun k hk => ?_⟩
  have := hN k hk
  dsimp only
  split <;> constructor <;> grind
/-- The root of a multiple. -/
theorem ra_scale {l I : Rat} (hl : 0 ≤ l) (hI : 0 ≤ I) : Nul fun k => ra (l * l * I) k - l * ra I k := by
  have hJ : 0 ≤ l * l * I := Rat.mul_nonneg (Rat.mul_nonneg hl hl) hI
  have e1 := ra_err hJ
  have e2 := (ra_err hI).scale (l * l)
  have e3 := (e2.add e1.neg).abs
  refine Nul.of_sq (e3.dom fun k => ?_)
  have a := ra_nn (l * l * I) k
  have b := Rat.mul_nonneg hl (ra_nn I k)
  have c := sqr (ra (l * l * I) k - l * ra I k)
  generalize ra (l * l * I) k = x at *
  generalize ra I k = z at *
  generalize hy : l * z = y at *
  have e : l * l * (I - z * z) + -(l * l * I - x * x) = x * x - y * y := by rw [← hy]; grind
  rw [e]
  have d : (x - y) * (x - y) ≤ if 0 ≤ x * x - y * y then x * x - y * y else -(x * x - y * y) := by
    split
    · rename_i h
      have : y ≤ x := sq_le a (by grind)
      have := Rat.mul_nonneg b (show 0 ≤ x - y by grind)
      grind
    · rename_i h
      have : x ≤ y := sq_le b (by grind)
      have := Rat.mul_nonneg a (show 0 ≤ y - x by grind)
      grind
  constructor <;> grind
theorem Sgn.le_nul {x y : Nat → Rat} {s : Int} (h : Sgn x s) (hy : Nul y) (hx : ∀ k, x k ≤ y k) : s ≤ 0 := by
  rcases h with ⟨e, ε, h1, N, h2⟩ | ⟨e, h⟩ | ⟨e, h⟩
  · exfalso
    obtain ⟨N', h3⟩ := hy (ε / 2) (by grind)
    have := h2 (max N N') (by omega)
    have := h3 (max N N') (by omega)
    have := hx (max N N')
    grind
  · omega
  · omega
/-- A part of a cut's way. -/
structure Sub (c p : Cut) (α β : Rat) : Prop where
  h0 : 0 ≤ α
  h1 : α ≤ β
  h2 : β ≤ 1
  fx : (p.fx : Rat) = (c.fx : Rat) + α * ((c.tx : Rat) - (c.fx : Rat))
  fy : (p.fy : Rat) = (c.fy : Rat) + α * ((c.ty : Rat) - (c.fy : Rat))
  fz : (p.fz : Rat) = (c.fz : Rat) + α * ((c.tz : Rat) - (c.fz : Rat))
  tx : (p.tx : Rat) = (c.fx : Rat) + β * ((c.tx : Rat) - (c.fx : Rat))
  ty : (p.ty : Rat) = (c.fy : Rat) + β * ((c.ty : Rat) - (c.fy : Rat))
  tz : (p.tz : Rat) = (c.fz : Rat) + β * ((c.tz : Rat) - (c.fz : Rat))
  r : p.r = c.r
theorem Sub.ds {c p : Cut} {α β : Rat} (h : Sub c p α β) (x y : Rat) : dsF (c.fx : Rat) (c.fy : Rat) (c.tx : Rat) (c.ty : Rat) x y ≤ dsF (p.fx : Rat) (p.fy : Rat) (p.tx : Rat) (p.ty : Rat) x y := by
  obtain ⟨u, u0, u1, eu⟩ := ds_at (p.fx : Rat) (p.fy : Rat) (p.tx : Rat) (p.ty : Rat) x y
  rw [eu, h.fx, h.fy, h.tx, h.ty]
  have a := Rat.mul_nonneg u0 (show 0 ≤ β - α by have := h.h1; grind)
  have b := Rat.mul_nonneg (show 0 ≤ 1 - u by grind) (show 0 ≤ β - α by have := h.h1; grind)
  have le := ds_le (c.fx : Rat) (c.fy : Rat) (c.tx : Rat) (c.ty : Rat) x y (u := α + u * (β - α)) (by have := h.h0; grind) (by have := h.h2; grind)
  generalize (c.fx : Rat) = fx at *
  generalize (c.fy : Rat) = fy at *
  generalize (c.tx : Rat) = tx at *
  generalize (c.ty : Rat) = ty at *
  rw [show fx + α * (tx - fx) + u * (fx + β * (tx - fx) - (fx + α * (tx - fx))) = fx + (α + u * (β - α)) * (tx - fx) by grind, show fy + α * (ty - fy) + u * (fy + β * (ty - fy) - (fy + α * (ty - fy))) = fy + (α + u * (β - α)) * (ty - fy) by grind]
  exact le
theorem Sub.ov {c p : Cut} {α β : Rat} (h : Sub c p α β) {x y : Rat} (ho : p.ov x y p.r) : c.ov x y c.r := by
  obtain ⟨a, b⟩ := ho
  rw [h.r] at a b
  exact ⟨a, Rat.le_trans (h.ds x y) b⟩
/-- A point of the whole way that lies in the part. -/
theorem Sub.at {c p : Cut} {α β : Rat} (h : Sub c p α β) (x y : Rat) {u : Rat} (u0 : α ≤ u) (u1 : u ≤ β) :
    dsF (p.fx : Rat) (p.fy : Rat) (p.tx : Rat) (p.ty : Rat) x y ≤ (x - ((c.fx : Rat) + u * ((c.tx : Rat) - (c.fx : Rat)))) * (x - ((c.fx : Rat) + u * ((c.tx : Rat) - (c.fx : Rat)))) + (y - ((c.fy : Rat) + u * ((c.ty : Rat) - (c.fy : Rat)))) * (y - ((c.fy : Rat) + u * ((c.ty : Rat) - (c.fy : Rat)))) := by
  obtain ⟨w, w0, w1, ew⟩ : ∃ w : Rat, 0 ≤ w ∧ w ≤ 1 ∧ u = α + w * (β - α) := by
    by_cases k : α = β
    · exact ⟨0, by grind, by grind, by grind⟩
    · have hp : 0 < β - α := by have := h.h1; grind
      have e := div_mul (a := u - α) hp
      refine ⟨(u - α) / (β - α), ?_, ?_, by grind⟩
      · rcases sg_cases ((u - α) / (β - α)) with ⟨g, _⟩ | ⟨g, _⟩ | ⟨g, _⟩
        · have := Rat.mul_pos hp (show 0 < -((u - α) / (β - α)) by grind); grind
        · grind
        · grind
      · rcases sg_cases (1 - (u - α) / (β - α)) with ⟨g, _⟩ | ⟨g, _⟩ | ⟨g, _⟩
        · have := Rat.mul_pos hp (show 0 < -(1 - (u - α) / (β - α)) by grind); grind
        · grind
        · grind
  have le := ds_le (p.fx : Rat) (p.fy : Rat) (p.tx : Rat) (p.ty : Rat) x y w0 w1
  rw [h.fx, h.fy, h.tx, h.ty] at le ⊢
  generalize (c.fx : Rat) = fx at *
  generalize (c.fy : Rat) = fy at *
  generalize (c.tx : Rat) = tx at *
  generalize (c.ty : Rat) = ty at *
  rw [show fx + α * (tx - fx) + w * (fx + β * (tx - fx) - (fx + α * (tx - fx))) = fx + u * (tx - fx) by rw [ew]; grind, show fy + α * (ty - fy) + w * (fy + β * (ty - fy) - (fy + α * (ty - fy))) = fy + u * (ty - fy) by rw [ew]; grind] at le
  exact le
theorem Sub.dd {c p : Cut} {α β : Rat} (h : Sub c p α β) : p.dd = (β - α) * (β - α) * c.dd := by
  unfold Cut.dd
  rw [h.fx, h.fy, h.tx, h.ty]
  grind
theorem Sub.pd {c p : Cut} {α β : Rat} (h : Sub c p α β) (x y : Rat) : p.pd x y = (β - α) * (c.pd x y + α * c.dd) := by
  unfold Cut.pd Cut.dd
  rw [h.fx, h.fy, h.tx, h.ty]
  grind
theorem Sub.inn {c p : Cut} {α β : Rat} (h : Sub c p α β) (x y : Rat) : p.inn x y = (β - α) * (β - α) * c.inn x y := by
  unfold Cut.inn
  rw [h.pd, h.dd, h.r, h.fx, h.fy]
  unfold Cut.pd Cut.dd
  generalize (c.fx : Rat) = fx at *
  generalize (c.fy : Rat) = fy at *
  generalize (c.tx : Rat) = tx at *
  generalize (c.ty : Rat) = ty at *
  generalize (c.r : Rat) = r at *
  have e1 : tx = fx + (tx - fx) := by grind
  have e2 : ty = fy + (ty - fy) := by grind
  generalize tx - fx = dx at *
  generalize ty - fy = dy at *
  have e3 : fx + α * dx - x = (fx - x) + α * dx := by grind
  have e4 : fy + α * dy - y = (fy - y) + α * dy := by grind
  rw [e3, e4]
  generalize fy - y = Y at *
  generalize fx - x = X at *
  generalize β - α = l at *
  grind
/-- The formula's value is the same for a part. -/
theorem Sub.va {c p : Cut} {α β : Rat} (h : Sub c p α β) {x y : Rat} (hl : α < β) (hd : 0 < c.dd) (hi : 0 ≤ c.inn x y) :
    Nul fun k => va ((p.fz : Rat) - p.sl * p.pd x y) p.sl (p.inn x y) k - va ((c.fz : Rat) - c.sl * c.pd x y) c.sl (c.inn x y) k := by
  have lp : 0 < β - α := by grind
  have e := sl_dd hd
  have hpd : 0 < p.dd := by rw [h.dd]; exact Rat.mul_pos (Rat.mul_pos lp lp) hd
  have e' := sl_dd hpd
  -- the slope of the part
  have hs : (β - α) * p.sl = c.sl := by
    rw [h.dd, h.fz, h.tz] at e'
    have k : ((β - α) * c.dd) * ((β - α) * p.sl - c.sl) = 0 := by
      have : ((β - α) * c.dd) * ((β - α) * p.sl - c.sl) = (β - α) * (β - α) * c.dd * p.sl - (β - α) * (c.dd * c.sl) := by grind
      rw [this, e', e]; grind
    rcases Rat.mul_eq_zero.1 k with k | k
    · have := Rat.mul_pos lp hd; grind
    · grind
  have sc := (ra_scale (Rat.le_of_lt lp) hi).scale p.sl
  refine sc.congr fun k => ?_
  rw [h.inn, h.pd, h.fz]
  unfold Num.va
  generalize hl' : β - α = l at *
  generalize ra (l * l * c.inn x y) k = X
  generalize ra (c.inn x y) k = Y
  generalize c.pd x y = pd at *
  have e2 : (c.tz : Rat) - (c.fz : Rat) = c.dd * c.sl := e.symm
  rw [e2, ← hs]
  grind
theorem Sub.sd {c p : Cut} {α β : Rat} (h : Sub c p α β) {x y : Rat} (hl : α < β) (ho : p.ov x y p.r) (hc : ¬ c.fl x y) (hp : ¬ p.fl x y) : (p.sd x y).cm (c.sd x y) = 0 := by
  have hco := h.ov ho
  obtain ⟨_, h2, h3, _⟩ := steep hco hc
  refine Rt.cm_eq (Cut.sd_ok ho) (Cut.sd_ok hco) (.inr (.inl ⟨rfl, ?_⟩))
  have a := sd_va ho hp
  have b := sd_va hco hc
  have d := h.va hl h2 h3 (x := x) (y := y)
  exact ((a.add d).add b.neg).congr fun k => by grind
theorem cz {a b : Int} (h : (a : Rat) ≤ (b : Rat)) : a ≤ b := Rat.intCast_le_intCast.1 h
theorem Sub.le_z {c p : Cut} {α β : Rat} (h : Sub c p α β) (hz : c.tz ≤ c.fz) : p.tz ≤ p.fz ∧ c.tz ≤ p.tz := by
  have z := Rat.intCast_le_intCast.2 hz
  constructor
  · refine cz ?_
    rw [h.fz, h.tz]
    have := Rat.mul_nonneg (show 0 ≤ β - α by have := h.h1; grind) (show 0 ≤ (c.fz : Rat) - (c.tz : Rat) by grind)
    grind
  · refine cz ?_
    rw [h.tz]
    have := Rat.mul_nonneg (show 0 ≤ 1 - β by have := h.h2; grind) (show 0 ≤ (c.fz : Rat) - (c.tz : Rat) by grind)
    grind
/-- Where a part's end is within reach, the whole leads lower. -/
theorem Sub.end_le {c p : Cut} {α β : Rat} (h : Sub c p α β) {x y : Rat} (hz : c.tz ≤ c.fz) (ho : c.ov x y c.r) (hc : ¬ c.fl x y)
    (he : ((p.tx : Rat) - x) * ((p.tx : Rat) - x) + ((p.ty : Rat) - y) * ((p.ty : Rat) - y) ≤ (p.r : Rat) * (p.r : Rat)) : (c.sd x y).cm ⟨(p.tz : Rat), 0, 0⟩ ≤ 0 := by
  obtain ⟨h1, h2, h3, h4, h5⟩ := steep ho hc
  have e := sl_dd h2
  have hs : c.sl ≤ 0 := by
    have := Rat.intCast_le_intCast.2 hz
    rcases sg_cases c.sl with ⟨g, _⟩ | ⟨g, _⟩ | ⟨g, _⟩
    · grind
    · grind
    · have := Rat.mul_pos h2 g; grind
  have s := (Rt.sgn (Cut.sd_ok ho) (rt_int (n := (p.tz : Rat)))).near (y := fun k => Num.va ((c.fz : Rat) - c.sl * c.pd x y) c.sl (c.inn x y) k - (p.tz : Rat)) ((sd_va ho hc).neg.congr fun k => by rw [rt_int_va]; grind)
  refine s.le_nul (ep_nul.scale (-c.sl)) fun k => ?_
  -- the end's parameter is not beyond the greater root
  have q : (c.pd x y + β * c.dd) * (c.pd x y + β * c.dd) ≤ c.inn x y := by
    rw [h.tx, h.ty, h.r] at he
    have := Rat.mul_nonneg (Rat.le_of_lt h2) (show 0 ≤ (c.r : Rat) * (c.r : Rat) - (((c.fx : Rat) + β * ((c.tx : Rat) - (c.fx : Rat)) - x) * ((c.fx : Rat) + β * ((c.tx : Rat) - (c.fx : Rat)) - x) + ((c.fy : Rat) + β * ((c.ty : Rat) - (c.fy : Rat)) - y) * ((c.fy : Rat) + β * ((c.ty : Rat) - (c.fy : Rat)) - y)) by grind)
    clear h5 h4 h3 s e he
    unfold Cut.inn Cut.pd Cut.dd at *
    generalize (c.r : Rat) = r at *
    generalize (c.fx : Rat) = fx at *
    generalize (c.fy : Rat) = fy at *
    generalize (c.tx : Rat) = tx at *
    generalize (c.ty : Rat) = ty at *
    rw [show fx + β * (tx - fx) - x = (fx - x) + β * (tx - fx) by grind, show fy + β * (ty - fy) - y = (fy - y) + β * (ty - fy) by grind] at this
    clear h h1 h2 hc ho hs
    generalize tx - fx = dx at *
    generalize ty - fy = dy at *
    generalize fx - x = X at *
    generalize fy - y = Y at *
    grind
  have a := ra_spec h3 k
  have b := ra_nn (c.inn x y) k
  have d : c.pd x y + β * c.dd ≤ ra (c.inn x y) k + ep k := sq_le (by have := ep_pos k; grind) (by grind)
  have f := Rat.mul_nonneg (show 0 ≤ -c.sl by grind) (show 0 ≤ ra (c.inn x y) k + ep k - (c.pd x y + β * c.dd) by grind)
  rw [h.tz]
  have e2 : (c.tz : Rat) - (c.fz : Rat) = c.dd * c.sl := e.symm
  rw [e2]
  unfold Num.va
  grind
/-- A part sweeps no lower than the whole. -/
theorem Sub.sd_le {c p : Cut} {α β : Rat} (h : Sub c p α β) {x y : Rat} (hz : c.tz ≤ c.fz) (ho : p.ov x y p.r) : (c.sd x y).cm (p.sd x y) ≤ 0 := by
  have hco := h.ov ho
  obtain ⟨z1, z2⟩ := h.le_z hz
  have ge := sd_ge ho z1
  by_cases hc : c.fl x y
  · rw [sd_fl hc]
    exact Rt.cm_trans rt_int rt_int (Cut.sd_ok ho) (int_cm z2) ge
  · by_cases hp : p.fl x y
    · rw [sd_fl hp]
      rcases hp with hp | hp
      · -- level: the part is a point, or the whole is level
        have hab : α = β := by
          have e := congrArg (fun n : Int => (n : Rat)) hp
          rw [h.fz, h.tz] at e
          have n0 : (c.tz : Rat) - (c.fz : Rat) ≠ 0 := fun e' => hc (.inl (by
            have : (c.fz : Rat) = (c.tz : Rat) := by grind
            exact Rat.intCast_inj.1 this))
          have k : (α - β) * ((c.tz : Rat) - (c.fz : Rat)) = 0 := by grind
          rcases Rat.mul_eq_zero.1 k with k | k
          · grind
          · exact absurd k n0
        refine h.end_le hz hco hc ?_
        have := (ds_ends (p.fx : Rat) (p.fy : Rat) (p.tx : Rat) (p.ty : Rat) x y).2
        have o := ho.2
        obtain ⟨u, u0, u1, eu⟩ := ds_at (p.fx : Rat) (p.fy : Rat) (p.tx : Rat) (p.ty : Rat) x y
        rw [eu, h.fx, h.fy, h.tx, h.ty, hab] at o
        rw [h.tx, h.ty]
        grind
      · exact h.end_le hz hco hc hp
    · have hl : α < β := by
        have := h.h1
        by_cases k : α = β
        · exfalso
          refine hp (.inl (Rat.intCast_inj.1 ?_))
          rw [h.fz, h.tz, k]
        · grind
      have := h.sd hl ho hc hp
      have a := Rt.cm_anti (Cut.sd_ok ho) (Cut.sd_ok hco)
      omega
/-- A cut and its two parts: a downward cut. -/
theorem div_down {c p q : Cut} {κ : Rat} (hp : Sub c p 0 κ) (hq : Sub c q κ 1) {x y : Rat} (hz : c.tz ≤ c.fz) (ho : c.ov x y c.r) :
    (q.ov x y q.r ∧ (q.sd x y).cm (c.sd x y) ≤ 0) ∨ (p.ov x y p.r ∧ (p.sd x y).cm (c.sd x y) ≤ 0) := by
  have r0 := ho.1
  have et : (q.tx : Rat) = (c.tx : Rat) ∧ (q.ty : Rat) = (c.ty : Rat) ∧ (q.tz : Rat) = (c.tz : Rat) := ⟨by rw [hq.tx]; grind, by rw [hq.ty]; grind, by rw [hq.tz]; grind⟩
  have ez : q.tz = c.tz := Rat.intCast_inj.1 et.2.2
  obtain ⟨zq1, zq2⟩ := hq.le_z hz
  obtain ⟨zp1, zp2⟩ := hp.le_z hz
  by_cases hqo : q.ov x y q.r
  · left
    refine ⟨hqo, ?_⟩
    by_cases hc : c.fl x y
    · have hqf : q.fl x y := by
        rcases hc with e | e
        · exact .inl (Rat.intCast_inj.1 (by rw [hq.fz, hq.tz, e]; grind))
        · right; rw [et.1, et.2.1, hq.r]; exact e
      rw [sd_fl hc, sd_fl hqf, ez, Rt.cm_self rt_int]
      omega
    · by_cases hqf : q.fl x y
      · exfalso
        rcases hqf with e | e
        · -- the second part is a point
          have e' := congrArg (fun n : Int => (n : Rat)) e
          rw [hq.fz, hq.tz] at e'
          have n0 : (c.tz : Rat) - (c.fz : Rat) ≠ 0 := fun e'' => hc (.inl (by
            have : (c.fz : Rat) = (c.tz : Rat) := by grind
            exact Rat.intCast_inj.1 this))
          have k : (κ - 1) * ((c.tz : Rat) - (c.fz : Rat)) = 0 := by grind
          have k1 : κ = 1 := by
            rcases Rat.mul_eq_zero.1 k with k | k
            · grind
            · exact absurd k n0
          refine hc (.inr ?_)
          obtain ⟨u, u0, u1, eu⟩ := ds_at (q.fx : Rat) (q.fy : Rat) (q.tx : Rat) (q.ty : Rat) x y
          have o := hqo.2
          rw [eu, hq.fx, hq.fy, hq.tx, hq.ty, hq.r, k1] at o
          grind
        · refine hc (.inr ?_)
          rw [et.1, et.2.1, hq.r] at e
          exact e
      · have hl : κ < 1 := by
          have := hq.h1
          by_cases k : κ = 1
          · exfalso
            refine hqf (.inl (Rat.intCast_inj.1 ?_))
            rw [hq.fz, hq.tz, k]
          · grind
        rw [hq.sd hl hqo hc hqf]; omega
  · right
    -- the point within reach lies in the first part
    obtain ⟨u, u0, u1, eu⟩ := ds_at (c.fx : Rat) (c.fy : Rat) (c.tx : Rat) (c.ty : Rat) x y
    have o := ho.2
    rw [eu] at o
    have hu : u < κ := by
      by_cases k : u < κ
      · exact k
      · exfalso
        exact hqo ⟨by rw [hq.r]; exact r0, by rw [hq.r]; exact Rat.le_trans (hq.at x y (by grind) (by grind)) o⟩
    have hpo : p.ov x y p.r := ⟨by rw [hp.r]; exact r0, by rw [hp.r]; exact Rat.le_trans (hp.at x y (by grind) (by grind)) o⟩
    refine ⟨hpo, ?_⟩
    have hc : ¬ c.fl x y ∨ c.fz = c.tz := by
      by_cases k : c.fz = c.tz
      · exact .inr k
      · left
        rintro (e | e)
        · exact k e
        · refine hqo ⟨by rw [hq.r]; exact r0, ?_⟩
          have := (ds_ends (q.fx : Rat) (q.fy : Rat) (q.tx : Rat) (q.ty : Rat) x y).2
          rw [et.1, et.2.1] at this
          rw [hq.r, et.1, et.2.1]
          exact Rat.le_trans this (by grind)
    rcases hc with hc | hc
    · have hpf : ¬ p.fl x y := by
        rintro (e | e)
        · have e' := congrArg (fun n : Int => (n : Rat)) e
          rw [hp.fz, hp.tz] at e'
          have n0 : (c.tz : Rat) - (c.fz : Rat) ≠ 0 := fun e'' => hc (.inl (by
            have : (c.fz : Rat) = (c.tz : Rat) := by grind
            exact Rat.intCast_inj.1 this))
          have k : κ * ((c.tz : Rat) - (c.fz : Rat)) = 0 := by grind
          rcases Rat.mul_eq_zero.1 k with k | k
          · grind
          · exact absurd k n0
        · refine hqo ⟨by rw [hq.r]; exact r0, ?_⟩
          have := (ds_ends (q.fx : Rat) (q.fy : Rat) (q.tx : Rat) (q.ty : Rat) x y).1
          have e1 : (p.tx : Rat) = (q.fx : Rat) := by rw [hp.tx, hq.fx]
          have e2 : (p.ty : Rat) = (q.fy : Rat) := by rw [hp.ty, hq.fy]
          rw [e1, e2, hp.r] at e
          rw [hq.r]
          exact Rat.le_trans this (by grind)
      rw [hp.sd (by grind) hpo hc hpf]; omega
    · have hcf : c.fl x y := .inl hc
      have hpf : p.fl x y := by
        left
        refine Rat.intCast_inj.1 ?_
        rw [hp.fz, hp.tz, hc]; grind
      rw [sd_fl hcf, sd_fl hpf]
      refine int_cm (cz ?_)
      rw [hp.tz, hc]; grind
def Cut.rev (c : Cut) : Cut := ⟨c.tx, c.ty, c.tz, c.fx, c.fy, c.fz, c.r⟩
theorem Cut.rev_ov {c : Cut} {x y : Rat} {r : Int} : c.rev.ov x y r ↔ c.ov x y r := by
  unfold Cut.ov Cut.rev
  rw [dsF_swap]
theorem Sub.rev {c p : Cut} {α β : Rat} (h : Sub c p α β) : Sub c.rev p.rev (1 - β) (1 - α) where
  h0 := by have := h.h2; grind
  h1 := by have := h.h1; grind
  h2 := by have := h.h0; grind
  fx := by show (p.tx : Rat) = (c.tx : Rat) + (1 - β) * ((c.fx : Rat) - (c.tx : Rat)); rw [h.tx]; grind
  fy := by show (p.ty : Rat) = (c.ty : Rat) + (1 - β) * ((c.fy : Rat) - (c.ty : Rat)); rw [h.ty]; grind
  fz := by show (p.tz : Rat) = (c.tz : Rat) + (1 - β) * ((c.fz : Rat) - (c.tz : Rat)); rw [h.tz]; grind
  tx := by show (p.fx : Rat) = (c.tx : Rat) + (1 - α) * ((c.fx : Rat) - (c.tx : Rat)); rw [h.fx]; grind
  ty := by show (p.fy : Rat) = (c.ty : Rat) + (1 - α) * ((c.fy : Rat) - (c.ty : Rat)); rw [h.fy]; grind
  tz := by show (p.fz : Rat) = (c.tz : Rat) + (1 - α) * ((c.fz : Rat) - (c.tz : Rat)); rw [h.fz]; grind
  r := h.r
theorem dn_id {c : Cut} (h : c.tz ≤ c.fz) : c.dn = c := by
  unfold Cut.dn
  rw [if_neg (by omega)]
/-- Upward, or a point. -/
theorem Sub.dn_rev {c p : Cut} {α β : Rat} (h : Sub c p α β) (hz : c.fz < c.tz) : p.dn = p.rev := by
  have z := Rat.intCast_lt_intCast.2 hz
  unfold Cut.dn
  by_cases k : p.fz < p.tz
  · rw [if_pos k]; rfl
  · rw [if_neg k]
    have e : α = β := by
      have h1 := h.h1
      have : (p.tz : Rat) ≤ (p.fz : Rat) := Rat.intCast_le_intCast.2 (by omega)
      rw [h.fz, h.tz] at this
      rcases sg_cases (β - α) with ⟨g, _⟩ | ⟨g, _⟩ | ⟨g, _⟩
      · grind
      · grind
      · have := Rat.mul_pos g (show 0 < (c.tz : Rat) - (c.fz : Rat) by grind); grind
    have ex : p.fx = p.tx := Rat.intCast_inj.1 (by rw [h.fx, h.tx, e])
    have ey : p.fy = p.ty := Rat.intCast_inj.1 (by rw [h.fy, h.ty, e])
    have ez : p.fz = p.tz := Rat.intCast_inj.1 (by rw [h.fz, h.tz, e])
    obtain ⟨a1, a2, a3, a4, a5, a6, a7⟩ := p
    dsimp only at ex ey ez
    subst ex ey ez
    rfl
/-- Dividing a cut changes no height. -/
theorem div_eq {c p q : Cut} {κ : Rat} (hp : Sub c p 0 κ) (hq : Sub c q κ 1) {x y : Rat} {o : Rt} (ho : o.Ok) : (heF x y o [p, q]).cm (heF x y o [c]) = 0 := by
  have key : (∀ d, d ∈ [p, q] → d.ov x y d.r → c.ov x y c.r ∧ (c.sw x y).cm (d.sw x y) ≤ 0) ∧ (c.ov x y c.r → ∃ d, d ∈ [p, q] ∧ d.ov x y d.r ∧ (d.sw x y).cm (c.sw x y) ≤ 0) := by
    by_cases hz : c.tz ≤ c.fz
    · have e0 : c.sw x y = c.sd x y := by unfold Cut.sw; rw [dn_id hz]
      have e1 : p.sw x y = p.sd x y := by unfold Cut.sw; rw [dn_id (hp.le_z hz).1]
      have e2 : q.sw x y = q.sd x y := by unfold Cut.sw; rw [dn_id (hq.le_z hz).1]
      refine ⟨fun d hd hv => ?_, fun hv => ?_⟩
      · rcases List.mem_cons.1 hd with rfl | hd
        · exact ⟨hp.ov hv, by rw [e0, e1]; exact hp.sd_le hz hv⟩
        · rw [List.mem_singleton.1 hd] at hv ⊢
          exact ⟨hq.ov hv, by rw [e0, e2]; exact hq.sd_le hz hv⟩
      · rcases div_down hp hq hz hv with ⟨a, b⟩ | ⟨a, b⟩
        · exact ⟨q, by simp, a, by rw [e0, e2]; exact b⟩
        · exact ⟨p, by simp, a, by rw [e0, e1]; exact b⟩
    · have hz' : c.fz < c.tz := by omega
      have rz : c.rev.tz ≤ c.rev.fz := by show c.fz ≤ c.tz; omega
      have hpr := hp.rev
      have hqr := hq.rev
      rw [show (1 : Rat) - 0 = 1 by grind] at hpr
      rw [show (1 : Rat) - 1 = 0 by grind] at hqr
      have e0 : c.sw x y = c.rev.sd x y := by unfold Cut.sw Cut.dn; rw [if_pos hz']; rfl
      have e1 : p.sw x y = p.rev.sd x y := by unfold Cut.sw; rw [hp.dn_rev hz']
      have e2 : q.sw x y = q.rev.sd x y := by unfold Cut.sw; rw [hq.dn_rev hz']
      refine ⟨fun d hd hv => ?_, fun hv => ?_⟩
      · rcases List.mem_cons.1 hd with rfl | hd
        · exact ⟨hp.ov hv, by rw [e0, e1]; exact hpr.sd_le rz (Cut.rev_ov.2 hv)⟩
        · rw [List.mem_singleton.1 hd] at hv ⊢
          exact ⟨hq.ov hv, by rw [e0, e2]; exact hqr.sd_le rz (Cut.rev_ov.2 hv)⟩
      · rcases div_down hqr hpr rz (Cut.rev_ov.2 hv) with ⟨a, b⟩ | ⟨a, b⟩
        · exact ⟨p, by simp, Cut.rev_ov.1 a, by rw [e0, e1]; exact b⟩
        · exact ⟨q, by simp, Cut.rev_ov.1 a, by rw [e0, e2]; exact b⟩
  have a := heF_cmp (x := x) (y := y) ho (l := [p, q]) (m := [c]) (fun d hd hv => ⟨c, by simp, key.1 d hd hv⟩)
  have b := heF_cmp (x := x) (y := y) ho (l := [c]) (m := [p, q]) (fun d hd hv => by
    rw [List.mem_singleton.1 hd] at hv ⊢
    exact key.2 hv)
  have := Rt.cm_anti (heF_ok (x := x) (y := y) (l := [p, q]) ho) (heF_ok (x := x) (y := y) (l := [c]) ho)
  omega
end Num

/-
Roots in reduced form are compared as what they were made of.
-/
set_option maxHeartbeats 1000000
namespace Num
theorem cm_mk {A B C D E F : Rat} (hC : 0 ≤ C) (hF : 0 ≤ F) : cmF (mA A B C) (mB B C) (mC B C) (mA D E F) (mB E F) (mC E F) = cmF A B C D E F := by
  refine (cm_uniq (mk_red hC).nn (mk_red hF).nn ?_).symm
  refine (cm_sgn (A := A) (B := B) (D := D) (E := E) hC hF).near ?_
  exact ((mk_va (A := A) (B := B) hC).add (mk_va (A := D) (B := E) hF).neg).congr fun k => by grind
theorem mk_int (A : Rat) : mA A 0 0 = A ∧ mB 0 0 = 0 ∧ mC 0 0 = 0 := by
  obtain ⟨h1, h2, h3⟩ := mk_sq (A := A) (B := 0) isq_zero
  rw [h1, h2, h3]
  exact ⟨by grind, rfl, rfl⟩
theorem cm_mkq {A B C d : Rat} (hC : 0 ≤ C) : cmF (mA A B C) (mB B C) (mC B C) d 0 0 = cmF A B C d 0 0 := by
  have h := cm_mk (A := A) (B := B) (D := d) (E := 0) hC (Rat.le_refl (a := (0 : Rat)))
  obtain ⟨h1, h2, h3⟩ := mk_int d
  rw [h1, h2, h3] at h
  exact h
end Num
