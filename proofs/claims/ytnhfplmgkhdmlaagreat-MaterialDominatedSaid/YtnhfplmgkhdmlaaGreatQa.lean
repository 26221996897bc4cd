/- What is proved: signs of sums with two roots; distances from segments; swept heights. No conditions beyond those in the statements. -/
import Derived.Test.YtnhfplmgkhdmlaaGreatNc
set_option autoImplicit false
set_option linter.unusedVariables false
/-
Signs of sums with two square roots; comparing roots.
-/
namespace Num
theorem div_mul {a M : Rat} (h : 0 < M) : M * (a / M) = a := by grind
theorem div_pos {a M : Rat} (ha : 0 < a) (h : 0 < M) : 0 < a / M := by
  have e := div_mul (a := a) h
  rcases sg_cases (a / M) with ⟨g, _⟩ | ⟨g, _⟩ | ⟨g, _⟩
  · have := Rat.mul_pos h (show 0 < -(a / M) by grind); grind
  · rw [g] at e; grind
  · exact g
/-- A factor above nought can be left out. -/
theorem Sgn.div_pos {V W : Nat → Rat} {s : Int} (hW : Pos W) (bW : Bnd W) (h : Sgn (fun k => V k * W k) s) : Sgn V s := by
  obtain ⟨w, w0, N0, hw⟩ := hW
  obtain ⟨M, hM, hb⟩ := bW
  have key : ∀ V : Nat → Rat, Pos (fun k => V k * W k) → Pos V := fun V hp => by
    obtain ⟨ε, h1, N, h2⟩ := hp
    have em := div_mul (a := ε) hM
    have d0 := Num.div_pos h1 hM
    refine ⟨ε / M, d0, max N N0, fun k hk => ?_⟩
    have h3 := h2 k (by omega)
    have h4 := hw k (by omega)
    have h5 := hb k
    dsimp only at h3
    generalize ε / M = d at *
    generalize W k = y at *
    rcases sg_cases (V k - d) with ⟨g, _⟩ | ⟨g, _⟩ | ⟨g, _⟩
    · have p0 := Rat.mul_pos (show 0 < d - V k by grind) (show 0 < y by grind)
      have p1 := Rat.mul_nonneg (Rat.le_of_lt d0) (show 0 ≤ M - y by grind)
      grind
    · grind
    · grind
  rcases h with ⟨e, h⟩ | ⟨e, h⟩ | ⟨e, h⟩
  · exact .inl ⟨e, key V h⟩
  · refine .inr (.inl ⟨e, fun ε he => ?_⟩)
    obtain ⟨N, h2⟩ := h (ε * w) (Rat.mul_pos he w0)
    refine ⟨max N N0, fun k hk => ?_⟩
    have h3 := h2 k (by omega)
    have h4 := hw k (by omega)
    dsimp only at h3
    generalize W k = y at *
    constructor
    · rcases sg_cases (V k + ε) with ⟨g, _⟩ | ⟨g, _⟩ | ⟨g, _⟩
      · have p0 := Rat.mul_pos (show 0 < -(V k + ε) by grind) (show 0 < y by grind)
        have p1 := Rat.mul_nonneg (Rat.le_of_lt he) (show 0 ≤ y - w by grind)
        grind
      · grind
      · grind
    · rcases sg_cases (ε - V k) with ⟨g, _⟩ | ⟨g, _⟩ | ⟨g, _⟩
      · have p0 := Rat.mul_pos (show 0 < V k - ε by grind) (show 0 < y by grind)
        have p1 := Rat.mul_nonneg (Rat.le_of_lt he) (show 0 ≤ y - w by grind)
        grind
      · grind
      · grind
  · exact .inr (.inr ⟨e, key (fun k => -V k) (h.congr fun k => by grind)⟩)
theorem ra_sgn {N : Rat} (h : 0 ≤ N) : Sgn (ra N) (sg N) := by
  rcases sg_cases N with ⟨g, e⟩ | ⟨g, e⟩ | ⟨g, e⟩
  · grind
  · rw [e]; subst g; exact .inr (.inl ⟨rfl, Nul.zero.congr fun k => ra_zero.symm⟩)
  · rw [e]; exact .inl ⟨rfl, ra_pos g⟩
/-- The sign of A + B sqrt(M) + (C + D sqrt(M)) sqrt(N), as program and reference say it. -/
def qdF (A B C D M N : Rat) : Int :=
  if exF A B M = exF C D M * sg N ∨ exF C D M * sg N = 0 then exF A B M else if exF A B M = 0 then exF C D M * sg N
  else exF A B M * exF (A * A + B * B * M - N * (C * C + D * D * M)) ((A * B - N * (C * D)) + (A * B - N * (C * D))) M
theorem exF_cases (A B : Rat) {C : Rat} (h : 0 ≤ C) : exF A B C = 1 ∨ exF A B C = 0 ∨ exF A B C = -1 := by
  rcases va_sgn (A := A) (B := B) h with ⟨e, _⟩ | ⟨e, _⟩ | ⟨e, _⟩
  · exact .inl e
  · exact .inr (.inl e)
  · exact .inr (.inr e)
theorem Sgn.pos {x : Nat → Rat} {s : Int} (h : Sgn x s) (e : s = 1) : Pos x := by
  rcases h with ⟨_, h⟩ | ⟨e', _⟩ | ⟨e', _⟩
  · exact h
  · omega
  · omega
theorem Sgn.nul {x : Nat → Rat} {s : Int} (h : Sgn x s) (e : s = 0) : Nul x := by
  rcases h with ⟨e', _⟩ | ⟨_, h⟩ | ⟨e', _⟩
  · omega
  · exact h
  · omega
theorem Sgn.ngv {x : Nat → Rat} {s : Int} (h : Sgn x s) (e : s = -1) : Pos fun k => -x k := by
  rcases h with ⟨e', _⟩ | ⟨e', _⟩ | ⟨_, h⟩
  · omega
  · omega
  · exact h
theorem quad_opp {A B C D M N : Rat} (hM : 0 ≤ M) (hN : 0 ≤ N) (hX : Pos (va A B M)) (hY : Pos fun k => -(va C D M k * ra N k)) :
    Sgn (fun k => va A B M k + va C D M k * ra N k) (exF (A * A + B * B * M - N * (C * C + D * D * M)) ((A * B - N * (C * D)) + (A * B - N * (C * D))) M) := by
  have bX := Bnd.va A B hM
  have bY := Bnd.va C D hM
  have bn := Bnd.ra hN
  have hW : Pos fun k => va A B M k + -(va C D M k * ra N k) := hX.add hY
  have bW : Bnd fun k => va A B M k + -(va C D M k * ra N k) := bX.add (bY.mul bn).neg
  refine Sgn.div_pos hW bW ?_
  refine (va_sgn (A := A * A + B * B * M - N * (C * C + D * D * M)) (B := (A * B - N * (C * D)) + (A * B - N * (C * D))) hM).near ?_
  have e1 := (ra_err hM).scale (N * (D * D) - B * B)
  have e2 := (ra_err hN).mul_bnd (bY.mul bY)
  refine (e1.add e2).congr fun k => ?_
  unfold va
  grind
theorem quad_sgn {A B C D M N : Rat} (hM : 0 ≤ M) (hN : 0 ≤ N) : Sgn (fun k => va A B M k + va C D M k * ra N k) (qdF A B C D M N) := by
  have bY := Bnd.va C D hM
  have bn := Bnd.ra hN
  have sX := va_sgn (A := A) (B := B) hM
  have sY := (va_sgn (A := C) (B := D) hM).mul (ra_sgn hN) bY bn
  unfold qdF
  have n1 : sg N = 0 ∨ sg N = 1 := by
    rcases sg_cases N with ⟨g, e⟩ | ⟨g, e⟩ | ⟨g, e⟩
    · grind
    · exact .inl e
    · exact .inr e
  have y1 : exF C D M * sg N = 1 ∨ exF C D M * sg N = 0 ∨ exF C D M * sg N = -1 := by
    rcases exF_cases C D hM with h | h | h <;> rcases n1 with g | g <;> rw [h, g] <;> omega
  have opp := quad_opp (A := A) (B := B) (C := C) (D := D) hM hN
  have opp' := quad_opp (A := -A) (B := -B) (C := -C) (D := -D) hM hN
  rw [show -A * -A + -B * -B * M - N * (-C * -C + -D * -D * M) = A * A + B * B * M - N * (C * C + D * D * M) by grind, show -A * -B - N * (-C * -D) = A * B - N * (C * D) by grind] at opp'
  generalize exF (A * A + B * B * M - N * (C * C + D * D * M)) ((A * B - N * (C * D)) + (A * B - N * (C * D))) M = z at *
  generalize exF C D M * sg N = y at *
  rcases exF_cases A B hM with hx | hx | hx
  · rw [hx] at sX ⊢
    rcases y1 with hy | hy | hy
    · rw [if_pos (by omega)]
      exact .inl ⟨rfl, (sX.pos rfl).add (sY.pos hy)⟩
    · rw [if_pos (by omega)]
      exact .inl ⟨rfl, (sX.pos rfl).add_nul (sY.nul hy)⟩
    · rw [if_neg (by omega), if_neg (by omega), Int.one_mul]
      exact opp (sX.pos rfl) (sY.ngv hy)
  · rw [hx] at sX ⊢
    rcases y1 with hy | hy | hy
    · rw [if_neg (by omega), if_pos rfl, hy]
      exact .inl ⟨rfl, ((sY.pos hy).add_nul (sX.nul rfl)).congr fun k => by grind⟩
    · rw [if_pos (by omega)]
      exact .inr (.inl ⟨rfl, (sX.nul rfl).add (sY.nul hy)⟩)
    · rw [if_neg (by omega), if_pos rfl, hy]
      exact .inr (.inr ⟨rfl, ((sY.ngv hy).add_nul (sX.nul rfl).neg).congr fun k => by grind⟩)
  · rw [hx] at sX ⊢
    rcases y1 with hy | hy | hy
    · rw [if_neg (by omega), if_neg (by omega)]
      have h := (opp' ((sX.ngv rfl).congr fun k => by unfold va; grind) ((sY.pos hy).congr fun k => by unfold va; grind)).neg
      rw [show (-1 : Int) * z = -z by omega]
      exact h.congr fun k => by unfold va; grind
    · rw [if_pos (by omega)]
      exact .inr (.inr ⟨rfl, ((sX.ngv rfl).add_nul (sY.nul hy).neg).congr fun k => by grind⟩)
    · rw [if_pos (by omega)]
      exact .inr (.inr ⟨rfl, ((sX.ngv rfl).add (sY.ngv hy)).congr fun k => by grind⟩)
/-- The order of two roots. -/
def cmF (A B C D E F : Rat) : Int := qdF (A - D) B (-E) 0 C F
theorem cm_sgn {A B C D E F : Rat} (hC : 0 ≤ C) (hF : 0 ≤ F) : Sgn (fun k => va A B C k - va D E F k) (cmF A B C D E F) :=
  (quad_sgn (A := A - D) (B := B) (C := -E) (D := 0) hC hF).congr fun k => by unfold va; grind
theorem cm_uniq {A B C D E F : Rat} {s : Int} (hC : 0 ≤ C) (hF : 0 ≤ F) (h : Sgn (fun k => va A B C k - va D E F k) s) : s = cmF A B C D E F := h.uniq (cm_sgn hC hF)
theorem cmF_self {A B C : Rat} (hC : 0 ≤ C) : cmF A B C A B C = 0 := (cm_uniq hC hC (.inr (.inl ⟨rfl, Nul.self _⟩))).symm
theorem cmF_cases (A B D E : Rat) {C F : Rat} (hC : 0 ≤ C) (hF : 0 ≤ F) : cmF A B C D E F = 1 ∨ cmF A B C D E F = 0 ∨ cmF A B C D E F = -1 := by
  rcases cm_sgn (A := A) (B := B) (D := D) (E := E) hC hF with ⟨e, _⟩ | ⟨e, _⟩ | ⟨e, _⟩
  · exact .inl e
  · exact .inr (.inl e)
  · exact .inr (.inr e)
end Num

set_option autoImplicit false
set_option linter.unusedVariables false
/-
Distances of points from segments, in fractions.
-/
namespace Num
theorem sqr (x : Rat) : 0 ≤ x * x := Isq.nn ⟨x, rfl⟩
theorem le_of_mul {n a b : Rat} (h : 0 < n) (k : n * a ≤ n * b) : a ≤ b := by
  rcases sg_cases (b - a) with ⟨g, _⟩ | ⟨g, _⟩ | ⟨g, _⟩
  · have := Rat.mul_pos h (show 0 < -(b - a) by grind); grind
  · grind
  · grind
/-- The square of the distance of p from the segment from a to b. -/
def dsF (ax ay bx bz px py : Rat) : Rat :=
  if (bx - ax) * (px - ax) + (bz - ay) * (py - ay) ≤ 0 then (px - ax) * (px - ax) + (py - ay) * (py - ay)
  else if (bx - ax) * (bx - ax) + (bz - ay) * (bz - ay) ≤ (bx - ax) * (px - ax) + (bz - ay) * (py - ay) then (px - bx) * (px - bx) + (py - bz) * (py - bz)
  else ((bx - ax) * (py - ay) - (bz - ay) * (px - ax)) * ((bx - ax) * (py - ay) - (bz - ay) * (px - ax)) / ((bx - ax) * (bx - ax) + (bz - ay) * (bz - ay))
/-- Some point of the segment is so far away. -/
theorem ds_at (ax ay bx bz px py : Rat) : ∃ u : Rat, 0 ≤ u ∧ u ≤ 1 ∧ dsF ax ay bx bz px py = (px - (ax + u * (bx - ax))) * (px - (ax + u * (bx - ax))) + (py - (ay + u * (bz - ay))) * (py - (ay + u * (bz - ay))) := by
  unfold dsF
  split
  · exact ⟨0, by grind, by grind, by grind⟩
  · split
    · exact ⟨1, by grind, by grind, by grind⟩
    · rename_i h1 h2
      generalize hdx : bx - ax = dx at *
      generalize hdy : bz - ay = dy at *
      have hn : 0 < dx * dx + dy * dy := by have := sqr dx; have := sqr dy; grind
      generalize hN : dx * dx + dy * dy = n at *
      generalize hT : dx * (px - ax) + dy * (py - ay) = t at *
      have e := div_mul (a := t) hn
      refine ⟨t / n, Rat.le_of_lt (div_pos (by grind) hn), ?_, ?_⟩
      · rcases sg_cases (1 - t / n) with ⟨g, _⟩ | ⟨g, _⟩ | ⟨g, _⟩
        · have := Rat.mul_pos hn (show 0 < -(1 - t / n) by grind); grind
        · grind
        · grind
      · have e2 := div_mul (a := (dx * (py - ay) - dy * (px - ax)) * (dx * (py - ay) - dy * (px - ax))) hn
        generalize (dx * (py - ay) - dy * (px - ax)) * (dx * (py - ay) - dy * (px - ax)) / n = D at *
        generalize t / n = u at *
        have : n * (D - ((px - (ax + u * dx)) * (px - (ax + u * dx)) + (py - (ay + u * dy)) * (py - (ay + u * dy)))) = 0 := by
          have h3 : n * (D - ((px - (ax + u * dx)) * (px - (ax + u * dx)) + (py - (ay + u * dy)) * (py - (ay + u * dy)))) =
            n * D - n * ((px - ax) * (px - ax) + (py - ay) * (py - ay)) + 2 * (n * u) * (dx * (px - ax) + dy * (py - ay)) - (n * u) * u * (dx * dx + dy * dy) := by grind
          rw [h3, e2, hT, hN, e]
          have h4 : t * u * n = t * t := by rw [← e]; grind
          rw [h4, ← hN, ← hT]
          grind
        rcases Rat.mul_eq_zero.1 this with h | h
        · grind
        · grind
/-- No point of the segment is nearer. -/
theorem ds_le (ax ay bx bz px py : Rat) {u : Rat} (u0 : 0 ≤ u) (u1 : u ≤ 1) : dsF ax ay bx bz px py ≤ (px - (ax + u * (bx - ax))) * (px - (ax + u * (bx - ax))) + (py - (ay + u * (bz - ay))) * (py - (ay + u * (bz - ay))) := by
  unfold dsF
  generalize hdx : bx - ax = dx at *
  generalize hdy : bz - ay = dy at *
  have nn0 := sqr dx
  have nn1 := sqr dy
  split
  · rename_i h
    have k1 := Rat.mul_nonneg u0 (show 0 ≤ -(dx * (px - ax) + dy * (py - ay)) by grind)
    have k2 := Rat.mul_nonneg (Rat.mul_nonneg u0 u0) (show 0 ≤ dx * dx + dy * dy by grind)
    grind
  · rename_i h1
    split
    · rename_i h2
      have e1 : bx = ax + dx := by grind
      have e2 : bz = ay + dy := by grind
      rw [e1, e2]
      have k1 := Rat.mul_nonneg (show 0 ≤ 1 - u by grind) (show 0 ≤ dx * (px - ax) + dy * (py - ay) - (dx * dx + dy * dy) by grind)
      have k2 := Rat.mul_nonneg (Rat.mul_nonneg (show 0 ≤ 1 - u by grind) (show 0 ≤ 1 - u by grind)) (show 0 ≤ dx * dx + dy * dy by grind)
      grind
    · rename_i h2
      have hn : 0 < dx * dx + dy * dy := by grind
      have e2 := div_mul (a := (dx * (py - ay) - dy * (px - ax)) * (dx * (py - ay) - dy * (px - ax))) hn
      generalize (dx * (py - ay) - dy * (px - ax)) * (dx * (py - ay) - dy * (px - ax)) / (dx * dx + dy * dy) = D at *
      have k := sqr (dx * (px - ax) + dy * (py - ay) - u * (dx * dx + dy * dy))
      refine le_of_mul hn ?_
      rw [e2]
      clear e2
      grind
/-- Sums of vectors are at most as long as the sum of the lengths. -/
theorem tri {ax ay bx bz r s : Rat} (hr : 0 ≤ r) (hs : 0 ≤ s) (ha : ax * ax + ay * ay ≤ r * r) (hb : bx * bx + bz * bz ≤ s * s) : (ax + bx) * (ax + bx) + (ay + bz) * (ay + bz) ≤ (r + s) * (r + s) := by
  have h1 : (ax * bx + ay * bz) * (ax * bx + ay * bz) ≤ (r * s) * (r * s) := by
    have k1 := sqr (ax * bz - ay * bx)
    have k2 := Rat.mul_nonneg (show 0 ≤ r * r - (ax * ax + ay * ay) by grind) (show 0 ≤ bx * bx + bz * bz by have := sqr bx; have := sqr bz; grind)
    have k3 := Rat.mul_nonneg (sqr r) (show 0 ≤ s * s - (bx * bx + bz * bz) by grind)
    grind
  have h2 := sq_le (Rat.mul_nonneg hr hs) h1
  grind
/-- What is near a segment, which lies near another one, is near that. -/
theorem ds_near {fx fy tx ty ax ay bx bz px py R ρ : Rat} (hR : 0 ≤ R) (hρ : 0 ≤ ρ) (h1 : dsF ax ay bx bz fx fy ≤ ρ * ρ) (h2 : dsF ax ay bx bz tx ty ≤ ρ * ρ) (h3 : dsF fx fy tx ty px py ≤ R * R) :
    dsF ax ay bx bz px py ≤ (R + ρ) * (R + ρ) := by
  obtain ⟨u, u0, u1, eu⟩ := ds_at ax ay bx bz fx fy
  obtain ⟨w, w0, w1, ew⟩ := ds_at ax ay bx bz tx ty
  obtain ⟨s, s0, s1, es⟩ := ds_at fx fy tx ty px py
  rw [eu] at h1
  rw [ew] at h2
  rw [es] at h3
  have k0 : 0 ≤ u + s * (w - u) := by
    have a := Rat.mul_nonneg (show 0 ≤ 1 - s by grind) u0
    have b := Rat.mul_nonneg s0 w0
    grind
  have k1 : u + s * (w - u) ≤ 1 := by
    have a := Rat.mul_nonneg (show 0 ≤ 1 - s by grind) (show 0 ≤ 1 - u by grind)
    have b := Rat.mul_nonneg s0 (show 0 ≤ 1 - w by grind)
    grind
  have le := ds_le ax ay bx bz px py k0 k1
  -- the differences
  generalize hx1 : fx - (ax + u * (bx - ax)) = x1 at *
  generalize hy1 : fy - (ay + u * (bz - ay)) = y1 at *
  generalize hx2 : tx - (ax + w * (bx - ax)) = x2 at *
  generalize hy2 : ty - (ay + w * (bz - ay)) = y2 at *
  generalize hx3 : px - (fx + s * (tx - fx)) = x3 at *
  generalize hy3 : py - (fy + s * (ty - fy)) = y3 at *
  have m1 : px - (ax + (u + s * (w - u)) * (bx - ax)) = x3 + (x1 + s * (x2 - x1)) := by rw [← hx1, ← hx2, ← hx3]; grind
  have m2 : py - (ay + (u + s * (w - u)) * (bz - ay)) = y3 + (y1 + s * (y2 - y1)) := by rw [← hy1, ← hy2, ← hy3]; grind
  rw [m1, m2] at le
  have cv : (x1 + s * (x2 - x1)) * (x1 + s * (x2 - x1)) + (y1 + s * (y2 - y1)) * (y1 + s * (y2 - y1)) ≤ ρ * ρ := by
    have a := Rat.mul_nonneg (Rat.mul_nonneg s0 (show 0 ≤ 1 - s by grind)) (show 0 ≤ (x1 - x2) * (x1 - x2) + (y1 - y2) * (y1 - y2) by have := sqr (x1 - x2); have := sqr (y1 - y2); grind)
    have b := Rat.mul_nonneg (show 0 ≤ 1 - s by grind) (show 0 ≤ ρ * ρ - (x1 * x1 + y1 * y1) by grind)
    have c := Rat.mul_nonneg s0 (show 0 ≤ ρ * ρ - (x2 * x2 + y2 * y2) by grind)
    grind
  have := tri hR hρ h3 cv
  grind
/-- The ends of a segment are not nearer than the segment. -/
theorem ds_ends (ax ay bx bz px py : Rat) : dsF ax ay bx bz px py ≤ (px - ax) * (px - ax) + (py - ay) * (py - ay) ∧ dsF ax ay bx bz px py ≤ (px - bx) * (px - bx) + (py - bz) * (py - bz) := by
  have h1 := ds_le ax ay bx bz px py (u := 0) (by grind) (by grind)
  have h2 := ds_le ax ay bx bz px py (u := 1) (by grind) (by grind)
  constructor <;> grind
theorem ds_nn (ax ay bx bz px py : Rat) : 0 ≤ dsF ax ay bx bz px py := by
  obtain ⟨u, u0, u1, eu⟩ := ds_at ax ay bx bz px py
  rw [eu]
  have := sqr (px - (ax + u * (bx - ax)))
  have := sqr (py - (ay + u * (bz - ay)))
  grind
end Num

set_option autoImplicit false
set_option linter.unusedVariables false
/-
Cuts: what they sweep, how high the material stays.
-/
namespace Num
/-- A + B sqrt(C). -/
structure Rt where
  A : Rat
  B : Rat
  C : Rat
/-- In reduced form. -/
def Rt.Ok (r : Rt) : Prop := Red r.B r.C
noncomputable def Rt.va (r : Rt) (k : Nat) : Rat := Num.va r.A r.B r.C k
def Rt.cm (r s : Rt) : Int := cmF r.A r.B r.C s.A s.B s.C
theorem Rt.Ok.nn {r : Rt} (h : r.Ok) : 0 ≤ r.C := Red.nn h
theorem Rt.sgn {r s : Rt} (hr : r.Ok) (hs : s.Ok) : Sgn (fun k => r.va k - s.va k) (r.cm s) := cm_sgn hr.nn hs.nn
theorem Rt.cm_eq {r s : Rt} {n : Int} (hr : r.Ok) (hs : s.Ok) (h : Sgn (fun k => r.va k - s.va k) n) : r.cm s = n := ((Rt.sgn hr hs).uniq h)
theorem Rt.cm_self {r : Rt} (hr : r.Ok) : r.cm r = 0 := cmF_self hr.nn
theorem Rt.cm_anti {r s : Rt} (hr : r.Ok) (hs : s.Ok) : s.cm r = -r.cm s := Rt.cm_eq hs hr ((Rt.sgn hr hs).neg.congr fun k => by grind)
theorem Rt.cm_trans {r s t : Rt} (hr : r.Ok) (hs : s.Ok) (ht : t.Ok) (h1 : r.cm s ≤ 0) (h2 : s.cm t ≤ 0) : r.cm t ≤ 0 := by
  have a1 := Rt.cm_anti hr hs
  have a2 := Rt.cm_anti hs ht
  have a3 := Rt.cm_anti hr ht
  have n1 := (Rt.sgn hs hr).nn (by omega)
  have n2 := (Rt.sgn ht hs).nn (by omega)
  have := (n1.add n2).le ((Rt.sgn ht hr).congr fun k => by grind)
  omega
theorem Sgn.ge {x : Nat → Rat} {s : Int} (h : Sgn x s) (N : Nat) (h0 : ∀ k, N ≤ k → 0 ≤ x k) : 0 ≤ s := by
  rcases h with ⟨e, h⟩ | ⟨e, h⟩ | ⟨e, ε, h1, N', h2⟩
  · omega
  · omega
  · have := h2 (max N N') (by omega)
    have := h0 (max N N') (by omega)
    grind
/-- A cut: from, to, the radius. -/
structure Cut where
  fx : Int
  fy : Int
  fz : Int
  tx : Int
  ty : Int
  tz : Int
  r : Int
/-- The tool's axis comes so near to a point. -/
def Cut.ov (c : Cut) (x y : Rat) (r : Int) : Prop := 0 ≤ r ∧ dsF (c.fx : Rat) (c.fy : Rat) (c.tx : Rat) (c.ty : Rat) x y ≤ (r : Rat) * (r : Rat)
/-- Downward. -/
def Cut.dn (c : Cut) : Cut := if c.fz < c.tz then ⟨c.tx, c.ty, c.tz, c.fx, c.fy, c.fz, c.r⟩ else c
/-- It is lowest over the point at its end. -/
def Cut.fl (c : Cut) (x y : Rat) : Prop := c.fz = c.tz ∨ ((c.tx : Rat) - x) * ((c.tx : Rat) - x) + ((c.ty : Rat) - y) * ((c.ty : Rat) - y) ≤ (c.r : Rat) * (c.r : Rat)
def Cut.pd (c : Cut) (x y : Rat) : Rat := ((c.fx : Rat) - x) * ((c.tx : Rat) - (c.fx : Rat)) + ((c.fy : Rat) - y) * ((c.ty : Rat) - (c.fy : Rat))
def Cut.dd (c : Cut) : Rat := ((c.tx : Rat) - (c.fx : Rat)) * ((c.tx : Rat) - (c.fx : Rat)) + ((c.ty : Rat) - (c.fy : Rat)) * ((c.ty : Rat) - (c.fy : Rat))
def Cut.sl (c : Cut) : Rat := ((c.tz - c.fz : Int) : Rat) / c.dd
def Cut.inn (c : Cut) (x y : Rat) : Rat := c.pd x y * c.pd x y - c.dd * (((c.fx : Rat) - x) * ((c.fx : Rat) - x) + ((c.fy : Rat) - y) * ((c.fy : Rat) - y) - (c.r : Rat) * (c.r : Rat))
open Classical in
/-- The swept height of a downward cut. -/
noncomputable def Cut.sd (c : Cut) (x y : Rat) : Rt :=
  if c.fl x y then ⟨(c.tz : Rat), 0, 0⟩ else ⟨mA ((c.fz : Rat) - c.sl * c.pd x y) c.sl (c.inn x y), mB c.sl (c.inn x y), mC c.sl (c.inn x y)⟩
noncomputable def Cut.sw (c : Cut) (x y : Rat) : Rt := c.dn.sd x y
theorem dsF_swap (ax ay bx bz px py : Rat) : dsF bx bz ax ay px py = dsF ax ay bx bz px py := by
  have le : ∀ ax ay bx bz : Rat, dsF ax ay bx bz px py ≤ dsF bx bz ax ay px py := fun ax ay bx bz => by
    obtain ⟨u, u0, u1, eu⟩ := ds_at bx bz ax ay px py
    have h := ds_le ax ay bx bz px py (u := 1 - u) (by grind) (by grind)
    rw [eu, show px - (bx + u * (ax - bx)) = px - (ax + (1 - u) * (bx - ax)) by grind, show py - (bz + u * (ay - bz)) = py - (ay + (1 - u) * (bz - ay)) by grind]
    exact h
  have h1 := le ax ay bx bz
  have h2 := le bx bz ax ay
  grind
theorem Cut.dn_r (c : Cut) : c.dn.r = c.r := by unfold Cut.dn; split <;> rfl
theorem Cut.dn_ov {c : Cut} {x y : Rat} {r : Int} : c.dn.ov x y r ↔ c.ov x y r := by
  unfold Cut.dn
  split
  · unfold Cut.ov
    rw [dsF_swap]
  · rfl
theorem Cut.dn_le (c : Cut) : c.dn.tz ≤ c.dn.fz := by
  unfold Cut.dn
  split
  · dsimp only; omega
  · omega
theorem Cut.dn_tz (c : Cut) : c.dn.tz = min c.fz c.tz := by
  unfold Cut.dn
  split
  · dsimp only; omega
  · omega
/-- Where the tool leaves the point before it is lowest. -/
theorem steep {c : Cut} {x y : Rat} (ho : c.ov x y c.r) (hf : ¬ c.fl x y) : c.fz ≠ c.tz ∧ 0 < c.dd ∧ 0 ≤ c.inn x y ∧ 0 < c.dd + c.pd x y ∧ c.inn x y < (c.dd + c.pd x y) * (c.dd + c.pd x y) := by
  obtain ⟨hr, hd⟩ := ho
  have h1 : c.fz ≠ c.tz := fun e => hf (.inl e)
  have h2 : ¬ ((c.tx : Rat) - x) * ((c.tx : Rat) - x) + ((c.ty : Rat) - y) * ((c.ty : Rat) - y) ≤ (c.r : Rat) * (c.r : Rat) := fun e => hf (.inr e)
  obtain ⟨u, u0, u1, eu⟩ := ds_at (c.fx : Rat) (c.fy : Rat) (c.tx : Rat) (c.ty : Rat) x y
  have en := (ds_ends (c.fx : Rat) (c.fy : Rat) (c.tx : Rat) (c.ty : Rat) x y).1
  unfold Cut.dd Cut.inn Cut.pd Cut.dd
  have hcase : ¬ ((c.tx : Rat) - (c.fx : Rat)) * ((c.tx : Rat) - (c.fx : Rat)) + ((c.ty : Rat) - (c.fy : Rat)) * ((c.ty : Rat) - (c.fy : Rat)) ≤ ((c.tx : Rat) - (c.fx : Rat)) * (x - (c.fx : Rat)) + ((c.ty : Rat) - (c.fy : Rat)) * (y - (c.fy : Rat)) := fun hle => by
    unfold dsF at hd
    split at hd
    · rename_i h3
      have := sqr ((c.tx : Rat) - (c.fx : Rat))
      have := sqr ((c.ty : Rat) - (c.fy : Rat))
      have a : ((c.tx : Rat) - (c.fx : Rat)) * ((c.tx : Rat) - (c.fx : Rat)) = 0 := by grind
      have b : ((c.ty : Rat) - (c.fy : Rat)) * ((c.ty : Rat) - (c.fy : Rat)) = 0 := by grind
      have a' : (c.tx : Rat) = (c.fx : Rat) := by rcases Rat.mul_eq_zero.1 a with h | h <;> grind
      have b' : (c.ty : Rat) = (c.fy : Rat) := by rcases Rat.mul_eq_zero.1 b with h | h <;> grind
      rw [a', b'] at h2
      exact h2 (by grind)
    · exact h2 (by grind)
  generalize (c.r : Rat) * (c.r : Rat) = R at *
  generalize (c.fx : Rat) = fx at *
  generalize (c.fy : Rat) = fy at *
  generalize (c.tx : Rat) = tx at *
  generalize (c.ty : Rat) = ty at *
  clear hf
  have hn : 0 < (tx - fx) * (tx - fx) + (ty - fy) * (ty - fy) := by
    have := sqr (tx - fx)
    have := sqr (ty - fy)
    rcases sg_cases ((tx - fx) * (tx - fx) + (ty - fy) * (ty - fy)) with ⟨g, _⟩ | ⟨g, _⟩ | ⟨g, _⟩
    · grind
    · exfalso
      have a : (tx - fx) * (tx - fx) = 0 := by grind
      have b : (ty - fy) * (ty - fy) = 0 := by grind
      have a' : tx - fx = 0 := by rcases Rat.mul_eq_zero.1 a with h | h <;> exact h
      have b' : ty - fy = 0 := by rcases Rat.mul_eq_zero.1 b with h | h <;> exact h
      rw [a', b'] at hcase
      exact hcase (by grind)
    · exact g
  refine ⟨h1, hn, ?_, by grind, ?_⟩
  · rw [eu] at hd
    have k1 := Rat.mul_nonneg (Rat.le_of_lt hn) (show 0 ≤ R - ((x - (fx + u * (tx - fx))) * (x - (fx + u * (tx - fx))) + (y - (fy + u * (ty - fy))) * (y - (fy + u * (ty - fy)))) by grind)
    have k2 := sqr ((tx - fx) * (x - (fx + u * (tx - fx))) + (ty - fy) * (y - (fy + u * (ty - fy))))
    clear eu en hd h2 hcase
    generalize hX : x - (fx + u * (tx - fx)) = X at *
    generalize hY : y - (fy + u * (ty - fy)) = Y at *
    have ex : fx - x = -X - u * (tx - fx) := by rw [← hX]; grind
    have ey : fy - y = -Y - u * (ty - fy) := by rw [← hY]; grind
    rw [ex, ey]
    clear hX hY ex ey
    generalize tx - fx = dx at *
    generalize ty - fy = dy at *
    grind
  · have k := Rat.mul_pos hn (show 0 < ((tx - x) * (tx - x) + (ty - y) * (ty - y)) - R by grind)
    clear eu en hd h2 hcase
    have ex : tx - x = (fx - x) + (tx - fx) := by grind
    have ey : ty - y = (fy - y) + (ty - fy) := by grind
    rw [ex, ey] at k
    generalize tx - fx = dx at *
    generalize ty - fy = dy at *
    generalize fx - x = X at *
    generalize fy - y = Y at *
    grind
theorem Cut.sd_ok {c : Cut} {x y : Rat} (ho : c.ov x y c.r) : (c.sd x y).Ok := by
  unfold Cut.sd
  split
  · exact .inl ⟨rfl, rfl⟩
  · rename_i hf
    exact mk_red (steep ho hf).2.2.1
theorem Cut.sw_ok {c : Cut} {x y : Rat} (ho : c.ov x y c.r) : (c.sw x y).Ok := Cut.sd_ok (by rw [Cut.dn_r]; exact Cut.dn_ov.2 ho)
/-- What a steep cut's height comes to. -/
theorem sd_va {c : Cut} {x y : Rat} (ho : c.ov x y c.r) (hf : ¬ c.fl x y) : Nul fun k => (c.sd x y).va k - va ((c.fz : Rat) - c.sl * c.pd x y) c.sl (c.inn x y) k := by
  have := mk_va (A := (c.fz : Rat) - c.sl * c.pd x y) (B := c.sl) (steep ho hf).2.2.1
  unfold Cut.sd Rt.va
  rw [if_neg hf]
  exact this
theorem sd_fl {c : Cut} {x y : Rat} (hf : c.fl x y) : c.sd x y = ⟨(c.tz : Rat), 0, 0⟩ := by
  unfold Cut.sd
  rw [if_pos hf]
theorem rt_int {n : Rat} : (⟨n, 0, 0⟩ : Rt).Ok := .inl ⟨rfl, rfl⟩
theorem rt_int_va {n : Rat} (k : Nat) : (⟨n, 0, 0⟩ : Rt).va k = n := by unfold Rt.va va; rw [ra_zero]; grind
theorem sl_dd {c : Cut} (h : 0 < c.dd) : c.dd * c.sl = (c.tz : Rat) - (c.fz : Rat) := by
  unfold Cut.sl
  rw [div_mul h, Rat.intCast_sub]
/-- No cut sweeps below its lower end. -/
theorem sd_ge {c : Cut} {x y : Rat} (ho : c.ov x y c.r) (hz : c.tz ≤ c.fz) : (⟨(c.tz : Rat), 0, 0⟩ : Rt).cm (c.sd x y) ≤ 0 := by
  by_cases hf : c.fl x y
  · rw [sd_fl hf, Rt.cm_self rt_int]; omega
  · obtain ⟨h1, h2, h3, h4, h5⟩ := steep ho hf
    have s := (Rt.sgn (Cut.sd_ok ho) (rt_int (n := (c.tz : Rat))))
    have s2 := s.near (y := fun k => va ((c.fz : Rat) - c.sl * c.pd x y) c.sl (c.inn x y) k - (c.tz : Rat)) ((sd_va ho hf).neg.congr fun k => by rw [rt_int_va]; grind)
    have e := sl_dd h2
    have hs : c.sl ≤ 0 := by
      have := Rat.intCast_le_intCast.2 hz
      rcases sg_cases c.sl with ⟨g, _⟩ | ⟨g, _⟩ | ⟨g, _⟩
      · grind
      · grind
      · have := Rat.mul_pos h2 g; grind
    have := s2.ge 0 (fun k _ => by
      have a := ra_spec h3 k
      have b : ra (c.inn x y) k ≤ c.dd + c.pd x y := sq_le (by grind) (by grind)
      have d := Rat.mul_nonneg (show 0 ≤ -c.sl by grind) (show 0 ≤ c.dd + c.pd x y - ra (c.inn x y) k by grind)
      unfold va
      grind)
    have := Rt.cm_anti (Cut.sd_ok ho) (rt_int (n := (c.tz : Rat)))
    omega
theorem sw_ge {c : Cut} {x y : Rat} (ho : c.ov x y c.r) : (⟨((min c.fz c.tz : Int) : Rat), 0, 0⟩ : Rt).cm (c.sw x y) ≤ 0 := by
  have := sd_ge (c := c.dn) (x := x) (y := y) (by rw [Cut.dn_r]; exact Cut.dn_ov.2 ho) c.dn_le
  rw [Cut.dn_tz] at this
  exact this
open Classical in
/-- One cut more. -/
noncomputable def hst (x y : Rat) (o : Rt) (c : Cut) : Rt := if c.ov x y c.r ∧ (c.sw x y).cm o < 0 then c.sw x y else o
/-- The height after cuts. -/
noncomputable def heF (x y : Rat) (o : Rt) (l : List Cut) : Rt := l.foldl (hst x y) o
theorem hst_ok {x y : Rat} {o : Rt} {c : Cut} (ho : o.Ok) : (hst x y o c).Ok := by
  unfold hst
  split
  · rename_i h; exact Cut.sw_ok h.1
  · exact ho
theorem heF_ok {x y : Rat} : ∀ {l : List Cut} {o : Rt}, o.Ok → (heF x y o l).Ok
  | [], o, h => h
  | c :: l, o, h => heF_ok (l := l) (hst_ok h)
theorem hst_le {x y : Rat} {o : Rt} {c : Cut} (ho : o.Ok) : (hst x y o c).cm o ≤ 0 ∧ (c.ov x y c.r → (hst x y o c).cm (c.sw x y) ≤ 0) := by
  unfold hst
  split
  · rename_i h
    exact ⟨by omega, fun _ => by rw [Rt.cm_self (Cut.sw_ok h.1)]; omega⟩
  · rename_i h
    refine ⟨by rw [Rt.cm_self ho]; omega, fun hv => ?_⟩
    have := Rt.cm_anti ho (Cut.sw_ok hv)
    have : ¬ (c.sw x y).cm o < 0 := fun e => h ⟨hv, e⟩
    omega
theorem heF_le {x y : Rat} : ∀ {l : List Cut} {o : Rt}, o.Ok → (heF x y o l).cm o ≤ 0 ∧ ∀ c, c ∈ l → c.ov x y c.r → (heF x y o l).cm (c.sw x y) ≤ 0
  | [], o, h => ⟨by show o.cm o ≤ 0; rw [Rt.cm_self h]; omega, by simp⟩
  | d :: l, o, h => by
    have h1 := hst_ok (x := x) (y := y) (c := d) h
    obtain ⟨k1, k2⟩ := heF_le (x := x) (y := y) (l := l) h1
    obtain ⟨m1, m2⟩ := hst_le (x := x) (y := y) (c := d) h
    have hk := heF_ok (x := x) (y := y) (l := l) h1
    refine ⟨Rt.cm_trans hk h1 h k1 m1, fun c hc hv => ?_⟩
    rcases List.mem_cons.1 hc with rfl | hc
    · exact Rt.cm_trans hk h1 (Cut.sw_ok hv) k1 (m2 hv)
    · exact k2 c hc hv
theorem heF_in {x y : Rat} : ∀ {l : List Cut} {o : Rt}, heF x y o l = o ∨ ∃ c, c ∈ l ∧ c.ov x y c.r ∧ heF x y o l = c.sw x y
  | [], o => .inl rfl
  | d :: l, o => by
    have e : heF x y o (d :: l) = heF x y (hst x y o d) l := rfl
    rw [e]
    rcases heF_in (x := x) (y := y) (l := l) (o := hst x y o d) with h | ⟨c, h1, h2, h3⟩
    · rw [h]
      by_cases hd : d.ov x y d.r ∧ (d.sw x y).cm o < 0
      · exact .inr ⟨d, by simp, hd.1, by unfold hst; rw [if_pos hd]⟩
      · left; unfold hst; rw [if_neg hd]
    · exact .inr ⟨c, by simp [h1], h2, h3⟩
/-- One list of cuts leaves nothing that the other one takes. -/
theorem heF_cmp {x y : Rat} {o : Rt} (ho : o.Ok) {l m : List Cut} (h : ∀ c, c ∈ l → c.ov x y c.r → ∃ d, d ∈ m ∧ d.ov x y d.r ∧ (d.sw x y).cm (c.sw x y) ≤ 0) : (heF x y o m).cm (heF x y o l) ≤ 0 := by
  have hm := heF_le (x := x) (y := y) (l := m) ho
  have om := heF_ok (x := x) (y := y) (l := m) ho
  rcases heF_in (x := x) (y := y) (l := l) (o := o) with e | ⟨c, h1, h2, h3⟩
  · rw [e]; exact hm.1
  · rw [h3]
    obtain ⟨d, d1, d2, d3⟩ := h c h1 h2
    exact Rt.cm_trans om (Cut.sw_ok d2) (Cut.sw_ok h2) (hm.2 d d1 d2) d3
theorem heF_same {x y : Rat} {o : Rt} (ho : o.Ok) {l m : List Cut} (h : ∀ c, c ∈ l ↔ c ∈ m) : (heF x y o l).cm (heF x y o m) = 0 := by
  have a := heF_cmp (x := x) (y := y) ho (l := l) (m := m) (fun c hc hv => ⟨c, (h c).1 hc, hv, by rw [Rt.cm_self (Cut.sw_ok hv)]; omega⟩)
  have b := heF_cmp (x := x) (y := y) ho (l := m) (m := l) (fun c hc hv => ⟨c, (h c).2 hc, hv, by rw [Rt.cm_self (Cut.sw_ok hv)]; omega⟩)
  have := Rt.cm_anti (heF_ok (x := x) (y := y) (l := l) ho) (heF_ok (x := x) (y := y) (l := m) ho)
  omega
/-- A cut that another one dominates. -/
def Cut.dom (c b : Cut) : Prop := c.fz = c.tz ∧ b.fz = b.tz ∧ b.fz ≤ c.fz ∧ b.ov (c.fx : Rat) (c.fy : Rat) (b.r - c.r) ∧ b.ov (c.tx : Rat) (c.ty : Rat) (b.r - c.r)
theorem dom_ov {c b : Cut} (h : c.dom b) {x y : Rat} {ρ : Int} (hv : c.ov x y ρ) : b.ov x y (ρ + (b.r - c.r)) := by
  obtain ⟨h1, h2, h3, ⟨k0, k1⟩, ⟨_, k2⟩⟩ := h
  obtain ⟨v0, v1⟩ := hv
  refine ⟨by omega, ?_⟩
  have r0 := Rat.intCast_le_intCast.2 v0
  have r1 := Rat.intCast_le_intCast.2 k0
  rw [z0] at r0 r1
  rw [Rat.intCast_add]
  exact ds_near r0 r1 k1 k2 v1
theorem dom_trans {a b c : Cut} (h1 : a.dom b) (h2 : b.dom c) : a.dom c := by
  have h2' := h2
  obtain ⟨p1, p2, p3, p4, p5⟩ := h1
  obtain ⟨q1, q2, q3, q4, q5⟩ := h2
  refine ⟨p1, q2, by omega, ?_, ?_⟩
  · have := dom_ov h2' p4
    rwa [show b.r - a.r + (c.r - b.r) = c.r - a.r by omega] at this
  · have := dom_ov h2' p5
    rwa [show b.r - a.r + (c.r - b.r) = c.r - a.r by omega] at this
theorem sw_level {c : Cut} (h : c.fz = c.tz) (x y : Rat) : c.sw x y = ⟨(c.tz : Rat), 0, 0⟩ := by
  unfold Cut.sw Cut.dn
  rw [if_neg (by omega)]
  exact sd_fl (.inl h)
theorem int_cm {a b : Int} (h : a ≤ b) : (⟨(a : Rat), 0, 0⟩ : Rt).cm ⟨(b : Rat), 0, 0⟩ ≤ 0 := by
  have s := Rt.sgn (rt_int (n := (b : Rat))) (rt_int (n := (a : Rat)))
  have := Rat.intCast_le_intCast.2 h
  have := s.ge 0 (fun k _ => by rw [rt_int_va, rt_int_va]; grind)
  have := Rt.cm_anti (rt_int (n := (b : Rat))) (rt_int (n := (a : Rat)))
  omega
/-- Where a dominated cut removes something, the other one removes as much. -/
theorem dom_sw {c b : Cut} (h : c.dom b) {x y : Rat} (hv : c.ov x y c.r) : b.ov x y b.r ∧ (b.sw x y).cm (c.sw x y) ≤ 0 := by
  have k := dom_ov h hv
  rw [show c.r + (b.r - c.r) = b.r by omega] at k
  refine ⟨k, ?_⟩
  rw [sw_level h.1, sw_level h.2.1]
  exact int_cm (by have := h.1; have := h.2.1; have := h.2.2.1; omega)
end Num
