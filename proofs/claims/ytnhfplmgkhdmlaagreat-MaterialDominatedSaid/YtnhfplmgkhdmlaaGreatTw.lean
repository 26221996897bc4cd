/- What is proved: what the arguments of statements hold. No conditions beyond those in the statements. -/
import Derived.Test.YtnhfplmgkhdmlaaGreatTc
import Derived.Test.YtnhfplmgkhdmlaaGreatFx
set_option linter.unusedVariables false
set_option linter.unusedSimpArgs false
set_option maxHeartbeats 4000000
set_option maxRecDepth 8000
/-
What the arguments of statements hold.
-/
namespace Go.Pi
open Go Go.Proofs Num
attribute [go_sem] cloL_us Nat.reduceBNe
theorem typ_i64 {d : Nat} {cs : List PV} (h : Typ Pq (d + 1) 2 cs) : ∃ a, cs = [.int .i64 a] ∧ -9223372036854775808 ≤ a ∧ a ≤ 9223372036854775807 := by
  simp only [Typ, Tryz.underlying2] at h
  obtain ⟨n, rfl, hw⟩ := h
  refine ⟨n, rfl, ?_⟩
  simp only [Lit.wf, Bool.and_eq_true, decide_eq_true_eq] at hw
  have e1 : IntKind.i64.min = -9223372036854775808 := by decide
  have e2 : IntKind.i64.max = 9223372036854775807 := by decide
  rw [e1, e2] at hw
  exact hw
theorem typ_struct {P : Program} {d : Nat} {t : TypeId} {fs : Array Field} {cs : List PV} (hu : P.underlying t = some (.struct fs)) (h : Typ P (d + 1) t cs) : TypF (Typ P d) fs.toList cs := by
  unfold Typ at h
  rw [hu] at h
  exact h
theorem arg_struct {P : Program} {d : Nat} {t : TypeId} {fs : Array Field} {p : PV} (hu : P.underlying t = some (.struct fs)) (h : ArgT P (d + 1) t p) : ∃ cs, p = .agg cs ∧ TypF (Typ P d) fs.toList cs := by
  unfold ArgT at h
  rw [hu] at h
  obtain ⟨cs, rfl, h⟩ := h
  exact ⟨cs, rfl, typ_struct hu h⟩
theorem typ_bool {d : Nat} {cs : List PV} (h : Typ Pq (d + 1) 4 cs) : ∃ b, cs = [.bool b] := by
  simp only [Typ, Tryz.underlying4] at h
  obtain ⟨n, rfl⟩ := h
  exact ⟨n, rfl⟩
theorem typ_limbs {d : Nat} {cs : List PV} (h : Typ Pq (d + 2) 33 cs) : ∃ l, cs = [.sl false (us l)] ∧ U32 l := by
  rw [Typ, Tryz.underlying33] at h
  obtain ⟨xs, rfl, hl, hx⟩ := h
  have key : ∀ xs : List PV, (∀ x, x ∈ xs → ∃ n, x = .int .u32 n ∧ 0 ≤ n ∧ n < 4294967296) → ∃ l, xs = us l ∧ U32 l := by
    intro xs
    induction xs with
    | nil => intro _; exact ⟨[], rfl, fun x hx => by cases hx⟩
    | cons y ys ih =>
      intro h
      obtain ⟨n, rfl, h0, h1⟩ := h y (by simp)
      obtain ⟨l, rfl, hl⟩ := ih (fun x hx => h x (by simp [hx]))
      exact ⟨n :: l, rfl, fun x hx => by
        rcases List.mem_cons.1 hx with rfl | hx
        · exact ⟨h0, h1⟩
        · exact hl x hx⟩
  obtain ⟨l, rfl, hu⟩ := key xs (fun x hx' => by
    obtain ⟨p, rfl, hp⟩ := hx x hx'
    rw [Typ, Tryz.underlying143] at hp
    obtain ⟨n, rfl, hw⟩ := hp
    refine ⟨n, rfl, ?_⟩
    simp only [Lit.wf, Bool.and_eq_true, decide_eq_true_eq] at hw
    have e1 : IntKind.u32.min = 0 := by decide
    have e2 : IntKind.u32.max = 4294967295 := by decide
    rw [e1, e2] at hw
    omega)
  exact ⟨l, rfl, hu⟩
theorem typ_Int {d : Nat} {cs : List PV} (h : Typ Pq (d + 3) 35 cs) : ∃ n l, cs = [.bool n, .sl false (us l)] ∧ U32 l := by
  obtain ⟨p, q, rfl, h1, p', q', rfl, h2, rfl⟩ := typ_struct (d := d + 2) Tryz.underlying35 h
  obtain ⟨n, rfl⟩ := typ_bool h1
  obtain ⟨l, rfl, hl⟩ := typ_limbs h2
  exact ⟨n, l, rfl, hl⟩
theorem typ_Rat {d : Nat} {cs : List PV} (h : Typ Pq (d + 4) 37 cs) : ∃ x : RA, cs = x.cs ∧ x.Wf := by
  obtain ⟨p, q, rfl, h1, p', q', rfl, h2, rfl⟩ := typ_struct (d := d + 3) Tryz.underlying37 h
  obtain ⟨n, a, rfl, ha⟩ := typ_Int h1
  obtain ⟨m, b, rfl, hb⟩ := typ_Int h2
  exact ⟨⟨n, a, m, b⟩, rfl, ha, hb⟩
theorem arg_Rat {p : PV} (h : ArgT Pq 9 37 p) : ∃ x : RA, p = .agg x.cs ∧ x.Wf := by
  unfold ArgT at h
  rw [Tryz.underlying37] at h
  obtain ⟨cs, rfl, h⟩ := h
  obtain ⟨x, rfl, hw⟩ := typ_Rat (d := 5) h
  exact ⟨x, rfl, hw⟩
end Go.Pi
