/- What is proved: regions, code and calls answer as values what they answer in the model. No conditions beyond those in the statements. -/
import Derived.Test.YtnhfplmgkhdmlaaGreatPb
import Derived.Test.YtnhfplmgkhdmlaaGreatPa
import Derived.LoopN
set_option linter.unusedVariables false
set_option linter.unusedSimpArgs false
namespace Go.Pi
open Go.RowKit

/-! ### Operations that may change places -/
def cont : Blk → Option (TypeId × List PV)
  | .dead => none
  | .live _ t cs => some (t, cs)
def isN (φ : Mem → Option (PV × Mem)) : Prop := ∃ y : Option PV, ∀ M, φ M = y.map fun p => (p, M)
def isR (φ : Mem → Option (PV × Mem)) : Prop := ∃ (g : Mem → Option PV) (L : PV → List PV), (∀ M, φ M = (g M).map fun p => (p, hold M (L p))) ∧ ∀ M M' : Mem, (∀ id, cont (M.m id) = cont (M'.m id)) → g M = g M'
def isL (F : List Nat) (φ : Mem → Option (PV × Mem)) : Prop := ∃ g : Mem → Option PV, (∀ M, φ M = (g M).map fun p => (p, M)) ∧ ∀ M M' : Mem, (∀ id, id ∈ F → M.m id = M'.m id) → g M = g M'
def isW (nx0 : Nat) (F : List Nat) (φ : Mem → Option (PV × Mem)) : Prop := ∀ M p M', nx0 ≤ M.nx → φ M = some (p, M') → ∀ id, id < nx0 → ¬ id ∈ F → M'.m id = M.m id
theorem hold_cont (M : Mem) (L : List PV) (id : Nat) : cont ((hold M L).m id) = cont (M.m id) := by
  rcases hold_m L M id with ⟨_, wr, ty, cs, h1, h2⟩ | ⟨_, h2⟩
  · rw [h1, h2]; rfl
  · rw [h2]
theorem hold_comm (M : Mem) (L L' : List PV) : hold (hold M L) L' = hold (hold M L') L := by
  have key : ∀ (L L' : List PV) (id : Nat), (hold (hold M L) L').m id = (hold (hold M L') L).m id := fun L L' id => by
    rcases hold_m L M id with ⟨a1, wr, ty, cs, h1, h2⟩ | ⟨a1, h2⟩
    · rcases hold_m L' (hold M L) id with ⟨b1, wr', ty', cs', h3, h4⟩ | ⟨b1, h4⟩
      · rw [h2] at h3
        cases h3
        rw [h4]
        rcases hold_m L' M id with ⟨c1, wr', ty', cs', h5, h6⟩ | ⟨c1, h6⟩
        · rw [h1] at h5; cases h5
          rcases hold_m L (hold M L') id with ⟨d1, wr', ty', cs', h7, h8⟩ | ⟨d1, h8⟩
          · rw [h6] at h7; cases h7; rw [h8]
          · rw [h8, h6]
        · rcases c1 with c1 | c1
          · exact absurd b1 c1
          · rw [h1] at c1; cases c1
      · rcases b1 with b1 | b1
        · rw [h4, h2]
          rcases hold_m L' M id with ⟨c1, _⟩ | ⟨c1, h6⟩
          · exact absurd c1 b1
          · rcases hold_m L (hold M L') id with ⟨d1, wr', ty', cs', h7, h8⟩ | ⟨d1, h8⟩
            · rw [h6, h1] at h7; cases h7; rw [h8]
            · rcases d1 with d1 | d1
              · exact absurd a1 d1
              · rw [h6, h1] at d1; cases d1
        · rw [h2] at b1; cases b1
    · rcases hold_m L' (hold M L) id with ⟨b1, wr', ty', cs', h3, h4⟩ | ⟨b1, h4⟩
      · rw [h4]
        rw [h2] at h3
        rcases a1 with a1 | a1
        · rcases hold_m L' M id with ⟨c1, wr2, ty2, cs2, h5, h6⟩ | ⟨c1, h6⟩
          · rw [h3] at h5; cases h5
            rcases hold_m L (hold M L') id with ⟨d1, _⟩ | ⟨d1, h8⟩
            · exact absurd d1 a1
            · rw [h8, h6]
          · rcases c1 with c1 | c1
            · exact absurd b1 c1
            · rw [h3] at c1; cases c1
        · rw [h3] at a1; cases a1
      · rw [h4, h2]
        rw [h2] at b1
        by_cases hd : M.m id = .dead
        · rcases hold_m L' M id with ⟨_, _, _, _, h5, _⟩ | ⟨_, h6⟩
          · rw [hd] at h5; cases h5
          · rcases hold_m L (hold M L') id with ⟨_, _, _, _, h7, _⟩ | ⟨_, h8⟩
            · rw [h6, hd] at h7; cases h7
            · rw [h8, h6]
        · have a1 := a1.resolve_right hd
          have b1 := b1.resolve_right hd
          rcases hold_m L' M id with ⟨c1, _⟩ | ⟨_, h6⟩
          · exact absurd c1 b1
          · rcases hold_m L (hold M L') id with ⟨c1, _⟩ | ⟨_, h8⟩
            · exact absurd c1 a1
            · rw [h8, h6]
  have h1 : (hold (hold M L) L').m = (hold (hold M L') L).m := funext (key L L')
  have h2 : (hold (hold M L) L').nx = (hold (hold M L') L).nx := by simp only [hold_nx]
  cases hA : hold (hold M L) L'
  cases hB : hold (hold M L') L
  rw [hA] at h1 h2
  rw [hB] at h1 h2
  simp at h1 h2
  rw [h1, h2]
/-- Two operations, at one state of the variables. -/
theorem swapM {nx0 : Nat} {Fj Fi : List Nat} {φ ψ : Mem → Option (PV × Mem)} (h : isN φ ∨ isN ψ ∨ (isR φ ∧ isR ψ) ∨ ((∀ x, x ∈ Fj → x < nx0 ∧ ¬ x ∈ Fi) ∧ (∀ x, x ∈ Fi → x < nx0 ∧ ¬ x ∈ Fj) ∧ ((isL Fj φ ∧ isW nx0 Fi ψ) ∨ (isW nx0 Fj φ ∧ isL Fi ψ))))
    {M M1 M2 : Mem} {p q : PV} (hM : nx0 ≤ M.nx) (h1 : φ M = some (p, M1)) (h2 : ψ M1 = some (q, M2)) : ∃ M1', ψ M = some (q, M1') ∧ φ M1' = some (p, M2) := by
  rcases h with ⟨y, hy⟩ | ⟨y, hy⟩ | ⟨⟨g, L, hg, hgc⟩, ⟨g', L', hg', hgc'⟩⟩ | ⟨hd1, hd2, ⟨⟨g, hg, hgc⟩, hw⟩ | ⟨hw, ⟨g, hg, hgc⟩⟩⟩
  · rw [hy] at h1
    simp only [Option.map_eq_some_iff, Prod.mk.injEq] at h1
    obtain ⟨p', hy1, rfl, rfl⟩ := h1
    exact ⟨M2, h2, by rw [hy, hy1]; rfl⟩
  · rw [hy] at h2
    simp only [Option.map_eq_some_iff, Prod.mk.injEq] at h2
    obtain ⟨p', hy1, rfl, rfl⟩ := h2
    exact ⟨M, by rw [hy, hy1]; rfl, h1⟩
  · rw [hg] at h1
    simp only [Option.map_eq_some_iff, Prod.mk.injEq] at h1
    obtain ⟨p', hp, rfl, rfl⟩ := h1
    rw [hg'] at h2
    simp only [Option.map_eq_some_iff, Prod.mk.injEq] at h2
    obtain ⟨q', hq, rfl, rfl⟩ := h2
    rw [hgc' _ M (fun id => hold_cont _ _ _)] at hq
    refine ⟨hold M (L' q'), by rw [hg', hq]; rfl, ?_⟩
    rw [hg, hgc _ M (fun id => hold_cont _ _ _), hp, hold_comm]
    rfl
  · rw [hg] at h1
    simp only [Option.map_eq_some_iff, Prod.mk.injEq] at h1
    obtain ⟨p', hp, rfl, rfl⟩ := h1
    refine ⟨M2, h2, ?_⟩
    rw [hg, hgc M2 M (fun id hid => hw M q M2 hM h2 id (hd1 id hid).1 (hd1 id hid).2), hp]
    rfl
  · rw [hg] at h2
    simp only [Option.map_eq_some_iff, Prod.mk.injEq] at h2
    obtain ⟨q', hq, rfl, rfl⟩ := h2
    refine ⟨M, ?_, h1⟩
    rw [hg, ← hgc M1 M (fun id hid => hw M p M1 hM h1 id (hd2 id hid).1 (hd2 id hid).2), hq]
    rfl

section
variable {P : Program} {C : FuncId → List PV → Mem → Option (PV × Mem)} {sh : FuncId → Bool}
theorem cont_live {b b' : Blk} (h : cont b = cont b') : (b = .dead ∧ b' = .dead) ∨ ∃ w w' t cs, b = .live w t cs ∧ b' = .live w' t cs := by
  cases b with
  | dead => cases b' with
    | dead => exact .inl ⟨rfl, rfl⟩
    | live => simp [cont] at h
  | live w t cs => cases b' with
    | dead => simp [cont] at h
    | live w' t' cs' =>
      simp only [cont, Option.some.injEq, Prod.mk.injEq] at h
      obtain ⟨rfl, rfl⟩ := h
      exact .inr ⟨w, w', t, cs, rfl, rfl⟩
theorem frz0_cont {M M' : Mem} (h : ∀ id, cont (M.m id) = cont (M'.m id)) (p : PV) : frz0 M p = frz0 M' p := by
  cases p <;> simp only [frz0]
  rename_i id sz off len cap ex
  rcases cont_live (h id) with ⟨h1, h2⟩ | ⟨w, w', t, cs, h1, h2⟩ <;> rw [h1, h2]
theorem frzL0_cont {M M' : Mem} (h : ∀ id, cont (M.m id) = cont (M'.m id)) : ∀ ps : List PV, frzL0 M ps = frzL0 M' ps
  | [] => rfl
  | x :: xs => by simp only [frzL0, frz0_cont h x, frzL0_cont h xs]
theorem frz1_cont {M M' : Mem} (h : ∀ id, cont (M.m id) = cont (M'.m id)) (p : PV) : frz1 M p = frz1 M' p := by
  unfold frz1
  split
  · rw [frzL0_cont h]
  · exact frz0_cont h _
theorem frzL_cont {M M' : Mem} (h : ∀ id, cont (M.m id) = cont (M'.m id)) : ∀ ps : List PV, frzL M ps = frzL M' ps
  | [] => rfl
  | x :: xs => by simp only [frzL, frz1_cont h x, frzL_cont h xs]
theorem items_cont {M M' : Mem} (h : ∀ id, cont (M.m id) = cont (M'.m id)) (p : PV) : items M p = items M' p := by
  cases p <;> simp only [items]
  rename_i id sz off len cap ex
  rcases cont_live (h id) with ⟨h1, h2⟩ | ⟨w, w', t, cs, h1, h2⟩ <;> rw [h1, h2]
theorem appP_cont {M M' : Mem} (h : ∀ id, cont (M.m id) = cont (M'.m id)) (as : Array TypeId) (vs : List PV) : appP P as M vs = appP P as M' vs := by
  unfold appP
  split <;> first | rfl | skip
  rw [items_cont h]
/-- A call for itself reads alone. -/
theorem call_isR (f : FuncId) (vs : List PV) (h : sh f = false) : isR (fun M => callOp C sh f vs M) := by
  refine ⟨fun M => (frzL M vs).bind fun as => (C f as mem0).bind fun q => frz q.2 q.1, fun p => if p.scalar then [] else flat vs, fun M => ?_, fun M M' hc => by simp only [frzL_cont hc]⟩
  simp only [callOp, h, if_false, Bool.false_eq_true]
  cases h1 : frzL M vs with
  | none => rfl
  | some as =>
    simp only [Option.bind_some]
    cases h2 : C f as mem0 with
    | none => rfl
    | some q =>
      simp only [Option.bind_some]
      cases h3 : frz q.2 q.1 with
      | none => rfl
      | some x =>
        simp only [Option.bind_some, Option.map_some]
        split
        · rename_i hs; simp only [hs, if_true, hold]
        · rename_i hs; simp only [hs, if_false, Bool.false_eq_true]
theorem isN_none : isN (fun _ => none) := ⟨none, fun _ => rfl⟩
theorem isR_of_pure {g : Mem → Option PV} (h : ∀ M M' : Mem, (∀ id, cont (M.m id) = cont (M'.m id)) → g M = g M') : isR (fun M => (g M).map fun p => (p, M)) :=
  ⟨g, fun _ => [], fun M => by simp only [hold], h⟩
theorem load_cont {r : Nat → PV} {t : TypeId} {x : Operand} {M M' : Mem} (h : ∀ id, cont (M.m id) = cont (M'.m id)) : pureOp P r M (.load t x) = pureOp P r M' (.load t x) := by
  simp only [pureOp]
  split
  · rename_i T id off _ _
    rcases cont_live (h id) with ⟨h1, h2⟩ | ⟨w, w', t, cs, h1, h2⟩ <;> rw [h1, h2]
  · rfl
  · rename_i n1 n2
    rfl
theorem slice_cont {r : Nat → PV} {t : TypeId} {x : Operand} {lo hi mx : Option Operand} {M M' : Mem} (h : ∀ id, cont (M.m id) = cont (M'.m id)) : pureOp P r M (.slice t x lo hi mx) = pureOp P r M' (.slice t x lo hi mx) := by
  simp only [pureOp]
  split
  · rfl
  · rename_i k e _ _ _ id off _ _
    rcases cont_live (h id) with ⟨h1, h2⟩ | ⟨w, w', t, cs, h1, h2⟩ <;> rw [h1, h2]
  · rfl
theorem kd0_isN {op : Op} (h : kd sh op = 0) (k : Nat) (r : Nat → PV) : isN (fun M => drwOp P C sh k r M op) := by
  have pu : ∀ {op : Op}, (∀ M, drwOp P C sh k r M op = (pureOp P r M op).map fun v => (v, M)) → (∀ M, pureOp P r M op = pureOp P r mem0 op) → isN (fun M => drwOp P C sh k r M op) := fun {op} h1 h2 => ⟨pureOp P r mem0 op, fun M => by
    show drwOp P C sh k r M op = _
    rw [h1, h2]⟩
  cases op <;> first | (simp [kd] at h; done) | skip
  case alloc e => exact ⟨some (.ptr k 0), fun M => rfl⟩
  case makeFunc fn _ _ => cases fn <;> exact pu (fun M => rfl) (fun M => rfl)
  case call c =>
    obtain ⟨cal, xs, ts⟩ := c
    cases cal with
    | invoke _ _ => simp [kd] at h
    | value g => cases g <;> simp [kd] at h; split at h <;> simp at h
    | builtin b => cases b <;> first | (simp [kd] at h; done) | skip
                   case append => simp only [kd] at h; split at h <;> simp at h
                   all_goals exact pu (fun M => rfl) (fun M => rfl)
  all_goals exact pu (fun M => rfl) (fun M => rfl)
theorem kd2_isR {op : Op} (h : kd sh op ≤ 2) (k : Nat) (r : Nat → PV) : isR (fun M => drwOp P C sh k r M op) := by
  have ofN : isN (fun M => drwOp P C sh k r M op) → isR (fun M => drwOp P C sh k r M op) := fun ⟨y, hy⟩ => ⟨fun _ => y, fun _ => [], fun M => by rw [hy]; rfl, fun _ _ _ => rfl⟩
  by_cases h0 : kd sh op = 0
  · exact ofN (kd0_isN h0 k r)
  cases op <;> first | (simp [kd] at h; done) | (simp [kd] at h0; done) | skip
  case load t x => exact isR_of_pure (g := fun M => pureOp P r M (.load t x)) (fun M M' hc => load_cont hc)
  case slice t x lo hi mx => exact isR_of_pure (g := fun M => pureOp P r M (.slice t x lo hi mx)) (fun M M' hc => slice_cont hc)
  case call c =>
    obtain ⟨cal, xs, ts⟩ := c
    cases cal with
    | invoke _ _ => simp [kd] at h
    | builtin b =>
      cases b <;> first | (simp [kd] at h; done) | (simp [kd] at h0; done) | skip
      simp only [kd] at h
      split at h
      · rename_i hn
        simp only [drwOp, hn, if_true]
        cases hv : evL r xs.toList with
        | none => exact ⟨fun _ => none, fun _ => [], fun M => rfl, fun _ _ _ => rfl⟩
        | some vs => exact isR_of_pure (g := fun M => appP P ts M vs) (fun M M' hc => appP_cont hc ts vs)
      · simp at h
    | value g =>
      cases g with
      | const _ => simp [kd] at h
      | global _ => simp [kd] at h
      | func f =>
        simp only [kd] at h
        split at h
        · simp at h
        · rename_i hf
          simp only [drwOp]
          cases hv : evL r xs.toList with
          | none => exact ⟨fun _ => none, fun _ => [], fun M => rfl, fun _ _ _ => rfl⟩
          | some vs => exact call_isR f vs (by simpa using hf)
      | tmp t =>
        simp only [drwOp]
        cases hv : ev r (.tmp t) with
        | none => exact ⟨fun _ => none, fun _ => [], fun M => rfl, fun _ _ _ => rfl⟩
        | some v =>
          cases v <;> first | exact ⟨fun _ => none, fun _ => [], fun M => rfl, fun _ _ _ => rfl⟩ | skip
          rename_i f cs
          cases hv : evL r xs.toList with
          | none => exact ⟨fun _ => none, fun _ => [], fun M => rfl, fun _ _ _ => rfl⟩
          | some vs => exact call_isR (sh := fun _ => false) f (vs ++ cs) rfl
theorem kd1_isL {op : Op} (h : kd sh op = 1) (k : Nat) (r : Nat → PV) : isL (foot k r op) (fun M => drwOp P C sh k r M op) := by
  cases op <;> first | (simp [kd] at h; done) | skip
  case load t x =>
    refine ⟨fun M => pureOp P r M (.load t x), fun M => rfl, fun M M' hc => ?_⟩
    simp only [foot] at hc
    simp only [pureOp]
    split
    · rename_i T id off _ hx
      rw [hx] at hc
      rw [hc id (by simp)]
    · rfl
    · rfl
  case slice t x lo hi mx =>
    refine ⟨fun M => pureOp P r M (.slice t x lo hi mx), fun M => rfl, fun M M' hc => ?_⟩
    simp only [foot] at hc
    simp only [pureOp]
    split
    · rfl
    · rename_i N e _ _ _ id off _ hx
      rw [hx] at hc
      rw [hc id (by simp)]
    · rfl
  case call c =>
    obtain ⟨cal, xs, ts⟩ := c
    cases cal with
    | invoke _ _ => simp [kd] at h
    | builtin b =>
      cases b <;> first | (simp [kd] at h; done) | skip
      simp only [kd] at h
      split at h <;> simp at h
    | value g =>
      cases g <;> simp [kd] at h
      split at h <;> simp at h
theorem upd_ne {α : Type} {f : Nat → α} {i j : Nat} {x : α} (h : j ≠ i) : upd f i x j = f j := by simp only [upd, if_neg h]
theorem app_frame {k : Nat} {as : Array TypeId} {M : Mem} {s y p : PV} {m' : Nat → Blk} (h : app P k as M [s, y] = some (p, m')) (j : Nat) (h1 : j ≠ k) (h2 : ∀ sz off len cap ex, s ≠ .ref j sz off len cap ex) : m' j = M.m j := by
  unfold app at h
  simp only at h
  split at h
  · split at h
    · split at h
      · split at h
        · split at h
          · split at h
            · simp at h; rw [← h.2]
            · simp at h
          · split at h
            · split at h
              · split at h
                · simp at h; rw [← h.2]; exact upd_ne h1
                · simp at h
              · rename_i id sz off len cap ex
                have hne : j ≠ id := fun e => by subst e; exact h2 _ _ _ _ _ rfl
                split at h
                · split at h
                  · split at h
                    · split at h
                      · simp at h; rw [← h.2]; exact upd_ne hne
                      · simp at h
                    · split at h
                      · split at h
                        · split at h
                          · simp at h; rw [← h.2]; exact upd_ne h1
                          · simp at h
                        · split at h
                          · simp at h; rw [← h.2]; rw [upd_ne h1, upd_ne hne]
                          · simp at h
                      · simp at h
                  · simp at h
                · simp at h
              · simp at h
            · simp at h
        · simp at h
      · simp at h
    · simp at h
  · simp at h
theorem store_frame {T : Ti} {M M' : Mem} {x v : PV} (h : store T M x v = some M') (j : Nat) (hj : ∀ off, x ≠ .ptr j off) : M'.m j = M.m j := by
  unfold store at h
  split at h
  · rename_i id off
    have hne : j ≠ id := fun e => by subst e; exact hj _ rfl
    split at h
    · split at h
      · simp at h; rw [← h]; exact upd_ne hne
      · simp at h
    · simp at h
  · simp at h
theorem ptrsOf_mem {id : Nat} : ∀ {vs : List PV}, id ∈ ptrsOf vs → ∃ off, PV.ptr id off ∈ vs
  | [], h => by simp [ptrsOf] at h
  | v :: vs, h => by
    have tl : id ∈ ptrsOf vs → ∃ off, PV.ptr id off ∈ v :: vs := fun h => by
      obtain ⟨off, ho⟩ := ptrsOf_mem h
      exact ⟨off, List.mem_cons_of_mem _ ho⟩
    cases v <;> first | (exact tl (by simpa [ptrsOf] using h)) | skip
    rename_i i o
    simp only [ptrsOf, List.mem_cons] at h
    rcases h with rfl | h
    · exact ⟨o, by simp⟩
    · exact tl h
/-- What is asked of the functions that write where they are told alone. -/
def Frm (C : FuncId → List PV → Mem → Option (PV × Mem)) (fr : List FuncId) : Prop :=
  ∀ f, fr.contains f = true → ∀ vs M p M', C f vs M = some (p, M') → ∀ id, id < M.nx → ¬ id ∈ ptrsOf vs → M'.m id = M.m id
theorem kd3_isW {fr : List FuncId} (HF : Frm C fr) {op : Op} (h : kd sh op = 3) (hw : wOk fr op = true) (k : Nat) (r : Nat → PV) (nx0 : Nat) : isW nx0 (foot k r op) (fun M => drwOp P C sh k r M op) := by
  intro M p M' hnx hM id hid hF
  cases op <;> first | (simp [wOk] at hw; done) | skip
  case store t x v =>
    simp only [drwOp] at hM
    simp only [foot] at hF
    split at hM
    · rename_i T x' v' _ hx _
      simp only [Option.map_eq_some_iff, Prod.mk.injEq] at hM
      obtain ⟨M2, hst, _, rfl⟩ := hM
      refine store_frame hst id fun off e => ?_
      subst e
      rw [hx] at hF
      simp at hF
    · simp at hM
  case call c =>
    obtain ⟨cal, xs, ts⟩ := c
    cases cal with
    | invoke _ _ => simp [wOk] at hw
    | builtin b =>
      cases b <;> first | (simp [wOk] at hw; done) | skip
      simp only [kd] at h
      split at h
      · simp at h
      · rename_i hn
        simp only [drwOp, hn, if_false, Bool.false_eq_true, Option.bind_eq_some_iff] at hM
        obtain ⟨vs, hvs, hM⟩ := hM
        split at hM
        · simp only [Option.map_eq_some_iff, Prod.mk.injEq] at hM
          obtain ⟨_, _, _, rfl⟩ := hM
          rfl
        · simp only [Option.map_eq_some_iff, Prod.mk.injEq] at hM
          obtain ⟨q, hq, _, rfl⟩ := hM
          have two : ∃ s y, vs = [s, y] := by
            unfold app at hq
            split at hq
            · exact ⟨_, _, rfl⟩
            · simp at hq
          obtain ⟨s, y, rfl⟩ := two
          simp only [foot, List.mem_cons, not_or] at hF
          refine app_frame (p := q.1) hq id hF.1 fun sz off len cap ex e => ?_
          subst e
          have h2 := hF.2
          cases hxl : xs.toList with
          | nil => rw [hxl] at hvs; simp [evL] at hvs
          | cons x rest =>
            rw [hxl] at hvs h2
            simp only [evL, Option.bind_eq_some_iff, Option.map_eq_some_iff] at hvs
            obtain ⟨y', hy', ys, _, hcons⟩ := hvs
            simp at hcons
            rw [hcons.1] at hy'
            simp only [hy'] at h2
            simp at h2
    | value g =>
      cases g with
      | func f =>
        simp only [kd] at h
        split at h
        · rename_i hs
          simp only [drwOp, Option.bind_eq_some_iff] at hM
          obtain ⟨vs, hvs, hM⟩ := hM
          simp only [callOp, hs, if_true, Option.bind_eq_some_iff] at hM
          obtain ⟨q, hq, hM⟩ := hM
          split at hM
          · simp at hM
            subst hM
            simp only [foot, hvs] at hF
            exact HF f hw vs M p M' hq id (by omega) hF
          · simp at hM
        · simp at h
      | _ => simp [wOk] at hw

/-! ### An operation, wanted or not -/
def act (P : Program) (C : FuncId → List PV → Mem → Option (PV × Mem)) (sh : FuncId → Bool) (ops : Array Oper) (k : Nat) (o : Oper) (r : Nat → PV) (M : Mem) : Option (PV × Mem) :=
  match want ops r o with
  | some true => drwOp P C sh k r M o.op
  | some false => some (.und, M)
  | none => none
theorem stepD_act (ops : Array Oper) (k : Nat) (o : Oper) (s : St) : stepD P C sh ops k o s = (act P C sh ops k o s.r s.M).map fun q => ⟨putR s.r o.dst q.1, q.2⟩ := by
  unfold stepD act
  cases want ops s.r o with
  | none => rfl
  | some b => cases b <;> rfl
theorem isN_und : isN (fun M => some (PV.und, M)) := ⟨some .und, fun _ => rfl⟩
section
variable {ops : Array Oper} {k : Nat} {o : Oper} {r : Nat → PV}
theorem act_cases (p : (Mem → Option (PV × Mem)) → Prop) (h1 : p (fun M => drwOp P C sh k r M o.op)) (h2 : p (fun M => some (.und, M))) (h3 : p (fun _ => none)) : p (fun M => act P C sh ops k o r M) := by
  unfold act
  cases want ops r o with
  | none => exact h3
  | some b => cases b
              · exact h2
              · exact h1
theorem act_isN (h : kd sh o.op = 0) : isN (fun M => act P C sh ops k o r M) := act_cases isN (kd0_isN h k r) isN_und isN_none
theorem act_isR (h : kd sh o.op ≤ 2) : isR (fun M => act P C sh ops k o r M) :=
  act_cases isR (kd2_isR h k r) ⟨fun _ => some .und, fun _ => [], fun _ => rfl, fun _ _ _ => rfl⟩ ⟨fun _ => none, fun _ => [], fun _ => rfl, fun _ _ _ => rfl⟩
theorem act_isL (h : kd sh o.op = 1) : isL (foot k r o.op) (fun M => act P C sh ops k o r M) :=
  act_cases (isL _) (kd1_isL h k r) ⟨fun _ => some .und, fun _ => rfl, fun _ _ _ => rfl⟩ ⟨fun _ => none, fun _ => rfl, fun _ _ _ => rfl⟩
theorem act_isW {fr : List FuncId} (HF : Frm C fr) (h : kd sh o.op = 3) (hw : wOk fr o.op = true) (nx0 : Nat) : isW nx0 (foot k r o.op) (fun M => act P C sh ops k o r M) :=
  act_cases (isW nx0 _) (kd3_isW HF h hw k r nx0) (fun M p M' _ hM id _ _ => by simp at hM; rw [hM.2]) (fun M p M' _ hM => by simp at hM)
theorem act_nx {M M' : Mem} {p : PV} (h : act P C sh ops k o r M = some (p, M')) : M.nx ≤ M'.nx := by
  unfold act at h
  split at h
  · have cal : ∀ {sh : FuncId → Bool} {f vs}, callOp C sh f vs M = some (p, M') → M.nx ≤ M'.nx := fun h => by
      unfold callOp at h
      split at h
      · simp only [Option.bind_eq_some_iff] at h
        obtain ⟨q, _, h⟩ := h
        split at h
        · rename_i hq; simp at h; subst h; exact hq
        · simp at h
      · simp only [Option.bind_eq_some_iff, Option.some.injEq, Prod.mk.injEq] at h
        obtain ⟨_, _, _, _, x, _, rfl, rfl⟩ := h
        split
        · exact Nat.le_refl _
        · rw [hold_nx]; exact Nat.le_refl _
    unfold drwOp at h
    split at h
    · simp at h; rw [h.2]; exact Nat.le_refl _
    · split at h
      · rename_i T x v _ _ _
        simp only [Option.map_eq_some_iff, Prod.mk.injEq] at h
        obtain ⟨M2, hst, _, rfl⟩ := h
        unfold store at hst
        split at hst
        · split at hst
          · split at hst
            · simp at hst; rw [← hst]; exact Nat.le_refl _
            · simp at hst
          · simp at hst
        · simp at hst
      · simp at h
    · split at h
      · simp only [Option.bind_eq_some_iff, Option.map_eq_some_iff, Prod.mk.injEq] at h
        obtain ⟨_, _, _, _, _, rfl⟩ := h
        exact Nat.le_refl _
      · simp only [Option.bind_eq_some_iff] at h
        obtain ⟨_, _, h⟩ := h
        split at h
        · simp only [Option.map_eq_some_iff, Prod.mk.injEq] at h
          obtain ⟨_, _, _, rfl⟩ := h
          exact Nat.le_refl _
        · simp only [Option.map_eq_some_iff, Prod.mk.injEq] at h
          obtain ⟨_, _, _, rfl⟩ := h
          exact Nat.le_refl _
    · simp only [Option.bind_eq_some_iff] at h
      obtain ⟨_, _, h⟩ := h
      exact cal h
    · split at h
      · simp only [Option.bind_eq_some_iff] at h
        obtain ⟨_, _, h⟩ := h
        exact cal h
      · simp at h
    · simp only [Option.map_eq_some_iff, Prod.mk.injEq] at h
      obtain ⟨_, _, _, rfl⟩ := h
      exact Nat.le_refl _
  · simp at h; rw [h.2]; exact Nat.le_refl _
  · simp at h
end
end
end Go.Pi

set_option linter.unusedVariables false
set_option linter.unusedSimpArgs false
namespace Go.Pi
open Go.RowKit
section
variable {P : Program} {C : FuncId → List PV → Mem → Option (PV × Mem)} {sh : FuncId → Bool}

/-! ### What an operation looks at -/
theorem mem_tmps : ∀ {xs : List Operand} {t : Tmp}, .tmp t ∈ xs → t ∈ tmps xs
  | [], _, h => by simp at h
  | x :: xs, t, h => by
    rcases List.mem_cons.1 h with rfl | h
    · simp [tmps]
    · have := mem_tmps h
      cases x <;> simp [tmps, this]
section
variable {r r' : Nat → PV}
theorem ev_congr {xs : List Operand} (h : ∀ t, t ∈ tmps xs → r t = r' t) : ∀ x, x ∈ xs → ev r x = ev r' x := fun x hx => by
  cases x with
  | tmp t => simp only [ev, h t (mem_tmps hx)]
  | _ => rfl
theorem evL_congr : ∀ {xs : List Operand}, (∀ x, x ∈ xs → ev r x = ev r' x) → evL r xs = evL r' xs
  | [], _ => rfl
  | x :: xs, h => by simp only [evL, h x (by simp), evL_congr (fun y hy => h y (List.mem_cons_of_mem _ hy))]
theorem evP_congr : ∀ {xs : List (Nat × Operand)}, (∀ x, x ∈ xs.map (·.2) → ev r x = ev r' x) → evP r xs = evP r' xs
  | [], _ => rfl
  | (i, x) :: xs, h => by simp only [evP, h x (by simp), evP_congr (fun y hy => h y (by simp only [List.map_cons]; exact List.mem_cons_of_mem _ hy))]
theorem bound_congr {d : Nat} {o : Option Operand} (h : ∀ x, o = some x → ev r x = ev r' x) : bound r d o = bound r' d o := by
  cases o with
  | none => rfl
  | some x => simp only [bound, h x rfl]
theorem pureOp_congr {op : Op} {M : Mem} (h : ∀ x, x ∈ op.operands.toList → ev r x = ev r' x) : pureOp P r M op = pureOp P r' M op := by
  cases op <;> simp only [Op.operands] at h <;> first | rfl | skip
  case move x => exact h x (by simp)
  case assign x => exact h x (by simp)
  case pick c a b => simp only [pureOp, h c (by simp), h a (by simp), h b (by simp)]
  case binOp op t x y t' => simp only [pureOp, h x (by simp), h y (by simp)]
  case unOp op t x => simp only [pureOp, h x (by simp)]
  case convert s d x => simp only [pureOp, h x (by simp)]
  case load t x => simp only [pureOp, h x (by simp)]
  case fieldAddr s x f => simp only [pureOp, h x (by simp)]
  case indexAddr t x i => simp only [pureOp, h x (by simp), h i (by simp)]
  case nilCheck x => simp only [pureOp, h x (by simp)]
  case extract x i => simp only [pureOp, h x (by simp)]
  case build t ps => simp only [pureOp, evP_congr (xs := ps.toList) (fun x hx => h x (by simpa using hx))]
  case buildSlice t n ps => simp only [pureOp, evP_congr (xs := ps.toList) (fun x hx => h x (by simpa using hx))]
  case makeFunc fn first caps =>
    cases fn <;> first | rfl | skip
    simp only [pureOp, evL_congr (xs := caps.toList) (fun x hx => h x (by simp; exact .inr (by simpa using hx)))]
  case slice t x lo hi mx =>
    have h1 : ∀ d, bound r d lo = bound r' d lo := fun d => bound_congr fun y hy => h y (by simp [hy])
    have h2 : ∀ d, bound r d hi = bound r' d hi := fun d => bound_congr fun y hy => h y (by simp [hy])
    have h3 : ∀ d, bound r d mx = bound r' d mx := fun d => bound_congr fun y hy => h y (by simp [hy])
    simp only [pureOp, h x (by simp), h1, h2, h3]
  case call c =>
    obtain ⟨cal, xs, ts⟩ := c
    cases cal <;> first | rfl | skip
    simp only [pureOp, evL_congr (xs := xs.toList) (fun x hx => h x (by simp [Call.operands]; simpa using hx))]
theorem drwOp_congr {op : Op} {k : Nat} {M : Mem} (h : ∀ x, x ∈ op.operands.toList → ev r x = ev r' x) : drwOp P C sh k r M op = drwOp P C sh k r' M op := by
  have hp := pureOp_congr (P := P) (M := M) h
  cases op <;> simp only [Op.operands] at h <;> first | (simp only [drwOp, hp]; done) | rfl | skip
  case store t x v => simp only [drwOp, h x (by simp), h v (by simp)]
  case call c =>
    obtain ⟨cal, xs, ts⟩ := c
    cases cal with
    | invoke _ _ => rfl
    | builtin b =>
      have hx := evL_congr (r := r) (r' := r') (xs := xs.toList) (fun x hx => h x (by simp [Call.operands]; simpa using hx))
      cases b <;> first | (simp only [drwOp, hp]; done) | (simp only [drwOp, hx]; done)
    | value g =>
      have hx := evL_congr (r := r) (r' := r') (xs := xs.toList) (fun x hx => h x (by simp [Call.operands]; exact .inr (by simpa using hx)))
      have hg := h g (by simp [Call.operands])
      cases g <;> simp only [drwOp, hx, hg]
theorem foot_congr {op : Op} {k : Nat} (h : ∀ x, x ∈ op.operands.toList → ev r x = ev r' x) : foot k r op = foot k r' op := by
  cases op <;> simp only [Op.operands] at h <;> first | rfl | skip
  case store t x v => simp only [foot, h x (by simp)]
  case load t x => simp only [foot, h x (by simp)]
  case slice t x lo hi mx => simp only [foot, h x (by simp)]
  case call c =>
    obtain ⟨cal, xs, ts⟩ := c
    cases cal with
    | invoke _ _ => rfl
    | builtin b =>
      cases b <;> first | rfl | skip
      simp only [foot]
      cases hxl : xs.toList with
      | nil => rfl
      | cons x rest => simp only [h x (by simp [Call.operands]; rw [← Array.mem_toList_iff, hxl]; simp)]
    | value g =>
      cases g <;> first | rfl | skip
      simp only [foot, evL_congr (r := r) (r' := r') (xs := xs.toList) (fun x hx => h x (by simp [Call.operands]; exact .inr (by simpa using hx)))]
theorem looks_ops {ops : Array Oper} {o : Oper} (h : ∀ t, t ∈ looks ops o → r t = r' t) : ∀ x, x ∈ o.op.operands.toList → ev r x = ev r' x :=
  ev_congr fun t ht => h t (by unfold looks; exact List.mem_append_left _ ht)
theorem want_congr {ops : Array Oper} {o : Oper} (h : ∀ t, t ∈ looks ops o → r t = r' t) : want ops r o = want ops r' o := by
  unfold want
  cases hg : o.guard with
  | none => rfl
  | some q =>
    obtain ⟨j, b⟩ := q
    simp only
    cases hd : (ops[j]?).bind (·.dst) with
    | none => rfl
    | some t => simp only [h t (by unfold looks; rw [hg]; simp only [hd]; simp)]
theorem act_congr {ops : Array Oper} {o : Oper} {k : Nat} {M : Mem} (h : ∀ t, t ∈ looks ops o → r t = r' t) : act P C sh ops k o r M = act P C sh ops k o r' M := by
  unfold act
  rw [want_congr h, drwOp_congr (looks_ops h)]
end
/-! ### Two operations -/
theorem aparts_spec {lx ly : List Tmp} {dx dy : Option Tmp} (h : aparts lx ly dx dy = true) : (∀ d, dx = some d → ¬ d ∈ ly ∧ dy ≠ some d) ∧ (∀ d, dy = some d → ¬ d ∈ lx) := by
  unfold aparts at h
  simp only [Bool.and_eq_true] at h
  refine ⟨fun d hd => ?_, fun d hd => ?_⟩
  · subst hd
    simp at h
    exact ⟨h.1.1, h.1.2⟩
  · subst hd
    simp at h
    exact h.2
theorem putR_get {r : Nat → PV} {d : Option Tmp} {v : PV} {t : Nat} (h : d ≠ some t) : putR r d v t = r t := by
  cases d with
  | none => rfl
  | some d =>
    simp only [putR, upd]
    rw [if_neg (fun e => h (by rw [e]))]
theorem putR_comm {r : Nat → PV} {d e : Option Tmp} {v u : PV} (h : ∀ x, d = some x → e ≠ some x) : putR (putR r d v) e u = putR (putR r e u) d v := by
  cases d with
  | none => rfl
  | some d =>
    cases e with
    | none => rfl
    | some e =>
      have hne : d ≠ e := fun q => h d rfl (by rw [q])
      funext t
      simp only [putR, upd]
      by_cases h1 : t = d
      · subst h1; simp [hne]
      · by_cases h2 : t = e
        · subst h2; simp [h1]
        · simp [h1, h2]
/-- Two neighbours change places. -/
theorem swap {ops : Array Oper} {nx0 kj ki : Nat} {x y : Oper} {s s2 : St} (ha : aparts (looks ops x) (looks ops y) x.dst y.dst = true)
    (hk : isN (fun M => act P C sh ops kj x s.r M) ∨ isN (fun M => act P C sh ops ki y s.r M) ∨ (isR (fun M => act P C sh ops kj x s.r M) ∧ isR (fun M => act P C sh ops ki y s.r M)) ∨
      ((∀ a, a ∈ foot kj s.r x.op → a < nx0 ∧ ¬ a ∈ foot ki s.r y.op) ∧ (∀ a, a ∈ foot ki s.r y.op → a < nx0 ∧ ¬ a ∈ foot kj s.r x.op) ∧
        ((isL (foot kj s.r x.op) (fun M => act P C sh ops kj x s.r M) ∧ isW nx0 (foot ki s.r y.op) (fun M => act P C sh ops ki y s.r M)) ∨ (isW nx0 (foot kj s.r x.op) (fun M => act P C sh ops kj x s.r M) ∧ isL (foot ki s.r y.op) (fun M => act P C sh ops ki y s.r M)))))
    (hn : nx0 ≤ s.M.nx) (h : (stepD P C sh ops kj x s).bind (stepD P C sh ops ki y) = some s2) : (stepD P C sh ops ki y s).bind (stepD P C sh ops kj x) = some s2 := by
  obtain ⟨a1, a2⟩ := aparts_spec ha
  simp only [Option.bind_eq_some_iff, stepD_act, Option.map_eq_some_iff] at h
  obtain ⟨s1, ⟨⟨p, M1⟩, h1, rfl⟩, ⟨q, M2⟩, h2, rfl⟩ := h
  simp only at h1 h2
  rw [act_congr (r' := s.r) (fun t ht => putR_get fun e => (a1 t e).1 ht)] at h2
  obtain ⟨M1', g1, g2⟩ := swapM hk hn h1 h2
  have g1 : act P C sh ops ki y s.r s.M = some (q, M1') := g1
  have g2 : act P C sh ops kj x s.r M1' = some (p, M2) := g2
  rw [Option.bind_eq_some_iff]
  refine ⟨⟨putR s.r y.dst q, M1'⟩, by rw [stepD_act, g1]; rfl, ?_⟩
  rw [stepD_act]
  simp only
  rw [act_congr (r' := s.r) (fun t ht => putR_get fun e => a2 t e ht), g2]
  simp only [Option.map_some, Option.some.injEq]
  rw [putR_comm (fun x hx => (a1 x hx).2)]

/-! ### A whole region -/
def seqL (P : Program) (C : FuncId → List PV → Mem → Option (PV × Mem)) (sh : FuncId → Bool) (ops : Array Oper) (base : Nat) : List (Nat × Oper) → St → Option St
  | [], s => some s
  | (i, o) :: rest, s => (stepD P C sh ops (base + i) o s).bind (seqL P C sh ops base rest)
def num : Nat → List Oper → List (Nat × Oper)
  | _, [] => []
  | i, o :: os => (i, o) :: num (i + 1) os
theorem seqD_seqL (ops : Array Oper) (base : Nat) : ∀ (i : Nat) (l : List Oper) (s : St), seqD P C sh ops base i l s = seqL P C sh ops base (num i l) s
  | _, [], _ => rfl
  | i, o :: os, s => by
    simp only [seqD, num, seqL]
    congr 1
    funext s
    exact seqD_seqL ops base (i + 1) os s
theorem mem_num : ∀ {l : List Oper} {i : Nat} {q : Nat × Oper}, q ∈ num i l ↔ i ≤ q.1 ∧ l[q.1 - i]? = some q.2
  | [], i, q => by simp [num]
  | o :: os, i, q => by
    simp only [num, List.mem_cons, mem_num (l := os) (i := i + 1)]
    constructor
    · rintro (rfl | ⟨h1, h2⟩)
      · simp
      · refine ⟨by omega, ?_⟩
        rw [show q.1 - i = (q.1 - (i + 1)) + 1 by omega, List.getElem?_cons_succ]
        exact h2
    · rintro ⟨h1, h2⟩
      by_cases e : q.1 = i
      · left
        rw [e] at h2
        simp at h2
        cases q
        simp at e h2
        rw [e, h2]
      · right
        refine ⟨by omega, ?_⟩
        rw [show q.1 - i = (q.1 - (i + 1)) + 1 by omega, List.getElem?_cons_succ] at h2
        exact h2
theorem num_pair : ∀ (l : List Oper) (i : Nat), (num i l).Pairwise (fun a b => a.1 < b.1)
  | [], _ => .nil
  | o :: os, i => .cons (fun q hq => by
      have := (mem_num.1 hq).1
      show i < q.1
      omega) (num_pair os (i + 1))
theorem num_length : ∀ (l : List Oper) (i : Nat), (num i l).length = l.length
  | [], _ => rfl
  | o :: os, i => by simp [num, num_length os]
theorem stepD_r {ops : Array Oper} {k : Nat} {o : Oper} {s s' : St} (h : stepD P C sh ops k o s = some s') {t : Nat} (ht : o.dst ≠ some t) : s'.r t = s.r t := by
  rw [stepD_act] at h
  simp only [Option.map_eq_some_iff] at h
  obtain ⟨q, _, rfl⟩ := h
  exact putR_get ht
theorem stepD_nx {ops : Array Oper} {k : Nat} {o : Oper} {s s' : St} (h : stepD P C sh ops k o s = some s') : s.M.nx ≤ s'.M.nx := by
  rw [stepD_act] at h
  simp only [Option.map_eq_some_iff] at h
  obtain ⟨q, hq, rfl⟩ := h
  exact act_nx hq
theorem seqL_r {ops : Array Oper} {base : Nat} {t : Nat} : ∀ {l : List (Nat × Oper)} {s s' : St}, seqL P C sh ops base l s = some s' → (∀ q, q ∈ l → q.2.dst ≠ some t) → s'.r t = s.r t
  | [], s, s', h, _ => by simp [seqL] at h; rw [h]
  | (i, o) :: rest, s, s', h, ht => by
    simp only [seqL, Option.bind_eq_some_iff] at h
    obtain ⟨s1, h1, h2⟩ := h
    rw [seqL_r h2 (fun q hq => ht q (List.mem_cons_of_mem _ hq)), stepD_r h1 (ht (i, o) (by simp))]
theorem stable_spec {o : Oper} {ops : Array Oper} {j : Nat} (h : stable o (ops.toList.drop j) = true) {i : Nat} {x : Oper} (hi : ops[i]? = some x) (hij : j ≤ i) : ∀ t, t ∈ tmps o.op.operands.toList → x.dst ≠ some t := fun t ht e => by
  unfold stable at h
  rw [List.all_eq_true] at h
  have := h x (List.mem_of_getElem? (i := i - j) (by rw [List.getElem?_drop, show j + (i - j) = i by omega]; simpa using hi))
  rw [e] at this
  simp at this
  exact this ht
theorem kd_le (op : Op) : kd sh op ≤ 3 := by
  unfold kd
  split <;> first | omega | skip
  · split
    all_goals (first | omega | (split <;> omega))
  · split <;> omega
theorem commute {fr : List FuncId} {cf : List (Nat × Nat)} {ops : Array Oper} (HF : Frm C fr) {base : Nat} {sf : St} (hcf : cf.all (dis ops base sf.r) = true) {i : Nat} {y : Oper} (hi : ops[i]? = some y) {l2 : List (Nat × Oper)} (hl2 : ∀ q, q ∈ l2 → ops[q.1]? = some q.2 ∧ i < q.1) :
    ∀ (l1 : List (Nat × Oper)) (s : St), (∀ q, q ∈ l1 → ops[q.1]? = some q.2 ∧ q.1 < i ∧ pairOk sh fr cf ops q.1 i q.2 y = true) → l1.Pairwise (fun a b => a.1 < b.1) → base + ops.size ≤ s.M.nx →
      seqL P C sh ops base (l1 ++ (i, y) :: l2) s = some sf → ∃ s', stepD P C sh ops (base + i) y s = some s' ∧ seqL P C sh ops base (l1 ++ l2) s' = some sf
  | [], s, _, _, _, h => by
    simp only [List.nil_append, seqL, Option.bind_eq_some_iff] at h ⊢
    exact h
  | (j, x) :: t, s, hl1, hp, hn, h => by
    simp only [List.cons_append, seqL, Option.bind_eq_some_iff] at h
    obtain ⟨s1, h1, h2⟩ := h
    obtain ⟨s', h3, h4⟩ := commute HF hcf hi hl2 t s1 (fun q hq => hl1 q (List.mem_cons_of_mem _ hq)) (List.pairwise_cons.1 hp).2 (Nat.le_trans hn (stepD_nx h1)) h2
    obtain ⟨hj, hji, hpair⟩ := hl1 (j, x) (by simp)
    simp only at hj hji hpair
    unfold pairOk at hpair
    rw [Bool.and_eq_true] at hpair
    obtain ⟨hap, hk⟩ := hpair
    have hsw : (stepD P C sh ops (base + j) x s).bind (stepD P C sh ops (base + i) y) = some s' := by rw [h1]; exact h3
    have tq : ∀ q, q ∈ t → ops[q.1]? = some q.2 ∧ j < q.1 := fun q hq => ⟨(hl1 q (List.mem_cons_of_mem _ hq)).1, (List.pairwise_cons.1 hp).1 q hq⟩
    have res := swap (nx0 := base + ops.size) hap (by
      simp only [Bool.or_eq_true, Bool.and_eq_true, beq_iff_eq, decide_eq_true_eq] at hk
      rcases hk with ((hk | hk) | hk) | ⟨⟨⟨hk, hcc⟩, hst1⟩, hst2⟩
      · exact .inl (act_isN hk)
      · exact .inr (.inl (act_isN hk))
      · exact .inr (.inr (.inl ⟨act_isR hk.1, act_isR hk.2⟩))
      · have hx3 := kd_le (sh := sh) x.op
        have hy3 := kd_le (sh := sh) y.op
        have hd := List.all_eq_true.1 hcf (j, i) (by simpa using hcc)
        unfold dis at hd
        simp only [hj, hi, Bool.and_eq_true, List.all_eq_true, decide_eq_true_eq, bne_iff_ne, ne_eq] at hd
        have e1 : foot (base + j) sf.r x.op = foot (base + j) s.r x.op := foot_congr (ev_congr fun tt htt => by
          rw [seqL_r h4 (fun q hq => ?_), stepD_r h3 (stable_spec hst1 hi (by omega) tt htt), stepD_r h1 (stable_spec hst1 hj (Nat.le_refl _) tt htt)]
          rcases List.mem_append.1 hq with hq | hq
          · exact stable_spec hst1 (tq q hq).1 (by have := (tq q hq).2; omega) tt htt
          · exact stable_spec hst1 (hl2 q hq).1 (by have := (hl2 q hq).2; omega) tt htt)
        have e2 : foot (base + i) sf.r y.op = foot (base + i) s.r y.op := foot_congr (ev_congr fun tt htt => by
          have hlk : ∀ z : Oper, aparts (looks ops z) (looks ops y) z.dst y.dst = true → z.dst ≠ some tt := fun z hz e => ((aparts_spec hz).1 tt e).1 (by unfold looks; exact List.mem_append_left _ htt)
          rw [seqL_r h4 (fun q hq => ?_), stepD_r h3 (stable_spec hst2 hi (Nat.le_refl _) tt htt), stepD_r h1 (hlk x hap)]
          rcases List.mem_append.1 hq with hq | hq
          · have := (hl1 q (List.mem_cons_of_mem _ hq)).2.2
            unfold pairOk at this
            rw [Bool.and_eq_true] at this
            exact hlk q.2 this.1
          · exact stable_spec hst2 (hl2 q hq).1 (by have := (hl2 q hq).2; omega) tt htt)
        rw [e1, e2] at hd
        by_cases hall : kd sh x.op ≤ 2 ∧ kd sh y.op ≤ 2
        · exact .inr (.inr (.inl ⟨act_isR hall.1, act_isR hall.2⟩))
        · refine .inr (.inr (.inr ⟨fun a hm => ⟨(hd.1 a hm).1, fun hm2 => (hd.1 a hm).2 a hm2 rfl⟩, fun a hm => ⟨hd.2 a hm, fun hm2 => (hd.1 a hm2).2 a hm rfl⟩, ?_⟩))
          rcases hk with ⟨hx, hy⟩ | ⟨hx, hy⟩
          · exact .inl ⟨act_isL hx, act_isW HF (by omega) hy _⟩
          · exact .inr ⟨act_isW HF (by omega) hx _, act_isL hy⟩) hn hsw
    rw [Option.bind_eq_some_iff] at res
    obtain ⟨s1', r1, r2⟩ := res
    refine ⟨s1', r1, ?_⟩
    simp only [List.cons_append, seqL, r2, Option.bind_some]
    exact h4
end
end Go.Pi

set_option linter.unusedVariables false
set_option linter.unusedSimpArgs false
namespace Go.Pi
open Go.RowKit

/-! ### What the check of a region says -/
theorem bitsOf_spec {acc : List Nat} {j : Nat} : ∀ {es : List Edge}, (bitsOf acc es).testBit j = true → ∃ e, e ∈ es ∧ Region.binds .any e = true ∧ (e.on = j ∨ (acc.getD e.on 0).testBit j = true)
  | [], h => by simp [bitsOf] at h
  | e :: es, h => by
    simp only [bitsOf] at h
    have tl : (bitsOf acc es).testBit j = true → ∃ e', e' ∈ e :: es ∧ Region.binds .any e' = true ∧ (e'.on = j ∨ (acc.getD e'.on 0).testBit j = true) := fun h => by
      obtain ⟨e', h1, h2⟩ := bitsOf_spec h
      exact ⟨e', List.mem_cons_of_mem _ h1, h2⟩
    split at h
    · rename_i hb
      rw [Nat.testBit_or, Nat.testBit_or] at h
      simp only [Bool.or_eq_true] at h
      rcases h with (h | h) | h
      · exact tl h
      · refine ⟨e, by simp, hb, .inl ?_⟩
        rw [Nat.testBit_two_pow] at h
        simpa using h
      · exact ⟨e, by simp, hb, .inr h⟩
    · exact tl h
theorem befs_len : ∀ (l : List Oper) (acc : List Nat), (befs acc l).length = acc.length + l.length
  | [], acc => by simp [befs]
  | o :: os, acc => by rw [befs, befs_len os]; simp; omega
theorem befs_pre : ∀ (l : List Oper) (acc : List Nat) (j : Nat), j < acc.length → (befs acc l).getD j 0 = acc.getD j 0
  | [], _, _, _ => rfl
  | o :: os, acc, j, h => by
    rw [befs, befs_pre os _ j (by simp; omega)]
    simp [List.getD_eq_getElem?_getD, List.getElem?_append_left h]
theorem befs_spec {j : Nat} : ∀ (l : List Oper) (acc : List Nat) (i : Nat) (o : Oper), l[i]? = some o → (∀ e, e ∈ o.after.toList → Region.binds .any e = true → e.on < acc.length + i) → ((befs acc l).getD (acc.length + i) 0).testBit j = true →
    ∃ e, e ∈ o.after.toList ∧ Region.binds .any e = true ∧ (e.on = j ∨ ((befs acc l).getD e.on 0).testBit j = true)
  | [], acc, i, o, h, _, _ => by simp at h
  | x :: xs, acc, 0, o, h, hlt, hb => by
    simp at h; subst h
    rw [befs, befs_pre xs _ _ (by simp)] at hb
    simp [List.getD_eq_getElem?_getD] at hb
    obtain ⟨e, h1, h2, h3⟩ := bitsOf_spec hb
    refine ⟨e, h1, h2, h3.imp id fun h => ?_⟩
    have := hlt e h1 h2
    rw [befs, befs_pre xs _ _ (by simp; omega)]
    simpa [List.getD_eq_getElem?_getD, List.getElem?_append_left (show e.on < acc.length by omega)] using h
  | x :: xs, acc, i + 1, o, h, hlt, hb => by
    rw [List.getElem?_cons_succ] at h
    rw [befs] at hb ⊢
    exact befs_spec xs (acc ++ [bitsOf acc x.after.toList]) i o h (fun e h1 h2 => by have := hlt e h1 h2; simp; omega) (by simpa [Nat.add_assoc, Nat.add_comm 1 i] using hb)
theorem rowOk_spec {sh : FuncId → Bool} {fr : List FuncId} {cf : List (Nat × Nat)} {ops : Array Oper} {b i : Nat} {o : Oper} : ∀ {l : List Oper} {n : Nat}, rowOk sh fr cf ops b i o n l = true → ∀ (j : Nat) x, l[j]? = some x → b.testBit (n + j) = true ∨ pairOk sh fr cf ops (n + j) i x o = true
  | [], _, _, j, x, h => by simp at h
  | y :: ys, n, hr, j, x, h => by
    simp only [rowOk, Bool.and_eq_true, Bool.or_eq_true] at hr
    cases j with
    | zero => simp at h; subst h; exact hr.1
    | succ j =>
      rw [List.getElem?_cons_succ] at h
      have := rowOk_spec hr.2 j x h
      rwa [show n + (j + 1) = n + 1 + j by omega]
theorem rowsOk_spec {sh : FuncId → Bool} {fr : List FuncId} {cf : List (Nat × Nat)} {ops : Array Oper} {bs : List Nat} : ∀ {l : List Oper} {n : Nat}, rowsOk sh fr cf ops bs n l = true → ∀ (i : Nat) o, l[i]? = some o →
    (∀ e, e ∈ o.after.toList → Region.binds .any e = true → e.on < n + i) ∧ rowOk sh fr cf ops (bs.getD (n + i) 0) (n + i) o 0 (ops.toList.take (n + i)) = true
  | [], _, _, i, o, h => by simp at h
  | y :: ys, n, hr, i, o, h => by
    simp only [rowsOk, Bool.and_eq_true] at hr
    cases i with
    | zero =>
      simp at h; subst h
      refine ⟨fun e he hb => ?_, hr.1.2⟩
      have := List.all_eq_true.1 hr.1.1 e he
      simp [hb] at this
      exact this
    | succ i =>
      rw [List.getElem?_cons_succ] at h
      have := rowsOk_spec hr.2 i o h
      rwa [show n + (i + 1) = n + 1 + i by omega]
structure DrawOk (sh : FuncId → Bool) (fr : List FuncId) (cf : List (Nat × Nat)) (ops : Array Oper) (b : List Nat) : Prop where
  lt : ∀ (i : Nat) o, ops[i]? = some o → ∀ e, e ∈ o.after → Region.binds .any e = true → e.on < i
  bit : ∀ (i : Nat) o, ops[i]? = some o → ∀ j, (b.getD i 0).testBit j = true → ∃ e, e ∈ o.after ∧ Region.binds .any e = true ∧ (e.on = j ∨ (b.getD e.on 0).testBit j = true)
  pair : ∀ (i : Nat) o, ops[i]? = some o → ∀ (j : Nat) x, ops[j]? = some x → j < i → (b.getD i 0).testBit j = true ∨ pairOk sh fr cf ops j i x o = true
theorem drawOk_spec {sh : FuncId → Bool} {fr : List FuncId} {cf : List (Nat × Nat)} {ops : Array Oper} (h : drawOk sh fr cf ops = true) : DrawOk sh fr cf ops (befs [] ops.toList) := by
  have key := fun i o (ho : ops[i]? = some o) => rowsOk_spec (n := 0) h i o (by simpa using ho)
  have lt : ∀ (i : Nat) o, ops[i]? = some o → ∀ e, e ∈ o.after → Region.binds .any e = true → e.on < i := fun i o ho e he hb => by
    have := (key i o ho).1 e (by simpa using he) hb
    omega
  refine ⟨lt, fun i o ho j hj => ?_, fun i o ho j x hx hji => ?_⟩
  · obtain ⟨e, h1, h2, h3⟩ := befs_spec (j := j) ops.toList [] i o (by simpa using ho) (fun e he hb => by have := lt i o ho e (by simpa using he) hb; simpa using this) (by simpa using hj)
    exact ⟨e, by simpa using h1, h2, h3⟩
  · have := rowOk_spec (key i o ho).2 j x (by rw [List.getElem?_take, if_pos (by omega)]; simpa using hx)
    simpa using this
/-- What comes ahead of an operation that is ready is listed. -/
theorem bit_listed {sh : FuncId → Bool} {fr : List FuncId} {cf : List (Nat × Nat)} {ops : Array Oper} {b : List Nat} (hD : DrawOk sh fr cf ops b) {listed : Array Bool} (hcl : ∀ (i : Nat) o, ops[i]? = some o → listed.getD i false = true → ∀ e, e ∈ o.after → Region.binds .any e = true → listed.getD e.on false = true) :
    ∀ (i : Nat) o, ops[i]? = some o → (∀ e, e ∈ o.after → Region.binds .any e = true → listed.getD e.on false = true) → ∀ j, (b.getD i 0).testBit j = true → listed.getD j false = true := by
  intro i
  induction i using Nat.strongRecOn with
  | ind i ih =>
    intro o ho hr j hj
    obtain ⟨e, h1, h2, h3⟩ := hD.bit i o ho j hj
    have hle := hr e h1 h2
    rcases h3 with rfl | h3
    · exact hle
    · have hlt := hD.lt i o ho e h1 h2
      have hi : i < ops.size := (Array.getElem?_eq_some_iff.1 ho).1
      have he : ops[e.on]? = some (ops[e.on]'(by omega)) := Array.getElem?_eq_getElem (by omega)
      exact ih e.on hlt _ he (hcl _ _ he hle) j h3

section
variable {P : Program} {C : FuncId → List PV → Mem → Option (PV × Mem)} {sh : FuncId → Bool} {bb : Nat} {w0 : World} {fb fx : Fx} {bs : Bs} {M : Mem} {w : World} {r : Nat → PV} {a : Act}
theorem drw_ok (hC : COk P C) (hS : Sim bb w0 fb fx bs M w) (hE : Env w fx bs r a) {o : Oper} {k : Nat} (hk : bs k = none) (hkn : k < M.nx) (hal : ∀ e, o.op = .alloc e → ∃ t, ti P e = some t ∧ M.m k = .live true e (t.zero.map PV.nrm)) {p : PV} {M' : Mem}
    (h : drwOp P C sh k r M o.op = some (p, M')) : OpOk P bb w0 fb (fun i => i = k) w fx bs M a o p M' := by
  unfold drwOp at h
  split at h
  · rename_i e ho
    simp at h
    obtain ⟨rfl, rfl⟩ := h
    obtain ⟨T, hT, hm⟩ := hal e ho
    obtain ⟨cells, hrun, hr⟩ := alloc_ok (P := P) (w := w) (fx := fx) (bs := bs) hT
    obtain ⟨h1, h2⟩ := repS_own hr
    have hF := Fwd.own hS h1 h2 (ty := e) hk (Nat.le_refl _) hkn
    have hM : (⟨upd M.m k (.live true e (T.zero.map PV.nrm)), M.nx⟩ : Mem) = M := by
      have : upd M.m k (.live true e (T.zero.map PV.nrm)) = M.m := by
        funext j
        simp only [upd]
        split
        · rename_i e; rw [e, hm]
        · rfl
      rw [this]
    rw [hM] at hF
    refine .val (v := .pointer (some ⟨w.heap.size, 0, none⟩)) ?_ (.ptr _ _ w.heap.size (by simp [upd])) hF
    obtain ⟨dst, op, ty', pos, after, guard⟩ := o
    simp only at ho
    subst ho
    simp [execOp, hrun]
  · rename_i t x v ho
    exact store_op hS hE ho h _
  · rename_i xs as ho
    split at h
    · simp only [Option.bind_eq_some_iff, Option.map_eq_some_iff, Prod.mk.injEq] at h
      obtain ⟨vs, hvs, q, hq, rfl, rfl⟩ := h
      obtain ⟨v, w', fx', hrun, hr, hF⟩ := appP_ok (ty := o.type) hS (evL_rep hE hvs) hq (fun i => i = k)
      exact .val (append_op ho hrun) hr hF
    · simp only [Option.bind_eq_some_iff] at h
      obtain ⟨vs, hvs, h⟩ := h
      split at h
      · simp only [Option.map_eq_some_iff, Prod.mk.injEq] at h
        obtain ⟨q, hq, rfl, rfl⟩ := h
        obtain ⟨v, w', fx', hrun, hr, hF⟩ := appP_ok (ty := o.type) hS (evL_rep hE hvs) hq (fun i => i = k)
        exact .val (append_op ho hrun) hr hF
      · simp only [Option.map_eq_some_iff, Prod.mk.injEq] at h
        obtain ⟨q, hq, rfl, rfl⟩ := h
        obtain ⟨v, w', fx', bs', hrun, hr, hF⟩ := app_ok (ty := o.type) hS (evL_rep hE hvs) hk (Nat.le_refl _) hkn hq
        exact .val (append_op ho hrun) hr hF
  · rename_i f xs ts ho
    simp only [Option.bind_eq_some_iff] at h
    obtain ⟨vs, hvs, h⟩ := h
    exact call_op (cs := []) hC hS hE ho rfl hvs (by simpa using h) _
  · rename_i g xs ts _ ho
    split at h
    · rename_i f cs hg
      simp only [Option.bind_eq_some_iff] at h
      obtain ⟨vs, hvs, h⟩ := h
      exact call_op hC hS hE ho hg hvs h _
    · simp at h
  · simp only [Option.map_eq_some_iff, Prod.mk.injEq] at h
    obtain ⟨v, hv, rfl, rfl⟩ := h
    exact pure_op hS hE hv _
theorem want_ok (hE : Env w fx bs r a) {ops : Array Oper} {o : Oper} {b : Bool} (h : want ops r o = some b) : Region.wanted o (yielded ops a.tmps) = b := by
  unfold want at h
  unfold Region.wanted
  cases hg : o.guard with
  | none => rw [hg] at h; simp at h; simp [h]
  | some q =>
    obtain ⟨j, c⟩ := q
    rw [hg] at h
    simp only at h ⊢
    unfold yielded
    cases hd : (ops[j]?).bind (·.dst) with
    | none => rw [hd] at h; simp at h; simp [h]
    | some t =>
      rw [hd] at h
      simp only at h
      have hr := hE t
      simp only [Option.bind_some]
      cases hrt : r t with
      | bool d =>
        rw [hrt] at h hr
        simp at h
        have h1 := rep_bool hr
        rw [Array.getD_eq_getD_getElem?] at h1
        cases ht : a.tmps[t]? with
        | none => rw [ht] at h1; simp [undef] at h1
        | some v => rw [ht] at h1; simp at h1; subst h1; subst h; cases d <;> cases c <;> rfl
      | und =>
        rw [hrt] at h hr
        simp at h
        subst h
        generalize hv : a.tmps.getD t undef = v at hr
        cases hr
        rw [Array.getD_eq_getD_getElem?] at hv
        cases ht : a.tmps[t]? with
        | none => rfl
        | some v => rw [ht] at hv; simp at hv; subst hv; rfl
      | _ => rw [hrt] at h; simp at h
/-- One operation's step, whatever it is. -/
theorem wpOp_of {ops : Array Oper} {i : Nat} {o : Oper} (hi : ops[i]? = some o) {ne : Nat → Prop} {b : Bool} (hE : Env w fx bs r a) (hS : Sim bb w0 fb fx bs M w) (hw : want ops r o = some b) {p : PV} {M' : Mem} (hop : b = true → OpOk P bb w0 fb ne w fx bs M a o p M') (hund : b = false → p = .und ∧ M' = M)
    (hd : ∀ t, o.dst = some t → t < a.tmps.size) {K : Act → World → Prop} {Q : Exit → Act → World → Prop}
    (hK : ∀ a' w' fx' bs', Env w' fx' bs' (putR r o.dst p) a' → Fwd bb w0 fb ne w fx bs M w' fx' bs' M' → a'.tmps.size = a.tmps.size → a'.defers = a.defers → K a' w') : wpOp P ops Q i K a w := by
  unfold wpOp
  rw [hi]
  simp only
  rw [want_ok hE hw]
  have fin : ∀ v w' fx' bs', Rep w' fx' bs' p v → Fwd bb w0 fb ne w fx bs M w' fx' bs' M' → K (a.put o.dst v) w' := fun v w' fx' bs' hr hF =>
    hK _ _ fx' bs' ((hE.mono hF.ext hF.fxm hF.bsm).put hr o.dst hd) hF (Act.size_put _ _ _) (Act.defers_put _ _ _)
  cases b with
  | true => simp only [if_true]; exact .inl (hop rfl K Q fin)
  | false =>
    simp only [if_false, Bool.false_eq_true]
    obtain ⟨rfl, rfl⟩ := hund rfl
    exact fin undef w fx bs .und (Fwd.refl hS)
theorem stepD_ok (hC : COk P C) (hS : Sim bb w0 fb fx bs M w) (hE : Env w fx bs r a) {ops : Array Oper} {i : Nat} {o : Oper} (hi : ops[i]? = some o) {k : Nat} (hk : bs k = none) (hkn : k < M.nx) (hal : ∀ e, o.op = .alloc e → ∃ t, ti P e = some t ∧ M.m k = .live true e (t.zero.map PV.nrm)) {s' : St}
    (h : stepD P C sh ops k o ⟨r, M⟩ = some s') (hd : ∀ t, o.dst = some t → t < a.tmps.size) {K : Act → World → Prop} {Q : Exit → Act → World → Prop}
    (hK : ∀ a' w' fx' bs', Env w' fx' bs' s'.r a' → Fwd bb w0 fb (fun i => i = k) w fx bs M w' fx' bs' s'.M → a'.tmps.size = a.tmps.size → a'.defers = a.defers → K a' w') : wpOp P ops Q i K a w := by
  unfold stepD at h
  simp only at h
  split at h
  · rename_i hw
    simp only [Option.map_eq_some_iff] at h
    obtain ⟨⟨p, M'⟩, hop, rfl⟩ := h
    exact wpOp_of hi hE hS hw (fun _ => drw_ok hC hS hE hk hkn hal hop) (fun h => by cases h) hd hK
  · rename_i hw
    simp only [Option.some.injEq] at h
    subst h
    exact wpOp_of (p := .und) (M' := M) hi hE hS hw (fun h => by cases h) (fun _ => ⟨rfl, rfl⟩) hd hK
  · simp at h
theorem step_ok (hC : COk P C) (hS : Sim bb w0 fb fx bs M w) (hE : Env w fx bs r a) {ops : Array Oper} {i : Nat} {o : Oper} (hi : ops[i]? = some o) {s' : St}
    (h : step P C sh ops o ⟨r, M⟩ = some s') (hd : ∀ t, o.dst = some t → t < a.tmps.size) {K : Act → World → Prop} {Q : Exit → Act → World → Prop}
    (hK : ∀ a' w' fx' bs', Env w' fx' bs' s'.r a' → Fwd bb w0 fb (fun _ => False) w fx bs M w' fx' bs' s'.M → a'.tmps.size = a.tmps.size → a'.defers = a.defers → K a' w') : wpOp P ops Q i K a w := by
  unfold step at h
  simp only at h
  split at h
  · rename_i hw
    simp only [Option.map_eq_some_iff] at h
    obtain ⟨⟨p, M'⟩, hop, rfl⟩ := h
    exact wpOp_of hi hE hS hw (fun _ => eff_ok hC hS hE hop) (fun h => by cases h) hd hK
  · rename_i hw
    simp only [Option.some.injEq] at h
    subst h
    exact wpOp_of (p := .und) (M' := M) hi hE hS hw (fun h => by cases h) (fun _ => ⟨rfl, rfl⟩) hd hK
  · simp at h
end
end Go.Pi

set_option linter.unusedVariables false
set_option linter.unusedSimpArgs false
namespace Go.Pi
open Go.RowKit
section
variable {P : Program} {C : FuncId → List PV → Mem → Option (PV × Mem)} {sh : FuncId → Bool} {bb : Nat} {w0 : World} {fb : Fx}

/-! ### Regions -/
theorem dstOk_spec {n : Nat} {ops : Array Oper} (h : dstOk n ops = true) {i : Nat} {o : Oper} (hi : ops[i]? = some o) : ∀ t, o.dst = some t → t < n := fun t ht => by
  have := List.all_eq_true.1 h o (by simpa using Array.mem_of_getElem? hi)
  rw [ht] at this
  simpa using this
theorem seqR_ok (hC : COk P C) {ops : Array Oper} {n : Nat} (hd : dstOk n ops = true) {sf : St} {Q : Exit → Act → World → Prop} : ∀ (l : List Oper) (i : Nat) (s : St) (w : World) (fx : Fx) (bs : Bs) (a : Act),
    (∀ (j : Nat) o, l[j]? = some o → ops[i + j]? = some o) → seqR P C sh ops l s = some sf → Sim bb w0 fb fx bs s.M w → Env w fx bs s.r a → a.tmps.size = n →
    (∀ a' w' fx' bs', Env w' fx' bs' sf.r a' → Fwd bb w0 fb (fun _ => False) w fx bs s.M w' fx' bs' sf.M → a'.tmps.size = n → a'.defers = a.defers → Q .normal a' w') → wpOps P ops Q (List.range' i l.length) a w
  | [], i, s, w, fx, bs, a, _, h, hS, hE, hn, hK => by
    simp [seqR] at h; subst h
    exact hK a w fx bs hE (Fwd.refl hS) hn rfl
  | o :: os, i, s, w, fx, bs, a, hl, h, hS, hE, hn, hK => by
    simp only [seqR, Option.bind_eq_some_iff] at h
    obtain ⟨s1, h1, h2⟩ := h
    have hi : ops[i]? = some o := hl 0 o rfl
    rw [List.length_cons, List.range'_succ, wpOps_cons]
    refine step_ok hC hS hE hi h1 (fun t ht => by rw [hn]; exact dstOk_spec hd hi t ht) fun a' w' fx' bs' hE' hF hsz hdf => ?_
    refine seqR_ok hC hd os (i + 1) s1 w' fx' bs' a' (fun j o hj => by have := hl (j + 1) o (by simpa using hj); rwa [show i + 1 + j = i + (j + 1) by omega]) h2 hF.sim hE' (hsz.trans hn) fun a2 w2 fx2 bs2 hE2 hF2 hsz2 hdf2 => ?_
    exact hK a2 w2 fx2 bs2 hE2 (hF.trans hF2 (fun _ h _ => ⟨h, h⟩)) hsz2 (hdf2.trans hdf)
theorem region_ok (hC : COk P C) {ops : Array Oper} {n id : Nat} (hd : dstOk n ops = true) {s sf : St} {Q : Exit → Act → World → Prop} {w : World} {fx : Fx} {bs : Bs} {a : Act}
    (h : seqR P C sh ops ops.toList s = some sf) (hS : Sim bb w0 fb fx bs s.M w) (hE : Env w fx bs s.r a) (hn : a.tmps.size = n)
    (hK : ∀ a' w' fx' bs', Env w' fx' bs' sf.r a' → Fwd bb w0 fb (fun _ => False) w fx bs s.M w' fx' bs' sf.M → a'.tmps.size = n → a'.defers = a.defers → Q .normal a' w') : (Code.region id ops false).wp P Q a w := by
  apply wp_region
  rw [List.range_eq_range', ← Array.length_toList]
  exact seqR_ok hC hd ops.toList 0 s w fx bs a (fun j o hj => by simpa using hj) h hS hE hn hK

theorem preA_spec {base : Nat} : ∀ (l : List Oper) (i : Nat) (m0 m : Nat → Blk), preA P base i l m0 = some m →
    (∀ id, (id < base + i ∨ base + i + l.length ≤ id) → m id = m0 id) ∧ ∀ (j : Nat) o, l[j]? = some o → ∀ e, o.op = .alloc e → ∃ t, ti P e = some t ∧ m (base + i + j) = .live true e (t.zero.map PV.nrm)
  | [], i, m0, m, h => by simp [preA] at h; subst h; exact ⟨fun _ _ => rfl, by simp⟩
  | o :: os, i, m0, m, h => by
    have tail : ∀ m1, preA P base (i + 1) os m1 = some m → (∀ id, (id < base + i ∨ base + i + (os.length + 1) ≤ id) → m id = m1 id) ∧ (m (base + i) = m1 (base + i)) ∧
        ∀ (j : Nat) o', os[j]? = some o' → ∀ e, o'.op = .alloc e → ∃ t, ti P e = some t ∧ m (base + i + (j + 1)) = .live true e (t.zero.map PV.nrm) := fun m1 h => by
      obtain ⟨h1, h2⟩ := preA_spec os (i + 1) m1 m h
      refine ⟨fun id hid => h1 id (by omega), h1 _ (by omega), fun j o' hj e he => ?_⟩
      obtain ⟨t, ht, hm⟩ := h2 j o' hj e he
      exact ⟨t, ht, by rw [← hm]; congr 1; omega⟩
    simp only [preA] at h
    split at h
    · rename_i e he
      simp only [Option.bind_eq_some_iff] at h
      obtain ⟨t, ht, h⟩ := h
      obtain ⟨h1, h2, h3⟩ := tail _ h
      refine ⟨fun id hid => ?_, fun j o' hj e' he' => ?_⟩
      · rw [h1 id (by simp at hid; omega)]
        exact upd_ne (by simp at hid; omega)
      · cases j with
        | zero =>
          simp at hj; subst hj
          rw [he] at he'
          cases he'
          exact ⟨t, ht, by rw [Nat.add_zero, h2]; simp [upd]⟩
        | succ j => exact h3 j o' (by simpa using hj) e' he'
    · rename_i hne
      obtain ⟨h1, h2, h3⟩ := tail _ h
      refine ⟨fun id hid => h1 id (by simp at hid; omega), fun j o' hj e' he' => ?_⟩
      cases j with
      | zero => simp at hj; subst hj; exact absurd he' (hne e')
      | succ j => exact h3 j o' (by simpa using hj) e' he'
theorem draw_any (hC : COk P C) {fr : List FuncId} (HF : Frm C fr) {cf : List (Nat × Nat)} {ops : Array Oper} {n base : Nat} (hd : dstOk n ops = true) (hD : DrawOk sh fr cf ops (befs [] ops.toList)) {sf : St} (hcf : cf.all (dis ops base sf.r) = true) {Q : Exit → Act → World → Prop} :
    ∀ (fuel : Nat) (listed : Array Bool) (L : List (Nat × Oper)) (s : St) (w : World) (fx : Fx) (bs : Bs) (a : Act), listed.size = ops.size → L.length = fuel → (∀ q : Nat × Oper, q ∈ L ↔ ops[q.1]? = some q.2 ∧ listed.getD q.1 true = false) → L.Pairwise (fun a b => a.1 < b.1) →
    (∀ (i : Nat) o, ops[i]? = some o → listed.getD i false = true → ∀ e, e ∈ o.after → Region.binds .any e = true → listed.getD e.on false = true) →
    seqL P C sh ops base L s = some sf → base + ops.size ≤ s.M.nx → Sim bb w0 fb fx bs s.M w → Env w fx bs s.r a → a.tmps.size = n →
    (∀ q, q ∈ L → bs (base + q.1) = none ∧ ∀ e, q.2.op = .alloc e → ∃ t, ti P e = some t ∧ s.M.m (base + q.1) = .live true e (t.zero.map PV.nrm)) →
    (∀ a' w' fx' bs', Env w' fx' bs' sf.r a' → Fwd bb w0 fb (fun i => base ≤ i) w fx bs s.M w' fx' bs' sf.M → a'.tmps.size = n → a'.defers = a.defers → Q .normal a' w') → wpAny P .any ops Q fuel listed a w := by
  intro fuel
  induction fuel with
  | zero =>
    intro listed L s w fx bs a hls hlen hL hp hcl h hnx hS hE hn hpre hK
    have : L = [] := List.eq_nil_of_length_eq_zero hlen
    subst this
    simp [seqL] at h
    subst h
    refine ⟨?_, hK a w fx bs hE (Fwd.refl hS) hn rfl⟩
    rw [List.eq_nil_iff_forall_not_mem]
    intro i hi
    obtain ⟨h1, o, h2, _⟩ := mem_ready.1 hi
    have := (hL (i, o)).2 ⟨h2, h1⟩
    simp at this
  | succ fuel ih =>
    intro listed L s w fx bs a hls hlen hL hp hcl h hnx hS hE hn hpre hK
    have inl : ∀ {i : Nat}, i < ops.size → (listed.getD i true = false ∨ listed.getD i false = true) := fun {i} hi => by
      have hi' : i < listed.size := by omega
      simp only [Array.getD_eq_getD_getElem?, Array.getElem?_eq_getElem hi', Option.getD_some]
      cases listed[i] <;> simp
    refine ⟨fun hnil => ?_, fun i hi => ?_⟩
    · exfalso
      cases L with
      | nil => simp at hlen
      | cons q L' =>
        obtain ⟨h1, h2⟩ := (hL q).1 (by simp)
        have hlt : q.1 < ops.size := (Array.getElem?_eq_some_iff.1 h1).1
        have : q.1 ∈ Region.ready .any ops listed := mem_ready.2 ⟨h2, q.2, h1, fun e he hb => by
          have hlt2 := hD.lt _ _ h1 e he hb
          rcases inl (show e.on < ops.size by omega) with h3 | h3
          · exfalso
            have hmem := (hL (e.on, ops[e.on]'(by omega))).2 ⟨Array.getElem?_eq_getElem (by omega), h3⟩
            rcases List.mem_cons.1 hmem with h4 | h4
            · rw [← h4] at hlt2; exact Nat.lt_irrefl _ hlt2
            · have := (List.pairwise_cons.1 hp).1 _ h4
              simp at this
              omega
          · exact h3⟩
        rw [hnil] at this
        cases this
    · obtain ⟨hun, y, hy, hready⟩ := mem_ready.1 hi
      have hlt : i < ops.size := (Array.getElem?_eq_some_iff.1 hy).1
      have hmem := (hL (i, y)).2 ⟨hy, hun⟩
      obtain ⟨l1, l2, rfl⟩ := List.append_of_mem hmem
      rw [List.pairwise_append] at hp
      obtain ⟨hp1, hp2, hp3⟩ := hp
      obtain ⟨hp4, hp5⟩ := List.pairwise_cons.1 hp2
      have hin1 : ∀ q, q ∈ l1 → ops[q.1]? = some q.2 ∧ listed.getD q.1 true = false := fun q hq => (hL q).1 (List.mem_append_left _ hq)
      have hin2 : ∀ q, q ∈ l2 → ops[q.1]? = some q.2 ∧ listed.getD q.1 true = false := fun q hq => (hL q).1 (List.mem_append_right _ (List.mem_cons_of_mem _ hq))
      obtain ⟨s', hs', hrest⟩ := commute (fr := fr) HF hcf hy (l2 := l2) (fun q hq => ⟨(hin2 q hq).1, hp4 q hq⟩) l1 s (fun q hq => ⟨(hin1 q hq).1, hp3 q hq (i, y) (by simp), by
          rcases hD.pair i y hy q.1 q.2 (hin1 q hq).1 (hp3 q hq (i, y) (by simp)) with hb | hb
          · exfalso
            have h1 := bit_listed hD hcl i y hy hready q.1 hb
            have h2 := (hin1 q hq).2
            have h3 : q.1 < listed.size := by rw [hls]; exact (Array.getElem?_eq_some_iff.1 (hin1 q hq).1).1
            simp only [Array.getD_eq_getD_getElem?, Array.getElem?_eq_getElem h3, Option.getD_some] at h1 h2
            rw [h1] at h2
            cases h2
          · exact hb⟩) hp1 hnx h
      obtain ⟨hbn, hal⟩ := hpre (i, y) hmem
      refine stepD_ok hC hS hE hy hbn (by omega) hal hs' (fun t ht => by rw [hn]; exact dstOk_spec hd hy t ht) fun a' w' fx' bs' hE' hF hsz hdf => ?_
      have hnei : ∀ q, q ∈ l1 ++ l2 → q.1 ≠ i := fun q hq => by
        rcases List.mem_append.1 hq with hq | hq
        · have := hp3 q hq (i, y) (by simp); simp at this; omega
        · have := hp4 q hq; simp at this; omega
      refine ih (listed.setIfInBounds i true) (l1 ++ l2) s' w' fx' bs' a' (by simpa using hls) (by simp at hlen ⊢; omega) (fun q => ?_) ?_ (fun j o hj hlj e he hb => ?_) hrest (Nat.le_trans hnx hF.nx) hF.sim hE' (hsz.trans hn) (fun q hq => ?_) (fun a2 w2 fx2 bs2 hE2 hF2 hsz2 hdf2 => ?_)
      · constructor
        · intro hq
          have h1 := hnei q hq
          rw [getD_set_ne true (Ne.symm h1)]
          rcases List.mem_append.1 hq with hq | hq
          · exact hin1 q hq
          · exact hin2 q hq
        · rintro ⟨h1, h2⟩
          have hne : q.1 ≠ i := fun e => by
            rw [e] at h2
            simp [show i < listed.size by omega] at h2
          rw [getD_set_ne true (Ne.symm hne)] at h2
          have := (hL q).2 ⟨h1, h2⟩
          rcases List.mem_append.1 this with hq | hq
          · exact List.mem_append_left _ hq
          · rcases List.mem_cons.1 hq with hq | hq
            · exact absurd (by rw [hq]) hne
            · exact List.mem_append_right _ hq
      · rw [List.pairwise_append]
        exact ⟨hp1, hp5, fun a ha b hb => hp3 a ha b (List.mem_cons_of_mem _ hb)⟩
      · by_cases e1 : j = i
        · subst e1
          rw [hy] at hj
          cases hj
          exact getD_set_true (hready e he hb)
        · rw [getD_set_ne false (Ne.symm e1)] at hlj
          exact getD_set_true (hcl j o hj hlj e he hb)
      · have hq' : q ∈ l1 ++ (i, y) :: l2 := by
          rcases List.mem_append.1 hq with h1 | h1
          · exact List.mem_append_left _ h1
          · exact List.mem_append_right _ (List.mem_cons_of_mem _ h1)
        obtain ⟨h1, h2⟩ := hpre q hq'
        have hqlt : q.1 < ops.size := (Array.getElem?_eq_some_iff.1 ((hL q).1 hq').1).1
        obtain ⟨h3, h4⟩ := hF.keep (base + q.1) (by omega) (fun e => hnei q hq (by have e : base + q.1 = base + i := e; omega)) h1
        exact ⟨h3, fun e he => by rw [h4]; exact h2 e he⟩
      · exact hK a2 w2 fx2 bs2 hE2 (hF.trans hF2 (fun j hj _ => ⟨fun e => hj (by have e : j = base + i := e; omega), hj⟩)) hsz2 (hdf2.trans hdf)
theorem draw_ok (hm : P.follows .mixedOrders = true) (hC : COk P C) {fr : List FuncId} (HF : Frm C fr) {cf : List (Nat × Nat)} {ops : Array Oper} {n id : Nat} (hd : dstOk n ops = true) (hD : drawOk sh fr cf ops = true) {s sf : St} {Q : Exit → Act → World → Prop} {w : World} {fx : Fx} {bs : Bs} {a : Act}
    (h : drwR P C sh cf ops s = some sf) (hS : Sim bb w0 fb fx bs s.M w) (hE : Env w fx bs s.r a) (hn : a.tmps.size = n)
    (hK : ∀ a' w' fx' bs', Env w' fx' bs' sf.r a' → Fwd bb w0 fb (fun _ => False) w fx bs s.M w' fx' bs' sf.M → a'.tmps.size = n → a'.defers = a.defers → Q .normal a' w') : (Code.region id ops true).wp P Q a w := by
  unfold drwR at h
  simp only [Option.bind_eq_some_iff] at h
  obtain ⟨m, hpre, s1, hseq, h⟩ := h
  split at h
  · rename_i hcf
    simp at h; subst h
    obtain ⟨p1, p2⟩ := preA_spec ops.toList 0 s.M.m m hpre
    simp only [Nat.add_zero, Array.length_toList] at p1 p2
    have hS1 : Sim bb w0 fb fx bs ⟨m, s.M.nx + ops.size⟩ w := by
      have old : ∀ id wr ty cs b, m id = .live wr ty cs → bs id = some b → s.M.m id = .live wr ty cs := fun id wr ty cs b h1 h2 => by
        rcases Nat.lt_or_ge id s.M.nx with h3 | h3
        · rw [← p1 id (.inl h3)]; exact h1
        · rw [(hS.nxt id h3).2] at h2; cases h2
      refine ⟨hS.below, hS.bb, hS.fxlt, hS.fxb, fun id wr ty cs b h1 h2 => hS.live id wr ty cs b (old _ _ _ _ _ h1 h2) h2, fun i j b wi ti ci wj tj cj hi hj hbi hbj => hS.inj i j b _ _ _ _ _ _ (old _ _ _ _ _ hi hbi) (old _ _ _ _ _ hj hbj) hbi hbj, fun id hid => ?_⟩
      have hid : s.M.nx + ops.size ≤ id := hid
      rw [show (⟨m, s.M.nx + ops.size⟩ : Mem).m id = s.M.m id from p1 id (.inr hid)]
      exact hS.nxt id (by omega)
    have hF1 : Fwd bb w0 fb (fun _ => False) w fx bs s.M w fx bs ⟨m, s.M.nx + ops.size⟩ :=
      ⟨hS1, .refl _ _, fun _ _ h => h, fun _ _ h => h, fun id hid _ hb => ⟨hb, p1 id (.inl hid)⟩, Nat.le_add_right _ _⟩
    have hF2 := hF1.trans (Fwd.drew (ne := fun _ => False) hS1) (ne2 := fun _ => False) (fun _ h _ => ⟨h, h⟩)
    apply wp_region_any hm
    have hEd : Env w.drew fx bs s.r a := hE.mono Ext.drew (fun _ _ h => h) (fun _ _ h => h)
    have hrep : ∀ i, i < ops.size → (Array.replicate ops.size false).getD i true = false := fun i hi => by
      simp [Array.getD_eq_getD_getElem?, hi]
    refine draw_any (base := s.M.nx) hC HF hd (drawOk_spec hD) hcf ops.size (Array.replicate ops.size false) (num 0 ops.toList) ⟨s.r, ⟨m, s.M.nx + ops.size⟩⟩ w.drew fx bs a (by simp) (by rw [num_length]; simp) (fun q => ?_) (num_pair _ _) (fun i o hi hl => ?_) (by rw [← seqD_seqL]; exact hseq) (Nat.le_refl _) hF2.sim hEd hn (fun q hq => ?_) (fun a' w' fx' bs' hE' hF hsz hdf => ?_)
    · rw [mem_num]
      simp only [Nat.zero_le, true_and, Nat.sub_zero, Array.getElem?_toList]
      constructor
      · intro h1
        exact ⟨h1, hrep _ (Array.getElem?_eq_some_iff.1 h1).1⟩
      · exact fun h1 => h1.1
    · exfalso
      have hlt : i < ops.size := (Array.getElem?_eq_some_iff.1 hi).1
      simp [Array.getD_eq_getD_getElem?, hlt] at hl
    · obtain ⟨_, h1⟩ := mem_num.1 hq
      have h1 : ops.toList[q.1]? = some q.2 := by simpa using h1
      have hlt : q.1 < ops.size := by simpa using (List.getElem?_eq_some_iff.1 h1).1
      exact ⟨(hS.nxt _ (Nat.le_add_right _ _)).2, p2 q.1 q.2 h1⟩
    · exact hK a' w' fx' bs' hE' (⟨hF.sim, hF2.ext.trans (hF.ext.less hF2.fxm), fun b o x => hF.fxm b o (hF2.fxm b o x), fun i b x => hF.bsm i b (hF2.bsm i b x), fun id hid _ hb => by
        obtain ⟨h3, h4⟩ := hF.keep id (show id < s.M.nx + ops.size by omega) (fun h => by have h : s.M.nx ≤ id := h; omega) hb
        exact ⟨h3, h4.trans (p1 id (.inl hid))⟩, Nat.le_trans (Nat.le_add_right _ _) hF.nx⟩) hsz hdf
  · simp at h

/-! ### Code -/
def Ex.to : Ex → Exit
  | .normal => .normal
  | .exit id => .exit id
  | .ret => .ret
/-- What the walk may go on with. -/
def Goes (bb : Nat) (w0 : World) (fb : Fx) (n : Nat) (df : List Deferred) (w : World) (fx : Fx) (bs : Bs) (M : Mem) (s' : St) (a' : Act) (w' : World) : Prop :=
  ∃ fx' bs', Env w' fx' bs' s'.r a' ∧ Fwd bb w0 fb (fun _ => False) w fx bs M w' fx' bs' s'.M ∧ a'.tmps.size = n ∧ a'.defers = df
theorem exec_ok (hm : P.follows .mixedOrders = true) (hC : COk P C) {fr : List FuncId} (HF : Frm C fr) {cf : Nat → List (Nat × Nat)} {n K : Nat} : ∀ (c : Code) (s : St) (e : Ex) (s' : St) (w : World) (fx : Fx) (bs : Bs) (a : Act) (Q : Exit → Act → World → Prop), codeOk sh fr cf n c = true →
    exec P C sh cf K c s = some (e, s') → Sim bb w0 fb fx bs s.M w → Env w fx bs s.r a → a.tmps.size = n →
    (∀ a' w', Goes bb w0 fb n a.defers w fx bs s.M s' a' w' → Q e.to a' w') → c.wp P Q a w := by
  intro c
  induction c with
  | skip =>
    intro s e s' w fx bs a Q _ h hS hE hn hK
    simp [exec] at h
    obtain ⟨rfl, rfl⟩ := h
    exact wp_skip (hK a w ⟨fx, bs, hE, Fwd.refl hS, hn, rfl⟩)
  | region id ops draw =>
    intro s e s' w fx bs a Q hc h hS hE hn hK
    simp only [codeOk, Bool.and_eq_true] at hc
    simp only [exec, Option.map_eq_some_iff, Prod.mk.injEq] at h
    obtain ⟨s1, h, rfl, rfl⟩ := h
    cases draw with
    | true =>
      have hD : drawOk sh fr (cf id) ops = true := by simpa using hc.2
      exact draw_ok hm hC HF hc.1 hD (by simpa using h) hS hE hn fun a' w' fx' bs' h1 h2 h3 h4 => hK a' w' ⟨fx', bs', h1, h2, h3, h4⟩
    | false => exact region_ok hC hc.1 (by simpa using h) hS hE hn fun a' w' fx' bs' h1 h2 h3 h4 => hK a' w' ⟨fx', bs', h1, h2, h3, h4⟩
  | seq x y ihx ihy =>
    intro s e s' w fx bs a Q hc h hS hE hn hK
    simp only [codeOk, Bool.and_eq_true] at hc
    simp only [exec] at h
    unfold seqE at h
    split at h
    · rename_i s1 hx
      apply wp_seq
      refine ihx s .normal s1 w fx bs a _ hc.1 hx hS hE hn fun a1 w1 ⟨fx1, bs1, hE1, hF1, hn1, hd1⟩ => ?_
      refine ihy s1 e s' w1 fx1 bs1 a1 Q hc.2 h hF1.sim hE1 hn1 fun a2 w2 ⟨fx2, bs2, hE2, hF2, hn2, hd2⟩ => ?_
      exact hK a2 w2 ⟨fx2, bs2, hE2, hF1.trans hF2 (fun _ h _ => ⟨h, h⟩), hn2, hd2.trans hd1⟩
    · rename_i hne
      apply wp_seq
      refine ihx s e s' w fx bs a _ hc.1 h hS hE hn fun a1 w1 hg => ?_
      cases e with
      | normal => exact absurd h (hne s')
      | exit id => exact hK a1 w1 hg
      | ret => exact hK a1 w1 hg
  | cond c x y ihx ihy =>
    intro s e s' w fx bs a Q hc h hS hE hn hK
    simp only [codeOk, Bool.and_eq_true] at hc
    simp only [exec] at h
    split at h
    · rename_i b hb
      have hb' := rep_bool (ev_ok hE hb)
      refine wp_cond hb' ?_
      cases b with
      | true => exact ihx s e s' w fx bs a Q hc.1 (by simpa using h) hS hE hn hK
      | false => exact ihy s e s' w fx bs a Q hc.2 (by simpa using h) hS hE hn hK
    · simp at h
  | block id c ih =>
    intro s e s' w fx bs a Q hc h hS hE hn hK
    simp only [codeOk] at hc
    simp only [exec] at h
    apply wp_block
    unfold blkE at h
    split at h
    · rename_i i s1 hx
      refine ih s (.exit i) s1 w fx bs a _ hc hx hS hE hn fun a1 w1 hg => ?_
      simp only [Ex.to, Exit.inBlock]
      split at h
      · rename_i hi
        simp at h
        obtain ⟨rfl, rfl⟩ := h
        rw [if_pos hi]
        exact hK a1 w1 hg
      · rename_i hi
        simp at h
        obtain ⟨rfl, rfl⟩ := h
        rw [if_neg hi]
        exact hK a1 w1 hg
    · rename_i hne
      refine ih s e s' w fx bs a _ hc h hS hE hn fun a1 w1 hg => ?_
      cases e with
      | normal => exact hK a1 w1 hg
      | exit i => exact absurd h (hne i s')
      | ret => exact hK a1 w1 hg
  | loop c ih =>
    intro s e s' w fx bs a Q hc h hS hE hn hK
    simp only [codeOk] at hc
    simp only [exec] at h
    apply wp_loop_rounds K
    have key : ∀ (k : Nat) (s : St) (w : World) (fx : Fx) (bs : Bs) (a : Act), iter k (exec P C sh cf K c) s = some (e, s') → Sim bb w0 fb fx bs s.M w → Env w fx bs s.r a → a.tmps.size = n →
        (∀ a' w', Goes bb w0 fb n a.defers w fx bs s.M s' a' w' → Q e.to a' w') → Code.rounds P c Q k a w := by
      intro k
      induction k with
      | zero => intro s w fx bs a h; simp [iter] at h
      | succ k ihk =>
        intro s w fx bs a h hS hE hn hK
        simp only [iter] at h
        rw [rounds_succ]
        split at h
        · rename_i s1 hx
          refine ih s .normal s1 w fx bs a _ hc hx hS hE hn fun a1 w1 ⟨fx1, bs1, hE1, hF1, hn1, hd1⟩ => ?_
          refine ihk s1 w1 fx1 bs1 a1 h hF1.sim hE1 hn1 fun a2 w2 ⟨fx2, bs2, hE2, hF2, hn2, hd2⟩ => ?_
          exact hK a2 w2 ⟨fx2, bs2, hE2, hF1.trans hF2 (fun _ h _ => ⟨h, h⟩), hn2, hd2.trans hd1⟩
        · rename_i hne
          refine ih s e s' w fx bs a _ hc h hS hE hn fun a1 w1 hg => ?_
          cases e with
          | normal => exact absurd h (hne s')
          | exit i => exact hK a1 w1 hg
          | ret => exact hK a1 w1 hg
    exact key K s w fx bs a h hS hE hn hK
  | exit id =>
    intro s e s' w fx bs a Q _ h hS hE hn hK
    simp [exec] at h
    obtain ⟨rfl, rfl⟩ := h
    exact wp_exit (hK a w ⟨fx, bs, hE, Fwd.refl hS, hn, rfl⟩)
  | ret =>
    intro s e s' w fx bs a Q _ h hS hE hn hK
    simp [exec] at h
    obtain ⟨rfl, rfl⟩ := h
    exact wp_ret (hK a w ⟨fx, bs, hE, Fwd.refl hS, hn, rfl⟩)
  | _ => intro s e s' w fx bs a Q _ h; simp [exec] at h
end
end Go.Pi

set_option linter.unusedVariables false
set_option linter.unusedSimpArgs false
namespace Go.Pi
open Go.RowKit
section
variable {P : Program} {bb : Nat} {w0 : World} {fb fx : Fx} {bs : Bs} {w : World} {a : Act} {s : St}

/-! ### Results -/
def rv (a : Act) : ResultVar → Sem Value
  | .tmp t => pure (a.tmps.getD t undef)
  | .cell c t => do loadVar t (← asAddr (a.tmps.getD c undef))
theorem results_eq (fn : Func) (a : Act) : results fn a.tmps = (fn.results.mapM (rv a) >>= fun vs => pure (if h : vs.size = 1 then vs[0] else .tuple vs)) := rfl
theorem res1_ok (hS : Sim bb w0 fb fx bs s.M w) (hE : Env w fx bs s.r a) {x : ResultVar} {p : PV} (h : res1 P s x = some p) : ∃ v, (rv a x).run P w = .ok v w ∧ Rep w fx bs p v := by
  cases x with
  | tmp t => simp [res1] at h; subst h; exact ⟨_, rfl, hE t⟩
  | cell c t =>
    simp only [res1] at h
    split at h
    · rename_i T id off hT hc
      split at h
      · rename_i wr ty cs hM
        have hr := hE c
        rw [hc] at hr
        generalize hv : a.tmps.getD c undef = v at hr
        cases hr with | ptr _ _ b hb =>
        obtain ⟨u, h1, h2⟩ := rdAt_load (P := P) hT h ⟨b, off, none⟩ fun j c hj => by
          rw [List.getElem?_drop] at hj
          obtain ⟨v, hv, hr⟩ := hS.cell hM hb hj
          exact ⟨v, by rw [add_none _ rfl]; exact hv, hr⟩
        refine ⟨u, ?_, h2⟩
        unfold rv
        simp only [hv, asAddr, Sem.run_bind, Sem.run_pure, Result.andThen_ok]
        exact h1
      · simp at h
    · simp at h
theorem resL_ok (hS : Sim bb w0 fb fx bs s.M w) (hE : Env w fx bs s.r a) : ∀ {xs : List ResultVar} {ps : List PV}, resL P s xs = some ps → ∃ vs : List Value, (xs.mapM (rv a)).run P w = .ok vs w ∧ RepS w fx bs ps vs
  | [], ps, h => by simp [resL] at h; subst h; exact ⟨[], rfl, rfl, by simp⟩
  | x :: xs, ps, h => by
    simp only [resL, Option.bind_eq_some_iff, Option.map_eq_some_iff] at h
    obtain ⟨p, hp, qs, hq, rfl⟩ := h
    obtain ⟨v, h1, h2⟩ := res1_ok hS hE hp
    obtain ⟨vs, h3, h4⟩ := resL_ok hS hE hq
    exact ⟨v :: vs, by simp only [List.mapM_cons, Sem.run_bind, h1, Result.andThen_ok, h3, Sem.run_pure], .cons h2 h4⟩
theorem results_ok (hS : Sim bb w0 fb fx bs s.M w) (hE : Env w fx bs s.r a) {fn : Func} {ps : List PV} (h : resL P s fn.results.toList = some ps) : ∃ v, (results fn a.tmps).run P w = .ok v w ∧ Rep w fx bs (one ps) v := by
  obtain ⟨vs, h1, h2⟩ := resL_ok hS hE h
  have e0 : fn.results.mapM (rv a) = (fn.results.toList.mapM (rv a) >>= fun q => pure q.toArray) := by
    rw [Array.mapM_eq_mapM_toList]
    simp
  rw [results_eq, e0]
  simp only [Sem.run_bind, h1, Result.andThen_ok, Sem.run_pure]
  refine ⟨_, rfl, ?_⟩
  have hl := h2.1
  by_cases h0 : vs.length = 1
  · obtain ⟨p, rfl⟩ : ∃ p, ps = [p] := List.length_eq_one_iff.1 (by omega)
    obtain ⟨v, rfl⟩ : ∃ v, vs = [v] := List.length_eq_one_iff.1 h0
    simp [one]
    exact h2.2 0 p v rfl rfl
  · have hne : ∀ p, ps ≠ [p] := fun p e => by subst e; simp at hl; omega
    have : one ps = .tup ps := by
      unfold one
      split
      · exact absurd rfl (hne _)
      · rfl
    rw [this]
    simp [h0]
    exact .tup _ _ (by simpa using hl) fun i c v hc hv => h2.2 i c v hc (by simpa using hv)

/-! ### Calls -/
theorem ini_get : ∀ (i : Nat) (vs : List PV) (t : Nat), ini i vs t = if i ≤ t ∧ t < i + vs.length then vs.getD (t - i) .junk else .junk
  | i, [], t => by simp [ini]
  | i, v :: vs, t => by
    simp only [ini, upd]
    by_cases h : t = i
    · subst h; simp
    · rw [if_neg h, ini_get (i + 1) vs t]
      by_cases h2 : i + 1 ≤ t ∧ t < i + 1 + vs.length
      · rw [if_pos h2, if_pos (by simp; omega), show t - i = (t - (i + 1)) + 1 by omega]
        simp [List.getD_eq_getElem?_getD]
      · rw [if_neg h2, if_neg (by simp; omega)]
theorem ini_env {vs : List PV} {us : Array Value} (h : RepL w fx bs vs us) (n : Nat) (df : List Deferred) : Env w fx bs (ini 0 vs) { tmps := us ++ Array.replicate n undef, defers := df } := by
  intro t
  rw [ini_get]
  split
  · rename_i hlt
    have ht : t < vs.length := by omega
    have ht' : t < us.size := by rw [← h.1]; exact ht
    simp only [Nat.sub_zero, List.getD_eq_getElem?_getD, List.getElem?_eq_getElem ht, Option.getD_some, Array.getD_eq_getD_getElem?]
    rw [Array.getElem?_append, if_pos ht', Array.getElem?_eq_getElem ht']
    exact h.2 t _ _ (List.getElem?_eq_getElem ht) (Array.getElem?_eq_getElem ht')
  · exact .junk _
/-- What is asked of the functions that are told apart. -/
def XOk (P : Program) (X : FuncId → Option (List PV → Option PV)) : Prop :=
  ∀ f g, X f = some g → Ent P f ∧ ∀ as p, g as = some p → ∀ bb w0 fb fx bs M w us, Sim bb w0 fb fx bs M w → RepL w fx bs as us →
    Calls P f us w fun e w' => ∃ v fx' bs', e = .returned v ∧ Rep w' fx' bs' p v ∧ Fwd bb w0 fb (fun _ => False) w fx bs M w' fx' bs' M
theorem call_ok (hm : P.follows .mixedOrders = true) {X : FuncId → Option (List PV → Option PV)} {sh : FuncId → FuncId → Bool} {cf : FuncId → Nat → List (Nat × Nat)} {fr : List FuncId} (hX : XOk P X) (hfn : ∀ f fn, P.funcs[f]? = some fn → fnOk (sh f) fr (cf f) fn = true)
    (HF : ∀ k, Frm (call P X sh cf k) fr) : ∀ k, COk P (call P X sh cf k)
  | 0 => ⟨fun f as M q h => by simp [call] at h, fun f as M p M' h => by simp [call] at h⟩
  | k + 1 => by
    have hC := call_ok hm hX hfn HF k
    refine ⟨fun f as M q h => ?_, fun f as M p M' h bb w0 fb fx bs w us hS hr => ?_⟩
    · simp only [call] at h
      split at h
      · rename_i g hg
        exact (hX f g hg).1
      · split at h
        · rename_i fn hf
          have hk := hfn f fn hf
          unfold runF at h
          split at h
          · rename_i c hb
            refine ⟨fn, hf, by rw [hb]; rfl, ?_⟩
            unfold fnOk at hk
            rw [hb] at hk
            simp only [Bool.and_eq_true] at hk
            simpa using hk.2
          · simp at h
        · simp at h
    · simp only [call] at h
      split at h
      · rename_i g hg
        simp only [Option.map_eq_some_iff, Prod.mk.injEq] at h
        obtain ⟨p', hp, rfl, rfl⟩ := h
        exact (hX f g hg).2 as p' hp bb w0 fb fx bs M w us hS hr
      · split at h
        · rename_i fn hf
          have hk := hfn f fn hf
          unfold runF at h
          split at h
          · rename_i c hb
            unfold fnOk at hk
            rw [hb] at hk
            simp only [Bool.and_eq_true] at hk
            split at h
            · rename_i hlen
              refine calls_of_wp hf hb ?_
              have hsz : us.size ≤ fn.ntmps := by rw [← hr.1]; exact hlen
              have hfin : ∀ e s, (e = .normal ∨ e = .ret) → exec P (call P X sh cf k) (sh f) (cf f) k c ⟨ini 0 as, M⟩ = some (e, s) → (resL P s fn.results.toList).map (fun vs => (one vs, s.M)) = some (p, M') →
                  c.wp P (bodyPost P fn fun e w' => ∃ v fx' bs', e = .returned v ∧ Rep w' fx' bs' p v ∧ Fwd bb w0 fb (fun _ => False) w fx bs M w' fx' bs' M') { tmps := us ++ Array.replicate (fn.ntmps - us.size) undef, defers := [] } w := by
                intro e s he hx hres
                simp only [Option.map_eq_some_iff, Prod.mk.injEq] at hres
                obtain ⟨vs, hvs, rfl, rfl⟩ := hres
                refine exec_ok hm hC (HF k) (n := fn.ntmps) c _ e s w fx bs _ _ hk.1 hx hS (ini_env hr _ _) (by simp; omega) fun a' w' ⟨fx', bs', hE, hF, _, hd⟩ => ?_
                obtain ⟨v, hv, hrv⟩ := results_ok hF.sim hE hvs
                rcases he with rfl | rfl
                · exact ⟨hd, v, hv, v, fx', bs', rfl, hrv, hF⟩
                · exact ⟨hd, v, hv, v, fx', bs', rfl, hrv, hF⟩
              split at h
              · rename_i s hx
                exact hfin .normal s (.inl rfl) hx h
              · rename_i s hx
                exact hfin .ret s (.inr rfl) hx h
              · simp at h
            · simp at h
          · simp at h
        · simp at h
end
end Go.Pi
