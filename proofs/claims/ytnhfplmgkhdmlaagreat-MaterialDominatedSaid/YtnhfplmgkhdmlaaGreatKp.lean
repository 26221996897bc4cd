/- What is proved: code that writes where it is told alone. No conditions beyond those in the statements. -/
import Derived.Test.YtnhfplmgkhdmlaaGreatPc
set_option linter.unusedVariables false
/-
Code that writes where it is told alone.
-/
namespace Go.Pi
open Go
variable {P : Program} {C : FuncId → List PV → Mem → Option (PV × Mem)} {sh : FuncId → Bool} {cf : Nat → List (Nat × Nat)}
/-- Registers in S hold no pointer to a block; the block is as it was. -/
structure Kp (S : Nat → Bool) (id nx0 : Nat) (b0 : Blk) (s : St) : Prop where
  lt : id < nx0
  nx : nx0 ≤ s.M.nx
  eq : s.M.m id = b0
  rg : ∀ j, S j = true → ∀ off, s.r j ≠ .ptr id off
def dIn (S : Nat → Bool) : Option Tmp → Bool
  | some d => S d
  | none => false
def okO (S : Nat → Bool) (o : Oper) : Bool := match o.op with
  | .alloc _ | .box _ _ => true
  | .store _ (.tmp a) _ => S a
  | .nilCheck (.tmp a) | .move (.tmp a) | .assign (.tmp a) | .fieldAddr _ (.tmp a) _ => S a || !dIn S o.dst
  | .load .. | .pick .. => !dIn S o.dst
  | _ => false
theorem kp_put {S : Nat → Bool} {id nx0 : Nat} {b0 : Blk} {s : St} {d : Option Tmp} {v : PV} {M' : Mem} (h : Kp S id nx0 b0 s) (hn : nx0 ≤ M'.nx) (he : M'.m id = b0) (hv : dIn S d = true → ∀ off, v ≠ .ptr id off) : Kp S id nx0 b0 ⟨putR s.r d v, M'⟩ := by
  refine ⟨h.lt, hn, he, fun j hj off => ?_⟩
  cases d with
  | none => exact h.rg j hj off
  | some d =>
    simp only [putR, upd]
    split
    · rename_i e
      subst e
      exact hv hj off
    · exact h.rg j hj off
theorem store_nx {T : Ti} {M M' : Mem} {x v : PV} (h : store T M x v = some M') : M'.nx = M.nx := by
  unfold store at h
  split at h
  · split at h
    · split at h
      · simp at h; rw [← h]; rfl
      · simp at h
    · simp at h
  · simp at h
theorem step_kp {S : Nat → Bool} {id nx0 : Nat} {b0 : Blk} {ops : Array Oper} {o : Oper} {s s' : St} (ho : okO S o = true) (h : step P C sh ops o s = some s') (k : Kp S id nx0 b0 s) : Kp S id nx0 b0 s' := by
  unfold step at h
  split at h
  · obtain ⟨q, hq, rfl⟩ := Option.map_eq_some_iff.1 h
    have pure : ∀ v, pureOp P s.r s.M o.op = some v → q = (v, s.M) → (dIn S o.dst = true → ∀ off, v ≠ .ptr id off) → Kp S id nx0 b0 ⟨putR s.r o.dst q.1, q.2⟩ := by
      rintro v - rfl hv
      exact kp_put k k.nx k.eq hv
    have nw : ∀ b : Blk, Kp S id nx0 b0 ⟨putR s.r o.dst (.ptr s.M.nx 0), s.M.new b⟩ := fun b =>
      kp_put k (Nat.le_succ_of_le k.nx) (by
        have h1 := k.lt; have h2 := k.nx
        show upd s.M.m s.M.nx b id = b0
        rw [upd, if_neg (by omega)]; exact k.eq) (fun _ off e => by
        have h1 := k.lt; have h2 := k.nx
        injection e with e1 e2; omega)
    have g : o.op = o.op := rfl
    unfold okO at ho
    split at ho
    · rename_i e he
      rw [he] at hq
      obtain ⟨t, -, hq⟩ := Option.bind_eq_some_iff.1 hq
      cases hq
      exact nw _
    · rename_i e x he
      rw [he] at hq
      obtain ⟨v, -, hq⟩ := Option.bind_eq_some_iff.1 hq
      obtain ⟨t, -, hq⟩ := Option.bind_eq_some_iff.1 hq
      split at hq
      · cases hq; exact nw _
      · cases hq
    · rename_i t a x he
      rw [he] at hq
      simp only [effOp] at hq
      split at hq
      · rename_i t' y v h1 h2 h3
        obtain ⟨M', hM, rfl⟩ := Option.map_eq_some_iff.1 hq
        have e2 : s.r a = y := by simpa [ev] using h2
        refine kp_put k ?_ ?_ (fun _ off e => by cases e)
        · rw [store_nx hM]; exact k.nx
        · rw [store_frame hM id (fun off e => k.rg a ho off (e2.trans e))]; exact k.eq
      · cases hq
    · rename_i a he
      rw [he] at hq
      obtain ⟨v, hv, rfl⟩ := Option.map_eq_some_iff.1 hq
      refine kp_put k k.nx k.eq fun hd off e => ?_
      simp only [pureOp, ev] at hv
      rw [hd] at ho
      have := k.rg a (by simpa using ho) off
      subst e
      revert hv this
      cases s.r a <;> simp
    · rename_i a he
      rw [he] at hq
      have e : (s.r a, s.M) = q := Option.some.inj hq
      subst e
      refine kp_put k k.nx k.eq fun hd off e => ?_
      rw [hd] at ho
      exact k.rg a (by simpa using ho) off e
    · rename_i a he
      rw [he] at hq
      have e : (s.r a, s.M) = q := Option.some.inj hq
      subst e
      refine kp_put k k.nx k.eq fun hd off e => ?_
      rw [hd] at ho
      exact k.rg a (by simpa using ho) off e
    · rename_i t a f he
      rw [he] at hq
      obtain ⟨v, hv, rfl⟩ := Option.map_eq_some_iff.1 hq
      refine kp_put k k.nx k.eq fun hd off e => ?_
      simp only [pureOp, ev] at hv
      rw [hd] at ho
      have hn := k.rg a (by simpa using ho)
      dsimp only at e
      subst e
      split at hv
      · rename_i v' _ hx
        split at hv
        · split at hv
          · cases hv
          · split at hv
            · rename_i id' o'
              simp at hv hx
              exact hn o' (by rw [hx, hv.1])
            · simp at hv
            · simp at hv
        · simp at hv
      · simp at hv
    · rename_i t x he
      rw [he] at hq
      obtain ⟨v, hv, rfl⟩ := Option.map_eq_some_iff.1 hq
      exact kp_put k k.nx k.eq fun hd => by rw [hd] at ho; simp at ho
    · rename_i x y z he
      rw [he] at hq
      obtain ⟨v, hv, rfl⟩ := Option.map_eq_some_iff.1 hq
      exact kp_put k k.nx k.eq fun hd => by rw [hd] at ho; simp at ho
    · cases ho
  · cases h
    exact kp_put k k.nx k.eq fun _ off e => by cases e
  · cases h
theorem seqR_kp {S : Nat → Bool} {id nx0 : Nat} {b0 : Blk} {ops : Array Oper} : ∀ {l : List Oper} {s s' : St}, l.all (okO S) = true → seqR P C sh ops l s = some s' → Kp S id nx0 b0 s → Kp S id nx0 b0 s'
  | [], s, s', _, h, k => by cases h; exact k
  | o :: l, s, s', ho, h, k => by
    simp only [List.all_cons, Bool.and_eq_true] at ho
    simp only [seqR] at h
    obtain ⟨t, h1, h2⟩ := Option.bind_eq_some_iff.1 h
    exact seqR_kp ho.2 h2 (step_kp ho.1 h1 k)
def okC (S : Nat → Bool) : Code → Bool
  | .skip | .ret | .exit _ => true
  | .region _ ops false => ops.toList.all (okO S)
  | .seq a b => okC S a && okC S b
  | .cond _ a b => okC S a && okC S b
  | _ => false
theorem exec_kp {S : Nat → Bool} {id nx0 n : Nat} {b0 : Blk} : ∀ {c : Code} {s : St} {y : Ex × St}, okC S c = true → exec P C sh cf n c s = some y → Kp S id nx0 b0 s → Kp S id nx0 b0 y.2
  | .skip, s, y, _, h, k => by cases h; exact k
  | .ret, s, y, _, h, k => by cases h; exact k
  | .exit _, s, y, _, h, k => by cases h; exact k
  | .region _ ops false, s, y, ho, h, k => by
    simp only [exec, Bool.false_eq_true, if_false] at h
    obtain ⟨t, h1, rfl⟩ := Option.map_eq_some_iff.1 h
    exact seqR_kp ho h1 k
  | .region _ ops true, s, y, ho, h, k => by simp [okC] at ho
  | .seq a b, s, y, ho, h, k => by
    simp only [okC, Bool.and_eq_true] at ho
    simp only [exec] at h
    cases ha : exec P C sh cf n a s with
    | none => rw [ha] at h; cases h
    | some x =>
      have k1 := exec_kp ho.1 ha k
      rw [ha] at h
      obtain ⟨e, t⟩ := x
      cases e with
      | normal => exact exec_kp ho.2 h k1
      | exit i => cases h; exact k1
      | ret => cases h; exact k1
  | .cond c a b, s, y, ho, h, k => by
    simp only [okC, Bool.and_eq_true] at ho
    simp only [exec] at h
    split at h
    · split at h
      · exact exec_kp ho.1 h k
      · exact exec_kp ho.2 h k
    · cases h
theorem ini_ne {id : Nat} : ∀ {vs : List PV} {i : Nat}, ¬ id ∈ ptrsOf vs → ∀ j off, ini i vs j ≠ .ptr id off
  | [], i, _, j, off => fun e => by cases e
  | v :: vs, i, h, j, off => fun e => by
    simp only [ini, upd] at e
    split at e
    · subst e; exact h (by simp [ptrsOf])
    · refine ini_ne (vs := vs) (i := i + 1) (fun hm => h ?_) j off e
      cases v <;> first | (exact hm) | (exact List.mem_cons_of_mem _ hm)
theorem call_kp {X : FuncId → Option (List PV → Option PV)} {sh : FuncId → FuncId → Bool} {cf : FuncId → Nat → List (Nat × Nat)} {f : FuncId} {fn : Func} {c : Code} (S : Nat → Bool) (hf : P.funcs[f]? = some fn) (hX : X f = none) (hb : fn.body = some c) (ho : okC S c = true) (k : Nat) {vs : List PV} {M M' : Mem} {p : PV} (h : call P X sh cf k f vs M = some (p, M')) {id : Nat} (h1 : id < M.nx) (h2 : ¬ id ∈ ptrsOf vs) : M'.m id = M.m id := by
  cases k with
  | zero => simp [call] at h
  | succ k =>
    simp only [call, hX, hf, runF, hb] at h
    split at h
    · have k0 : Kp S id M.nx (M.m id) ⟨ini 0 vs, M⟩ := ⟨h1, Nat.le_refl _, rfl, fun j _ off => ini_ne h2 j off⟩
      split at h
      · rename_i s hs
        obtain ⟨us, hu, e⟩ := Option.map_eq_some_iff.1 h
        cases e
        exact (exec_kp ho hs k0).eq
      · rename_i s hs
        obtain ⟨us, hu, e⟩ := Option.map_eq_some_iff.1 h
        cases e
        exact (exec_kp ho hs k0).eq
      · cases h
    · cases h
end Go.Pi
