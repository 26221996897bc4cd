/- What is proved: rules for stepping through code whose values are known in part. No conditions beyond those in the statements. -/
import Derived.Test.YtnhfplmgkhdmlaaGreatPa
import Derived.Attr
import Derived.IntWalk
set_option linter.unusedVariables false
set_option linter.unusedSimpArgs false
/-
What a program answers in the end, whatever the bound on depth and rounds is.
-/
namespace Go.Pi
open Classical in
/-- What an answer comes to. -/
noncomputable def lim {α : Type} (f : Nat → Option α) : Option α := if h : ∃ y, ∃ k0, ∀ k, k0 ≤ k → f k = some y then some h.choose else none
theorem lim_of {α : Type} {f : Nat → Option α} {y : α} (h : ∃ k0, ∀ k, k0 ≤ k → f k = some y) : lim f = some y := by
  unfold lim
  have h' : ∃ y, ∃ k0, ∀ k, k0 ≤ k → f k = some y := ⟨y, h⟩
  rw [dif_pos h']
  obtain ⟨k1, h1⟩ := h
  obtain ⟨k2, h2⟩ := h'.choose_spec
  have e1 := h1 (max k1 k2) (by omega)
  have e2 := h2 (max k1 k2) (by omega)
  rw [e1] at e2
  exact e2.symm
theorem of_lim {α : Type} {f : Nat → Option α} {y : α} (h : lim f = some y) : ∃ k0, ∀ k, k0 ≤ k → f k = some y := by
  unfold lim at h
  split at h
  · rename_i h'
    obtain ⟨k2, h2⟩ := h'.choose_spec
    simp only [Option.some.injEq] at h
    exact ⟨k2, fun k hk => by rw [h2 k hk, h]⟩
  · simp at h

section
variable (P : Program) (X : FuncId → Option (List PV → Option PV)) (sh : FuncId → FuncId → Bool) (cf : FuncId → Nat → List (Nat × Nat))
noncomputable def CL (f : FuncId) (us : List PV) (M : Mem) : Option (PV × Mem) := lim fun k => call P X sh cf k f us M
noncomputable def execL (g : FuncId) : Code → St → Option (Ex × St)
  | .skip, s => some (.normal, s)
  | .region id ops draw, s => (if draw then drwR P (CL P X sh cf) (sh g) (cf g id) ops s else seqR P (CL P X sh cf) (sh g) ops ops.toList s).map fun s => (.normal, s)
  | .seq a b, s => seqE (execL g a s) (execL g b)
  | .cond c x y, s => match ev s.r c with
    | some (.bool b) => if b then execL g x s else execL g y s
    | _ => none
  | .block id c, s => blkE id (execL g c s)
  | .loop c, s => lim fun n => iter n (execL g c) s
  | .exit id, s => some (.exit id, s)
  | .ret, s => some (.ret, s)
  | _, _ => none

variable {P X sh cf}
/-- From some bound on. -/
def Ev {α : Type} (f : Nat → Option α) (y : α) : Prop := ∃ k0, ∀ k, k0 ≤ k → f k = some y
theorem Ev.const {α : Type} {x : Option α} {y : α} (h : x = some y) : Ev (fun _ => x) y := ⟨0, fun _ _ => h⟩
theorem Ev.bind {α β : Type} {f : Nat → Option α} {y : α} (h : Ev f y) {g : Nat → α → Option β} {z : β} (hg : Ev (fun k => g k y) z) : Ev (fun k => (f k).bind (g k)) z := by
  obtain ⟨a, ha⟩ := h
  obtain ⟨b, hb⟩ := hg
  exact ⟨max a b, fun k hk => by simp only [ha k (by omega), Option.bind_some]; exact hb k (by omega)⟩
theorem Ev.congr {α : Type} {f g : Nat → Option α} {y : α} (h : Ev f y) (e : ∀ k, g k = f k) : Ev g y := by
  obtain ⟨a, ha⟩ := h
  exact ⟨a, fun k hk => by rw [e]; exact ha k hk⟩
theorem Ev.map {α β : Type} {f : Nat → Option α} {y : α} (h : Ev f y) (g : α → β) {z : β} (hz : g y = z) : Ev (fun k => (f k).map g) z := by
  obtain ⟨a, ha⟩ := h
  exact ⟨a, fun k hk => by simp only [ha k hk, Option.map_some, hz]⟩
theorem ev_call {f : FuncId} {us : List PV} {M : Mem} {q : PV × Mem} (h : CL P X sh cf f us M = some q) : Ev (fun k => call P X sh cf k f us M) q := of_lim h
theorem ev_callOp {g : FuncId → Bool} {f : FuncId} {vs : List PV} {M : Mem} {q : PV × Mem} (h : callOp (CL P X sh cf) g f vs M = some q) : Ev (fun k => callOp (call P X sh cf k) g f vs M) q := by
  unfold callOp at h ⊢
  by_cases hg : g f = true
  · simp only [hg, if_true] at h ⊢
    obtain ⟨p, h1, h2⟩ := Option.bind_eq_some_iff.1 h
    exact (ev_call h1).bind (.const h2)
  · simp only [hg, if_false] at h ⊢
    obtain ⟨p, h1, h2⟩ := Option.bind_eq_some_iff.1 h
    obtain ⟨p', h3, h4⟩ := Option.bind_eq_some_iff.1 h2
    exact (Ev.const (x := frzL M vs) h1).bind ((ev_call h3).bind (.const h4))
theorem ev_eff {g : FuncId → Bool} {r : Nat → PV} {M : Mem} {op : Op} {q : PV × Mem} (h : effOp P (CL P X sh cf) g r M op = some q) : Ev (fun k => effOp P (call P X sh cf k) g r M op) q := by
  unfold effOp at h ⊢
  split at h
  case h_6 =>
    split at h
    · obtain ⟨p, h1, h2⟩ := Option.bind_eq_some_iff.1 h
      exact (Ev.const h1).bind (ev_callOp h2)
    · simp at h
  all_goals exact .const h
theorem ev_step {g : FuncId → Bool} {ops : Array Oper} {o : Oper} {s s' : St} (h : step P (CL P X sh cf) g ops o s = some s') : Ev (fun k => step P (call P X sh cf k) g ops o s) s' := by
  unfold step at h ⊢
  split at h
  · obtain ⟨p, h1, h2⟩ := Option.map_eq_some_iff.1 h
    exact (ev_eff h1).map _ h2
  · exact .const h
  · simp at h
theorem ev_seqR {g : FuncId → Bool} {ops : Array Oper} : ∀ {l : List Oper} {s s' : St}, seqR P (CL P X sh cf) g ops l s = some s' → Ev (fun k => seqR P (call P X sh cf k) g ops l s) s'
  | [], s, s', h => .const h
  | o :: l, s, s', h => by
    simp only [seqR] at h ⊢
    obtain ⟨p, h1, h2⟩ := Option.bind_eq_some_iff.1 h
    exact (ev_step h1).bind (ev_seqR h2)
theorem ev_drw {g : FuncId → Bool} {n : Nat} {r : Nat → PV} {M : Mem} {op : Op} {q : PV × Mem} (h : drwOp P (CL P X sh cf) g n r M op = some q) : Ev (fun k => drwOp P (call P X sh cf k) g n r M op) q := by
  unfold drwOp at h ⊢
  split at h
  case h_4 =>
    obtain ⟨p, h1, h2⟩ := Option.bind_eq_some_iff.1 h
    exact (Ev.const h1).bind (ev_callOp h2)
  case h_5 =>
    split at h
    · obtain ⟨p, h1, h2⟩ := Option.bind_eq_some_iff.1 h
      exact (Ev.const h1).bind (ev_callOp h2)
    · simp at h
  all_goals exact .const h
theorem ev_stepD {g : FuncId → Bool} {ops : Array Oper} {n : Nat} {o : Oper} {s s' : St} (h : stepD P (CL P X sh cf) g ops n o s = some s') : Ev (fun k => stepD P (call P X sh cf k) g ops n o s) s' := by
  unfold stepD at h ⊢
  split at h
  · obtain ⟨p, h1, h2⟩ := Option.map_eq_some_iff.1 h
    exact (ev_drw h1).map _ h2
  · exact .const h
  · simp at h
theorem ev_seqD {g : FuncId → Bool} {ops : Array Oper} {b : Nat} : ∀ {l : List Oper} {i : Nat} {s s' : St}, seqD P (CL P X sh cf) g ops b i l s = some s' → Ev (fun k => seqD P (call P X sh cf k) g ops b i l s) s'
  | [], i, s, s', h => .const h
  | o :: l, i, s, s', h => by
    simp only [seqD] at h ⊢
    obtain ⟨p, h1, h2⟩ := Option.bind_eq_some_iff.1 h
    exact (ev_stepD h1).bind (ev_seqD h2)
theorem ev_drwR {g : FuncId → Bool} {ops : Array Oper} {c : List (Nat × Nat)} {s s' : St} (h : drwR P (CL P X sh cf) g c ops s = some s') : Ev (fun k => drwR P (call P X sh cf k) g c ops s) s' := by
  unfold drwR at h ⊢
  obtain ⟨p, h1, h2⟩ := Option.bind_eq_some_iff.1 h
  obtain ⟨p', h3, h4⟩ := Option.bind_eq_some_iff.1 h2
  exact (Ev.const h1).bind ((ev_seqD h3).bind (.const h4))
theorem Ev.iter {f : Nat → St → Option (Ex × St)} {F : St → Option (Ex × St)} (hF : ∀ s y, F s = some y → Ev (fun k => f k s) y) : ∀ {n : Nat} {s : St} {y : Ex × St}, iter n F s = some y → Ev (fun k => iter n (f k) s) y
  | 0, s, y, h => by simp [Pi.iter] at h
  | n + 1, s, y, h => by
    simp only [Pi.iter] at h ⊢
    split at h
    · rename_i s' hs
      obtain ⟨a, ha⟩ := hF s _ hs
      obtain ⟨b, hb⟩ := Ev.iter hF h
      exact ⟨max a b, fun k hk => by simp only [ha k (by omega)]; exact hb k (by omega)⟩
    · rename_i hne
      obtain ⟨a, ha⟩ := hF s _ h
      refine ⟨a, fun k hk => ?_⟩
      simp only [ha k hk]
      obtain ⟨e, s'⟩ := y
      cases e with
      | normal => exact absurd h (hne s')
      | _ => rfl
theorem iter_more {F : St → Option (Ex × St)} : ∀ {n m : Nat} {s : St} {y : Ex × St}, iter n F s = some y → n ≤ m → iter m F s = some y
  | 0, m, s, y, h, _ => by simp [iter] at h
  | n + 1, 0, s, y, h, hm => by omega
  | n + 1, m + 1, s, y, h, hm => by
    simp only [iter] at h ⊢
    split at h
    · rename_i s' hs
      exact iter_more h (by omega)
    · exact h
theorem ev_exec {g : FuncId} : ∀ {c : Code} {s : St} {y : Ex × St}, execL P X sh cf g c s = some y → Ev (fun k => exec P (call P X sh cf k) (sh g) (cf g) k c s) y
  | .skip, s, y, h => .const h
  | .region id ops draw, s, y, h => by
    simp only [execL] at h
    simp only [exec]
    obtain ⟨p, h1, h2⟩ := Option.map_eq_some_iff.1 h
    cases draw with
    | true =>
      simp only [if_true] at h1 ⊢
      exact (ev_drwR h1).map _ h2
    | false =>
      simp only [Bool.false_eq_true, if_false] at h1 ⊢
      exact (ev_seqR h1).map _ h2
  | .seq a b, s, y, h => by
    simp only [execL] at h
    simp only [exec]
    unfold seqE at h
    split at h
    · rename_i s' hs
      obtain ⟨k1, h1⟩ := ev_exec hs
      obtain ⟨k2, h2⟩ := ev_exec h
      exact ⟨max k1 k2, fun k hk => by simp only [h1 k (by omega), seqE]; exact h2 k (by omega)⟩
    · rename_i hne
      obtain ⟨k1, h1⟩ := ev_exec h
      refine ⟨k1, fun k hk => ?_⟩
      simp only [h1 k hk]
      obtain ⟨e, s'⟩ := y
      cases e with
      | normal => exact absurd h (hne s')
      | _ => rfl
  | .cond c x z, s, y, h => by
    simp only [execL] at h
    simp only [exec]
    split at h
    · rename_i b hb
      simp only [hb]
      cases b
      · exact ev_exec h
      · exact ev_exec h
    · simp at h
  | .block id c, s, y, h => by
    simp only [execL] at h
    simp only [exec]
    cases hx : execL P X sh cf g c s with
    | none => rw [hx] at h; simp [blkE] at h
    | some z =>
      rw [hx] at h
      obtain ⟨k1, h1⟩ := ev_exec hx
      exact ⟨k1, fun k hk => by simp only [h1 k hk]; exact h⟩
  | .loop c, s, y, h => by
    simp only [execL] at h
    simp only [exec]
    obtain ⟨n0, hn⟩ := of_lim h
    obtain ⟨k1, h1⟩ := Ev.iter (f := fun k => exec P (call P X sh cf k) (sh g) (cf g) k c) (fun s y hs => ev_exec hs) (hn n0 (Nat.le_refl _))
    exact ⟨max n0 k1, fun k hk => iter_more (h1 k (by omega)) (by omega)⟩
  | .exit id, s, y, h => .const h
  | .ret, s, y, h => .const h

noncomputable def RL (P : Program) (X : FuncId → Option (List PV → Option PV)) (sh : FuncId → FuncId → Bool) (cf : FuncId → Nat → List (Nat × Nat)) (f : FuncId) (us : List PV) : Option PV := (CL P X sh cf f us mem0).bind fun q => frz q.2 q.1
/-- What a function answers, from what its code comes to. -/
def fin (P : Program) (rs : List ResultVar) : Option (Ex × St) → Option (PV × Mem)
  | some (.normal, s) | some (.ret, s) => (resL P s rs).map fun vs => (one vs, s.M)
  | _ => none
theorem CL_of {f : FuncId} {fn : Func} {us : List PV} {c : Code} {rs : List ResultVar} {M : Mem} {q : PV × Mem} (hf : P.funcs[f]? = some fn) (hX : X f = none) (hb : fn.body = some c) (hr : fn.results = rs.toArray) (hl : us.length ≤ fn.ntmps) (h : fin P rs (execL P X sh cf f c ⟨ini 0 us, M⟩) = some q) : CL P X sh cf f us M = some q := by
  refine lim_of ?_
  cases hx : execL P X sh cf f c ⟨ini 0 us, M⟩ with
  | none => rw [hx] at h; simp [fin] at h
  | some y =>
    rw [hx] at h
    obtain ⟨k1, h1⟩ := ev_exec hx
    refine ⟨k1 + 1, fun k hk => ?_⟩
    obtain ⟨k, rfl⟩ : ∃ j, k = j + 1 := ⟨k - 1, by omega⟩
    simp only [call, hX, hf, runF, hb, if_pos hl, h1 k (by omega)]
    obtain ⟨e, s⟩ := y
    cases e with
    | normal => rw [hr]; exact h
    | ret => rw [hr]; exact h
    | exit i => simp [fin] at h
def fz (q : PV × Mem) : Option PV := frz q.2 q.1
theorem RL_of {f : FuncId} {fn : Func} {us : List PV} {c : Code} {rs : List ResultVar} {x : PV} (hf : P.funcs[f]? = some fn) (hX : X f = none) (hb : fn.body = some c) (hr : fn.results = rs.toArray) (hl : us.length ≤ fn.ntmps) (h : (fin P rs (execL P X sh cf f c ⟨ini 0 us, mem0⟩)).bind fz = some x) : RL P X sh cf f us = some x := by
  obtain ⟨q, h1, h2⟩ := Option.bind_eq_some_iff.1 h
  unfold RL
  rw [CL_of hf hX hb hr hl h1]
  exact h2
theorem RL_CL {f : FuncId} {us : List PV} {v x : PV} {M : Mem} (h : CL P X sh cf f us mem0 = some (v, M)) (hx : frz M v = some x) : RL P X sh cf f us = some x := by
  unfold RL
  rw [h]; exact hx
theorem callOp_RL {g : FuncId → Bool} {f : FuncId} (hs : g f = false) (vs : List PV) (M : Mem) : callOp (CL P X sh cf) g f vs M =
    (frzL M vs).bind fun us => (RL P X sh cf f us).bind fun x => some (x, if x.scalar then M else hold M (flat vs)) := by
  simp only [callOp, hs, RL]
  cases frzL M vs with
  | none => rfl
  | some us =>
    simp only [Option.bind_some, Bool.false_eq_true, if_false]
    cases CL P X sh cf f us mem0 with
    | none => rfl
    | some q => simp only [Option.bind_some]
end
end Go.Pi

set_option linter.unusedVariables false
set_option linter.unusedSimpArgs false
/-
Rules for stepping through code whose values are known in part.
-/
namespace Go.Pi
/-- Not to be seen through. -/
theorem nr {α : Sort _} {a b : α} (h : a = b) : a = b := h
/-- Is it so? -/
noncomputable def dec (p : Prop) : Bool := @decide p (Classical.propDecidable p)
theorem dec_eq (p : Prop) [h : Decidable p] : decide p = dec p := by unfold dec; congr
theorem dec_t {p : Prop} (h : p) : dec p = true := by rw [← @dec_eq p (Classical.propDecidable p)]; simp [h]
theorem dec_f {p : Prop} (h : ¬ p) : dec p = false := by rw [← @dec_eq p (Classical.propDecidable p)]; simp [h]
@[go_sem] theorem dec_true : dec True = true := dec_t trivial
@[go_sem] theorem dec_false : dec False = false := dec_f (fun h => h)
section
variable {P : Program} {C : FuncId → List PV → Mem → Option (PV × Mem)} {sh : FuncId → Bool} {X : FuncId → Option (List PV → Option PV)} {S : FuncId → FuncId → Bool} {cf : FuncId → Nat → List (Nat × Nat)}

def sel {α : Type} (b : Bool) (f : Nat → α) (x : α) (j : Nat) : α := match b with
  | true => x
  | false => f j
@[go_sem] theorem sel_t {α : Type} (f : Nat → α) (x : α) (j : Nat) : sel true f x j = x := nr rfl
@[go_sem] theorem sel_f {α : Type} (f : Nat → α) (x : α) (j : Nat) : sel false f x j = f j := nr rfl
@[go_sem] theorem upd_ap {α : Type} (f : Nat → α) (i : Nat) (x : α) (j : Nat) : upd f i x j = sel (j == i) f x j := by
  unfold upd
  by_cases h : j = i
  · rw [if_pos h, show (j == i) = true by simp [h]]; rfl
  · rw [if_neg h, show (j == i) = false by simp [h]]; rfl
theorem beq_no {a b : Nat} (h : a ≠ b) : (a == b) = false := by simp [h]
@[go_sem] theorem ini_nil (i : Nat) : ini i [] = fun _ => .junk := nr rfl
@[go_sem] theorem ini_cons (i : Nat) (v : PV) (vs : List PV) : ini i (v :: vs) = upd (ini (i + 1) vs) i v := nr rfl
@[go_sem] theorem mem0_eq : mem0 = ⟨fun _ => .dead, 0⟩ := nr rfl

/-! Code -/
def nrm (s : St) : Option (Ex × St) := some (.normal, s)
@[go_sem] theorem nrm_ap (r : Nat → PV) (M : Mem) : nrm ⟨r, M⟩ = some (.normal, ⟨r, M⟩) := nr rfl
@[go_sem] theorem xL_skip {g : FuncId} {s : St} : execL P X S cf g .skip s = some (.normal, s) := nr rfl
@[go_sem] theorem xL_regionF {g : FuncId} {id : Nat} {l : List Oper} {s : St} : execL P X S cf g (.region id l.toArray false) s = (seqR P (CL P X S cf) (S g) l.toArray l s).bind nrm := by
  simp only [execL]
  cases h : seqR P (CL P X S cf) (S g) l.toArray l s <;> simp [h, nrm]
@[go_sem] theorem xL_regionT {g : FuncId} {id : Nat} {l : List Oper} {s : St} : execL P X S cf g (.region id l.toArray true) s = (drwR P (CL P X S cf) (S g) (cf g id) l.toArray s).bind nrm := by
  simp only [execL]
  cases h : drwR P (CL P X S cf) (S g) (cf g id) l.toArray s <;> simp [h, nrm]
@[go_sem] theorem xL_seq {g : FuncId} {a b : Code} {s : St} : execL P X S cf g (.seq a b) s = seqE (execL P X S cf g a s) (execL P X S cf g b) := nr rfl
def condE (x : Option PV) (f g : St → Option (Ex × St)) (s : St) : Option (Ex × St) := match x with
  | some (.bool b) => if b then f s else g s
  | _ => none
@[go_sem] theorem xL_cond {g : FuncId} {c : Operand} {a b : Code} {s : St} : execL P X S cf g (.cond c a b) s = condE (ev s.r c) (execL P X S cf g a) (execL P X S cf g b) s := nr rfl
@[go_sem] theorem condE_true {f g : St → Option (Ex × St)} {s : St} : condE (some (.bool true)) f g s = f s := nr rfl
@[go_sem] theorem condE_false {f g : St → Option (Ex × St)} {s : St} : condE (some (.bool false)) f g s = g s := nr rfl
@[go_sem] theorem xL_block {g : FuncId} {id : Nat} {c : Code} {s : St} : execL P X S cf g (.block id c) s = blkE id (execL P X S cf g c s) := nr rfl
@[go_sem] theorem xL_exit {g : FuncId} {id : Nat} {s : St} : execL P X S cf g (.exit id) s = some (.exit id, s) := nr rfl
@[go_sem] theorem xL_ret {g : FuncId} {s : St} : execL P X S cf g .ret s = some (.ret, s) := nr rfl
@[go_sem] theorem seqE_normal {s : St} {f : St → Option (Ex × St)} : seqE (some (.normal, s)) f = f s := nr rfl
@[go_sem] theorem seqE_exit {i : Nat} {s : St} {f : St → Option (Ex × St)} : seqE (some (.exit i, s)) f = some (.exit i, s) := nr rfl
@[go_sem] theorem seqE_ret {s : St} {f : St → Option (Ex × St)} : seqE (some (.ret, s)) f = some (.ret, s) := nr rfl
@[go_sem] theorem blkE_normal {i : Nat} {s : St} : blkE i (some (.normal, s)) = some (.normal, s) := nr rfl
@[go_sem] theorem blkE_ret {i : Nat} {s : St} : blkE i (some (.ret, s)) = some (.ret, s) := nr rfl
@[go_sem] theorem blkE_exit {i j : Nat} {s : St} : blkE i (some (.exit j, s)) = if j = i then some (.normal, s) else some (.exit j, s) := nr rfl
def finK (s : St) (vs : List PV) : Option (PV × Mem) := some (one vs, s.M)
@[go_sem] theorem finK_ap {r : Nat → PV} {M : Mem} {vs : List PV} : finK ⟨r, M⟩ vs = some (one vs, M) := nr rfl
@[go_sem] theorem fin_normal {rs : List ResultVar} {s : St} : fin P rs (some (.normal, s)) = (resL P s rs).bind (finK s) := by
  simp only [fin]; cases resL P s rs <;> rfl
@[go_sem] theorem fin_ret {rs : List ResultVar} {s : St} : fin P rs (some (.ret, s)) = (resL P s rs).bind (finK s) := by
  simp only [fin]; cases resL P s rs <;> rfl
@[go_sem] theorem fz_ap {v : PV} {M : Mem} : fz (v, M) = frz M v := nr rfl
@[go_sem] theorem resL_nil {s : St} : resL P s [] = some [] := nr rfl
@[go_sem] theorem resL_cons {s : St} {x : ResultVar} {xs : List ResultVar} : resL P s (x :: xs) = (res1 P s x).bind fun y => (resL P s xs).bind fun ys => some (y :: ys) := by
  simp only [resL]; cases res1 P s x <;> cases resL P s xs <;> rfl
def resV (t : Option Ti) (m : Nat → Blk) (x : PV) : Option PV := match t, x with
  | some t, .ptr id off => match m id with
      | .live _ _ cs => rdAt t (cs.drop off)
      | .dead => none
  | _, _ => none
def resB (t : Ti) (off : Nat) : Blk → Option PV
  | .live _ _ cs => rdAt t (cs.drop off)
  | .dead => none
@[go_sem] theorem res1_cell {s : St} {a : Tmp} {t : TypeId} : res1 P s (.cell a t) = resV (ti P t) s.M.m (s.r a) := nr rfl
@[go_sem] theorem resV_ptr {t : Ti} {m : Nat → Blk} {id off : Nat} : resV (some t) m (.ptr id off) = resB t off (m id) := by
  simp only [resV, resB]
@[go_sem] theorem resB_live {t : Ti} {off : Nat} {w : Bool} {ty : TypeId} {cs : List PV} : resB t off (.live w ty cs) = rdAt t (cs.drop off) := nr rfl
@[go_sem] theorem res1_tmp {s : St} {t : Tmp} : res1 P s (.tmp t) = some (s.r t) := nr rfl
@[go_sem] theorem one_one {v : PV} : one [v] = v := nr rfl
@[go_sem] theorem one_nil : one [] = .tup [] := nr rfl
@[go_sem] theorem one_two {u v : PV} {vs : List PV} : one (u :: v :: vs) = .tup (u :: v :: vs) := nr rfl

/-! Rows of operations -/
def wM (M : Mem) (v : PV) : Option (PV × Mem) := some (v, M)
@[go_sem] theorem wM_ap (M : Mem) (v : PV) : wM M v = some (v, M) := nr rfl
def kR (P : Program) (C : FuncId → List PV → Mem → Option (PV × Mem)) (sh : FuncId → Bool) (ops : Array Oper) (rest : List Oper) (d : Option Tmp) (r : Nat → PV) (q : PV × Mem) : Option St := seqR P C sh ops rest ⟨putR r d q.1, q.2⟩
@[go_sem] theorem kR_ap {ops : Array Oper} {rest : List Oper} {d : Tmp} {r : Nat → PV} {v : PV} {M : Mem} : kR P C sh ops rest (some d) r (v, M) = seqR P C sh ops rest ⟨upd r d v, M⟩ := nr rfl
@[go_sem] theorem kR_ap0 {ops : Array Oper} {rest : List Oper} {r : Nat → PV} {v : PV} {M : Mem} : kR P C sh ops rest none r (v, M) = seqR P C sh ops rest ⟨r, M⟩ := nr rfl
@[go_sem] theorem seqR_nil {ops : Array Oper} {s : St} : seqR P C sh ops [] s = some s := nr rfl
@[go_sem] theorem seqR_cons {ops : Array Oper} {d : Option Tmp} {op : Op} {t : TypeId} {p : String} {a : Array Edge} {rest : List Oper} {r : Nat → PV} {M : Mem} :
    seqR P C sh ops ({ dst := d, op := op, type := t, pos := p, after := a, guard := none } :: rest) ⟨r, M⟩ = (effOp P C sh r M op).bind (kR P C sh ops rest d r) := by
  simp only [seqR, step, want]
  cases effOp P C sh r M op <;> rfl
def wantB (b : Bool) : PV → Option Bool
  | .bool c => some (c == b)
  | .und => some false
  | _ => none
@[go_sem] theorem wantB_tt : wantB true (.bool true) = some true := nr rfl
@[go_sem] theorem wantB_tf : wantB true (.bool false) = some false := nr rfl
@[go_sem] theorem wantB_ft : wantB false (.bool true) = some false := nr rfl
@[go_sem] theorem wantB_ff : wantB false (.bool false) = some true := nr rfl
@[go_sem] theorem wantB_und {b : Bool} : wantB b .und = some false := nr rfl
def wantG (b : Bool) (r : Nat → PV) : Option Tmp → Option Bool
  | some t => wantB b (r t)
  | none => some false
@[go_sem] theorem wantG_some {b : Bool} {r : Nat → PV} {t : Tmp} : wantG b r (some t) = wantB b (r t) := nr rfl
def dst? (o : Oper) : Option Tmp := o.dst
@[go_sem] theorem dst?_mk {d : Option Tmp} {op : Op} {t : TypeId} {p : String} {a : Array Edge} {g : Option (Nat × Bool)} : dst? { dst := d, op := op, type := t, pos := p, after := a, guard := g } = d := nr rfl
theorem want_guard {l : List Oper} {r : Nat → PV} {d : Option Tmp} {op : Op} {t : TypeId} {p : String} {a : Array Edge} {j : Nat} {b : Bool} :
    want l.toArray r { dst := d, op := op, type := t, pos := p, after := a, guard := some (j, b) } = wantG b r (l[j]?.bind dst?) := by
  simp only [want, List.getElem?_toArray]
  have e : (fun x : Oper => x.dst) = dst? := rfl
  rw [e]
  cases l[j]?.bind dst? with
  | none => rfl
  | some t => simp only [wantG, wantB]; cases r t <;> rfl
def gR (P : Program) (C : FuncId → List PV → Mem → Option (PV × Mem)) (sh : FuncId → Bool) (ops : Array Oper) (rest : List Oper) (d : Option Tmp) (r : Nat → PV) (M : Mem) (op : Op) : Option Bool → Option St
  | some true => (effOp P C sh r M op).bind (kR P C sh ops rest d r)
  | some false => seqR P C sh ops rest ⟨putR r d .und, M⟩
  | none => none
@[go_sem] theorem gR_true {ops : Array Oper} {rest : List Oper} {d : Option Tmp} {r : Nat → PV} {M : Mem} {op : Op} : gR P C sh ops rest d r M op (some true) = (effOp P C sh r M op).bind (kR P C sh ops rest d r) := nr rfl
@[go_sem] theorem gR_false {ops : Array Oper} {rest : List Oper} {d : Tmp} {r : Nat → PV} {M : Mem} {op : Op} : gR P C sh ops rest (some d) r M op (some false) = seqR P C sh ops rest ⟨upd r d .und, M⟩ := nr rfl
@[go_sem] theorem gR_false0 {ops : Array Oper} {rest : List Oper} {r : Nat → PV} {M : Mem} {op : Op} : gR P C sh ops rest none r M op (some false) = seqR P C sh ops rest ⟨r, M⟩ := nr rfl
@[go_sem] theorem seqR_guard {l : List Oper} {d : Option Tmp} {op : Op} {t : TypeId} {p : String} {a : Array Edge} {j : Nat} {b : Bool} {rest : List Oper} {r : Nat → PV} {M : Mem} :
    seqR P C sh l.toArray ({ dst := d, op := op, type := t, pos := p, after := a, guard := some (j, b) } :: rest) ⟨r, M⟩ = gR P C sh l.toArray rest d r M op (wantG b r (l[j]?.bind dst?)) := by
  simp only [seqR, step, want_guard]
  cases h : wantG b r (l[j]?.bind dst?) with
  | none => rfl
  | some c =>
    cases c
    · rfl
    · simp only [gR]; cases effOp P C sh r M op <;> rfl

/-! Operands -/
@[go_sem] theorem ev_tmp {r : Nat → PV} {t : Tmp} : ev r (.tmp t) = some (r t) := nr rfl
@[go_sem] theorem ev_const {r : Nat → PV} {v : Value} : ev r (.const v) = cst v := nr rfl
@[go_sem] theorem ev_func {r : Nat → PV} {f : FuncId} : ev r (.func f) = some (.fn f []) := nr rfl
@[go_sem] theorem cst_bool {b : Bool} : cst (.bool b) = some (.bool b) := nr rfl
@[go_sem] theorem cst_int {k : IntKind} {n : Int} : cst (.int k n) = some (.int k n) := nr rfl
@[go_sem] theorem cst_nil : cst (.slice none 0 0) = some (.sl true []) := nr rfl
@[go_sem] theorem evL_nil {r : Nat → PV} : evL r [] = some [] := nr rfl
@[go_sem] theorem evL_cons {r : Nat → PV} {x : Operand} {xs : List Operand} : evL r (x :: xs) = (ev r x).bind fun y => (evL r xs).bind fun ys => some (y :: ys) := by
  simp only [evL]; cases ev r x <;> cases evL r xs <;> rfl
@[go_sem] theorem evP_nil {r : Nat → PV} : evP r [] = some [] := nr rfl
@[go_sem] theorem evP_cons {r : Nat → PV} {i : Nat} {x : Operand} {xs : List (Nat × Operand)} : evP r ((i, x) :: xs) = (ev r x).bind fun y => (evP r xs).bind fun ys => some ((i, y) :: ys) := by
  simp only [evP]; cases ev r x <;> cases evP r xs <;> rfl

/-! Operations that only compute -/
theorem eff_pure {r : Nat → PV} {M : Mem} {op : Op} (h : effOp P C sh r M op = (pureOp P r M op).map fun v => (v, M)) : effOp P C sh r M op = (pureOp P r M op).bind (wM M) := by
  rw [h]; cases pureOp P r M op <;> rfl
@[go_sem] theorem eff_move {r : Nat → PV} {M : Mem} {x : Operand} : effOp P C sh r M (.move x) = (ev r x).bind (wM M) := nr (eff_pure rfl)
@[go_sem] theorem eff_assign {r : Nat → PV} {M : Mem} {x : Operand} : effOp P C sh r M (.assign x) = (ev r x).bind (wM M) := nr (eff_pure rfl)
def pickV (x y z : Option PV) : Option PV := match x with
  | some (.bool true) => y
  | some (.bool false) => z
  | _ => none
@[go_sem] theorem pickV_t {y z : Option PV} : pickV (some (.bool true)) y z = y := nr rfl
@[go_sem] theorem pickV_f {y z : Option PV} : pickV (some (.bool false)) y z = z := nr rfl
@[go_sem] theorem eff_pick {r : Nat → PV} {M : Mem} {x y z : Operand} : effOp P C sh r M (.pick x y z) = (pickV (ev r x) (ev r y) (ev r z)).bind (wM M) := by
  rw [eff_pure rfl]; congr 1
def binV (P : Program) (op : BinOp) (t : TypeId) (x y : Option PV) : Option PV := match x, y with
    | some (.agg cs), some (.agg ds) => binA op (eqT P t cs) cs ds
    | some (.bool p), some (.bool q) => match ti P t with
      | some ⟨.bool, _, _, _⟩ => bin op (.bool p) (.bool q)
      | _ => none
    | some a, some b => bin op a b
    | _, _ => none
@[go_sem] theorem eff_bin {r : Nat → PV} {M : Mem} {op : BinOp} {t u : TypeId} {x y : Operand} : effOp P C sh r M (.binOp op t x y u) = (binV P op t (ev r x) (ev r y)).bind (wM M) := by
  rw [eff_pure rfl]; congr 1
@[go_sem] theorem binV_agg {op : BinOp} {t : TypeId} {cs ds : List PV} : binV P op t (some (.agg cs)) (some (.agg ds)) = binA op (eqT P t cs) cs ds := nr rfl
def binB (op : BinOp) (t : Option Ti) (p q : Bool) : Option PV := match t with
      | some ⟨.bool, _, _, _⟩ => bin op (.bool p) (.bool q)
      | _ => none
@[go_sem] theorem binV_bool {op : BinOp} {t : TypeId} {p q : Bool} : binV P op t (some (.bool p)) (some (.bool q)) = binB op (ti P t) p q := nr rfl
@[go_sem] theorem binB_eq {n b : Nat} {z : List PV} {p q : Bool} : binB .eql (some ⟨.bool, n, b, z⟩) p q = some (.bool (p == q)) := nr rfl
@[go_sem] theorem binB_ne {n b : Nat} {z : List PV} {p q : Bool} : binB .neq (some ⟨.bool, n, b, z⟩) p q = some (.bool (!(p == q))) := nr rfl
@[go_sem] theorem binV_int {op : BinOp} {t : TypeId} {k k' : IntKind} {x y : Int} : binV P op t (some (.int k x)) (some (.int k' y)) = bin op (.int k x) (.int k' y) := nr rfl
@[go_sem] theorem bin_add {k : IntKind} {x y : Int} : bin .add (.int k x) (.int k y) = some (.int k (k.wrap (x + y))) := by simp [bin]
@[go_sem] theorem bin_sub {k : IntKind} {x y : Int} : bin .sub (.int k x) (.int k y) = some (.int k (k.wrap (x - y))) := by simp [bin]
@[go_sem] theorem bin_mul {k : IntKind} {x y : Int} : bin .mul (.int k x) (.int k y) = some (.int k (k.wrap (x * y))) := by simp [bin]
@[go_sem] theorem bin_quo {k : IntKind} {x y : Int} : bin .quo (.int k x) (.int k y) = if y = 0 then none else some (.int k (k.wrap (x.tdiv y))) := by simp [bin]
@[go_sem] theorem bin_rem {k : IntKind} {x y : Int} : bin .rem (.int k x) (.int k y) = if y = 0 then none else some (.int k (x.tmod y)) := by simp [bin]
/-- Bit by bit, of words of 64 bits. -/
def andU (x y : Int) : Int := IntKind.u64.wrap ((BitVec.ofInt 64 x &&& BitVec.ofInt 64 y).toNat : Nat)
def orU (x y : Int) : Int := IntKind.u64.wrap ((BitVec.ofInt 64 x ||| BitVec.ofInt 64 y).toNat : Nat)
@[go_sem] theorem bin_and {x y : Int} : bin .and (.int .u64 x) (.int .u64 y) = some (.int .u64 (andU x y)) := by simp only [bin, if_true]; rfl
@[go_sem] theorem bin_or {x y : Int} : bin .or (.int .u64 x) (.int .u64 y) = some (.int .u64 (orU x y)) := by simp only [bin, if_true]; rfl
@[go_sem] theorem bin_eql {k : IntKind} {x y : Int} : bin .eql (.int k x) (.int k y) = some (.bool (dec (x = y))) := by rw [← dec_eq]; simp [bin]; rfl
@[go_sem] theorem bin_neq {k : IntKind} {x y : Int} : bin .neq (.int k x) (.int k y) = some (.bool (!dec (x = y))) := by rw [← dec_eq]; simp [bin]; rfl
@[go_sem] theorem bin_lss {k : IntKind} {x y : Int} : bin .lss (.int k x) (.int k y) = some (.bool (dec (x < y))) := by simp [bin, ← dec_eq]
@[go_sem] theorem bin_leq {k : IntKind} {x y : Int} : bin .leq (.int k x) (.int k y) = some (.bool (dec (x ≤ y))) := by simp [bin, ← dec_eq]
@[go_sem] theorem bin_gtr {k : IntKind} {x y : Int} : bin .gtr (.int k x) (.int k y) = some (.bool (dec (y < x))) := by simp [bin, ← dec_eq]
@[go_sem] theorem bin_geq {k : IntKind} {x y : Int} : bin .geq (.int k x) (.int k y) = some (.bool (dec (y ≤ x))) := by simp [bin, ← dec_eq]
theorem bin_shl0 {k k' : IntKind} {x y : Int} : bin .shl (.int k x) (.int k' y) = if y < 0 then none else some (.int k (k.wrap (x * 2 ^ min y.toNat k.bits))) := by simp [bin]
theorem bin_shr0 {k k' : IntKind} {x y : Int} : bin .shr (.int k x) (.int k' y) = if y < 0 then none else some (.int k (x.fdiv (2 ^ min y.toNat k.bits))) := by simp [bin]
@[go_sem] theorem bin_shl {k' : IntKind} {x y : Int} (h0 : 0 ≤ y) (h1 : y ≤ 64) : bin .shl (.int .u64 x) (.int k' y) = some (.int .u64 (IntKind.u64.wrap (x * 2 ^ y.toNat))) := by
  rw [bin_shl0, if_neg (by omega), show min y.toNat IntKind.u64.bits = y.toNat by simp only [IntKind.bits]; omega]
@[go_sem] theorem bin_shr {k' : IntKind} {x y : Int} (h0 : 0 ≤ y) (h1 : y ≤ 64) : bin .shr (.int .u64 x) (.int k' y) = some (.int .u64 (x / 2 ^ y.toNat)) := by
  rw [bin_shr0, if_neg (by omega), show min y.toNat IntKind.u64.bits = y.toNat by simp only [IntKind.bits]; omega, Int.fdiv_eq_ediv_of_nonneg]
  exact Int.le_of_lt (Int.pow_pos (by omega))
@[go_sem] theorem eff_un {r : Nat → PV} {M : Mem} {op : UnOp} {t : TypeId} {x : Operand} : effOp P C sh r M (.unOp op t x) = ((ev r x).bind (una op)).bind (wM M) := by
  rw [eff_pure rfl]; congr 1
@[go_sem] theorem una_neg {k : IntKind} {n : Int} : una .neg (.int k n) = some (.int k (k.wrap (-n))) := by simp [una]
@[go_sem] theorem una_not {b : Bool} : una .not (.bool b) = some (.bool (!b)) := nr rfl
def convV (s d : Option Ti) (x : Option PV) : Option PV := match x, s, d with
    | some (.int _ n), some _, some ⟨.int k, _, _, _⟩ => some (.int k (k.wrap n))
    | _, _, _ => none
@[go_sem] theorem eff_conv {r : Nat → PV} {M : Mem} {s d : TypeId} {x : Operand} : effOp P C sh r M (.convert s d x) = (convV (ti P s) (ti P d) (ev r x)).bind (wM M) := by
  rw [eff_pure rfl]; congr 1
@[go_sem] theorem convV_int {s : Ti} {k k' : IntKind} {n : Int} {a b : Nat} {z : List PV} : convV (some s) (some ⟨.int k, a, b, z⟩) (some (.int k' n)) = some (.int k (k.wrap n)) := nr rfl
def ldV (t : Option Ti) (m : Nat → Blk) (x : Option PV) : Option PV := match t, x with
    | some t, some (.ptr id off) => match m id with
      | .live _ _ cs => rdAt t (cs.drop off)
      | .dead => none
    | some t, some (.at_ cs) => rdAt t cs
    | _, _ => none
@[go_sem] theorem eff_load {r : Nat → PV} {M : Mem} {t : TypeId} {x : Operand} : effOp P C sh r M (.load t x) = (ldV (ti P t) M.m (ev r x)).bind (wM M) := by
  rw [eff_pure rfl]; congr 1
def ldB (t : Ti) (off : Nat) (b : Blk) : Option PV := match b with
      | .live _ _ cs => rdAt t (cs.drop off)
      | .dead => none
@[go_sem] theorem ldV_ptr {t : Ti} {m : Nat → Blk} {id off : Nat} : ldV (some t) m (some (.ptr id off)) = ldB t off (m id) := nr rfl
@[go_sem] theorem ldV_at {t : Ti} {m : Nat → Blk} {cs : List PV} : ldV (some t) m (some (.at_ cs)) = rdAt t cs := nr rfl
@[go_sem] theorem ldB_live {t : Ti} {off : Nat} {w : Bool} {ty : TypeId} {cs : List PV} : ldB t off (.live w ty cs) = rdAt t (cs.drop off) := nr rfl
@[go_sem] theorem rdAt_struct {fs : List (Nat × Nat)} {n b : Nat} {z cs : List PV} : rdAt ⟨.struct fs, n, b, z⟩ cs = if n ≤ cs.length then some (.agg (cs.take n)) else none := nr rfl
@[go_sem] theorem rdAt_array {m e n b : Nat} {z cs : List PV} : rdAt ⟨.array m e, n, b, z⟩ cs = if n ≤ cs.length then some (.agg (cs.take n)) else none := nr rfl
@[go_sem] theorem rdAt_int {k : IntKind} {n b : Nat} {z cs : List PV} {c : PV} : rdAt ⟨.int k, n, b, z⟩ (c :: cs) = some c := nr rfl
@[go_sem] theorem rdAt_bool {n b : Nat} {z cs : List PV} {c : PV} : rdAt ⟨.bool, n, b, z⟩ (c :: cs) = some c := nr rfl
@[go_sem] theorem rdAt_slice {e n b : Nat} {z cs : List PV} {c : PV} : rdAt ⟨.slice e, n, b, z⟩ (c :: cs) = some c := nr rfl
@[go_sem] theorem rdAt_other {n b : Nat} {z cs : List PV} {c : PV} : rdAt ⟨.other, n, b, z⟩ (c :: cs) = some c := nr rfl
def faO : Option (Nat × Nat) → PV → Option PV
  | some (off, size), v => if size = 0 then none else match v with
        | .ptr id o => some (.ptr id (o + off))
        | .at_ cs => some (.at_ (cs.drop off))
        | _ => none
  | none, _ => none
def faV (s : Option Ti) (f : Nat) (x : Option PV) : Option PV := match s, x with
    | some ⟨.struct fs, _, _, _⟩, some v => faO (fs[f]?) v
    | _, _ => none
@[go_sem] theorem eff_field {r : Nat → PV} {M : Mem} {s : TypeId} {x : Operand} {f : Nat} : effOp P C sh r M (.fieldAddr s x f) = (faV (ti P s) f (ev r x)).bind (wM M) := by
  rw [eff_pure rfl]; congr 1
  simp only [pureOp, faV]
  split
  · rename_i fs n b z v h1 h2
    simp only [h1, h2]
    cases fs[f]? with
    | none => rfl
    | some q => rfl
  · rename_i hne
    split
    · rename_i fs _ _ _ v h1 h2
      exact absurd h2 (hne _ _ _ _ _ h1)
    · rfl
@[go_sem] theorem faV_some {fs : List (Nat × Nat)} {n b : Nat} {z : List PV} {f : Nat} {v : PV} : faV (some ⟨.struct fs, n, b, z⟩) f (some v) = faO (fs[f]?) v := nr rfl
@[go_sem] theorem faO_ptr {off size id o : Nat} : faO (some (off, size)) (.ptr id o) = if size = 0 then none else some (.ptr id (o + off)) := nr rfl
@[go_sem] theorem faO_at {off size : Nat} {cs : List PV} : faO (some (off, size)) (.at_ cs) = if size = 0 then none else some (.at_ (cs.drop off)) := nr rfl
def iaE (te : Option Ti) (v : PV) (n : Int) : Option PV := match te with
      | some te => if 0 ≤ n then match v with
        | .sl _ xs => match xs[n.toNat]? with
          | some x => if x.cells.length = te.size ∧ 0 < te.size then some (.at_ x.cells) else none
          | none => none
        | .ref id sz off len _ _ => if n < len ∧ sz = te.size then some (.ptr id (off + n.toNat * te.size)) else none
        | _ => none else none
      | none => none
def iaA (te : Option Ti) (k : Nat) (v : PV) (n : Int) : Option PV := match te with
      | some te => if 0 ≤ n ∧ n < k then match v with
        | .ptr id off => some (.ptr id (off + n.toNat * te.size))
        | .at_ cs => some (.at_ (cs.drop (n.toNat * te.size)))
        | _ => none else none
      | none => none
def iaV (P : Program) (t : Option Ti) (x i : Option PV) : Option PV := match t, x, i with
    | some ⟨.slice e, _, _, _⟩, some v, some (.int _ n) => iaE (ti P e) v n
    | some ⟨.array k e, _, _, _⟩, some v, some (.int _ n) => iaA (ti P e) k v n
    | _, _, _ => none
@[go_sem] theorem eff_index {r : Nat → PV} {M : Mem} {t : TypeId} {x i : Operand} : effOp P C sh r M (.indexAddr t x i) = (iaV P (ti P t) (ev r x) (ev r i)).bind (wM M) := by
  rw [eff_pure rfl]; congr 1
@[go_sem] theorem iaV_slice {e n b : Nat} {z : List PV} {v : PV} {k : IntKind} {i : Int} : iaV P (some ⟨.slice e, n, b, z⟩) (some v) (some (.int k i)) = iaE (ti P e) v i := nr rfl
@[go_sem] theorem iaV_array {m e n b : Nat} {z : List PV} {v : PV} {k : IntKind} {i : Int} : iaV P (some ⟨.array m e, n, b, z⟩) (some v) (some (.int k i)) = iaA (ti P e) m v i := nr rfl
def iaX (x : Option PV) (n : Nat) : Option PV := match x with
          | some x => if x.cells.length = n ∧ 0 < n then some (.at_ x.cells) else none
          | none => none
@[go_sem] theorem iaE_sl {te : Ti} {ex : Bool} {xs : List PV} {n : Int} : iaE (some te) (.sl ex xs) n = if 0 ≤ n then iaX (xs[n.toNat]?) te.size else none := nr rfl
@[go_sem] theorem iaX_some {x : PV} {n : Nat} : iaX (some x) n = if x.cells.length = n ∧ 0 < n then some (.at_ x.cells) else none := nr rfl
@[go_sem] theorem iaE_ref {te : Ti} {id sz off len cap : Nat} {ex : Bool} {n : Int} : iaE (some te) (.ref id sz off len cap ex) n = if 0 ≤ n then (if n < len ∧ sz = te.size then some (.ptr id (off + n.toNat * te.size)) else none) else none := nr rfl
@[go_sem] theorem iaA_ptr {te : Ti} {k id off : Nat} {n : Int} : iaA (some te) k (.ptr id off) n = if 0 ≤ n ∧ n < k then some (.ptr id (off + n.toNat * te.size)) else none := nr rfl
@[go_sem] theorem iaA_at {te : Ti} {k : Nat} {cs : List PV} {n : Int} : iaA (some te) k (.at_ cs) n = if 0 ≤ n ∧ n < k then some (.at_ (cs.drop (n.toNat * te.size))) else none := nr rfl
@[go_sem] theorem bound_none {r : Nat → PV} {d : Nat} : bound r d none = some d := nr rfl
def boundV : Option PV → Option Nat
  | some (.int _ n) => if 0 ≤ n then some n.toNat else none
  | _ => none
@[go_sem] theorem bound_some {r : Nat → PV} {d : Nat} {x : Operand} : bound r d (some x) = boundV (ev r x) := nr rfl
@[go_sem] theorem boundV_int {k : IntKind} {n : Int} : boundV (some (.int k n)) = if 0 ≤ n then some n.toNat else none := nr rfl
/-- A slice of a slice. -/
def slS (te : Option Ti) (v : PV) (l : Nat) (r : Nat → PV) (hi : Option Operand) : Option PV := match te, v with
      | some te, .sl ex xs => match bound r xs.length hi with
        | some h => if l ≤ h ∧ h ≤ xs.length ∧ (l = 0 ∨ unif te.size xs = true) then some (.sl (ex && decide (h = xs.length)) ((xs.take h).drop l)) else none
        | none => none
      | some te, .ref id sz off len cap ex => match bound r len hi with
        | some h => if l ≤ h ∧ h ≤ cap ∧ h ≤ len ∧ sz = te.size then some (.ref id sz (off + l * te.size) (h - l) (cap - l) ex) else none
        | none => none
      | _, _ => none
/-- With a bound on what may be appended. -/
def slM (te : Option Ti) (v : PV) (l : Nat) (r : Nat → PV) (hi : Option Operand) (mx : Operand) : Option PV := match te, v with
      | some te, .sl ex xs => match bound r xs.length hi with
        | some h => if l ≤ h ∧ h ≤ xs.length ∧ (l = 0 ∨ unif te.size xs = true) then
            match bound r 0 (some mx) with
              | some m => if m = h ∧ hi.isSome = true then some (.sl true ((xs.take h).drop l)) else none
              | none => none
          else none
        | none => none
      | some te, .ref id sz off len cap ex => match bound r len hi with
        | some h => if l ≤ h ∧ h ≤ cap ∧ h ≤ len ∧ sz = te.size then
            match bound r 0 (some mx) with
              | some m => if h ≤ m ∧ m ≤ cap ∧ hi.isSome = true then some (.ref id sz (off + l * te.size) (h - l) (m - l) true) else none
              | none => none
          else none
        | none => none
      | _, _ => none
def slA (te : Option Ti) (k id off : Nat) (b : Blk) : Option PV := match te with
      | some te => match b with
        | .live _ _ cs => if off + k * te.size ≤ cs.length then some (.ref id te.size off k k true) else none
        | .dead => none
      | none => none
def slV (P : Program) (m : Nat → Blk) (t : Option Ti) (x : Option PV) (l : Option Nat) (r : Nat → PV) (lo hi : Option Operand) : Option PV := match t, x, l with
    | some ⟨.slice e, _, _, _⟩, some v, some l => slS (ti P e) v l r hi
    | some ⟨.array k e, _, _, _⟩, some (.ptr id off), _ => match lo, hi with
      | none, none => slA (ti P e) k id off (m id)
      | _, _ => none
    | _, _, _ => none
@[go_sem] theorem eff_slice {r : Nat → PV} {M : Mem} {t : TypeId} {x : Operand} {lo hi : Option Operand} : effOp P C sh r M (.slice t x lo hi none) = (slV P M.m (ti P t) (ev r x) (bound r 0 lo) r lo hi).bind (wM M) := by
  rw [eff_pure rfl]; congr 1
  simp only [pureOp, slV]
  split
  · rename_i e n b z v l h1 h2 h3
    simp only [h1, h2, h3, slS]
    rfl
  · rename_i k e n b z id off h1 h2
    simp only [h1, h2]
    cases lo <;> cases hi <;> cases ti P e <;> rfl
  · rename_i a1 a2
    split
    · rename_i h1 h2 h3; first | exact (a1 _ _ _ _ _ _ h1 h2 h3).elim | exact (a2 _ _ _ _ _ _ h1 h2 h3).elim
    · rename_i h1 h2; first | exact (a1 _ _ _ _ _ _ _ h1 h2).elim | exact (a2 _ _ _ _ _ _ _ h1 h2).elim
    · rfl
def slX (P : Program) (t : Option Ti) (x : Option PV) (l : Option Nat) (r : Nat → PV) (hi : Option Operand) (mx : Operand) : Option PV := match t, x, l with
    | some ⟨.slice e, _, _, _⟩, some v, some l => slM (ti P e) v l r hi mx
    | _, _, _ => none
@[go_sem] theorem eff_slice3 {r : Nat → PV} {M : Mem} {t : TypeId} {x mx : Operand} {lo hi : Option Operand} : effOp P C sh r M (.slice t x lo hi (some mx)) = (slX P (ti P t) (ev r x) (bound r 0 lo) r hi mx).bind (wM M) := by
  rw [eff_pure rfl]; congr 1
  simp only [pureOp, slX]
  split
  · rename_i e n b z v l h1 h2 h3
    simp only [h1, h2, h3, slM]
    rfl
  · rename_i k e n b z id off h1 h2
    simp only [h1, h2]
  · rename_i a1 a2
    split
    · rename_i h1 h2 h3; first | exact (a1 _ _ _ _ _ _ h1 h2 h3).elim | exact (a2 _ _ _ _ _ _ h1 h2 h3).elim
    · rfl
@[go_sem] theorem slV_slice {m : Nat → Blk} {e n b l : Nat} {z : List PV} {v : PV} {r : Nat → PV} {lo hi : Option Operand} : slV P m (some ⟨.slice e, n, b, z⟩) (some v) (some l) r lo hi = slS (ti P e) v l r hi := nr rfl
@[go_sem] theorem slV_array {m : Nat → Blk} {k e n b l : Nat} {z : List PV} {id off : Nat} {r : Nat → PV} : slV P m (some ⟨.array k e, n, b, z⟩) (some (.ptr id off)) (some l) r none none = slA (ti P e) k id off (m id) := nr rfl
@[go_sem] theorem slA_some {te : Ti} {k id off : Nat} {w : Bool} {ty : TypeId} {cs : List PV} : slA (some te) k id off (.live w ty cs) = if off + k * te.size ≤ cs.length then some (.ref id te.size off k k true) else none := nr rfl
def slS1 (te : Ti) (ex : Bool) (xs : List PV) (l : Nat) : Option Nat → Option PV
  | some h => if l ≤ h ∧ h ≤ xs.length ∧ (l = 0 ∨ unif te.size xs = true) then some (.sl (ex && decide (h = xs.length)) ((xs.take h).drop l)) else none
  | none => none
@[go_sem] theorem slS_sl {te : Ti} {ex : Bool} {xs : List PV} {l : Nat} {r : Nat → PV} {hi : Option Operand} : slS (some te) (.sl ex xs) l r hi = slS1 te ex xs l (bound r xs.length hi) := by
  rfl
@[go_sem] theorem slS1_some {te : Ti} {ex : Bool} {xs : List PV} {l h : Nat} : slS1 te ex xs l (some h) = if l ≤ h ∧ h ≤ xs.length ∧ (l = 0 ∨ unif te.size xs = true) then some (.sl (ex && decide (h = xs.length)) ((xs.take h).drop l)) else none := nr rfl
def slS2 (te : Ti) (id sz off len cap : Nat) (ex : Bool) (l : Nat) : Option Nat → Option PV
  | some h => if l ≤ h ∧ h ≤ cap ∧ h ≤ len ∧ sz = te.size then some (.ref id sz (off + l * te.size) (h - l) (cap - l) ex) else none
  | none => none
@[go_sem] theorem slS_ref {te : Ti} {id sz off len cap : Nat} {ex : Bool} {l : Nat} {r : Nat → PV} {hi : Option Operand} : slS (some te) (.ref id sz off len cap ex) l r hi = slS2 te id sz off len cap ex l (bound r len hi) := by
  rfl
@[go_sem] theorem slS2_some {te : Ti} {id sz off len cap : Nat} {ex : Bool} {l h : Nat} : slS2 te id sz off len cap ex l (some h) = if l ≤ h ∧ h ≤ cap ∧ h ≤ len ∧ sz = te.size then some (.ref id sz (off + l * te.size) (h - l) (cap - l) ex) else none := nr rfl
@[go_sem] theorem slX_slice {e n b l : Nat} {z : List PV} {v : PV} {r : Nat → PV} {hi : Option Operand} {mx : Operand} : slX P (some ⟨.slice e, n, b, z⟩) (some v) (some l) r hi mx = slM (ti P e) v l r hi mx := nr rfl
def slM1 (te : Ti) (xs : List PV) (l : Nat) : Option Nat → Option Nat → Option PV
  | some h, some m => if l ≤ h ∧ h ≤ xs.length ∧ (l = 0 ∨ unif te.size xs = true) then (if m = h then some (.sl true ((xs.take h).drop l)) else none) else none
  | _, _ => none
@[go_sem] theorem slM_sl {te : Ti} {ex : Bool} {xs : List PV} {l : Nat} {r : Nat → PV} {hi mx : Operand} : slM (some te) (.sl ex xs) l r (some hi) mx = slM1 te xs l (bound r xs.length (some hi)) (bound r 0 (some mx)) := by
  simp only [slM, slM1]; cases bound r xs.length (some hi) <;> cases bound r 0 (some mx) <;> simp
@[go_sem] theorem slM1_some {te : Ti} {xs : List PV} {l h m : Nat} : slM1 te xs l (some h) (some m) = if l ≤ h ∧ h ≤ xs.length ∧ (l = 0 ∨ unif te.size xs = true) then (if m = h then some (.sl true ((xs.take h).drop l)) else none) else none := nr rfl
def slM2 (te : Ti) (id sz off cap len l : Nat) : Option Nat → Option Nat → Option PV
  | some h, some m => if l ≤ h ∧ h ≤ cap ∧ h ≤ len ∧ sz = te.size then (if h ≤ m ∧ m ≤ cap then some (.ref id sz (off + l * te.size) (h - l) (m - l) true) else none) else none
  | _, _ => none
@[go_sem] theorem slM_ref {te : Ti} {id sz off len cap : Nat} {ex : Bool} {l : Nat} {r : Nat → PV} {hi mx : Operand} : slM (some te) (.ref id sz off len cap ex) l r (some hi) mx = slM2 te id sz off cap len l (bound r len (some hi)) (bound r 0 (some mx)) := by
  simp only [slM, slM2]; cases bound r len (some hi) <;> cases bound r 0 (some mx) <;> simp
@[go_sem] theorem slM2_some {te : Ti} {id sz off cap len l h m : Nat} : slM2 te id sz off cap len l (some h) (some m) = if l ≤ h ∧ h ≤ cap ∧ h ≤ len ∧ sz = te.size then (if h ≤ m ∧ m ≤ cap then some (.ref id sz (off + l * te.size) (h - l) (m - l) true) else none) else none := nr rfl

@[go_sem] theorem eff_nil {r : Nat → PV} {M : Mem} {x : Operand} : effOp P C sh r M (.nilCheck x) = (ev r x).bind fun v => match v with
    | .ptr id off => some (.ptr id off, M)
    | .fn f cs => some (.fn f cs, M)
    | _ => none := by
  rw [eff_pure rfl]
  simp only [pureOp]
  cases ev r x with
  | none => rfl
  | some v => cases v <;> rfl
@[go_sem] theorem eff_func {r : Nat → PV} {M : Mem} {f : FuncId} {caps : Array Operand} : effOp P C sh r M (.makeFunc (.func f) #[] caps) = (evL r caps.toList).bind fun vs => some (.fn f vs, M) := by
  rw [eff_pure rfl]
  simp only [pureOp]
  cases evL r caps.toList <;> rfl
def exV : Option PV → Nat → Option PV
  | some (.tup vs), i => vs[i]?
  | _, _ => none
@[go_sem] theorem eff_extract {r : Nat → PV} {M : Mem} {x : Operand} {i : Nat} : effOp P C sh r M (.extract x i) = (exV (ev r x) i).bind (wM M) := by
  rw [eff_pure rfl]; congr 1
  simp only [pureOp, exV]
  cases ev r x with
  | none => rfl
  | some v => cases v <;> rfl
@[go_sem] theorem exV_tup {vs : List PV} {i : Nat} : exV (some (.tup vs)) i = vs[i]? := nr rfl
def buildV (t : Option Ti) (ps : Option (List (Nat × PV))) : Option PV := match t, ps with
    | some ⟨.struct fs, _, _, z⟩, some ps => (place fs z ps).map .agg
    | _, _ => none
@[go_sem] theorem eff_build {r : Nat → PV} {M : Mem} {t : TypeId} {ps : Array (Nat × Operand)} : effOp P C sh r M (.build t ps) = (buildV (ti P t) (evP r ps.toList)).bind (wM M) := by
  rw [eff_pure rfl]; congr 1
@[go_sem] theorem buildV_some {fs : List (Nat × Nat)} {n b : Nat} {z : List PV} {ps : List (Nat × PV)} : buildV (some ⟨.struct fs, n, b, z⟩) (some ps) = (place fs z ps).bind fun cs => some (.agg cs) := by
  simp only [buildV]; cases place fs z ps <;> rfl
@[go_sem] theorem place_nil {fs : List (Nat × Nat)} {cs : List PV} : place fs cs [] = some cs := nr rfl
def plO (fs : List (Nat × Nat)) (cs : List PV) (v : PV) (rest : List (Nat × PV)) : Option (Nat × Nat) → Option (List PV)
  | some (off, size) => if v.cells.length = size ∧ off + size ≤ cs.length ∧ v.cells.all PV.cell1 = true then place fs (setC cs off (v.cells.map PV.nrm)) rest else none
  | none => none
@[go_sem] theorem place_cons {fs : List (Nat × Nat)} {cs : List PV} {i : Nat} {v : PV} {rest : List (Nat × PV)} : place fs cs ((i, v) :: rest) = plO fs cs v rest fs[i]? := by
  simp only [place, plO]; cases fs[i]? <;> rfl
@[go_sem] theorem plO_some {fs : List (Nat × Nat)} {cs : List PV} {v : PV} {rest : List (Nat × PV)} {off size : Nat} : plO fs cs v rest (some (off, size)) = if v.cells.length = size ∧ off + size ≤ cs.length ∧ v.cells.all PV.cell1 = true then place fs (setC cs off (v.cells.map PV.nrm)) rest else none := nr rfl
@[go_sem] theorem setC_nil {cs : List PV} {off : Nat} : setC cs off [] = cs := nr rfl
@[go_sem] theorem setC_cons {cs : List PV} {off : Nat} {v : PV} {vs : List PV} : setC cs off (v :: vs) = setC (cs.set off v) (off + 1) vs := nr rfl
def bsV (P : Program) (n : Nat) (t : Option Ti) (ps : Option (List (Nat × PV))) : Option PV := match t, ps with
    | some ⟨.slice e, _, _, _⟩, some ps => match ti P e with
      | some te => if n * te.size ≤ 4096 ∧ 0 < n * te.size ∧ te.zero.length = te.size then match place (rowF te.size 0 n) (zeros te.zero n) ps with
        | some ds => if gd te.size 0 n ds = true then some (.sl true (elems te.size 0 n ds)) else none
        | none => none else none
      | none => none
    | _, _ => none
@[go_sem] theorem eff_bslice {r : Nat → PV} {M : Mem} {t : TypeId} {n : Nat} {ps : Array (Nat × Operand)} : effOp P C sh r M (.buildSlice t n ps) = (bsV P n (ti P t) (evP r ps.toList)).bind (wM M) := by
  rw [eff_pure rfl]; congr 1
def bsE (n : Nat) (ps : List (Nat × PV)) : Option Ti → Option PV
  | some te => if n * te.size ≤ 4096 ∧ 0 < n * te.size ∧ te.zero.length = te.size then (place (rowF te.size 0 n) (zeros te.zero n) ps).bind fun ds => if gd te.size 0 n ds = true then some (.sl true (elems te.size 0 n ds)) else none else none
  | none => none
@[go_sem] theorem bsV_some {n e a b : Nat} {z : List PV} {ps : List (Nat × PV)} : bsV P n (some ⟨.slice e, a, b, z⟩) (some ps) = bsE n ps (ti P e) := by
  simp only [bsV, bsE]
  cases ti P e with
  | none => rfl
  | some te =>
    dsimp only
    split
    · cases place (rowF te.size 0 n) (zeros te.zero n) ps <;> rfl
    · rfl
@[go_sem] theorem bsE_some {n : Nat} {te : Ti} {ps : List (Nat × PV)} : bsE n ps (some te) = if n * te.size ≤ 4096 ∧ 0 < n * te.size ∧ te.zero.length = te.size then (place (rowF te.size 0 n) (zeros te.zero n) ps).bind fun ds => if gd te.size 0 n ds = true then some (.sl true (elems te.size 0 n ds)) else none else none := nr rfl
@[go_sem] theorem rowF_zero {s o : Nat} : rowF s o 0 = [] := nr rfl
@[go_sem] theorem rowF_succ {s o n : Nat} : rowF s o (n + 1) = (o, s) :: rowF s (o + s) n := nr rfl
@[go_sem] theorem zeros_zero {z : List PV} : zeros z 0 = [] := nr rfl
@[go_sem] theorem zeros_succ {z : List PV} {n : Nat} : zeros z (n + 1) = z ++ zeros z n := nr rfl

/-! Calls of the language's own functions -/
def slT : Option Ti → Bool
  | some ⟨.slice _, _, _, _⟩ => true
  | _ => false
@[go_sem] theorem slT_slice {e n b : Nat} {z : List PV} : slT (some ⟨.slice e, n, b, z⟩) = true := nr rfl
@[go_sem] theorem isSl_cons {t : TypeId} {ts : List TypeId} : isSl P (t :: ts).toArray = slT (ti P t) := by
  simp only [isSl, List.getElem?_toArray, List.getElem?_cons_zero, slT]
  cases ti P t with
  | none => rfl
  | some x => obtain ⟨a, b, c, d⟩ := x; cases a <;> rfl
def lenV (s : Bool) : List PV → Option PV
    | [.sl _ xs] => if s then some (.int .i64 xs.length) else none
    | [.ref _ _ _ len _ _] => if s then some (.int .i64 len) else none
    | _ => none
@[go_sem] theorem eff_len {r : Nat → PV} {M : Mem} {xs : Array Operand} {ts : Array TypeId} : effOp P C sh r M (.call ⟨.builtin .len, xs, ts⟩) = ((evL r xs.toList).bind (lenV (isSl P ts))).bind (wM M) := by
  rw [eff_pure rfl]; congr 1
  simp only [pureOp]; congr 1; funext vs
  rcases vs with _ | ⟨v, _ | ⟨u, us⟩⟩
  · rfl
  · cases v <;> rfl
  · cases v <;> rfl
@[go_sem] theorem lenV_sl {ex : Bool} {xs : List PV} : lenV true [.sl ex xs] = some (.int .i64 xs.length) := nr rfl
@[go_sem] theorem lenV_ref {id sz off len cap : Nat} {ex : Bool} : lenV true [.ref id sz off len cap ex] = some (.int .i64 len) := nr rfl
@[go_sem] theorem eff_max {r : Nat → PV} {M : Mem} {xs : Array Operand} {ts : Array TypeId} : effOp P C sh r M (.call ⟨.builtin .max, xs, ts⟩) = ((evL r xs.toList).bind (minmax true)).bind (wM M) := by
  rw [eff_pure rfl]; congr 1
@[go_sem] theorem eff_min {r : Nat → PV} {M : Mem} {xs : Array Operand} {ts : Array TypeId} : effOp P C sh r M (.call ⟨.builtin .min, xs, ts⟩) = ((evL r xs.toList).bind (minmax false)).bind (wM M) := by
  rw [eff_pure rfl]; congr 1
@[go_sem] theorem max_two {k : IntKind} {x y : Int} : minmax true [.int k x, .int k y] = some (.int k (max x y)) := by
  simp only [minmax, List.foldlM, if_true]
  by_cases h : y > x
  · simp [h, show max x y = y by omega]
  · simp [h, show max x y = x by omega]
@[go_sem] theorem min_two {k : IntKind} {x y : Int} : minmax false [.int k x, .int k y] = some (.int k (min x y)) := by
  simp only [minmax, List.foldlM, if_true]
  by_cases h : y < x
  · simp [h, show min x y = y by omega]
  · simp [h, show min x y = x by omega]

/-! What writes -/
def alK (M : Mem) (e : TypeId) (t : Ti) : Option (PV × Mem) := some (.ptr M.nx 0, M.new (.live true e (t.zero.map PV.nrm)))
@[go_sem] theorem eff_alloc {r : Nat → PV} {M : Mem} {e : TypeId} : effOp P C sh r M (.alloc e) = (ti P e).bind (alK M e) := nr rfl
@[go_sem] theorem alK_ap {m : Nat → Blk} {n : Nat} {e : TypeId} {t : Ti} : alK ⟨m, n⟩ e t = some (.ptr n 0, ⟨upd m n (.live true e (t.zero.map PV.nrm)), n + 1⟩) := nr rfl
def bxK (M : Mem) (e : TypeId) (v : Option PV) (t : Option Ti) : Option (PV × Mem) := match v, t with
  | some v, some t => if v.cells.length = t.size ∧ v.cells.all PV.cell1 = true then some (.ptr M.nx 0, M.new (.live true e (v.cells.map PV.nrm))) else none
  | _, _ => none
@[go_sem] theorem eff_box {r : Nat → PV} {M : Mem} {e : TypeId} {x : Operand} : effOp P C sh r M (.box e x) = bxK M e (ev r x) (ti P e) := by
  simp only [effOp, bxK]
  cases ev r x <;> cases ti P e <;> rfl
@[go_sem] theorem bxK_ap {m : Nat → Blk} {n : Nat} {e : TypeId} {v : PV} {t : Ti} : bxK ⟨m, n⟩ e (some v) (some t) = if v.cells.length = t.size ∧ v.cells.all PV.cell1 = true then some (.ptr n 0, ⟨upd m n (.live true e (v.cells.map PV.nrm)), n + 1⟩) else none := nr rfl
def stK (M : Mem) (t : Option Ti) (x v : Option PV) : Option (PV × Mem) := match t, x, v with
    | some t, some x, some v => (store t M x v).map fun M => (.und, M)
    | _, _, _ => none
@[go_sem] theorem eff_store {r : Nat → PV} {M : Mem} {t : TypeId} {x v : Operand} : effOp P C sh r M (.store t x v) = stK M (ti P t) (ev r x) (ev r v) := nr rfl
def stB (M : Mem) (id off : Nat) (n : Nat) (v : PV) : Blk → Option (PV × Mem)
    | .live true ty cs => if v.cells.length = n ∧ off + n ≤ cs.length ∧ v.cells.all PV.cell1 = true then some (.und, M.put id (.live true ty (setC cs off (v.cells.map PV.nrm)))) else none
    | _ => none
@[go_sem] theorem stK_ap {M : Mem} {id off : Nat} {v : PV} {t : Ti} : stK M (some t) (some (.ptr id off)) (some v) = stB M id off t.size v (M.m id) := by
  simp only [stK, store, stB]
  cases M.m id with
  | dead => rfl
  | live w ty cs => cases w <;> dsimp only <;> first | rfl | (split <;> rfl)
@[go_sem] theorem stB_live {m : Nat → Blk} {nx id off n : Nat} {v : PV} {ty : TypeId} {cs : List PV} : stB ⟨m, nx⟩ id off n v (.live true ty cs) = if v.cells.length = n ∧ off + n ≤ cs.length ∧ v.cells.all PV.cell1 = true then some (.und, ⟨upd m id (.live true ty (setC cs off (v.cells.map PV.nrm))), nx⟩) else none := nr rfl
open Classical in
noncomputable def mkE (M : Mem) (e : TypeId) (l c : Int) : Option Ti → Option (PV × Mem)
      | some te => if 0 ≤ l ∧ l ≤ c ∧ c * te.bytes ≤ 281474976710656 ∧ te.zero.length = te.size ∧ 0 < te.size ∧ 0 < te.bytes then some (.ref M.nx te.size 0 l.toNat c.toNat true, M.new (.live true e (zeros (te.zero.map PV.nrm) c.toNat))) else none
      | none => none
noncomputable def mkV (P : Program) (M : Mem) (t : Option Ti) (l c : Option PV) : Option (PV × Mem) := match t, l, c with
    | some ⟨.slice e, _, _, _⟩, some (.int .i64 l), some (.int .i64 c) => mkE M e l c (ti P e)
    | _, _, _ => none
@[go_sem] theorem eff_make {r : Nat → PV} {M : Mem} {t : TypeId} {l c : Operand} : effOp P C sh r M (.makeSlice t l c) = mkV P M (ti P t) (ev r l) (ev r c) := by
  simp only [effOp, mkV]
  split
  · rename_i e n b z l' c' h1 h2 h3
    simp only [h1, h2, h3]
    cases ti P e with
    | none => rfl
    | some te => simp only [mkE]
  · rename_i a1
    split
    · rename_i h1 h2 h3; exact (a1 _ _ _ _ _ _ h1 h2 h3).elim
    · rfl
@[go_sem] theorem mkV_ap {M : Mem} {e n b : Nat} {z : List PV} {l c : Int} : mkV P M (some ⟨.slice e, n, b, z⟩) (some (.int .i64 l)) (some (.int .i64 c)) = mkE M e l c (ti P e) := nr rfl
@[go_sem] theorem mkE_one {m : Nat → Blk} {nx e b : Nat} {l c : Int} {k : Sh} {z : PV} (h1 : 0 ≤ l) (h2 : l ≤ c) (h3 : c * b ≤ 281474976710656) (h4 : 0 < b) : mkE ⟨m, nx⟩ e l c (some ⟨k, 1, b, [z]⟩) = some (.ref nx 1 0 l.toNat c.toNat true, ⟨upd m nx (.live true e (zeros [z.nrm] c.toNat)), nx + 1⟩) := by
  unfold mkE
  simp only [h1, h2, h3, h4, List.length_cons, List.length_nil, Nat.zero_add, true_and, and_true, Nat.lt_irrefl, List.map_cons, List.map_nil, Nat.zero_lt_one, if_true]
  rfl
def apK (P : Program) (M : Mem) (ts : Array TypeId) (vs : List PV) : Option (PV × Mem) := (app P M.nx ts M vs).map fun q => (q.1, ⟨q.2, M.nx + 1⟩)
@[go_sem] theorem eff_append {r : Nat → PV} {M : Mem} {xs : Array Operand} {ts : Array TypeId} : effOp P C sh r M (.call ⟨.builtin .append, xs, ts⟩) = (evL r xs.toList).bind (apK P M ts) := nr rfl
def clK (C : FuncId → List PV → Mem → Option (PV × Mem)) (sh : FuncId → Bool) (f : FuncId) (M : Mem) (vs : List PV) : Option (PV × Mem) := callOp C sh f vs M
@[go_sem] theorem eff_call {r : Nat → PV} {M : Mem} {f : FuncId} {xs : Array Operand} {ts : Array TypeId} : effOp P C sh r M (.call ⟨.value (.func f), xs, ts⟩) = (evL r xs.toList).bind (clK C sh f M) := by
  simp only [effOp, ev, List.append_nil]; rfl
noncomputable def clS (P : Program) (X : FuncId → Option (List PV → Option PV)) (S : FuncId → FuncId → Bool) (cf : FuncId → Nat → List (Nat × Nat)) (f : FuncId) (vs : List PV) (M : Mem) : Bool → Option (PV × Mem)
  | true => (CL P X S cf f vs M).bind fun q => if M.nx ≤ q.2.nx then some q else none
  | false => (frzL M vs).bind fun us => (RL P X S cf f us).bind fun x => some (x, if x.scalar then M else hold M (flat vs))
@[go_sem] theorem clK_ap {g : FuncId → Bool} {f : FuncId} {M : Mem} {vs : List PV} : clK (CL P X S cf) g f M vs = clS P X S cf f vs M (g f) := by
  simp only [clK]
  cases h : g f with
  | true => simp only [callOp, h, clS, if_true]
  | false => rw [callOp_RL h]; rfl
def clH (vs : List PV) (M : Mem) (x : PV) : Bool → Option (PV × Mem)
  | true => some (x, M)
  | false => some (x, hold M (flat vs))
noncomputable def clF (P : Program) (X : FuncId → Option (List PV → Option PV)) (S : FuncId → FuncId → Bool) (cf : FuncId → Nat → List (Nat × Nat)) (f : FuncId) (vs : List PV) (M : Mem) (us : List PV) : Option (PV × Mem) := (RL P X S cf f us).bind fun x => clH vs M x x.scalar
@[go_sem] theorem clS_false {f : FuncId} {M : Mem} {vs : List PV} : clS P X S cf f vs M false = (frzL M vs).bind (clF P X S cf f vs M) := by
  simp only [clS, clF]
  congr 1
  funext us
  unfold clF
  cases RL P X S cf f us with
  | none => rfl
  | some x => simp only [Option.bind_some]; cases x.scalar <;> rfl
def clG (vs : List PV) (M : Mem) (x : PV) : Option (PV × Mem) := clH vs M x x.scalar
@[go_sem] theorem clF_ap {f : FuncId} {M : Mem} {vs us : List PV} : clF P X S cf f vs M us = (RL P X S cf f us).bind (clG vs M) := nr rfl
@[go_sem] theorem clG_ap {M : Mem} {vs : List PV} {x : PV} : clG vs M x = clH vs M x x.scalar := nr rfl
@[go_sem] theorem clH_true {M : Mem} {vs : List PV} {x : PV} : clH vs M x true = some (x, M) := nr rfl
@[go_sem] theorem clH_false {M : Mem} {vs : List PV} {x : PV} : clH vs M x false = some (x, hold M (flat vs)) := nr rfl
def clT (M : Mem) (q : PV × Mem) : Option (PV × Mem) := if M.nx ≤ q.2.nx then some q else none
@[go_sem] theorem clS_true {f : FuncId} {M : Mem} {vs : List PV} : clS P X S cf f vs M true = (CL P X S cf f vs M).bind (clT M) := nr rfl
@[go_sem] theorem clT_ap {M : Mem} {v : PV} {m : Nat → Blk} {nx : Nat} : clT M (v, ⟨m, nx⟩) = if M.nx ≤ nx then some (v, ⟨m, nx⟩) else none := nr rfl
@[go_sem] theorem hold_nil {M : Mem} : hold M [] = M := nr rfl
@[go_sem] theorem flat_nil : flat [] = [] := nr rfl
@[go_sem] theorem flat_cons {x : PV} {xs : List PV} : flat (x :: xs) = x.cells ++ flat xs := nr rfl
@[go_sem] theorem hold_bool {M : Mem} {b : Bool} {xs : List PV} : hold M (.bool b :: xs) = hold M xs := nr rfl
@[go_sem] theorem hold_int {M : Mem} {k : IntKind} {n : Int} {xs : List PV} : hold M (.int k n :: xs) = hold M xs := nr rfl
@[go_sem] theorem hold_sl {M : Mem} {ex : Bool} {ys xs : List PV} : hold M (.sl ex ys :: xs) = hold M xs := nr rfl
@[go_sem] theorem hold_fn {M : Mem} {f : FuncId} {ys xs : List PV} : hold M (.fn f ys :: xs) = hold M xs := nr rfl
def hdM (M : Mem) (id : Nat) : Blk → Mem
  | .live _ t c => M.put id (.live false t c)
  | .dead => M
@[go_sem] theorem hold_ref {M : Mem} {id sz off len cap : Nat} {ex : Bool} {xs : List PV} : hold M (.ref id sz off len cap ex :: xs) = hold (hdM M id (M.m id)) xs := by
  simp only [hold, hdM]; cases M.m id <;> rfl
@[go_sem] theorem hdM_live {m : Nat → Blk} {nx id : Nat} {w : Bool} {t : TypeId} {c : List PV} : hdM ⟨m, nx⟩ id (.live w t c) = ⟨upd m id (.live false t c), nx⟩ := nr rfl

/-! What a value holds -/
@[go_sem] theorem frzL_nil {M : Mem} : frzL M [] = some [] := nr rfl
@[go_sem] theorem frzL_cons {M : Mem} {x : PV} {xs : List PV} : frzL M (x :: xs) = (frz1 M x).bind fun y => (frzL M xs).bind fun ys => some (y :: ys) := by
  simp only [frzL]; cases frz1 M x <;> cases frzL M xs <;> rfl
@[go_sem] theorem frzL0_nil {M : Mem} : frzL0 M [] = some [] := nr rfl
@[go_sem] theorem frzL0_cons {M : Mem} {x : PV} {xs : List PV} : frzL0 M (x :: xs) = (frz0 M x).bind fun y => (frzL0 M xs).bind fun ys => some (y :: ys) := by
  simp only [frzL0]; cases frz0 M x <;> cases frzL0 M xs <;> rfl
@[go_sem] theorem frz1_agg {M : Mem} {cs : List PV} : frz1 M (.agg cs) = (frzL0 M cs).bind fun ds => some (.agg ds) := by
  simp only [frz1]; cases frzL0 M cs <;> rfl
@[go_sem] theorem frz1_bool {M : Mem} {b : Bool} : frz1 M (.bool b) = some (.bool b) := nr rfl
@[go_sem] theorem frz1_int {M : Mem} {k : IntKind} {n : Int} : frz1 M (.int k n) = some (.int k n) := nr rfl
@[go_sem] theorem frz1_sl {M : Mem} {ex : Bool} {xs : List PV} : frz1 M (.sl ex xs) = some (.sl false xs) := nr rfl
@[go_sem] theorem frz1_ref {M : Mem} {id sz off len cap : Nat} {ex : Bool} : frz1 M (.ref id sz off len cap ex) = frz0 M (.ref id sz off len cap ex) := nr rfl
@[go_sem] theorem frz1_fn {M : Mem} {f : FuncId} {cs : List PV} : frz1 M (.fn f cs) = if cloL cs then some (.fn f cs) else none := nr rfl
@[go_sem] theorem frz0_bool {M : Mem} {b : Bool} : frz0 M (.bool b) = some (.bool b) := nr rfl
@[go_sem] theorem frz0_int {M : Mem} {k : IntKind} {n : Int} : frz0 M (.int k n) = some (.int k n) := nr rfl
@[go_sem] theorem frz0_sl {M : Mem} {ex : Bool} {xs : List PV} : frz0 M (.sl ex xs) = some (.sl false xs) := nr rfl
@[go_sem] theorem frz0_fn {M : Mem} {f : FuncId} {cs : List PV} : frz0 M (.fn f cs) = if cloL cs then some (.fn f cs) else none := nr rfl
def fzB (sz off len : Nat) : Blk → Option PV
    | .live _ _ cs => if gd sz off len cs = true then some (.sl false (elems sz off len cs)) else none
    | .dead => none
@[go_sem] theorem frz0_ref {M : Mem} {id sz off len cap : Nat} {ex : Bool} : frz0 M (.ref id sz off len cap ex) = fzB sz off len (M.m id) := by
  simp only [frz0, fzB]; cases M.m id <;> rfl
@[go_sem] theorem fzB_live {sz off len : Nat} {w : Bool} {t : TypeId} {cs : List PV} : fzB sz off len (.live w t cs) = if gd sz off len cs = true then some (.sl false (elems sz off len cs)) else none := nr rfl
@[go_sem] theorem frz_tup {M : Mem} {vs : List PV} : frz M (.tup vs) = (frzL M vs).bind fun us => some (.tup us) := by
  simp only [frz]; cases frzL M vs <;> rfl
@[go_sem] theorem frz_agg {M : Mem} {cs : List PV} : frz M (.agg cs) = (frzL0 M cs).bind fun ds => some (.agg ds) := by
  simp only [frz, frz1]; cases frzL0 M cs <;> rfl
@[go_sem] theorem frz_bool {M : Mem} {b : Bool} : frz M (.bool b) = some (.bool b) := nr rfl
@[go_sem] theorem frz_int {M : Mem} {k : IntKind} {n : Int} : frz M (.int k n) = some (.int k n) := nr rfl
@[go_sem] theorem frz_sl {M : Mem} {ex : Bool} {xs : List PV} : frz M (.sl ex xs) = some (.sl false xs) := nr rfl
@[go_sem] theorem frz_ref {M : Mem} {id sz off len cap : Nat} {ex : Bool} : frz M (.ref id sz off len cap ex) = frz0 M (.ref id sz off len cap ex) := nr rfl
@[go_sem] theorem cells_agg {cs : List PV} : (PV.agg cs).cells = cs := nr rfl
@[go_sem] theorem cells_bool {b : Bool} : (PV.bool b).cells = [.bool b] := nr rfl
@[go_sem] theorem cells_int {k : IntKind} {n : Int} : (PV.int k n).cells = [.int k n] := nr rfl
@[go_sem] theorem cells_sl {ex : Bool} {xs : List PV} : (PV.sl ex xs).cells = [.sl ex xs] := nr rfl
@[go_sem] theorem cells_ref {id sz off len cap : Nat} {ex : Bool} : (PV.ref id sz off len cap ex).cells = [.ref id sz off len cap ex] := nr rfl
@[go_sem] theorem cells_ptr {id off : Nat} : (PV.ptr id off).cells = [.ptr id off] := nr rfl
@[go_sem] theorem cells_at {cs : List PV} : (PV.at_ cs).cells = [.at_ cs] := nr rfl
@[go_sem] theorem cells_fn {f : FuncId} {cs : List PV} : (PV.fn f cs).cells = [.fn f cs] := nr rfl
@[go_sem] theorem nrm_agg {cs : List PV} : (PV.agg cs).nrm = .agg cs := nr rfl
@[go_sem] theorem nrm_bool {b : Bool} : (PV.bool b).nrm = .bool b := nr rfl
@[go_sem] theorem nrm_int {k : IntKind} {n : Int} : (PV.int k n).nrm = .int k n := nr rfl
@[go_sem] theorem nrm_sl {ex : Bool} {xs : List PV} : (PV.sl ex xs).nrm = .sl false xs := nr rfl
@[go_sem] theorem nrm_ref {id sz off len cap : Nat} {ex : Bool} : (PV.ref id sz off len cap ex).nrm = .ref id sz off len cap ex := nr rfl
@[go_sem] theorem nrm_ptr {id off : Nat} : (PV.ptr id off).nrm = .ptr id off := nr rfl
@[go_sem] theorem nrm_fn {f : FuncId} {cs : List PV} : (PV.fn f cs).nrm = .fn f cs := nr rfl
@[go_sem] theorem cell1_bool {b : Bool} : (PV.bool b).cell1 = true := nr rfl
@[go_sem] theorem cell1_int {k : IntKind} {n : Int} : (PV.int k n).cell1 = true := nr rfl
@[go_sem] theorem cell1_sl {ex : Bool} {xs : List PV} : (PV.sl ex xs).cell1 = true := nr rfl
@[go_sem] theorem cell1_ref {id sz off len cap : Nat} {ex : Bool} : (PV.ref id sz off len cap ex).cell1 = true := nr rfl
@[go_sem] theorem cell1_ptr {id off : Nat} : (PV.ptr id off).cell1 = true := nr rfl
@[go_sem] theorem cell1_at {cs : List PV} : (PV.at_ cs).cell1 = true := nr rfl
@[go_sem] theorem cell1_fn {f : FuncId} {cs : List PV} : (PV.fn f cs).cell1 = true := nr rfl
@[go_sem] theorem scalar_bool {b : Bool} : (PV.bool b).scalar = true := nr rfl
@[go_sem] theorem scalar_int {k : IntKind} {n : Int} : (PV.int k n).scalar = true := nr rfl
@[go_sem] theorem scalar_agg {cs : List PV} : (PV.agg cs).scalar = false := nr rfl
@[go_sem] theorem scalar_sl {ex : Bool} {xs : List PV} : (PV.sl ex xs).scalar = false := nr rfl
@[go_sem] theorem scalar_tup {vs : List PV} : (PV.tup vs).scalar = vs.all PV.scalar1 := nr rfl
@[go_sem] theorem scalar1_bool {b : Bool} : (PV.bool b).scalar1 = true := nr rfl
@[go_sem] theorem scalar1_int {k : IntKind} {n : Int} : (PV.int k n).scalar1 = true := nr rfl
@[go_sem] theorem scalar1_agg {cs : List PV} : (PV.agg cs).scalar1 = false := nr rfl
@[go_sem] theorem scalar1_sl {ex : Bool} {xs : List PV} : (PV.sl ex xs).scalar1 = false := nr rfl

/-! Lists -/
attribute [go_sem] Option.bind_some Option.bind_none List.map_cons List.map_nil List.length_cons List.length_nil List.all_cons List.all_nil List.getElem?_cons_zero List.getElem?_cons_succ
attribute [go_sem] List.drop_zero List.drop_succ_cons List.take_zero List.take_succ_cons List.cons_append List.nil_append List.append_nil List.set_cons_zero List.set_cons_succ List.size_toArray
attribute [go_sem] Bool.and_true Bool.true_and Bool.and_false Bool.false_and Bool.not_true Bool.not_false decide_true decide_false and_true true_and and_self
end
end Go.Pi

set_option linter.unusedVariables false
set_option linter.unusedSimpArgs false
/-
Rules for stepping through regions whose order is open, and for rounds.
-/
namespace Go.Pi
section
variable {P : Program} {C : FuncId → List PV → Mem → Option (PV × Mem)} {sh : FuncId → Bool} {X : FuncId → Option (List PV → Option PV)} {S : FuncId → FuncId → Bool} {cf : FuncId → Nat → List (Nat × Nat)}

def kC (c : List (Nat × Nat)) (ops : Array Oper) (nx : Nat) (s : St) : Option St := if c.all (dis ops nx s.r) then some s else none
@[go_sem] theorem kC_nil {ops : Array Oper} {nx : Nat} {s : St} : kC [] ops nx s = some s := nr rfl
def kC1 (s : St) : Bool → Option St
  | true => some s
  | false => none
@[go_sem] theorem kC1_true {s : St} : kC1 s true = some s := nr rfl
def ftP : Option PV → List Nat
  | some (.ptr id _) => [id]
  | _ => []
@[go_sem] theorem ftP_ptr {id off : Nat} : ftP (some (.ptr id off)) = [id] := nr rfl
@[go_sem] theorem foot_load {k : Nat} {r : Nat → PV} {t : TypeId} {x : Operand} : foot k r (.load t x) = ftP (ev r x) := by
  simp only [foot]; cases ev r x with
  | none => rfl
  | some v => cases v <;> rfl
@[go_sem] theorem foot_store {k : Nat} {r : Nat → PV} {t : TypeId} {x v : Operand} : foot k r (.store t x v) = ftP (ev r x) := by
  simp only [foot]; cases ev r x with
  | none => rfl
  | some v => cases v <;> rfl
noncomputable def apt (a b : List Nat) (n : Nat) : Bool := (a.all fun x => dec (x < n) && b.all fun y => dec (x ≠ y)) && b.all fun y => dec (y < n)
theorem apt_nil (n : Nat) : apt [] [] n = true := by simp [apt]
@[go_sem] theorem apt_one {x y n : Nat} (h1 : x < n) (h2 : y < n) (h3 : x ≠ y) : apt [x] [y] n = true := by
  simp only [apt, List.all_cons, List.all_nil, dec_t h1, dec_t h2, dec_t h3]; rfl
def op? (o : Oper) : Op := o.op
@[go_sem] theorem op?_mk {d : Option Tmp} {op : Op} {t : TypeId} {p : String} {a : Array Edge} {g : Option (Nat × Bool)} : op? { dst := d, op := op, type := t, pos := p, after := a, guard := g } = op := nr rfl
noncomputable def dsO (nx n : Nat) (r : Nat → PV) (i j : Nat) (x y : Option Oper) : Bool := match x, y with
  | some x, some y => apt (foot (nx + i) r (op? x)) (foot (nx + j) r (op? y)) (nx + n)
  | _, _ => false
@[go_sem] theorem dsO_some {nx n : Nat} {r : Nat → PV} {i j : Nat} {x y : Oper} : dsO nx n r i j (some x) (some y) = apt (foot (nx + i) r (op? x)) (foot (nx + j) r (op? y)) (nx + n) := nr rfl
@[go_sem] theorem kC_cons {i j : Nat} {ps : List (Nat × Nat)} {l : List Oper} {nx : Nat} {r : Nat → PV} {M : Mem} : kC ((i, j) :: ps) l.toArray nx ⟨r, M⟩ = (kC1 ⟨r, M⟩ (dsO nx l.length r i j l[i]? l[j]?)).bind (kC ps l.toArray nx) := by
  have e : dis l.toArray nx r (i, j) = dsO nx l.length r i j l[i]? l[j]? := by
    simp only [dis, List.getElem?_toArray, dsO, List.size_toArray]
    cases l[i]? with
    | none => rfl
    | some x =>
      cases l[j]? with
      | none => rfl
      | some y =>
        simp only [apt, op?, ← dec_eq]
        congr 1
        congr 1
        funext a
        congr 2
        funext b
        by_cases h : a = b <;> simp [h]
  simp only [kC, List.all_cons, e]
  cases dsO nx l.length r i j l[i]? l[j]? <;> rfl
def kP (P : Program) (C : FuncId → List PV → Mem → Option (PV × Mem)) (sh : FuncId → Bool) (c : List (Nat × Nat)) (l : List Oper) (r : Nat → PV) (nx : Nat) (m : Nat → Blk) : Option St :=
  (seqD P C sh l.toArray nx 0 l ⟨r, ⟨m, nx + l.length⟩⟩).bind (kC c l.toArray nx)
@[go_sem] theorem kP_ap {c : List (Nat × Nat)} {l : List Oper} {r : Nat → PV} {nx : Nat} {m : Nat → Blk} : kP P C sh c l r nx m = (seqD P C sh l.toArray nx 0 l ⟨r, ⟨m, nx + l.length⟩⟩).bind (kC c l.toArray nx) := nr rfl
@[go_sem] theorem drwR_ap {c : List (Nat × Nat)} {l : List Oper} {r : Nat → PV} {nx : Nat} {m : Nat → Blk} : drwR P C sh c l.toArray ⟨r, ⟨m, nx⟩⟩ = (preA P nx 0 l m).bind (kP P C sh c l r nx) := by
  simp only [drwR, List.size_toArray]; rfl
def preO (P : Program) (base i : Nat) (rest : List Oper) (m : Nat → Blk) : Op → Option (Nat → Blk)
  | .alloc e => (ti P e).bind fun t => preA P base (i + 1) rest (upd m (base + i) (.live true e (t.zero.map PV.nrm)))
  | _ => preA P base (i + 1) rest m
def preK (P : Program) (base i e : Nat) (rest : List Oper) (m : Nat → Blk) (t : Ti) : Option (Nat → Blk) := preA P base (i + 1) rest (upd m (base + i) (.live true e (t.zero.map PV.nrm)))
@[go_sem] theorem preK_ap {base i e : Nat} {rest : List Oper} {m : Nat → Blk} {t : Ti} : preK P base i e rest m t = preA P base (i + 1) rest (upd m (base + i) (.live true e (t.zero.map PV.nrm))) := nr rfl
@[go_sem] theorem preA_nil {base i : Nat} {m : Nat → Blk} : preA P base i [] m = some m := nr rfl
@[go_sem] theorem preA_cons {base i : Nat} {m : Nat → Blk} {d : Option Tmp} {op : Op} {t : TypeId} {p : String} {a : Array Edge} {g : Option (Nat × Bool)} {rest : List Oper} :
    preA P base i ({ dst := d, op := op, type := t, pos := p, after := a, guard := g } :: rest) m = preO P base i rest m op := by
  simp only [preA, preO]; cases op <;> rfl
section
variable {base i : Nat} {rest : List Oper} {m : Nat → Blk}
@[go_sem] theorem preO_alloc {e : TypeId} : preO P base i rest m (.alloc e) = (ti P e).bind (preK P base i e rest m) := nr rfl
@[go_sem] theorem preO_move {x} : preO P base i rest m (.move x) = preA P base (i + 1) rest m := nr rfl
@[go_sem] theorem preO_assign {x} : preO P base i rest m (.assign x) = preA P base (i + 1) rest m := nr rfl
@[go_sem] theorem preO_pick {x y z} : preO P base i rest m (.pick x y z) = preA P base (i + 1) rest m := nr rfl
@[go_sem] theorem preO_bin {a b c d e} : preO P base i rest m (.binOp a b c d e) = preA P base (i + 1) rest m := nr rfl
@[go_sem] theorem preO_un {a b c} : preO P base i rest m (.unOp a b c) = preA P base (i + 1) rest m := nr rfl
@[go_sem] theorem preO_conv {a b c} : preO P base i rest m (.convert a b c) = preA P base (i + 1) rest m := nr rfl
@[go_sem] theorem preO_load {a b} : preO P base i rest m (.load a b) = preA P base (i + 1) rest m := nr rfl
@[go_sem] theorem preO_store {a b c} : preO P base i rest m (.store a b c) = preA P base (i + 1) rest m := nr rfl
@[go_sem] theorem preO_field {a b c} : preO P base i rest m (.fieldAddr a b c) = preA P base (i + 1) rest m := nr rfl
@[go_sem] theorem preO_index {a b c} : preO P base i rest m (.indexAddr a b c) = preA P base (i + 1) rest m := nr rfl
@[go_sem] theorem preO_slice {a b c d e} : preO P base i rest m (.slice a b c d e) = preA P base (i + 1) rest m := nr rfl
@[go_sem] theorem preO_nil {a} : preO P base i rest m (.nilCheck a) = preA P base (i + 1) rest m := nr rfl
@[go_sem] theorem preO_func {a b c} : preO P base i rest m (.makeFunc a b c) = preA P base (i + 1) rest m := nr rfl
@[go_sem] theorem preO_extract {a b} : preO P base i rest m (.extract a b) = preA P base (i + 1) rest m := nr rfl
@[go_sem] theorem preO_build {a b} : preO P base i rest m (.build a b) = preA P base (i + 1) rest m := nr rfl
@[go_sem] theorem preO_bslice {a b c} : preO P base i rest m (.buildSlice a b c) = preA P base (i + 1) rest m := nr rfl
@[go_sem] theorem preO_call {a} : preO P base i rest m (.call a) = preA P base (i + 1) rest m := nr rfl
end
def kD (P : Program) (C : FuncId → List PV → Mem → Option (PV × Mem)) (sh : FuncId → Bool) (ops : Array Oper) (base i : Nat) (rest : List Oper) (d : Option Tmp) (r : Nat → PV) (q : PV × Mem) : Option St := seqD P C sh ops base (i + 1) rest ⟨putR r d q.1, q.2⟩
@[go_sem] theorem kD_ap {ops : Array Oper} {base i : Nat} {rest : List Oper} {d : Tmp} {r : Nat → PV} {v : PV} {M : Mem} : kD P C sh ops base i rest (some d) r (v, M) = seqD P C sh ops base (i + 1) rest ⟨upd r d v, M⟩ := nr rfl
@[go_sem] theorem kD_ap0 {ops : Array Oper} {base i : Nat} {rest : List Oper} {r : Nat → PV} {v : PV} {M : Mem} : kD P C sh ops base i rest none r (v, M) = seqD P C sh ops base (i + 1) rest ⟨r, M⟩ := nr rfl
@[go_sem] theorem seqD_nil {ops : Array Oper} {base i : Nat} {s : St} : seqD P C sh ops base i [] s = some s := nr rfl
@[go_sem] theorem seqD_cons {ops : Array Oper} {base i : Nat} {d : Option Tmp} {op : Op} {t : TypeId} {p : String} {a : Array Edge} {rest : List Oper} {r : Nat → PV} {M : Mem} :
    seqD P C sh ops base i ({ dst := d, op := op, type := t, pos := p, after := a, guard := none } :: rest) ⟨r, M⟩ = (drwOp P C sh (base + i) r M op).bind (kD P C sh ops base i rest d r) := by
  simp only [seqD, stepD, want]
  cases drwOp P C sh (base + i) r M op <;> rfl
def gD (P : Program) (C : FuncId → List PV → Mem → Option (PV × Mem)) (sh : FuncId → Bool) (ops : Array Oper) (base i : Nat) (rest : List Oper) (d : Option Tmp) (r : Nat → PV) (M : Mem) (op : Op) : Option Bool → Option St
  | some true => (drwOp P C sh (base + i) r M op).bind (kD P C sh ops base i rest d r)
  | some false => seqD P C sh ops base (i + 1) rest ⟨putR r d .und, M⟩
  | none => none
@[go_sem] theorem gD_true {ops : Array Oper} {base i : Nat} {rest : List Oper} {d : Option Tmp} {r : Nat → PV} {M : Mem} {op : Op} : gD P C sh ops base i rest d r M op (some true) = (drwOp P C sh (base + i) r M op).bind (kD P C sh ops base i rest d r) := nr rfl
@[go_sem] theorem gD_false {ops : Array Oper} {base i : Nat} {rest : List Oper} {d : Tmp} {r : Nat → PV} {M : Mem} {op : Op} : gD P C sh ops base i rest (some d) r M op (some false) = seqD P C sh ops base (i + 1) rest ⟨upd r d .und, M⟩ := nr rfl
@[go_sem] theorem gD_false0 {ops : Array Oper} {base i : Nat} {rest : List Oper} {r : Nat → PV} {M : Mem} {op : Op} : gD P C sh ops base i rest none r M op (some false) = seqD P C sh ops base (i + 1) rest ⟨r, M⟩ := nr rfl
@[go_sem] theorem seqD_guard {l : List Oper} {base i : Nat} {d : Option Tmp} {op : Op} {t : TypeId} {p : String} {a : Array Edge} {j : Nat} {b : Bool} {rest : List Oper} {r : Nat → PV} {M : Mem} :
    seqD P C sh l.toArray base i ({ dst := d, op := op, type := t, pos := p, after := a, guard := some (j, b) } :: rest) ⟨r, M⟩ = gD P C sh l.toArray base i rest d r M op (wantG b r (l[j]?.bind dst?)) := by
  simp only [seqD, stepD, want_guard]
  cases h : wantG b r (l[j]?.bind dst?) with
  | none => rfl
  | some c =>
    cases c
    · rfl
    · simp only [gD]; cases drwOp P C sh (base + i) r M op <;> rfl
section
variable {k : Nat} {r : Nat → PV} {M : Mem}
@[go_sem] theorem drw_alloc {e} : drwOp P C sh k r M (.alloc e) = some (.ptr k 0, M) := nr rfl
@[go_sem] theorem drw_move {x} : drwOp P C sh k r M (.move x) = effOp P C sh r M (.move x) := nr rfl
@[go_sem] theorem drw_assign {x} : drwOp P C sh k r M (.assign x) = effOp P C sh r M (.assign x) := nr rfl
@[go_sem] theorem drw_pick {x y z} : drwOp P C sh k r M (.pick x y z) = effOp P C sh r M (.pick x y z) := nr rfl
@[go_sem] theorem drw_bin {a b c d e} : drwOp P C sh k r M (.binOp a b c d e) = effOp P C sh r M (.binOp a b c d e) := nr rfl
@[go_sem] theorem drw_un {a b c} : drwOp P C sh k r M (.unOp a b c) = effOp P C sh r M (.unOp a b c) := nr rfl
@[go_sem] theorem drw_conv {a b c} : drwOp P C sh k r M (.convert a b c) = effOp P C sh r M (.convert a b c) := nr rfl
@[go_sem] theorem drw_load {a b} : drwOp P C sh k r M (.load a b) = effOp P C sh r M (.load a b) := nr rfl
@[go_sem] theorem drw_store {a b c} : drwOp P C sh k r M (.store a b c) = effOp P C sh r M (.store a b c) := nr rfl
@[go_sem] theorem drw_field {a b c} : drwOp P C sh k r M (.fieldAddr a b c) = effOp P C sh r M (.fieldAddr a b c) := nr rfl
@[go_sem] theorem drw_index {a b c} : drwOp P C sh k r M (.indexAddr a b c) = effOp P C sh r M (.indexAddr a b c) := nr rfl
@[go_sem] theorem drw_slice {a b c d e} : drwOp P C sh k r M (.slice a b c d e) = effOp P C sh r M (.slice a b c d e) := nr rfl
@[go_sem] theorem drw_nil {a} : drwOp P C sh k r M (.nilCheck a) = effOp P C sh r M (.nilCheck a) := nr rfl
@[go_sem] theorem drw_func {a b c} : drwOp P C sh k r M (.makeFunc a b c) = effOp P C sh r M (.makeFunc a b c) := nr rfl
@[go_sem] theorem drw_extract {a b} : drwOp P C sh k r M (.extract a b) = effOp P C sh r M (.extract a b) := nr rfl
@[go_sem] theorem drw_build {a b} : drwOp P C sh k r M (.build a b) = effOp P C sh r M (.build a b) := nr rfl
@[go_sem] theorem drw_bslice {a b c} : drwOp P C sh k r M (.buildSlice a b c) = effOp P C sh r M (.buildSlice a b c) := nr rfl
@[go_sem] theorem drw_len {a b} : drwOp P C sh k r M (.call ⟨.builtin .len, a, b⟩) = effOp P C sh r M (.call ⟨.builtin .len, a, b⟩) := nr rfl
@[go_sem] theorem drw_max {a b} : drwOp P C sh k r M (.call ⟨.builtin .max, a, b⟩) = effOp P C sh r M (.call ⟨.builtin .max, a, b⟩) := nr rfl
@[go_sem] theorem drw_min {a b} : drwOp P C sh k r M (.call ⟨.builtin .min, a, b⟩) = effOp P C sh r M (.call ⟨.builtin .min, a, b⟩) := nr rfl
@[go_sem] theorem drw_call {f a b} : drwOp P C sh k r M (.call ⟨.value (.func f), a, b⟩) = (evL r a.toList).bind (clK C sh f M) := nr rfl
def apP (P : Program) (M : Mem) (ts : Array TypeId) (vs : List PV) : Option (PV × Mem) := (appP P ts M vs).map fun v => (v, M)
def apN (P : Program) (k : Nat) (M : Mem) (ts : Array TypeId) (vs : List PV) : Option (PV × Mem) := match vs with
    | [.sl true _, .sl false _] => (appP P ts M vs).map fun v => (v, M)
    | _ => (app P k ts M vs).map fun q => (q.1, ⟨q.2, M.nx⟩)
def apD (P : Program) (k : Nat) (M : Mem) (ts : Array TypeId) (vs : Option (List PV)) : Bool → Option (PV × Mem)
  | true => vs.bind (apP P M ts)
  | false => vs.bind (apN P k M ts)
@[go_sem] theorem apD_true {ts : Array TypeId} {vs : Option (List PV)} : apD P k M ts vs true = vs.bind (apP P M ts) := nr rfl
@[go_sem] theorem apD_false {ts : Array TypeId} {vs : Option (List PV)} : apD P k M ts vs false = vs.bind (apN P k M ts) := nr rfl
@[go_sem] theorem drw_append {a b} : drwOp P C sh k r M (.call ⟨.builtin .append, a, b⟩) = apD P k M b (evL r a.toList) (nilFirst a.toList) := by
  simp only [drwOp]
  cases nilFirst a.toList <;> rfl
@[go_sem] theorem nilFirst_const {v : Value} {xs : List Operand} : nilFirst (.const v :: xs) = true := nr rfl
@[go_sem] theorem nilFirst_tmp {t : Tmp} {xs : List Operand} : nilFirst (.tmp t :: xs) = false := nr rfl
end
attribute [go_sem] Int.reducePow Nat.reducePow Int.toNat_zero Int.reduceToNat Int.toNat_one Int.reduceLT Int.reduceLE Int.reduceEq Int.reduceNe Int.reduceAdd Int.reduceSub Int.reduceMul Int.reduceNeg Int.lt_irrefl Int.le_refl Nat.reduceSub Nat.reduceMul Nat.reduceLT Nat.le_refl Int.toNat_natCast Bool.or_true Bool.true_or Bool.or_false Bool.false_or beq_true beq_false Bool.true_beq Bool.false_beq or_true true_or or_false false_or and_false false_and eq_self ne_eq not_true_eq_false not_false_eq_true Bool.false_eq_true Nat.mul_one Nat.mul_zero
attribute [go_sem] Nat.reduceBEq beq_self_eq_true Nat.reduceEqDiff Nat.reduceAdd reduceIte Nat.zero_add Nat.add_zero Nat.one_ne_zero Nat.reduceLeDiff List.toList_toArray
end
end Go.Pi
