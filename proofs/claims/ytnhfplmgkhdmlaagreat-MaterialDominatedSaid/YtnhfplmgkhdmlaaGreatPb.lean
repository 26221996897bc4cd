/- What is proved: operations answer as values what they answer in the model. No conditions beyond those in the statements. -/
import Derived.Test.YtnhfplmgkhdmlaaGreatPa
import Derived.Laws.StructEq
import Derived.Laws.AppendOwn
set_option linter.unusedVariables false
set_option linter.unusedSimpArgs false
namespace Go.Pi
open Go.RowKit
section
variable {P : Program} {base : Nat} {w0 : World} {fb fx : Fx} {bs : Bs} {M : Mem} {w : World} {r : Nat → PV} {a : Act}

theorem eqFields_ok {cs ds : List PV} {xs ys : Array Value} (hl : cs.length = xs.size) (hu : ∀ (i : Nat) c v, cs[i]? = some c → xs[i]? = some v → Rep w fx bs c v) (hv : ∀ (i : Nat) c v, ds[i]? = some c → ys[i]? = some v → Rep w fx bs c v) (hl2 : ds.length = ys.size) (d : Nat) :
    ∀ (fs : List Field) (o : Nat) (b : Bool), eqF P fs o (cs.drop o) = true → eqC (cs.drop o) (ds.drop o) = some b → (Op.eqFields (d + 1) xs ys fs).run P w = .ok b w
  | [], o, b, h, hb => by
    cases hc : cs.drop o with
    | nil =>
      rw [hc] at hb
      cases hd : ds.drop o with
      | nil => rw [hd] at hb; simp [eqC] at hb; subst hb; rfl
      | cons x l => rw [hd] at hb; simp [eqC] at hb
    | cons x l => rw [hc] at h; simp [eqF] at h
  | f :: fs, o, b, h, hb => by
    cases hcs : cs.drop o with
    | nil => rw [hcs] at h; simp [eqF] at h
    | cons c cs' =>
      rw [hcs] at h
      simp only [eqF, Bool.and_eq_true, bne_iff_ne, ne_eq, beq_iff_eq] at h
      obtain ⟨⟨⟨hnm, ho⟩, ht⟩, h⟩ := h
      cases hds : ds.drop o with
      | nil => rw [hcs, hds] at hb; cases c <;> simp [eqC] at hb
      | cons e ds' =>
        have i1 : cs[o]? = some c := by
          have := congrArg (·[0]?) hcs
          simpa using this
        have i2 : ds[o]? = some e := by
          have := congrArg (·[0]?) hds
          simpa using this
        have c1 : cs.drop (o + 1) = cs' := by rw [← List.drop_drop, hcs]; rfl
        have c2 : ds.drop (o + 1) = ds' := by rw [← List.drop_drop, hds]; rfl
        have l1 : o < xs.size := by rw [← hl]; exact (List.getElem?_eq_some_iff.1 i1).1
        have l2 : o < ys.size := by rw [← hl2]; exact (List.getElem?_eq_some_iff.1 i2).1
        have hag : (isAgg f.type).run P w = .ok false w := by
          unfold isAgg
          split at ht
          · rename_i ht'; simp [Sem.run_bind, run_underlying ht']
          · rename_i ht'; simp [Sem.run_bind, run_underlying ht']
          · simp at ht
        have p1 : (part f.type xs f.offset).run P w = .ok xs[o] w := by
          unfold part
          simp [Sem.run_bind, hag, ho, Array.getElem?_eq_getElem l1]
        have p2 : (part f.type ys f.offset).run P w = .ok ys[o] w := by
          unfold part
          simp [Sem.run_bind, hag, ho, Array.getElem?_eq_getElem l2]
        have q1 := hu o c xs[o] i1 (Array.getElem?_eq_getElem l1)
        have q2 := hv o e ys[o] i2 (Array.getElem?_eq_getElem l2)
        rw [hcs, hds] at hb
        have fin : ∀ (eq : Bool), (Op.equalIn (d + 1) f.type xs[o] ys[o]).run P w = .ok eq w → (∃ b', eqC cs' ds' = some b' ∧ b = (eq && b')) → (Op.eqFields (d + 1) xs ys (f :: fs)).run P w = .ok b w := fun eq he ⟨b', hb', hbb⟩ => by
          have ih := eqFields_ok hl hu hv hl2 d fs (o + 1) b' (by rw [c1]; exact h) (by rw [c1, c2]; exact hb')
          simp only [Op.eqFields, ne_eq, hnm, not_false_eq_true, if_true, Sem.run_bind, p1, p2, he, Result.andThen_ok]
          cases eq with
          | false => simp [hbb]
          | true => simp [hbb]; exact ih
        generalize xs[o] = X at *
        generalize ys[o] = Y at *
        split at ht
        · rename_i p hty
          cases e <;> simp only [eqC, reduceCtorEq] at hb
          rename_i q
          cases q1; cases q2
          obtain ⟨b', h1, h2⟩ := Option.map_eq_some_iff.1 hb
          exact fin (p == q) (run_equalIn_bool' w d f.type p q hty) ⟨b', h1, h2.symm⟩
        · rename_i k2 k p hty
          cases e <;> simp only [eqC, reduceCtorEq] at hb
          rename_i k' q
          cases q1; cases q2
          split at hb
          · rename_i hk
            subst hk
            obtain ⟨b', h1, h2⟩ := Option.map_eq_some_iff.1 hb
            exact fin (p == q) (run_equalIn_int w d f.type k k2 p q hty) ⟨b', h1, h2.symm⟩
          · simp at hb
        · simp at ht
theorem eqT_ok {t : TypeId} {op : BinOp} {x y : Operand} {cs ds : List PV} {s : PV} {u v : Value} (hu : Rep w fx bs (.agg cs) u) (hv : Rep w fx bs (.agg ds) v) (h : binA op (eqT P t cs) cs ds = some s) :
    ∃ q, (do eqGuard op t x y u v; binOp op t u v : Sem Value).run P w = .ok q w ∧ Rep w fx bs s q := by
  cases hu with | agg _ xs hl hu =>
  cases hv with | agg _ ys hl2 hv =>
  have key : eqT P t cs = true → ∀ b, eqC cs ds = some b → (eqGuard op t x y (.agg xs) (.agg ys)).run P w = .ok () w ∧ (Op.equalIn 10000 t (.agg xs) (.agg ys)).run P w = .ok b w := fun he b hb => by
    unfold eqT at he
    split at he
    · rename_i fs hf
      simp only [Bool.and_eq_true, Bool.not_eq_true', beq_iff_eq] at he
      obtain ⟨⟨h1, h2⟩, h3⟩ := he
      have hfo : P.fieldsOf t = fs := by unfold Program.fieldsOf; rw [hf]
      refine ⟨run_eqGuard_agg w op t x y xs ys h3, ?_⟩
      rw [show (10000 : Nat) = 9999 + 1 from rfl, run_equalIn_struct w 9999 t xs ys (by rw [hfo]; exact hf) h1, hfo]
      exact eqFields_ok hl hu hv hl2 9998 fs.toList 0 b (by rw [List.drop_zero]; exact h2) (by rw [List.drop_zero, List.drop_zero]; exact hb)
    · simp at he
  unfold binA at h
  split at h
  · rename_i he
    obtain ⟨b, hb, rfl⟩ := Option.map_eq_some_iff.1 h
    obtain ⟨k1, k2⟩ := key he b hb
    exact ⟨.bool b, by rw [Sem.run_bind, k1, Result.andThen_ok, run_eql_struct, k2]; rfl, .bool b⟩
  · rename_i he
    obtain ⟨b, hb, rfl⟩ := Option.map_eq_some_iff.1 h
    obtain ⟨k1, k2⟩ := key he b hb
    exact ⟨.bool !b, by rw [Sem.run_bind, k1, Result.andThen_ok, run_neq_struct, k2]; rfl, .bool _⟩
  · simp at h
theorem max2_ok {k : IntKind} {p q : Int} : (Builtin.max2 (.int k p) (.int k q)).run P w = .ok (.int k (if q > p then q else p)) w := by simp [Builtin.max2]
theorem min2_ok {k : IntKind} {p q : Int} : (Builtin.min2 (.int k p) (.int k q)).run P w = .ok (.int k (if q < p then q else p)) w := by simp [Builtin.min2]
theorem minmax_ok {mx : Bool} {f : Value → Value → Sem Value} (hf : f = if mx then Builtin.max2 else Builtin.min2) : ∀ {vs : List PV} {us : List Value} {p s : PV} {q : Value}, RepS w fx bs vs us → Rep w fx bs p q →
    vs.foldlM (fun a y => match a, y with
    | .int k p, .int k' q => if k = k' then some (.int k (if mx then (if q > p then q else p) else (if q < p then q else p))) else none
    | _, _ => none) p = some s → ∃ z, (us.foldlM f q).run P w = .ok z w ∧ Rep w fx bs s z
  | [], us, p, s, q, h, hp, hs => by
    have : us = [] := List.eq_nil_of_length_eq_zero (by rw [← h.1]; rfl)
    subst this
    simp at hs; subst hs
    exact ⟨q, rfl, hp⟩
  | v :: vs, [], p, s, q, h, hp, hs => by have := h.1; simp at this
  | v :: vs, u :: us, p, s, q, h, hp, hs => by
    rw [List.foldlM_cons] at hs
    simp only [Option.bind_eq_bind, Option.bind_eq_some_iff] at hs
    obtain ⟨t, ht, hs⟩ := hs
    split at ht
    · rename_i k x k' y
      split at ht
      · rename_i hk
        subst hk
        simp at ht; subst ht
        have hv := rep_int (h.2 0 _ _ rfl rfl)
        have hq := rep_int hp
        subst hv; subst hq
        have hrest : RepS w fx bs vs us := ⟨by have := h.1; simpa using this, fun j c v hc hv => h.2 (j + 1) c v (by simpa using hc) (by simpa using hv)⟩
        obtain ⟨z, hz, hr⟩ := minmax_ok hf hrest (Rep.int k (if mx = true then (if y > x then y else x) else (if y < x then y else x))) hs
        refine ⟨z, ?_, hr⟩
        rw [List.foldlM_cons, Sem.run_bind]
        have : (f (.int k x) (.int k y)).run P w = .ok (.int k (if mx = true then (if y > x then y else x) else (if y < x then y else x))) w := by
          subst hf
          cases mx
          · exact min2_ok
          · exact max2_ok
        rw [this, Result.andThen_ok]
        exact hz
      · simp at ht
    · simp at ht

theorem ok_rep {X : Sem Value} {p : PV} (h : ∃ v, X.run P w = .ok v w ∧ Rep w fx bs p v) : ∃ v, (do pure (.value (← X)) : Sem Next).run P w = .ok (.value v) w ∧ Rep w fx bs p v := by
  obtain ⟨v, hv, hr⟩ := h
  exact ⟨v, by simp [hv], hr⟩
theorem indexAddr_ok (hE : Env w fx bs r a) {t : TypeId} {x i : Operand} {p : PV} (h : pureOp P r M (.indexAddr t x i) = some p) : ∃ v, (Instr.indexAt t (a.eval x) (a.eval i)).run P w = .ok v w ∧ Rep w fx bs p v := by
  simp only [pureOp] at h
  split at h
  · rename_i e _ _ _ v k n hT hx hi
    have hT' : ti P t = some _ := hT
    have hxr := ev_ok hE hx
    rw [rep_int (ev_ok hE hi)]
    split at h
    · rename_i te he
      split at h
      · rename_i h0
        split at h
        · rename_i ex xs
          split at h
          · rename_i y hy
            split at h
            · rename_i hlen
              simp at h; subst h
              generalize hav : a.eval x = av at hxr
              cases hxr with | sl _ _ A nn c sz vs hn hc he' hcl hu hm hr =>
              have hyl := hu y (List.mem_of_getElem? hy)
              have hlt : n.toNat < xs.length := (List.getElem?_eq_some_iff.1 hy).1
              obtain ⟨hlen, hz⟩ := hlen
              · have hc0 : 0 < y.cells.length := by omega
                obtain ⟨ad, rfl, hs, _, _⟩ := hm _ _ (flat_at hu hy 0 (List.getElem?_eq_getElem hc0))
                refine ⟨_, indexAt_slice hT' rfl he ad nn c k n h0 (by omega), ?_⟩
                rw [add_none _ hs]
                refine .at_ _ _ (fun j => vs (n.toNat * te.size + j)) rfl ?_ (fun j c hj => ?_) (fun j c hj => ?_)
                · rw [cloL_all]
                  exact fun c hc => clo_cells (cloL_all.1 hcl y (List.mem_of_getElem? hy)) c hc
                · obtain ⟨ad', h1, _, h3, h4⟩ := hm _ _ (flat_at hu hy j hj)
                  simp at h1; subst h1
                  rw [← hyl, hlen] at h3 h4
                  exact ⟨by simpa [Nat.add_assoc] using h3, by simpa [Nat.add_assoc] using h4⟩
                · have := hr _ _ (flat_at hu hy j hj)
                  rw [← hyl, hlen] at this
                  exact this
            · simp at h
          · simp at h
        · rename_i id sz off len cap ex
          split at h
          · rename_i hlt
            simp at h; subst h
            generalize hav : a.eval x = av at hxr
            cases hxr with | ref _ _ _ _ _ _ b off' c hb hl hc he' ho hr =>
            refine ⟨_, indexAt_slice hT' rfl he _ len c k n h0 (by omega), ?_⟩
            rw [ho (by omega)]
            exact ptr_add hb _
          · simp at h
        · simp at h
      · simp at h
    · simp at h
  · rename_i e K _ _ _ v k n hT hx hi
    have hT' : ti P t = some _ := hT
    have hxr := ev_ok hE hx
    rw [rep_int (ev_ok hE hi)]
    split at h
    · rename_i te he
      split at h
      · rename_i h0
        split at h
        · rename_i id off
          simp at h; subst h
          generalize hav : a.eval x = av at hxr
          cases hxr with | ptr _ _ b hb =>
          exact ⟨_, indexAt_array hT' rfl he _ k n h0.1 h0.2, ptr_add hb _⟩
        · rename_i cs
          simp at h; subst h
          generalize hav : a.eval x = av at hxr
          have hxr' := hxr
          cases hxr with | at_ _ ad vs hs hcl hm hr =>
          exact ⟨_, indexAt_array hT' rfl he _ k n h0.1 h0.2, at_drop hxr' _⟩
        · simp at h
      · simp at h
    · simp at h
  · simp at h

theorem slice_ok (hS : Sim base w0 fb fx bs M w) (hE : Env w fx bs r a) {t : TypeId} {x : Operand} {lo hi mx : Option Operand} {p : PV} (h : pureOp P r M (.slice t x lo hi mx) = some p) :
    ∃ v, (Instr.sliceAt t (a.eval x) (lo.map a.eval) (hi.map a.eval) (mx.map a.eval)).run P w = .ok v w ∧ Rep w fx bs p v := by
  simp only [pureOp] at h
  split at h
  · rename_i e _ _ _ v l hT hx hl
    have hT' : ti P t = some _ := hT
    have hxr := ev_ok hE hx
    split at h
    · rename_i te ex xs he
      split at h
      · rename_i hh hbh
        split at h
        · rename_i hcond
          obtain ⟨h1, h2, hz⟩ := hcond
          generalize hav : a.eval x = av at hxr
          have hxr' := hxr
          cases hxr with | sl _ _ A nn c sz vs hn hc he' hcl hu hm hr =>
          subst hn
          split at h
          · simp at h; subst h
            refine ⟨_, run_slice hT' rfl he hE hl hbh (.inl ⟨rfl, rfl⟩) h1 (by omega) (Nat.le_refl _) hc, sl_sub hxr' h1 h2 (by omega) (fun hx => ?_) hz⟩
            simp at hx
            have := he' hx.1
            omega
          · split at h
            · rename_i m hbm
              split at h
              · rename_i hmh
                obtain ⟨rfl, hhi⟩ := hmh
                simp at h; subst h
                exact ⟨_, run_slice hT' rfl he hE hl hbh (.inr ⟨hhi, rfl, hbm⟩) h1 (Nat.le_refl _) (by omega) hc, sl_sub hxr' h1 h2 (Nat.le_refl _) (fun _ => rfl) hz⟩
              · simp at h
            · simp at h
        · simp at h
      · simp at h
    · rename_i te id sz off len cap ex he
      split at h
      · rename_i hh hbh
        split at h
        · rename_i hcond
          obtain ⟨h1, h2, h3, rfl⟩ := hcond
          generalize hav : a.eval x = av at hxr
          have hxr' := hxr
          cases hxr with | ref _ _ _ _ _ _ b off' c hb hl' hc he' ho hr =>
          split at h
          · simp at h; subst h
            exact ⟨_, run_slice hT' rfl he hE hl hbh (.inl ⟨rfl, rfl⟩) h1 (by omega) (Nat.le_refl _) (by omega), ref_sub hxr' h1 h2 hc (Nat.le_refl _) he'⟩
          · split at h
            · rename_i m hbm
              split at h
              · rename_i hmh
                obtain ⟨hm1, hm2, hhi⟩ := hmh
                simp at h; subst h
                exact ⟨_, run_slice hT' rfl he hE hl hbh (.inr ⟨hhi, rfl, hbm⟩) h1 hm1 (by omega) (by omega), ref_sub hxr' h1 hm1 (Nat.le_refl _) (by omega) (fun _ => rfl)⟩
              · simp at h
            · simp at h
        · simp at h
      · simp at h
    · simp at h
  · rename_i N e _ _ _ id off hT hx
    have hT' : ti P t = some _ := hT
    have hxr := ev_ok hE hx
    split at h
    · rename_i te he
      split at h
      · rename_i wr ty cs hM
        split at h
        · rename_i hfit
          simp at h; subst h
          generalize hav : a.eval x = av at hxr
          cases hxr with | ptr _ _ b hb =>
          obtain ⟨_, cells, hh, hsz, _⟩ := hS.live id wr ty cs b hM hb
          obtain ⟨i, hi', h4, _⟩ := info_of he
          refine ⟨.slice (some ⟨b, off, none⟩) N N, ?_, .ref _ _ _ _ _ _ b off N hb (Nat.le_refl _) (Nat.le_refl _) (fun _ => rfl) (fun _ => rfl) ⟨cells, ty, _, hh, by omega⟩⟩
          simp [Instr.sliceAt, run_underlying (array_ty hT' rfl), Instr.sureAddr, Instr.sliceBounds, run_sizeOf' hi', Addr.add]
        · simp at h
      · simp at h
    · simp at h
  · simp at h

theorem RepS.get {cs : List PV} {l : List Value} (h : RepS w fx bs cs l) {i : Nat} {c : PV} (hc : cs[i]? = some c) : ∃ v, l[i]? = some v ∧ Rep w fx bs c v := by
  have hlt : i < cs.length := (List.getElem?_eq_some_iff.1 hc).1
  have : i < l.length := by rw [← h.1]; exact hlt
  exact ⟨l[i], List.getElem?_eq_getElem this, h.2 i c _ hc (List.getElem?_eq_getElem this)⟩
theorem zeroRow {t : TypeId} {T : Ti} {i : TypeInfo} {z : Value} (hz : cstL z.cells.toList = some T.zero) (hsz : T.zero.length = i.size) (n : Nat) :
    RepS w fx bs (zeros T.zero n) (((Array.range (n * i.size)).map fun j => z.cells[j % z.cells.size]!).toList) := by
  have h := cstL_ok (w := w) (fx := fx) (bs := bs) hz
  have hs : z.cells.size = i.size := by rw [← hsz, h.1]; simp
  rw [← hs, range_zeros]
  exact zeros_rep h n
/-- A slice literal: its block is new and is never written. -/
theorem buildSlice_ok (hS : Sim base w0 fb fx bs M w) (hE : Env w fx bs r a) {t : TypeId} {n : Nat} {parts : Array (Nat × Operand)} {p : PV} (h : pureOp P r M (.buildSlice t n parts) = some p) :
    ∃ cells ty v, (Instr.buildSlice t n (parts.map fun (i, x) => (i, a.eval x))).run P w = .ok v (w.alloc (.cells cells ty)) ∧ Rep (w.alloc (.cells cells ty)) (fun b o => fx b o ∨ b = w.heap.size) bs p v := by
  simp only [pureOp] at h
  split at h
  · rename_i e _ _ _ ps hT hp
    have hT' : ti P t = some _ := hT
    split at h
    · rename_i te he
      split at h
      · rename_i hcond
        obtain ⟨hn, hn0, hzl⟩ := hcond
        split at h
        · rename_i ds hpl
          split at h
          · rename_i hg
            simp at h; subst h
            obtain ⟨i, d, z, hi, hd, hz, hzc, hsh, hsz, hby⟩ := ti_spec he
            have hG := gd_spec hg
            obtain ⟨h1, h2⟩ := evP_ok hE hp
            have hdl : ds.length = n * te.size := by rw [place_length hpl, zeros_length, hzl]
            obtain ⟨out, ho, hr⟩ := fill_ok (fs := rowF te.size 0 n) (fun j => some (j * i.size, i.size)) (fun j q hq => by
                obtain ⟨rfl, _⟩ := rowF_get te.size n 0 j q hq; simp [hsz]) (ps := ps) (us := (parts.map fun (i, x) => (i, a.eval x)).toList)
              (by simpa using h1) (fun j q x hq hx => by
                simp at hx
                obtain ⟨k, o, hjo, rfl⟩ := hx
                exact h2 j q (k, o) hq (by simpa using hjo)) hpl (zeroRow (t := e) hzc (hzl.trans hsz) n)
            have hosz : out.size = n * te.size := by rw [← Array.length_toList, ← hr.1, hdl]
            refine ⟨out, e, .slice (some ⟨w.heap.size, 0, none⟩) n n, ?_, ?_⟩
            · have h0 : ¬ n * i.size = 0 := by rw [← hsz]; omega
              have : ¬ n * i.size > 2 ^ 24 := by rw [← hsz]; omega
              simp only [Instr.buildSlice, Sem.run_bind, run_underlying (slice_ty hT' rfl), Result.andThen_ok, run_sizeOf' hi, h0, this, if_false, Sem.run_pure, run_zero' hi hz]
              rw [ho]
              simp [newRow, newObj]
              rfl
            · have hE' := Ext.alloc hS.fxlt (.cells out e)
              have hnew : (w.alloc (.cells out e)).heap[w.heap.size]? = some (.cells out e) := heap_alloc_new w _
              have hget : ∀ j x, (flat (elems te.size 0 n ds))[j]? = some x → ∃ v, out[j]? = some v ∧ Rep w fx bs x v := fun j x hj => by
                rw [hG.flat, List.drop_zero, List.take_of_length_le (by omega)] at hj
                obtain ⟨v, hv, hvr⟩ := hr.get hj
                exact ⟨v, by simpa using hv, hvr⟩
              refine .sl true _ _ n n te.size (fun j => out.getD j undef) hG.num.symm (Nat.le_refl _) (fun _ => rfl) hG.clo hG.uni (fun j x hj => ?_) (fun j x hj => ?_)
              · obtain ⟨v, hv, _⟩ := hget j x hj
                refine ⟨_, rfl, rfl, .inr rfl, ?_⟩
                rw [cell_of_block hnew, Nat.zero_add, hv]
                simp [hv]
              · obtain ⟨v, hv, hvr⟩ := hget j x hj
                have : out.getD j undef = v := by simp [hv]
                rw [this]
                exact hvr.mono hE' (fun _ _ h => .inl h) (fun _ _ h => h)
          · simp at h
        · simp at h
      · simp at h
    · simp at h
  · simp at h

theorem load_op (hS : Sim base w0 fb fx bs M w) (hE : Env w fx bs r a) {t : TypeId} {x : Operand} {p : PV} (h : pureOp P r M (.load t x) = some p) : ∃ v, (Instr.loadAt t (a.eval x)).run P w = .ok v w ∧ Rep w fx bs p v := by
  simp only [pureOp] at h
  split at h
  · rename_i T id off hT hx
    exact load_ok hS hT (ev_ok hE hx) h
  · rename_i T cs hT hx
    exact load_ok hS hT (ev_ok hE hx) h
  · simp at h
theorem field_op (hE : Env w fx bs r a) {t : TypeId} {x : Operand} {f : Nat} {p : PV} (h : pureOp P r M (.fieldAddr t x f) = some p) : ∃ v, (Instr.fieldAt t (a.eval x) f).run P w = .ok v w ∧ Rep w fx bs p v := by
  simp only [pureOp] at h
  split at h
  · rename_i fs _ _ _ v hT hx
    have hT' : ti P t = some _ := hT
    have hxr := ev_ok hE hx
    split at h
    · rename_i off size hf
      split at h
      · simp at h
      · rename_i h0
        generalize hav : a.eval x = av at hxr
        split at h
        · simp at h; subst h
          cases hxr with | ptr _ _ b hb =>
          exact ⟨_, fieldAt_ok hT' rfl hf h0 _, ptr_add hb _⟩
        · simp at h; subst h
          have hxr' := hxr
          cases hxr with | at_ _ ad vs hs hcl hm hr =>
          exact ⟨_, fieldAt_ok hT' rfl hf h0 _, at_drop hxr' _⟩
        · simp at h
    · simp at h
  · simp at h
theorem conv_op (hE : Env w fx bs r a) {s d : TypeId} {x : Operand} {p : PV} (h : pureOp P r M (.convert s d x) = some p) : ∃ v, (convert s d (a.eval x)).run P w = .ok v w ∧ Rep w fx bs p v := by
  simp only [pureOp] at h
  split at h
  · rename_i k n T k' _ _ _ hx hs hd
    simp at h; subst h
    rw [rep_int (ev_ok hE hx)]
    obtain ⟨i, e, z, _, he, _, _, hsh, _, _⟩ := ti_spec hd
    have he' := shOf_int (P := P) (d := e) hsh.symm
    subst he'
    obtain ⟨i', e', z', _, he', _, _, _, _, _⟩ := ti_spec hs
    refine ⟨_, ?_, .int _ _⟩
    have h1 : (P.underlying s).isSome = true := by rw [he']; rfl
    have h2 : P.intKind d = k' := by simp [Program.intKind, he]
    rw [run_convert_int w s d k n h1 (by rw [he, h2]), h2]
  · simp at h
theorem minmax_op {mx : Bool} {f : Array TypeId → TypeId → Array Value → Sem Value} (hf : ∀ ts t us, f ts t us = match us.toList with | [] => stuck (if mx then "max: at least one argument expected" else "min: at least one argument expected") | x :: rest => rest.foldlM (if mx then Builtin.max2 else Builtin.min2) x)
    {vs : List PV} {us : Array Value} {ts : Array TypeId} {t : TypeId} {p : PV} (hL : RepL w fx bs vs us) (h : minmax mx vs = some p) : ∃ v, (f ts t us).run P w = .ok v w ∧ Rep w fx bs p v := by
  cases vs with
  | nil => simp [minmax] at h
  | cons v vs =>
    rw [hf]
    cases hu : us.toList with
    | nil => have := hL.1; rw [← Array.length_toList, hu] at this; simp at this
    | cons u us' =>
      simp only
      have hget : ∀ (i : Nat) c x, (v :: vs)[i]? = some c → (u :: us')[i]? = some x → Rep w fx bs c x := fun i c x hc hx => hL.2 i c x hc (by rw [← hu] at hx; simpa using hx)
      refine minmax_ok rfl ⟨?_, fun j c x hc hx => hget (j + 1) c x (by simpa using hc) (by simpa using hx)⟩ (hget 0 v u rfl rfl) h
      have := hL.1
      rw [← Array.length_toList, hu] at this
      simpa using this
theorem len_op (hE : Env w fx bs r a) {b : Builtin} {xs : Array Operand} {ts : Array TypeId} {ty : TypeId} {consts : Array Bool} {p : PV} (h : pureOp P r M (.call ⟨.builtin b, xs, ts⟩) = some p) :
    ∃ v, (builtin b ts ty consts (xs.map a.eval)).run P w = .ok (.value v) w ∧ Rep w fx bs p v := by
  simp only [pureOp, Option.bind_eq_some_iff] at h
  obtain ⟨vs, hvs, h⟩ := h
  have hL := evL_rep hE hvs
  generalize xs.map a.eval = us at hL
  have one : ∀ x, vs = [x] → ∃ u, us = #[u] ∧ Rep w fx bs x u := fun x hx => by
    subst hx
    have h1 := hL.1
    have h0 : 0 < us.size := by rw [← h1]; simp
    refine ⟨us[0], ?_, hL.2 0 x _ rfl (Array.getElem?_eq_getElem h0)⟩
    apply Array.ext
    · simpa using h1.symm
    · intro i h2 h3
      have : i = 0 := by simp at h3; omega
      subst this; rfl
  have sl : isSl P ts = true → ∃ t e, ts[0]? = some t ∧ P.underlying t = some (.slice e) := fun h => by
    unfold isSl at h
    split at h
    · rename_i t ht
      split at h
      · rename_i hT
        exact ⟨t, _, ht, slice_ty hT rfl⟩
      · simp at h
    · simp at h
  split at h
  · split at h
    · rename_i hsl
      simp at h; subst h
      obtain ⟨u, rfl, hr⟩ := one _ rfl
      obtain ⟨t, e, ht, hu⟩ := sl hsl
      cases hr with | sl _ _ A n c sz vs' hn hc he hcl hu' hm hr =>
      exact ⟨_, by simp [builtin, Builtin.len_, ht, run_underlying hu, goInt, hn], .int _ _⟩
    · simp at h
  · split at h
    · rename_i hsl
      simp at h; subst h
      obtain ⟨u, rfl, hr⟩ := one _ rfl
      obtain ⟨t, e, ht, hu⟩ := sl hsl
      cases hr with | ref _ _ _ _ _ _ b off' c hb hl hc he ho hr =>
      exact ⟨_, by simp [builtin, Builtin.len_, ht, run_underlying hu, goInt], .int _ _⟩
    · simp at h
  · split at h
    · rename_i hsl
      simp at h; subst h
      obtain ⟨u, rfl, hr⟩ := one _ rfl
      obtain ⟨t, e, ht, hu⟩ := sl hsl
      cases hr with | sl _ _ A n c sz vs' hn hc he hcl hu' hm hr =>
      have := he rfl
      subst this; subst hn
      exact ⟨_, by simp [builtin, Builtin.cap_, ht, run_underlying hu, goInt], .int _ _⟩
    · simp at h
  · split at h
    · rename_i hsl
      simp at h; subst h
      obtain ⟨u, rfl, hr⟩ := one _ rfl
      obtain ⟨t, e, ht, hu⟩ := sl hsl
      cases hr with | ref _ _ _ _ _ _ b off' c hb hl hc he ho hr =>
      have := he rfl
      subst this
      exact ⟨_, by simp [builtin, Builtin.cap_, ht, run_underlying hu, goInt], .int _ _⟩
    · simp at h
  · exact ok_rep (minmax_op (mx := true) (f := Builtin.max_) (fun ts t us => by simp only [Builtin.max_, if_true]; cases us.toList <;> rfl) hL h)
  · exact ok_rep (minmax_op (mx := false) (f := Builtin.min_) (fun ts t us => by simp only [Builtin.min_]; cases us.toList <;> rfl) hL h)
  · simp at h
theorem pure_ok (hS : Sim base w0 fb fx bs M w) (hE : Env w fx bs r a) {o : Oper} {p : PV} (h : pureOp P r M o.op = some p) (hb : ∀ t n ps, o.op ≠ .buildSlice t n ps) :
    ∃ v, (execOp a.eval o).run P w = .ok (.value v) w ∧ Rep w fx bs p v := by
  obtain ⟨dst, op, ty, pos, after, guard⟩ := o
  simp only at h hb
  cases op <;> first | (simp [pureOp] at h; done) | skip
  case move x => exact ⟨_, rfl, ev_ok hE (by simpa [pureOp] using h)⟩
  case assign x => exact ⟨_, rfl, ev_ok hE (by simpa [pureOp] using h)⟩
  case pick c x y =>
    simp only [pureOp] at h
    split at h
    · rename_i hc
      have := rep_bool (ev_ok hE hc)
      exact ⟨_, by simp [execOp, this, asBool], ev_ok hE h⟩
    · rename_i hc
      have := rep_bool (ev_ok hE hc)
      exact ⟨_, by simp [execOp, this, asBool], ev_ok hE h⟩
    · simp at h
  case buildSlice t n ps => exact absurd rfl (hb t n ps)
  case build t ps =>
    simp only [pureOp] at h
    split at h
    · rename_i fs _ _ z qs hT hp
      simp at h
      obtain ⟨ds, hds, rfl⟩ := h
      exact ok_rep (build_ok hE hT rfl hp hds)
    · simp at h
  case load t x => exact ok_rep (load_op hS hE h)
  case nilCheck x =>
    simp only [pureOp] at h
    split at h
    · rename_i id off hx
      simp at h; subst h
      have hr := ev_ok hE hx
      generalize hav : a.eval x = av at hr
      have hr' := hr
      cases hr with | ptr _ _ b hb =>
      exact ⟨_, by simp [execOp, hav], hr'⟩
    · rename_i f cs hx
      simp at h; subst h
      have hr := ev_ok hE hx
      generalize hav : a.eval x = av at hr
      have hr' := hr
      cases hr with | fn _ _ vs hl hr =>
      exact ⟨_, by simp [execOp, hav], hr'⟩
    · simp at h
  case binOp op t x y t' =>
    simp only [pureOp] at h
    split at h
    · rename_i cs ds hx hy
      exact ok_rep (eqT_ok (ev_ok hE hx) (ev_ok hE hy) h)
    · rename_i p' q' hx hy
      split at h
      · rename_i hT
        have := ok_rep (bin_bool (w := w) (fx := fx) (bs := bs) (x := x) (y := y) (op := op) hT rfl h)
        simpa [execOp, rep_bool (ev_ok hE hx), rep_bool (ev_ok hE hy)] using this
      · simp at h
    · rename_i u v n1 n2 hx hy
      have hu := ev_ok hE hx
      have hv := ev_ok hE hy
      cases u with
      | int k m =>
        cases v with
        | int k' m' =>
          have := ok_rep (bin_int (w := w) (fx := fx) (bs := bs) (P := P) (t := t) (x := x) (y := y) (op := op) h)
          simpa [execOp, rep_int hu, rep_int hv] using this
        | _ => simp [bin] at h
      | bool b =>
        cases v with
        | bool c => exact (n2 _ _ rfl rfl).elim
        | _ => simp [bin] at h
      | _ => simp [bin] at h
    · simp at h
  case unOp op t x =>
    simp only [pureOp, Option.bind_eq_some_iff] at h
    obtain ⟨u, hu, h⟩ := h
    exact ok_rep (una_ok (ev_ok hE hu) h)
  case convert s d x => exact ok_rep (conv_op hE h)
  case makeFunc fn first caps =>
    cases fn <;> first | (simp [pureOp] at h; done) | skip
    simp only [pureOp] at h
    split at h
    · rename_i hf
      simp at h
      obtain ⟨cs, hcs, rfl⟩ := h
      have hL := evL_rep hE hcs
      have hf' : first = #[] := Array.eq_empty_of_size_eq_zero hf
      subst hf'
      exact ⟨.func (.func _) #[] (caps.map a.eval), by simp [execOp, Instr.makeFunc], .fn _ _ _ hL.1 hL.2⟩
    · simp at h
  case slice t x lo hi mx => exact ok_rep (slice_ok hS hE h)
  case fieldAddr t x f => exact ok_rep (field_op hE h)
  case indexAddr t x i => exact ok_rep (indexAddr_ok hE h)
  case extract x i =>
    simp only [pureOp] at h
    split at h
    · rename_i vs hx
      have hr := ev_ok hE hx
      generalize hav : a.eval x = av at hr
      cases hr with | tup _ us hl hr =>
      have hlt : i < vs.length := (List.getElem?_eq_some_iff.1 h).1
      have hi : us[i]? = some (us[i]'(by omega)) := Array.getElem?_eq_getElem (by omega)
      exact ⟨_, by simp [execOp, hav, Instr.extract, hi], hr i p _ h hi⟩
    · simp at h
  case call c =>
    obtain ⟨cal, xs, ts⟩ := c
    cases cal <;> first | (simp [pureOp] at h; done) | skip
    rename_i b
    obtain ⟨v, hv, hr⟩ := len_op (ty := ty) (consts := xs.map fun | .const _ => true | _ => false) hE h
    exact ⟨v, by simp [execOp, resolve, invoke]; exact hv, hr⟩
end
end Go.Pi

set_option linter.unusedVariables false
set_option linter.unusedSimpArgs false
namespace Go.Pi
open Go.RowKit

/-! ### Calls -/
section
variable {base : Nat} {w0 : World} {fb fx : Fx} {bs : Bs} {M : Mem} {w : World}

/-- Does a list of cells lead to a block? -/
def InL (id : Nat) (L : List PV) : Prop := ∃ sz off len cap ex, PV.ref id sz off len cap ex ∈ L
/-- What is fixed, when what a list of cells leads to is fixed, too. -/
def fxH (fx : Fx) (bs : Bs) (M : Mem) (L : List PV) : Fx := fun b o => fx b o ∨ ∃ id wr ty cs, InL id L ∧ M.m id = .live wr ty cs ∧ bs id = some b ∧ o < cs.length

theorem hold_nx : ∀ (L : List PV) (M : Mem), (hold M L).nx = M.nx
  | [], _ => rfl
  | x :: xs, M => by
    cases x <;> simp only [hold, hold_nx xs]
    split <;> rfl
theorem hold_m : ∀ (L : List PV) (M : Mem) (id : Nat), ((InL id L ∧ ∃ wr ty cs, M.m id = .live wr ty cs ∧ (hold M L).m id = .live false ty cs)) ∨ ((¬ InL id L ∨ M.m id = .dead) ∧ (hold M L).m id = M.m id)
  | [], M, id => .inr ⟨.inl (by simp [InL]), rfl⟩
  | x :: xs, M, id => by
    have other : (∀ i sz off len cap ex, x ≠ .ref i sz off len cap ex) → (InL id (x :: xs) ↔ InL id xs) := fun hx => by
      unfold InL
      constructor
      · rintro ⟨sz, off, len, cap, ex, h⟩
        rcases List.mem_cons.1 h with h | h
        · exact absurd h.symm (hx _ _ _ _ _ _)
        · exact ⟨sz, off, len, cap, ex, h⟩
      · rintro ⟨sz, off, len, cap, ex, h⟩
        exact ⟨sz, off, len, cap, ex, List.mem_cons_of_mem _ h⟩
    cases x with
    | ref i sz off len cap ex =>
      simp only [hold]
      have hin : InL id (PV.ref i sz off len cap ex :: xs) ↔ id = i ∨ InL id xs := by
        unfold InL
        constructor
        · rintro ⟨sz', off', len', cap', ex', h⟩
          rcases List.mem_cons.1 h with h | h
          · simp at h; exact .inl h.1
          · exact .inr ⟨sz', off', len', cap', ex', h⟩
        · rintro (rfl | ⟨sz', off', len', cap', ex', h⟩)
          · exact ⟨sz, off, len, cap, ex, List.mem_cons_self⟩
          · exact ⟨sz', off', len', cap', ex', List.mem_cons_of_mem _ h⟩
      rw [hin]
      cases hi : M.m i with
      | dead =>
        simp only
        rcases hold_m xs M id with ⟨h1, h2⟩ | ⟨h1, h2⟩
        · exact .inl ⟨.inr h1, h2⟩
        · refine .inr ⟨?_, h2⟩
          rcases h1 with h1 | h1
          · by_cases e : id = i
            · subst e; exact .inr hi
            · exact .inl (fun h => h.elim e h1)
          · exact .inr h1
      | live wr ty cs =>
        simp only
        by_cases e : id = i
        · subst e
          refine .inl ⟨.inl rfl, wr, ty, cs, hi, ?_⟩
          have hput : (M.put id (.live false ty cs)).m id = .live false ty cs := by simp [Mem.put, upd]
          rcases hold_m xs (M.put id (.live false ty cs)) id with ⟨_, wr', ty', cs', h1, h2⟩ | ⟨_, h2⟩
          · rw [hput] at h1; cases h1; exact h2
          · rw [h2, hput]
        · have hput : (M.put i (.live false ty cs)).m id = M.m id := by simp [Mem.put, upd, e]
          rcases hold_m xs (M.put i (.live false ty cs)) id with ⟨h1, h2⟩ | ⟨h1, h2⟩
          · rw [hput] at h2; exact .inl ⟨.inr h1, h2⟩
          · rw [hput] at h1 h2
            refine .inr ⟨?_, h2⟩
            rcases h1 with h1 | h1
            · exact .inl (fun h => h.elim e h1)
            · exact .inr h1
    | _ =>
      simp only [hold]
      rw [other (by intros; simp)]
      exact hold_m xs M id
theorem Sim.hold (hS : Sim base w0 fb fx bs M w) (L : List PV) : Sim base w0 fb (fxH fx bs M L) bs (hold M L) w := by
  have hE : Ext w w fx := Ext.refl w fx
  have back : ∀ id wr ty cs, (Pi.hold M L).m id = .live wr ty cs → ∃ wr', M.m id = .live wr' ty cs ∧ (InL id L → wr = false) ∧ (¬ InL id L → wr' = wr) := fun id wr ty cs h => by
    rcases hold_m L M id with ⟨hin, wr', ty', cs', h1, h2⟩ | ⟨hn, h2⟩
    · rw [h2] at h
      cases h
      exact ⟨wr', h1, fun _ => rfl, fun h => absurd hin h⟩
    · rw [h2] at h
      refine ⟨wr, h, fun hin => ?_, fun _ => rfl⟩
      rcases hn with hn | hn
      · exact absurd hin hn
      · rw [hn] at h; cases h
  refine ⟨hS.below, hS.bb, fun b o h => ?_, fun b o h hb => ?_, fun id wr ty cs b hl hb => ?_, fun i j b wi ti ci wj tj cj hi hj => ?_, fun id hid => ?_⟩
  · rcases h with h | ⟨id, wr, ty, cs, _, hl, hb, _⟩
    · exact hS.fxlt b o h
    · obtain ⟨_, cells, hh, _⟩ := hS.live id wr ty cs b hl hb
      exact heap_lt hh
  · rcases h with h | ⟨id, wr, ty, cs, _, hl, hb', _⟩
    · exact hS.fxb b o h hb
    · obtain ⟨h1, _⟩ := hS.live id wr ty cs b hl hb'
      omega
  · obtain ⟨wr', hM, hin, hout⟩ := back id wr ty cs hl
    obtain ⟨h1, cells, h2, h3, h4, h5, h6⟩ := hS.live id wr' ty cs b hM hb
    refine ⟨h1, cells, h2, h3, fun j c v hc hv => (h4 j c v hc hv).mono hE (fun _ _ h => .inl h) (fun _ _ h => h), fun hw o hx => ?_, fun hw o ho => ?_⟩
    · have hnin : ¬ InL id L := fun h => by rw [hin h] at hw; cases hw
      have := hout hnin
      subst this
      rcases hx with hx | ⟨id', wr2, ty2, cs2, hin', hl', hb', _⟩
      · exact h5 hw o hx
      · exact hnin (hS.inj id id' b _ _ _ _ _ _ hM hl' hb hb' ▸ hin')
    · by_cases hi : InL id L
      · exact .inr ⟨id, wr', ty, cs, hi, hM, hb, ho⟩
      · have := hout hi
        subst this
        exact .inl (h6 hw o ho)
  · obtain ⟨_, h1, _⟩ := back i wi ti ci hi
    obtain ⟨_, h2, _⟩ := back j wj tj cj hj
    exact hS.inj i j b _ _ _ _ _ _ h1 h2
  · rw [hold_nx] at hid
    obtain ⟨h1, h2⟩ := hS.nxt id hid
    refine ⟨?_, h2⟩
    rcases hold_m L M id with ⟨_, wr, ty, cs, h3, _⟩ | ⟨_, h3⟩
    · rw [h1] at h3; cases h3
    · rw [h3, h1]
/-- Behind a call that is for itself. -/
theorem Sim.join (hS : Sim base w0 fb fx bs M w) {fx' : Fx} {w' : World} (h1 : ∀ b o, fx b o → fx' b o) (h2 : ∀ b o, fx' b o → b < w.heap.size → fx b o) (h3 : ∀ b o, fx' b o → b < w'.heap.size) (hb : Below w.heap.size w w') (hE : Ext w w' fx) :
    Sim base w0 fb fx' bs M w' := by
  refine ⟨hS.below.trans (hb.mono hS.bb), Nat.le_trans hS.bb hb.size, h3, fun b o h hlt => hS.fxb b o (h2 b o h (Nat.lt_of_lt_of_le hlt hS.bb)) hlt, fun id wr ty cs b hl hbs => ?_, hS.inj, hS.nxt⟩
  obtain ⟨g1, cells, g2, g3, g4, g5, g6⟩ := hS.live id wr ty cs b hl hbs
  exact ⟨g1, cells, by rw [hb.block b (heap_lt g2)]; exact g2, g3, fun j c v hc hv => (g4 j c v hc hv).mono hE h1 (fun _ _ h => h), fun hw o h => g5 hw o (h2 b o h (heap_lt g2)), fun hw o ho => h1 _ _ (g6 hw o ho)⟩

theorem cloL_nrm {xs : List PV} (h : cloL xs = true) : cloL xs = true := h
theorem frz0_ok (hS : Sim base w0 fb fx bs M w) {p q : PV} {v : Value} {L : List PV} (hL : p ∈ L ∨ ∀ i sz off len cap ex, p ≠ .ref i sz off len cap ex) (h : frz0 M p = some q) (hr : Rep w fx bs p v) : Rep w (fxH fx bs M L) bs q v ∧ clo q = true := by
  have hE : Ext w w fx := Ext.refl w fx
  cases p with
  | bool b => simp [frz0] at h; subst h; exact ⟨hr.mono hE (fun _ _ h => .inl h) (fun _ _ h => h), rfl⟩
  | int k n => simp [frz0] at h; subst h; exact ⟨hr.mono hE (fun _ _ h => .inl h) (fun _ _ h => h), rfl⟩
  | str s => simp [frz0] at h; subst h; exact ⟨hr.mono hE (fun _ _ h => .inl h) (fun _ _ h => h), rfl⟩
  | sl ex xs =>
    simp [frz0] at h; subst h
    refine ⟨(nrm_rep hr).mono hE (fun _ _ h => .inl h) (fun _ _ h => h), ?_⟩
    cases hr with | sl _ _ _ _ _ sz vs hn hc he hcl hu hm hr => exact hcl
  | fn f cs =>
    simp only [frz0] at h
    split at h
    · rename_i hc
      simp at h; subst h
      exact ⟨hr.mono hE (fun _ _ h => .inl h) (fun _ _ h => h), hc⟩
    · simp at h
  | ref id sz off len cap ex =>
    have hin : InL id L := by
      rcases hL with hL | hL
      · exact ⟨sz, off, len, cap, ex, hL⟩
      · exact absurd rfl (hL _ _ _ _ _ _)
    simp only [frz0] at h
    split at h
    · rename_i wr ty cs hl
      split at h
      · rename_i hg
        simp at h; subst h
        have hG := gd_spec hg
        cases hr with | ref _ _ _ _ _ _ b off' c hb hlc hc he ho hr =>
        obtain ⟨_, cells, hh, hsz, hrep, _, _⟩ := hS.live id wr ty cs b hl hb
        have hget : ∀ j x, (flat (elems sz off len cs))[j]? = some x → off + j < cs.length ∧ cs[off + j]? = some x := fun j x hj => by
          rw [hG.flat, List.getElem?_take] at hj
          split at hj
          · rw [List.getElem?_drop] at hj
            exact ⟨(List.getElem?_eq_some_iff.1 hj).1, hj⟩
          · simp at hj
        refine ⟨.sl false _ _ len c sz (fun j => cells.getD (off + j) undef) hG.num.symm (by omega) (by simp) hG.clo hG.uni (fun j x hj => ?_) (fun j x hj => ?_), hG.clo⟩
        · obtain ⟨hlt, hx⟩ := hget j x hj
          have hlt2 : j < len * sz := by
            have := (List.getElem?_eq_some_iff.1 hj).1
            rw [hG.flat, List.length_take] at this; omega
          have hlen : 0 < len := by
            rcases Nat.eq_zero_or_pos len with h0 | h0
            · subst h0; simp at hlt2
            · exact h0
          refine ⟨_, rfl, rfl, ?_, ?_⟩
          · rw [ho (by omega)]
            exact .inr ⟨id, wr, ty, cs, hin, hl, hb, hlt⟩
          · rw [ho (by omega)]
            show w.cell? ⟨b, off + j, none⟩ = _
            rw [cell_of_block hh, Array.getElem?_eq_getElem (show off + j < cells.size by omega)]
            simp [show off + j < cells.size by omega]
        · obtain ⟨hlt, hx⟩ := hget j x hj
          have : cells.getD (off + j) undef = cells[off + j]'(by omega) := by simp [show off + j < cells.size by omega]
          rw [this]
          exact (hrep _ x _ hx (Array.getElem?_eq_getElem (by omega))).mono hE (fun _ _ h => .inl h) (fun _ _ h => h)
      · simp at h
    · simp at h
  | _ => simp [frz0] at h
theorem fxH_mono {L L' : List PV} (h : ∀ x, x ∈ L → x ∈ L') : ∀ b o, fxH fx bs M L b o → fxH fx bs M L' b o := fun b o hx => by
  rcases hx with hx | ⟨id, wr, ty, cs, ⟨sz, off, len, cap, ex, hm⟩, h1, h2, h3⟩
  · exact .inl hx
  · exact .inr ⟨id, wr, ty, cs, ⟨sz, off, len, cap, ex, h _ hm⟩, h1, h2, h3⟩
theorem RepS.tail {x : PV} {xs : List PV} {us : List Value} (h : RepS w fx bs (x :: xs) us) : ∃ u us', us = u :: us' ∧ Rep w fx bs x u ∧ RepS w fx bs xs us' := by
  cases us with
  | nil => have := h.1; simp at this
  | cons u us' => exact ⟨u, us', rfl, h.2 0 x u rfl rfl, by have := h.1; simpa using this, fun j c v hc hv => h.2 (j + 1) c v (by simpa using hc) (by simpa using hv)⟩
theorem RepS.cons {x : PV} {xs : List PV} {u : Value} {us : List Value} (h : Rep w fx bs x u) (k : RepS w fx bs xs us) : RepS w fx bs (x :: xs) (u :: us) := by
  refine ⟨by simp [k.1], fun j c v hc hv => ?_⟩
  cases j with
  | zero => simp at hc hv; subst hc; subst hv; exact h
  | succ j => simp at hc hv; exact k.2 j c v hc hv
theorem frzL0_ok (hS : Sim base w0 fb fx bs M w) {L : List PV} : ∀ {ps qs : List PV} {us : List Value}, (∀ x, x ∈ ps → x ∈ L) → frzL0 M ps = some qs → RepS w fx bs ps us → RepS w (fxH fx bs M L) bs qs us ∧ cloL qs = true
  | [], qs, us, _, h, hr => by
    simp [frzL0] at h; subst h
    exact ⟨⟨hr.1, by simp⟩, rfl⟩
  | x :: xs, qs, us, hL, h, hr => by
    simp only [frzL0, Option.bind_eq_some_iff, Option.map_eq_some_iff] at h
    obtain ⟨y, hy, ys, hys, rfl⟩ := h
    obtain ⟨u, us', rfl, hx, hxs⟩ := hr.tail
    obtain ⟨h1, h2⟩ := frzL0_ok hS (fun z hz => hL z (List.mem_cons_of_mem _ hz)) hys hxs
    obtain ⟨h3, h4⟩ := frz0_ok hS (.inl (hL x (by simp))) hy hx
    exact ⟨.cons h3 h1, by simp [cloL, h4, h2]⟩
theorem frz1_ok (hS : Sim base w0 fb fx bs M w) {L : List PV} {p q : PV} {v : Value} (hL : ∀ x, x ∈ p.cells → x ∈ L) (h : frz1 M p = some q) (hr : Rep w fx bs p v) : Rep w (fxH fx bs M L) bs q v ∧ clo q = true := by
  have other : (∀ cs, p ≠ .agg cs) → p.cells = [p] := fun h => by cases p <;> first | rfl | exact absurd rfl (h _)
  unfold frz1 at h
  split at h
  · rename_i cs
    simp only [Option.map_eq_some_iff] at h
    obtain ⟨qs, hqs, rfl⟩ := h
    cases hr with | agg _ us hl hr =>
    obtain ⟨h1, h2⟩ := frzL0_ok hS (ps := cs) (us := us.toList) (fun x hx => hL x hx) hqs ⟨by simpa using hl, fun j c v hc hv => hr j c v hc (by simpa using hv)⟩
    exact ⟨.agg _ _ (by simpa using h1.1) fun j c v hc hv => h1.2 j c v hc (by simpa using hv), h2⟩
  · rename_i hn
    exact frz0_ok hS (.inl (hL p (by rw [other hn]; simp))) h hr
theorem frzL_ok (hS : Sim base w0 fb fx bs M w) {L : List PV} : ∀ {ps qs : List PV} {us : List Value}, (∀ x, x ∈ flat ps → x ∈ L) → frzL M ps = some qs → RepS w fx bs ps us → RepS w (fxH fx bs M L) bs qs us ∧ cloL qs = true
  | [], qs, us, _, h, hr => by
    simp [frzL] at h; subst h
    exact ⟨⟨hr.1, by simp⟩, rfl⟩
  | x :: xs, qs, us, hL, h, hr => by
    simp only [frzL, Option.bind_eq_some_iff, Option.map_eq_some_iff] at h
    obtain ⟨y, hy, ys, hys, rfl⟩ := h
    obtain ⟨u, us', rfl, hx, hxs⟩ := hr.tail
    obtain ⟨h1, h2⟩ := frzL_ok hS (fun z hz => hL z (by unfold flat at *; rw [List.flatMap_cons]; exact List.mem_append_right _ hz)) hys hxs
    obtain ⟨h3, h4⟩ := frz1_ok hS (fun z hz => hL z (by unfold flat; rw [List.flatMap_cons]; exact List.mem_append_left _ hz)) hy hx
    exact ⟨.cons h3 h1, by simp [cloL, h4, h2]⟩
/-- The cells of an answer. -/
def resC : PV → List PV
  | .tup vs => flat vs
  | p => p.cells
theorem frz_ok (hS : Sim base w0 fb fx bs M w) {p q : PV} {v : Value} (h : frz M p = some q) (hr : Rep w fx bs p v) (bs' : Bs) : Rep w (fxH fx bs M (resC p)) bs' q v := by
  unfold frz at h
  split at h
  · rename_i vs
    simp only [Option.map_eq_some_iff] at h
    obtain ⟨qs, hqs, rfl⟩ := h
    cases hr with | tup _ us hl hr =>
    obtain ⟨h1, h2⟩ := frzL_ok hS (L := resC (.tup vs)) (us := us.toList) (fun x hx => hx) hqs ⟨by simpa using hl, fun j c v hc hv => hr j c v hc (by simpa using hv)⟩
    refine .tup _ _ (by simpa using h1.1) fun j c v hc hv => ?_
    exact (h1.2 j c v hc (by simpa using hv)).clo (cloL_all.1 h2 c (List.mem_of_getElem? hc)) bs'
  · rename_i hn
    obtain ⟨h1, h2⟩ := frz1_ok hS (L := resC p) (fun x hx => by unfold resC; split; exact absurd rfl (hn _); exact hx) h hr
    exact h1.clo h2 bs'
theorem scalar_rep {p : PV} {v : Value} (h : Rep w fx bs p v) (hs : p.scalar = true) (w' : World) (fx' : Fx) (bs' : Bs) : Rep w' fx' bs' p v := by
  have one : ∀ {p : PV} {v : Value}, Rep w fx bs p v → p.scalar1 = true → Rep w' fx' bs' p v := fun h hs => by
    cases h <;> first | (simp [PV.scalar1] at hs; done) | skip
    · exact .bool _
    · exact .int _ _
    · exact .str _
  cases h with
  | tup cs vs hl h =>
    simp only [PV.scalar, List.all_eq_true] at hs
    exact .tup _ _ hl fun i c v hc hv => one (h i c v hc hv) (hs c (List.mem_of_getElem? hc))
  | bool b => exact .bool _
  | int k n => exact .int _ _
  | str s => exact .str _
  | _ => simp [PV.scalar, PV.scalar1] at hs

/-- What is known of the callees. -/
def Ent (P : Program) (f : FuncId) : Prop := ∃ fn, P.funcs[f]? = some fn ∧ fn.body.isSome = true ∧ (fn.name == "runtime.NumGoroutine") = false
structure COk (P : Program) (C : FuncId → List PV → Mem → Option (PV × Mem)) : Prop where
  ent : ∀ f as M q, C f as M = some q → Ent P f
  ok : ∀ f as M p M', C f as M = some (p, M') → ∀ base w0 fb fx bs w us, Sim base w0 fb fx bs M w → RepL w fx bs as us →
    Calls P f us w fun e w' => ∃ v fx' bs', e = .returned v ∧ Rep w' fx' bs' p v ∧ Fwd base w0 fb (fun _ => False) w fx bs M w' fx' bs' M'
theorem RepL.s {ps : List PV} {us : Array Value} (h : RepL w fx bs ps us) : RepS w fx bs ps us.toList := ⟨by simpa using h.1, fun j c v hc hv => h.2 j c v hc (by simpa using hv)⟩
theorem mem_rep {ps : List PV} {us : List Value} (h : RepS w fx bs ps us) {p : PV} (hp : p ∈ ps) : ∃ v, Rep w fx bs p v := by
  obtain ⟨i, hi⟩ := List.getElem?_of_mem hp
  have hlt : i < ps.length := (List.getElem?_eq_some_iff.1 hi).1
  exact ⟨_, h.2 i p _ hi (List.getElem?_eq_getElem (by rw [← h.1]; exact hlt))⟩
theorem inL_bs {vs : List PV} {us : List Value} (h : RepS w fx bs vs us) {id : Nat} (hi : InL id (flat vs)) : ∃ b, bs id = some b := by
  obtain ⟨sz, off, len, cap, ex, hm⟩ := hi
  unfold flat at hm
  obtain ⟨x, hx, hc⟩ := List.mem_flatMap.1 hm
  obtain ⟨v, hv⟩ := mem_rep h hx
  have fin : ∀ {v}, Rep w fx bs (.ref id sz off len cap ex) v → ∃ b, bs id = some b := fun h => by
    cases h with | ref _ _ _ _ _ _ b off' c hb _ _ _ _ _ => exact ⟨b, hb⟩
  have other : (∀ cs, x ≠ .agg cs) → x.cells = [x] := fun h => by cases x <;> first | rfl | exact absurd rfl (h _)
  by_cases hag : ∃ cs, x = .agg cs
  · obtain ⟨cs, rfl⟩ := hag
    cases hv with | agg _ us' hl hr =>
    obtain ⟨u, hu⟩ := mem_rep (w := w) (fx := fx) (bs := bs) (ps := cs) (us := us'.toList) ⟨by simpa using hl, fun j c v hc hv => hr j c v hc (by simpa using hv)⟩ hc
    exact fin hu
  · rw [other (fun cs e => hag ⟨cs, e⟩)] at hc
    simp at hc
    subst hc
    exact fin hv
theorem callOp_ok {P : Program} {C : FuncId → List PV → Mem → Option (PV × Mem)} {sh : FuncId → Bool} (hC : COk P C) (hS : Sim base w0 fb fx bs M w) {f : FuncId} {vs : List PV} {us : Array Value} (hr : RepL w fx bs vs us) {p : PV} {M' : Mem}
    (h : callOp C sh f vs M = some (p, M')) : Ent P f ∧ Calls P f us w fun e w' => ∃ v fx' bs', e = .returned v ∧ Rep w' fx' bs' p v ∧ Fwd base w0 fb (fun _ => False) w fx bs M w' fx' bs' M' := by
  unfold callOp at h
  split at h
  · simp only [Option.bind_eq_some_iff] at h
    obtain ⟨q, hq, h⟩ := h
    split at h
    · simp at h; subst h
      exact ⟨hC.ent _ _ _ _ hq, hC.ok _ _ _ _ _ hq _ _ _ _ _ _ _ hS hr⟩
    · simp at h
  · simp only [Option.bind_eq_some_iff, Option.some.injEq, Prod.mk.injEq] at h
    obtain ⟨as, has, ⟨q, M2⟩, hq, x, hx, rfl, rfl⟩ := h
    refine ⟨hC.ent _ _ _ _ hq, ?_⟩
    have hH := hS.hold (flat vs)
    obtain ⟨h1, h2⟩ := frzL_ok hS (L := flat vs) (fun x hx => hx) has hr.s
    have hS' : Sim w.heap.size w (fxH fx bs M (flat vs)) (fxH fx bs M (flat vs)) (fun _ => none) mem0 w :=
      ⟨Below.refl _ _, Nat.le_refl _, hH.fxlt, fun b o h _ => h, fun id wr ty cs b _ hb => (by cases hb), fun i j b _ _ _ _ _ _ _ _ hb _ => (by cases hb), fun id _ => ⟨rfl, rfl⟩⟩
    refine (hC.ok _ _ _ _ _ hq _ _ _ _ _ _ us hS' ⟨by simpa using h1.1, fun j c v hc hv => (h1.2 j c v hc (by simpa using hv)).clo (cloL_all.1 h2 c (List.mem_of_getElem? hc)) _⟩).mono ?_
    rintro e w2 ⟨v, fx2, bs2, rfl, hv, hF⟩
    have hS2 := hF.sim
    have hres := frz_ok hS2 hx hv bs
    have hfx : ∀ b o, fx b o → fxH fx bs M (flat vs) b o := fun _ _ h => .inl h
    split
    · rename_i hsc
      exact ⟨v, fx, bs, rfl, scalar_rep hres hsc _ _ _, hS.join (fun _ _ h => h) (fun _ _ h _ => h) (fun b o h => Nat.lt_of_lt_of_le (hS.fxlt b o h) hS2.below.size) hS2.below (hF.ext.less hfx), hF.ext.less hfx, fun _ _ h => h, fun _ _ h => h, fun _ _ _ h => ⟨h, rfl⟩, Nat.le_refl _⟩
    · have hS3 := hS2.hold (resC q)
      refine ⟨v, fxH fx2 bs2 M2 (resC q), bs, rfl, hres, hH.join (fun b o h => .inl (hF.fxm b o h)) (fun b o h hb => hS3.fxb b o h hb) hS3.fxlt hS2.below hF.ext, hF.ext.less hfx, fun b o h => .inl (hF.fxm b o (.inl h)), fun _ _ h => h, fun id _ _ hn => ⟨hn, ?_⟩, by rw [hold_nx]; exact Nat.le_refl _⟩
      rcases hold_m (flat vs) M id with ⟨hin, _⟩ | ⟨_, hm⟩
      · obtain ⟨b, hb⟩ := inL_bs hr.s hin
        rw [hn] at hb; cases hb
      · exact hm
end
end Go.Pi

set_option linter.unusedVariables false
set_option linter.unusedSimpArgs false
namespace Go.Pi
open Go.RowKit
section
variable {P : Program} {base : Nat} {w0 : World} {fb fx : Fx} {bs : Bs} {M : Mem} {w : World} {r : Nat → PV} {a : Act}

theorem Fwd.own (hS : Sim base w0 fb fx bs M w) {cells : Array Value} {ty : TypeId} {cs : List PV} (hrl : cs.length ≤ cells.size) (hr : ∀ (j : Nat) c v, cs[j]? = some c → cells[j]? = some v → Rep w fx bs c v) {k nx : Nat} (hk : bs k = none) (hn : M.nx ≤ nx) (hkn : k < nx) :
    Fwd base w0 fb (fun i => i = k) w fx bs M (w.alloc (.cells cells ty)) fx (upd bs k (some w.heap.size)) ⟨upd M.m k (.live true ty cs), nx⟩ :=
  ⟨hS.own hrl hr hk hn hkn, Ext.alloc hS.fxlt _, fun _ _ h => h, bs_upd hk _, fun id _ h1 h2 => ⟨by simp only [upd, if_neg h1]; exact h2, by simp only [upd, if_neg h1]⟩, hn⟩
theorem Fwd.fixed {ne : Nat → Prop} (hS : Sim base w0 fb fx bs M w) (cells : Array Value) (ty : TypeId) :
    Fwd base w0 fb ne w fx bs M (w.alloc (.cells cells ty)) (fun b o => fx b o ∨ b = w.heap.size) bs M :=
  ⟨hS.fixed cells ty, Ext.alloc hS.fxlt _, fun _ _ h => .inl h, fun _ _ h => h, fun _ _ _ h => ⟨h, rfl⟩, Nat.le_refl _⟩
theorem Fwd.drew {ne : Nat → Prop} (hS : Sim base w0 fb fx bs M w) : Fwd base w0 fb ne w fx bs M w.drew fx bs M :=
  ⟨hS.drew, Ext.drew, fun _ _ h => h, fun _ _ h => h, fun _ _ _ h => ⟨h, rfl⟩, Nat.le_refl _⟩
theorem Fwd.write {ne : Nat → Prop} (hS : Sim base w0 fb fx bs M w) {id : Nat} {ty : TypeId} {cs : List PV} {b : Nat} (hl : M.m id = .live true ty cs) (hb : bs id = some b) {cells : Array Value} (hc : w.heap[b]? = some (.cells cells ty (0, 0)))
    {off : Nat} {ps : List PV} {us : List Value} (hr : RepS w fx bs ps us) (hfit : off + ps.length ≤ cs.length) {m' : Nat → Blk} (hm : ∀ i, m' i = upd M.m id (.live true ty (setC cs off ps)) i) {nx : Nat} (hnx : nx = M.nx) :
    Fwd base w0 fb ne w fx bs M (w.setRow b (cells.toList.take off ++ us ++ cells.toList.drop (off + us.length)).toArray) fx bs ⟨m', nx⟩ := by
  obtain ⟨w', rfl, h1, h2⟩ := hS.write hl hb hc hr hfit hm hnx
  refine ⟨h1, h2, fun _ _ h => h, fun _ _ h => h, fun i _ _ hn => ⟨hn, ?_⟩, by simp [hnx]⟩
  show m' i = M.m i
  rw [hm]
  simp only [upd]
  rw [if_neg (fun e => by subst e; rw [hb] at hn; cases hn)]
theorem one_cells {ps : List PV} {us : List Value} (h : RepS w fx bs ps us) (h1 : ∀ c, c ∈ ps → c.cell1 = true) : ∀ v, v ∈ us → v.oneCell' = true := fun v hv => by
  obtain ⟨i, hi⟩ := List.getElem?_of_mem hv
  have hlt : i < us.length := (List.getElem?_eq_some_iff.1 hi).1
  have hp : ps[i]? = some (ps[i]'(by rw [h.1]; exact hlt)) := List.getElem?_eq_getElem (by rw [h.1]; exact hlt)
  exact cell1_one (h.2 i _ v hp hi) (h1 _ (List.mem_of_getElem? hp))

/-! ### Variables -/
theorem alloc_ok {e : TypeId} {T : Ti} (hT : ti P e = some T) : ∃ cells : Array Value, (Instr.alloc e true (.tuple #[])).run P w = .ok (.pointer (some ⟨w.heap.size, 0, none⟩)) (w.alloc (.cells cells e)) ∧ RepS w fx bs (T.zero.map PV.nrm) cells.toList := by
  obtain ⟨i, d, z, hi, _, hz, hzc, _⟩ := ti_spec hT
  refine ⟨z.cells, ?_, (cstL_ok hzc).nrm⟩
  simp [Instr.alloc, run_zero' hi hz, newVar, newRow, newObj]
  rfl
theorem box_ok {e : TypeId} {T : Ti} (hT : ti P e = some T) {p : PV} {v : Value} (hr : Rep w fx bs p v) (hl : p.cells.length = T.size) (h1 : p.cells.all PV.cell1 = true) :
    ∃ cells : Array Value, (Instr.box e v).run P w = .ok (.pointer (some ⟨w.heap.size, 0, none⟩)) (w.alloc (.cells cells e)) ∧ RepS w fx bs (p.cells.map PV.nrm) cells.toList := by
  obtain ⟨i, hi, hs, _⟩ := info_of hT
  have hc := cells_rep hr h1
  refine ⟨v.cells, ?_, hc.nrm⟩
  have : v.cells.size = i.size := by rw [hs, ← hl, hc.1]; simp
  simp [Instr.box, run_sizeOf' hi, this, newVar, newRow, newObj]
  rfl
theorem store_ok (hS : Sim base w0 fb fx bs M w) {t : TypeId} {T : Ti} (hT : ti P t = some T) {x y : PV} {u v : Value} (hx : Rep w fx bs x u) (hy : Rep w fx bs y v) {M' : Mem} (h : store T M x y = some M') :
    ∃ w', (Instr.storeAt t u v).run P w = .ok () w' ∧ Fwd base w0 fb (fun _ => False) w fx bs M w' fx bs M' := by
  unfold store at h
  split at h
  · rename_i id off
    split at h
    · rename_i ty cs hl
      split at h
      · rename_i hcond
        obtain ⟨h1, h2, h3⟩ := hcond
        simp at h; subst h
        cases hx with | ptr _ _ b hb =>
        obtain ⟨_, cells, hh, hsz, _⟩ := hS.live id true ty cs b hl hb
        have hc := cells_rep hy h3
        obtain ⟨i, hi, hs, _⟩ := info_of hT
        have hvs : v.cells.size = i.size := by rw [hs, ← h1, hc.1]; simp
        have hus : v.cells.toList.length = y.cells.length := hc.1.symm
        have hst := run_storeCells_at P b off ty v.cells.toList 0 cells w hh (by omega) (one_cells hc (fun c hc => by rw [List.all_eq_true] at h3; exact h3 c hc))
        refine ⟨_, ?_, Fwd.write hS hl hb hh hc.nrm (by simp; omega) (m' := _) (fun i => rfl) (off := off) rfl⟩
        simp only [Instr.storeAt, Instr.sureAddr, storeVar, Sem.run_bind, Sem.run_pure, Result.andThen_ok, run_sizeOf' hi, hvs]
        simpa using hst
      · simp at h
    · simp at h
  · simp at h

/-! ### Rows -/
theorem first_sl {ex : Bool} {xs : List PV} {A : Option Addr} {n c size : Nat} (hr : Rep w fx bs (.sl ex xs) (.slice A n c)) (hu : ∀ x, x ∈ xs → x.cells.length = size) :
    ∃ l : List Value, (∀ w' : World, w'.heap = w.heap → (Builtin.firstCells size n (.slice A n c)).run P w' = .ok l.toArray w') ∧ RepS w fx bs (flat xs) l := by
  cases hr with | sl _ _ _ _ _ sz vs hn hc he hcl hu' hm hr =>
  subst hn
  have hlen := flat_length hu
  have hrep : RepS w fx bs (flat xs) ((List.range (flat xs).length).map vs) := ⟨by simp, fun j x v hx hv => by
    have hj := (List.getElem?_eq_some_iff.1 hx).1
    rw [List.getElem?_map, List.getElem?_range hj] at hv
    simp at hv; subst hv
    exact hr j x hx⟩
  refine ⟨_, fun w' hw => ?_, hrep⟩
  have hcell : ∀ ad, w'.cell? ad = w.cell? ad := fun ad => by unfold World.cell?; rw [hw]
  by_cases h0 : (flat xs).length = 0
  · have hz : xs.length * size = 0 := by omega
    rw [h0]
    cases A with
    | none => simp [Builtin.firstCells]
    | some ad =>
      have := run_firstCells_some (P := P) w' size xs.length ad xs.length c [] (by simp [hz]) (by simp)
      simpa using this
  · obtain ⟨ad, rfl, hs, _, _⟩ := hm 0 (flat xs)[0] (List.getElem?_eq_getElem (by omega))
    refine run_firstCells_some w' size xs.length ad xs.length c _ (by simpa using hlen) fun j v hv => ?_
    have hk : j < (flat xs).length := by simpa using (List.getElem?_eq_some_iff.1 hv).1
    rw [List.getElem?_map, List.getElem?_range hk] at hv
    simp at hv; subst hv
    obtain ⟨ad', h1, _, _, h4⟩ := hm j _ (List.getElem?_eq_getElem hk)
    simp at h1; subst h1
    rw [hcell, add_none _ hs]
    exact h4
theorem first_ref (hS : Sim base w0 fb fx bs M w) {id sz off len cap : Nat} {ex : Bool} {A : Option Addr} {n c : Nat} (hr : Rep w fx bs (.ref id sz off len cap ex) (.slice A n c)) {wr : Bool} {ty : TypeId} {cs : List PV} (hl : M.m id = .live wr ty cs) (hfit : off + len * sz ≤ cs.length) :
    ∃ l : List Value, (∀ w' : World, w'.heap = w.heap → (Builtin.firstCells sz n (.slice A n c)).run P w' = .ok l.toArray w') ∧ RepS w fx bs ((cs.drop off).take (len * sz)) l := by
  cases hr with | ref _ _ _ _ _ _ b off' _ hb hlc hc he ho hr =>
  obtain ⟨_, cells, hh, hsz, hrep, _⟩ := hS.live id wr ty cs b hl hb
  have hlen : ((cs.drop off).take (len * sz)).length = len * sz := by rw [List.length_take, List.length_drop]; omega
  have hrs : RepS w fx bs ((cs.drop off).take (len * sz)) ((cells.toList.drop off).take (len * sz)) := by
    refine ⟨by rw [hlen, List.length_take, List.length_drop, Array.length_toList]; omega, fun j x v hx hv => ?_⟩
    rw [List.getElem?_take] at hx hv
    split at hx
    · rename_i hj
      rw [if_pos hj] at hv
      rw [List.getElem?_drop] at hx hv
      exact hrep _ x v hx (by simpa using hv)
    · simp at hx
  refine ⟨_, fun w' hw => ?_, hrs⟩
  have hcell : ∀ ad, w'.cell? ad = w.cell? ad := fun ad => by unfold World.cell?; rw [hw]
  refine run_firstCells_some w' sz len _ len c _ (by rw [← hrs.1, hlen]) fun j v hv => ?_
  have hj : j < len * sz := by
    have := (List.getElem?_eq_some_iff.1 hv).1
    rw [← hrs.1, hlen] at this; exact this
  have hl0 : 0 < len := by
    rcases Nat.eq_zero_or_pos len with h0 | h0
    · subst h0; simp at hj
    · exact h0
  rw [List.getElem?_take, if_pos hj, List.getElem?_drop] at hv
  rw [hcell, add_none _ rfl, ho (by omega), cell_of_block hh]
  simpa using hv
theorem items_ok (hS : Sim base w0 fb fx bs M w) {y : PV} {ys : List PV} {size : Nat} (h : items M y = some ys) (hu : ∀ x, x ∈ ys → x.cells.length = size) (hne : ys ≠ []) {v : Value} (hr : Rep w fx bs y v) :
    ∃ A c l, v = .slice A ys.length c ∧ (∀ w' : World, w'.heap = w.heap → (Builtin.firstCells size ys.length v).run P w' = .ok l.toArray w') ∧ RepS w fx bs (flat ys) l := by
  unfold items at h
  split at h
  · simp at h; subst h
    cases hr with | sl _ _ A n c sz vs hn hc he hcl hu' hm hr =>
    subst hn
    obtain ⟨l, h1, h2⟩ := first_sl (P := P) (Rep.sl _ _ A _ c sz vs rfl hc he hcl hu' hm hr) hu
    exact ⟨A, c, l, rfl, h1, h2⟩
  · rename_i id sz off len cap ex
    split at h
    · rename_i wr ty cs hl
      split at h
      · rename_i hg
        simp at h; subst h
        have hG := gd_spec hg
        have hs : sz = size := by
          obtain ⟨x, hx⟩ := List.exists_mem_of_ne_nil _ hne
          rw [← hG.uni x hx, hu x hx]
        subst hs
        have hr' := hr
        cases hr with | ref _ _ _ _ _ _ b off' c hb hlc hc he ho hr =>
        obtain ⟨l, h1, h2⟩ := first_ref (P := P) hS hr' hl hG.fit
        rw [← hG.flat] at h2
        exact ⟨_, c, l, by rw [hG.num], by rw [hG.num]; exact h1, h2⟩
      · simp at h
    · simp at h
  · simp at h

theorem run_app_grow {ts : Array TypeId} {t u ty e e' : TypeId} {i : TypeInfo} {z : Value} (h0 : ts[0]? = some t) (h1 : ts[1]? = some u) (ht : P.underlying t = some (.slice e)) (hu : P.underlying u = some (.slice e')) (hi : P.info? e = some i) (hz : i.zero = some z)
    {A B : Option Addr} {sLen sCap n c : Nat} {olds news : List Value} (hfo : ∀ w' : World, w'.heap = w.heap → (Builtin.firstCells i.size sLen (.slice A sLen sCap)).run P w' = .ok olds.toArray w')
    (hfn : ∀ w' : World, w'.heap = w.heap → (Builtin.firstCells i.size n (.slice B n c)).run P w' = .ok news.toArray w')
    (hg : sCap < sLen + n) (h63 : ((sLen + n : Nat) : Int) ≤ 9223372036854775807) (hfit : Builtin.nextslicecap (sLen + n) sCap * i.bytes ≤ 281474976710656) :
    (Builtin.append_ ts ty #[.slice A sLen sCap, .slice B n c]).run P w =
      .ok (.slice (some ⟨w.heap.size, 0, none⟩) (sLen + n) (grownCap w (sLen + n) sCap e))
        (w.drew.alloc (.cells (olds.toArray ++ news.toArray ++ Builtin.zeroCells z.cells (grownCap w (sLen + n) sCap e - (sLen + n))) e)) := by
  have hn : ¬ (sLen + n ≤ sCap) := by omega
  have h63' : ¬ (9223372036854775807 < ((sLen : Int) + (n : Int))) := by omega
  have h48' : ¬ (281474976710656 < Builtin.nextslicecap (sLen + n) sCap * i.bytes) := by omega
  have hf := hfn w.drew rfl
  have hfo := hfo w.drew rfl
  simp [Builtin.append_, h0, h1, run_underlying ht, run_underlying hu, sizeOf, typeInfo, zeroValue, hi, hz, Builtin.lenOf, hn, h63', h48', Question.forced, hf, hfo, newRow, grownCap]
  congr 2
  apply Array.ext'
  simp [List.append_assoc]
theorem run_app_room {ts : Array TypeId} {t u ty e e' : TypeId} {i : TypeInfo} (h0 : ts[0]? = some t) (h1 : ts[1]? = some u) (ht : P.underlying t = some (.slice e)) (hu : P.underlying u = some (.slice e')) (hi : P.info? e = some i)
    {B : Option Addr} {b off sLen sCap n c : Nat} {news : List Value} {cur : Array Value} {bt : TypeId} (hb : w.heap[b]? = some (.cells cur bt (0, 0)))
    (hfn : ∀ w' : World, w'.heap = w.heap → (Builtin.firstCells i.size n (.slice B n c)).run P w' = .ok news.toArray w') (h1c : ∀ v ∈ news, v.oneCell' = true)
    (hg : sLen + n ≤ sCap) (hfit : off + sLen * i.size + news.length ≤ cur.size) :
    (Builtin.append_ ts ty #[.slice (some ⟨b, off, none⟩) sLen sCap, .slice B n c]).run P w =
      .ok (.slice (some ⟨b, off, none⟩) (sLen + n) sCap) (w.setRow b (cur.toList.take (off + sLen * i.size) ++ news ++ cur.toList.drop (off + sLen * i.size + news.length)).toArray) := by
  have hf := hfn w rfl
  have hst := run_storeCells_at P b (off + sLen * i.size) bt news 0 cur w hb (by simpa using hfit) h1c
  have hadd : (⟨b, off, none⟩ : Addr).add (sLen * i.size) = ⟨b, off + sLen * i.size, none⟩ := add_none _ rfl _
  have hst' : (storeCells ⟨b, off + sLen * i.size, none⟩ news).run P w = .ok () (w.setRow b (cur.toList.take (off + sLen * i.size) ++ news ++ cur.toList.drop (off + sLen * i.size + news.length)).toArray) := by simpa using hst
  simp [Builtin.append_, h0, h1, run_underlying ht, run_underlying hu, sizeOf, typeInfo, hi, Builtin.lenOf, hg, hf, hadd, hst']
theorem wrap_i64_id {n : Int} (h0 : 0 ≤ n) (h1 : n ≤ 9223372036854775807) : IntKind.i64.wrap n = n := by
  unfold IntKind.wrap
  simp [IntKind.bits, IntKind.signed]
  split <;> omega
theorem run_make_grow {ts : Array TypeId} {t u ty e : TypeId} {K : IntKind} {i : TypeInfo} {z : Value} (h0 : ts[0]? = some t) (h1 : ts[1]? = some u) (ht : P.underlying t = some (.slice e)) (hu : P.underlying u = some (.int K)) (hi : P.info? e = some i) (hz : i.zero = some z)
    {A : Option Addr} {sLen sCap : Nat} {m : Int} {olds : List Value} (hfo : ∀ w' : World, w'.heap = w.heap → (Builtin.firstCells i.size sLen (.slice A sLen sCap)).run P w' = .ok olds.toArray w')
    (hm0 : 0 ≤ m) (hm1 : m ≤ 9223372036854775807) (hm2 : m * i.bytes ≤ 281474976710656) (hsz : 0 < i.size)
    (hg : sCap < sLen + m.toNat) (hp : 0 < m.toNat) (h63 : ((sLen + m.toNat : Nat) : Int) ≤ 9223372036854775807) (hfit : Builtin.nextslicecap (sLen + m.toNat) sCap * i.bytes ≤ 281474976710656) :
    (Builtin.append_ ts ty #[.slice A sLen sCap, .int .i64 m]).run P w =
      .ok (.slice (some ⟨w.heap.size, 0, none⟩) (sLen + m.toNat) (grownCap w (sLen + m.toNat) sCap e))
        (w.drew.alloc (.cells (olds.toArray ++ Builtin.zeroCells z.cells m.toNat ++ Builtin.zeroCells z.cells (grownCap w (sLen + m.toNat) sCap e - (sLen + m.toNat))) e)) := by
  have hn : ¬ (sLen + m.toNat ≤ sCap) := by omega
  have h63' : ¬ (9223372036854775807 < ((sLen : Int) + (m.toNat : Int))) := by omega
  have h48' : ¬ (281474976710656 < Builtin.nextslicecap (sLen + m.toNat) sCap * i.bytes) := by omega
  have hl : ¬ (m < 0) := by omega
  have hl2 : ¬ (281474976710656 < m * (i.bytes : Int)) := by omega
  have hfo := hfo w.drew rfl
  have hmz : ¬ (m.toNat * i.size = 0) := by
    have := Nat.mul_pos hp hsz
    omega
  have hw := wrap_i64_id hm0 hm1
  have hmz' : ¬ (m ≤ 0) := by omega
  have hsz' : ¬ (i.size = 0) := by omega
  have h63b : ¬ (9223372036854775807 < (sLen : Int) + max m 0) := by omega
  simp [Builtin.append_, asInt, asIntOf, h0, h1, run_underlying ht, run_underlying hu, sizeOf, typeInfo, zeroValue, hi, hz, hw, hl, hl2, hn, h63', h48', Question.forced, hmz, hmz', hsz', hfo, h63b, newRow, grownCap]
  try rfl
theorem run_make_room {ts : Array TypeId} {t u ty e : TypeId} {K : IntKind} {i : TypeInfo} {z : Value} (h0 : ts[0]? = some t) (h1 : ts[1]? = some u) (ht : P.underlying t = some (.slice e)) (hu : P.underlying u = some (.int K)) (hi : P.info? e = some i) (hz : i.zero = some z)
    {b off sLen sCap : Nat} {m : Int} {cur : Array Value} {bt : TypeId} (hb : w.heap[b]? = some (.cells cur bt (0, 0)))
    (hm0 : 0 ≤ m) (hm1 : m ≤ 9223372036854775807) (hm2 : m * i.bytes ≤ 281474976710656) (hsz : 0 < i.size) (hp : 0 < m.toNat) (h1c : ∀ v ∈ (Builtin.zeroCells z.cells m.toNat).toList, v.oneCell' = true)
    (hg : sLen + m.toNat ≤ sCap) (hfit : off + sLen * i.size + (Builtin.zeroCells z.cells m.toNat).size ≤ cur.size) :
    (Builtin.append_ ts ty #[.slice (some ⟨b, off, none⟩) sLen sCap, .int .i64 m]).run P w =
      .ok (.slice (some ⟨b, off, none⟩) (sLen + m.toNat) sCap) (w.setRow b (cur.toList.take (off + sLen * i.size) ++ (Builtin.zeroCells z.cells m.toNat).toList ++ cur.toList.drop (off + sLen * i.size + (Builtin.zeroCells z.cells m.toNat).toList.length)).toArray) := by
  have hst := run_storeCells_at P b (off + sLen * i.size) bt (Builtin.zeroCells z.cells m.toNat).toList 0 cur w hb (by simpa using hfit) h1c
  have hadd : (⟨b, off, none⟩ : Addr).add (sLen * i.size) = ⟨b, off + sLen * i.size, none⟩ := add_none _ rfl _
  have hst' : (storeCells ⟨b, off + sLen * i.size, none⟩ (Builtin.zeroCells z.cells m.toNat).toList).run P w = .ok () (w.setRow b (cur.toList.take (off + sLen * i.size) ++ (Builtin.zeroCells z.cells m.toNat).toList ++ cur.toList.drop (off + sLen * i.size + (Builtin.zeroCells z.cells m.toNat).toList.length)).toArray) := by simpa using hst
  have hl : ¬ (m < 0) := by omega
  have hl2 : ¬ (281474976710656 < m * (i.bytes : Int)) := by omega
  have hw := wrap_i64_id hm0 hm1
  have hmz : ¬ (m.toNat * i.size = 0) := by
    have := Nat.mul_pos hp hsz
    omega
  have hmz' : ¬ (m ≤ 0) := by omega
  have hsz' : ¬ (i.size = 0) := by omega
  simp [Builtin.append_, asInt, asIntOf, h0, h1, run_underlying ht, run_underlying hu, sizeOf, typeInfo, zeroValue, hi, hz, hw, hl, hl2, hg, hmz, hmz', hsz', hadd, hst']
theorem run_app_none {ts : Array TypeId} {t u ty e e' : TypeId} {i : TypeInfo} (h0 : ts[0]? = some t) (h1 : ts[1]? = some u) (ht : P.underlying t = some (.slice e)) (hu : P.underlying u = some (.slice e')) (hi : P.info? e = some i)
    {A B : Option Addr} {sLen sCap c : Nat} (hg : sLen ≤ sCap) : (Builtin.append_ ts ty #[.slice A sLen sCap, .slice B 0 c]).run P w = .ok (.slice A sLen sCap) w := by
  have hf : (Builtin.firstCells i.size 0 (.slice B 0 c)).run P w = .ok #[] w := by
    cases B with
    | none => simp [Builtin.firstCells]
    | some ad => simpa using run_firstCells_some (P := P) w i.size 0 ad 0 c [] (by simp) (by simp)
  cases A <;> simp [Builtin.append_, h0, h1, run_underlying ht, run_underlying hu, sizeOf, typeInfo, hi, Builtin.lenOf, hg, hf, storeCells]
theorem run_make_none {ts : Array TypeId} {t u ty e : TypeId} {K : IntKind} {i : TypeInfo} (h0 : ts[0]? = some t) (h1 : ts[1]? = some u) (ht : P.underlying t = some (.slice e)) (hu : P.underlying u = some (.int K)) (hi : P.info? e = some i)
    {A : Option Addr} {sLen sCap : Nat} (hg : sLen ≤ sCap) : (Builtin.append_ ts ty #[.slice A sLen sCap, .int .i64 0]).run P w = .ok (.slice A sLen sCap) w := by
  have hw := wrap_i64_id (n := 0) (by omega) (by omega)
  cases A <;> simp [Builtin.append_, asInt, asIntOf, h0, h1, run_underlying ht, run_underlying hu, sizeOf, typeInfo, hi, hw, hg, storeCells]

/-- What 'append' does with what is spread. -/
structure Spread (P : Program) (w : World) (ts : Array TypeId) (e : TypeId) (i : TypeInfo) (z : Value) (v : Value) (n : Nat) (news : List Value) : Prop where
  grow : ∀ (ty : TypeId) (A : Option Addr) (sLen sCap : Nat) (olds : List Value), (∀ w' : World, w'.heap = w.heap → (Builtin.firstCells i.size sLen (.slice A sLen sCap)).run P w' = .ok olds.toArray w') →
    sCap < sLen + n → ((sLen + n : Nat) : Int) ≤ 9223372036854775807 → Builtin.nextslicecap (sLen + n) sCap * i.bytes ≤ 281474976710656 →
    (Builtin.append_ ts ty #[.slice A sLen sCap, v]).run P w = .ok (.slice (some ⟨w.heap.size, 0, none⟩) (sLen + n) (grownCap w (sLen + n) sCap e))
        (w.drew.alloc (.cells (olds.toArray ++ news.toArray ++ Builtin.zeroCells z.cells (grownCap w (sLen + n) sCap e - (sLen + n))) e))
  room : ∀ (ty : TypeId) (b off sLen sCap : Nat) (cur : Array Value) (bt : TypeId), w.heap[b]? = some (.cells cur bt (0, 0)) → sLen + n ≤ sCap → off + sLen * i.size + news.length ≤ cur.size → (∀ v ∈ news, v.oneCell' = true) →
    (Builtin.append_ ts ty #[.slice (some ⟨b, off, none⟩) sLen sCap, v]).run P w = .ok (.slice (some ⟨b, off, none⟩) (sLen + n) sCap) (w.setRow b (cur.toList.take (off + sLen * i.size) ++ news ++ cur.toList.drop (off + sLen * i.size + news.length)).toArray)
theorem cst_cells {v : Value} {p : PV} (h : cst v = some p) : p.nrm.cells = [p.nrm] := by
  unfold cst at h
  split at h <;> simp at h <;> subst h <;> rfl
theorem cstL_cells : ∀ {l : List Value} {ps : List PV}, cstL l = some ps → ∀ p, p ∈ ps → p.nrm.cells = [p.nrm]
  | [], ps, h => by simp [cstL] at h; subst h; simp
  | x :: xs, ps, h => by
    simp only [cstL, Option.bind_eq_some_iff, Option.map_eq_some_iff] at h
    obtain ⟨y, hy, ys, hys, rfl⟩ := h
    intro p hp
    rcases List.mem_cons.1 hp with rfl | hp
    · exact cst_cells hy
    · exact cstL_cells hys p hp
theorem mkEl_cells {sz : Nat} {cs : List PV} (h : ∀ p, p ∈ cs → p.cells = [p]) : (mkEl sz cs).cells = cs := by
  unfold mkEl
  split
  · exact h _ (by simp)
  · rfl
theorem flat_replicate {x : PV} : ∀ n, flat (List.replicate n x) = zeros x.cells n
  | 0 => rfl
  | n + 1 => by
    have := flat_replicate (x := x) n
    unfold flat at *
    rw [List.replicate_succ, List.flatMap_cons, this, zeros]
theorem spread_ok (hS : Sim base w0 fb fx bs M w) {ts : Array TypeId} {t u e : TypeId} {T te : Ti} {i : TypeInfo} {z : Value} (h0 : ts[0]? = some t) (h1 : ts[1]? = some u) (hT : ti P t = some T) (hTs : T.sh = .slice e) (he : ti P e = some te) (hi : P.info? e = some i) (hz : i.zero = some z)
    {y : PV} {ys : List PV} (h : news te M (ti P u) y = some ys) {v : Value} (hr : Rep w fx bs y v) (hu : ∀ x, x ∈ ys → x.cells.length = te.size) (hne : ys ≠ []) (hsz : 0 < te.size) :
    ∃ nl, RepS w fx bs (flat ys) nl ∧ Spread P w ts e i z v ys.length nl := by
  obtain ⟨i', d, z', hi', _, hz', hzc, _, hsize, hby⟩ := ti_spec he
  rw [hi] at hi'
  simp at hi'; subst hi'
  rw [hz] at hz'
  simp at hz'; subst hz'
  have ht := slice_ty hT hTs
  unfold news at h
  split at h
  · rename_i e' _ _ _ hU
    have hu' := slice_ty hU rfl
    obtain ⟨B, c, l, rfl, hf, hrep⟩ := items_ok (P := P) hS h hu hne hr
    rw [hsize] at hf
    exact ⟨l, hrep, fun ty A sLen sCap olds hfo hg h63 hfit => run_app_grow h0 h1 ht hu' hi hz hfo hf hg h63 hfit, fun ty b off sLen sCap cur bt hb hg hfit h1c => run_app_room h0 h1 ht hu' hi hb hf h1c hg hfit⟩
  · rename_i K _ _ _ m hU
    obtain ⟨_, d, _, _, hd, _, _, hsh, _, _⟩ := ti_spec hU
    have := shOf_int (P := P) (d := d) hsh.symm
    subst this
    rw [rep_int hr]
    split at h
    · rename_i hm
      obtain ⟨hm0, hm1, hm2⟩ := hm
      simp at h; subst h
      have hp : 0 < m.toNat := by
        rcases Nat.eq_zero_or_pos m.toNat with e | e
        · rw [e] at hne; simp at hne
        · exact e
      have hcells : (mkEl te.size (te.zero.map PV.nrm)).cells = te.zero.map PV.nrm := mkEl_cells fun p hp => by
        obtain ⟨q, hq, rfl⟩ := List.mem_map.1 hp
        exact cstL_cells hzc q hq
      have hrep : RepS w fx bs (flat (List.replicate m.toNat (mkEl te.size (te.zero.map PV.nrm)))) (Builtin.zeroCells z.cells m.toNat).toList := by
        rw [flat_replicate, hcells, Builtin.zeroCells, range_zeros]
        exact zeros_rep (cstL_ok hzc).nrm _
      rw [hby] at hm2
      rw [hsize] at hsz
      refine ⟨_, hrep, fun ty A sLen sCap olds hfo hg h63 hfit => ?_, fun ty b off sLen sCap cur bt hb hg hfit h1c => ?_⟩
      · rw [List.length_replicate] at *
        have := run_make_grow (ty := ty) h0 h1 ht hd hi hz hfo hm0 hm1 hm2 hsz hg hp h63 hfit
        simpa using this
      · rw [List.length_replicate] at *
        exact run_make_room h0 h1 ht hd hi hz hb hm0 hm1 hm2 hsz hp h1c hg (by simpa using hfit)
    · simp at h
  · simp at h
theorem Sim.kill (hS : Sim base w0 fb fx bs M w) (id nx : Nat) (hn : M.nx ≤ nx) : Sim base w0 fb fx bs ⟨upd M.m id .dead, nx⟩ w := by
  have old : ∀ i wi ti ci, upd M.m id .dead i = .live wi ti ci → M.m i = .live wi ti ci := fun i wi ti ci h => by
    simp only [upd] at h
    split at h
    · cases h
    · exact h
  refine ⟨hS.below, hS.bb, hS.fxlt, hS.fxb, fun i wr ty cs b hi hb => hS.live i wr ty cs b (old _ _ _ _ hi) hb, fun i j b wi ti ci wj tj cj hi hj => hS.inj i j b _ _ _ _ _ _ (old _ _ _ _ hi) (old _ _ _ _ hj), fun i hi => ?_⟩
  have hi : nx ≤ i := hi
  obtain ⟨h1, h2⟩ := hS.nxt i (by omega)
  refine ⟨?_, h2⟩
  simp only [upd]
  split
  · rfl
  · exact h1
theorem Fwd.kill {ne : Nat → Prop} (hS : Sim base w0 fb fx bs M w) {id b : Nat} (hb : bs id = some b) : Fwd base w0 fb ne w fx bs M w fx bs ⟨upd M.m id .dead, M.nx⟩ :=
  ⟨hS.kill id M.nx (Nat.le_refl _), .refl _ _, fun _ _ h => h, fun _ _ h => h, fun i _ _ hn => ⟨hn, by simp only [upd]; rw [if_neg (fun e => by subst e; rw [hb] at hn; cases hn)]⟩, Nat.le_refl _⟩
theorem Sim.more (hS : Sim base w0 fb fx bs M w) {nx : Nat} (hn : M.nx ≤ nx) : Sim base w0 fb fx bs ⟨M.m, nx⟩ w :=
  ⟨hS.below, hS.bb, hS.fxlt, hS.fxb, hS.live, hS.inj, fun i hi => hS.nxt i (by have : nx ≤ i := hi; omega)⟩
theorem Fwd.more {ne : Nat → Prop} (hS : Sim base w0 fb fx bs M w) {nx : Nat} (hn : M.nx ≤ nx) : Fwd base w0 fb ne w fx bs M w fx bs ⟨M.m, nx⟩ :=
  ⟨hS.more hn, .refl _ _, fun _ _ h => h, fun _ _ h => h, fun i _ _ hn => ⟨hn, rfl⟩, hn⟩
theorem room_fits {need old bytes : Nat} (h : old < need) (hr : room need bytes) (hb : 0 < bytes) : Builtin.nextslicecap need old * bytes ≤ 281474976710656 ∧ (need : Int) ≤ 9223372036854775807 := by
  unfold room at hr
  have h1 : Builtin.nextslicecap need old * bytes ≤ (2 * need + 192) * bytes := Nat.mul_le_mul_right _ (by have := nextslicecap_le h; omega)
  have h2 : (2 * need + 192) * 1 ≤ (2 * need + 192) * bytes := Nat.mul_le_mul_left _ hb
  omega
theorem zero_size {e : TypeId} {te : Ti} {i : TypeInfo} {z : Value} (he : ti P e = some te) (hi : P.info? e = some i) (hz : i.zero = some z) (h : te.zero.length = te.size) : z.cells.size = te.size ∧ i.size = te.size ∧ i.bytes = te.bytes := by
  obtain ⟨i', d, z', hi', _, hz', hzc, _, hsize, hby⟩ := ti_spec he
  rw [hi] at hi'
  simp at hi'; subst hi'
  rw [hz] at hz'
  simp at hz'; subst hz'
  have := (cstL_ok (w := default) (fx := fun _ _ => False) (bs := fun _ => none) hzc).1
  exact ⟨by rw [← h, this]; simp, hsize.symm, hby.symm⟩
/-- 'append' to what is full. -/
theorem grown_ok (hS : Sim base w0 fb fx bs M w) {ts : Array TypeId} {ty e : TypeId} {te : Ti} {i : TypeInfo} {z v : Value} {n : Nat} {nl : List Value} (hsp : Spread P w ts e i z v n nl) (he : ti P e = some te) (hi : P.info? e = some i) (hz : i.zero = some z) (hzl : te.zero.length = te.size)
    {A : Option Addr} {sLen sCap : Nat} {olds : List Value} (hfo : ∀ w' : World, w'.heap = w.heap → (Builtin.firstCells te.size sLen (.slice A sLen sCap)).run P w' = .ok olds.toArray w')
    {cs ns : List PV} (hro : RepS w fx bs cs olds) (hrn : RepS w fx bs ns nl) (hlc : cs.length = sLen * te.size) (hln : ns.length = n * te.size) (hg : sCap < sLen + n) (hr : room (sLen + n) te.bytes) (hb : 0 < te.bytes)
    {k nx : Nat} (hk : bs k = none) (hn : M.nx ≤ nx) (hkn : k < nx) :
    ∃ v' w' bs', (Builtin.append_ ts ty #[.slice A sLen sCap, v]).run P w = .ok v' w' ∧ Rep w' fx bs' (.ref k te.size 0 (sLen + n) (sLen + n) false) v' ∧
      Fwd base w0 fb (fun i => i = k) w fx bs M w' fx bs' ⟨upd M.m k (.live true e (cs ++ ns)), nx⟩ := by
  obtain ⟨h1, h2, h3⟩ := zero_size he hi hz hzl
  obtain ⟨hf1, hf2⟩ := room_fits hg hr hb
  have hrun := hsp.grow ty A sLen sCap olds (by rw [h2]; exact hfo) hg hf2 (by rw [h3]; exact hf1)
  have hge := grownCap_ge w (sLen + n) sCap e
  generalize grownCap w (sLen + n) sCap e = g at hrun hge
  have hsz : (olds.toArray ++ nl.toArray ++ Builtin.zeroCells z.cells (g - (sLen + n))).size = g * te.size := by
    simp only [Array.size_append, List.size_toArray, size_zeroCells, h1, ← hro.1, ← hrn.1, hlc, hln]
    rw [← Nat.add_mul, ← Nat.add_mul]
    congr 1
    omega
  have hlen : (cs ++ ns).length = (sLen + n) * te.size := by rw [List.length_append, hlc, hln, Nat.add_mul]
  have hle : (sLen + n) * te.size ≤ g * te.size := Nat.mul_le_mul_right _ hge
  have hE : Ext w w.drew fx := Ext.drew
  have hFo := Fwd.own (hS.drew) (cells := olds.toArray ++ nl.toArray ++ Builtin.zeroCells z.cells (g - (sLen + n))) (ty := e) (cs := cs ++ ns) (by omega) (fun j c v hc hv => by
    rw [List.getElem?_append] at hc
    rw [Array.append_assoc, Array.getElem?_append] at hv
    split at hc
    · rename_i hj
      rw [if_pos (by simpa [← hro.1] using hj)] at hv
      exact (hro.2 j c v hc (by simpa using hv)).mono hE (fun _ _ h => h) (fun _ _ h => h)
    · rename_i hj
      rw [if_neg (by simpa [← hro.1] using hj), Array.getElem?_append] at hv
      have hj2 := (List.getElem?_eq_some_iff.1 hc).1
      simp only [List.size_toArray, ← hro.1] at hv
      rw [if_pos (by rw [← hrn.1]; exact hj2)] at hv
      exact (hrn.2 _ c v hc (by simpa using hv)).mono hE (fun _ _ h => h) (fun _ _ h => h)) hk hn hkn
  refine ⟨_, _, _, hrun, ?_, (Fwd.drew (ne := fun i => i = k) hS).trans hFo (fun i h _ => ⟨h, h⟩)⟩
  refine .ref _ _ _ _ _ _ w.heap.size 0 g (by simp [upd]) (Nat.le_refl _) hge (by simp) (fun _ => rfl) ⟨_, e, (0, 0), heap_alloc_new w.drew _, ?_⟩
  rw [hsz]; omega
theorem news_none {ts : Array TypeId} {t u ty e : TypeId} {T te : Ti} {i : TypeInfo} (h0 : ts[0]? = some t) (h1 : ts[1]? = some u) (hT : ti P t = some T) (hTs : T.sh = .slice e) (hi : P.info? e = some i)
    {y : PV} (h : news te M (ti P u) y = some []) {v : Value} (hr : Rep w fx bs y v) {A : Option Addr} {sLen sCap : Nat} (hg : sLen ≤ sCap) : (Builtin.append_ ts ty #[.slice A sLen sCap, v]).run P w = .ok (.slice A sLen sCap) w := by
  have ht := slice_ty hT hTs
  unfold news at h
  split at h
  · rename_i e' _ _ _ hU
    have hu' := slice_ty hU rfl
    have : ∃ B c, v = .slice B 0 c := by
      unfold items at h
      split at h
      · simp at h; subst h
        cases hr with | sl _ _ A n c sz vs hn hc he hcl hu' hm hr =>
        simp at hn; subst hn
        exact ⟨_, _, rfl⟩
      · split at h
        · split at h
          · rename_i hgd
            have hG := gd_spec hgd
            simp at h
            have := hG.num
            rw [h] at this
            cases hr with | ref _ _ _ _ _ _ b off' c hb hlc hc he ho hr =>
            simp at this; subst this
            exact ⟨_, _, rfl⟩
          · simp at h
        · simp at h
      · simp at h
    obtain ⟨B, c, rfl⟩ := this
    exact run_app_none h0 h1 ht hu' hi hg
  · rename_i K _ _ _ m hU
    obtain ⟨_, d, _, _, hd, _, _, hsh, _, _⟩ := ti_spec hU
    have := shOf_int (P := P) (d := d) hsh.symm
    subst this
    rw [rep_int hr]
    split at h
    · rename_i hm
      simp at h
      have : m = 0 := by omega
      subst this
      exact run_make_none h0 h1 ht hd hi hg
    · simp at h
  · simp at h
theorem isSl_rep {s : PV} (h : s.isSl = true) {v : Value} (hr : Rep w fx bs s v) : ∃ A n c, v = .slice A n c ∧ n ≤ c := by
  cases hr <;> first | (simp [PV.isSl] at h; done) | skip
  · rename_i hn hc _ _ _ _ _
    exact ⟨_, _, _, rfl, hc⟩
  · rename_i hl hc _ _ _
    exact ⟨_, _, _, rfl, by omega⟩
theorem two_args {p q : PV} {us : Array Value} (h : RepL w fx bs [p, q] us) : ∃ u v, us = #[u, v] ∧ Rep w fx bs p u ∧ Rep w fx bs q v := by
  have h1 := h.1
  have e0 : 0 < us.size := by rw [← h1]; simp
  have e1 : 1 < us.size := by rw [← h1]; simp
  refine ⟨us[0], us[1], ?_, h.2 0 _ _ rfl (Array.getElem?_eq_getElem e0), h.2 1 _ _ rfl (Array.getElem?_eq_getElem e1)⟩
  apply Array.ext
  · simpa using h1.symm
  · intro i h2 h3
    have : i = 0 ∨ i = 1 := by simp at h3; omega
    rcases this with rfl | rfl <;> rfl
theorem setC_end (cs : List PV) (n : Nat) (ps : List PV) (h : ps.length = n) : setC (cs ++ List.replicate n .junk) cs.length ps = cs ++ ps := by
  rw [setC_setL, setL_splice _ _ _ (by simp [h])]
  simp [h]
theorem app_ok (hS : Sim base w0 fb fx bs M w) {as : Array TypeId} {ty : TypeId} {vs : List PV} {us : Array Value} (hL : RepL w fx bs vs us) {k nx : Nat} (hk : bs k = none) (hn : M.nx ≤ nx) (hkn : k < nx) {p : PV} {m' : Nat → Blk} (h : app P k as M vs = some (p, m')) :
    ∃ v w' fx' bs', (Builtin.append_ as ty us).run P w = .ok v w' ∧ Rep w' fx' bs' p v ∧ Fwd base w0 fb (fun i => i = k) w fx bs M w' fx' bs' ⟨m', nx⟩ := by
  unfold app at h
  split at h
  · rename_i s y
    obtain ⟨u, v, rfl, hs, hy⟩ := two_args hL
    split at h
    · rename_i t u' h0 h1
      split at h
      · rename_i e _ _ _ hT
        split at h
        · rename_i te he
          obtain ⟨i, d, z, hi, _, hz, hzc, _, hsize, hby⟩ := ti_spec he
          split at h
          · rename_i ys hys
            split at h
            · rename_i hnil
              subst hnil
              split at h
              · rename_i hsl
                simp at h
                obtain ⟨rfl, rfl⟩ := h
                obtain ⟨A, n, c, rfl, hnc⟩ := isSl_rep hsl hs
                exact ⟨_, w, fx, bs, news_none h0 h1 hT rfl hi hys hy hnc, hs, Fwd.more hS hn⟩
              · simp at h
            · rename_i hne
              split at h
              · rename_i hcond
                simp only [Bool.and_eq_true, decide_eq_true_eq] at hcond
                obtain ⟨hun, hsz, hb, hzl⟩ := hcond
                have hU := unif_all hun
                have hU1 : ∀ x, x ∈ ys → x.cells.length = te.size := fun x hx => (hU x hx).1
                obtain ⟨nl, hrn, hsp⟩ := spread_ok (P := P) hS h0 h1 hT rfl he hi hz hys hy hU1 hne hsz
                have hln := flat_length hU1
                have hone : ∀ v, v ∈ nl → v.oneCell' = true := one_cells hrn fun c hc => by
                  unfold flat at hc
                  obtain ⟨x, hx, hc⟩ := List.mem_flatMap.1 hc
                  exact (hU x hx).2 c hc
                have hyl : 0 < ys.length := List.length_pos_iff.2 hne
                split at h
                · rename_i xs
                  split at h
                  · rename_i hc2
                    simp only [Bool.and_eq_true, decide_eq_true_eq] at hc2
                    simp at h
                    obtain ⟨rfl, rfl⟩ := h
                    have hU2 : ∀ x, x ∈ xs → x.cells.length = te.size := fun x hx => (unif_all hc2.1 x hx).1
                    have hs' := hs
                    cases hs with | sl _ _ A n c sz vs hn' hc he' hcl hu' hm hr =>
                    have := he' rfl
                    subst this
                    obtain ⟨ol, hfo, hro⟩ := first_sl (P := P) hs' hU2
                    obtain ⟨v', w', bs', r1, r2, r3⟩ := grown_ok (ty := ty) hS hsp he hi hz hzl hfo hro hrn (by rw [flat_length hU2, hn']) hln (by omega) (by rw [hn']; exact hc2.2) hb hk hn hkn
                    rw [hn'] at r2
                    exact ⟨v', w', fx, bs', r1, r2, r3⟩
                  · simp at h
                · rename_i id sz off len cap ex
                  split at h
                  · rename_i wr tyb cs hl
                    split at h
                    · rename_i hsz'
                      subst hsz'
                      have hs' := hs
                      cases hs with | ref _ _ _ _ _ _ b off' c hb' hlc hc he' ho hr =>
                      obtain ⟨cells, tyc, fr, hcells, hfitc⟩ := hr
                      obtain ⟨_, cells', hh, hszc, hrep, _, _⟩ := hS.live id wr tyb cs b hl hb'
                      rw [hcells] at hh
                      simp at hh
                      obtain ⟨rfl, rfl, rfl⟩ := hh
                      split at h
                      · rename_i hroom
                        split at h
                        · rename_i hfit
                          obtain ⟨hfit, rfl⟩ := hfit
                          simp at h
                          obtain ⟨rfl, rfl⟩ := h
                          have ho' := ho (by omega)
                          subst ho'
                          have hfit2 : off' + len * te.size + nl.length ≤ cells.size := by
                            rw [← hrn.1, hln, Nat.add_assoc, ← Nat.add_mul]; omega
                          have hrun := hsp.room ty b off' len c cells _ hcells (by omega) (by rw [← hsize]; exact hfit2) hone
                          rw [← hsize] at hrun
                          have hF := Fwd.write (ne := fun i => i = k) hS hl hb' hcells hrn (off := off' + len * te.size) (by rw [hln, Nat.add_assoc, ← Nat.add_mul]; exact hfit) (m' := upd M.m id (.live true tyc (setC cs (off' + len * te.size) (flat ys)))) (fun i => rfl) (nx := M.nx) rfl
                          have hF2 := hF.trans (Fwd.more (ne := fun i => i = k) hF.sim hn) (ne2 := fun i => i = k) (fun i h _ => ⟨h, h⟩)
                          refine ⟨_, _, fx, bs, hrun, ?_, hF2⟩
                          obtain ⟨c2, fr2, h3, h4⟩ := hF.ext.row _ _ _ _ hcells
                          exact .ref _ _ _ _ _ _ b off' c hb' hroom hc he' ho ⟨c2, _, fr2, h3, by omega⟩
                        · simp at h
                      · rename_i hroom
                        split at h
                        · rename_i hrm
                          split at h
                          · rename_i hex
                            split at h
                            · rename_i hfit
                              simp at h
                              obtain ⟨rfl, rfl⟩ := h
                              have := he' hex
                              subst this
                              obtain ⟨ol, hfo, hro⟩ := first_ref (P := P) hS hs' hl hfit
                              obtain ⟨v', w', bs', r1, r2, r3⟩ := grown_ok (ty := ty) hS hsp he hi hz hzl hfo hro hrn (by rw [List.length_take, List.length_drop]; omega) hln (by omega) hrm hb hk hn hkn
                              exact ⟨v', w', fx, bs', r1, r2, r3⟩
                            · simp at h
                          · split at h
                            · rename_i hfit
                              obtain ⟨rfl, hcl, rfl, rfl⟩ := hfit
                              simp at h
                              obtain ⟨rfl, rfl⟩ := h
                              by_cases hgr : c < len + ys.length
                              · obtain ⟨ol, hfo, hro⟩ := first_ref (P := P) hS hs' hl (by omega)
                                have hcs : (cs.drop 0).take (len * te.size) = cs := by rw [List.drop_zero, List.take_of_length_le (by omega)]
                                rw [hcs] at hro
                                have hK := Fwd.kill (ne := fun i => i = k) hS hb'
                                obtain ⟨v', w', bs', r1, r2, r3⟩ := grown_ok (ty := ty) hK.sim hsp he hi hz hzl hfo hro hrn hcl hln hgr hrm hb hk hn hkn
                                exact ⟨v', w', fx, bs', r1, r2, hK.trans r3 (fun i h _ => ⟨h, h⟩)⟩
                              · have ho' := ho (by omega)
                                subst ho'
                                have hle2 : (len + ys.length) * te.size ≤ c * te.size := Nat.mul_le_mul_right _ (by omega)
                                rw [Nat.add_mul] at hle2
                                have hfit2 : 0 + len * te.size + nl.length ≤ cells.size := by
                                  rw [← hrn.1, hln]; omega
                                have hrun := hsp.room ty b 0 len c cells _ hcells (by omega) (by rw [← hsize]; exact hfit2) hone
                                rw [← hsize] at hrun
                                have hR := hS.rename (n := (flat ys).length) hl hb' hcells (by rw [hln]; omega) hk hn hkn
                                have hne' : k ≠ id := fun e => by subst e; rw [hk] at hb'; cases hb'
                                have hF := Fwd.write (ne := fun i => i = k) hR (id := k) (b := b) (ty := tyc) (cs := cs ++ List.replicate (flat ys).length .junk) (by simp [upd]) (by simp [upd]) hcells (hrn.mono (.refl _ _) (fun _ _ h => h) (bs_upd hk b)) (off := 0 + len * te.size) (by rw [List.length_append, List.length_replicate, hln]; omega)
                                  (m' := upd (upd M.m id .dead) k (.live true tyc (cs ++ flat ys))) (fun i => by
                                    by_cases e : i = k
                                    · simp only [upd, if_pos e]
                                      rw [Nat.zero_add, ← hcl, setC_end _ _ _ rfl]
                                    · simp only [upd, if_neg e]) (nx := nx) rfl
                                have hF1 : Fwd base w0 fb (fun i => i = k) w fx bs M w fx (upd bs k (some b)) ⟨upd (upd M.m id .dead) k (.live true tyc (cs ++ List.replicate (flat ys).length .junk)), nx⟩ :=
                                  ⟨hR, .refl _ _, fun _ _ h => h, bs_upd hk b, fun i _ h1 h2 => ⟨by simp only [upd, if_neg h1]; exact h2, by simp only [upd, if_neg h1]; rw [if_neg (fun e => by subst e; rw [hb'] at h2; cases h2)]⟩, hn⟩
                                refine ⟨_, _, fx, _, hrun, ?_, hF1.trans hF (fun i h _ => ⟨h, h⟩)⟩
                                obtain ⟨c2, fr2, h3, h4⟩ := hF.ext.row _ _ _ _ hcells
                                exact .ref _ _ _ _ _ _ b 0 c (by simp [upd]) (Nat.le_refl _) (by omega) (by simp) (fun _ => rfl) ⟨c2, _, fr2, h3, by omega⟩
                            · simp at h
                        · simp at h
                    · simp at h
                  · simp at h
                · simp at h
              · simp at h
          · simp at h
        · simp at h
      · simp at h
    · simp at h
  · simp at h
end
end Go.Pi

set_option linter.unusedVariables false
set_option linter.unusedSimpArgs false
namespace Go.Pi
open Go.RowKit
section
variable {P : Program} {base : Nat} {w0 : World} {fb fx : Fx} {bs : Bs} {M : Mem} {w : World} {r : Nat → PV} {a : Act}

theorem items_clo (hS : Sim base w0 fb fx bs M w) {y : PV} {ys : List PV} (h : items M y = some ys) {v : Value} (hr : Rep w fx bs y v) : cloL ys = true := by
  unfold items at h
  split at h
  · simp at h; subst h
    cases hr with | sl _ _ A n c sz vs hn hc he hcl hu' hm hr => exact hcl
  · split at h
    · split at h
      · rename_i hg
        simp at h; subst h
        exact (gd_spec hg).clo
      · simp at h
    · simp at h
  · simp at h
theorem cloL_append {xs ys : List PV} (h1 : cloL xs = true) (h2 : cloL ys = true) : cloL (xs ++ ys) = true := by
  rw [cloL_all] at *
  intro x hx
  rcases List.mem_append.1 hx with hx | hx
  · exact h1 x hx
  · exact h2 x hx
theorem appP_ok (hS : Sim base w0 fb fx bs M w) {as : Array TypeId} {ty : TypeId} {vs : List PV} {us : Array Value} (hL : RepL w fx bs vs us) {p : PV} (h : appP P as M vs = some p) (ne : Nat → Prop) :
    ∃ v w' fx', (Builtin.append_ as ty us).run P w = .ok v w' ∧ Rep w' fx' bs p v ∧ Fwd base w0 fb ne w fx bs M w' fx' bs M := by
  unfold appP at h
  split at h
  · rename_i xs y
    obtain ⟨u, v, rfl, hs, hy⟩ := two_args hL
    split at h
    · rename_i t u' h0 h1
      split at h
      · rename_i e _ _ _ e' _ _ _ hT hU
        split at h
        · rename_i te ys he hys
          obtain ⟨i, d, z, hi, _, hz, hzc, _, hsize, hby⟩ := ti_spec he
          have hnews : news te M (ti P u') y = some ys := by rw [hU]; exact hys
          have hs' := hs
          cases hs with | sl _ _ A n c sz vs hn' hc he' hcl hu' hm hr =>
          have := he' rfl
          subst this
          split at h
          · rename_i hnil
            subst hnil
            simp at h; subst h
            exact ⟨_, w, fx, news_none h0 h1 hT rfl hi hnews hy (Nat.le_refl _), hs', Fwd.refl hS⟩
          · rename_i hne
            split at h
            · rename_i hcond
              simp only [Bool.and_eq_true, decide_eq_true_eq] at hcond
              obtain ⟨⟨⟨hux, huy⟩, hsz, hb⟩, hrm⟩ := hcond
              simp at h; subst h
              have hU1 : ∀ x, x ∈ ys → x.cells.length = te.size := fun x hx => (unif_all huy x hx).1
              have hU2 : ∀ x, x ∈ xs → x.cells.length = te.size := fun x hx => (unif_all hux x hx).1
              obtain ⟨nl, hrn, hsp⟩ := spread_ok (P := P) hS h0 h1 hT rfl he hi hz hnews hy hU1 hne hsz
              obtain ⟨ol, hfo, hro⟩ := first_sl (P := P) hs' hU2
              have hyl : 0 < ys.length := List.length_pos_iff.2 hne
              obtain ⟨hf1, hf2⟩ := room_fits (need := xs.length + ys.length) (old := c) (by omega) hrm hb
              subst hn'
              have hrun := hsp.grow ty A xs.length xs.length ol (by rw [← hsize]; exact hfo) (by omega) hf2 (by rw [← hby]; exact hf1)
              have hge := grownCap_ge w (xs.length + ys.length) xs.length e
              generalize grownCap w (xs.length + ys.length) xs.length e = g at hrun hge
              have hF := (Fwd.drew (ne := ne) hS).trans (Fwd.fixed (ne := ne) hS.drew (ol.toArray ++ nl.toArray ++ Builtin.zeroCells z.cells (g - (xs.length + ys.length))) e) (ne2 := ne) (fun i h _ => ⟨h, h⟩)
              have hE := hF.ext
              refine ⟨_, _, _, hrun, ?_, hF⟩
              have hnew : (w.drew.alloc (.cells (ol.toArray ++ nl.toArray ++ Builtin.zeroCells z.cells (g - (xs.length + ys.length))) e)).heap[w.heap.size]? = some (.cells (ol.toArray ++ nl.toArray ++ Builtin.zeroCells z.cells (g - (xs.length + ys.length))) e) := heap_alloc_new w.drew _
              have hget : ∀ j x, (flat (xs ++ ys))[j]? = some x → ∃ v, (ol.toArray ++ nl.toArray ++ Builtin.zeroCells z.cells (g - (xs.length + ys.length)))[j]? = some v ∧ Rep w fx bs x v := fun j x hj => by
                rw [flat_append, List.getElem?_append] at hj
                split at hj
                · rename_i hlt
                  obtain ⟨v, hv, hvr⟩ := hro.get hj
                  refine ⟨v, ?_, hvr⟩
                  rw [Array.append_assoc, Array.getElem?_append, if_pos (by simpa [← hro.1] using hlt)]
                  simpa using hv
                · rename_i hlt
                  obtain ⟨v, hv, hvr⟩ := hrn.get hj
                  have hj2 := (List.getElem?_eq_some_iff.1 hv).1
                  refine ⟨v, ?_, hvr⟩
                  rw [Array.append_assoc, Array.getElem?_append, if_neg (by simpa [← hro.1] using hlt), Array.getElem?_append]
                  simp only [List.size_toArray, ← hro.1]
                  rw [if_pos hj2]
                  simpa using hv
              refine .sl false _ _ _ _ te.size (fun j => (ol.toArray ++ nl.toArray ++ Builtin.zeroCells z.cells (g - (xs.length + ys.length))).getD j undef) (by simp) hge (by simp) (cloL_append hcl (items_clo hS hys hy)) (fun x hx => ?_) (fun j x hj => ?_) (fun j x hj => ?_)
              · rcases List.mem_append.1 hx with hx | hx
                · exact hU2 x hx
                · exact hU1 x hx
              · obtain ⟨v, hv, _⟩ := hget j x hj
                refine ⟨_, rfl, rfl, .inr rfl, ?_⟩
                rw [cell_of_block hnew, Nat.zero_add, hv]
                rw [Array.getD_eq_getD_getElem?, hv]; rfl
              · obtain ⟨v, hv, hvr⟩ := hget j x hj
                have : (ol.toArray ++ nl.toArray ++ Builtin.zeroCells z.cells (g - (xs.length + ys.length))).getD j undef = v := by rw [Array.getD_eq_getD_getElem?, hv]; rfl
                rw [this]
                exact hvr.mono hE (fun _ _ h => .inl h) (fun _ _ h => h)
            · simp at h
        · simp at h
      · simp at h
    · simp at h
  · simp at h
theorem makeSlice_ok {t e : TypeId} {T te : Ti} (hT : ti P t = some T) (hTs : T.sh = .slice e) (he : ti P e = some te) {l c : Int} (h0 : 0 ≤ l) (h1 : l ≤ c) (h2 : c * te.bytes ≤ 281474976710656) (hz : te.zero.length = te.size) (hs : 0 < te.size) (hb : 0 < te.bytes) :
    ∃ cells : Array Value, (Instr.makeSlice t (.int .i64 l) (.int .i64 c)).run P w = .ok (.slice (some ⟨w.heap.size, 0, none⟩) l.toNat c.toNat) (w.alloc (.cells cells e)) ∧ RepS w fx bs (zeros (te.zero.map PV.nrm) c.toNat) cells.toList := by
  obtain ⟨i, d, z, hi, _, hzz, hzc, _, hsize, hby⟩ := ti_spec he
  obtain ⟨g1, g2, g3⟩ := zero_size he hi hzz hz
  have hc : c * 1 ≤ c * (te.bytes : Int) := Int.mul_le_mul_of_nonneg_left (by omega) (by omega)
  have hwc := wrap_i64_id (n := c) (by omega) (by omega)
  have hwl := wrap_i64_id (n := l) (by omega) (by omega)
  rw [hby, Int.mul_comm] at h2
  have a1 : ¬ (281474976710656 < (i.bytes : Int) * c) := by omega
  have a2 : ¬ (c < 0) := by omega
  have a3 : ¬ (l < 0) := by omega
  have a4 : ¬ (c < l) := by omega
  have hrep : RepS w fx bs (zeros (te.zero.map PV.nrm) c.toNat) ((Array.range (c.toNat * z.cells.size)).map fun j => z.cells[j % z.cells.size]!).toList := by
    rw [range_zeros]
    exact zeros_rep (cstL_ok hzc).nrm _
  by_cases hc0 : c.toNat * i.size = 0
  · have : c.toNat = 0 := by
      rcases Nat.eq_zero_or_pos c.toNat with h | h
      · exact h
      · have := Nat.mul_pos h (show 0 < i.size by omega); omega
    refine ⟨#[], ?_, by rw [this]; exact ⟨by simp [zeros], by simp [zeros]⟩⟩
    simp [Instr.makeSlice, run_underlying (slice_ty hT hTs), asInt, asIntOf, typeInfo, hi, hwc, hwl, a1, a2, a3, a4, run_sizeOf' hi, this, newRow, newObj]
    have e0 : (Array.map (fun _ : Nat => (default : Value)) (Array.range 0)) = #[] := by apply Array.ext' <;> simp
    rw [e0]
    rfl
  · refine ⟨_, ?_, hrep⟩
    rw [← g2] at g1
    have hc1 : ¬ (c ≤ 0) := fun h => hc0 (by have : c.toNat = 0 := by omega
                                             rw [this]; simp)
    have hc2 : ¬ (i.size = 0) := by omega
    simp [Instr.makeSlice, run_underlying (slice_ty hT hTs), asInt, asIntOf, typeInfo, hi, hwc, hwl, a1, a2, a3, a4, run_sizeOf' hi, hc0, hc1, hc2, run_zero' hi hzz, newRow, newObj, g1]
    rfl

/-! ### Operations -/
/-- What an operation does, told to the walk. -/
def OpOk (P : Program) (base : Nat) (w0 : World) (fb : Fx) (ne : Nat → Prop) (w : World) (fx : Fx) (bs : Bs) (M : Mem) (a : Act) (o : Oper) (p : PV) (M' : Mem) : Prop :=
  ∀ (K : Act → World → Prop) (Q : Exit → Act → World → Prop), (∀ v w' fx' bs', Rep w' fx' bs' p v → Fwd base w0 fb ne w fx bs M w' fx' bs' M' → K (a.put o.dst v) w') → o.wp P a w K Q
theorem OpOk.val {ne : Nat → Prop} {o : Oper} {p : PV} {M' : Mem} {v : Value} {w' : World} {fx' : Fx} {bs' : Bs} (h : (execOp a.eval o).run P w = .ok (.value v) w') (hr : Rep w' fx' bs' p v) (hF : Fwd base w0 fb ne w fx bs M w' fx' bs' M') :
    OpOk P base w0 fb ne w fx bs M a o p M' := fun K Q hK => by
  unfold Oper.wp
  rw [h]
  exact hK _ _ _ _ hr hF
theorem Fwd.weak {ne ne' : Nat → Prop} {w' : World} {fx' : Fx} {bs' : Bs} {M' : Mem} (h : Fwd base w0 fb ne w fx bs M w' fx' bs' M') (hn : ∀ i, i < M.nx → ne i → ne' i) : Fwd base w0 fb ne' w fx bs M w' fx' bs' M' :=
  ⟨h.sim, h.ext, h.fxm, h.bsm, fun i hi h1 h2 => h.keep i hi (fun h3 => h1 (hn i hi h3)) h2, h.nx⟩
theorem OpOk.weak {ne ne' : Nat → Prop} {o : Oper} {p : PV} {M' : Mem} (h : OpOk P base w0 fb ne w fx bs M a o p M') (hn : ∀ i, i < M.nx → ne i → ne' i) : OpOk P base w0 fb ne' w fx bs M a o p M' :=
  fun K Q hK => h K Q fun v w' fx' bs' hr hF => hK v w' fx' bs' hr (hF.weak hn)
theorem pure_op (hS : Sim base w0 fb fx bs M w) (hE : Env w fx bs r a) {o : Oper} {p : PV} (h : pureOp P r M o.op = some p) (ne : Nat → Prop) : OpOk P base w0 fb ne w fx bs M a o p M := by
  by_cases hb : ∃ t n ps, o.op = .buildSlice t n ps
  · obtain ⟨t, n, ps, hb⟩ := hb
    rw [hb] at h
    obtain ⟨cells, ty, v, hrun, hr⟩ := buildSlice_ok hS hE h
    refine .val (v := v) ?_ hr (Fwd.fixed hS cells ty)
    obtain ⟨dst, op, ty', pos, after, guard⟩ := o
    simp only at hb
    subst hb
    simp [execOp, hrun]
  · obtain ⟨v, hv, hr⟩ := pure_ok hS hE h (fun t n ps e => hb ⟨t, n, ps, e⟩)
    exact .val hv hr (Fwd.refl hS)
theorem call_op {C : FuncId → List PV → Mem → Option (PV × Mem)} {sh : FuncId → Bool} (hC : COk P C) (hS : Sim base w0 fb fx bs M w) (hE : Env w fx bs r a) {o : Oper} {g : Operand} {xs : Array Operand} {ts : Array TypeId} (ho : o.op = .call ⟨.value g, xs, ts⟩)
    {f : FuncId} {cs vs : List PV} (hg : ev r g = some (.fn f cs)) (hvs : evL r xs.toList = some vs) {p : PV} {M' : Mem} (h : callOp C sh f (vs ++ cs) M = some (p, M')) (ne : Nat → Prop) : OpOk P base w0 fb ne w fx bs M a o p M' := by
  have hL := evL_rep hE hvs
  have hgr := ev_ok hE hg
  generalize hav : a.eval g = gv at hgr
  cases hgr with | fn _ _ caps hl hcr =>
  have hLL : RepL w fx bs (vs ++ cs) (xs.map a.eval ++ caps) := by
    refine ⟨by rw [List.length_append, Array.size_append, hL.1, hl], fun i c v hc hv => ?_⟩
    rw [List.getElem?_append] at hc
    rw [Array.getElem?_append] at hv
    split at hc
    · rename_i hi
      rw [if_pos (by rw [← hL.1]; exact hi)] at hv
      exact hL.2 i c v hc hv
    · rename_i hi
      rw [if_neg (by rw [← hL.1]; exact hi)] at hv
      rw [← hL.1] at hv
      exact hcr _ c v hc hv
  obtain ⟨⟨fn, hfn, hbody, hname⟩, hcall⟩ := callOp_ok hC hS hLL h
  have hrun : (execOp a.eval o).run P w = .ok (.enter f (xs.map a.eval ++ caps)) w := by
    obtain ⟨dst, op, ty', pos, after, guard⟩ := o
    simp only at ho
    subst ho
    have hbn : ¬ (fn.body = none) := fun e => by rw [e] at hbody; simp at hbody
    have hname' : ¬ (fn.name = "runtime.NumGoroutine") := by simpa using hname
    simp [execOp, resolve, Deferred.ofValue, hav, invoke, callFunc, hfn, hname', hbn]
  intro K Q hK
  unfold Oper.wp
  rw [hrun]
  rw [Oper.upon_enter]
  refine hcall.mono ?_
  rintro e w' ⟨v, fx', bs', rfl, hr, hF⟩
  exact hK v w' fx' bs' hr (hF.weak (fun _ _ h => h.elim))
theorem append_op {o : Oper} {xs : Array Operand} {ts : Array TypeId} (ho : o.op = .call ⟨.builtin .append, xs, ts⟩) {v : Value} {w' : World} (h : (Builtin.append_ ts o.type (xs.map a.eval)).run P w = .ok v w') : (execOp a.eval o).run P w = .ok (.value v) w' := by
  obtain ⟨dst, op, ty', pos, after, guard⟩ := o
  simp only at ho h
  subst ho
  simp [execOp, resolve, invoke, builtin, h]
theorem store_op (hS : Sim base w0 fb fx bs M w) (hE : Env w fx bs r a) {o : Oper} {t : TypeId} {x v : Operand} (ho : o.op = .store t x v) {p : PV} {M' : Mem}
    (h : (match ti P t, ev r x, ev r v with | some t, some x, some v => (store t M x v).map fun M => (PV.und, M) | _, _, _ => none) = some (p, M')) (ne : Nat → Prop) : OpOk P base w0 fb ne w fx bs M a o p M' := by
  split at h
  · rename_i T x' v' hT hx hv
    simp only [Option.map_eq_some_iff, Prod.mk.injEq] at h
    obtain ⟨M2, hst, rfl, rfl⟩ := h
    obtain ⟨w', hrun, hF⟩ := store_ok hS hT (ev_ok hE hx) (ev_ok hE hv) hst
    have : (execOp a.eval o).run P w = .ok .skip w' := by
      obtain ⟨dst, op, ty', pos, after, guard⟩ := o
      simp only at ho
      subst ho
      simp [execOp, hrun]
    intro K Q hK
    unfold Oper.wp
    rw [this]
    rw [Oper.upon_skip]
    exact hK _ _ _ _ .und (hF.weak (fun _ _ h => h.elim))
  · simp at h
theorem repS_own {cells : Array Value} {cs : List PV} (h : RepS w fx bs cs cells.toList) : cs.length ≤ cells.size ∧ ∀ (j : Nat) c v, cs[j]? = some c → cells[j]? = some v → Rep w fx bs c v :=
  ⟨by rw [h.1]; simp, fun j c v hc hv => h.2 j c v hc (by simpa using hv)⟩
theorem eff_ok {C : FuncId → List PV → Mem → Option (PV × Mem)} {sh : FuncId → Bool} (hC : COk P C) (hS : Sim base w0 fb fx bs M w) (hE : Env w fx bs r a) {o : Oper} {p : PV} {M' : Mem} (h : effOp P C sh r M o.op = some (p, M')) :
    OpOk P base w0 fb (fun _ => False) w fx bs M a o p M' := by
  have hnx := hS.nxt M.nx (Nat.le_refl _)
  have lt : ∀ i, i < M.nx → i = M.nx → False := fun i h1 h2 => by omega
  unfold effOp at h
  split at h
  · rename_i e ho
    simp only [Option.bind_eq_some_iff] at h
    obtain ⟨T, hT, h⟩ := h
    simp at h
    obtain ⟨rfl, rfl⟩ := h
    obtain ⟨cells, hrun, hr⟩ := alloc_ok (P := P) (w := w) (fx := fx) (bs := bs) hT
    obtain ⟨h1, h2⟩ := repS_own hr
    refine .val (v := .pointer (some ⟨w.heap.size, 0, none⟩)) ?_ (.ptr _ _ w.heap.size (by simp [upd])) ((Fwd.own hS h1 h2 hnx.2 (Nat.le_succ _) (Nat.lt_succ_self _)).weak lt)
    obtain ⟨dst, op, ty', pos, after, guard⟩ := o
    simp only at ho
    subst ho
    simp [execOp, hrun]
  · rename_i e x ho
    simp only [Option.bind_eq_some_iff] at h
    obtain ⟨v, hv, T, hT, h⟩ := h
    split at h
    · rename_i hcond
      simp at h
      obtain ⟨rfl, rfl⟩ := h
      obtain ⟨cells, hrun, hr⟩ := box_ok hT (ev_ok hE hv) hcond.1 hcond.2
      obtain ⟨h1, h2⟩ := repS_own hr
      refine .val (v := .pointer (some ⟨w.heap.size, 0, none⟩)) ?_ (.ptr _ _ w.heap.size (by simp [upd])) ((Fwd.own hS h1 h2 hnx.2 (Nat.le_succ _) (Nat.lt_succ_self _)).weak lt)
      obtain ⟨dst, op, ty', pos, after, guard⟩ := o
      simp only at ho
      subst ho
      simp [execOp, hrun]
    · simp at h
  · rename_i t x v ho
    exact store_op hS hE ho h _
  · rename_i t l c ho
    split at h
    · rename_i e _ _ _ l' c' hT hl hc
      split at h
      · rename_i te he
        split at h
        · rename_i hcond
          obtain ⟨g1, g2, g3, g4, g5, g6⟩ := hcond
          simp at h
          obtain ⟨rfl, rfl⟩ := h
          obtain ⟨cells, hrun, hr⟩ := makeSlice_ok (P := P) (w := w) (fx := fx) (bs := bs) hT rfl he g1 g2 g3 g4 g5 g6
          obtain ⟨h1, h2⟩ := repS_own hr
          have hlen : c'.toNat * te.size ≤ cells.size := by
            have := h1
            rw [zeros_length, List.length_map, g4] at this
            exact this
          refine .val (v := .slice (some ⟨w.heap.size, 0, none⟩) l'.toNat c'.toNat) ?_ (.ref _ _ _ _ _ _ w.heap.size 0 c'.toNat (by simp [upd]) (by omega) (Nat.le_refl _) (fun _ => rfl) (fun _ => rfl) ⟨cells, e, _, heap_alloc_new w _, by omega⟩) ((Fwd.own hS h1 h2 hnx.2 (Nat.le_succ _) (Nat.lt_succ_self _)).weak lt)
          obtain ⟨dst, op, ty', pos, after, guard⟩ := o
          simp only at ho
          subst ho
          simp [execOp, rep_int (ev_ok hE hl), rep_int (ev_ok hE hc), hrun]
        · simp at h
      · simp at h
    · simp at h
  · rename_i xs as ho
    simp only [Option.bind_eq_some_iff, Option.map_eq_some_iff] at h
    obtain ⟨vs, hvs, q, hq, h⟩ := h
    simp at h
    obtain ⟨rfl, rfl⟩ := h
    obtain ⟨v, w', fx', bs', hrun, hr, hF⟩ := app_ok (ty := o.type) hS (evL_rep hE hvs) hnx.2 (Nat.le_succ _) (Nat.lt_succ_self _) hq
    exact .val (append_op ho hrun) hr (hF.weak lt)
  · rename_i g xs ts ho
    split at h
    · rename_i f cs hg
      simp only [Option.bind_eq_some_iff] at h
      obtain ⟨vs, hvs, h⟩ := h
      exact call_op hC hS hE ho hg hvs h _
    · simp at h
  · simp only [Option.map_eq_some_iff] at h
    obtain ⟨v, hv, h⟩ := h
    simp at h
    obtain ⟨rfl, rfl⟩ := h
    exact pure_op hS hE hv _
end
end Go.Pi
