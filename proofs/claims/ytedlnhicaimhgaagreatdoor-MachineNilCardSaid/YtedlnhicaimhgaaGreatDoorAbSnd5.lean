import Derived.Test.YtedlnhicaimhgaaGreatDoorAbSnd4
namespace Go.Ab
variable {P : Program} {n : Nat} {w0 : World} {β β' : Ren} {st st' : St} {a : Act} {w w' : World} {meth : Nat → String → Option Nat} {call : Nat → List AV → Heap → Option CR}

theorem step1_vop {s : ISt} (h : s.op.ctl = false ∨ ∃ x y, s.op = .xcon x y) : step1 meth call s st = (match vop s.op (Opd.ev st.env) st.heap with | some (v, H) => some (none, { st with heap := H }.put s.dst v) | none => none) := by
  obtain ⟨dst, op, g⟩ := s
  rcases h with h | ⟨x, y, rfl⟩
  · cases op <;> first | rfl | simp [IOp.ctl] at h
  · rfl

theorem put_rc (st : St) (d : Option Nat) (v : AV) : (st.put d v).rc = st.rc := by cases d <;> rfl
theorem step1_rc {s : ISt} {p : Option AV} (h : step1 meth call s st = some (p, st')) (hr : s.op ≠ .rcv) : st'.rc = st.rc := by
  have hl : ∀ r, landed st s.dst r = some (p, st') → st'.rc = st.rc := by
    intro r hr
    cases r with
    | none => simp [landed] at hr
    | some r => cases r <;> simp only [landed, Option.some.injEq, Prod.mk.injEq] at hr <;> obtain ⟨_, rfl⟩ := hr <;> simp [put_rc]
  by_cases hc : s.op.ctl = false ∨ ∃ x y, s.op = .xcon x y
  · rw [step1_vop hc] at h
    split at h
    · simp only [Option.some.injEq, Prod.mk.injEq] at h
      obtain ⟨_, rfl⟩ := h; simp [put_rc]
    · simp at h
  · obtain ⟨dst, op, g⟩ := s
    simp only [not_or, Bool.not_eq_false] at hc
    cases op <;> try (simp [IOp.ctl] at hc; done)
    case rcv => exact absurd rfl hr
    case call f args => exact hl _ h
    case callv x args =>
      simp only [step1] at h
      split at h
      · exact hl _ h
      · simp at h
    case inv x m args =>
      simp only [step1] at h
      split at h
      · split at h
        · exact hl _ h
        · simp at h
      · simp at h
    case dfr x args =>
      simp only [step1] at h
      split at h
      · simp only [Option.some.injEq, Prod.mk.injEq] at h
        obtain ⟨_, rfl⟩ := h; simp [put_rc]
      · simp at h
    case pan x =>
      simp only [step1] at h
      split at h
      · simp only [Option.some.injEq, Prod.mk.injEq] at h
        obtain ⟨_, rfl⟩ := h; rfl
      · simp at h

structure Env0 (P : Program) (w0 : World) (meth : Nat → String → Option Nat) (call : Nat → List AV → Heap → Option CR) : Prop where
  call : CallOK P w0 call
  con : ConOK P w0
  meth : MethOK P meth

theorem step1_sound {K : Act → World → Prop} {Q : Exit → Act → World → Prop} {o : Oper} {s : ISt} {p : Option AV} (E : Env0 P w0 meth call) (hc : cOp P o = some s.op) (hdst : s.dst = o.dst) (hd : ∀ t, o.dst = some t → t < n)
    (h : SR P n w0 β st a w) (hs : step1 meth call s st = some (p, st')) (hr : s.op ≠ .rcv)
    (hK : ∀ β' a' w', p = none → Ext β st.heap.size β' → st.heap.size ≤ st'.heap.size → SR P n w0 β' st' a' w' → K a' w')
    (hQ : ∀ β' v chain a' w', p = some v → Ext β st.heap.size β' → st.heap.size ≤ st'.heap.size → SR P n w0 β' st' a' w' → PanR β' v chain → Q (.panic chain) a' w') : o.wp P a w K Q := by
  have hfun : ∀ f, a.eval (.func f) = .func (.func f) #[] #[] := fun _ => rfl
  have hVLs : ∀ {l : Array Operand} {l' : List Opd}, cOpds P l.toList = some l' → VL β (l'.map (Opd.ev st.env)) (l.map a.eval).toList := fun hl => cOpd_V (fun x x' hx => h.ev x x' hx) hl
  have entered : ∀ {f : Nat} {args : List AV} {args' : Array Value}, VL β args args'.toList → landed st o.dst (call f args st.heap) = some (p, st') → (execOp a.eval o).run P w = (callFunc f args').run P w → o.wp P a w K Q := by
    intro f args args' hV hl he
    obtain ⟨hE, hcalls⟩ := call_land (K := K) (Q := Q) (args' := args') E.call h hd hl hV hK hQ
    unfold Oper.wp
    rw [he, run_callFunc hE, Oper.upon_enter]
    exact hcalls
  by_cases hct : s.op.ctl = false
  · rw [step1_vop (.inl hct)] at hs
    cases hv : vop s.op (Opd.ev st.env) st.heap with
    | none => simp [hv] at hs
    | some q =>
      obtain ⟨v, H'⟩ := q
      simp only [hv, Option.some.injEq, Prod.mk.injEq] at hs
      obtain ⟨rfl, rfl⟩ := hs
      obtain ⟨β', v', w', h1, h2, h3, h4, h5⟩ := op_sound h.heap hc (fun x x' hx => h.ev x x' hx) hv hct hfun
      have hSR : SR P n w0 β' ({ st with heap := H' }.put s.dst v) (a.put o.dst v') w' := by rw [hdst]; exact (h.step h1.le h3).put hd h4
      have hsz : st.heap.size ≤ ({ st with heap := H' }.put s.dst v).heap.size := by cases s.dst <;> exact h2
      have := hK β' _ w' rfl h1 hsz hSR
      unfold Oper.wp
      rcases h5 with h5 | ⟨h5, rfl⟩
      · rw [h5, Oper.upon_value]; exact this
      · rw [h5, Oper.upon_skip]; exact this
  · have hct2 : s.op.ctl = true := by simpa using hct
    clear hct
    obtain ⟨sd, sop, sg⟩ := s
    simp only at hc hdst hct2 hr hs
    subst hdst
    rcases cOp_cases hc with h0 | ⟨c, ho, hcc⟩ | ⟨c, x, x', args, ho, hcal, hx, hargs, rfl⟩ | ⟨x, x', ho, hx, rfl⟩
    · rw [h0] at hct2; cases hct2
    · rcases cCall_cases hcc hct2 with ⟨f, fn, args, hcal, hfn, hargs, rfl | ⟨hname, x, y, rfl, rfl⟩⟩ | ⟨x, x', args, hcal, hx, hargs, rfl⟩ | ⟨x, x', m, args, hcal, hx, hargs, rfl⟩ | ⟨hcal, rfl⟩ | ⟨x, hcal, hargs, rfl⟩
      · -- a function
        refine entered (hVLs hargs) hs ?_
        simp only [execOp, ho, resolve, hcal, Sem.run_bind, hfun, Deferred.ofValue, Sem.run_pure, Result.andThen_ok, invoke]
        simp
      · -- strings.Contains
        rw [step1_vop (.inr ⟨x, y, rfl⟩)] at hs
        cases hv : vop (.xcon x y) (Opd.ev st.env) st.heap with
        | none => simp [hv] at hs
        | some q =>
          obtain ⟨v, H'⟩ := q
          simp only [hv, Option.some.injEq, Prod.mk.injEq] at hs
          obtain ⟨rfl, rfl⟩ := hs
          have hV := hVLs hargs
          simp only [List.map_cons, List.map_nil] at hV
          simp only [vop] at hv
          obtain ⟨hE, hcon⟩ := E.con f fn hfn hname
          have he : (execOp a.eval o).run P w = .ok (.enter f (c.args.map a.eval)) w := by
            rw [← run_callFunc hE]
            simp only [execOp, ho, resolve, hcal, Sem.run_bind, hfun, Deferred.ofValue, Sem.run_pure, Result.andThen_ok, invoke]
            simp
          unfold Oper.wp
          rw [he, Oper.upon_enter]
          generalize hg : c.args.map a.eval = args' at hV
          cases hx' : Opd.ev st.env x <;> rw [hx'] at hv hV <;> try (simp only [reduceCtorEq] at hv; done)
          cases hy' : Opd.ev st.env y <;> rw [hy'] at hv hV <;> try (simp only [reduceCtorEq] at hv; done)
          rename_i l l'
          simp only [Heap.blt_eq] at hv
          by_cases hlt : l.length < 4294967281
          · simp only [hlt, decide_true, cond_true, Option.some.injEq, Prod.mk.injEq] at hv
            obtain ⟨rfl, rfl⟩ := hv
            obtain ⟨s1, s2, e1, e2, e3⟩ : ∃ s1 s2 : ByteArray, args' = #[.string s1, .string s2] ∧ s1.data.toList.map (·.toNat) = l ∧ s2.data.toList.map (·.toNat) = l' := by
              generalize hq : args'.toList = q at hV
              cases hV with
              | cons h1 hs => cases hs with
                | cons h2 hs => cases hs with
                  | nil =>
                    obtain ⟨s1, rfl, g1⟩ := h1.str_inv
                    obtain ⟨s2, rfl, g2⟩ := h2.str_inv
                    exact ⟨s1, s2, Array.toList_inj.1 (by simpa using hq), g1, g2⟩
            subst e1; subst e2; subst e3
            have hs1 : s1.size < 4294967281 := by
              have : (s1.data.toList.map (·.toNat)).length = s1.size := by rw [List.length_map, Array.length_toList]; rfl
              omega
            refine Calls.mono (hcon s1 s2 w h.heap.frame hs1) fun e w'' he => ?_
            obtain ⟨rfl, rfl⟩ := he
            exact hK β _ w'' rfl (Ext.refl _ _) (by cases o.dst <;> exact Nat.le_refl _) ((h.step (Ren.le_refl β) h.heap).put hd (.bool _))
          · simp [hlt] at hv
      · -- a value
        simp only [step1] at hs
        have hxV := h.ev x x' hx
        cases hx' : Opd.ev st.env x' <;> rw [hx'] at hs hxV <;> try (simp only [reduceCtorEq] at hs; done)
        rename_i f first cap
        obtain ⟨first', cap', e1, e2, e3⟩ : ∃ first' cap' : Array Value, a.eval x = .func (.func f) first' cap' ∧ VL β first first'.toList ∧ VL β cap cap'.toList := by
          generalize a.eval x = q at hxV
          cases hxV with
          | fn h1 h2 => exact ⟨_, _, rfl, h1, h2⟩
        refine entered (args' := (first' ++ c.args.map a.eval) ++ cap') ?_ hs ?_
        · simpa using (e2.append (hVLs hargs)).append e3
        · simp only [execOp, ho, resolve, hcal, Sem.run_bind, e1, Deferred.ofValue, Sem.run_pure, Result.andThen_ok, invoke]
      · -- a method
        simp only [step1] at hs
        have hxV := h.ev x x' hx
        cases hx' : Opd.ev st.env x' <;> rw [hx'] at hs hxV <;> try (simp only [reduceCtorEq] at hs; done)
        rename_i t u
        obtain ⟨u', e1, e2⟩ : ∃ u', a.eval x = .iface t u' ∧ V β u u' := by
          generalize a.eval x = q at hxV
          cases hxV with
          | iface h => exact ⟨_, rfl, h⟩
        simp only [] at hs
        cases hm : meth t m with
        | none => simp [hm] at hs
        | some f =>
          simp only [hm] at hs
          refine entered (args' := #[u'] ++ c.args.map a.eval) ?_ hs ?_
          · simpa using VL.cons e2 (hVLs hargs)
          · have hmm := E.meth t m f hm u' w
            simp only [execOp, ho, resolve, hcal, Sem.run_bind, Sem.run_pure, Result.andThen_ok, invoke, e1]
            have e3 : (#[Value.iface t u'] ++ c.args.map a.eval)[0]? = some (.iface t u') := by rw [Array.getElem?_append, if_pos (by simp)]; rfl
            have e4 : (#[Value.iface t u'] ++ c.args.map a.eval).extract 1 (#[Value.iface t u'] ++ c.args.map a.eval).size = c.args.map a.eval := by
              apply Array.toList_inj.1; simp; exact List.take_of_length_le (by simp)
            simp only [e3, e4, callMethod, Sem.run_bind, hmm, Result.andThen_ok, run_program]
      · exact absurd rfl hr
      · -- panic
        simp only [step1] at hs
        have hV := hVLs hargs
        simp only [List.map_cons, List.map_nil] at hV
        cases hx' : Opd.ev st.env x <;> rw [hx'] at hs hV <;> try (simp only [reduceCtorEq] at hs; done)
        rename_i t u
        simp only [Option.some.injEq, Prod.mk.injEq] at hs
        obtain ⟨rfl, rfl⟩ := hs
        generalize hg : c.args.map a.eval = args' at hV
        obtain ⟨u', e1, e2⟩ : ∃ u', args' = #[.iface t u'] ∧ V β u u' := by
          generalize hq : args'.toList = q at hV
          cases hV with
          | cons h1 hs => cases hs with
            | nil => cases h1 with
              | iface h => exact ⟨_, Array.toList_inj.1 (by simpa using hq), h⟩
        subst e1
        unfold Oper.wp
        have he : (execOp a.eval o).run P w = .halt (.panic (.iface t u')) w := by
          simp only [execOp, ho, resolve, hcal, Sem.run_bind, Sem.run_pure, Result.andThen_ok, invoke, builtin, hg, Instr.panic, goPanic]
          simp [Instr.panic, goPanic, Sem.run]
        rw [he, Oper.upon_panic]
        exact hQ β _ _ a w rfl (Ext.refl _ _) (Nat.le_refl _) h ⟨_, rfl, .iface e2⟩
    · -- defer
      simp only [step1] at hs
      have hxV := h.ev x x' hx
      cases hx' : Opd.ev st.env x' <;> rw [hx'] at hs hxV <;> try (simp only [reduceCtorEq] at hs; done)
      rename_i f first cap
      simp only [Option.some.injEq, Prod.mk.injEq] at hs
      obtain ⟨rfl, rfl⟩ := hs
      obtain ⟨first', cap', e1, e2, e3⟩ : ∃ first' cap' : Array Value, a.eval x = .func (.func f) first' cap' ∧ VL β first first'.toList ∧ VL β cap cap'.toList := by
        generalize a.eval x = q at hxV
        cases hxV with
        | fn h1 h2 => exact ⟨_, _, rfl, h1, h2⟩
      have he : (execOp a.eval o).run P w = .ok (.defer { target := .fn (.func f) cap', args := first' ++ c.args.map a.eval }) w := by
        simp only [execOp, ho, resolve, hcal, Sem.run_bind, e1, Deferred.ofValue, Sem.run_pure, Result.andThen_ok]
      unfold Oper.wp
      rw [he, Oper.upon_defer]
      have hSR : SR P n w0 β { st with dfs := (f, first ++ args.map (Opd.ev st.env) ++ cap) :: st.dfs } { a with defers := { target := .fn (.func f) cap', args := first' ++ c.args.map a.eval } :: a.defers } w :=
        ⟨h.heap, h.glob, h.env, h.size, .cons ⟨cap', rfl, by simpa using (e2.append (hVLs hargs)).append e3⟩ h.dfs⟩
      exact hK β _ w rfl (Ext.refl _ _) (by cases o.dst <;> exact Nat.le_refl _) (hSR.put hd V.undef)
    · -- panic
      simp only [step1] at hs
      have hxV := h.ev x x' hx
      cases hx' : Opd.ev st.env x' <;> rw [hx'] at hs hxV <;> try (simp only [reduceCtorEq] at hs; done)
      rename_i t u
      simp only [Option.some.injEq, Prod.mk.injEq] at hs
      obtain ⟨rfl, rfl⟩ := hs
      obtain ⟨u', e1, e2⟩ : ∃ u', a.eval x = .iface t u' ∧ V β u u' := by
        generalize a.eval x = q at hxV
        cases hxV with
        | iface h => exact ⟨_, rfl, h⟩
      have he : (execOp a.eval o).run P w = .halt (.panic (.iface t u')) w := by
        simp only [execOp, ho, e1]
        simp [Instr.panic, goPanic, Sem.run]
      unfold Oper.wp
      rw [he, Oper.upon_panic]
      exact hQ β _ _ a w rfl (Ext.refl _ _) (Nat.le_refl _) h ⟨_, rfl, .iface e2⟩
end Go.Ab
