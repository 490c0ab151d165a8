import Derived.Test.YtedlnhicaimhgaaGreatDoorAbSnd3
namespace Go.Ab
variable {P : Program} {n : Nat} {w0 : World} {β β' : Ren} {st st' : St} {a : Act} {w w' : World} {meth : Nat → String → Option Nat} {call : Nat → List AV → Heap → Option CR}

theorem cConv_noctl {s d : TypeId} {x : Opd} {i : IOp} (hc : cConv P s d x = some i) : i.ctl = false := by
  unfold cConv at hc
  repeat' split at hc
  all_goals first
    | (simp only [Option.some.injEq] at hc; subst hc; rfl)
    | (simp only [reduceCtorEq] at hc; done)
    | skip
  all_goals
    rw [Bool.cond_eq_ite] at hc
    split at hc
    · simp at hc
    · simp only [Option.some.injEq] at hc; subst hc; rfl

theorem cOp_cases {o : Oper} {i : IOp} (hc : cOp P o = some i) : i.ctl = false ∨ (∃ c, o.op = .call c ∧ cCall P o c = some i) ∨ (∃ c x x' args, o.op = .defer c ∧ c.callee = .value x ∧ cOpd P x = some x' ∧ cOpds P c.args.toList = some args ∧ i = .dfr x' args) ∨
    (∃ x x', o.op = .panic x ∧ cOpd P x = some x' ∧ i = .pan x') := by
  obtain ⟨dst, op, ty, pos, aft, g⟩ := o
  cases op <;> try (simp only [cOp, reduceCtorEq] at hc; done)
  case call c => exact .inr (.inl ⟨c, rfl, hc⟩)
  case defer c =>
    simp only [cOp] at hc
    cases hcal : c.callee <;> rw [hcal] at hc <;> try (simp only [reduceCtorEq] at hc; done)
    simp only [Option.bind_eq_bind, Option.bind_eq_some_iff, Option.some.injEq] at hc
    obtain ⟨x', hx, a', ha, rfl⟩ := hc
    exact .inr (.inr (.inl ⟨c, _, x', a', rfl, hcal, hx, ha, rfl⟩))
  case panic x =>
    simp only [cOp, Option.bind_eq_bind, Option.bind_eq_some_iff, Option.some.injEq] at hc
    obtain ⟨x', hx, rfl⟩ := hc
    exact .inr (.inr (.inr ⟨x, x', rfl, hx, rfl⟩))
  case convert s d x =>
    simp only [cOp, Option.bind_eq_bind, Option.bind_eq_some_iff] at hc
    obtain ⟨x', hx, hc⟩ := hc
    exact .inl (cConv_noctl hc)
  case makeMap t r =>
    cases r <;> simp only [cOp, reduceCtorEq, Option.some.injEq] at hc
    subst hc; exact .inl rfl
  case makeFunc fn first cap =>
    cases fn <;> try (simp only [cOp, reduceCtorEq] at hc; done)
    simp only [cOp, Option.bind_eq_bind, Option.bind_eq_some_iff, Option.some.injEq] at hc
    obtain ⟨f', hf, c', hcp, rfl⟩ := hc
    exact .inl rfl
  case next x b =>
    cases b <;> simp only [cOp, Option.bind_eq_bind, Option.bind_eq_some_iff, Option.some.injEq] at hc <;> obtain ⟨_, _, rfl⟩ := hc <;> exact .inl rfl
  case build t ps =>
    simp only [cOp, Option.bind_eq_bind, Option.bind_eq_some_iff] at hc
    obtain ⟨z, hz, hc⟩ := hc
    refine .inl ?_
    split at hc
    · rename_i fs hu
      cases hall : (fs.toList.all fun f => (sizeC P f.type).isSome) <;> simp only [hall, cond_true, cond_false, reduceCtorEq, Option.bind_eq_some_iff, Option.some.injEq] at hc
      obtain ⟨_, _, rfl⟩ := hc; rfl
    · simp only [Option.bind_eq_some_iff, Option.some.injEq] at hc
      obtain ⟨_, _, _, _, rfl⟩ := hc; rfl
    · simp at hc
  case buildSlice t len ps =>
    refine .inl ?_
    simp only [cOp, Option.bind_eq_bind] at hc
    split at hc
    · simp only [Option.bind_eq_some_iff] at hc
      obtain ⟨s, hs, z, hz, hc⟩ := hc
      cases hq : (Nat.ble (len * s) 16777216 && !(Nat.beq s 0)) <;> simp only [hq, cond_true, cond_false, reduceCtorEq, Option.bind_eq_some_iff, Option.some.injEq] at hc
      obtain ⟨_, _, rfl⟩ := hc; rfl
    · simp at hc
  case fieldAddr t x k =>
    refine .inl ?_
    simp only [cOp, Option.bind_eq_bind, Option.bind_eq_some_iff] at hc
    obtain ⟨fs, hfs, f, hf, m, hm, hc⟩ := hc
    cases hq : Nat.beq m 0 <;> simp only [hq, cond_true, cond_false, reduceCtorEq, Option.bind_eq_some_iff, Option.some.injEq] at hc
    obtain ⟨_, _, rfl⟩ := hc; rfl
  all_goals
    refine .inl ?_
    simp only [cOp, Option.bind_eq_bind] at hc
    first
      | (simp only [Option.bind_eq_some_iff, Option.some.injEq] at hc; obtain ⟨_, _, rfl⟩ := hc; rfl)
      | (simp only [Option.bind_eq_some_iff, Option.some.injEq] at hc; obtain ⟨_, _, _, _, rfl⟩ := hc; rfl)
      | (simp only [Option.bind_eq_some_iff, Option.some.injEq] at hc; obtain ⟨_, _, _, _, _, _, rfl⟩ := hc; rfl)
      | (simp only [Option.bind_eq_some_iff, Option.some.injEq] at hc; obtain ⟨_, _, _, _, _, _, _, _, rfl⟩ := hc; rfl)
      | (simp only [Option.bind_eq_some_iff, Option.some.injEq] at hc; obtain ⟨_, _, _, _, _, _, _, _, _, _, rfl⟩ := hc; rfl)
      | (split at hc <;> first
          | (simp only [reduceCtorEq] at hc; done)
          | (simp only [Option.bind_eq_some_iff, Option.some.injEq] at hc; obtain ⟨_, _, rfl⟩ := hc; rfl)
          | (simp only [Option.bind_eq_some_iff, Option.some.injEq] at hc; obtain ⟨_, _, _, _, rfl⟩ := hc; rfl)
          | (simp only [Option.bind_eq_some_iff, Option.some.injEq] at hc; obtain ⟨_, _, _, _, _, _, rfl⟩ := hc; rfl)
          | (simp only [Option.bind_eq_some_iff, Option.some.injEq] at hc; obtain ⟨_, _, _, _, _, _, _, _, rfl⟩ := hc; rfl)
          | (simp only [Option.bind_eq_some_iff, Option.some.injEq] at hc; obtain ⟨_, _, _, _, _, _, _, _, _, _, rfl⟩ := hc; rfl))

/-- What a call that is no builtin on our side is. -/
theorem cCall_cases {o : Oper} {c : Call} {i : IOp} (hc : cCall P o c = some i) (hct : i.ctl = true) :
    (∃ f fn args, c.callee = .value (.func f) ∧ P.funcs[f]? = some fn ∧ cOpds P c.args.toList = some args ∧ ((i = .call f args) ∨ (fn.name = "strings.Contains" ∧ ∃ x y, args = [x, y] ∧ i = .xcon x y))) ∨
    (∃ x x' args, c.callee = .value x ∧ cOpd P x = some x' ∧ cOpds P c.args.toList = some args ∧ i = .callv x' args) ∨
    (∃ x x' m args, c.callee = .invoke x m ∧ cOpd P x = some x' ∧ cOpds P c.args.toList = some args ∧ i = .inv x' m args) ∨
    (c.callee = .builtin .recover ∧ i = .rcv) ∨ (∃ x, c.callee = .builtin .panic ∧ cOpds P c.args.toList = some [x] ∧ i = .pan x) := by
  simp only [cCall, Option.bind_eq_bind, Option.bind_eq_some_iff] at hc
  obtain ⟨args, ha, hc⟩ := hc
  cases hcal : c.callee with
  | invoke x m =>
    simp only [hcal, Option.bind_eq_some_iff, Option.some.injEq] at hc
    obtain ⟨x', hx, rfl⟩ := hc
    exact .inr (.inr (.inl ⟨x, x', m, args, rfl, hx, ha, rfl⟩))
  | value x =>
    cases x with
    | func f =>
      simp only [hcal] at hc
      cases hf : P.funcs[f]? with
      | none => simp [hf] at hc
      | some fn =>
        simp only [hf] at hc
        refine .inl ⟨f, fn, args, rfl, hf, ha, ?_⟩
        split at hc
        · rename_i hn
          match args, hc with
          | [x, y], hc => simp only [Option.some.injEq] at hc; exact .inr ⟨by simpa using hn, x, y, rfl, hc.symm⟩
        · split at hc
          · simp only [Option.some.injEq] at hc; exact .inl hc.symm
          · split at hc
            · simp at hc
            · split at hc
              · match args, hc with
                | [x, y], hc => simp only [Option.some.injEq] at hc; subst hc; simp [IOp.ctl] at hct
              · split at hc
                · match args, hc with
                  | [x], hc => simp only [Option.some.injEq] at hc; subst hc; simp [IOp.ctl] at hct
                · simp at hc
    | _ =>
      simp only [hcal, Option.bind_eq_some_iff, Option.some.injEq] at hc
      obtain ⟨x', hx, rfl⟩ := hc
      exact .inr (.inl ⟨_, x', args, rfl, hx, ha, rfl⟩)
  | builtin b =>
    simp only [hcal] at hc
    cases b <;> try (simp only [reduceCtorEq] at hc; done)
    case recover =>
      match args, hc with
      | [], hc => simp only [Option.some.injEq] at hc; exact .inr (.inr (.inr (.inl ⟨rfl, hc.symm⟩)))
    case panic =>
      match args, ha, hc with
      | [x], ha, hc => simp only [Option.some.injEq] at hc; exact .inr (.inr (.inr (.inr ⟨x, rfl, ha, hc.symm⟩)))
    case append =>
      match args, hc with
      | [x, y], hc =>
        simp only [Option.bind_eq_some_iff] at hc
        obtain ⟨t, _, t', _, hc⟩ := hc
        split at hc <;> first
          | (simp only [reduceCtorEq] at hc; done)
          | (simp only [Option.bind_eq_some_iff, Option.some.injEq] at hc; obtain ⟨_, _, _, _, _, _, rfl⟩ := hc; simp [IOp.ctl] at hct; done)
    case copy =>
      match args, hc with
      | [x, y], hc =>
        simp only [Option.bind_eq_some_iff] at hc
        obtain ⟨t, _, hc⟩ := hc
        split at hc <;> first
          | (simp only [reduceCtorEq] at hc; done)
          | (simp only [Option.bind_eq_some_iff, Option.some.injEq] at hc; obtain ⟨_, _, rfl⟩ := hc; simp [IOp.ctl] at hct; done)
    case len =>
      match args, hc with
      | [x], hc =>
        simp only [Option.bind_eq_some_iff] at hc
        obtain ⟨t, _, hc⟩ := hc
        split at hc <;> first
          | (simp only [reduceCtorEq] at hc; done)
          | (simp only [Option.some.injEq] at hc; subst hc; simp [IOp.ctl] at hct; done)
    case max => simp only [Option.some.injEq] at hc; subst hc; simp [IOp.ctl] at hct
    case min => simp only [Option.some.injEq] at hc; subst hc; simp [IOp.ctl] at hct
    case unsafeSliceData =>
      match args, hc with
      | [x], hc => simp only [Option.some.injEq] at hc; subst hc; simp [IOp.ctl] at hct
    case unsafeString =>
      match args, hc with
      | [x, n], hc =>
        simp only [Option.bind_eq_some_iff] at hc
        obtain ⟨t, _, hc⟩ := hc
        split at hc
        · split at hc
          · simp only [Option.some.injEq] at hc; subst hc; simp [IOp.ctl] at hct
          · simp at hc
        · simp at hc
end Go.Ab
