import Derived.Test.YtedlnhicaimhgaaGreatDoorAbDrw8
namespace Go.Ab
variable {P : Program} {n : Nat} {meth : Nat → String → Option Nat} {call : Nat → List AV → Heap → Option CR}

def isLkp : IOp → Bool
  | .lkp _ _ _ _ _ => true
  | _ => false
theorem cConv_nolkp {s d : TypeId} {x : Opd} {i : IOp} (hc : cConv P s d x = some i) : isLkp i = false := by
  unfold cConv at hc
  repeat' split at hc
  all_goals first
    | (simp only [Option.some.injEq] at hc; subst hc; rfl)
    | (simp only [reduceCtorEq] at hc; done)
    | skip
  all_goals
    rw [Bool.cond_eq_ite] at hc
    split at hc
    · simp at hc
    · simp only [Option.some.injEq] at hc; subst hc; rfl

theorem cCall_nolkp {o : Oper} {c : Call} {i : IOp} (hc : cCall P o c = some i) : isLkp i = false := by
  simp only [cCall, Option.bind_eq_bind, Option.bind_eq_some_iff] at hc
  obtain ⟨args, ha, hc⟩ := hc
  cases hcal : c.callee with
  | invoke x m =>
    simp only [hcal, Option.bind_eq_some_iff, Option.some.injEq] at hc
    obtain ⟨x', hx, rfl⟩ := hc; rfl
  | value x =>
    cases x with
    | func f =>
      simp only [hcal] at hc
      cases hf : P.funcs[f]? with
      | none => simp [hf] at hc
      | some fn =>
        simp only [hf] at hc
        (repeat' split at hc) <;> first
          | (simp only [reduceCtorEq] at hc; done)
          | (simp only [Option.some.injEq] at hc; subst hc; rfl)
    | _ =>
      simp only [hcal, Option.bind_eq_some_iff, Option.some.injEq] at hc
      obtain ⟨x', hx, rfl⟩ := hc; rfl
  | builtin b =>
    simp only [hcal] at hc
    cases b <;> try (simp only [reduceCtorEq] at hc; done)
    case recover =>
      match args, hc with
      | [], hc => simp only [Option.some.injEq] at hc; subst hc; rfl
    case panic =>
      match args, hc with
      | [x], hc => simp only [Option.some.injEq] at hc; subst hc; rfl
    case append =>
      match args, hc with
      | [x, y], hc =>
        simp only [Option.bind_eq_some_iff] at hc
        obtain ⟨t, _, t', _, hc⟩ := hc
        split at hc <;> first
          | (simp only [reduceCtorEq] at hc; done)
          | (simp only [Option.bind_eq_some_iff, Option.some.injEq] at hc; obtain ⟨_, _, _, _, _, _, rfl⟩ := hc; rfl)
    case copy =>
      match args, hc with
      | [x, y], hc =>
        simp only [Option.bind_eq_some_iff] at hc
        obtain ⟨t, _, hc⟩ := hc
        split at hc <;> first
          | (simp only [reduceCtorEq] at hc; done)
          | (simp only [Option.bind_eq_some_iff, Option.some.injEq] at hc; obtain ⟨_, _, rfl⟩ := hc; rfl)
    case len =>
      match args, hc with
      | [x], hc =>
        simp only [Option.bind_eq_some_iff] at hc
        obtain ⟨t, _, hc⟩ := hc
        split at hc <;> first
          | (simp only [reduceCtorEq] at hc; done)
          | (simp only [Option.some.injEq] at hc; subst hc; rfl)
    case max => simp only [Option.some.injEq] at hc; subst hc; rfl
    case min => simp only [Option.some.injEq] at hc; subst hc; rfl
    case unsafeSliceData =>
      match args, hc with
      | [x], hc => simp only [Option.some.injEq] at hc; subst hc; rfl
    case unsafeString =>
      match args, hc with
      | [x, n], hc =>
        simp only [Option.bind_eq_some_iff] at hc
        obtain ⟨t, _, hc⟩ := hc
        split at hc
        · split at hc
          · simp only [Option.some.injEq] at hc; subst hc; rfl
          · simp at hc
        · simp at hc

theorem keyC_plain {t : TypeId} {e : ETy} (h : keyC P t = some e) : e.plain = true := by
  unfold keyC at h
  split at h <;> first | (simp only [Option.some.injEq] at h; subst h; rfl) | simp at h

theorem cOp_lkp {o : Oper} {i : IOp} (hc : cOp P o = some i) : (∃ kt z ok x y, i = .lkp kt z ok x y ∧ kt.plain = true) ∨ isLkp i = false := by
  obtain ⟨dst, op, ty, pos, aft, g⟩ := o
  cases op
  case lookup t x k ok =>
    simp only [cOp] at hc
    cases hu : P.underlying t with
    | none => simp [hu] at hc
    | some d =>
      rw [hu] at hc
      cases d <;> try (simp only [reduceCtorEq] at hc; done)
      simp only [Option.bind_eq_bind, Option.bind_eq_some_iff, Option.some.injEq] at hc
      obtain ⟨kt, hkt, z, hz, x', hx, k', hk, rfl⟩ := hc
      exact .inl ⟨_, _, _, _, _, rfl, keyC_plain hkt⟩
  case convert s d x =>
    simp only [cOp, Option.bind_eq_bind, Option.bind_eq_some_iff] at hc
    obtain ⟨x', hx, hc⟩ := hc
    exact .inr (cConv_nolkp hc)
  case call c => exact .inr (cCall_nolkp (o := ⟨dst, .call c, ty, pos, aft, g⟩) hc)
  case defer c =>
    simp only [cOp] at hc
    cases hcal : c.callee <;> rw [hcal] at hc <;> try (simp only [reduceCtorEq] at hc; done)
    simp only [Option.bind_eq_bind, Option.bind_eq_some_iff, Option.some.injEq] at hc
    obtain ⟨x', hx, a', ha, rfl⟩ := hc
    exact .inr rfl
  case makeMap t r =>
    cases r <;> simp only [cOp, reduceCtorEq, Option.some.injEq] at hc
    subst hc; exact .inr rfl
  case makeFunc fn first cap =>
    cases fn <;> try (simp only [cOp, reduceCtorEq] at hc; done)
    simp only [cOp, Option.bind_eq_bind, Option.bind_eq_some_iff, Option.some.injEq] at hc
    obtain ⟨f', hf, c', hcp, rfl⟩ := hc
    exact .inr rfl
  case next x b =>
    cases b <;> simp only [cOp, Option.bind_eq_bind, Option.bind_eq_some_iff, Option.some.injEq] at hc <;> obtain ⟨_, _, rfl⟩ := hc <;> exact .inr rfl
  case build t ps =>
    simp only [cOp, Option.bind_eq_bind, Option.bind_eq_some_iff] at hc
    obtain ⟨z, hz, hc⟩ := hc
    refine .inr ?_
    split at hc
    · rename_i fs hu
      cases hall : (fs.toList.all fun f => (sizeC P f.type).isSome) <;> simp only [hall, cond_true, cond_false, reduceCtorEq, Option.bind_eq_some_iff, Option.some.injEq] at hc
      obtain ⟨_, _, rfl⟩ := hc; rfl
    · simp only [Option.bind_eq_some_iff, Option.some.injEq] at hc
      obtain ⟨_, _, _, _, rfl⟩ := hc; rfl
    · simp at hc
  case buildSlice t len ps =>
    refine .inr ?_
    simp only [cOp, Option.bind_eq_bind] at hc
    split at hc
    · simp only [Option.bind_eq_some_iff] at hc
      obtain ⟨s, hs, z, hz, hc⟩ := hc
      cases hq : (Nat.ble (len * s) 16777216 && !(Nat.beq s 0)) <;> simp only [hq, cond_true, cond_false, reduceCtorEq, Option.bind_eq_some_iff, Option.some.injEq] at hc
      obtain ⟨_, _, rfl⟩ := hc; rfl
    · simp at hc
  case fieldAddr t x k =>
    simp only [cOp, Option.bind_eq_bind, Option.bind_eq_some_iff] at hc
    obtain ⟨fs, hfs, f, hf, m, hm, hc⟩ := hc
    cases hq' : Nat.beq m 0 <;> simp only [hq', cond_true, cond_false, reduceCtorEq, Option.bind_eq_some_iff, Option.some.injEq] at hc
    obtain ⟨_, _, rfl⟩ := hc; exact .inr rfl
  all_goals
    refine .inr ?_
    try (simp only [cOp, reduceCtorEq] at hc; done)
  all_goals
    simp only [cOp, Option.bind_eq_bind] at hc
    first
      | (simp only [Option.bind_eq_some_iff, Option.some.injEq] at hc; obtain ⟨_, _, rfl⟩ := hc; rfl)
      | (simp only [Option.bind_eq_some_iff, Option.some.injEq] at hc; obtain ⟨_, _, _, _, rfl⟩ := hc; rfl)
      | (simp only [Option.bind_eq_some_iff, Option.some.injEq] at hc; obtain ⟨_, _, _, _, _, _, rfl⟩ := hc; rfl)
      | (simp only [Option.bind_eq_some_iff, Option.some.injEq] at hc; obtain ⟨_, _, _, _, _, _, _, _, rfl⟩ := hc; rfl)
      | (simp only [Option.bind_eq_some_iff, Option.some.injEq] at hc; obtain ⟨_, _, _, _, _, _, _, _, _, _, rfl⟩ := hc; rfl)
      | (split at hc <;> first
          | (simp only [reduceCtorEq] at hc; done)
          | (simp only [Option.bind_eq_some_iff, Option.some.injEq] at hc; obtain ⟨_, _, rfl⟩ := hc; rfl)
          | (simp only [Option.bind_eq_some_iff, Option.some.injEq] at hc; obtain ⟨_, _, _, _, rfl⟩ := hc; rfl)
          | (simp only [Option.bind_eq_some_iff, Option.some.injEq] at hc; obtain ⟨_, _, _, _, _, _, rfl⟩ := hc; rfl)
          | (simp only [Option.bind_eq_some_iff, Option.some.injEq] at hc; obtain ⟨_, _, _, _, _, _, _, _, rfl⟩ := hc; rfl)
          | (simp only [Option.bind_eq_some_iff, Option.some.injEq] at hc; obtain ⟨_, _, _, _, _, _, _, _, _, _, rfl⟩ := hc; rfl))

theorem Reg0.lkp {ops : Array Oper} {l : List DIt} {pre : Nat → List Nat} (R : Reg0 P n ops l pre) {p : Nat} {it : DIt} (h : l[p]? = some it) : LkpOk it.s := by
  obtain ⟨o, _, hc, _⟩ := R.get p it h
  intro kt z ok x i e
  have hco := (cSt_spec hc).1
  rcases cOp_lkp hco with ⟨_, _, _, _, _, e2, hp⟩ | h2
  · rw [e] at e2; cases e2; exact hp
  · rw [e] at h2; simp [isLkp] at h2
end Go.Ab
