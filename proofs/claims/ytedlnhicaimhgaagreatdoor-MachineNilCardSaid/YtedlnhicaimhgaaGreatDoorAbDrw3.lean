import Derived.Test.YtedlnhicaimhgaaGreatDoorAbDrw2
/-!
Allocations, as they are on the other side, whenever they come.
-/
namespace Go.Ab
variable {w0 : World} {β : Ren} {H H' : Heap} {w : World} {P : Program}

theorem run_newRow (t : TypeId) (c' : Array Value) : (newRow t c').run P w = .ok ⟨w.heap.size, 0, none⟩ (w.alloc (.cells c' t (0, 0))) := by simp [newRow]

theorem catOf_bin {op : BinOp} {e : ETy} {x y : Opd} : catOf (.bin op e x y) ≠ .alloc := by cases e <;> simp [catOf]

theorem cConv_noalloc {s d : TypeId} {x : Opd} {i : IOp} (hc : cConv P s d x = some i) : catOf i ≠ .alloc := by
  unfold cConv at hc
  repeat' split at hc
  all_goals first
    | (simp only [Option.some.injEq] at hc; subst hc; simp [catOf]; done)
    | (simp only [reduceCtorEq] at hc; done)
    | skip
  all_goals
    rw [Bool.cond_eq_ite] at hc
    split at hc
    · simp at hc
    · simp only [Option.some.injEq] at hc; subst hc; simp [catOf]

theorem cCall_noalloc {o : Oper} {c : Call} {i : IOp} (hc : cCall P o c = some i) : catOf i ≠ .alloc := by
  by_cases hct : i.ctl = true
  · cases i <;> simp [IOp.ctl] at hct <;> simp [catOf]
  · simp only [cCall, Option.bind_eq_bind, Option.bind_eq_some_iff] at hc
    obtain ⟨args, ha, hc⟩ := hc
    cases hcal : c.callee with
    | invoke x m =>
      simp only [hcal, Option.bind_eq_some_iff, Option.some.injEq] at hc
      obtain ⟨x', hx, rfl⟩ := hc
      simp [catOf]
    | value x =>
      cases x with
      | func f =>
        simp only [hcal] at hc
        cases hf : P.funcs[f]? with
        | none => simp [hf] at hc
        | some fn =>
          simp only [hf] at hc
          (repeat' split at hc) <;> first
            | (simp only [reduceCtorEq] at hc; done)
            | (simp only [Option.some.injEq] at hc; subst hc; simp [catOf]; done)
      | _ =>
        simp only [hcal, Option.bind_eq_some_iff, Option.some.injEq] at hc
        obtain ⟨x', hx, rfl⟩ := hc
        simp [catOf]
    | builtin b =>
      simp only [hcal] at hc
      cases b <;> try (simp only [reduceCtorEq] at hc; done)
      case recover =>
        match args, hc with
        | [], hc => simp only [Option.some.injEq] at hc; subst hc; simp [catOf]
      case panic =>
        match args, hc with
        | [x], hc => simp only [Option.some.injEq] at hc; subst hc; simp [catOf]
      case append =>
        match args, hc with
        | [x, y], hc =>
          simp only [Option.bind_eq_some_iff] at hc
          obtain ⟨t, _, t', _, hc⟩ := hc
          split at hc <;> first
            | (simp only [reduceCtorEq] at hc; done)
            | (simp only [Option.bind_eq_some_iff, Option.some.injEq] at hc; obtain ⟨_, _, _, _, _, _, rfl⟩ := hc; simp [catOf]; done)
      case copy =>
        match args, hc with
        | [x, y], hc =>
          simp only [Option.bind_eq_some_iff] at hc
          obtain ⟨t, _, hc⟩ := hc
          split at hc <;> first
            | (simp only [reduceCtorEq] at hc; done)
            | (simp only [Option.bind_eq_some_iff, Option.some.injEq] at hc; obtain ⟨_, _, rfl⟩ := hc; simp [catOf]; done)
      case len =>
        match args, hc with
        | [x], hc =>
          simp only [Option.bind_eq_some_iff] at hc
          obtain ⟨t, _, hc⟩ := hc
          split at hc <;> first
            | (simp only [reduceCtorEq] at hc; done)
            | (simp only [Option.some.injEq] at hc; subst hc; simp [catOf]; done)
      case max => simp only [Option.some.injEq] at hc; subst hc; simp [catOf]
      case min => simp only [Option.some.injEq] at hc; subst hc; simp [catOf]
      case unsafeSliceData =>
        match args, hc with
        | [x], hc => simp only [Option.some.injEq] at hc; subst hc; simp [catOf]
      case unsafeString =>
        match args, hc with
        | [x, n], hc =>
          simp only [Option.bind_eq_some_iff] at hc
          obtain ⟨t, _, hc⟩ := hc
          split at hc
          · split at hc
            · simp only [Option.some.injEq] at hc; subst hc; simp [catOf]
            · simp at hc
          · simp at hc

/-- A fresh row of cells. -/
def Fresh (P : Program) (β : Ren) (H : Heap) (w : World) (v : AV) (H' : Heap) (s : Sem Next) : Prop :=
  ∃ t cs c' x, H' = H.new t cs ∧ CellRel β cs 0 c' ∧ c'.size = cs.length ∧ s.run P w = .ok (.value x) (w.alloc (.cells c' t (0, 0))) ∧
    ((v = .ptr H.size 0 ∧ x = .pointer (some ⟨w.heap.size, 0, none⟩)) ∨ ∃ k c, k ≤ c ∧ v = .sl H.size 0 k c 0 ∧ x = .slice (some ⟨w.heap.size, 0, none⟩) k c)

theorem alloc_sound {o : Oper} {i : IOp} {ev : Opd → AV} {ρ : Operand → Value} {v : AV} (hc : cOp P o = some i) (hq : catOf i = .alloc) (hev : ∀ x x', cOpd P x = some x' → V β (ev x') (ρ x)) (hv : vop i ev H = some (v, H')) : Fresh P β H w v H' (execOp ρ o) := by
  obtain ⟨dst, op, ty, pos, aft, g⟩ := o
  cases op
  case alloc e =>
    simp only [cOp, Option.bind_eq_bind, Option.bind_eq_some_iff, Option.some.injEq] at hc
    obtain ⟨z, hz, rfl⟩ := hc
    simp only [vop, Option.some.injEq, Prod.mk.injEq] at hv
    obtain ⟨rfl, rfl⟩ := hv
    obtain ⟨zi, zv, a, hi, hz0, ha, rfl, hone, _⟩ := zeroC_spec hz
    have hV := (absV_sound (β := β) zv a ha).cells (cells_ne_any hone)
    exact ⟨e, _, _, _, rfl, CellRel.of_VL hV, hV.size, by simp [execOp, Instr.alloc, run_zeroValue' hi hz0, newVar, run_newRow], .inl ⟨rfl, rfl⟩⟩
  case box e x =>
    simp only [cOp, Option.bind_eq_bind, Option.bind_eq_some_iff, Option.some.injEq] at hc
    obtain ⟨x', hx, rfl⟩ := hc
    simp only [vop] at hv
    cases hall : (ev x').cells.all AV.one with
    | false => simp [hall] at hv
    | true =>
      simp only [hall, cond_true, Option.some.injEq, Prod.mk.injEq] at hv
      obtain ⟨rfl, rfl⟩ := hv
      have hV := (hev x x' hx).cells (cells_ne_any hall)
      exact ⟨e, _, _, _, rfl, CellRel.of_VL hV, hV.size, by simp [execOp, Instr.box, newVar, run_newRow], .inl ⟨rfl, rfl⟩⟩
  case buildSlice t len ps =>
    have hmap : (ps.map fun p => (p.1, ρ p.2)).toList = ps.toList.map fun p => (p.1, ρ p.2) := by simp
    have hev' : ∀ p ∈ ps.toList, ∀ x', cOpd P p.2 = some x' → V β (ev x') (ρ p.2) := fun p _ x' hx => hev p.2 x' hx
    simp only [cOp] at hc
    cases hu : P.underlying t with
    | none => simp [hu] at hc
    | some d =>
      simp only [hu] at hc
      cases d <;> simp only [reduceCtorEq] at hc
      case slice e =>
        simp only [Option.bind_eq_bind, Option.bind_eq_some_iff] at hc
        obtain ⟨s, hs, z, hz, hc⟩ := hc
        obtain ⟨zv, hzr, hzV, hzone, hzs⟩ := zero_VL (β := β) hz
        rw [hs] at hzs
        have hsl : s = z.length := Option.some.inj hzs
        cases hcond : (Nat.ble (len * s) 16777216 && !(Nat.beq s 0)) with
        | false => simp [hcond] at hc
        | true =>
          simp only [hcond, cond_true, Option.bind_eq_some_iff, Option.some.injEq] at hc
          obtain ⟨l, hl, rfl⟩ := hc
          simp only [Bool.and_eq_true, Nat.ble_eq, Bool.not_eq_true'] at hcond
          have hs0 : s ≠ 0 := fun e => by simp [e] at hcond
          simp only [vop] at hv
          cases hf : fillA (repL z len) (l.map fun p => (p.1, p.2.1, ev p.2.2)) with
          | none => simp [hf] at hv
          | some cs =>
            simp only [hf, Option.some.injEq, Prod.mk.injEq] at hv
            obtain ⟨rfl, rfl⟩ := hv
            have hbig : ¬ (len * s > 2 ^ 24) := by have := hcond.1; omega
            have key : ∀ zc : Array Value, ((Array.range (len * s)).map (zc[· % zc.size]!)).toList = repL zv.cells.toList len → ∃ cv', Instr.fill (fun i => some (i * s, s)) ((Array.range (len * s)).map (zc[· % zc.size]!)) (ps.toList.map fun p => (p.1, ρ p.2)) = some cv' ∧ VL β cs cv'.toList := by
              intro zc hzc
              obtain ⟨cv', h1, h2, _⟩ := fill_sound (β := β) (place' := fun i => some (i * s, s)) (fun _ _ hp => hp) _ _ _ _ ((Array.range (len * s)).map (zc[· % zc.size]!)) hl hev' (by rw [hzc]; exact repL_VL hzV len) hf
              exact ⟨cv', h1, h2⟩
            by_cases hl0 : len * s = 0
            · have hlen : len = 0 := (Nat.mul_eq_zero.1 hl0).resolve_right hs0
              obtain ⟨cv', h1, h2⟩ := key #[] (by subst hlen; simp [repL])
              refine ⟨e, cs, cv', _, rfl, CellRel.of_VL h2, h2.size, ?_, .inr ⟨len, len, Nat.le_refl _, rfl, rfl⟩⟩
              simp only [execOp, Instr.buildSlice, Sem.run_bind, run_underlying' hu, Result.andThen_ok, run_sizeOf' hs, if_neg hbig, if_pos hl0, Sem.run_pure, hmap, h1, run_newRow]
            · obtain ⟨cv', h1, h2⟩ := key zv.cells (range_rep zv.cells len s (by
                have := hzV.length
                simp only [Array.length_toList] at this
                omega) hs0)
              refine ⟨e, cs, cv', _, rfl, CellRel.of_VL h2, h2.size, ?_, .inr ⟨len, len, Nat.le_refl _, rfl, rfl⟩⟩
              simp only [execOp, Instr.buildSlice, Sem.run_bind, run_underlying' hu, Result.andThen_ok, run_sizeOf' hs, if_neg hbig, if_neg hl0, hzr, Sem.run_pure, hmap, h1, run_newRow]
  case makeSlice t l c =>
    simp only [cOp] at hc
    cases hu : P.underlying t with
    | none => simp [hu] at hc
    | some d =>
      rw [hu] at hc
      cases d <;> try (simp only [reduceCtorEq] at hc; done)
      rename_i e
      simp only [Option.bind_eq_bind, Option.bind_eq_some_iff, Option.some.injEq] at hc
      obtain ⟨es, hes, by_, hby, z, hz, l', hl, c', hcc, rfl⟩ := hc
      have hlV := hev l l' hl
      have hcV := hev c c' hcc
      simp only [vop] at hv
      cases hl' : ev l' <;> rw [hl'] at hv hlV <;> try (simp only [reduceCtorEq] at hv; done)
      cases hc' : ev c' <;> rw [hc'] at hv hcV <;> try (simp only [reduceCtorEq] at hv; done)
      rename_i k1 a k2 b
      simp only [] at hv
      cases hcond : (decide (0 ≤ a) && decide (a ≤ b) && decide (b ≤ 140737488355328) && decide (b * (by_ : Int) ≤ 140737488355328) && Nat.beq z.length es) with
      | false => simp [hcond] at hv
      | true =>
        simp only [hcond, cond_true, Option.some.injEq, Prod.mk.injEq] at hv
        obtain ⟨rfl, rfl⟩ := hv
        simp only [Bool.and_eq_true, decide_eq_true_eq] at hcond
        obtain ⟨⟨⟨⟨h0, hab⟩, hb⟩, hbb⟩, _⟩ := hcond
        have e1 := hlV.int_inv
        have e2 := hcV.int_inv
        obtain ⟨zv, hzr, hzV, hzone, hzs⟩ := zero_VL (β := β) hz
        rw [hes] at hzs
        have hsl : es = z.length := Option.some.inj hzs
        have hzl := hzV.length
        simp only [Array.length_toList] at hzl
        obtain ⟨i, hi, hbi⟩ : ∃ i, P.info? e = some i ∧ i.bytes = by_ := by
          unfold bytesC at hby
          cases hi : P.info? e with
          | none => simp [hi] at hby
          | some i => simp [hi] at hby; exact ⟨i, rfl, hby⟩
        have wrapA : ∀ n : Int, 0 ≤ n → n ≤ 140737488355328 → IntKind.i64.wrap n = n := by
          intro n h1 h2
          have e1 : (2 ^ IntKind.i64.bits : Int) = 18446744073709551616 := by decide
          have e2 : (2 ^ (IntKind.i64.bits - 1) : Int) = 9223372036854775808 := by decide
          unfold IntKind.wrap
          rw [e1, e2]
          have : n % 18446744073709551616 = n := by omega
          simp only [this]
          rw [if_neg]
          simp; intro _; omega
        have wa := wrapA a h0 (by omega)
        have wb := wrapA b (by omega) hb
        have hmul : (by_ : Int) * b = b * by_ := Int.mul_comm _ _
        have htoo : ((decide (b < 0) || decide ((by_ : Int) * b > 2 ^ 48)) || decide (a < 0) || decide (a > b)) = false := by
          have e3 : (2 ^ 48 : Int) = 281474976710656 := by decide
          rw [hmul, e3]
          simp; omega
        have key : ∀ zc : Array Value, ((Array.range (b.toNat * es)).map (zc[· % zc.size]!)).toList = repL zv.cells.toList b.toNat →
            CellRel β (repL z b.toNat) 0 ((Array.range (b.toNat * es)).map (zc[· % zc.size]!)) := fun zc hzc => CellRel.of_VL (by rw [hzc]; exact repL_VL hzV _)
        have hle : a.toNat ≤ b.toNat := by omega
        by_cases hn : b.toNat * es = 0
        · have hnil : repL zv.cells.toList b.toNat = [] := by
            apply List.eq_nil_of_length_eq_zero
            rw [repL_length]; simp only [Array.length_toList]; rw [← hzl, ← hsl]; exact hn
          refine ⟨e, _, _, _, rfl, key #[] (by rw [hnil, hn]; simp), by rw [repL_length, ← hsl, hn]; simp [hn], ?_, .inr ⟨a.toNat, b.toNat, hle, rfl, rfl⟩⟩
          simp only [execOp, Instr.makeSlice, e1, e2, Sem.run_bind, run_underlying' hu, Result.andThen_ok, run_asInt, run_typeInfo' hi, hbi, wa, wb, htoo, Bool.false_eq_true, if_false, run_askRoom, run_sizeOf' hes, if_pos hn, Sem.run_pure, run_newRow]
        · refine ⟨e, _, _, _, rfl, key zv.cells (range_rep zv.cells b.toNat es (by omega) (fun h => hn (by rw [h]; simp))), by rw [repL_length, ← hsl]; simp, ?_, .inr ⟨a.toNat, b.toNat, hle, rfl, rfl⟩⟩
          simp only [execOp, Instr.makeSlice, e1, e2, Sem.run_bind, run_underlying' hu, Result.andThen_ok, run_asInt, run_typeInfo' hi, hbi, wa, wb, htoo, Bool.false_eq_true, if_false, run_askRoom, run_sizeOf' hes, if_neg hn, hzr, Sem.run_pure, run_newRow]
  case convert s d x =>
    simp only [cOp, Option.bind_eq_bind, Option.bind_eq_some_iff] at hc
    obtain ⟨x', hx, hc⟩ := hc
    exact absurd hq (cConv_noalloc hc)
  case call c => exact absurd hq (cCall_noalloc (o := ⟨dst, .call c, ty, pos, aft, g⟩) hc)
  case binOp op t x y c =>
    simp only [cOp, Option.bind_eq_bind, Option.bind_eq_some_iff, Option.some.injEq] at hc
    obtain ⟨e, he, x', hx, y', hy, rfl⟩ := hc
    exact absurd hq catOf_bin
  case defer c =>
    simp only [cOp] at hc
    cases hcal : c.callee <;> rw [hcal] at hc <;> try (simp only [reduceCtorEq] at hc; done)
    simp only [Option.bind_eq_bind, Option.bind_eq_some_iff, Option.some.injEq] at hc
    obtain ⟨x', hx, a', ha, rfl⟩ := hc
    simp [catOf] at hq
  case makeMap t r =>
    cases r <;> simp only [cOp, reduceCtorEq, Option.some.injEq] at hc
    subst hc; simp [catOf] at hq
  case makeFunc fn first cap =>
    cases fn <;> try (simp only [cOp, reduceCtorEq] at hc; done)
    simp only [cOp, Option.bind_eq_bind, Option.bind_eq_some_iff, Option.some.injEq] at hc
    obtain ⟨f', hf, c', hcp, rfl⟩ := hc
    simp [catOf] at hq
  case next x b =>
    cases b <;> simp only [cOp, Option.bind_eq_bind, Option.bind_eq_some_iff, Option.some.injEq] at hc <;> obtain ⟨_, _, rfl⟩ := hc <;> simp [catOf] at hq
  case build t ps =>
    simp only [cOp, Option.bind_eq_bind, Option.bind_eq_some_iff] at hc
    obtain ⟨z, hz, hc⟩ := hc
    exfalso
    split at hc
    · rename_i fs hu
      cases hall : (fs.toList.all fun f => (sizeC P f.type).isSome) <;> simp only [hall, cond_true, cond_false, reduceCtorEq, Option.bind_eq_some_iff, Option.some.injEq] at hc
      obtain ⟨_, _, rfl⟩ := hc; simp [catOf] at hq
    · simp only [Option.bind_eq_some_iff, Option.some.injEq] at hc
      obtain ⟨_, _, _, _, rfl⟩ := hc; simp [catOf] at hq
    · simp at hc
  case fieldAddr t x k =>
    simp only [cOp, Option.bind_eq_bind, Option.bind_eq_some_iff] at hc
    obtain ⟨fs, hfs, f, hf, m, hm, hc⟩ := hc
    cases hq' : Nat.beq m 0 <;> simp only [hq', cond_true, cond_false, reduceCtorEq, Option.bind_eq_some_iff, Option.some.injEq] at hc
    obtain ⟨_, _, rfl⟩ := hc; simp [catOf] at hq
  all_goals
    exfalso
    try (simp only [cOp, reduceCtorEq] at hc; done)
  all_goals
    simp only [cOp, Option.bind_eq_bind] at hc
    first
      | (simp only [Option.bind_eq_some_iff, Option.some.injEq] at hc; obtain ⟨_, _, rfl⟩ := hc; simp [catOf] at hq; done)
      | (simp only [Option.bind_eq_some_iff, Option.some.injEq] at hc; obtain ⟨_, _, _, _, rfl⟩ := hc; simp [catOf] at hq; done)
      | (simp only [Option.bind_eq_some_iff, Option.some.injEq] at hc; obtain ⟨_, _, _, _, _, _, rfl⟩ := hc; simp [catOf] at hq; done)
      | (simp only [Option.bind_eq_some_iff, Option.some.injEq] at hc; obtain ⟨_, _, _, _, _, _, _, _, rfl⟩ := hc; simp [catOf] at hq; done)
      | (simp only [Option.bind_eq_some_iff, Option.some.injEq] at hc; obtain ⟨_, _, _, _, _, _, _, _, _, _, rfl⟩ := hc; simp [catOf] at hq; done)
      | (split at hc <;> first
          | (simp only [reduceCtorEq] at hc; done)
          | (simp only [Option.bind_eq_some_iff, Option.some.injEq] at hc; obtain ⟨_, _, rfl⟩ := hc; simp [catOf] at hq; done)
          | (simp only [Option.bind_eq_some_iff, Option.some.injEq] at hc; obtain ⟨_, _, _, _, rfl⟩ := hc; simp [catOf] at hq; done)
          | (simp only [Option.bind_eq_some_iff, Option.some.injEq] at hc; obtain ⟨_, _, _, _, _, _, rfl⟩ := hc; simp [catOf] at hq; done)
          | (simp only [Option.bind_eq_some_iff, Option.some.injEq] at hc; obtain ⟨_, _, _, _, _, _, _, _, rfl⟩ := hc; simp [catOf] at hq; done)
          | (simp only [Option.bind_eq_some_iff, Option.some.injEq] at hc; obtain ⟨_, _, _, _, _, _, _, _, _, _, rfl⟩ := hc; simp [catOf] at hq; done))
end Go.Ab
