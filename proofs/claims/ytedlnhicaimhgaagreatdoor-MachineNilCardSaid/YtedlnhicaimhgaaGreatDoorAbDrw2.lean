import Derived.Test.YtedlnhicaimhgaaGreatDoorAbDrw1
/-!
The kinds of operations: those that look at no heap; those that look at some of it; those that put something new into it.
-/
namespace Go.Ab

def ETy.plain : ETy → Bool
  | .ptr | .st _ => false
  | _ => true
theorem aeq_plain {t : ETy} (h : t.plain = true) (H H2 : Heap) (x y : AV) : aeq H t x y = aeq H2 t x y := by
  cases t <;> simp only [ETy.plain, reduceCtorEq, Bool.false_eq_true] at h
  all_goals
    rw [aeq.eq_def, aeq.eq_def H2]
    cases x <;> first | rfl | (cases y <;> rfl)

theorem abin_plain {t : ETy} (h : t.plain = true) (H H2 : Heap) (op : BinOp) (x y : AV) : abin H op t x y = abin H2 op t x y := by
  unfold abin
  simp only [aeq_plain h H H2]

theorem vop_quiet {o : IOp} {ev : Opd → AV} {H H' : Heap} {v : AV} (hq : catOf o = .quiet) (hv : vop o ev H = some (v, H')) : H' = H ∧ ∀ H2, vop o ev H2 = some (v, H2) := by
  cases o <;> try (simp [catOf] at hq; done)
  case bin op t x y =>
    have ht : t.plain = true := by cases t <;> first | rfl | simp [catOf] at hq
    simp only [vop] at hv ⊢
    cases ha : abin H op t (ev x) (ev y) with
    | none => simp [ha] at hv
    | some u =>
      simp only [ha, Option.some.injEq, Prod.mk.injEq] at hv
      obtain ⟨rfl, rfl⟩ := hv
      exact ⟨rfl, fun H2 => by rw [← abin_plain ht H H2, ha]⟩
  all_goals
    simp only [vop, Bool.cond_eq_ite] at hv ⊢
    refine ⟨?_, fun H2 => ?_⟩
    all_goals
      (repeat' split at hv) <;> first
        | (simp only [reduceCtorEq] at hv; done)
        | (simp only [Option.some.injEq, Prod.mk.injEq] at hv; obtain ⟨rfl, rfl⟩ := hv; first | rfl | simp_all)

/-- A heap that has all that another has. -/
def Heap.More (H H2 : Heap) : Prop := ∀ b o, H.get b = some o → H2.get b = some o
theorem Heap.More.load {H H2 : Heap} (h : Heap.More H H2) {b off n : Nat} {cs : List AV} (hl : H.load b off n = some cs) : H2.load b off n = some cs := by
  unfold Heap.load at hl ⊢
  cases hb : H.get b with
  | none => simp [hb] at hl
  | some o => rw [hb] at hl; rw [h b o hb]; exact hl
theorem findA_plain {t : ETy} (h : t.plain = true) (H H2 : Heap) (k : AV) : ∀ (es : List (AV × AV × Nat)) (i : Nat), findA H t k es i = findA H2 t k es i
  | [], i => rfl
  | (k', v, b) :: es, i => by
    simp only [findA, aeq_plain h H H2, findA_plain h H H2 k es]

theorem vop_load {o : IOp} {ev : Opd → AV} {H H' : Heap} {v : AV} (hq : catOf o = .load) (hk : ∀ kt z ok x i, o = .lkp kt z ok x i → kt.plain = true) (hv : vop o ev H = some (v, H')) : H' = H ∧ ∀ H2, Heap.More H H2 → vop o ev H2 = some (v, H2) := by
  cases o <;> try (simp [catOf] at hq; done)
  case bin op t x y => cases t <;> simp [catOf] at hq
  case ld ag n x =>
    simp only [vop, Bool.cond_eq_ite] at hv ⊢
    split at hv
    · rename_i b off hx
      cases hl : H.load b off n with
      | none => simp [hl] at hv
      | some cs =>
        simp only [hl] at hv
        refine ⟨?_, fun H2 hm => ?_⟩
        · (repeat' split at hv) <;> first | (simp only [reduceCtorEq] at hv; done) | (simp only [Option.some.injEq, Prod.mk.injEq] at hv; exact hv.2.symm)
        · simp only [hm.load hl]
          (repeat' split at hv) <;> first | (simp only [reduceCtorEq] at hv; done) | (simp only [Option.some.injEq, Prod.mk.injEq] at hv; obtain ⟨rfl, rfl⟩ := hv; simp_all)
    · simp at hv
  case cvbs x =>
    simp only [vop, Bool.cond_eq_ite] at hv ⊢
    split at hv
    · rename_i hx
      simp only [Option.some.injEq, Prod.mk.injEq] at hv; obtain ⟨rfl, rfl⟩ := hv
      exact ⟨rfl, fun _ _ => rfl⟩
    · rename_i b off len cap sp hx
      split at hv
      · simp only [Option.some.injEq, Prod.mk.injEq] at hv; obtain ⟨rfl, rfl⟩ := hv
        rename_i h0
        exact ⟨rfl, fun _ _ => by simp [h0]⟩
      · rename_i h0
        cases hl : H.load b off len with
        | none => simp [hl] at hv
        | some cs =>
          simp only [hl] at hv
          cases hby : bytesOf cs with
          | none => simp [hby] at hv
          | some l =>
            simp only [hby, Option.some.injEq, Prod.mk.injEq] at hv; obtain ⟨rfl, rfl⟩ := hv
            exact ⟨rfl, fun H2 hm => by simp [h0, hm.load hl, hby]⟩
    · simp at hv
  case lenm x =>
    simp only [vop] at hv ⊢
    split at hv
    · simp only [Option.some.injEq, Prod.mk.injEq] at hv; obtain ⟨rfl, rfl⟩ := hv
      exact ⟨rfl, fun _ _ => rfl⟩
    · rename_i m hx
      cases hg : H.get m with
      | none => simp [hg] at hv
      | some y =>
        cases y <;> simp only [hg, reduceCtorEq, Option.some.injEq, Prod.mk.injEq] at hv
        obtain ⟨rfl, rfl⟩ := hv
        exact ⟨rfl, fun H2 hm => by rw [hm _ _ hg]⟩
    · simp at hv
  case lkp kt z ok x i =>
    have hp := hk kt z ok x i rfl
    simp only [vop] at hv ⊢
    split at hv
    · simp only [Option.some.injEq, Prod.mk.injEq] at hv; obtain ⟨rfl, rfl⟩ := hv
      exact ⟨rfl, fun _ _ => rfl⟩
    · rename_i m hx
      cases hg : H.get m with
      | none => simp [hg] at hv
      | some y =>
        cases y <;> simp only [hg, reduceCtorEq] at hv
        rename_i es clock
        refine ⟨?_, fun H2 hm => ?_⟩
        · (repeat' split at hv) <;> first | (simp only [reduceCtorEq] at hv; done) | (simp only [Option.some.injEq, Prod.mk.injEq] at hv; exact hv.2.symm)
        · rw [hm _ _ hg]
          simp only [findA_plain hp H2 H]
          (repeat' split at hv) <;> first | (simp only [reduceCtorEq] at hv; done) | (simp only [Option.some.injEq, Prod.mk.injEq] at hv; obtain ⟨rfl, rfl⟩ := hv; simp_all)
    · simp at hv

/-- What an allocation puts there. -/
theorem vop_alloc {o : IOp} {ev : Opd → AV} {H H' : Heap} {v : AV} (hq : catOf o = .alloc) (hv : vop o ev H = some (v, H')) : ∃ t cs, H' = H.new t cs ∧
    ((v = .ptr H.size 0 ∧ ∀ H2, vop o ev H2 = some (.ptr H2.size 0, H2.new t cs)) ∨ (∃ k c, v = .sl H.size 0 k c 0 ∧ ∀ H2, vop o ev H2 = some (.sl H2.size 0 k c 0, H2.new t cs))) := by
  cases o <;> try (simp [catOf] at hq; done)
  case bin op t x y => cases t <;> simp [catOf] at hq
  case new t z =>
    simp only [vop, Option.some.injEq, Prod.mk.injEq] at hv ⊢
    obtain ⟨rfl, rfl⟩ := hv
    exact ⟨t, z, rfl, .inl ⟨rfl, fun _ => by simp⟩⟩
  case box t x =>
    simp only [vop] at hv ⊢
    cases ha : (ev x).cells.all AV.one with
    | false => simp [ha] at hv
    | true =>
      simp only [ha, cond_true, Option.some.injEq, Prod.mk.injEq] at hv ⊢
      obtain ⟨rfl, rfl⟩ := hv
      exact ⟨t, _, rfl, .inl ⟨rfl, fun _ => by simp⟩⟩
  case bsl t len z ps =>
    simp only [vop] at hv ⊢
    cases ha : fillA z (ps.map fun p => (p.1, p.2.1, ev p.2.2)) with
    | none => simp [ha] at hv
    | some cs =>
      simp only [ha, Option.some.injEq, Prod.mk.injEq] at hv ⊢
      obtain ⟨rfl, rfl⟩ := hv
      exact ⟨t, cs, rfl, .inr ⟨len, len, rfl, fun _ => by simp⟩⟩
  case mks t es by_ z l c =>
    simp only [vop, Bool.cond_eq_ite] at hv ⊢
    split at hv
    · split at hv
      · simp only [Option.some.injEq, Prod.mk.injEq] at hv
        obtain ⟨rfl, rfl⟩ := hv
        rename_i h0
        refine ⟨t, _, rfl, .inr ⟨_, _, rfl, fun H2 => ?_⟩⟩
        simp only [h0, if_true]
      · simp at hv
    · simp at hv

end Go.Ab
