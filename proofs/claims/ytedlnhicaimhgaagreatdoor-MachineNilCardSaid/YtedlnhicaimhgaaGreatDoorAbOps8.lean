import Derived.Test.YtedlnhicaimhgaaGreatDoorAbOps7
namespace Go.Ab
variable {w0 : World} {β : Ren} {H H' : Heap} {w : World} {P : Program} {dst : Option Tmp} {ty : TypeId} {pos : String} {aft : Array Edge} {g : Option (Nat × Bool)}

theorem eqGuard_ne {op : BinOp} (h1 : op ≠ .eql) (h2 : op ≠ .neq) (t : TypeId) (x y : Operand) (a b : Value) (w : World) : (eqGuard op t x y a b).run P w = .ok () w := by
  cases op <;> first | exact absurd rfl h1 | exact absurd rfl h2 | simp [eqGuard]

theorem eqGuard_nil {op : BinOp} {t : TypeId} {x y : Operand} (h : isConst x = true ∨ isConst y = true) (w : World) : (eqGuard op t x y .nilIface .nilIface).run P w = .ok () w := by
  rcases h with h | h
  · cases x <;> simp only [isConst, reduceCtorEq] at h
    cases op <;> simp [eqGuard]
  · cases y <;> simp only [isConst, reduceCtorEq] at h
    cases op <;> cases x <;> simp [eqGuard]
/-- The forms in which the comparison goes by the type. -/
theorem aeq_forms {e : ETy} {x y : AV} {xv yv : Value} {r : Bool} (hx : V β x xv) (hy : V β y yv) (ha : aeq H e x y = some r) (hst : ∀ fs, e ≠ .st fs) :
    ((∃ k a j b, x = .int k a ∧ y = .int j b) ∨ (∃ a b, x = .str a ∧ y = .str b)) ∨
    ((∀ t : TypeId, binOp .eql t xv yv = (do pure (.bool (← Op.equal t xv yv)) : Sem Value)) ∧ (∀ t : TypeId, binOp .neq t xv yv = (do pure (.bool (!(← Op.equal t xv yv))) : Sem Value)) ∧
      ((e = .ifc ∧ xv = .nilIface ∧ yv = .nilIface) ∨ ∀ (op : BinOp) (t : TypeId) (o o' : Operand) (w : World), (eqGuard op t o o' xv yv).run P w = .ok () w)) := by
  unfold aeq at ha
  split at ha <;> first
    | exact .inl (.inl ⟨_, _, _, _, rfl, rfl⟩)
    | exact .inl (.inr ⟨_, _, rfl, rfl⟩)
    | exact absurd rfl (hst _)
    | (cases hx; cases hy; exact .inr ⟨fun _ => rfl, fun _ => rfl, .inl ⟨rfl, rfl, rfl⟩⟩)
    | (cases hx; cases hy; exact .inr ⟨fun _ => rfl, fun _ => rfl, .inr fun op t o o' w => by cases op <;> simp [eqGuard]⟩)
    | simp at ha

theorem s_bin {op : BinOp} {t : TypeId} {x y : Operand} {e : ETy} {a b v : AV} {ρ : Operand → Value} (h : HR w0 β H w) (hc : cBin P op t x y = some e) (hx : V β a (ρ x)) (hy : V β b (ρ y)) (hv : abin H op e a b = some v) :
    GoodV P w0 β H v H (do eqGuard op t x y (ρ x) (ρ y); binOp op t (ρ x) (ρ y)) w := by
  -- integers
  have ints : ∀ k n j m, a = .int k n → b = .int j m → GoodV P w0 β H v H (do eqGuard op t x y (ρ x) (ρ y); binOp op t (ρ x) (ρ y)) w := by
    rintro k n j m rfl rfl
    rw [hx.int_inv, hy.int_inv]
    have hg : (eqGuard op t x y (.int k n) (.int j m)).run P w = .ok () w := by cases op <;> simp [eqGuard]
    simp only [abin] at hv
    have general : op ≠ .shl → op ≠ .shr → (bif k == j then aint op k n m else none) = some v → GoodV P w0 β H v H (do eqGuard op t x y (.int k n) (.int j m); binOp op t (.int k n) (.int j m)) w := by
      intro n1 n2 hv
      by_cases hk : k = j
      · subst hk
        simp only [beq_self_eq_true, cond_true] at hv
        obtain ⟨v', h1, h2, _, _⟩ := s_aint (β := β) (P := P) (w := w) hv
        refine GoodV.same h h1 ?_
        simp only [Sem.run_bind, hg, Result.andThen_ok]
        cases op <;> first | exact absurd rfl n1 | exact absurd rfl n2 | (simpa [binOp] using h2)
      · have : (k == j) = false := by simpa using hk
        rw [this] at hv; simp at hv
    cases op
    case shl =>
      simp only [] at hv
      by_cases hm : m < 0
      · simp [hm] at hv
      · rw [decide_eq_false hm] at hv
        simp only [cond_false, Option.some.injEq] at hv
        subst hv
        exact GoodV.same h (.int _ _) (by simp [hg, binOp, Op.shift, hm])
    case shr =>
      simp only [] at hv
      by_cases hm : m < 0
      · simp [hm] at hv
      · rw [decide_eq_false hm] at hv
        simp only [cond_false, Option.some.injEq] at hv
        subst hv
        exact GoodV.same h (.int _ _) (by simp [hg, binOp, Op.shift, hm])
    all_goals exact general (by simp) (by simp) hv
  have strs : ∀ l l', a = .str l → b = .str l' → GoodV P w0 β H v H (do eqGuard op t x y (ρ x) (ρ y); binOp op t (ρ x) (ρ y)) w := by
    rintro l l' rfl rfl
    obtain ⟨s, e1, rfl⟩ := hx.str_inv
    obtain ⟨s', e2, rfl⟩ := hy.str_inv
    rw [e1, e2]
    have hg : (eqGuard op t x y (.string s) (.string s')).run P w = .ok () w := by cases op <;> simp [eqGuard]
    simp only [abin] at hv
    obtain ⟨v', h1, h2⟩ := s_astr (β := β) (P := P) (w := w) hv
    refine GoodV.same h h1 ?_
    simp only [Sem.run_bind, hg, Result.andThen_ok]
    simpa [binOp] using h2
  -- what goes by the type
  have bytype : ∀ r, aeq H e a b = some r → (op = .eql ∧ v = .bool r ∨ op = .neq ∧ v = .bool (!r)) → GoodV P w0 β H v H (do eqGuard op t x y (ρ x) (ρ y); binOp op t (ρ x) (ρ y)) w := by
    intro r ha hop
    have hce : ∃ e0, etyC P 4 t = some e0 ∧ (∀ fs, e0 ≠ .st fs) ∧ e = e0 ∧ (e0 = .ifc → isConst x = true ∨ isConst y = true) := by
      have : cEq P t x y = some e := by rcases hop with ⟨rfl, _⟩ | ⟨rfl, _⟩ <;> exact hc
      unfold cEq at this
      cases he : etyC P 4 t with
      | none => simp [he] at this
      | some e0 =>
        rw [he] at this
        cases e0 <;> simp only [Option.some.injEq, reduceCtorEq] at this
        case ifc =>
          cases hcc : (isConst x || isConst y) with
          | false => simp [hcc] at this
          | true =>
            simp only [hcc, cond_true, Option.some.injEq] at this
            exact ⟨.ifc, rfl, fun _ => by simp, this.symm, fun _ => by simpa using hcc⟩
        all_goals exact ⟨_, rfl, fun _ => by simp, this.symm, fun h => by cases h⟩
    obtain ⟨e0, he, hst, rfl, hconst⟩ := hce
    have hok : EtyOk P t e := by
      rcases etyC_flat he with h1 | ⟨fs, h1⟩
      · exact h1
      · simp only [etyC, h1] at he
        revert he
        cases (P.stoodInHeld t || P.eqGuardType P.depth t) <;> simp only [cond_true, cond_false]
        · split
          · intro he; cases he; exact absurd rfl (hst _)
          · intro he; cases he
        · intro he; cases he
    rcases aeq_forms (P := P) hx hy ha hst with (⟨k, n, j, m, e1, e2⟩ | ⟨l, l', e1, e2⟩) | ⟨f1, f2, f3⟩
    · exact ints k n j m e1 e2
    · exact strs l l' e1 e2
    · have hg : (eqGuard op t x y (ρ x) (ρ y)).run P w = .ok () w := by
        rcases f3 with ⟨e1, e2, e3⟩ | f3
        · rw [e2, e3]
          exact eqGuard_nil (hconst e1) w
        · exact f3 op t x y w
      have heq := run_equalIn_flat (P := P) (d := 9999) h hok hx hy ha
      rcases hop with ⟨rfl, rfl⟩ | ⟨rfl, rfl⟩
      · refine GoodV.same h (.bool r) ?_
        rw [Sem.run_bind, hg]; simp only [Result.andThen_ok]
        rw [f1 t]; simp [Op.equal, Op.maxDepth, heq]
      · refine GoodV.same h (.bool (!r)) ?_
        rw [Sem.run_bind, hg]; simp only [Result.andThen_ok]
        rw [f2 t]; simp [Op.equal, Op.maxDepth, heq]
  unfold abin at hv
  split at hv
  · rename_i k n j m; exact ints k n j m rfl rfl
  · rename_i l l'; exact strs l l' rfl rfl
  · cases op <;> simp only [reduceCtorEq] at hv
    all_goals
      cases hq : aeq H e a b with
      | none => simp [hq] at hv
      | some r =>
        simp only [hq, Option.some.injEq] at hv
        subst hv
        first
          | exact bytype r hq (.inl ⟨rfl, rfl⟩)
          | exact bytype r hq (.inr ⟨rfl, rfl⟩)

theorem s_un {op : UnOp} {x v : AV} {xv : Value} (h : HR w0 β H w) (hx : V β x xv) (hv : aun op x = some v) : GoodV P w0 β H v H (Op.unary op xv) w := by
  cases op <;> cases x <;> simp only [aun, Option.some.injEq, reduceCtorEq] at hv <;> cases hx <;> subst hv
  · exact GoodV.same h (.int _ _) (by simp [Op.unary, Op.intArith])
  · exact GoodV.same h (.int _ _) (by simp [Op.unary, Op.intBits])
  · exact GoodV.same h (.bool _) (by simp [Op.unary])

theorem ammx_run {mx : Bool} : ∀ (l : List AV) (lv : List Value) (x : AV) (xv : Value) (v : AV), VL β l lv → V β x xv → ammx mx x l = some v →
    ∃ v', V β v v' ∧ (lv.foldlM (if mx then Builtin.max2 else Builtin.min2) xv).run P w = .ok v' w
  | [], _, x, xv, v, .nil, hx, hv => by
    have : v = x := by cases x <;> simp [ammx] at hv <;> exact hv.symm
    subst this; exact ⟨xv, hx, by simp⟩
  | y :: l, _, x, xv, v, .cons hy hs, hx, hv => by
    cases x <;> cases y <;> simp only [ammx, reduceCtorEq] at hv
    rename_i k a j b
    by_cases hk : k = j
    · subst hk
      simp only [beq_self_eq_true, cond_true] at hv
      cases hx; cases hy
      cases mx with
      | true =>
        simp only [cond_true] at hv
        obtain ⟨v', h1, h2⟩ := ammx_run l _ _ _ v hs (.int k _) hv
        exact ⟨v', h1, by simp only [if_true] at h2 ⊢; simp [Builtin.max2, h2]⟩
      | false =>
        simp only [cond_false] at hv
        obtain ⟨v', h1, h2⟩ := ammx_run l _ _ _ v hs (.int k _) hv
        exact ⟨v', h1, by simp only [Bool.false_eq_true, if_false] at h2 ⊢; simp [Builtin.min2, h2]⟩
    · have : (k == j) = false := by simpa using hk
      rw [this] at hv; simp at hv
end Go.Ab
