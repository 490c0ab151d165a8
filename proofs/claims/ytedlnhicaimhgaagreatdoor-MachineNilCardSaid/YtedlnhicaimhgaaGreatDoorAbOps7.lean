import Derived.Test.YtedlnhicaimhgaaGreatDoorAbOps6
namespace Go.Ab
variable {w0 : World} {β : Ren} {H H' : Heap} {w : World} {P : Program} {dst : Option Tmp} {ty : TypeId} {pos : String} {aft : Array Edge} {g : Option (Nat × Bool)}

theorem s_cpy {at_ : Array TypeId} {t ty e : TypeId} {es : Nat} {x y v : AV} {xv yv : Value} (h : HR w0 β H w) (ha0 : at_[0]? = some t) (ht : P.underlying t = some (.slice e)) (hes : sizeC P e = some es) (hx : V β x xv) (hy : V β y yv)
    (hv : acopy H es x y = some (v, H')) : GoodV P w0 β H v H' (Builtin.copy_ at_ ty #[xv, yv]) w := by
  cases x with
  | nils =>
    cases hx
    simp only [acopy] at hv
    cases hl : srcLen y with
    | none => simp [hl] at hv
    | some m =>
      simp only [hl, Option.some.injEq, Prod.mk.injEq] at hv
      obtain ⟨rfl, rfl⟩ := hv
      obtain ⟨m', hm'⟩ : ∃ m', ∀ w1 : World, (Builtin.lenOf yv).run P w1 = .ok m' w1 := by
        cases y <;> simp only [srcLen, reduceCtorEq] at hl <;> cases hy <;> exact ⟨_, fun w1 => rfl⟩
      have hfc : (Builtin.firstCells es 0 yv).run P w = .ok #[] w := by
        cases y <;> simp only [srcLen, reduceCtorEq] at hl <;> cases hy <;> simp [Builtin.firstCells, loadCells, loadCellsFrom]
      refine GoodV.same h (.int _ _) ?_
      simp [Builtin.copy_, ha0, run_underlying' ht, hm', run_sizeOf' hes, hfc, goInt]
  | sl b off len cap sp =>
    cases hx with
    | sl hβ hlc hcc h3 h4 h5 =>
      rename_i r o a cap'
      simp only [acopy] at hv
      cases hs : srcCells H es (some len) y with
      | none => simp [hs] at hv
      | some q =>
        obtain ⟨n, new⟩ := q
        simp only [hs] at hv
        cases hst : H.store b off new with
        | none => simp [hst] at hv
        | some H1 =>
          simp only [hst, Option.some.injEq, Prod.mk.injEq] at hv
          obtain ⟨rfl, rfl⟩ := hv
          obtain ⟨us, m, hV, hlen, hnm, hfirst⟩ := srcCells_run (P := P) h hs hy
          obtain ⟨w', g1, g2, g3⟩ := h.store (P := P) hst hβ hV
          have hn : Nat.min m len = n := by simp only [capN] at hnm; rw [hnm]; exact Nat.min_comm _ _
          have hfw := hfirst w (fun _ => rfl)
          by_cases hc0 : cap' = 0
          · have hl0 : len = 0 := by omega
            have hn0 : n = 0 := by rw [← hn, hl0]; exact Nat.min_zero _
            have hus : us = [] := by
              subst hn0
              have hf0 := hfw
              cases y <;> simp only [srcCells, reduceCtorEq] at hs
              all_goals cases hy
              all_goals simp [Builtin.firstCells, loadCells, loadCellsFrom] at hf0
              all_goals exact hf0.symm ▸ rfl
            subst hus
            refine ⟨β, _, w', Ext.refl _ _, by omega, g1, .int _ _, ?_⟩
            have hw' : w' = w := by simp [storeCells] at g3; exact g3.symm
            subst hw'
            simp [Builtin.copy_, ha0, run_underlying' ht, hlen, hn, run_sizeOf' hes, hfw, storeCells, goInt]
          · have haa := h4 hc0
            subst haa
            refine ⟨β, _, w', Ext.refl _ _, by omega, g1, .int _ _, ?_⟩
            simp [Builtin.copy_, ha0, run_underlying' ht, hlen, hn, run_sizeOf' hes, hfw, g3, goInt]
  | _ => simp [acopy] at hv

/-! ### Equality -/
theorem HR.plain_ne {a b r o r' o' : Nat} (h : HR w0 β H w) (ha : H.plain a = true) (hb : H.plain b = true) (hne : a ≠ b) (hβa : β a = some (r, o)) (hβb : β b = some (r', o')) : r ≠ r' := by
  unfold Heap.plain at ha hb
  cases hga : H.get a with
  | none => simp [hga] at ha
  | some x =>
    cases x with
    | cells cs t fl =>
      simp only [hga, Bool.and_eq_true, Bool.not_eq_true'] at ha
      cases hgb : H.get b with
      | none => simp [hgb] at hb
      | some y =>
        cases y with
        | cells cs' t' fl' =>
          intro er
          subst er
          obtain ⟨_, _, _, _, _, _, e1, _, _, hal, _⟩ := h.sep a b r o o' _ _ hne hβa hβb hga hgb rfl rfl
          cases e1
          rw [ha.1] at hal; cases hal
        | _ => simp [hgb] at hb
    | _ => simp [hga] at ha
theorem HR.plain_block {a r o : Nat} (h : HR w0 β H w) (ha : H.plain a = true) (hβa : β a = some (r, o)) : ∃ c' t fz, w.heap[r]? = some (.cells c' t fz) ∧ fz.2 ≤ fz.1 := by
  unfold Heap.plain at ha
  cases hga : H.get a with
  | none => simp [hga] at ha
  | some x =>
    cases x with
    | cells cs t fl =>
      simp only [hga, Bool.and_eq_true, Bool.not_eq_true'] at ha
      obtain ⟨c', fz, h1, _, h2, _⟩ := h.cells a cs t fl r o hga hβa
      exact ⟨c', t, fz, h1, h2 ha.2⟩
    | _ => simp [hga] at ha

theorem run_sameAddr {a b : Addr} {ca cb : Array Value} {ta tb : TypeId} {fa fb : Nat × Nat} (ha : w.heap[a.block]? = some (.cells ca ta fa)) (hb : w.heap[b.block]? = some (.cells cb tb fb)) (hfa : fa.2 ≤ fa.1) (hfb : fb.2 ≤ fb.1) :
    (sameAddr a b).run P w = .ok (if a.block = b.block then a == b else false) w := by
  by_cases e : a.block = b.block
  · simp [sameAddr, e]
  · have nf : ∀ (x : Addr) (c : Array Value) (t : TypeId) (f : Nat × Nat), w.heap[x.block]? = some (.cells c t f) → f.2 ≤ f.1 → ∀ off, w.frozen? ⟨x.block, off, none⟩ = false := by
      intro x c t f hx hf off
      simp only [World.frozen?, hx]; simp; omega
    have nf' : ∀ (x : Addr) (c : Array Value) (t : TypeId) (f : Nat × Nat), w.heap[x.block]? = some (.cells c t f) → f.2 ≤ f.1 → w.frozen? x = false := by
      intro x c t f hx hf
      simp only [World.frozen?, hx]; simp; omega
    have sa : w.shape? a.block = some (ta, ca.size) := by simp [World.shape?, ha]
    have sb : w.shape? b.block = some (tb, cb.size) := by simp [World.shape?, hb]
    have e' : (a.block == b.block) = false := by simpa using e
    simp [sameAddr, e, e', nf' a ca ta fa ha hfa, noView, viewAt, sa, sb, mayBeOne, stringish, nf a ca ta fa ha hfa, nf b cb tb fb hb hfb, nf' b cb tb fb hb hfb]

/-- The types' own descriptions, as the comparison reads them. -/
inductive EtyOk (P : Program) : TypeId → ETy → Prop
  | int {t : TypeId} {k : IntKind} (h : P.underlying t = some (.int k)) : EtyOk P t .int
  | bool {t : TypeId} (h : P.underlying t = some .bool) : EtyOk P t .bool
  | str {t : TypeId} (h : P.underlying t = some .string) : EtyOk P t .str
  | ptr {t e : TypeId} {n : Nat} (h : P.underlying t = some (.pointer e)) (hn : sizeC P e = some n) (h0 : n ≠ 0) : EtyOk P t .ptr
  | slc {t e : TypeId} (h : P.underlying t = some (.slice e)) : EtyOk P t .slc
  | mp {t k e : TypeId} (h : P.underlying t = some (.map k e)) : EtyOk P t .mp
  | fn {t : TypeId} {ps rs : Array TypeId} {v : Bool} (h : P.underlying t = some (.func ps rs v)) : EtyOk P t .fn
  | ifc {t : TypeId} {ms : Array (String × TypeId)} (h : P.underlying t = some (.interface ms)) : EtyOk P t .ifc

/-- All but structs. -/
theorem etyC_flat {n : Nat} {t : TypeId} {e : ETy} (h : etyC P n t = some e) : EtyOk P t e ∨ (∃ fs, P.underlying t = some (.struct fs)) := by
  cases n with
  | zero => simp [etyC] at h
  | succ n =>
    simp only [etyC] at h
    cases hu : P.underlying t with
    | none => simp [hu] at h
    | some d =>
      simp only [hu] at h
      cases d <;> simp only [Option.some.injEq, reduceCtorEq] at h
      case int => subst h; exact .inl (.int hu)
      case bool => subst h; exact .inl (.bool hu)
      case string => subst h; exact .inl (.str hu)
      case pointer e0 =>
        cases hs : sizeC P e0 with
        | none => simp [hs] at h
        | some s =>
          simp only [hs] at h
          by_cases h0 : s = 0
          · subst h0; simp at h
          · rw [beq_zero_ne h0] at h
            simp only [cond_false, Option.some.injEq] at h
            subst h; exact .inl (.ptr hu hs h0)
      case slice => subst h; exact .inl (.slc hu)
      case map => subst h; exact .inl (.mp hu)
      case func => subst h; exact .inl (.fn hu)
      case interface => subst h; exact .inl (.ifc hu)
      case struct fs => exact .inr ⟨fs, rfl⟩

set_option maxHeartbeats 2000000 in
theorem run_equalIn_flat {d : Nat} {t : TypeId} {e : ETy} {x y : AV} {xv yv : Value} {r : Bool} (h : HR w0 β H w) (he : EtyOk P t e) (hx : V β x xv) (hy : V β y yv) (ha : aeq H e x y = some r) :
    (Op.equalIn (d + 1) t xv yv).run P w = .ok r w := by
  cases he with
  | int hu =>
    cases x <;> cases y <;> simp only [aeq, reduceCtorEq] at ha
    rename_i k a j b
    cases hx; cases hy
    by_cases hk : k = j
    · subst hk
      simp only [beq_self_eq_true, cond_true, Option.some.injEq] at ha
      subst ha
      simp [Op.equalIn, run_underlying' hu]
    · have : (k == j) = false := by simpa using hk
      rw [this] at ha; simp at ha
  | bool hu =>
    cases x <;> cases y <;> simp only [aeq, reduceCtorEq, Option.some.injEq] at ha
    cases hx; cases hy; subst ha
    simp [Op.equalIn, run_underlying' hu]
  | str hu =>
    cases x <;> cases y <;> simp only [aeq, reduceCtorEq, Option.some.injEq] at ha
    obtain ⟨a, rfl, rfl⟩ := hx.str_inv
    obtain ⟨b, rfl, rfl⟩ := hy.str_inv
    subst ha
    simp only [Op.equalIn, Sem.run_bind, run_underlying' hu, Result.andThen_ok, Sem.run_pure, eqS_bytes]
    congr 1
    rw [show (a == b) = (a.data == b.data) from by cases a; cases b; rfl, Bool.eq_iff_iff, beq_iff_eq, beq_iff_eq]
    exact ⟨fun e => by rw [e], fun e => Array.toList_inj.1 e⟩
  | ptr hu hn h0 =>
    cases x <;> cases y <;> simp only [aeq, reduceCtorEq, Option.some.injEq] at ha
    · cases hx; cases hy; subst ha; simp [Op.equalIn, run_underlying' hu]
    · cases hx; cases hy; subst ha; simp [Op.equalIn, run_underlying' hu]
    · cases hx; cases hy; subst ha; simp [Op.equalIn, run_underlying' hu]
    · rename_i a i b j
      cases hp : (H.plain a && H.plain b) with
      | false => simp [hp] at ha
      | true =>
        simp only [hp, cond_true, Option.some.injEq] at ha
        simp only [Bool.and_eq_true] at hp
        obtain ⟨r1, o1, hβ1, rfl⟩ := hx.ptr_inv
        obtain ⟨r2, o2, hβ2, rfl⟩ := hy.ptr_inv
        obtain ⟨c1, t1, f1, hw1, hf1⟩ := h.plain_block hp.1 hβ1
        obtain ⟨c2, t2, f2, hw2, hf2⟩ := h.plain_block hp.2 hβ2
        have hsame := run_sameAddr (P := P) (a := ⟨r1, o1 + i, none⟩) (b := ⟨r2, o2 + j, none⟩) hw1 hw2 hf1 hf2
        have hb : ∀ p q : Nat, Nat.beq p q = decide (p = q) := fun p q => by rw [Bool.eq_iff_iff]; simp
        simp only [Op.equalIn, Sem.run_bind, run_underlying' hu, Result.andThen_ok, run_sizeOf' hn, ne_eq, h0, not_false_eq_true, if_true, hsame]
        congr 1
        subst ha
        rw [hb, hb]
        by_cases hab : a = b
        · subst hab
          rw [hβ1] at hβ2; cases hβ2
          rw [if_pos rfl, Bool.eq_iff_iff]; simp
        · have := h.plain_ne hp.1 hp.2 hab hβ1 hβ2
          rw [if_neg this]; simp [hab]
  | slc hu =>
    cases x <;> cases y <;> simp only [aeq, reduceCtorEq, Option.some.injEq] at ha <;> cases hx <;> cases hy <;> subst ha <;> simp [Op.equalIn, run_underlying' hu]
  | mp hu =>
    cases x <;> cases y <;> simp only [aeq, reduceCtorEq, Option.some.injEq] at ha <;> cases hx <;> cases hy <;> subst ha <;> simp [Op.equalIn, run_underlying' hu]
  | fn hu =>
    cases x <;> cases y <;> simp only [aeq, reduceCtorEq, Option.some.injEq] at ha <;> cases hx <;> cases hy <;> subst ha <;> simp [Op.equalIn, run_underlying' hu]
  | ifc hu =>
    cases x <;> cases y <;> simp only [aeq, reduceCtorEq, Option.some.injEq] at ha <;> cases hx <;> cases hy <;> subst ha <;> simp [Op.equalIn, run_underlying' hu]
end Go.Ab
