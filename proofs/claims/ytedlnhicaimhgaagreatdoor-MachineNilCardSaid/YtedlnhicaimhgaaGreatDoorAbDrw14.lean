import Derived.Test.YtedlnhicaimhgaaGreatDoorAbDrw13
/-!
Two stores that may come in either order; the region as a whole.
-/
namespace Go.Ab
variable {P : Program} {n : Nat} {w0 : World} {meth : Nat → String → Option Nat} {call : Nat → List AV → Heap → Option CR}
variable {ops : Array Oper} {l : List DIt} {pre : Nat → List Nat} {N : Nat} {T : Nat → St} {e0 : Env} {β0 : Ren} {k0 : Nat}

def Fell (H : Heap) (fl : Fl) (c : Nat) : Prop := fl.alone = false ∧ ∃ cs2 t2 fl2, H.get c = some (.cells cs2 t2 fl2) ∧ fl2.fam = fl.fam

theorem own_get {H H' : Heap} {b : Nat} {cs : List AV} {t : TypeId} {fl : Fl} (h : H.own b = some (H', cs, t, fl)) :
    ∃ fl0, H.get b = some (.cells cs t fl0) ∧ fl0.fam = fl.fam ∧ fl = { fl0 with alone := true } ∧ H'.size = H.size ∧ ∀ c, c ≠ b → (Fell H fl0 c → H'.get c = some .dead) ∧ (¬ Fell H fl0 c → H'.get c = H.get c) := by
  unfold Heap.own at h
  cases hb : H.get b with
  | none => simp [hb] at h
  | some o =>
    cases o <;> simp only [hb, reduceCtorEq] at h
    rename_i cs0 t0 fl0
    cases htf : (fl0.tip && !fl0.frz) with
    | false => simp [htf] at h
    | true =>
      simp only [htf, cond_true] at h
      cases hal : fl0.alone with
      | true =>
        simp only [hal, cond_true, Option.some.injEq, Prod.mk.injEq] at h
        obtain ⟨rfl, rfl, rfl, rfl⟩ := h
        refine ⟨fl0, rfl, rfl, ?_, rfl, fun c _ => ⟨fun hf => ?_, fun _ => rfl⟩⟩
        · obtain ⟨f1, f2, f3, f4, f5⟩ := fl0; simp only at hal; subst hal; rfl
        · rw [hf.1] at hal; cases hal
      | false =>
        simp only [hal, cond_false, Option.some.injEq, Prod.mk.injEq] at h
        obtain ⟨rfl, rfl, rfl, rfl⟩ := h
        refine ⟨fl0, rfl, rfl, rfl, by rw [Heap.size_put, Heap.size_fell], fun c hc => ?_⟩
        rw [Heap.get_put, if_neg (fun e => hc e.1)]
        rcases Heap.get_fell fl0.fam b H.size H c with ⟨h1, h2⟩ | ⟨h1, h2⟩
        · exact ⟨fun _ => h2, fun hn => absurd ⟨hal, h1.2.2⟩ hn⟩
        · refine ⟨fun hf => ?_, fun _ => h2⟩
          obtain ⟨_, cs2, t2, fl2, e1, e2⟩ := hf
          exact absurd ⟨Heap.get_lt e1, hc, cs2, t2, fl2, e1, e2⟩ h1

/-- What a store does to each block. -/
theorem store_get {H H' : Heap} {b off : Nat} {vs : List AV} (h : H.store b off vs = some H') (hne : vs ≠ []) :
    ∃ cs t fl cs', H.get b = some (.cells cs t fl) ∧ setL cs off vs = some cs' ∧ H'.size = H.size ∧ H'.get b = some (.cells cs' t { fl with alone := true }) ∧
      ∀ c, c ≠ b → (Fell H fl c → H'.get c = some .dead) ∧ (¬ Fell H fl c → H'.get c = H.get c) := by
  cases vs with
  | nil => exact absurd rfl hne
  | cons v vs =>
    simp only [Heap.store] at h
    cases ho : H.own b with
    | none => simp [ho] at h
    | some q =>
      obtain ⟨H1, cs, t, fl⟩ := q
      simp only [ho] at h
      cases hs : setL cs off (v :: vs) with
      | none => simp [hs] at h
      | some cs' =>
        simp only [hs, Option.some.injEq] at h
        subst h
        obtain ⟨fl0, h1, h2, rfl, h4, h5⟩ := own_get ho
        refine ⟨cs, t, fl0, cs', h1, hs, by rw [Heap.size_put, h4], ?_, fun c hc => ?_⟩
        · rw [Heap.get_put, if_pos ⟨rfl, by rw [h4]; exact Heap.get_lt h1⟩]
        · rw [Heap.get_put, if_neg (fun e => hc e.1)]; exact h5 c hc

theorem store_nil {H H' : Heap} {b off : Nat} (h : H.store b off [] = some H') : H' = H := by
  simp only [Heap.store, Option.some.injEq] at h; exact h.symm

/-- Stores into two families, in either order. -/
theorem store_comm {H HA HB HAB HBA : Heap} {ba bb oa ob : Nat} {va vb : List AV} {csA csB : List AV} {tA tB : TypeId} {fA fB : Fl} (gA : H.get ba = some (.cells csA tA fA)) (gB : H.get bb = some (.cells csB tB fB)) (hfam : fA.fam ≠ fB.fam)
    (h1 : H.store ba oa va = some HA) (h2 : HA.store bb ob vb = some HAB) (h3 : H.store bb ob vb = some HB) (h4 : HB.store ba oa va = some HBA) : HAB.size = HBA.size ∧ ∀ c, HAB.get c = HBA.get c := by
  by_cases ea : va = []
  · subst ea
    rw [store_nil h1] at h2
    rw [store_nil h4]
    rw [h2] at h3; cases h3; exact ⟨rfl, fun _ => rfl⟩
  by_cases eb : vb = []
  · subst eb
    rw [store_nil h3] at h4
    rw [store_nil h2]
    rw [h4] at h1; cases h1; exact ⟨rfl, fun _ => rfl⟩
  have hab : ba ≠ bb := fun e => by subst e; rw [gA] at gB; cases gB; exact hfam rfl
  obtain ⟨cs1, t1, f1, c1, a1, a2, a3, a4, a5⟩ := store_get h1 ea
  rw [gA] at a1; cases a1
  obtain ⟨cs2, t2, f2, c2, b1, b2, b3, b4, b5⟩ := store_get h3 eb
  rw [gB] at b1; cases b1
  obtain ⟨cs3, t3, f3, c3, d1, d2, d3, d4, d5⟩ := store_get h2 eb
  obtain ⟨cs4, t4, f4, c4, g1, g2, g3, g4, g5⟩ := store_get h4 ea
  have nfB : ¬ Fell H fA bb := fun ⟨_, _, _, _, e1, e2⟩ => by rw [gB] at e1; cases e1; exact hfam e2.symm
  have nfA : ¬ Fell H fB ba := fun ⟨_, _, _, _, e1, e2⟩ => by rw [gA] at e1; cases e1; exact hfam e2
  rw [(a5 bb (Ne.symm hab)).2 nfB, gB] at d1; cases d1
  rw [(b5 ba hab).2 nfA, gA] at g1; cases g1
  rw [b2] at d2; cases d2
  rw [a2] at g2; cases g2
  refine ⟨by rw [d3, g3, a3, b3], fun c => ?_⟩
  by_cases hca : c = ba
  · subst hca
    rw [g4, (d5 c hab).2 ?_, a4]
    rintro ⟨_, _, _, _, e1, e2⟩; rw [a4] at e1; cases e1; exact hfam e2
  by_cases hcb : c = bb
  · subst hcb
    rw [d4, (g5 c (Ne.symm hab)).2 ?_, b4]
    rintro ⟨_, _, _, _, e1, e2⟩; rw [b4] at e1; cases e1; exact hfam e2.symm
  by_cases hfa : Fell H fA c
  · have e1 : HA.get c = some .dead := (a5 c hca).1 hfa
    have n2 : ¬ Fell H fB c := fun ⟨_, _, _, _, q1, q2⟩ => by
      obtain ⟨_, _, _, _, p1, p2⟩ := hfa
      rw [p1] at q1; cases q1; exact hfam (p2.symm.trans q2)
    have e2 : HB.get c = H.get c := (b5 c hcb).2 n2
    have n3 : ¬ Fell HA fB c := fun ⟨_, _, _, _, q1, _⟩ => by rw [e1] at q1; cases q1
    have e3 : HAB.get c = some .dead := by rw [(d5 c hcb).2 n3, e1]
    have f3 : Fell HB fA c := ⟨hfa.1, by rw [e2]; exact hfa.2⟩
    rw [e3, (g5 c hca).1 f3]
  · have e1 : HA.get c = H.get c := (a5 c hca).2 hfa
    by_cases hfb : Fell H fB c
    · have e2 : HB.get c = some .dead := (b5 c hcb).1 hfb
      have f3 : Fell HA fB c := ⟨hfb.1, by rw [e1]; exact hfb.2⟩
      have n3 : ¬ Fell HB fA c := fun ⟨_, _, _, _, q1, _⟩ => by rw [e2] at q1; cases q1
      rw [(d5 c hcb).1 f3, (g5 c hca).2 n3, e2]
    · have e2 : HB.get c = H.get c := (b5 c hcb).2 hfb
      have n3 : ¬ Fell HA fB c := fun ⟨q0, q⟩ => hfb ⟨q0, by rw [← e1]; exact q⟩
      have n4 : ¬ Fell HB fA c := fun ⟨q0, q⟩ => hfa ⟨q0, by rw [← e2]; exact q⟩
      rw [(d5 c hcb).2 n3, (g5 c hca).2 n4, e1, e2]

/-- A store. -/
theorem stepG_st {k : Nat} {x v : Opd} {st st' : St} {p : Option AV} (h : stepG meth call ⟨none, .st k x v, none⟩ st = some (p, st')) :
    p = none ∧ ∃ b off H', Opd.ev st.env x = .ptr b off ∧ st.heap.store b off (Opd.ev st.env v).cells = some H' ∧ st' = { st with heap := H' } := by
  unfold stepG at h
  simp only [blindA, wantedA, cond_false, cond_true] at h
  rw [step1_vop (.inl rfl)] at h
  simp only [vop] at h
  cases hx : Opd.ev st.env x <;> rw [hx] at h <;> try (simp only [reduceCtorEq] at h; done)
  rename_i b off
  simp only at h
  cases hl : Nat.beq (Opd.ev st.env v).cells.length k with
  | false => simp [hl] at h
  | true =>
    simp only [hl, cond_true] at h
    cases hs : st.heap.store b off (Opd.ev st.env v).cells with
    | none => simp [hs] at h
    | some H' =>
      simp only [hs, Option.some.injEq, Prod.mk.injEq] at h
      obtain ⟨rfl, rfl⟩ := h
      exact ⟨rfl, b, off, H', rfl, hs, rfl⟩

theorem famAt_spec {H : Heap} {v : AV} {f : Nat} (h : famAt H v = some f) : ∃ b off cs t fl, v = .ptr b off ∧ H.get b = some (.cells cs t fl) ∧ fl.fam = f := by
  unfold famAt at h
  split at h
  · split at h
    · rename_i b off _ cs t fl e
      simp only [Option.some.injEq] at h
      exact ⟨b, off, cs, t, fl, rfl, e, h⟩
    · simp at h
  · simp at h

theorem pairOk_spec {a b : DIt} {st stA stAB : St} (h : pairOk meth call a b st = true) (hA : stepG meth call a.s st = some (none, stA)) (hB : stepG meth call b.s stA = some (none, stAB)) :
    ∃ stB stBA, stepG meth call b.s st = some (none, stB) ∧ flOk stB b.fl = true ∧ faOk st stB b.fa = true ∧ stepG meth call a.s stB = some (none, stBA) ∧ flOk stBA a.fl = true ∧ faOk stB stBA a.fa = true ∧
      stBA.env = st.env ∧ stAB.env = st.env ∧ stBA.dfs = stAB.dfs ∧ stAB.heap.size = stBA.heap.size ∧ ∀ c, stAB.heap.get c = stBA.heap.get c := by
  unfold pairOk at h
  split at h
  · rename_i ka xa va kb xb vb ea eb
    simp only [Bool.and_eq_true] at h
    obtain ⟨hf, h⟩ := h
    split at hf
    · rename_i f g e1 e2
      cases hs : stepG meth call b.s st with
      | none => simp [hs] at h
      | some q =>
        obtain ⟨p, stB⟩ := q
        cases p with
        | some u => simp [hs] at h
        | none =>
          simp only [hs, Bool.and_eq_true] at h
          obtain ⟨⟨h1, h2⟩, h3⟩ := h
          cases hs2 : stepG meth call a.s stB with
          | none => simp [hs2] at h3
          | some q2 =>
            obtain ⟨p2, stBA⟩ := q2
            cases p2 with
            | some u => simp [hs2] at h3
            | none =>
              simp only [hs2, Bool.and_eq_true] at h3
              rw [ea] at hA hs2; rw [eb] at hB hs
              obtain ⟨_, ba, oa, HA, a1, a2, rfl⟩ := stepG_st hA
              obtain ⟨_, bb, ob, HAB, b1, b2, rfl⟩ := stepG_st hB
              obtain ⟨_, bb', ob', HB, c1, c2, rfl⟩ := stepG_st hs
              obtain ⟨_, ba', oa', HBA, d1, d2, rfl⟩ := stepG_st hs2
              simp only at b1 d1
              rw [c1] at b1; cases b1
              rw [a1] at d1; cases d1
              obtain ⟨x1, x2, cs1, t1, f1, y1, y2, y3⟩ := famAt_spec e1
              rw [a1] at y1; cases y1
              obtain ⟨x1', x2', cs2, t2, f2, z1, z2, z3⟩ := famAt_spec e2
              rw [c1] at z1; cases z1
              have hne : f1.fam ≠ f2.fam := by
                intro e; rw [y3, z3] at e; subst e; simp at hf
              obtain ⟨m1, m2⟩ := store_comm y2 z2 hne a2 b2 c2 d2
              exact ⟨_, _, rfl, h1, h2, by rw [ea]; exact hs2, h3.1, h3.2, rfl, rfl, rfl, m1, m2⟩
    · simp at hf
  · simp at h

theorem pairOk_st {a b : DIt} {st : St} (h : pairOk meth call a b st = true) : (∃ k x v, a.s = ⟨none, .st k x v, none⟩) ∧ ∃ k x v, b.s = ⟨none, .st k x v, none⟩ := by
  unfold pairOk at h
  split at h
  · rename_i ka xa va kb xb vb ea eb
    exact ⟨⟨_, _, _, ea⟩, _, _, _, eb⟩
  · simp at h

/-- The two last change places. -/
theorem swap_get {l : List DIt} {q : Nat} {a b b' a' : DIt} (ha : l[q]? = some a) (hb : l[q + 1]? = some b) (hl : l.length = q + 2) : ∀ p, (l.take q ++ [b', a'])[p]? = if p < q then l[p]? else if p = q then some b' else if p = q + 1 then some a' else none := by
  intro p
  have hlen : (l.take q).length = q := by rw [List.length_take]; omega
  by_cases h1 : p < q
  · rw [if_pos h1, List.getElem?_append_left (by omega), List.getElem?_take, if_pos h1]
  · rw [if_neg h1, List.getElem?_append_right (by omega), hlen]
    by_cases h2 : p = q
    · subst h2; simp
    · rw [if_neg h2]
      by_cases h3 : p = q + 1
      · subst h3; rw [if_pos rfl]; simp
      · rw [if_neg h3]
        rw [List.getElem?_eq_none]; simp; omega

theorem reg_swap (R : Reg0 P n ops l pre) {q : Nat} {a b : DIt} (ha : l[q]? = some a) (hb : l[q + 1]? = some b) (hl : l.length = q + 2) (hno : a.ix ∉ pre b.ix) (hae : catOf a.s.op = .act) (hbe : catOf b.s.op = .act) : Reg0 P n ops (l.take q ++ [b, a]) pre := by
  have hg := swap_get (b' := b) (a' := a) ha hb hl
  -- where an item of the one stands in the other
  have to : ∀ p it, (l.take q ++ [b, a])[p]? = some it → ∃ p', l[p']? = some it ∧ ((p < q ∧ p' = p) ∨ (p = q ∧ p' = q + 1 ∧ it = b) ∨ (p = q + 1 ∧ p' = q ∧ it = a)) := by
    intro p it h
    rw [hg] at h
    by_cases h1 : p < q
    · rw [if_pos h1] at h; exact ⟨p, h, .inl ⟨h1, rfl⟩⟩
    · rw [if_neg h1] at h
      by_cases h2 : p = q
      · rw [if_pos h2] at h; cases h; exact ⟨q + 1, hb, .inr (.inl ⟨h2, rfl, rfl⟩)⟩
      · rw [if_neg h2] at h
        by_cases h3 : p = q + 1
        · rw [if_pos h3] at h; cases h; exact ⟨q, ha, .inr (.inr ⟨h3, rfl, rfl⟩)⟩
        · rw [if_neg h3] at h; cases h
  have back : ∀ p it, l[p]? = some it → ∃ p', (l.take q ++ [b, a])[p']? = some it ∧ ((p < q ∧ p' = p) ∨ (p = q + 1 ∧ p' = q ∧ it = b) ∨ (p = q ∧ p' = q + 1 ∧ it = a)) := by
    intro p it h
    have hp : p < q + 2 := by rw [← hl]; exact (List.getElem?_eq_some_iff.1 h).1
    by_cases h1 : p < q
    · exact ⟨p, by rw [hg, if_pos h1]; exact h, .inl ⟨h1, rfl⟩⟩
    · by_cases h2 : p = q
      · subst h2; rw [ha] at h; cases h
        exact ⟨p + 1, by rw [hg, if_neg (by omega), if_neg (by omega), if_pos rfl], .inr (.inr ⟨rfl, rfl, rfl⟩)⟩
      · have h3 : p = q + 1 := by omega
        subst h3; rw [hb] at h; cases h
        exact ⟨q, by rw [hg, if_neg (by omega), if_pos rfl], .inr (.inl ⟨rfl, rfl, rfl⟩)⟩
  refine { get := ?_, pos := ?_, inj := ?_, closed := R.closed, edge := R.edge, ahead := ?_, reads := ?_, dsts := ?_, fl := ?_, fa := ?_ }
  · intro p it h; obtain ⟨p', h', _⟩ := to p it h; exact R.get p' it h'
  · intro i hi
    obtain ⟨p, it, h, e⟩ := R.pos i hi
    obtain ⟨p', h', _⟩ := back p it h
    exact ⟨p', it, h', e⟩
  · intro p1 p2 x y h1 h2 e
    obtain ⟨p1', k1, c1⟩ := to p1 x h1
    obtain ⟨p2', k2, c2⟩ := to p2 y h2
    have := R.inj p1' p2' x y k1 k2 e
    omega
  · intro p it j h hj
    obtain ⟨p', k, c⟩ := to p it h
    obtain ⟨r, x, hr, hx, rfl⟩ := R.ahead p' it j k hj
    obtain ⟨r', hx', cr⟩ := back r x hx
    refine ⟨r', x, ?_, hx', rfl⟩
    rcases c with ⟨c1, c2⟩ | ⟨c1, c2, rfl⟩ | ⟨c1, c2, rfl⟩ <;> rcases cr with ⟨d1, d2⟩ | ⟨d1, d2, rfl⟩ | ⟨d1, d2, rfl⟩ <;> first | omega | exact absurd hj hno
  · intro p it t r x h ht hx hd
    obtain ⟨p', k, _⟩ := to p it h
    obtain ⟨r', k2, _⟩ := to r x hx
    exact R.reads p' it t r' x k ht k2 hd
  · intro p it r x t h hx h1 h2
    obtain ⟨p', k, c⟩ := to p it h
    obtain ⟨r', k2, c2⟩ := to r x hx
    have := R.dsts p' it r' x t k k2 h1 h2
    omega
  · intro p it r x h hrp hx hc hn
    obtain ⟨p', k, c⟩ := to p it h
    obtain ⟨r', k2, c2⟩ := to r x hx
    refine R.fl p' it r' x k ?_ k2 hc hn
    rcases c2 with ⟨c1, c3⟩ | ⟨c1, c3, rfl⟩ | ⟨c1, c3, rfl⟩
    · omega
    · rw [hbe] at hc; cases hc
    · rw [hae] at hc; cases hc
  · intro p it r x d h hrp hx hc hn hd
    obtain ⟨p', k, c⟩ := to p it h
    obtain ⟨r', k2, c2⟩ := to r x hx
    refine R.fa p' it r' x d k ?_ k2 hc hn hd
    rcases c2 with ⟨c1, c3⟩ | ⟨c1, c3, rfl⟩ | ⟨c1, c3, rfl⟩
    · omega
    · rw [hbe] at hc; cases hc
    · rw [hae] at hc; cases hc

theorem replicate_Ls {k i : Nat} : ¬ Ls (Array.replicate k false) i := by
  unfold Ls
  rw [Array.getD_eq_getD_getElem?, Array.getElem?_replicate]
  split <;> simp

theorem drwOK_all (E0 : Env0 P w0 meth call) : DrwOK P n w0 meth call := by
  intro ops l id hc st x st' β0 k0 β a w hext hk hrc hx hSR
  obtain ⟨pre, R⟩ := reg_of_cDrw hc
  obtain ⟨N, T, hT0, Tr, hend⟩ := drw_trace st.env l l st x st' hx
  have hends : Ends l N T meth call := by
    rcases hend with ⟨_, h, _⟩ | ⟨it, v, stv, h1, h2, h3, _⟩
    · exact .inl h
    · exact .inr ⟨it, v, stv, h1, h2, h3⟩
  refine wp_region_any R.mixed ?_
  have I0 : Inv0 P n w0 ops l N T st.env β0 k0 (Array.replicate ops.size false) 0 β st.env a { w with drawn := w.drawn + 1 } := by
    refine { size := by simp, closed := fun i h => absurd h replicate_Ls, le := Nat.zero_le _, acts := fun p it h => absurd h (Nat.not_lt_zero _), ahead := fun p it _ h => absurd h replicate_Ls, env := ⟨fun p it d _ _ h => absurd h replicate_Ls, fun d _ => rfl, fun d _ => (by rw [hT0])⟩, pend := fun p it h => absurd h (Nat.not_lt_zero _), unborn := fun p it h => absurd h (Nat.not_lt_zero _), mono := fun p p' h h' => ?_, sr := ?_, ext := hext, hk := (by rw [hT0]; exact hk), base0 := (by rw [hT0]; exact hk), rc := ?_ }
    · have : p = p' := by omega
      subst this; exact Nat.le_refl _
    · rw [hT0]
      exact ⟨hSR.heap.drew, hSR.glob, hSR.env, hSR.size, hSR.dfs⟩
    · intro p it hp
      rw [hT0]
      rcases hrc with h | h
      · exact .inl h
      · refine .inr fun e => ?_
        simp only [noRcv, List.all_eq_true] at h
        have := h it (List.mem_of_getElem? hp)
        rw [e] at this; simp at this
  obtain ⟨q', _, I⟩ := Inv0.advance R.toReg0 Tr.toTrace0 hends _ 0 rfl I0
  have hfin : ∀ β E a w, N = l.length → Ext β0 k0 β → k0 ≤ (T N).heap.size → SR P n w0 β { T N with env := E } a w → (∀ t, E.at t = (T N).env.at t) → ExR P n w0 β0 k0 x st' .normal a w := by
    intro β E a w hN hE hkk hS he
    rcases hend with ⟨h1, h2, h3⟩ | ⟨it, v, stv, h1, _⟩
    · subst h1; subst h3
      refine ⟨rfl, β, hE, hkk, ?_⟩
      exact hS.env_congr (E' := (T N).env) (fun t => (he t).symm)
    · have := (List.getElem?_eq_some_iff.1 h1).1; omega
  have hpan : ∀ it v stv β E a w chain, N < l.length → l[N]? = some it → stepG meth call it.s (T N) = some (some v, stv) → Ext β0 k0 β → k0 ≤ stv.heap.size → SR P n w0 β { stv with env := E } a w →
      (∀ d, (∀ (p : Nat) (it : DIt), l[p]? = some it → it.s.dst ≠ some d) → E.at d = st.env.at d) → PanR β v chain → ExR P n w0 β0 k0 x st' (.panic chain) a w := by
    intro it v stv β E a w chain hN hit hs hE hkk hS hoff hP
    rcases hend with ⟨_, h2, _⟩ | ⟨it', v', stv', h1, _, h3, h4, h5⟩
    · omega
    · rw [hit] at h1; cases h1
      rw [hs] at h3; cases h3
      subst h4; subst h5
      refine ⟨v, rfl, β, hE, hkk, ⟨hS.heap, hS.glob, fun t => ?_, hS.size, hS.dfs⟩, hP⟩
      show V β ((anyEnv st.env l).at t) _
      rcases anyEnv_at (e := st.env) l t with h | ⟨h, h'⟩
      · rw [h]; exact .any _
      · rw [h, ← hoff t h']; exact hS.env t
  refine drw_any E0 R.toReg0 Tr.toTrace0 hends 0 ?_ hfin hpan ops.size _ q' β st.env a _ I (Nat.zero_le _) (by unfold unl; rw [Array.toList_replicate]; exact Nat.le_trans List.countP_le_length (by simp))
  -- the pair
  intro fuel listed q β E a w p it I _ hu hqp hp hi
  obtain ⟨hilt, hnL, _⟩ := (ready_iff I.size).1 hi
  have hpre := pre_ready R.toReg0 I.toInv0 hi
  have hpl : p < l.length := (List.getElem?_eq_some_iff.1 hp).1
  obtain ⟨b, hq⟩ : ∃ b, l[q]? = some b := ⟨_, List.getElem?_eq_getElem (by omega)⟩
  have hbe := I.atq b hq
  have hbL : ¬ Ls listed b.ix := fun h => Nat.lt_irrefl _ (I.ahead q b hq h)
  rcases R.acts p it q b hp hqp hq hbe with h | ⟨h1, h2, h3⟩
  · exact absurd (hpre _ h) hbL
  have hqp1 : p = q + 1 := by omega
  subst hqp1
  obtain ⟨kb, xb, vb, ebs⟩ := R.prst q b hq h3
  have hqN : q < N := by
    rcases Nat.lt_or_ge q N with h | h
    · exact h
    · have e : q = N := by have := I.le; omega
      rcases hends with h4 | ⟨it', v, stv, h4, _, h5⟩
      · omega
      · rw [← e, hq] at h4; cases h4
        rw [ebs] at h5
        have := (stepG_st h5).1; cases this
  obtain ⟨b2, hd, hpk⟩ := Tr.pair q b hqN hq h3
  have hb2 : b2 = it := by
    have h4 : (l.drop (q + 1))[0]? = some b2 := by rw [hd]; rfl
    rw [List.getElem?_drop] at h4
    simp only [Nat.add_zero] at h4
    rw [hp] at h4; cases h4; rfl
  subst hb2
  obtain ⟨_, ki, xi, vi, eis⟩ := pairOk_st hpk
  have hN2 : N = q + 2 := by
    have hle := Tr.le
    rcases Nat.lt_or_ge (q + 1) N with h | h
    · omega
    · have e : N = q + 1 := by omega
      rcases hends with h4 | ⟨it', v, stv, h4, _, h5⟩
      · omega
      · rw [e, hp] at h4; cases h4
        rw [eis] at h5
        have := (stepG_st h5).1; cases this
  have hsA := Tr.step q b hqN hq
  have hsB := Tr.step (q + 1) b2 (by omega) hp
  obtain ⟨stB, stBA, s1, s2, s3, s4, s5, s6, s7, s8, s9, s10, s11⟩ := pairOk_spec hpk hsA hsB
  have hlen : l.length = q + 2 := by omega
  have hbact : catOf b.s.op = .act := by rw [ebs]; rfl
  have hiact : catOf b2.s.op = .act := by rw [eis]; rfl
  have R' := reg_swap R.toReg0 hq hp hlen (fun h => hbL (hpre _ h)) hbact hiact
  have hg := swap_get (b' := b2) (a' := b) hq hp hlen
  generalize hl' : l.take q ++ [b2, b] = l' at R' hg
  have hlen' : l'.length = q + 2 := by rw [← hl', List.length_append, List.length_take]; simp; omega
  let T' : Nat → St := fun r => if r ≤ q then T r else if r = q + 1 then stB else stBA
  have t0 : ∀ r, r ≤ q → T' r = T r := fun r h => if_pos h
  have t1 : T' (q + 1) = stB := by show (if q + 1 ≤ q then _ else if q + 1 = q + 1 then _ else _) = _; rw [if_neg (by omega), if_pos rfl]
  have t2 : T' (q + 2) = stBA := by show (if q + 2 ≤ q then _ else if q + 2 = q + 1 then _ else _) = _; rw [if_neg (by omega), if_neg (by omega)]
  have g0 : ∀ r, r < q → l'[r]? = l[r]? := fun r h => by rw [hg, if_pos h]
  have g1 : l'[q]? = some b2 := by rw [hg, if_neg (by omega), if_pos rfl]
  have g2 : l'[q + 1]? = some b := by rw [hg, if_neg (by omega), if_neg (by omega), if_pos rfl]
  have gto : ∀ (r : Nat) (y : DIt), l'[r]? = some y → (r < q ∧ l[r]? = some y) ∨ (r = q ∧ y = b2) ∨ (r = q + 1 ∧ y = b) := by
    intro r y h
    rw [hg] at h
    by_cases h1 : r < q
    · rw [if_pos h1] at h; exact .inl ⟨h1, h⟩
    · rw [if_neg h1] at h
      by_cases h2 : r = q
      · rw [if_pos h2] at h; cases h; exact .inr (.inl ⟨h2, rfl⟩)
      · rw [if_neg h2] at h
        by_cases h3 : r = q + 1
        · rw [if_pos h3] at h; cases h; exact .inr (.inr ⟨h3, rfl⟩)
        · rw [if_neg h3] at h; cases h
  have gmem : ∀ (r : Nat) (y : DIt), l'[r]? = some y → ∃ r' : Nat, l[r']? = some y := by
    intro r y h
    rcases gto r y h with ⟨_, h⟩ | ⟨_, rfl⟩ | ⟨_, rfl⟩
    · exact ⟨r, h⟩
    · exact ⟨_, hp⟩
    · exact ⟨_, hq⟩
  have gback : ∀ (r : Nat) (y : DIt), l[r]? = some y → ∃ r' : Nat, l'[r']? = some y := by
    intro r y h
    rcases Nat.lt_or_ge r q with h1 | h1
    · exact ⟨r, by rw [g0 r h1]; exact h⟩
    · have hr : r < q + 2 := by rw [← hlen]; exact (List.getElem?_eq_some_iff.1 h).1
      by_cases h2 : r = q
      · subst h2; rw [hq] at h; cases h; exact ⟨_, g2⟩
      · have : r = q + 1 := by omega
        subst this; rw [hp] at h; cases h; exact ⟨_, g1⟩
  have Tr' : Trace0 meth call l' N T' := by
    refine ⟨by omega, fun r y hr hy => ?_, fun r y hr hy he => ?_⟩
    · rcases gto r y hy with ⟨h1, h⟩ | ⟨rfl, rfl⟩ | ⟨rfl, rfl⟩
      · rw [t0 r (by omega), t0 (r + 1) (by omega)]; exact Tr.step r y (by omega) h
      · rw [t0 r (Nat.le_refl _), t1]; exact s1
      · rw [t1, t2]; exact s4
    · rcases gto r y hy with ⟨h1, h⟩ | ⟨rfl, rfl⟩ | ⟨rfl, rfl⟩
      · rw [t0 r (by omega), t0 (r + 1) (by omega)]; exact Tr.chk r y (by omega) h he
      · rw [t0 r (Nat.le_refl _), t1]; exact ⟨s2, s3⟩
      · rw [t1, t2]; exact ⟨s5, s6⟩
  have hends' : Ends l' N T' meth call := .inl (by omega)
  have I' : Inv P n w0 ops l' N T' st.env β0 k0 listed q β E a w := by
    have tq := t0 q (Nat.le_refl _)
    refine { size := I.size, closed := I.closed, le := I.le, acts := ?_, ahead := ?_, env := ?_, pend := ?_, unborn := ?_, mono := ?_, sr := (by rw [tq]; exact I.sr), ext := I.ext, hk := (by rw [tq]; exact I.hk), base0 := (by rw [t0 0 (Nat.zero_le _)]; exact I.base0), rc := ?_, atq := ?_ }
    · intro r y hr hy he; rw [g0 r hr] at hy; exact I.acts r y hr hy he
    · intro r y hy hL
      rcases gto r y hy with ⟨h1, h⟩ | ⟨rfl, rfl⟩ | ⟨rfl, rfl⟩
      · exact h1
      · exact absurd hL hnL
      · exact absurd hL hbL
    · rw [tq]
      refine ⟨fun r y d hy hd hL => ?_, fun d hno => I.env.off d fun r y hy hd => ?_, fun d hno => I.env.base d fun r y hy => ?_⟩
      · obtain ⟨r', h⟩ := gmem r y hy; exact I.env.on r' y d h hd hL
      · obtain ⟨r', h⟩ := gback r y hy; exact hno r' y h hd
      · obtain ⟨r', h⟩ := gback r y hy; exact hno r' y h
    · intro r y hr hy hn
      rw [g0 r hr] at hy; rw [tq, t0 r (by omega)]; exact I.pend r y hr hy hn
    · intro r y hr hy hn
      rw [g0 r hr] at hy; rw [t0 r (by omega), t0 (r + 1) (by omega)]; exact I.unborn r y hr hy hn
    · intro r r' h1 h2
      rw [t0 r (by omega), t0 r' h2]; exact I.mono r r' h1 h2
    · intro r y hy; rw [tq]; obtain ⟨r', h⟩ := gmem r y hy; exact I.rc r' y h
    · intro y hy; rw [g1] at hy; cases hy
      rw [R.cat hp, hiact]; rfl
  have hu' : unl (listed.setIfInBounds b2.ix true) ≤ fuel := by
    have := unl_set (listed := listed) (by rw [I.size]; exact hilt) hnL; omega
  refine act_step E0 R' Tr' hends' I' g1 hi hqN fun q2 β2 E2 a2 w2 hq2 I2 => ?_
  refine drw_any E0 R' Tr' hends' (q + 1) ?_ ?_ ?_ fuel _ q2 β2 E2 a2 w2 I2 (by omega) hu'
  · intro fuel listed q3 β E a w p y _ h1 _ h2 h3
    have := (List.getElem?_eq_some_iff.1 h3).1; omega
  · intro β E a w _ hE hkk hS he
    subst hN2
    rw [t2] at hkk hS he
    have hS2 : SR P n w0 β { T (q + 2) with env := E } a w := by
      refine ⟨HR.congr hS.heap s10 s11, hS.glob, hS.env, hS.size, ?_⟩
      have := hS.dfs
      show DL β (T (q + 1 + 1)).dfs a.defers
      rw [← s9]; exact this
    refine hfin β E a w (by omega) hE ?_ hS2 fun t => ?_
    · show k0 ≤ (T (q + 1 + 1)).heap.size
      rw [s10]; exact hkk
    · rw [he t, s7, ← s8]
  · intro y v stv β E a w chain h1; omega

theorem drwAll : DrwAll P w0 := fun _ _ E => drwOK_all E
end Go.Ab
