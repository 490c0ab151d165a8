import Derived.Test.YtedlnhicaimhgaaGreatDoorAbSnd6
import Derived.ScopeJumps
namespace Go.Ab
variable {P : Program} {n : Nat} {w0 : World} {β β' : Ren} {st st' : St} {a : Act} {w w' : World} {meth : Nat → String → Option Nat} {call : Nat → List AV → Heap → Option CR}

theorem loopN_rc {f : St → Option (XT × St)} {c : ICode} (hf : ∀ st x st', RcOK st c → f st = some (x, st') → st'.rc = st.rc) : ∀ (m : Nat) (st : St) (x : XT) (st' : St), RcOK st c → loopN f m st = some (x, st') → st'.rc = st.rc
  | 0, _, _, _, _, h => by simp [loopN] at h
  | m + 1, st, x, st', hr, h => by
    simp only [loopN] at h
    cases hs : f st with
    | none => simp [hs] at h
    | some q =>
      obtain ⟨y, st1⟩ := q
      have h1 := hf st y st1 hr hs
      cases y <;> simp only [hs] at h
      case normal => exact (loopN_rc hf m st1 x st' (hr.imp (fun e => h1.trans e) id) h).trans h1
      all_goals simp only [Option.some.injEq, Prod.mk.injEq] at h; rw [← h.2]; exact h1

theorem gotoN_rc {l1 l2 : Nat} {f1 f2 : St → Option (XT × St)} {c1 c2 : ICode} (h1 : ∀ st x st', RcOK st c1 → f1 st = some (x, st') → st'.rc = st.rc) (h2 : ∀ st x st', RcOK st c2 → f2 st = some (x, st') → st'.rc = st.rc) :
    ∀ (m : Nat) (st1 : St) (y : XT) (x : XT) (st' : St), RcOK st1 c1 → RcOK st1 c2 → gotoN l1 f1 l2 f2 m (some (y, st1)) = some (x, st') → st'.rc = st1.rc
  | 0, _, _, _, _, _, _, h => by simp [gotoN] at h
  | m + 1, st1, y, x, st', hr1, hr2, h => by
    simp only [gotoN] at h
    cases y
    case goto l =>
      simp only [] at h
      cases e1 : Nat.beq l l1 with
      | true =>
        simp only [e1, cond_true] at h
        cases hs : f1 st1 with
        | none => rw [hs] at h; cases m <;> simp [gotoN] at h
        | some q =>
          obtain ⟨z, st2⟩ := q
          have hh := h1 _ _ _ hr1 hs
          rw [hs] at h
          exact (gotoN_rc h1 h2 m st2 z x st' (hr1.imp (fun e => hh.trans e) id) (hr2.imp (fun e => hh.trans e) id) h).trans hh
      | false =>
        simp only [e1, cond_false] at h
        cases e2 : Nat.beq l l2 with
        | false => simp [e2] at h
        | true =>
          simp only [e2, cond_true] at h
          cases hs : f2 st1 with
          | none => rw [hs] at h; cases m <;> simp [gotoN] at h
          | some q =>
            obtain ⟨z, st2⟩ := q
            have hh := h2 _ _ _ hr2 hs
            rw [hs] at h
            exact (gotoN_rc h1 h2 m st2 z x st' (hr1.imp (fun e => hh.trans e) id) (hr2.imp (fun e => hh.trans e) id) h).trans hh
    all_goals simp only [Option.some.injEq, Prod.mk.injEq] at h; rw [← h.2]

theorem exec_rc (m : Nat) : ∀ (c : ICode) (st : St) (x : XT) (st' : St), RcOK st c → exec meth call m c st = some (x, st') → st'.rc = st.rc
  | .skip, st, x, st', _, h => by simp only [exec, Option.some.injEq, Prod.mk.injEq] at h; rw [h.2]
  | .ops l, st, x, st', hr, h => execOps_rc l st x st' hr h
  | .drw l, st, x, st', hr, h => execDrw_rc st.env l l st x st' hr h
  | .seq a b, st, x, st', hr, h => by
    have ha : RcOK st a := hr.imp id fun e => by simp only [noRcv, Bool.and_eq_true] at e; exact e.1
    simp only [exec] at h
    cases hs : exec meth call m a st with
    | none => simp [hs] at h
    | some q =>
      obtain ⟨y, st1⟩ := q
      have h1 := exec_rc m a st y st1 ha hs
      cases y <;> simp only [hs] at h
      case normal => exact (exec_rc m b st1 x st' (hr.imp (fun e => h1.trans e) fun e => by simp only [noRcv, Bool.and_eq_true] at e; exact e.2) h).trans h1
      all_goals simp only [Option.some.injEq, Prod.mk.injEq] at h; rw [← h.2]; exact h1
  | .cond c a b, st, x, st', hr, h => by
    simp only [exec] at h
    split at h
    · exact exec_rc m a st x st' (hr.imp id fun e => by simp only [noRcv, Bool.and_eq_true] at e; exact e.1) h
    · exact exec_rc m b st x st' (hr.imp id fun e => by simp only [noRcv, Bool.and_eq_true] at e; exact e.2) h
    · simp at h
  | .blk id a, st, x, st', hr, h => by
    simp only [exec] at h
    cases hs : exec meth call m a st with
    | none => simp [hs] at h
    | some q =>
      obtain ⟨y, st1⟩ := q
      have h1 := exec_rc m a st y st1 (hr.imp (fun q => q) fun e => by simpa [noRcv] using e) hs
      cases y <;> simp only [hs] at h
      case exit i =>
        cases he : Nat.beq i id <;> simp only [he, cond_true, cond_false, Option.some.injEq, Prod.mk.injEq] at h <;> rw [← h.2] <;> exact h1
      all_goals simp only [Option.some.injEq, Prod.mk.injEq] at h; rw [← h.2]; exact h1
  | .loop a, st, x, st', hr, h => loopN_rc (c := a) (fun st x st' hr h => exec_rc m a st x st' hr h) m st x st' (hr.imp (fun q => q) fun e => by simpa [noRcv] using e) h
  | .scope a l1 b l2 c, st, x, st', hr, h => by
    simp only [exec] at h
    have hr' : RcOK st a ∧ RcOK st b ∧ RcOK st c := by
      rcases hr with hr | hr
      · exact ⟨.inl hr, .inl hr, .inl hr⟩
      · simp only [noRcv, Bool.and_eq_true] at hr; exact ⟨.inr hr.1.1, .inr hr.1.2, .inr hr.2⟩
    cases hs : exec meth call m a st with
    | none => rw [hs] at h; cases m <;> simp [gotoN] at h
    | some q =>
      obtain ⟨y, st1⟩ := q
      have h1 := exec_rc m a st y st1 hr'.1 hs
      rw [hs] at h
      exact (gotoN_rc (fun st x st' hr h => exec_rc m b st x st' hr h) (fun st x st' hr h => exec_rc m c st x st' hr h) m st1 y x st' (hr'.2.1.imp (fun e => h1.trans e) id) (hr'.2.2.imp (fun e => h1.trans e) id) h).trans h1
  | .exit _, st, x, st', _, h => by simp only [exec, Option.some.injEq, Prod.mk.injEq] at h; rw [h.2]
  | .goto _, st, x, st', _, h => by simp only [exec, Option.some.injEq, Prod.mk.injEq] at h; rw [h.2]
  | .ret, st, x, st', _, h => by simp only [exec, Option.some.injEq, Prod.mk.injEq] at h; rw [h.2]
  | .bad, st, x, st', _, h => by simp [exec] at h

/-- What is to be shown of the regions that draw their order. -/
def DrwOK (P : Program) (n : Nat) (w0 : World) (meth : Nat → String → Option Nat) (call : Nat → List AV → Heap → Option CR) : Prop :=
  ∀ ops l id, cDrw P n ops = some l → ∀ st x st' β0 k0 β a w, Ext β0 k0 β → k0 ≤ st.heap.size → RcOK st (.drw l) → execDrw meth call st.env l l st = some (x, st') → SR P n w0 β st a w →
    (Code.region id ops true).wp P (ExR P n w0 β0 k0 x st') a w

/-- A code and its compiled form. -/
def Snd (P : Program) (n : Nat) (w0 : World) (meth : Nat → String → Option Nat) (call : Nat → List AV → Heap → Option CR) (c : Code) (ic : ICode) : Prop :=
  ∀ m st x st' β0 k0 β a w, Ext β0 k0 β → k0 ≤ st.heap.size → RcOK st ic → exec meth call m ic st = some (x, st') → SR P n w0 β st a w → c.wp P (ExR P n w0 β0 k0 x st') a w

theorem snd_seq {x y : Code} {ix iy : ICode} (hx : Snd P n w0 meth call x ix) (hy : Snd P n w0 meth call y iy) : Snd P n w0 meth call (.seq x y) (.seq ix iy) := by
  intro m st r st' β0 k0 β a w he hk hr h hS
  simp only [exec] at h
  have hra : RcOK st ix := hr.imp id fun e => by simp only [noRcv, Bool.and_eq_true] at e; exact e.1
  cases hs : exec meth call m ix st with
  | none => simp [hs] at h
  | some q =>
    obtain ⟨q, st1⟩ := q
    have h1 := exec_rc m ix st q st1 hra hs
    have hw := hx m st q st1 β0 k0 β a w he hk hra hs hS
    refine wp_seq (wp_mono hw fun e a1 w1 hE => ?_)
    by_cases hq : q = .normal
    · subst hq
      simp only [hs] at h
      cases e <;> simp only [ExR] at hE
      case normal =>
        obtain ⟨_, β1, g1, g2, g3⟩ := hE
        exact hy m st1 r st' β0 k0 β1 a1 w1 g1 g2 (hr.imp (fun e => h1.trans e) fun e => by simp only [noRcv, Bool.and_eq_true] at e; exact e.2) h g3
      all_goals first
        | exact absurd hE.1 (by simp)
        | (obtain ⟨v, hv, _⟩ := hE; cases hv)
    · have h' : some (q, st1) = some (r, st') := by cases q <;> first | exact absurd rfl hq | (simp only [hs] at h; exact h)
      simp only [Option.some.injEq, Prod.mk.injEq] at h'
      obtain ⟨rfl, rfl⟩ := h'
      cases e
      case normal => exact absurd hE.1 hq
      all_goals exact hE

theorem snd_cond {c : Operand} {ic : Opd} {x y : Code} {ix iy : ICode} (hc : cOpd P c = some ic) (hx : Snd P n w0 meth call x ix) (hy : Snd P n w0 meth call y iy) : Snd P n w0 meth call (.cond c x y) (.cond ic ix iy) := by
  intro m st r st' β0 k0 β a w he hk hr h hS
  simp only [exec] at h
  have hV := hS.ev c ic hc
  split at h
  · rename_i hb
    rw [hb] at hV
    have : a.eval c = .bool true := by generalize a.eval c = q at hV; cases hV; rfl
    exact wp_cond_true this (hx m st r st' β0 k0 β a w he hk (hr.imp id fun e => by simp only [noRcv, Bool.and_eq_true] at e; exact e.1) h hS)
  · rename_i hb
    rw [hb] at hV
    have : a.eval c = .bool false := by generalize a.eval c = q at hV; cases hV; rfl
    exact wp_cond_false this (hy m st r st' β0 k0 β a w he hk (hr.imp id fun e => by simp only [noRcv, Bool.and_eq_true] at e; exact e.2) h hS)
  · simp at h

theorem snd_blk {id : Nat} {x : Code} {ix : ICode} (hx : Snd P n w0 meth call x ix) : Snd P n w0 meth call (.block id x) (.blk id ix) := by
  intro m st r st' β0 k0 β a w he hk hr h hS
  simp only [exec] at h
  cases hs : exec meth call m ix st with
  | none => simp [hs] at h
  | some q =>
    obtain ⟨q, st1⟩ := q
    have hw := hx m st q st1 β0 k0 β a w he hk (hr.imp (fun q => q) fun e => by simpa [noRcv] using e) hs hS
    refine wp_block (wp_mono hw fun e a1 w1 hE => ?_)
    have hbq : ∀ x y : Nat, Nat.beq x y = decide (x = y) := fun x y => by rw [Bool.eq_iff_iff]; simp
    cases e <;> simp only [ExR] at hE <;> simp only [Exit.inBlock]
    case exit i =>
      obtain ⟨rfl, g⟩ := hE
      simp only [hs, hbq] at h
      by_cases e : i = id
      · subst e
        simp only [decide_true, cond_true, Option.some.injEq, Prod.mk.injEq] at h
        obtain ⟨rfl, rfl⟩ := h
        simp only [if_true]
        exact ⟨rfl, g⟩
      · simp only [e, decide_false, cond_false, Option.some.injEq, Prod.mk.injEq] at h
        obtain ⟨rfl, rfl⟩ := h
        simp only [e, if_false]
        exact ⟨rfl, g⟩
    case panic chain =>
      obtain ⟨v, rfl, g⟩ := hE
      simp only [hs, Option.some.injEq, Prod.mk.injEq] at h
      obtain ⟨rfl, rfl⟩ := h
      exact ⟨v, rfl, g⟩
    all_goals
      obtain ⟨rfl, g⟩ := hE
      simp only [hs, Option.some.injEq, Prod.mk.injEq] at h
      obtain ⟨rfl, rfl⟩ := h
      exact ⟨rfl, g⟩

theorem snd_loop {x : Code} {ix : ICode} (hx : Snd P n w0 meth call x ix) : Snd P n w0 meth call (.loop x) (.loop ix) := by
  intro m st r st' β0 k0 β a w he hk hr h hS
  have hr : RcOK st ix := hr.imp (fun q => q) fun e => by simpa [noRcv] using e
  simp only [exec] at h
  intro b k cs
  have key : ∀ (j : Nat) (st : St) (β : Ren) (a : Act) (w : World), Ext β0 k0 β → k0 ≤ st.heap.size → RcOK st ix → loopN (exec meth call m ix) j st = some (r, st') → SR P n w0 β st a w →
      ∃ e a' w', ExR P n w0 β0 k0 r st' e a' w' ∧ Arrives P (lone (b.at a (.code x :: .inLoop x :: k)) cs w) b k cs e a' w' := by
    intro j
    induction j with
    | zero => intro st β a w _ _ _ h _; simp [loopN] at h
    | succ j ih =>
      intro st β a w he hk hr h hS
      simp only [loopN] at h
      cases hs : exec meth call m ix st with
      | none => simp [hs] at h
      | some q =>
        obtain ⟨q, st1⟩ := q
        have h1 := exec_rc m ix st q st1 hr hs
        obtain ⟨e, a1, w1, hE, harr⟩ := hx m st q st1 β0 k0 β a w he hk hr hs hS b (.inLoop x :: k) cs
        by_cases hq : q = .normal
        · subst hq
          simp only [hs] at h
          cases e <;> simp only [ExR] at hE
          case normal =>
            obtain ⟨_, β1, g1, g2, g3⟩ := hE
            obtain ⟨e2, a2, w2, q2, r2⟩ := ih st1 β1 a1 w1 g1 g2 (hr.imp (fun e => h1.trans e) id) h g3
            exact ⟨e2, a2, w2, q2, .of_steps (Steps.trans harr (.one step_inLoop)) r2⟩
          all_goals first
            | exact absurd hE.1 (by simp)
            | (obtain ⟨v, hv, _⟩ := hE; cases hv)
        · have h' : some (q, st1) = some (r, st') := by cases q <;> first | exact absurd rfl hq | (simp only [hs] at h; exact h)
          simp only [Option.some.injEq, Prod.mk.injEq] at h'
          obtain ⟨rfl, rfl⟩ := h'
          cases e with
          | normal => exact absurd hE.1 hq
          | exit id => exact ⟨_, a1, w1, hE, .pass (x := .inLoop x) rfl (fun _ _ => .inl (by simp)) harr⟩
          | goto l => exact ⟨_, a1, w1, hE, .pass (x := .inLoop x) rfl (fun _ _ => .inl (by simp)) harr⟩
          | ret => exact ⟨_, a1, w1, hE, .pass (x := .inLoop x) rfl (fun _ _ => .inl (by simp)) harr⟩
          | panic ch => exact ⟨_, a1, w1, hE, .pass (x := .inLoop x) rfl (fun _ _ => .inl (by simp)) harr⟩
          | outgrown => exact hE.elim
  obtain ⟨e, a', w', hq, harr⟩ := key m st β a w he hk hr h hS
  exact ⟨e, a', w', hq, .of_steps (.one step_loop) harr⟩

theorem snd_scope {x r1 r2 : Code} {ix i1 i2 : ICode} {l1 l2 : Nat} (hx : Snd P n w0 meth call x ix) (f1 : findLabel x l1 = some r1) (f2 : findLabel x l2 = some r2) (h1 : Snd P n w0 meth call r1 i1) (h2 : Snd P n w0 meth call r2 i2) :
    Snd P n w0 meth call (.scope x) (.scope ix l1 i1 l2 i2) := by
  intro m st r st' β0 k0 β a w he hk hr h hS
  have hr' : RcOK st ix ∧ RcOK st i1 ∧ RcOK st i2 := by
    rcases hr with hr | hr
    · exact ⟨.inl hr, .inl hr, .inl hr⟩
    · simp only [noRcv, Bool.and_eq_true] at hr; exact ⟨.inr hr.1.1, .inr hr.1.2, .inr hr.2⟩
  simp only [exec] at h
  intro b k cs
  have hg1 : gotoIn l1 (.inScope x :: k) = some (.code r1 :: .inScope x :: k) := by simp [gotoIn, f1]
  have hg2 : gotoIn l2 (.inScope x :: k) = some (.code r2 :: .inScope x :: k) := by simp [gotoIn, f2]
  have key : ∀ (j : Nat) (y : Code) (iy : ICode) (st : St) (β : Ren) (a : Act) (w : World), Snd P n w0 meth call y iy → Ext β0 k0 β → k0 ≤ st.heap.size → RcOK st iy → RcOK st i1 → RcOK st i2 →
      gotoN l1 (exec meth call m i1) l2 (exec meth call m i2) j (exec meth call m iy st) = some (r, st') → SR P n w0 β st a w →
      ∃ e a' w', ExR P n w0 β0 k0 r st' e a' w' ∧ Arrives P (lone (b.at a (.code y :: .inScope x :: k)) cs w) b k cs e a' w' := by
    intro j
    induction j with
    | zero => intro y iy st β a w _ _ _ _ _ _ h _; simp [gotoN] at h
    | succ j ih =>
      intro y iy st β a w hy he hk hry hr1 hr2 h hS
      cases hs : exec meth call m iy st with
      | none => rw [hs] at h; simp [gotoN] at h
      | some q =>
        obtain ⟨q, st1⟩ := q
        rw [hs] at h
        have hrc := exec_rc m iy st q st1 hry hs
        obtain ⟨e, a1, w1, hE, harr⟩ := hy m st q st1 β0 k0 β a w he hk hry hs hS b (.inScope x :: k) cs
        have hbq : ∀ x y : Nat, Nat.beq x y = decide (x = y) := fun x y => by rw [Bool.eq_iff_iff]; simp
        have fin : (∀ l, q ≠ .goto l) → q = r ∧ st1 = st' := by
          intro hq
          cases q <;> first | exact absurd rfl (hq _) | (simp only [gotoN, Option.some.injEq, Prod.mk.injEq] at h; exact h)
        cases e with
        | outgrown => exact hE.elim
        | goto l =>
          obtain ⟨rfl, β1, g1, g2, g3⟩ := hE
          simp only [gotoN, hbq] at h
          by_cases e1 : l = l1
          · subst e1
            simp only [decide_true, cond_true] at h
            obtain ⟨e2, a2, w2, q2, r2'⟩ := ih r1 i1 st1 β1 a1 w1 h1 g1 g2 (hr1.imp (fun e => hrc.trans e) id) (hr1.imp (fun e => hrc.trans e) id) (hr2.imp (fun e => hrc.trans e) id) h g3
            exact ⟨e2, a2, w2, q2, .of_steps (harr _ hg1) r2'⟩
          · simp only [e1, decide_false, cond_false] at h
            by_cases e2 : l = l2
            · subst e2
              simp only [decide_true, cond_true] at h
              obtain ⟨e2, a2, w2, q2, r2'⟩ := ih r2 i2 st1 β1 a1 w1 h2 g1 g2 (hr2.imp (fun e => hrc.trans e) id) (hr1.imp (fun e => hrc.trans e) id) (hr2.imp (fun e => hrc.trans e) id) h g3
              exact ⟨e2, a2, w2, q2, .of_steps (harr _ hg2) r2'⟩
            · simp [e2] at h
        | normal =>
          obtain ⟨rfl, g⟩ := hE
          obtain ⟨rfl, rfl⟩ := fin (fun _ => by simp)
          exact ⟨.normal, a1, w1, ⟨rfl, g⟩, Steps.trans harr (.one step_inScope)⟩
        | exit id =>
          obtain ⟨rfl, g⟩ := hE
          obtain ⟨rfl, rfl⟩ := fin (fun _ => by simp)
          exact ⟨.exit id, a1, w1, ⟨rfl, g⟩, fun k' hk => harr k' (by simp [exitTo, hk])⟩
        | ret =>
          obtain ⟨rfl, g⟩ := hE
          obtain ⟨rfl, rfl⟩ := fin (fun _ => by simp)
          exact ⟨.ret, a1, w1, ⟨rfl, g⟩, harr⟩
        | panic ch =>
          obtain ⟨v, rfl, g⟩ := hE
          obtain ⟨rfl, rfl⟩ := fin (fun _ => by simp)
          exact ⟨.panic ch, a1, w1, ⟨v, rfl, g⟩, harr⟩
  obtain ⟨e, a', w', hq, harr⟩ := key m x ix st β a w hx he hk hr'.1 hr'.2.1 hr'.2.2 h hS
  exact ⟨e, a', w', hq, .of_steps (.one step_scope) harr⟩

theorem comp_sound (E : Env0 P w0 meth call) (hD : DrwOK P n w0 meth call) : ∀ (d : Nat) (c : Code) (ic : ICode), comp P n d c = some ic → Snd P n w0 meth call c ic
  | 0, _, _, h => by simp [comp] at h
  | d + 1, c, ic, h => by
    have ih := comp_sound E hD d
    have hbad : ∀ c, Snd P n w0 meth call c .bad := fun c m st x st' β0 k0 β a w _ _ _ h _ => by simp [exec] at h
    have hskip : ∀ c : Code, (∀ Q a w, Q .normal a w → c.wp P Q a w) → Snd P n w0 meth call c .skip := fun c hc m st x st' β0 k0 β a w he hk _ h hS => by
      simp only [exec, Option.some.injEq, Prod.mk.injEq] at h
      obtain ⟨rfl, rfl⟩ := h
      exact hc _ _ _ ⟨rfl, β, he, hk, hS⟩
    cases c with
    | skip => simp only [comp, Option.some.injEq] at h; subst h; exact hskip _ fun Q a w hq => wp_skip hq
    | label l => simp only [comp, Option.some.injEq] at h; subst h; exact hskip _ fun Q a w hq => wp_label hq
    | refuse _ => simp only [comp, Option.some.injEq] at h; subst h; exact hbad _
    | rangeFunc _ _ _ _ => simp only [comp, Option.some.injEq] at h; subst h; exact hbad _
    | region id ops draw =>
      cases draw with
      | false =>
        simp only [comp] at h
        cases hc : cSts P n ops ops.toList with
        | none => simp only [hc, Option.some.injEq] at h; subst h; exact hbad _
        | some l =>
          simp only [hc, Option.some.injEq] at h; subst h
          intro m st x st' β0 k0 β a w he hk hr h hS
          refine wp_region ?_
          rw [List.range_eq_range']
          exact ops_sound E ops.size 0 l st x st' β a w he hk (by omega) (by simpa using hc) hr h hS
      | true =>
        simp only [comp] at h
        cases hc : cDrw P n ops with
        | none => simp only [hc, Option.some.injEq] at h; subst h; exact hbad _
        | some l =>
          simp only [hc, Option.some.injEq] at h; subst h
          intro m st x st' β0 k0 β a w he hk hr h hS
          exact hD ops l id hc st x st' β0 k0 β a w he hk hr h hS
    | seq x y =>
      simp only [comp] at h
      split at h
      · rename_i ix iy h1 h2
        simp only [Option.some.injEq] at h; subst h
        exact snd_seq (ih x ix h1) (ih y iy h2)
      · simp at h
    | cond c x y =>
      simp only [comp] at h
      split at h
      · rename_i ic' ix iy h0 h1 h2
        simp only [Option.some.injEq] at h; subst h
        exact snd_cond h0 (ih x ix h1) (ih y iy h2)
      · simp at h
    | block id x =>
      simp only [comp] at h
      split at h
      · rename_i ix h1
        simp only [Option.some.injEq] at h; subst h
        exact snd_blk (ih x ix h1)
      · simp at h
    | loop x =>
      simp only [comp] at h
      split at h
      · rename_i ix h1
        simp only [Option.some.injEq] at h; subst h
        exact snd_loop (ih x ix h1)
      · simp at h
    | scope x =>
      simp only [comp] at h
      have hlab : ∀ l ib, (match findLabel x l with | some c => comp P n d c | none => none) = some ib → ∃ c, findLabel x l = some c ∧ comp P n d c = some ib := by
        intro l ib hl
        cases hf : findLabel x l with
        | none => simp [hf] at hl
        | some c => exact ⟨c, rfl, by simpa [hf] using hl⟩
      split at h
      · rename_i ix l h1 h2
        split at h
        · rename_i ib h3
          simp only [Option.some.injEq] at h; subst h
          obtain ⟨c, g1, g2⟩ := hlab _ _ h3
          exact snd_scope (ih x ix h1) g1 g1 (ih c ib g2) (ih c ib g2)
        · simp at h
      · rename_i ix l m' h1 h2
        split at h
        · rename_i ib ic' h3 h4
          simp only [Option.some.injEq] at h; subst h
          obtain ⟨c, g1, g2⟩ := hlab _ _ h3
          obtain ⟨c', g3, g4⟩ := hlab _ _ h4
          exact snd_scope (ih x ix h1) g1 g3 (ih c ib g2) (ih c' ic' g4)
        · simp at h
      · simp at h
    | exit id =>
      simp only [comp, Option.some.injEq] at h; subst h
      intro m st x st' β0 k0 β a w he hk hr h hS
      simp only [exec, Option.some.injEq, Prod.mk.injEq] at h
      obtain ⟨rfl, rfl⟩ := h
      exact wp_exit ⟨rfl, β, he, hk, hS⟩
    | goto l =>
      simp only [comp, Option.some.injEq] at h; subst h
      intro m st x st' β0 k0 β a w he hk hr h hS
      simp only [exec, Option.some.injEq, Prod.mk.injEq] at h
      obtain ⟨rfl, rfl⟩ := h
      exact wp_goto ⟨rfl, β, he, hk, hS⟩
    | ret =>
      simp only [comp, Option.some.injEq] at h; subst h
      intro m st x st' β0 k0 β a w he hk hr h hS
      simp only [exec, Option.some.injEq, Prod.mk.injEq] at h
      obtain ⟨rfl, rfl⟩ := h
      exact wp_ret ⟨rfl, β, he, hk, hS⟩
end Go.Ab
