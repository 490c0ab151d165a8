import Derived.Test.YtedlnhicaimhgaaGreatDoorAbSnd7
import Derived.Recover
/-!
Calls, deferred calls, recover.
-/
namespace Go.Ab
variable {P : Program} {n : Nat} {w0 : World} {β β' : Ren} {st st' : St} {a : Act} {w w' : World} {meth : Nat → String → Option Nat} {call : Nat → List AV → Heap → Option CR}

/-- What is still panicking, on both sides. -/
def ModeR (β : Ren) : Option AV → FrameMode → Prop
  | none, u => u = .returning
  | some v, u => ∃ v', u = .panicking [{ v := v', recovered := false }] ∧ V β v v'
/-- The same while a deferred call runs. -/
def RcR (β : Ren) (rc : Option (Option AV)) (c0 : Frame) (cs0 cs : List Frame) : Prop :=
  match rc with
  | some (some v) => ∃ v', cs = { c0 with mode := .panicking [{ v := v', recovered := false }] } :: cs0 ∧ V β v v'
  | some none => ∃ u, cs = { c0 with mode := u } :: cs0 ∧ settle u = .returning ∧ recoverD ({ c0 with mode := u } :: cs0) = none
  | none => False
theorem RcR.mono {rc : Option (Option AV)} {c0 : Frame} {cs0 cs : List Frame} (hb : Ren.le β β') (h : RcR β rc c0 cs0 cs) : RcR β' rc c0 cs0 cs := by
  cases rc with
  | none => exact h
  | some q => cases q with
    | none => exact h
    | some v => obtain ⟨v', h1, h2⟩ := h; exact ⟨v', h1, h2.mono hb⟩

def ExS (P : Program) (n : Nat) (w0 : World) (β : Ren) (k : Nat) (x : XT) (st' : St) (c0 : Frame) (cs0 : List Frame) : Exit → Act → List Frame → World → Prop := fun e a cs w =>
  ∃ β', Ext β k β' ∧ k ≤ st'.heap.size ∧ SR P n w0 β' st' a w ∧ RcR β' st'.rc c0 cs0 cs ∧ ((e = .normal ∧ x = .normal) ∨ (e = .ret ∧ x = .ret))

theorem opsS_sound {ops : Array Oper} (E : Env0 P w0 meth call) {β0 : Ren} {k0 : Nat} {c0 : Frame} {cs0 : List Frame} : ∀ (k i : Nat) (sl : List ISt) (st : St) (x : XT) (st' : St) (β : Ren) (a : Act) (cs : List Frame) (w : World), Ext β0 k0 β → k0 ≤ st.heap.size → ops.size - i = k → cSts P n ops (ops.toList.drop i) = some sl →
    (x = .normal ∨ x = .ret) → execOps meth call sl st = some (x, st') → SR P n w0 β st a w → RcR β st.rc c0 cs0 cs → wpOpsS P ops (ExS P n w0 β0 k0 x st' c0 cs0) (List.range' i k) a cs w
  | 0, i, sl, st, x, st', β, a, cs, w, he, hk0, hk, hc, hxx, hx, h, hrc => by
    have : ops.toList.drop i = [] := by apply List.drop_eq_nil_of_le; simp; omega
    rw [this] at hc
    simp only [cSts, Option.some.injEq] at hc
    subst hc
    simp only [execOps, Option.some.injEq, Prod.mk.injEq] at hx
    obtain ⟨rfl, rfl⟩ := hx
    exact ⟨β, he, hk0, h, hrc, .inl ⟨rfl, rfl⟩⟩
  | k + 1, i, sl, st, x, st', β, a, cs, w, he, hk0, hk, hc, hxx, hx, h, hrc => by
    have hlt : i < ops.toList.length := by simp; omega
    rw [List.drop_eq_getElem_cons hlt] at hc
    obtain ⟨s, sl', h1, h2, rfl⟩ := cSts_cons hc
    have hi : ops[i]? = some ops.toList[i] := by rw [← Array.getElem?_toList]; exact List.getElem?_eq_getElem hlt
    generalize ops.toList[i] = o at h1 hi
    obtain ⟨d1, d2, d3, d4⟩ := cSt_spec h1
    simp only [execOps] at hx
    rw [List.range'_succ]
    simp only [wpOpsS, hi]
    cases hs : stepG meth call s st with
    | none => simp [hs] at hx
    | some q =>
      obtain ⟨p, st1⟩ := q
      cases p with
      | some v =>
        simp only [hs, Option.some.injEq, Prod.mk.injEq] at hx
        rcases hxx with rfl | rfl <;> simp at hx
      | none =>
        simp only [hs] at hx
        unfold stepG at hs
        cases hb : blindA st s.g with
        | true => simp [hb] at hs
        | false =>
          simp only [hb, cond_false] at hs
          have hw := wanted_eq h.env d2 hb
          rw [hw]
          cases hwa : wantedA st s.g with
          | false =>
            simp only [hwa, cond_false, Bool.false_eq_true, if_false, Option.some.injEq, Prod.mk.injEq] at hs ⊢
            obtain ⟨_, rfl⟩ := hs
            have hS : SR P n w0 β (st.put s.dst .undef) (a.put o.dst undef) w := by rw [d3]; exact h.put d4 V.undef
            exact opsS_sound E k (i + 1) sl' _ x st' β _ cs w he (by cases s.dst <;> exact hk0) (by omega) h2 hxx hx hS (by rw [put_rc]; exact hrc)
          | true =>
            simp only [hwa, cond_true, if_true] at hs ⊢
            by_cases hr : s.op = .rcv
            · -- recover
              obtain ⟨sd, sop, sg⟩ := s
              simp only at hr d1 d3
              subst hr
              have he' : (execOp a.eval o).run P w = .ok .recover w := by
                rcases cOp_cases d1 with h0 | ⟨c, ho, hcc⟩ | ⟨_, _, _, _, _, _, _, _, e⟩ | ⟨_, _, _, _, e⟩
                · simp [IOp.ctl] at h0
                · rcases cCall_cases hcc rfl with ⟨_, _, _, _, _, _, e | ⟨_, _, _, _, e⟩⟩ | ⟨_, _, _, _, _, _, e⟩ | ⟨_, _, _, _, _, _, _, e⟩ | ⟨hcal, _⟩ | ⟨_, _, _, e⟩
                  · cases e
                  · cases e
                  · cases e
                  · cases e
                  · simp only [execOp, ho, resolve, hcal, Sem.run_bind, Sem.run_pure, Result.andThen_ok, invoke, builtin]
                  · cases e
                · cases e
                · cases e
              rw [he']
              simp only [step1] at hs
              cases hrc' : st.rc with
              | none => rw [hrc'] at hrc; exact hrc.elim
              | some q =>
                rw [hrc'] at hrc hs
                cases q with
                | none =>
                  simp only [Option.some.injEq, Prod.mk.injEq] at hs
                  obtain ⟨_, rfl⟩ := hs
                  obtain ⟨u, rfl, g1, g2⟩ := hrc
                  simp only [g2]
                  have hS : SR P n w0 β (st.put sd .nili) (a.put o.dst .nilIface) w := by rw [d3]; exact h.put d4 .nili
                  exact opsS_sound E k (i + 1) sl' _ x st' β _ _ w he (by cases sd <;> exact hk0) (by omega) h2 hxx hx hS (by rw [put_rc, hrc']; exact ⟨u, rfl, g1, g2⟩)
                | some v =>
                  simp only [Option.some.injEq, Prod.mk.injEq] at hs
                  obtain ⟨_, rfl⟩ := hs
                  obtain ⟨v', rfl, g1⟩ := hrc
                  simp only [recoverD]
                  have hS : SR P n w0 β ({ st with rc := some none }.put sd v) (a.put o.dst v') w := by
                    rw [d3]; exact SR.put (st := { st with rc := some none }) ⟨h.heap, h.glob, h.env, h.size, h.dfs⟩ d4 g1
                  exact opsS_sound E k (i + 1) sl' _ x st' β _ _ w he (by cases sd <;> exact hk0) (by omega) h2 hxx hx hS (by rw [put_rc]; exact ⟨_, rfl, rfl, rfl⟩)
            · have hrc1 := step1_rc hs hr
              have hwp := step1_sound (K := fun a' w' => wpOpsS P ops (ExS P n w0 β0 k0 x st' c0 cs0) (List.range' (i + 1) k) a' cs w') (Q := fun e a' w' => ExS P n w0 β0 k0 x st' c0 cs0 e a' cs w') E d1 d3 d4 h hs hr
                (fun β' a' w' _ h3 h4 h5 => opsS_sound E k (i + 1) sl' st1 x st' β' a' cs w' (he.trans h3 hk0) (by omega) (by omega) h2 hxx hx h5 (by rw [hrc1]; exact hrc.mono h3.le)) (fun _ _ _ _ _ e => by cases e)
              unfold Oper.wp at hwp
              generalize (execOp a.eval o).run P w = r at hwp ⊢
              cases r with
              | halt x w' => exact hwp
              | ok nx w' => cases nx <;> first | exact hwp | exact hwp.elim

theorem exS_of_ex {c0 : Frame} {cs0 cs : List Frame} {β0 : Ren} {k0 : Nat} {x : XT} {c : Code} (hrc : RcR β0 st'.rc c0 cs0 cs) (hx : x = .normal ∨ x = .ret) (h : c.wp P (ExR P n w0 β0 k0 x st') a w) : c.wpS P (ExS P n w0 β0 k0 x st' c0 cs0) a cs w := by
  refine wpS_of_wp (wp_mono h fun e a w hE => ?_)
  rcases hx with rfl | rfl <;> cases e <;> simp only [ExR] at hE
  case inl.normal => obtain ⟨_, β', g1, g2, g3⟩ := hE; exact ⟨β', g1, g2, g3, hrc.mono g1.le, .inl ⟨rfl, rfl⟩⟩
  case inr.ret => obtain ⟨_, β', g1, g2, g3⟩ := hE; exact ⟨β', g1, g2, g3, hrc.mono g1.le, .inr ⟨rfl, rfl⟩⟩
  all_goals first
    | exact absurd hE.1 (by simp)
    | (obtain ⟨v, hv, _⟩ := hE; cases hv)

theorem ExS.base {c0 : Frame} {cs0 cs : List Frame} {β1 : Ren} {k k1 : Nat} {x : XT} {e : Exit} (he : Ext β k β1) (hk : k ≤ k1) (h : ExS P n w0 β1 k1 x st' c0 cs0 e a cs w) : ExS P n w0 β k x st' c0 cs0 e a cs w := by
  obtain ⟨β', h1, h2, h3⟩ := h
  exact ⟨β', he.trans h1 hk, by omega, h3⟩
theorem wpS_mono {c : Code} {Q Q' : Exit → Act → List Frame → World → Prop} {cs : List Frame} (h : c.wpS P Q a cs w) (hq : ∀ e a cs w, Q e a cs w → Q' e a cs w) : c.wpS P Q' a cs w :=
  fun b k h1 h2 => let ⟨e, a', cs', w', q, r⟩ := h b k h1 h2; ⟨e, a', cs', w', hq _ _ _ _ q, r⟩

theorem compS_sound (E : Env0 P w0 meth call) (hD : DrwOK P n w0 meth call) {c0 : Frame} {cs0 : List Frame} : ∀ (d : Nat) (c : Code) (ic : ICode), comp P n d c = some ic → rcvOk ic = true →
    ∀ m st x st' β a cs w, (x = .normal ∨ x = .ret) → exec meth call m ic st = some (x, st') → SR P n w0 β st a w → RcR β st.rc c0 cs0 cs → c.wpS P (ExS P n w0 β st.heap.size x st' c0 cs0) a cs w
  | 0, _, _, h => by simp [comp] at h
  | d + 1, c, ic, h => by
    have ih := compS_sound E hD (c0 := c0) (cs0 := cs0) d
    have hall := comp_sound E hD (d + 1) c ic h
    have plain : noRcv ic = true → ∀ m st x st' β a cs w, (x = .normal ∨ x = .ret) → exec meth call m ic st = some (x, st') → SR P n w0 β st a w → RcR β st.rc c0 cs0 cs → c.wpS P (ExS P n w0 β st.heap.size x st' c0 cs0) a cs w := by
      intro hn m st x st' β a cs w hx he hS hrc
      have hr := exec_rc m ic st x st' (.inr hn) he
      exact exS_of_ex (by rw [hr]; exact hrc) hx (hall m st x st' β st.heap.size β a w (Ext.refl _ _) (Nat.le_refl _) (.inr hn) he hS)
    intro hok
    cases c with
    | seq x y =>
      simp only [comp] at h
      split at h
      · rename_i ix iy h1 h2
        simp only [Option.some.injEq] at h; subst h
        simp only [rcvOk, Bool.and_eq_true] at hok
        intro m st r st' β a cs w hx he hS hrc
        simp only [exec] at he
        cases hs : exec meth call m ix st with
        | none => simp [hs] at he
        | some q =>
          obtain ⟨q, st1⟩ := q
          by_cases hq : q = .normal
          · subst hq
            simp only [hs] at he
            refine wpS_seq (wpS_mono (ih x ix h1 hok.1 m st .normal st1 β a cs w (.inl rfl) hs hS hrc) fun e a1 cs1 w1 hE => ?_)
            obtain ⟨β1, g1, g2, g3, g4, g5⟩ := hE
            rcases g5 with ⟨rfl, _⟩ | ⟨_, g5⟩
            · exact wpS_mono (ih y iy h2 hok.2 m st1 r st' β1 a1 cs1 w1 hx he g3 g4) fun e a cs w hE => hE.base g1 g2
            · cases g5
          · have h' : some (q, st1) = some (r, st') := by cases q <;> first | exact absurd rfl hq | (simp only [hs] at he; exact he)
            simp only [Option.some.injEq, Prod.mk.injEq] at h'
            obtain ⟨rfl, rfl⟩ := h'
            refine wpS_seq (wpS_mono (ih x ix h1 hok.1 m st q st1 β a cs w hx hs hS hrc) fun e a1 cs1 w1 hE => ?_)
            obtain ⟨β1, g1, g2, g3, g4, g5⟩ := hE
            rcases g5 with ⟨rfl, g5⟩ | ⟨rfl, g5⟩
            · exact absurd g5 hq
            · exact ⟨β1, g1, g2, g3, g4, .inr ⟨rfl, g5⟩⟩
      · simp at h
    | cond c x y =>
      simp only [comp] at h
      split at h
      · rename_i ic' ix iy h0 h1 h2
        simp only [Option.some.injEq] at h; subst h
        simp only [rcvOk, Bool.and_eq_true] at hok
        intro m st r st' β a cs w hx he hS hrc
        simp only [exec] at he
        have hV := hS.ev c ic' h0
        split at he
        · rename_i hb
          rw [hb] at hV
          have : a.eval c = .bool true := by generalize a.eval c = q at hV; cases hV; rfl
          exact wpS_cond this (ih x ix h1 hok.1 m st r st' β a cs w hx he hS hrc)
        · rename_i hb
          rw [hb] at hV
          have : a.eval c = .bool false := by generalize a.eval c = q at hV; cases hV; rfl
          exact wpS_cond this (ih y iy h2 hok.2 m st r st' β a cs w hx he hS hrc)
        · simp at he
      · simp at h
    | region id ops draw =>
      cases draw with
      | false =>
        simp only [comp] at h
        cases hc : cSts P n ops ops.toList with
        | none => simp only [hc, Option.some.injEq] at h; subst h; exact plain rfl
        | some l =>
          simp only [hc, Option.some.injEq] at h; subst h
          intro m st x st' β a cs w hx he hS hrc
          refine wpS_region ?_
          rw [List.range_eq_range']
          exact opsS_sound E ops.size 0 l st x st' β a cs w (Ext.refl _ _) (Nat.le_refl _) (by omega) (by simpa using hc) hx he hS hrc
      | true =>
        simp only [comp] at h
        cases hc : cDrw P n ops with
        | none => simp only [hc, Option.some.injEq] at h; subst h; exact plain rfl
        | some l => simp only [hc, Option.some.injEq] at h; subst h; exact plain (by simpa [rcvOk] using hok)
    | scope x =>
      have : ∃ a l1 b l2 c, ic = .scope a l1 b l2 c := by
        simp only [comp] at h
        split at h
        · split at h
          · simp only [Option.some.injEq] at h; exact ⟨_, _, _, _, _, h.symm⟩
          · simp at h
        · split at h
          · simp only [Option.some.injEq] at h; exact ⟨_, _, _, _, _, h.symm⟩
          · simp at h
        · simp at h
      obtain ⟨_, _, _, _, _, rfl⟩ := this
      exact plain (by simpa [rcvOk] using hok)
    | block id x =>
      simp only [comp] at h
      split at h
      · simp only [Option.some.injEq] at h; subst h; exact plain (by simpa [rcvOk] using hok)
      · simp at h
    | loop x =>
      simp only [comp] at h
      split at h
      · simp only [Option.some.injEq] at h; subst h; exact plain (by simpa [rcvOk] using hok)
      · simp at h
    | _ => simp only [comp, Option.some.injEq] at h; subst h; exact plain rfl
end Go.Ab
