import Derived.Test.YtedlnhicaimhgaaGreatDoorAbSnd5
import Derived.Orders
/-!
Regions in order, control.
-/
namespace Go.Ab
variable {P : Program} {n : Nat} {w0 : World} {β β' : Ren} {st st' : St} {a : Act} {w w' : World} {meth : Nat → String → Option Nat} {call : Nat → List AV → Heap → Option CR}

theorem wanted_eq {ops : Array Oper} {o : Oper} {g : Option (Nat × Bool)} (h : ∀ t, V β (st.env.at t) (a.tmps.getD t undef)) (hg : cGuard ops o = some g) (hb : blindA st g = false) : Region.wanted o (yielded ops a.tmps) = wantedA st g := by
  unfold cGuard at hg
  cases hog : o.guard with
  | none =>
    rw [hog] at hg; simp only [Option.some.injEq] at hg; subst hg
    simp [Region.wanted, hog, wantedA]
  | some q =>
    obtain ⟨j, want⟩ := q
    rw [hog] at hg
    simp only at hg
    cases hj : ops[j]? with
    | none => simp [hj] at hg
    | some p =>
      simp only [hj] at hg
      cases hp : p.dst with
      | none => simp [hp] at hg
      | some t =>
        simp only [hp, Option.some.injEq] at hg
        subst hg
        have hV := h t
        simp only [Region.wanted, hog, wantedA]
        have hy : yielded ops a.tmps j = match a.tmps[t]? with | some (.bool b) => some b | _ => none := by
          simp only [yielded, hj, Option.bind_some, hp]
          cases a.tmps[t]? with
          | none => rfl
          | some u => cases u <;> rfl
        simp only [blindA] at hb
        rw [hy]
        rw [Array.getD_eq_getD_getElem?] at hV
        cases hx : st.env.at t with
        | any => simp [hx] at hb
        | bool b =>
          rw [hx] at hV
          cases ht : a.tmps[t]? with
          | none => rw [ht] at hV; simp only [Option.getD_none, undef] at hV; cases hV
          | some u =>
            rw [ht] at hV; simp only [Option.getD_some] at hV; cases hV
            simp only []
            cases b <;> cases want <;> rfl
        | _ =>
          rw [hx] at hV
          cases ht : a.tmps[t]? with
          | none => simp
          | some u =>
            rw [ht] at hV; simp only [Option.getD_some] at hV
            cases hV <;> rfl

/-- How a code's run ends, on both sides. -/
def ExR (P : Program) (n : Nat) (w0 : World) (β : Ren) (k : Nat) (x : XT) (st' : St) : Exit → Act → World → Prop
  | .normal, a, w => x = .normal ∧ ∃ β', Ext β k β' ∧ k ≤ st'.heap.size ∧ SR P n w0 β' st' a w
  | .exit id, a, w => x = .exit id ∧ ∃ β', Ext β k β' ∧ k ≤ st'.heap.size ∧ SR P n w0 β' st' a w
  | .goto l, a, w => x = .goto l ∧ ∃ β', Ext β k β' ∧ k ≤ st'.heap.size ∧ SR P n w0 β' st' a w
  | .ret, a, w => x = .ret ∧ ∃ β', Ext β k β' ∧ k ≤ st'.heap.size ∧ SR P n w0 β' st' a w
  | .panic chain, a, w => ∃ v, x = .pan v ∧ ∃ β', Ext β k β' ∧ k ≤ st'.heap.size ∧ SR P n w0 β' st' a w ∧ PanR β' v chain
  | .outgrown, _, _ => False

def RcOK (st : St) (c : ICode) : Prop := st.rc = none ∨ noRcv c = true

theorem step1_rcv_none {s : ISt} (h : s.op = .rcv) (hr : st.rc = none) : step1 meth call s st = none := by
  obtain ⟨d, op, g⟩ := s; simp only at h; subst h; simp [step1, hr]

theorem cSt_spec {ops : Array Oper} {o : Oper} {s : ISt} (h : cSt P n ops o = some s) : cOp P o = some s.op ∧ cGuard ops o = some s.g ∧ s.dst = o.dst ∧ (∀ t, o.dst = some t → t < n) := by
  unfold cSt at h
  split at h
  · rename_i i g h1 h2
    split at h
    · rename_i d hd
      rw [Heap.blt_eq] at h
      by_cases hlt : d < n
      · simp only [hlt, decide_true, cond_true, Option.some.injEq] at h
        subst h
        exact ⟨h1, h2, hd.symm, fun t e => by rw [hd] at e; cases e; exact hlt⟩
      · simp [hlt] at h
    · rename_i hd
      simp only [Option.some.injEq] at h
      subst h
      exact ⟨h1, h2, hd.symm, fun t e => by rw [hd] at e; cases e⟩
  · simp at h

theorem stepG_rc {s : ISt} {p : Option AV} (hr : st.rc = none ∨ s.op ≠ .rcv) (hs : stepG meth call s st = some (p, st')) : st'.rc = st.rc := by
  unfold stepG at hs
  cases hb : blindA st s.g with
  | true => simp [hb] at hs
  | false =>
    simp only [hb, cond_false] at hs
    cases hwa : wantedA st s.g with
    | true =>
      simp only [hwa, cond_true] at hs
      refine step1_rc hs ?_
      rcases hr with hr | hr
      · intro e; rw [step1_rcv_none e hr] at hs; simp at hs
      · exact hr
    | false =>
      simp only [hwa, cond_false, Option.some.injEq, Prod.mk.injEq] at hs
      obtain ⟨_, rfl⟩ := hs
      exact put_rc _ _ _
theorem execOps_rc : ∀ (sl : List ISt) (st : St) (x : XT) (st' : St), RcOK st (.ops sl) → execOps meth call sl st = some (x, st') → st'.rc = st.rc
  | [], st, x, st', _, hx => by
    simp only [execOps, Option.some.injEq, Prod.mk.injEq] at hx
    rw [hx.2]
  | s :: sl, st, x, st', hr, hx => by
    have hr' : st.rc = none ∨ s.op ≠ .rcv := hr.imp id fun hr e => by simp [noRcv, e] at hr
    simp only [execOps] at hx
    cases hs : stepG meth call s st with
    | none => simp [hs] at hx
    | some q =>
      obtain ⟨p, st1⟩ := q
      have h1 := stepG_rc hr' hs
      cases p with
      | some v => simp only [hs, Option.some.injEq, Prod.mk.injEq] at hx; rw [← hx.2]; exact h1
      | none =>
        simp only [hs] at hx
        refine (execOps_rc sl st1 x st' ?_ hx).trans h1
        rcases hr with hr | hr
        · exact .inl (h1.trans hr)
        · refine .inr ?_
          simp only [noRcv, List.all_cons, Bool.and_eq_true] at hr ⊢
          exact hr.2
theorem execDrw_rc (e0 : Env) (all : List DIt) : ∀ (sl : List DIt) (st : St) (x : XT) (st' : St), RcOK st (.drw sl) → execDrw meth call e0 all sl st = some (x, st') → st'.rc = st.rc
  | [], st, x, st', _, hx => by
    simp only [execDrw, Option.some.injEq, Prod.mk.injEq] at hx
    rw [hx.2]
  | s :: sl, st, x, st', hr, hx => by
    have hr' : st.rc = none ∨ s.s.op ≠ .rcv := hr.imp id fun hr e => by simp [noRcv, e] at hr
    simp only [execDrw] at hx
    cases hs : stepG meth call s.s st with
    | none => simp [hs] at hx
    | some q =>
      obtain ⟨p, st1⟩ := q
      have h1 := stepG_rc hr' hs
      cases p with
      | some v =>
        simp only [hs] at hx
        cases he : s.eff with
        | false => simp [he] at hx
        | true => simp only [he, cond_true, Option.some.injEq, Prod.mk.injEq] at hx; rw [← hx.2]; exact h1
      | none =>
        simp only [hs] at hx
        cases hq : (!s.eff || (flOk st1 s.fl && faOk st st1 s.fa)) with
        | false => simp [hq] at hx
        | true =>
          simp only [hq, cond_true] at hx
          generalize (!s.pr || (_ : Bool)) = bb at hx
          cases bb with
          | false => simp at hx
          | true =>
            simp only [cond_true] at hx
            refine (execDrw_rc e0 all sl st1 x st' ?_ hx).trans h1
            rcases hr with hr | hr
            · exact .inl (h1.trans hr)
            · refine .inr ?_
              simp only [noRcv, List.all_cons, Bool.and_eq_true] at hr ⊢
              exact hr.2
/-- A step of a region, wanted or not. -/
theorem stepG_sound {K : Act → World → Prop} {Q : Exit → Act → World → Prop} {ops : Array Oper} {i : Nat} {o : Oper} {s : ISt} {p : Option AV} (E : Env0 P w0 meth call) (hi : ops[i]? = some o) (hc : cSt P n ops o = some s)
    (h : SR P n w0 β st a w) (hs : stepG meth call s st = some (p, st')) (hr : st.rc = none ∨ s.op ≠ .rcv)
    (hK : ∀ β' a' w', p = none → Ext β st.heap.size β' → st.heap.size ≤ st'.heap.size → SR P n w0 β' st' a' w' → K a' w')
    (hQ : ∀ β' v chain a' w', p = some v → Ext β st.heap.size β' → st.heap.size ≤ st'.heap.size → SR P n w0 β' st' a' w' → PanR β' v chain → Q (.panic chain) a' w') : wpOp P ops Q i K a w := by
  obtain ⟨h1, h2, h3, h4⟩ := cSt_spec hc
  unfold stepG at hs
  cases hb : blindA st s.g with
  | true => simp [hb] at hs
  | false =>
    simp only [hb, cond_false] at hs
    have hw := wanted_eq h.env h2 hb
    unfold wpOp
    simp only [hi, hw]
    cases hwa : wantedA st s.g with
    | true =>
      simp only [hwa, cond_true, if_true] at hs ⊢
      have hr' : s.op ≠ .rcv := by
        rcases hr with hr | hr
        · intro e; rw [step1_rcv_none e hr] at hs; simp at hs
        · exact hr
      exact .inl (step1_sound E h1 h3 h4 h hs hr' hK hQ)
    | false =>
      simp only [hwa, cond_false, Bool.false_eq_true, if_false, Option.some.injEq, Prod.mk.injEq] at hs ⊢
      obtain ⟨rfl, rfl⟩ := hs
      refine hK β _ w rfl (Ext.refl _ _) (by cases s.dst <;> exact Nat.le_refl _) ?_
      rw [h3]; exact h.put h4 V.undef

theorem cSts_cons {ops : Array Oper} {o : Oper} {l : List Oper} {sl : List ISt} (h : cSts P n ops (o :: l) = some sl) : ∃ s sl', cSt P n ops o = some s ∧ cSts P n ops l = some sl' ∧ sl = s :: sl' := by
  simp only [cSts] at h
  split at h
  · rename_i s r h1 h2; simp only [Option.some.injEq] at h; exact ⟨s, r, h1, h2, h.symm⟩
  · simp at h

theorem ops_sound {ops : Array Oper} (E : Env0 P w0 meth call) {β0 : Ren} {k0 : Nat} : ∀ (k i : Nat) (sl : List ISt) (st : St) (x : XT) (st' : St) (β : Ren) (a : Act) (w : World), Ext β0 k0 β → k0 ≤ st.heap.size → ops.size - i = k → cSts P n ops (ops.toList.drop i) = some sl → RcOK st (.ops sl) →
    execOps meth call sl st = some (x, st') → SR P n w0 β st a w → wpOps P ops (ExR P n w0 β0 k0 x st') (List.range' i k) a w
  | 0, i, sl, st, x, st', β, a, w, he, hk0, hk, hc, hr, hx, h => by
    have : ops.toList.drop i = [] := by apply List.drop_eq_nil_of_le; simp; omega
    rw [this] at hc
    simp only [cSts, Option.some.injEq] at hc
    subst hc
    simp only [execOps, Option.some.injEq, Prod.mk.injEq] at hx
    obtain ⟨rfl, rfl⟩ := hx
    exact ⟨rfl, β, he, hk0, h⟩
  | k + 1, i, sl, st, x, st', β, a, w, he, hk0, hk, hc, hr, hx, h => by
    have hlt : i < ops.toList.length := by simp; omega
    rw [List.drop_eq_getElem_cons hlt] at hc
    obtain ⟨s, sl', h1, h2, rfl⟩ := cSts_cons hc
    have hi : ops[i]? = some ops.toList[i] := by rw [← Array.getElem?_toList]; exact List.getElem?_eq_getElem hlt
    simp only [execOps] at hx
    cases hs : stepG meth call s st with
    | none => simp [hs] at hx
    | some q =>
      obtain ⟨p, st1⟩ := q
      have hr' : st.rc = none ∨ s.op ≠ .rcv := hr.imp id fun hr e => by simp [noRcv, e] at hr
      rw [List.range'_succ, wpOps_cons]
      cases p with
      | some v =>
        simp only [hs, Option.some.injEq, Prod.mk.injEq] at hx
        obtain ⟨rfl, rfl⟩ := hx
        exact stepG_sound E hi h1 h hs hr' (fun _ _ _ e => by cases e) (fun β' u chain a' w' e h3 h4 h5 h6 => by cases e; exact ⟨_, rfl, β', he.trans h3 hk0, by omega, h5, h6⟩)
      | none =>
        simp only [hs] at hx
        have hrc1 : st1.rc = st.rc := stepG_rc hr' hs
        have hr1 : RcOK st1 (.ops sl') := by
          rcases hr with hr | hr
          · exact .inl (hrc1.trans hr)
          · refine .inr ?_
            simp only [noRcv, List.all_cons, Bool.and_eq_true] at hr ⊢
            exact hr.2
        exact stepG_sound E hi h1 h hs hr' (fun β' a' w' _ h3 h4 h5 => ops_sound E k (i + 1) sl' st1 x st' β' a' w' (he.trans h3 hk0) (by omega) (by omega) h2 hr1 hx h5) (fun _ _ _ _ _ e => by cases e)
end Go.Ab
