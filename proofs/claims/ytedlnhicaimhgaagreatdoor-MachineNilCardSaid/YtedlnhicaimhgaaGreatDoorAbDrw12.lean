import Derived.Test.YtedlnhicaimhgaaGreatDoorAbDrw11
namespace Go.Ab
variable {P : Program} {n : Nat} {w0 : World} {meth : Nat → String → Option Nat} {call : Nat → List AV → Heap → Option CR}
variable {ops : Array Oper} {l : List DIt} {pre : Nat → List Nat} {N : Nat} {T : Nat → St} {e0 : Env} {β0 : Ren} {k0 : Nat}

theorem guard_stay (R : Reg0 P n ops l pre) (Tr : Trace0 meth call l N T) {p : Nat} {it : DIt} (hp : l[p]? = some it) : ∀ q, p ≤ q → q ≤ N → wantedA (T q) it.s.g = wantedA (T p) it.s.g
  | 0, h, _ => by have : p = 0 := by omega
                  subst this; rfl
  | q + 1, h, hN => by
    rcases Nat.lt_or_ge p (q + 1) with h' | h'
    · obtain ⟨b, hq⟩ : ∃ b, l[q]? = some b := ⟨_, List.getElem?_eq_getElem (by have := Tr.le; omega)⟩
      have hs := Tr.step q b (by omega) hq
      have henv := stepG_env hs
      rw [← guard_stay R Tr hp q (by omega) (by omega)]
      refine (guard_congr (fun t ht => henv t fun d hd e => ?_)).2
      subst e
      rcases Nat.lt_or_ge p q with h2 | h2
      · exact (R.apart hp hq h2).1 t hd ht
      · have : p = q := by omega
        subst this; rw [hp] at hq; cases hq; exact R.self hp t hd ht
    · have : p = q + 1 := by omega
      subst this; rfl

/-- An allocation that is wanted makes the heap greater. -/
theorem grow (R : Reg0 P n ops l pre) (Tr : Trace0 meth call l N T) {p : Nat} {it : DIt} (hp : l[p]? = some it) (hN : p < N) (hc : catOf it.s.op = .alloc) (hw : wantedA (T p) it.s.g = true) : (T (p + 1)).heap.size = (T p).heap.size + 1 := by
  have hs := Tr.step p it hN hp
  obtain ⟨_, ⟨_, v, H, hv, e⟩ | ⟨hw', _⟩⟩ := step_plain (by rw [hc]; simp) hs
  · obtain ⟨t, cs, rfl, _⟩ := vop_alloc hc hv
    rw [e, put_heap]; unfold Heap.new; rw [Heap.size_push]
  · rw [hw] at hw'; cases hw'

theorem pre_ready (R : Reg0 P n ops l pre) {listed : Array Bool} {q : Nat} {β : Ren} {E : Env} {a : Act} {w : World} (I : Inv0 P n w0 ops l N T e0 β0 k0 listed q β E a w) {i : Nat} (hr : i ∈ Region.ready .any ops listed) :
    ∀ j ∈ pre i, Ls listed j := R.closed (Ls listed) I.closed i ((ready_iff I.size).1 hr).2.2

theorem set_closed {listed : Array Bool} {i : Nat} (hs : listed.size = ops.size) (hcl : ∀ i, Ls listed i → ∀ j ∈ edgesAt ops i, Ls listed j) (hr : i ∈ Region.ready .any ops listed) :
    ∀ k, Ls (listed.setIfInBounds i true) k → ∀ j ∈ edgesAt ops k, Ls (listed.setIfInBounds i true) j := by
  obtain ⟨hi, _, he⟩ := (ready_iff hs).1 hr
  intro k hk j hj
  rw [Ls_set (by omega)] at hk ⊢
  rcases hk with rfl | hk
  · exact .inr (he j hj)
  · exact .inr (hcl k hk j hj)

/-- The next act comes. -/
theorem act_step (E0 : Env0 P w0 meth call) (R : Reg0 P n ops l pre) (Tr : Trace0 meth call l N T) (hend : Ends l N T meth call) {listed : Array Bool} {q : Nat} {β : Ren} {E : Env} {a : Act} {w : World} {Q : Exit → Act → World → Prop}
    (I : Inv P n w0 ops l N T e0 β0 k0 listed q β E a w) {it : DIt} (hq : l[q]? = some it) (hr : it.ix ∈ Region.ready .any ops listed) (hqN : q < N) {K : Act → World → Prop}
    (hK : ∀ q' β' E' a' w', q < q' → Inv P n w0 ops l N T e0 β0 k0 (listed.setIfInBounds it.ix true) q' β' E' a' w' → K a' w') : wpOp P ops Q it.ix K a w := by
  obtain ⟨o, ho, hc, hcat⟩ := R.get q it hq
  have hpre := pre_ready R I.toInv0 hr
  obtain ⟨hixlt, hnL, _⟩ := (ready_iff I.size).1 hr
  have hag := I.toInv0.agree R hq hpre
  have hs := Tr.step q it hqN hq
  have henv := stepG_env hs
  obtain ⟨x, hx1, hx2⟩ := stepG_congr hs
  obtain ⟨hpan, hxh, hxd, hxr, hxo, hxs⟩ := eff_env hx1
  have hsE := hx2 E hag
  have hon : x.on it.s.dst { T q with env := E } = (none, { ({ T q with env := E } : St) with heap := x.heap, dfs := x.dfs, rc := x.rc }.put it.s.dst x.v) := by
    unfold Eff.on; rw [hpan]
  rw [hon] at hsE
  have hbix : ∀ {p : Nat} {b : DIt}, l[p]? = some b → b.ix = it.ix → p = q := fun hb e => R.inj _ _ _ _ hb hq e
  have hset : ∀ j, Ls (listed.setIfInBounds it.ix true) j ↔ j = it.ix ∨ Ls listed j := fun j => Ls_set (by rw [I.size]; exact hixlt)
  refine stepG_sound E0 ho hc I.sr hsE (I.rc q it hq) (fun β' a' w' _ hE hsz hSR => ?_) (fun β' v chain a' w' e => by cases e)
  have hrc : (T (q + 1)).rc = (T q).rc := stepG_rc (I.rc q it hq) hs
  have hsz' : (T q).heap.size ≤ (T (q + 1)).heap.size := by
    rw [hxh]; rw [put_heap] at hsz; exact hsz
  generalize hE' : (match it.s.dst with | some d => PMap.set E d x.v | none => E : Env) = E'
  have hE'on : ∀ d, it.s.dst = some d → E'.at d = x.v := fun d hd => by rw [← hE', hd]; simp only [Env.at_set, if_true]
  have hE'off : ∀ t, (∀ d, it.s.dst = some d → t ≠ d) → E'.at t = E.at t := fun t ht => by
    rw [← hE']
    cases hd : it.s.dst with
    | none => rfl
    | some d => simp only [Env.at_set]; rw [if_neg (ht d hd)]
  have hst : ({ T (q + 1) with env := E' } : St) = ({ ({ T q with env := E } : St) with heap := x.heap, dfs := x.dfs, rc := x.rc }.put it.s.dst x.v) := by
    have h1 : ({ T (q + 1) with env := E' } : St) = { env := E', dfs := x.dfs, heap := x.heap, rc := x.rc } := by
      rw [← hxh, ← hxd, ← hxr]
    rw [h1, ← hE']
    cases it.s.dst <;> rfl
  have I1 : Inv0 P n w0 ops l N T e0 β0 k0 (listed.setIfInBounds it.ix true) (q + 1) β' E' a' w' := by
    refine { size := by simpa using I.size, closed := set_closed I.size I.closed hr, le := hqN, acts := ?_, ahead := ?_, env := ?_, pend := ?_, unborn := ?_, mono := ?_, sr := ?_, ext := I.ext.trans hE I.hk, hk := Nat.le_trans I.hk hsz', base0 := I.base0, rc := ?_ }
    · intro p b hp hb he
      rw [hset]
      rcases Nat.lt_or_ge p q with h | h
      · exact .inr (I.acts p b h hb he)
      · have e : p = q := by omega
        subst e; rw [hq] at hb; cases hb; exact .inl rfl
    · intro p b hb hL
      rcases (hset _).1 hL with e | h
      · have := hbix hb e; omega
      · have := I.ahead p b hb h; omega
    · refine ⟨fun p b d hb hd hL => ?_, fun d hno => ?_, fun d hno => ?_⟩
      · rcases (hset _).1 hL with e | h
        · have := hbix hb e
          subst this; rw [hq] at hb; cases hb
          rw [hE'on d hd, hxs d hd]
        · have hpq := I.ahead p b hb h
          have hne : ∀ d', it.s.dst = some d' → d ≠ d' := fun d' hd' e => by
            subst e; have := R.dsts p b q it d hb hq hd hd'; omega
          rw [hE'off d hne, hxo d hne]; exact I.env.on p b d hb hd h
      · have hne : ∀ d', it.s.dst = some d' → d ≠ d' := fun d' hd' e => by
          subst e; exact hno q it hq hd' ((hset _).2 (.inl rfl))
        rw [hE'off d hne]; exact I.env.off d (fun p b hb hd hL => hno p b hb hd ((hset _).2 (.inr hL)))
      · have hne : ∀ d', it.s.dst = some d' → d ≠ d' := fun d' hd' e => by
          subst e; exact hno q it hq hd'
        rw [hxo d hne]; exact I.env.base d hno
    · intro p b hp hb hnl
      have hnl' : ¬ Ls listed b.ix := fun h => hnl ((hset _).2 (.inr h))
      have hpq : p < q := by
        rcases Nat.lt_or_ge p q with h | h
        · exact h
        · have e : p = q := by omega
          subst e; rw [hq] at hb; cases hb; exact absurd ((hset _).2 (.inl rfl)) hnl
      have hbc : catOf b.s.op ≠ .act := fun hc => hnl' (I.acts p b hpq hb (by rw [R.cat hb]; simp [hc]))
      exact pend_next R Tr hb hq hpq hqN hbc (fun _ h => hnl' (hpre _ h)) (I.pend p b hpq hb hnl')
    · intro p b hp hb hnl
      have hnl' : ¬ Ls listed b.ix := fun h => hnl ((hset _).2 (.inr h))
      have hpq : p < q := by
        rcases Nat.lt_or_ge p q with h | h
        · exact h
        · have e : p = q := by omega
          subst e; rw [hq] at hb; cases hb; exact absurd ((hset _).2 (.inl rfl)) hnl
      by_cases hg : (T (p + 1)).heap.size = (T p).heap.size
      · exact .inr hg
      · rcases I.unborn p b hpq hb hnl' with h | h
        · refine .inl (hE.un _ ?_ h)
          have h1 := I.mono p (p + 1) (by omega) (by omega)
          have h2 := I.mono (p + 1) q (by omega) (Nat.le_refl _)
          show (T p).heap.size < (T q).heap.size
          omega
        · exact absurd h hg
    · intro p p' hp hp'
      rcases Nat.lt_or_ge p' (q + 1) with h | h
      · exact I.mono p p' hp (by omega)
      · have e : p' = q + 1 := by omega
        subst e
        rcases Nat.lt_or_ge p (q + 1) with h' | h'
        · exact Nat.le_trans (I.mono p q (by omega) (Nat.le_refl _)) hsz'
        · have : p = q + 1 := by omega
          subst this; exact Nat.le_refl _
    · rw [hst]; exact hSR
    · intro p b hb; rw [hrc]; exact I.rc p b hb
  obtain ⟨q', h1, h2⟩ := Inv0.advance R Tr hend _ (q + 1) rfl I1
  exact hK q' β' E' a' w' (by omega) h2

/-- What stands ahead comes behind. -/
theorem late_step (E0 : Env0 P w0 meth call) (R : Reg0 P n ops l pre) (Tr : Trace0 meth call l N T) {listed : Array Bool} {q : Nat} {β : Ren} {E : Env} {a : Act} {w : World} {Q : Exit → Act → World → Prop}
    (I : Inv P n w0 ops l N T e0 β0 k0 listed q β E a w) {p : Nat} {it : DIt} (hp : l[p]? = some it) (hpq : p < q) (hr : it.ix ∈ Region.ready .any ops listed) {K : Act → World → Prop}
    (hK : ∀ β' E' a' w', Inv P n w0 ops l N T e0 β0 k0 (listed.setIfInBounds it.ix true) q β' E' a' w' → K a' w') : wpOp P ops Q it.ix K a w := by
  obtain ⟨o, ho, hc, hcat⟩ := R.get p it hp
  have hpre := pre_ready R I.toInv0 hr
  obtain ⟨hixlt, hnL, _⟩ := (ready_iff I.size).1 hr
  have hag := I.toInv0.agree R hp hpre
  have hna : catOf it.s.op ≠ .act := fun h => hnL (I.acts p it hpq hp (by rw [R.cat hp]; simp [h]))
  obtain ⟨hb, hun, hwa⟩ := I.pend p it hpq hp hnL
  have hbix : ∀ {p' : Nat} {b : DIt}, l[p']? = some b → b.ix = it.ix → p' = p := fun hb e => R.inj _ _ _ _ hb hp e
  have hset : ∀ j, Ls (listed.setIfInBounds it.ix true) j ↔ j = it.ix ∨ Ls listed j := fun j => Ls_set (by rw [I.size]; exact hixlt)
  have hagl : ∀ t ∈ it.s.looks, ({ T q with env := E } : St).env.at t = (T q).env.at t := fun t ht => (hag t ht).symm
  obtain ⟨g1, g2⟩ := guard_congr (st := T q) (st' := { T q with env := E }) hagl
  -- how the invariant goes on
  have next : ∀ (β' : Ren) (v : AV) (a' : Act) (w' : World), (∀ d, it.s.dst = some d → (T q).env.at d = v) → Ext β0 k0 β' →
      (∀ (p' : Nat) (b : DIt), p' < q → p' ≠ p → l[p']? = some b → ¬ Ls listed b.ix → (T (p' + 1)).heap.size ≠ (T p').heap.size → β (T p').heap.size = none → β' (T p').heap.size = none) →
      SR P n w0 β' (({ T q with env := E } : St).put it.s.dst v) a' w' → K a' w' := by
    intro β' v a' w' hv hext hunb hSR
    generalize hE' : (match it.s.dst with | some d => PMap.set E d v | none => E : Env) = E'
    have hE'on : ∀ d, it.s.dst = some d → E'.at d = v := fun d hd => by rw [← hE', hd]; simp only [Env.at_set, if_true]
    have hE'off : ∀ t, (∀ d, it.s.dst = some d → t ≠ d) → E'.at t = E.at t := fun t ht => by
      rw [← hE']
      cases hd : it.s.dst with
      | none => rfl
      | some d => simp only [Env.at_set]; rw [if_neg (ht d hd)]
    have hst : ({ T q with env := E' } : St) = (({ T q with env := E } : St).put it.s.dst v) := by
      rw [← hE']; cases it.s.dst <;> rfl
    refine hK β' E' a' w' { size := by simpa using I.size, closed := set_closed I.size I.closed hr, le := I.le, acts := ?_, ahead := ?_, env := ?_, pend := ?_, unborn := ?_, mono := I.mono, sr := ?_, ext := hext, hk := I.hk, base0 := I.base0, rc := I.rc, atq := I.atq }
    · exact fun p' b hp' hb he => (hset _).2 (.inr (I.acts p' b hp' hb he))
    · intro p' b hb hL
      rcases (hset _).1 hL with e | h
      · have := hbix hb e; omega
      · exact I.ahead p' b hb h
    · refine ⟨fun p' b d hb hd hL => ?_, fun d hno => ?_, I.env.base⟩
      · rcases (hset _).1 hL with e | h
        · have := hbix hb e
          subst this; rw [hp] at hb; cases hb
          rw [hE'on d hd, hv d hd]
        · have hne : ∀ d', it.s.dst = some d' → d ≠ d' := fun d' hd' e => by
            subst e
            have := R.dsts p' b p it d hb hp hd hd'
            subst this; rw [hp] at hb; cases hb; exact hnL h
          rw [hE'off d hne]; exact I.env.on p' b d hb hd h
      · have hne : ∀ d', it.s.dst = some d' → d ≠ d' := fun d' hd' e => by
          subst e; exact hno p it hp hd' ((hset _).2 (.inl rfl))
        rw [hE'off d hne]; exact I.env.off d (fun p' b hb hd hL => hno p' b hb hd ((hset _).2 (.inr hL)))
    · intro p' b hp' hb hnl
      exact I.pend p' b hp' hb fun h => hnl ((hset _).2 (.inr h))
    · intro p' b hp' hb hnl
      have hnl' : ¬ Ls listed b.ix := fun h => hnl ((hset _).2 (.inr h))
      have hne : p' ≠ p := fun e => by subst e; rw [hp] at hb; cases hb; exact hnl ((hset _).2 (.inl rfl))
      by_cases hg : (T (p' + 1)).heap.size = (T p').heap.size
      · exact .inr hg
      · rcases I.unborn p' b hp' hb hnl' with h | h
        · exact .inl (hunb p' b hp' hne hb hnl' hg h)
        · exact absurd h hg
    · rw [hst]; exact hSR
  have plain : ∀ v, (∀ d, it.s.dst = some d → (T q).env.at d = v) → stepG meth call it.s { T q with env := E } = some (none, ({ T q with env := E } : St).put it.s.dst v) → wpOp P ops Q it.ix K a w := by
    intro v hv hs
    refine stepG_sound E0 ho hc I.sr hs (I.rc p it hp) (fun β' a' w' _ hE hsz hSR => ?_) (fun β' v chain a' w' e => by cases e)
    refine next β' v a' w' hv (I.ext.trans hE I.hk) (fun p' b hp' _ hb hnl hg h => hE.un _ ?_ h) hSR
    have h1 := I.mono p' (p' + 1) (by omega) (by omega)
    have h2 := I.mono (p' + 1) q (by omega) (Nat.le_refl _)
    show (T p').heap.size < (T q).heap.size
    omega
  cases hw : wantedA (T q) it.s.g with
  | false =>
    refine plain .undef (hun hw) ?_
    unfold stepG; rw [g1, hb, g2, hw]; rfl
  | true =>
    obtain ⟨h4, h5⟩ := hwa hw
    by_cases hal : catOf it.s.op = .alloc
    · obtain ⟨H0, v, H1, hsz0, hv, hvd⟩ := h5 hal
      have hv' : vop it.s.op (Opd.ev E) H0 = some (v, H1) := by rw [← vop_congr (hag.mono fun t ht => by simp [ISt.looks, ht])]; exact hv
      obtain ⟨hco, hcg, hdst, hdn⟩ := cSt_spec hc
      obtain ⟨t, cs, c', x, rfl, hcr, hcs, hrun, hval⟩ := alloc_sound (P := P) (w := w) hco hal (fun y y' hy => I.sr.ev y y' hy) hv'
      have hwant := wanted_eq I.sr.env hcg (g1.trans hb)
      unfold wpOp
      simp only [ho, hwant, g2, hw, if_true]
      refine .inl ?_
      unfold Oper.wp
      rw [hrun, Oper.upon_value, ← hdst]
      have hpN : p < N := by have := I.le; omega
      have hgrow := grow R Tr hp hpN hal (by rw [← guard_stay R Tr hp q (by omega) I.le]; exact hw)
      have hunb0 : β (T p).heap.size = none := by
        rcases I.unborn p it hpq hp hnL with h | h
        · exact h
        · omega
      by_cases hdd : ∃ d, it.s.dst = some d
      · obtain ⟨d, hd⟩ := hdd
        have hget : (T q).heap.get (T p).heap.size = some (.cells cs t H0.fresh) := by
          have := (hvd d hd).2
          rw [hsz0] at this
          rw [this]; unfold Heap.new; rw [← hsz0, Heap.get_push, if_pos rfl]
        have hH := HR.born (ob := .cells c' t (0, 0)) c'.size I.sr.heap hget hunb0 ⟨c', (0, 0), rfl, hcr, fun _ => Nat.le_refl _, rfl⟩ (fun _ _ _ e _ => by cases e; exact hcs)
        have hle : Ren.le β (β.up (T p).heap.size (w.heap.size, 0) c'.size) := Ren.le_up β _ _ hunb0
        have hb' : (β.up (T p).heap.size (w.heap.size, 0) c'.size) H0.size = some (w.heap.size, 0) := by rw [hsz0]; exact Ren.up_same _ _ _ _
        have hVx : V (β.up (T p).heap.size (w.heap.size, 0) c'.size) v x := by
          rcases hval with ⟨rfl, rfl⟩ | ⟨k, c, hkc, rfl, rfl⟩
          · exact .ptr hb'
          · exact .sl hb' hkc (Nat.le_refl _) (fun _ => rfl) (fun _ => rfl) (fun h => absurd rfl h)
        refine next _ v _ _ (fun d' hd' => (hvd d' hd').1) ?_ ?_ ((I.sr.step hle hH).put (by rw [hdst]; exact hdn) hVx)
        · refine ⟨Ren.le_trans I.ext.le hle, fun b hbk hb0 => ?_⟩
          by_cases e : b = (T p).heap.size
          · subst e
            -- it was laid in the region
            have := I.hk
            exact absurd hbk (by have := I.mono 0 p (Nat.zero_le _) (by omega); have := I.base0; omega)
          · rw [Ren.up_other _ _ _ e]; exact I.ext.un b hbk hb0
        · intro p' b hp' hne hb2 hnl hg h
          rw [Ren.up_other]; exact h
          rcases Nat.lt_or_ge p' p with h1 | h1
          · have h2 := I.mono p' (p' + 1) (by omega) (by omega)
            have h3 := I.mono (p' + 1) p (by omega) (by omega)
            omega
          · have h3 := I.mono (p + 1) p' (by omega) (by omega)
            omega
      · have hd : it.s.dst = none := by cases h : it.s.dst with
          | none => rfl
          | some d => exact absurd ⟨d, h⟩ hdd
        refine next β .undef _ _ (fun d h => by rw [hd] at h; cases h) I.ext (fun _ _ _ _ _ _ _ h => h) ?_
        rw [hd]
        exact ⟨HR.junk I.sr.heap, I.sr.glob, I.sr.env, I.sr.size, I.sr.dfs⟩
    · obtain ⟨v, hv, hvd⟩ := h4 hal
      refine plain v hvd ?_
      have hv' : vop it.s.op (Opd.ev E) (T q).heap = some (v, (T q).heap) := by rw [← vop_congr (hag.mono fun t ht => by simp [ISt.looks, ht])]; exact hv
      unfold stepG
      rw [g1, hb, g2, hw]
      simp only [cond_true, cond_false]
      rw [step1_vop (.inl (cat_ctl hna))]
      show (match vop it.s.op (Opd.ev E) (T q).heap with | some (v, H) => _ | none => none) = _
      rw [hv']
end Go.Ab
