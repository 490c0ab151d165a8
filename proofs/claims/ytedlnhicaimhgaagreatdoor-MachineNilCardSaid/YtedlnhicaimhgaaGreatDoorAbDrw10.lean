import Derived.Test.YtedlnhicaimhgaaGreatDoorAbDrw9
namespace Go.Ab
variable {P : Program} {n : Nat} {meth : Nat → String → Option Nat} {call : Nat → List AV → Heap → Option CR}

section
variable {ops : Array Oper} {l : List DIt} {pre : Nat → List Nat} {N : Nat} {T : Nat → St}

/-- No item writes what an earlier one looks at, or its slot. -/
theorem Reg0.apart (R : Reg0 P n ops l pre) {p q : Nat} {it b : DIt} (hp : l[p]? = some it) (hq : l[q]? = some b) (hpq : p < q) :
    (∀ d, b.s.dst = some d → d ∉ it.s.looks) ∧ (∀ d, b.s.dst = some d → it.s.dst ≠ some d) := by
  refine ⟨fun d hd hl => ?_, fun d hd hi => ?_⟩
  · obtain ⟨r, c, hr, hc, he⟩ := R.ahead p it b.ix hp (R.reads p it d q b hp hl hq hd)
    have := R.inj r q c b hc hq he
    omega
  · have := R.dsts p it q b d hp hq hi hd
    omega
theorem Reg0.self (R : Reg0 P n ops l pre) {p : Nat} {it : DIt} (hp : l[p]? = some it) : ∀ d, it.s.dst = some d → d ∉ it.s.looks := fun d hd hl => by
  obtain ⟨r, c, hr, hc, he⟩ := R.ahead p it it.ix hp (R.reads p it d p it hp hl hp hd)
  have := R.inj r p c it hc hp he
  omega

theorem Reg0.cat (R : Reg0 P n ops l pre) {p : Nat} {it : DIt} (hp : l[p]? = some it) : it.eff = decide (catOf it.s.op = .act) := by
  obtain ⟨o, _, _, h⟩ := R.get p it hp; exact h

/-- It has just come. -/
theorem pend_first (R : Reg0 P n ops l pre) (Tr : Trace0 meth call l N T) {p : Nat} {it : DIt} (hp : l[p]? = some it) (hN : p < N) (hc : catOf it.s.op ≠ .act) : Pend (T (p + 1)) it (T p).heap.size := by
  have hs := Tr.step p it hN hp
  have henv := stepG_env hs
  have hlook : ∀ t ∈ it.s.looks, (T (p + 1)).env.at t = (T p).env.at t := fun t ht => henv t fun d hd e => R.self hp d hd (e ▸ ht)
  obtain ⟨g1, g2⟩ := guard_congr hlook
  have hag := looks_agree hlook
  obtain ⟨hb, ⟨hw, v, H, hv, hst⟩ | ⟨hw, hst⟩⟩ := step_plain hc hs
  · refine ⟨g1.trans hb, fun h => ?_, fun _ => ?_⟩
    · rw [g2, hw] at h; cases h
    have hdst : ∀ d, it.s.dst = some d → (T (p + 1)).env.at d = v := fun d hd => by
      rw [hst, hd]; simp only [St.put, Env.at_set, if_true]
    have hheap : (T (p + 1)).heap = H := by rw [hst, put_heap]
    have hv' : vop it.s.op (Opd.ev (T (p + 1)).env) (T p).heap = some (v, H) := by rw [vop_congr hag]; exact hv
    refine ⟨fun hna => ⟨v, ?_, hdst⟩, fun _ => ⟨(T p).heap, v, H, rfl, hv', fun d hd => ⟨hdst d hd, by rw [hheap]⟩⟩⟩
    rw [hheap]
    cases hcat : catOf it.s.op with
    | act => exact absurd hcat hc
    | alloc => exact absurd hcat hna
    | quiet => exact (vop_quiet hcat hv').2 H
    | load =>
      obtain ⟨e1, e2⟩ := vop_load hcat (R.lkp hp) hv'
      have hv2 := hv'
      rw [e1] at hv2 ⊢
      exact hv2
  · refine ⟨g1.trans hb, fun _ d hd => ?_, fun h => ?_⟩
    · rw [hst, hd]; simp only [St.put, Env.at_set, if_true]
    · rw [g2, hw] at h; cases h

/-- Another item came behind it. -/
theorem pend_next (R : Reg0 P n ops l pre) (Tr : Trace0 meth call l N T) {p q : Nat} {it b : DIt} (hp : l[p]? = some it) (hq : l[q]? = some b) (hpq : p < q) (hN : q < N) (hc : catOf it.s.op ≠ .act)
    (hno : catOf b.s.op = .act → it.ix ∉ pre b.ix) {b0 : Nat} (h : Pend (T q) it b0) : Pend (T (q + 1)) it b0 := by
  have hs := Tr.step q b hN hq
  have henv := stepG_env hs
  obtain ⟨a1, a2⟩ := R.apart hp hq hpq
  have hlook : ∀ t ∈ it.s.looks, (T (q + 1)).env.at t = (T q).env.at t := fun t ht => henv t fun d hd e => a1 d hd (e ▸ ht)
  have hd' : ∀ d, it.s.dst = some d → (T (q + 1)).env.at d = (T q).env.at d := fun d hd => henv d fun d' hd' e => a2 d' hd' (e ▸ hd)
  obtain ⟨g1, g2⟩ := guard_congr hlook
  have hag := looks_agree hlook
  obtain ⟨h1, h2, h3⟩ := h
  refine ⟨g1.trans h1, fun hw d hd => ?_, fun hw => ?_⟩
  · rw [hd' d hd]; exact h2 (by rw [← g2]; exact hw) d hd
  obtain ⟨h4, h5⟩ := h3 (by rw [← g2]; exact hw)
  by_cases hbc : catOf b.s.op = .act
  · -- an act
    have heff : b.eff = true := by rw [R.cat hq]; exact decide_eq_true hbc
    obtain ⟨hfl, hfa⟩ := Tr.chk q b hN hq heff
    have hnp := hno hbc
    refine ⟨fun hna => ?_, fun hal => ?_⟩
    · obtain ⟨v, hv, hvd⟩ := h4 hna
      have hv' : vop it.s.op (Opd.ev (T (q + 1)).env) (T q).heap = some (v, (T q).heap) := by rw [vop_congr hag]; exact hv
      cases hcat : catOf it.s.op with
      | act => exact absurd hcat hc
      | alloc => exact absurd hcat hna
      | quiet => exact ⟨v, (vop_quiet hcat hv').2 _, fun d hd => (hd' d hd).trans (hvd d hd)⟩
      | load =>
        obtain ⟨d, u, H', e1, e2, e3⟩ := flOk_mem hfl it.s (R.fl q b p it hq hpq hp hcat hnp) hw
        obtain ⟨e4, _⟩ := vop_load hcat (R.lkp hp) e2
        exact ⟨u, by rw [← e4]; rw [← e4] at e2; exact e2, fun d' hd2 => by rw [e1] at hd2; cases hd2; exact e3.symm⟩
    · obtain ⟨H0, v, H1, hsz0, hv, hvd⟩ := h5 hal
      refine ⟨H0, v, H1, hsz0, by rw [vop_congr hag]; exact hv, fun d hd => ⟨(hd' d hd).trans (hvd d hd).1, ?_⟩⟩
      rw [← (hvd d hd).2]
      have hval := (hd' d hd).trans (hvd d hd).1
      obtain ⟨t, cs, rfl, hva⟩ := vop_alloc hal hv
      have hsame : ∀ b0, sameCells (T q).heap (T (q + 1)).heap b0 = true → (T (q + 1)).heap.get b0 = (T q).heap.get b0 := fun b0 hb0 => by
        obtain ⟨_, _, _, e1, e2⟩ := sameCells_eq hb0
        rw [e1, e2]
      rcases faOk_mem hfa d (R.fa q b p it d hq hpq hp hal hnp hd) with ⟨b0, off, e, hsc⟩ | ⟨b0, off, k, c, sp, e, hsc⟩ | e
      · rw [hval] at e
        rcases hva with ⟨rfl, _⟩ | ⟨k, c, rfl, _⟩
        · cases e; exact hsame _ hsc
        · cases e
      · rw [hval] at e
        rcases hva with ⟨rfl, _⟩ | ⟨k', c', rfl, _⟩
        · cases e
        · cases e; exact hsame _ hsc
      · rw [hval] at e
        rcases hva with ⟨rfl, _⟩ | ⟨k', c', rfl, _⟩ <;> cases e
  · -- no act
    have hmore := plain_more (R.lkp hq) hbc hs
    refine ⟨fun hna => ?_, fun hal => ?_⟩
    · obtain ⟨v, hv, hvd⟩ := h4 hna
      have hv' : vop it.s.op (Opd.ev (T (q + 1)).env) (T q).heap = some (v, (T q).heap) := by rw [vop_congr hag]; exact hv
      refine ⟨v, ?_, fun d hd => (hd' d hd).trans (hvd d hd)⟩
      cases hcat : catOf it.s.op with
      | act => exact absurd hcat hc
      | alloc => exact absurd hcat hna
      | quiet => exact (vop_quiet hcat hv').2 _
      | load => exact (vop_load hcat (R.lkp hp) hv').2 _ hmore
    · obtain ⟨H0, v, H1, hsz0, hv, hvd⟩ := h5 hal
      refine ⟨H0, v, H1, hsz0, by rw [vop_congr hag]; exact hv, fun d hd => ⟨(hd' d hd).trans (hvd d hd).1, ?_⟩⟩
      have hget := (hvd d hd).2
      obtain ⟨t, cs, rfl, _⟩ := vop_alloc hal hv
      have hn : (H0.new t cs).get H0.size = some (.cells cs t H0.fresh) := by unfold Heap.new; rw [Heap.get_push, if_pos rfl]
      rw [hn] at hget ⊢
      exact hmore _ _ hget
end
end Go.Ab
