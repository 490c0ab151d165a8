import Derived.Test.YtedlnhicaimhgaaGreatDoorAbDrw12
namespace Go.Ab
variable {P : Program} {n : Nat} {w0 : World} {meth : Nat → String → Option Nat} {call : Nat → List AV → Heap → Option CR}
variable {ops : Array Oper} {l : List DIt} {pre : Nat → List Nat} {N : Nat} {T : Nat → St} {e0 : Env} {β0 : Ren} {k0 : Nat}

def unl (listed : Array Bool) : Nat := listed.toList.countP (fun b => !b)
theorem unl_set {listed : Array Bool} {i : Nat} (hi : i < listed.size) (hn : ¬ Ls listed i) : unl (listed.setIfInBounds i true) + 1 = unl listed := by
  unfold Ls at hn
  have hv : listed[i] = false := by
    rw [Array.getD_eq_getD_getElem?, Array.getElem?_eq_getElem hi] at hn
    simpa using hn
  have hpos : 0 < listed.toList.countP (fun b => !b) := List.countP_pos_iff.2 ⟨false, by rw [← hv, ← Array.getElem_toList]; exact List.getElem_mem _, rfl⟩
  unfold unl
  rw [Array.toList_setIfInBounds, List.countP_set (by simpa using hi)]
  simp only [Array.getElem_toList, hv]
  simp
  rw [← Array.countP_toList]
  omega
theorem unl_pos {listed : Array Bool} {i : Nat} (hi : i < listed.size) (hn : ¬ Ls listed i) : 0 < unl listed := by
  have := unl_set hi hn; omega

theorem anyEnv_at {e : Env} : ∀ (l : List DIt) (t : Nat), (anyEnv e l).at t = .any ∨ ((anyEnv e l).at t = e.at t ∧ ∀ (p : Nat) (it : DIt), l[p]? = some it → it.s.dst ≠ some t)
  | [], t => .inr ⟨rfl, fun p it h => by simp at h⟩
  | d :: l, t => by
    simp only [anyEnv]
    cases hd : d.s.dst with
    | none =>
      rcases anyEnv_at l t with h | ⟨h1, h2⟩
      · exact .inl h
      · refine .inr ⟨h1, fun p it hp => ?_⟩
        cases p with
        | zero => simp only [List.getElem?_cons_zero, Option.some.injEq] at hp; subst hp; rw [hd]; simp
        | succ p => exact h2 p it (by simpa using hp)
    | some u =>
      simp only [Env.at_set]
      by_cases e : t = u
      · rw [if_pos e]; exact .inl rfl
      · rw [if_neg e]
        rcases anyEnv_at l t with h | ⟨h1, h2⟩
        · exact .inl h
        · refine .inr ⟨h1, fun p it hp => ?_⟩
          cases p with
          | zero => simp only [List.getElem?_cons_zero, Option.some.injEq] at hp; subst hp; rw [hd]; intro e'; cases e'; exact e rfl
          | succ p => exact h2 p it (by simpa using hp)

/-- The whole region, from any point of it. -/
theorem drw_any (E0 : Env0 P w0 meth call) (R : Reg0 P n ops l pre) (Tr : Trace0 meth call l N T) (hend : Ends l N T meth call) {Q : Exit → Act → World → Prop} (q0 : Nat)
    (hswap : ∀ fuel listed q β E a w p it, Inv P n w0 ops l N T e0 β0 k0 listed q β E a w → q0 ≤ q → unl listed ≤ fuel + 1 → q < p → l[p]? = some it → it.ix ∈ Region.ready .any ops listed →
      wpOp P ops Q it.ix (wpAny P .any ops Q fuel (listed.setIfInBounds it.ix true)) a w)
    (hfin : ∀ β E a w, N = l.length → Ext β0 k0 β → k0 ≤ (T N).heap.size → SR P n w0 β { T N with env := E } a w → (∀ t, E.at t = (T N).env.at t) → Q .normal a w)
    (hpan : ∀ it v stv β E a w chain, N < l.length → l[N]? = some it → stepG meth call it.s (T N) = some (some v, stv) → Ext β0 k0 β → k0 ≤ stv.heap.size → SR P n w0 β { stv with env := E } a w →
      (∀ d, (∀ (p : Nat) (it : DIt), l[p]? = some it → it.s.dst ≠ some d) → E.at d = e0.at d) → PanR β v chain → Q (.panic chain) a w) :
    ∀ fuel listed q β E a w, Inv P n w0 ops l N T e0 β0 k0 listed q β E a w → q0 ≤ q → unl listed ≤ fuel → wpAny P .any ops Q fuel listed a w := by
  -- where nothing is ready
  have done : ∀ listed q β E a w, Inv P n w0 ops l N T e0 β0 k0 listed q β E a w → Region.ready .any ops listed = [] → Q .normal a w := by
    intro listed q β E a w I hnil
    have hall : ∀ (p : Nat) (it : DIt), l[p]? = some it → Ls listed it.ix := by
      intro p
      induction p using Nat.strongRecOn with
      | _ p ih =>
        intro it hp
        apply Classical.byContradiction
        intro hn
        obtain ⟨o, ho, _⟩ := R.get p it hp
        have : it.ix ∈ Region.ready .any ops listed := by
          rw [ready_iff I.size]
          refine ⟨(Array.getElem?_eq_some_iff.1 ho).1, hn, fun j hj => ?_⟩
          obtain ⟨r, b, hrp, hr, rfl⟩ := R.ahead p it j hp (R.edge _ _ hj)
          exact ih r hrp b hr
        rw [hnil] at this; cases this
    have hq : l.length ≤ q := by
      rcases Nat.lt_or_ge q l.length with h | h
      · have := I.ahead q _ (List.getElem?_eq_getElem h) (hall q _ (List.getElem?_eq_getElem h))
        omega
      · exact h
    have e : q = N := by have := I.le; have := Tr.le; omega
    have e2 : N = l.length := by have := Tr.le; omega
    subst e
    refine hfin β E a w e2 I.ext I.hk I.sr fun t => ?_
    by_cases hd : ∃ (r : Nat) (b : DIt), l[r]? = some b ∧ b.s.dst = some t
    · obtain ⟨r, b, hr, hb⟩ := hd
      exact I.env.on r b t hr hb (hall r b hr)
    · have hno : ∀ (r : Nat) (b : DIt), l[r]? = some b → b.s.dst ≠ some t := fun r b hr hb => hd ⟨r, b, hr, hb⟩
      rw [I.env.base t hno, I.env.off t (fun r b hr hb => absurd hb (hno r b hr))]
  intro fuel
  induction fuel with
  | zero =>
    intro listed q β E a w I _ hu
    have hnil : Region.ready .any ops listed = [] := by
      cases hr : Region.ready .any ops listed with
      | nil => rfl
      | cons i rs =>
        have hi : i ∈ Region.ready .any ops listed := by rw [hr]; simp
        obtain ⟨h1, h2, _⟩ := (ready_iff I.size).1 hi
        have := unl_pos (by rw [I.size]; exact h1) h2
        omega
    exact ⟨hnil, done listed q β E a w I hnil⟩
  | succ fuel ih =>
    intro listed q β E a w I hq0 hu
    refine ⟨done listed q β E a w I, fun i hi => ?_⟩
    obtain ⟨hilt, hnL, _⟩ := (ready_iff I.size).1 hi
    obtain ⟨p, it, hp, rfl⟩ := R.pos i hilt
    have hu' : unl (listed.setIfInBounds it.ix true) ≤ fuel := by
      have := unl_set (listed := listed) (by rw [I.size]; exact hilt) hnL; omega
    rcases Nat.lt_trichotomy p q with h | h | h
    · exact late_step E0 R Tr I hp h hi fun β' E' a' w' I' => ih _ q β' E' a' w' I' hq0 hu'
    · subst h
      rcases Nat.lt_or_ge p N with hN | hN
      · exact act_step E0 R Tr hend I hp hi hN fun q' β' E' a' w' hlt I' => ih _ q' β' E' a' w' I' (by omega) hu'
      · have e : p = N := by have := I.le; omega
        subst e
        have hpl : p < l.length := (List.getElem?_eq_some_iff.1 hp).1
        rcases hend with h1 | ⟨it', v, stv, h1, h2, h3⟩
        · omega
        · rw [hp] at h1; cases h1
          obtain ⟨o, ho, hc, _⟩ := R.get p it hp
          have hag := I.toInv0.agree R hp (pre_ready R I.toInv0 hi)
          obtain ⟨x, hx1, hx2⟩ := stepG_congr h3
          have hsE := hx2 E hag
          have hxp : x.pan = some v ∧ stv = { T p with heap := x.heap, dfs := x.dfs, rc := x.rc } := by
            unfold Eff.on at hx1
            cases hpn : x.pan with
            | none => rw [hpn] at hx1; simp at hx1
            | some u => rw [hpn] at hx1; simp only [Prod.mk.injEq, Option.some.injEq] at hx1; exact ⟨by rw [hx1.1], hx1.2⟩
          have hon : x.on it.s.dst { T p with env := E } = (some v, ({ stv with env := E } : St)) := by
            unfold Eff.on; rw [hxp.1, hxp.2]
          rw [hon] at hsE
          refine stepG_sound E0 ho hc I.sr hsE (I.rc p it hp) (fun _ _ _ e => by cases e) (fun β' v' chain a' w' e hE hsz hSR hPan => ?_)
          cases e
          refine hpan it v stv β' E a' w' chain hpl hp h3 (I.ext.trans hE I.hk) (Nat.le_trans I.hk hsz) hSR (fun d hno => ?_) hPan
          exact I.env.off d (fun r b hr hb => absurd hb (hno r b hr))
    · exact hswap fuel listed q β E a w p it I hq0 hu h hp hi
end Go.Ab
