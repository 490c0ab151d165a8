import Derived.Test.YtedlnhicaimhgaaGreatDoorAbSnd8
/-!
A whole call.
-/
namespace Go.Ab
variable {P : Program} {n : Nat} {w0 : World} {β β' : Ren} {st st' : St} {a : Act} {w w' : World} {meth : Nat → String → Option Nat} {call : Nat → List AV → Heap → Option CR}

/-- One result variable. -/
def resOne (tmps : Array Value) : ResultVar → Sem Value
  | .tmp t => pure (tmps.getD t undef)
  | .cell a t => do loadVar t (← asAddr (tmps.getD a undef))

theorem resL_sound {e : Env} {H : Heap} {tmps : Array Value} (hh : HR w0 β H w) (henv : ∀ t, V β (e.at t) (tmps.getD t undef)) : ∀ (l : List ResultVar) (il : List IRes) (vs : List AV), cRes P l = some il → resL e H il = some vs →
    ∃ vs', VL β vs vs' ∧ (l.mapM (resOne tmps)).run P w = .ok vs' w
  | [], il, vs, hc, hr => by
    simp only [cRes, Option.some.injEq] at hc; subst hc
    simp only [resL, Option.some.injEq] at hr; subst hr
    exact ⟨[], .nil, by simp⟩
  | .tmp t :: l, il, vs, hc, hr => by
    simp only [cRes] at hc
    cases hl : cRes P l with
    | none => simp [hl] at hc
    | some il' =>
      simp only [hl, Option.some.injEq] at hc; subst hc
      simp only [resL] at hr
      cases hl' : resL e H il' with
      | none => simp [hl'] at hr
      | some vs1 =>
        simp only [hl', Option.some.injEq] at hr; subst hr
        obtain ⟨vs', h1, h2⟩ := resL_sound hh henv l il' vs1 hl hl'
        exact ⟨_ :: vs', .cons (henv t) h1, by rw [List.mapM_cons]; simp [resOne, h2]⟩
  | .cell b t :: l, il, vs, hc, hr => by
    simp only [cRes] at hc
    cases hn : sizeC P t with
    | none => simp [hn] at hc
    | some m =>
      cases ha : aggC P t with
      | none => simp [hn, ha] at hc
      | some ag =>
        cases hl : cRes P l with
        | none => simp [hn, ha, hl] at hc
        | some il' =>
          simp only [hn, ha, hl, Option.some.injEq] at hc; subst hc
          simp only [resL] at hr
          have hV := henv b
          cases hx : e.at b <;> rw [hx] at hr hV <;> try (simp only [reduceCtorEq] at hr; done)
          rename_i blk off
          simp only [] at hr
          cases hld : H.load blk off m with
          | none => simp [hld] at hr
          | some cs =>
            simp only [hld] at hr
            cases hl' : resL e H il' with
            | none =>
              rw [hl'] at hr
              cases hq : (cond ag (some (AV.agg cs)) (match cs with | [v] => some v | _ => none)) <;> simp [hq] at hr
            | some vs1 =>
              obtain ⟨vs', h1, h2⟩ := resL_sound hh henv l il' vs1 hl hl'
              obtain ⟨r, o, hβ, hval⟩ := hV.ptr_inv
              obtain ⟨us, hul, hcl, hVL, hcell⟩ := hh.load hld hβ
              rw [hl'] at hr
              cases ag with
              | true =>
                simp only [cond_true, Option.some.injEq] at hr; subst hr
                have hrun := run_loadVar (P := P) (w := w) hn ha hul hcell (fun e => by cases e)
                simp only [if_true] at hrun
                exact ⟨_ :: vs', .cons (.agg (cs' := us.toArray) (by simpa using hVL)) h1, by rw [List.mapM_cons]; simp [resOne, hval, asAddr, hrun, h2]⟩
              | false =>
                simp only [cond_false] at hr
                match cs, hcl, hVL, hr with
                | [v], hcl, hVL, hr =>
                  simp only [Option.some.injEq] at hr; subst hr
                  have hm1 : m = 1 := by simpa using hcl.symm
                  have hrun := run_loadVar (P := P) (w := w) hn ha hul hcell (fun _ => hm1)
                  simp only [Bool.false_eq_true, if_false] at hrun
                  cases hVL with
                  | cons hv hs => cases hs with
                    | nil =>
                      simp only [List.headD_cons] at hrun
                      exact ⟨_ :: vs', .cons hv h1, by rw [List.mapM_cons]; simp [resOne, hval, asAddr, hrun, h2]⟩

theorem results_sound {fn : Func} {e : Env} {H : Heap} {tmps : Array Value} {il : List IRes} {v : AV} (hh : HR w0 β H w) (henv : ∀ t, V β (e.at t) (tmps.getD t undef)) (hc : cRes P fn.results.toList = some il) (hr : Ab.results e H il = some v) :
    ∃ v', V β v v' ∧ (Go.results fn tmps).run P w = .ok v' w := by
  unfold Ab.results at hr
  cases hl : resL e H il with
  | none => simp [hl] at hr
  | some vs =>
    obtain ⟨vs', h1, h2⟩ := resL_sound hh henv _ il vs hc hl
    have hm : (fn.results.mapM (resOne tmps)).run P w = .ok vs'.toArray w := by
      have e := Array.toList_mapM (f := resOne tmps) (xs := fn.results)
      rw [← e] at h2
      simp only [Sem.run_map] at h2
      cases hr : (fn.results.mapM (resOne tmps)).run P w with
      | ok x w' =>
        rw [hr] at h2
        simp only [Result.andThen_ok, Result.ok.injEq] at h2
        obtain ⟨h3, rfl⟩ := h2
        rw [show x = vs'.toArray from Array.toList_inj.1 (by simpa using h3)]
      | halt x w' => rw [hr] at h2; simp at h2
    have hdef : Go.results fn tmps = (do
        let vs ← fn.results.mapM (resOne tmps)
        pure (if h : vs.size = 1 then vs[0] else .tuple vs)) := by
      unfold Go.results
      congr 1
    rw [hdef]
    rw [hl] at hr
    simp only [Sem.run_bind, hm, Result.andThen_ok, Sem.run_pure]
    cases h1 with
    | nil =>
      simp only [Option.some.injEq] at hr; subst hr
      exact ⟨.tuple #[], .tup .nil, by simp⟩
    | cons hx hs =>
      cases hs with
      | nil =>
        simp only [Option.some.injEq] at hr; subst hr
        exact ⟨_, hx, by simp⟩
      | cons hy hs =>
        simp only [Option.some.injEq] at hr; subst hr
        exact ⟨_, .tup (.cons hx (.cons hy hs)), by simp⟩
end Go.Ab
