import Derived.Test.YtedlnhicaimhgaaGreatDoorAbDrw4
/-!
A region's run, state by state.
-/
namespace Go.Ab
variable {meth : Nat → String → Option Nat} {call : Nat → List AV → Heap → Option CR}

structure Trace0 (meth : Nat → String → Option Nat) (call : Nat → List AV → Heap → Option CR) (l : List DIt) (N : Nat) (T : Nat → St) : Prop where
  le : N ≤ l.length
  step : ∀ p it, p < N → l[p]? = some it → stepG meth call it.s (T p) = some (none, T (p + 1))
  chk : ∀ p it, p < N → l[p]? = some it → it.eff = true → flOk (T (p + 1)) it.fl = true ∧ faOk (T p) (T (p + 1)) it.fa = true
structure Trace (meth : Nat → String → Option Nat) (call : Nat → List AV → Heap → Option CR) (l : List DIt) (N : Nat) (T : Nat → St) : Prop extends Trace0 meth call l N T where
  pair : ∀ p it, p < N → l[p]? = some it → it.pr = true → ∃ b, l.drop (p + 1) = [b] ∧ pairOk meth call it b (T p) = true

theorem drw_trace (e0 : Env) (all : List DIt) : ∀ (l : List DIt) (st : St) (x : XT) (st' : St), execDrw meth call e0 all l st = some (x, st') →
    ∃ N T, T 0 = st ∧ Trace meth call l N T ∧ ((x = .normal ∧ N = l.length ∧ st' = T N) ∨
      ∃ it v stv, l[N]? = some it ∧ it.eff = true ∧ stepG meth call it.s (T N) = some (some v, stv) ∧ x = .pan v ∧ st' = { stv with env := anyEnv e0 all })
  | [], st, x, st', h => by
    simp only [execDrw, Option.some.injEq, Prod.mk.injEq] at h
    obtain ⟨rfl, rfl⟩ := h
    exact ⟨0, fun _ => st, rfl, ⟨⟨Nat.le_refl _, fun _ _ h => by omega, fun _ _ h => by omega⟩, fun _ _ h => by omega⟩, .inl ⟨rfl, rfl, rfl⟩⟩
  | d :: l, st, x, st', h => by
    simp only [execDrw] at h
    cases hs : stepG meth call d.s st with
    | none => simp [hs] at h
    | some q =>
      obtain ⟨p, st1⟩ := q
      cases p with
      | some v =>
        simp only [hs] at h
        cases he : d.eff with
        | false => simp [he] at h
        | true =>
          simp only [he, cond_true, Option.some.injEq, Prod.mk.injEq] at h
          obtain ⟨rfl, rfl⟩ := h
          exact ⟨0, fun _ => st, rfl, ⟨⟨Nat.zero_le _, fun _ _ h => by omega, fun _ _ h => by omega⟩, fun _ _ h => by omega⟩, .inr ⟨d, v, st1, rfl, he, hs, rfl, rfl⟩⟩
      | none =>
        simp only [hs] at h
        cases hq : (!d.eff || (flOk st1 d.fl && faOk st st1 d.fa)) with
        | false => simp [hq] at h
        | true =>
          simp only [hq, cond_true] at h
          generalize hpr : (!d.pr || (_ : Bool)) = bb at h
          cases bb with
          | false => simp at h
          | true =>
            simp only [cond_true] at h
            obtain ⟨N, T, h0, hT, hend⟩ := drw_trace e0 all l st1 x st' h
            refine ⟨N + 1, fun p => match p with | 0 => st | p + 1 => T p, rfl, ⟨⟨by have := hT.le; simp; omega, ?_, ?_⟩, ?_⟩, ?_⟩
            · intro p it hp hit
              cases p with
              | zero =>
                simp only [List.getElem?_cons_zero, Option.some.injEq] at hit
                subst hit
                show stepG meth call d.s st = some (none, T 0)
                rw [h0]; exact hs
              | succ p => exact hT.step p it (by omega) (by simpa using hit)
            · intro p it hp hit he
              cases p with
              | zero =>
                simp only [List.getElem?_cons_zero, Option.some.injEq] at hit
                subst hit
                show flOk (T 0) d.fl = true ∧ faOk st (T 0) d.fa = true
                rw [h0]
                simpa [he] using hq
              | succ p => exact hT.chk p it (by omega) (by simpa using hit) he
            · intro p it hp hit he
              cases p with
              | zero =>
                simp only [List.getElem?_cons_zero, Option.some.injEq] at hit
                subst hit
                simp only [he, Bool.not_true, Bool.false_or] at hpr
                split at hpr
                · rename_i b
                  exact ⟨b, rfl, hpr⟩
                · simp at hpr
              | succ p =>
                obtain ⟨b, h1, h2⟩ := hT.pair p it (by omega) (by simpa using hit) he
                exact ⟨b, by simpa using h1, h2⟩
            · rcases hend with ⟨h1, h2, h3⟩ | ⟨it, v, stv, h1, h2⟩
              · exact .inl ⟨h1, by simp [h2], h3⟩
              · exact .inr ⟨it, v, stv, by simpa using h1, h2⟩
end Go.Ab
