import Derived.Test.YtedlnhicaimhgaaGreatDoorAbSnd2
/-!
A step: what is known of a run's state on both sides.
-/
namespace Go.Ab

/-- The deferred calls. -/
def DR (β : Ren) (x : Nat × List AV) (d : Deferred) : Prop := ∃ cap, d.target = .fn (.func x.1) cap ∧ VL β x.2 (d.args ++ cap).toList
inductive DL (β : Ren) : List (Nat × List AV) → List Deferred → Prop
  | nil : DL β [] []
  | cons {x : Nat × List AV} {d : Deferred} {xs : List (Nat × List AV)} {ds : List Deferred} (h : DR β x d) (hs : DL β xs ds) : DL β (x :: xs) (d :: ds)

def Globs (P : Program) (β : Ren) : Prop := ∀ g, g < P.globals.size → β g = some (g, 0)

structure SR (P : Program) (n : Nat) (w0 : World) (β : Ren) (st : St) (a : Act) (w : World) : Prop where
  heap : HR w0 β st.heap w
  glob : Globs P β
  env : ∀ t, V β (st.env.at t) (a.tmps.getD t undef)
  size : n ≤ a.tmps.size
  dfs : DL β st.dfs a.defers

variable {P : Program} {n : Nat} {w0 : World} {β β' : Ren} {st st' : St} {a : Act} {w w' : World}

theorem DL.mono (hb : Ren.le β β') : ∀ {xs : List (Nat × List AV)} {ds : List Deferred}, DL β xs ds → DL β' xs ds
  | _, _, .nil => .nil
  | _, _, .cons ⟨cap, h1, h2⟩ hs => .cons ⟨cap, h1, h2.mono hb⟩ (hs.mono hb)
theorem Globs.mono (hb : Ren.le β β') (h : Globs P β) : Globs P β' := fun g hg => (hb _ _ (h g hg)).1

theorem Env.at_set (e : Env) (d : Nat) (v : AV) (t : Nat) : Env.at (PMap.set e d v) t = if t = d then v else e.at t := by
  unfold Env.at; rw [PMap.get_set]
  by_cases h : t = d <;> simp [h]

theorem SR.ev (h : SR P n w0 β st a w) (x : Operand) (x' : Opd) (hx : cOpd P x = some x') : V β (x'.ev st.env) (a.eval x) := by
  cases x with
  | tmp t => simp only [cOpd, Option.some.injEq] at hx; subst hx; exact h.env t
  | const v =>
    simp only [cOpd] at hx
    cases hv : absV v with
    | none => simp [hv] at hx
    | some q => simp only [hv, Option.some.injEq] at hx; subst hx; exact absV_sound v q hv
  | global g =>
    simp only [cOpd, Heap.blt_eq] at hx
    by_cases hg : g < P.globals.size
    · simp only [hg, decide_true, cond_true, Option.some.injEq] at hx; subst hx
      exact V.ptr (off := 0) (h.glob g hg)
    · simp [hg] at hx
  | func f =>
    simp only [cOpd, Option.some.injEq] at hx; subst hx
    exact .fn .nil .nil

/-- A new heap; the rest stays. -/
theorem SR.step (h : SR P n w0 β st a w) (hb : Ren.le β β') {H' : Heap} (hh : HR w0 β' H' w') : SR P n w0 β' { st with heap := H' } a w' :=
  ⟨hh, h.glob.mono hb, fun t => (h.env t).mono hb, h.size, h.dfs.mono hb⟩
theorem SR.put (h : SR P n w0 β st a w) {d : Option Nat} (hd : ∀ t, d = some t → t < n) {v : AV} {v' : Value} (hv : V β v v') : SR P n w0 β (st.put d v) (a.put d v') w := by
  cases d with
  | none => exact h
  | some t =>
    have ht := hd t rfl
    have hsz := h.size
    refine ⟨h.heap, h.glob, fun u => ?_, by simpa [Act.put] using h.size, h.dfs⟩
    simp only [St.put, Act.put, Env.at_set]
    by_cases e : u = t
    · subst e
      rw [if_pos rfl, Array.getD_eq_getD_getElem?, Array.getElem?_setIfInBounds_self_of_lt (by omega)]
      exact hv
    · rw [if_neg e, Array.getD_eq_getD_getElem?, Array.getElem?_setIfInBounds_ne (fun h => e h.symm), ← Array.getD_eq_getD_getElem?]
      exact h.env u

/-! ### Calls -/
def PanR (β : Ren) (v : AV) (chain : List PanicEntry) : Prop := ∃ v', chain = [{ v := v', recovered := false }] ∧ V β v v'
/-- What a call comes to, on both sides. -/
def EndR (P : Program) (w0 : World) (β : Ren) (k : Nat) (r : CR) : Ending → World → Prop
  | .returned v', w' => ∃ β' v H, Ext β k β' ∧ k ≤ H.size ∧ r = .ret v H ∧ HR w0 β' H w' ∧ V β' v v'
  | .panicked chain, w' => ∃ β' v H, Ext β k β' ∧ k ≤ H.size ∧ r = .pan v H ∧ HR w0 β' H w' ∧ PanR β' v chain
  | .outgrown, _ => False

/-- A function that is entered. -/
def Entered (P : Program) (f : Nat) : Prop := ∃ fn, P.funcs[f]? = some fn ∧ fn.body.isSome = true ∧ (fn.name == "runtime.NumGoroutine") = false
theorem run_callFunc {f : Nat} (h : Entered P f) (args : Array Value) (w : World) : (callFunc f args).run P w = .ok (.enter f args) w := by
  obtain ⟨fn, h1, h2, h3⟩ := h
  have h3' : fn.name ≠ "runtime.NumGoroutine" := by simpa using h3
  have h2' : fn.body ≠ none := by intro e; simp [e] at h2
  simp [callFunc, h1, h3', h2']

def CallOK (P : Program) (w0 : World) (call : Nat → List AV → Heap → Option CR) : Prop :=
  ∀ f args H r, call f args H = some r → Entered P f ∧ ∀ β w (args' : Array Value), HR w0 β H w → Globs P β → VL β args args'.toList → Calls P f args' w (EndR P w0 β H.size r)

/-- strings.Contains, as it is in every world that still holds the first one's blocks. -/
def ConOK (P : Program) (w0 : World) : Prop :=
  ∀ f fn, P.funcs[f]? = some fn → fn.name = "strings.Contains" → Entered P f ∧ ∀ (s sub : ByteArray) (w : World), (∀ r, r < w0.heap.size → w.heap[r]? = w0.heap[r]?) → s.size < 4294967281 →
    Calls P f #[.string s, .string sub] w fun e w' => e = .returned (.bool (hasL (sub.data.toList.map (·.toNat)) (s.data.toList.map (·.toNat)))) ∧ w' = w
def MethOK (P : Program) (meth : Nat → String → Option Nat) : Prop :=
  ∀ t name f, meth t name = some f → ∀ (v : Value) (w : World), (method (P.types.size + Made.depth) t v name).run P w = .ok (f, v) w

section
variable {meth : Nat → String → Option Nat} {call : Nat → List AV → Heap → Option CR}

theorem call_land {K : Act → World → Prop} {Q : Exit → Act → World → Prop} {f : Nat} {args : List AV} {args' : Array Value} {dst : Option Nat} {p : Option AV} (hC : CallOK P w0 call) (h : SR P n w0 β st a w)
    (hd : ∀ t, dst = some t → t < n) (hl : landed st dst (call f args st.heap) = some (p, st')) (hargs : VL β args args'.toList)
    (hK : ∀ β' a' w', p = none → Ext β st.heap.size β' → st.heap.size ≤ st'.heap.size → SR P n w0 β' st' a' w' → K a' w')
    (hQ : ∀ β' v chain a' w', p = some v → Ext β st.heap.size β' → st.heap.size ≤ st'.heap.size → SR P n w0 β' st' a' w' → PanR β' v chain → Q (.panic chain) a' w') :
    Entered P f ∧ Calls P f args' w fun
      | .returned v, w'' => K (a.put dst v) w''
      | .panicked chain, w'' => Q (.panic chain) a w''
      | .outgrown, _ => LetsOut Q := by
  cases hr : call f args st.heap with
  | none => simp [hr, landed] at hl
  | some r =>
    obtain ⟨he, hc⟩ := hC f args st.heap r hr
    refine ⟨he, Calls.mono (hc β w args' h.heap h.glob hargs) fun e w'' hE => ?_⟩
    cases e with
    | outgrown => exact hE.elim
    | returned v' =>
      obtain ⟨β', v, H, h1, h2, rfl, h3, h4⟩ := hE
      simp only [hr, landed, Option.some.injEq, Prod.mk.injEq] at hl
      obtain ⟨rfl, rfl⟩ := hl
      have hsz : st.heap.size ≤ ({ st with heap := H }.put dst v).heap.size := by cases dst <;> exact h2
      exact hK β' _ w'' rfl h1 hsz ((h.step h1.le h3).put hd h4)
    | panicked chain =>
      obtain ⟨β', v, H, h1, h2, rfl, h3, h4⟩ := hE
      simp only [hr, landed, Option.some.injEq, Prod.mk.injEq] at hl
      obtain ⟨rfl, rfl⟩ := hl
      exact hQ β' v chain a w'' rfl h1 h2 (h.step h1.le h3) h4
end
end Go.Ab
