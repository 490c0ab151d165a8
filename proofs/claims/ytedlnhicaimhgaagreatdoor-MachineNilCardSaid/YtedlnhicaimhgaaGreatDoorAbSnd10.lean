import Derived.Test.YtedlnhicaimhgaaGreatDoorAbSnd9
namespace Go.Ab
variable {P : Program} {n : Nat} {w0 : World} {β β' : Ren} {st st' : St} {a : Act} {w w' : World} {meth : Nat → String → Option Nat} {call : Nat → List AV → Heap → Option CR}

theorem initEnv_at : ∀ (args : List AV) (i : Nat) (e : Env) (t : Nat), Env.at (initEnv args i e) t = if i ≤ t then (match args[t - i]? with | some v => v | none => e.at t) else e.at t
  | [], i, e, t => by simp [initEnv]
  | v :: vs, i, e, t => by
    simp only [initEnv]
    rw [initEnv_at vs (i + 1), Env.at_set]
    by_cases h1 : i ≤ t
    · by_cases h2 : t = i
      · subst h2; rw [if_neg (by omega), if_pos rfl, if_pos (Nat.le_refl _)]; simp
      · rw [if_pos (by omega), if_pos h1, if_neg h2]
        rw [show t - i = (t - (i + 1)) + 1 from by omega]; simp
    · rw [if_neg (by omega), if_neg h1, if_neg (by omega)]
theorem SR.init {args : List AV} {args' : Array Value} {H : Heap} {rc : Option (Option AV)} (hh : HR w0 β H w) (hg : Globs P β) (hV : VL β args args'.toList) (nt : Nat) :
    SR P nt w0 β { env := initEnv args 0 .leaf, dfs := [], heap := H, rc := rc } { tmps := args' ++ Array.replicate (nt - args'.size) undef, defers := [] } w := by
  refine ⟨hh, hg, fun t => ?_, by simp; omega, .nil⟩
  simp only [initEnv_at, Nat.zero_le, if_true, Nat.sub_zero]
  have hl := hV.length
  simp only [Array.length_toList] at hl
  have h0 : Env.at .leaf t = .undef := by simp [Env.at, PMap.get_leaf]
  cases hx : args[t]? with
  | some v =>
    obtain ⟨y, hy, hVy⟩ := hV.get hx
    have : t < args'.size := by rw [← hl]; exact (List.getElem?_eq_some_iff.1 hx).1
    rw [Array.getElem?_toList] at hy
    rw [Array.getD_eq_getD_getElem?, Array.getElem?_append_left this, hy]
    exact hVy
  | none =>
    simp only [h0]
    have : args'.size ≤ t := by rw [← hl]; exact List.getElem?_eq_none_iff.1 hx
    rw [Array.getD_eq_getD_getElem?, Array.getElem?_append_right this, Array.getElem?_replicate]
    by_cases h : t - args'.size < nt - args'.size
    · rw [if_pos h]; exact V.undef
    · rw [if_neg h]; exact V.undef

theorem progC_spec {f : Nat} {F : IFun} (h : (progC P).fn f = some F) : ∃ fn c, P.funcs[f]? = some fn ∧ fn.body = some c ∧ (fn.name == "runtime.NumGoroutine") = false ∧ comp P fn.ntmps 200 c = some F.code ∧ cRes P fn.results.toList = some F.res := by
  simp only [progC] at h
  cases hf : P.funcs[f]? with
  | none => simp [hf] at h
  | some fn =>
    simp only [hf, cFun] at h
    cases hb : fn.body with
    | none => simp [hb] at h
    | some c =>
      simp only [hb] at h
      cases hn : (fn.name == "runtime.NumGoroutine") with
      | true => simp [hn] at h
      | false =>
        simp only [hn, cond_false] at h
        split at h
        · rename_i c' r h1 h2
          simp only [Option.some.injEq] at h; subst h
          exact ⟨fn, c, rfl, hb, hn, h1, h2⟩
        · simp at h

def DrwAll (P : Program) (w0 : World) : Prop := ∀ n call, Env0 P w0 (methC P) call → DrwOK P n w0 (methC P) call

theorem runCallFunc2 {f : Nat} (h : (progC P).fn f ≠ none) : Entered P f := by
  cases hF : (progC P).fn f with
  | none => exact absurd hF h
  | some F =>
    obtain ⟨fn, c, h1, h2, h3, _⟩ := progC_spec hF
    exact ⟨fn, h1, by simp [h2], h3⟩

theorem leaves_sound (E : Env0 P w0 (methC P) call) (hD : DrwAll P w0) {fn : Func} {tmps : Array Value} {R : Ending → World → Prop} {m : Nat} : ∀ (dfs : List (Nat × List AV)) (ds : List Deferred) (p : Option AV) (u : FrameMode) (H : Heap) (β : Ren) (w : World) (p' : Option AV) (H' : Heap),
    DL β dfs ds → ModeR β p u → HR w0 β H w → Globs P β → runD (callD (progC P) call m) dfs p H = some (p', H') →
    (∀ β2 w2, Ext β H.size β2 → H.size ≤ H'.size → HR w0 β2 H' w2 → match p' with
      | none => ∃ v', (Go.results fn tmps).run P w2 = .ok v' w2 ∧ R (.returned v') w2
      | some v => ∀ v', V β2 v v' → R (.panicked [{ v := v', recovered := false }]) w2) → Leaves P fn tmps R ds u w
  | [], _, p, u, H, β, w, p', H', .nil, hm, hh, hg, hr, hk => by
    simp only [runD, Option.some.injEq, Prod.mk.injEq] at hr
    obtain ⟨rfl, rfl⟩ := hr
    have := hk β w (Ext.refl _ _) (Nat.le_refl _) hh
    cases p with
    | none => cases hm; exact this
    | some v => obtain ⟨v', rfl, h2⟩ := hm; exact this v' h2
  | (f, args) :: dfs, d :: ds, p, u, H, β, w, p', H', .cons hd hs, hm, hh, hg, hr, hk => by
    simp only [runD] at hr
    cases hc : callD (progC P) call m f args p H with
    | none => simp [hc] at hr
    | some q =>
      obtain ⟨p1, H1⟩ := q
      simp only [hc] at hr
      obtain ⟨cap, ht, hV⟩ := hd
      unfold callD at hc
      cases hF : (progC P).fn f with
      | none => simp [hF] at hc
      | some F =>
        simp only [hF] at hc
        obtain ⟨gn, c, g1, g2, g3, g4, g5⟩ := progC_spec hF
        have hE : Entered P f := ⟨gn, g1, by simp [g2], g3⟩
        cases hok : rcvOk F.code with
        | false => simp [hok] at hc
        | true =>
          simp only [hok, cond_true] at hc
          have hne : u ≠ .run := by
            cases p with
            | none => cases hm; simp
            | some v => obtain ⟨v', rfl, _⟩ := hm; simp
          have hinv : (invoke d.target d.args).run P w = .ok (.enter f (d.args ++ cap)) w := by
            rw [ht]; simp only [invoke]; exact run_callFunc hE _ w
          have main : ∀ x st1, (x = .normal ∨ x = .ret) → exec (methC P) call m F.code { env := initEnv args 0 .leaf, dfs := [], heap := H, rc := some p } = some (x, st1) → st1.dfs = [] → st1.rc = some p1 → (∃ v, Ab.results st1.env st1.heap F.res = some v) → H1 = st1.heap → Leaves P fn tmps R (d :: ds) u w := by
            rintro x st1 hx he hdf hrc ⟨rv, hrv⟩ rfl
            obtain ⟨tg, dargs⟩ := d
            simp only at ht hinv hV
            subst ht
            refine leaves_cons hne hinv ?_
            refine callsD_of_wpS g1 g2 fun c0 cs0 hmode => ?_
            have hc0 : ∀ u, c0.mode = u → ({ c0 with mode := u } : Frame) = c0 := fun u e => by subst e; rfl
            have hrc0 : RcR β (some p) c0 cs0 (c0 :: cs0) := by
              cases p with
              | none => cases hm; exact ⟨.returning, by rw [hc0 _ hmode], rfl, rfl⟩
              | some v => obtain ⟨v', rfl, h2⟩ := hm; exact ⟨v', by rw [hc0 _ hmode], h2⟩
            have hS := SR.init (P := P) (rc := some p) hh hg hV gn.ntmps
            refine wpS_mono (compS_sound E (hD gn.ntmps call E) (c0 := c0) (cs0 := cs0) 200 c F.code g4 hok m _ x st1 β _ _ w hx he hS hrc0) fun e a1 cs1 w1 hE' => ?_
            obtain ⟨β1, k1, k2, k3, k4, k5⟩ := hE'
            have hdef : a1.defers = [] := by
              have := k3.dfs
              rw [hdf] at this
              generalize a1.defers = q at this
              cases this; rfl
            obtain ⟨v', hv1, hv2⟩ := results_sound k3.heap k3.env g5 hrv
            have fin : a1.defers = [] ∧ ∃ u', cs1 = { c0 with mode := u' } :: cs0 ∧ ∃ v, (Go.results gn a1.tmps).run P w1 = .ok v w1 ∧ Leaves P fn tmps R ds (settle u') w1 := by
              rw [hrc] at k4
              have nxt : ∀ u', ModeR β1 p1 (settle u') → Leaves P fn tmps R ds (settle u') w1 := fun u' hu' =>
                leaves_sound E hD dfs ds p1 (settle u') st1.heap β1 w1 p' H' (hs.mono k1.le) hu' k3.heap k3.glob hr fun β2 w2 q1 q2 q3 => hk β2 w2 (k1.trans q1 k2) (Nat.le_trans k2 q2) q3
              cases p1 with
              | none =>
                obtain ⟨u', rfl, q1, _⟩ := k4
                exact ⟨hdef, u', rfl, v', hv2, nxt u' q1⟩
              | some v =>
                obtain ⟨y, rfl, q1⟩ := k4
                exact ⟨hdef, _, rfl, v', hv2, nxt (.panicking [{ v := y, recovered := false }]) ⟨y, rfl, q1⟩⟩
            rcases k5 with ⟨rfl, _⟩ | ⟨rfl, _⟩
            · exact fin
            · exact fin
          split at hc
          · rename_i st1 he
            split at hc
            · rename_i e1 e2 e3
              simp only [Option.some.injEq, Prod.mk.injEq] at hc
              obtain ⟨rfl, rfl⟩ := hc
              exact main .normal st1 (.inl rfl) he e1 e2 ⟨_, e3⟩ rfl
            · simp at hc
          · rename_i st1 he
            split at hc
            · rename_i e1 e2 e3
              simp only [Option.some.injEq, Prod.mk.injEq] at hc
              obtain ⟨rfl, rfl⟩ := hc
              exact main .ret st1 (.inr rfl) he e1 e2 ⟨_, e3⟩ rfl
            · simp at hc
          · simp at hc

theorem finish_sound (E : Env0 P w0 (methC P) call) (hD : DrwAll P w0) {fn : Func} {F : IFun} {m : Nat} {p : Option AV} {u : FrameMode} {r : CR} {β0 : Ren} {k0 : Nat} (he : Ext β0 k0 β) (hk0 : k0 ≤ st.heap.size) (hS : SR P n w0 β st a w) (hm : ModeR β p u) (hres : cRes P fn.results.toList = some F.res)
    (h : finish (callD (progC P) call m) F st p = some r) : Leaves P fn a.tmps (EndR P w0 β0 k0 r) a.defers u w := by
  unfold finish at h
  cases hr : runD (callD (progC P) call m) st.dfs p st.heap with
  | none => simp [hr] at h
  | some q =>
    obtain ⟨p', H'⟩ := q
    refine leaves_sound E hD st.dfs a.defers p u st.heap β w p' H' hS.dfs hm hS.heap hS.glob hr fun β2 w2 q1 q2 q3 => ?_
    cases p' with
    | none =>
      simp only [hr] at h
      cases hv : Ab.results st.env H' F.res with
      | none => simp [hv] at h
      | some v =>
        simp only [hv, Option.some.injEq] at h; subst h
        obtain ⟨v', h1, h2⟩ := results_sound (fn := fn) q3 (fun t => (hS.env t).mono q1.le) hres hv
        exact ⟨v', h2, β2, v, H', he.trans q1 hk0, by omega, rfl, q3, h1⟩
    | some v =>
      simp only [hr, Option.some.injEq] at h; subst h
      exact fun v' hv' => ⟨β2, v, H', he.trans q1 hk0, by omega, rfl, q3, v', rfl, hv'⟩

theorem callF_ok (hD : DrwAll P w0) (hcon : ConOK P w0) (hm : MethOK P (methC P)) : ∀ N, CallOK P w0 (callF (progC P) N)
  | 0 => fun f args H r h => by simp [callF] at h
  | N + 1 => fun f args H r h => by
    have E : Env0 P w0 (methC P) (callF (progC P) N) := ⟨callF_ok hD hcon hm N, hcon, hm⟩
    simp only [callF] at h
    cases hF : (progC P).fn f with
    | none => simp [hF] at h
    | some F =>
      simp only [hF] at h
      obtain ⟨gn, c, g1, g2, g3, g4, g5⟩ := progC_spec hF
      refine ⟨⟨gn, g1, by simp [g2], g3⟩, fun β w args' hh hg hV => ?_⟩
      have hS := SR.init (P := P) (rc := none) hh hg hV gn.ntmps
      have hcs := comp_sound E (hD gn.ntmps _ E) 200 c F.code g4
      have hmeth : (progC P).meth = methC P := rfl
      rw [hmeth] at h
      cases he : exec (methC P) (callF (progC P) N) N F.code { env := initEnv args 0 .leaf, dfs := [], heap := H, rc := none } with
      | none => simp [he] at h
      | some q =>
        obtain ⟨x, st1⟩ := q
        refine calls_of_wp_defers g1 g2 (wp_mono (hcs N _ x st1 β H.size β _ w (Ext.refl _ _) (Nat.le_refl _) (.inl rfl) he hS) fun e a1 w1 hE => ?_)
        simp only [he] at h
        cases x <;> simp only [reduceCtorEq] at h
        case normal =>
          cases e <;> simp only [ExR] at hE
          case normal => obtain ⟨_, β1, k1, k2, k3⟩ := hE; exact finish_sound E hD k1 k2 k3 (p := none) (u := .returning) rfl g5 h
          all_goals first | exact absurd hE.1 (by simp) | (obtain ⟨v, hv, _⟩ := hE; cases hv)
        case ret =>
          cases e <;> simp only [ExR] at hE
          case ret => obtain ⟨_, β1, k1, k2, k3⟩ := hE; exact finish_sound E hD k1 k2 k3 (p := none) (u := .returning) rfl g5 h
          all_goals first | exact absurd hE.1 (by simp) | (obtain ⟨v, hv, _⟩ := hE; cases hv)
        case pan v =>
          cases e <;> simp only [ExR] at hE
          case panic chain =>
            obtain ⟨v1, hv1, β1, k1, k2, k3, v', rfl, k4⟩ := hE
            cases hv1
            exact finish_sound E hD k1 k2 k3 (p := some v) ⟨v', rfl, k4⟩ g5 h
          all_goals exact absurd hE.1 (by simp)

theorem methC_ok : MethOK P (methC P) := by
  intro t name f h v w
  unfold methC at h
  cases hi : P.info? t with
  | none => simp [hi] at h
  | some i =>
    simp only [hi] at h
    cases hf : i.methods.find? (·.name == name) with
    | none => simp [hf] at h
    | some m =>
      simp only [hf] at h
      cases hp : m.path.isEmpty with
      | false => simp [hp] at h
      | true =>
        simp only [hp, cond_true] at h
        have hpath : m.path.toList = [] := by simpa using hp
        obtain ⟨fu, hfuel⟩ : ∃ fu, P.types.size + Made.depth = fu + 1 := ⟨P.types.size + 99, rfl⟩
        rw [hfuel]
        simp only [method, Sem.run_bind, run_typeInfo' hi, Result.andThen_ok, hf, hpath, follow, Sem.run_pure]
        cases hm : m.func with
        | none => rw [hm] at h; simp at h
        | some q =>
          obtain ⟨g, b⟩ := q
          rw [hm] at h
          cases hu : P.underlying t with
          | none => rw [hu] at h; cases b <;> simp at h
          | some d =>
            rw [hu] at h
            cases b with
            | true =>
              cases d <;> simp only [reduceCtorEq, Option.some.injEq] at h
              subst h
              simp [receiverAt, run_underlying' hu, Place.get]
            | false =>
              cases d <;> simp only [reduceCtorEq, Option.some.injEq] at h <;> subst h <;> simp [receiverAt, run_underlying' hu, Place.get]
end Go.Ab
