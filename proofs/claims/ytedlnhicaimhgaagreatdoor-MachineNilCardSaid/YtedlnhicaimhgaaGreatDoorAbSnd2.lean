import Derived.Test.YtedlnhicaimhgaaGreatDoorAbSnd1
namespace Go.Ab
variable {w0 : World} {β : Ren} {H H' : Heap} {w : World} {P : Program} {dst : Option Tmp} {ty : TypeId} {pos : String} {aft : Array Edge} {g : Option (Nat × Bool)}

/-- Is it a call on the other side, or something that ends the walk. -/
def IOp.ctl : IOp → Bool
  | .call _ _ | .callv _ _ | .inv _ _ _ | .dfr _ _ | .pan _ | .rcv | .xcon _ _ => true
  | _ => false

theorem cOpd_V {ev : Opd → AV} {ρ : Operand → Value} (hev : ∀ x x', cOpd P x = some x' → V β (ev x') (ρ x)) {l : Array Operand} {l' : List Opd} (h : cOpds P l.toList = some l') : VL β (l'.map ev) (l.map ρ).toList := by
  have := cOpds_VL (ev := ev) (ρ := ρ) (β := β) h (fun x _ x' hx => hev x x' hx)
  simpa using this

theorem conv_sound (h : HR w0 β H w) {s d : TypeId} {x : Opd} {i : IOp} {ev : Opd → AV} {xv : Value} {v : AV} (hc : cConv P s d x = some i) (hx : V β (ev x) xv) (hv : vop i ev H = some (v, H')) : GoodV P w0 β H v H' (convert s d xv) w := by
  unfold cConv at hc
  cases hs : P.underlying s with
  | none => simp [hs] at hc
  | some ds =>
    cases hd : P.underlying d with
    | none => rw [hs, hd] at hc; cases ds <;> simp at hc
    | some dd =>
      rw [hs, hd] at hc
      cases ds <;> cases dd <;> try (simp only [reduceCtorEq] at hc; done)
      case int.int ks k =>
        simp only [Option.some.injEq] at hc; subst hc
        simp only [vop] at hv
        cases hx' : ev x <;> rw [hx'] at hv hx <;> simp only [reduceCtorEq, Option.some.injEq, Prod.mk.injEq] at hv
        obtain ⟨rfl, rfl⟩ := hv
        exact s_cvi h hs hd hx
      case string.string =>
        simp only [Option.some.injEq] at hc; subst hc
        simp only [vop] at hv
        cases hx' : ev x <;> rw [hx'] at hv hx <;> simp only [reduceCtorEq, Option.some.injEq, Prod.mk.injEq] at hv
        obtain ⟨rfl, rfl⟩ := hv
        exact s_cvs h hs hd hx
      case slice.string e =>
        simp only [] at hc
        cases he : P.underlying e with
        | none => simp [he] at hc
        | some de =>
          rw [he] at hc
          cases de <;> try (simp only [reduceCtorEq] at hc; done)
          rename_i k
          cases k <;> simp only [reduceCtorEq, Option.some.injEq] at hc
          subst hc
          exact s_cvbs h hs he hd hx hv
      case pointer.unsafePointer e =>
        simp only [] at hc
        cases hn : sizeC P e with
        | none => simp [hn] at hc
        | some n =>
          have hb : Nat.beq n 0 = decide (n = 0) := by rw [Bool.eq_iff_iff]; simp
          rw [hn] at hc
          simp only [hb] at hc
          by_cases h0 : n = 0
          · simp [h0] at hc
          · simp only [h0, decide_false, cond_false, Option.some.injEq] at hc
            subst hc
            exact s_cvp h hs hd hn h0 hx hv
      case unsafePointer.pointer u =>
        simp only [] at hc
        cases hsu : sizeC P u with
        | none => simp [hsu] at hc
        | some nu =>
        simp only [hsu, Option.some.injEq] at hc
        subst hc
        refine s_cvq h hs hd ?_ (by simp [hsu]) hx hv
        intro p hp
        rw [List.mem_map] at hp
        obtain ⟨⟨i, t⟩, hm, rfl⟩ := hp
        rw [List.mem_filter] at hm
        obtain ⟨hm1, hm2⟩ := hm
        simp only [Bool.and_eq_true, Bool.not_eq_true', beq_iff_eq] at hm2
        have hget : P.types[t]? = some i := by
          have := List.mem_zipIdx_iff_getElem?.1 hm1
          simpa using this
        have hi : P.info? t = some i := by
          have hlt : t < P.types.size := (Array.getElem?_eq_some_iff.1 hget).1
          show Tables.info? _ t = some i
          unfold Tables.info?
          rw [if_pos hlt]; exact hget
        refine ⟨by simp [sizeC, hi], ?_, hm2.2⟩
        have := hm2.1.2
        intro e0
        simp only at e0
        rw [e0] at this
        simp at this

theorem fieldsC_spec {t : TypeId} {fs : List Field} (h : fieldsC P t = some fs) : ∃ fa : Array Field, P.underlying t = some (.struct fa) ∧ fs = fa.toList := by
  unfold fieldsC at h
  cases hu : P.underlying t with
  | none => simp [hu] at h
  | some d =>
    rw [hu] at h
    cases d <;> simp only [reduceCtorEq, Option.some.injEq] at h
    exact ⟨_, rfl, h.symm⟩

theorem call_sound (h : HR w0 β H w) {c : Call} {i : IOp} {ev : Opd → AV} {ρ : Operand → Value} {v : AV} (hc : cCall P ⟨dst, .call c, ty, pos, aft, g⟩ c = some i)
    (hev : ∀ x x', cOpd P x = some x' → V β (ev x') (ρ x)) (hv : vop i ev H = some (v, H')) (hct : i.ctl = false) (hfun : ∀ f, ρ (.func f) = .func (.func f) #[] #[]) : Good P w0 β H v H' (execOp ρ ⟨dst, .call c, ty, pos, aft, g⟩) w := by
  cases hcal : c.callee with
  | builtin b =>
    have hs := builtin_sound h hcal hc hev hv (c.args.map fun | .const _ => true | _ => false)
    refine hs.cast ?_
    simp only [execOp, resolve, hcal, Sem.run_bind, Sem.run_pure, Result.andThen_ok, invoke]
    rfl
  | invoke r m =>
    simp only [cCall, hcal, Option.bind_eq_bind, Option.bind_eq_some_iff, Option.some.injEq] at hc
    obtain ⟨_, _, _, _, rfl⟩ := hc
    simp [IOp.ctl] at hct
  | value x =>
    cases x with
    | func f =>
      simp only [cCall, hcal, Option.bind_eq_bind, Option.bind_eq_some_iff] at hc
      obtain ⟨args, ha, hc⟩ := hc
      have hVL := cOpds_VL (ev := ev) (ρ := ρ) (β := β) ha (fun x _ x' hx => hev x x' hx)
      have hargs : c.args.map ρ = (c.args.toList.map ρ).toArray := by apply Array.toList_inj.1; simp
      cases hf : P.funcs[f]? with
      | none => simp [hf] at hc
      | some fn =>
        simp only [hf] at hc
        split at hc
        · match args, hc with
          | [a, b], hc => simp only [Option.some.injEq] at hc; subst hc; simp [IOp.ctl] at hct
        · split at hc
          · simp only [Option.some.injEq] at hc; subst hc; simp [IOp.ctl] at hct
          · rename_i hbody
            have hbody' : fn.body.isNone = true := by simpa using hbody
            split at hc
            · simp at hc
            · rename_i horg
              have horg' : fn.origin = "" ∨ fn.origin = fn.name := by
                simp at horg
                by_cases e : fn.origin = ""
                · exact .inl e
                · exact .inr (horg e)
              have hexec : ∀ e, Extern.findNext fn = none → Extern.find fn = some e → (fn.name == "runtime.NumGoroutine") = false →
                  (execOp ρ ⟨dst, .call c, ty, pos, aft, g⟩).run P w = ((e (c.args.toList.map ρ).toArray).run P w).andThen fun v w' => .ok (.value v) w' := by
                intro e h1 h2 h3
                rw [← run_callFunc_extern hf h3 hbody' h1 h2]
                have hd : (resolve ρ c ty).run P w = .ok { target := .fn (.func f) #[], args := c.args.map ρ } w := by
                  simp only [resolve, hcal]
                  have : ρ (.func f) = .func (.func f) #[] #[] := hfun f
                  simp [this, Deferred.ofValue]
                simp only [execOp, Sem.run_bind, hd, Result.andThen_ok, invoke, hargs]
                rw [Array.append_empty]
              split at hc
              · rename_i hn
                have hn' : fn.name = "internal/bytealg.IndexByteString" := by simpa using hn
                obtain ⟨e1, e2⟩ := x_byte hn' horg'
                have hx := hexec _ e1 e2 (by rw [hn']; decide)
                generalize c.args.toList.map ρ = l at hVL hx
                match args, hc with
                | [a, b], hc =>
                  simp only [Option.some.injEq] at hc; subst hc
                  cases hVL with
                  | cons ha hs => cases hs with
                    | cons hb hs => cases hs with
                      | nil =>
                        simp only [vop] at hv
                        cases ha' : ev a <;> rw [ha'] at hv ha <;> try (simp only [reduceCtorEq] at hv; done)
                        cases hb' : ev b <;> rw [hb'] at hv hb <;> try (simp only [reduceCtorEq] at hv; done)
                        rename_i s k n
                        cases k <;> try (simp only [reduceCtorEq] at hv; done)
                        simp only [] at hv
                        cases hcnd : (decide (0 ≤ n) && decide (n < 256)) with
                        | false => simp [hcnd] at hv
                        | true =>
                          simp only [hcnd, cond_true, Option.some.injEq, Prod.mk.injEq] at hv
                          obtain ⟨rfl, rfl⟩ := hv
                          simp only [Bool.and_eq_true, decide_eq_true_eq] at hcnd
                          obtain ⟨sb, rfl, hsb⟩ := ha.str_inv
                          have := hb.int_inv; subst this
                          refine Good.mk0 h (.int .i64 _) ?_
                          rw [hx, run_indexByte_string, idx_eq hsb (by omega)]; rfl
              · split at hc
                · rename_i hn
                  have hn' : fn.name = "internal/abi.NoEscape" := by simpa using hn
                  obtain ⟨e1, e2⟩ := x_id hn' horg'
                  have hx := hexec _ e1 e2 (by rw [hn']; decide)
                  generalize c.args.toList.map ρ = l at hVL hx
                  match args, hc with
                  | [a], hc =>
                    simp only [Option.some.injEq] at hc; subst hc
                    cases hVL with
                    | cons ha hs => cases hs with
                      | nil =>
                        simp only [vop, Option.some.injEq, Prod.mk.injEq] at hv
                        obtain ⟨rfl, rfl⟩ := hv
                        refine Good.mk0 h ha ?_
                        rw [hx]; rfl
                · simp at hc
    | _ =>
      simp only [cCall, hcal, Option.bind_eq_bind, Option.bind_eq_some_iff, Option.some.injEq] at hc
      obtain ⟨_, _, _, _, rfl⟩ := hc
      simp [IOp.ctl] at hct

theorem op_sound (h : HR w0 β H w) {o : Oper} {i : IOp} {ev : Opd → AV} {ρ : Operand → Value} {v : AV} (hc : cOp P o = some i) (hev : ∀ x x', cOpd P x = some x' → V β (ev x') (ρ x)) (hv : vop i ev H = some (v, H')) (hct : i.ctl = false) (hfun : ∀ f, ρ (.func f) = .func (.func f) #[] #[]) :
    Good P w0 β H v H' (execOp ρ o) w := by
  obtain ⟨dst, op, ty, pos, aft, g⟩ := o
  cases op <;> try (simp only [cOp, reduceCtorEq] at hc; done)
  case move x =>
    simp only [cOp, Option.bind_eq_bind, Option.bind_eq_some_iff, Option.some.injEq] at hc
    obtain ⟨x', hx, rfl⟩ := hc
    simp only [vop, Option.some.injEq, Prod.mk.injEq] at hv
    obtain ⟨rfl, rfl⟩ := hv
    exact Good.mk0 h (hev x x' hx) (by simp [execOp])
  case assign x =>
    simp only [cOp, Option.bind_eq_bind, Option.bind_eq_some_iff, Option.some.injEq] at hc
    obtain ⟨x', hx, rfl⟩ := hc
    simp only [vop, Option.some.injEq, Prod.mk.injEq] at hv
    obtain ⟨rfl, rfl⟩ := hv
    exact Good.mk0 h (hev x x' hx) (by simp [execOp])
  case pick c a b =>
    simp only [cOp, Option.bind_eq_bind, Option.bind_eq_some_iff, Option.some.injEq] at hc
    obtain ⟨c', hc', a', ha, b', hb, rfl⟩ := hc
    simp only [vop] at hv
    have hcV := hev c c' hc'
    cases hcc : ev c' <;> rw [hcc] at hv hcV <;> try (simp only [reduceCtorEq] at hv; done)
    rename_i q
    have hq : ρ c = .bool q := by generalize ρ c = y at hcV; cases hcV; rfl
    cases q <;> simp only [Option.some.injEq, Prod.mk.injEq] at hv <;> obtain ⟨rfl, rfl⟩ := hv
    · exact Good.mk0 h (hev b b' hb) (by simp [execOp, hq, asBool])
    · exact Good.mk0 h (hev a a' ha) (by simp [execOp, hq, asBool])
  case alloc e =>
    simp only [cOp, Option.bind_eq_bind, Option.bind_eq_some_iff, Option.some.injEq] at hc
    obtain ⟨z, hz, rfl⟩ := hc
    simp only [vop, Option.some.injEq, Prod.mk.injEq] at hv
    obtain ⟨rfl, rfl⟩ := hv
    exact (s_new h hz).good
  case box e x =>
    simp only [cOp, Option.bind_eq_bind, Option.bind_eq_some_iff, Option.some.injEq] at hc
    obtain ⟨x', hx, rfl⟩ := hc
    simp only [vop] at hv
    cases hall : (ev x').cells.all AV.one with
    | false => simp [hall] at hv
    | true =>
      simp only [hall, cond_true, Option.some.injEq, Prod.mk.injEq] at hv
      obtain ⟨rfl, rfl⟩ := hv
      exact (s_box h (hev x x' hx) hall).good
  case build t ps => exact (s_build h hc (fun x _ x' hx => hev x x' hx) hv).good
  case buildSlice t len ps => exact (s_bsl h hc (fun x _ x' hx => hev x x' hx) hv).good
  case load t x =>
    simp only [cOp, Option.bind_eq_bind, Option.bind_eq_some_iff, Option.some.injEq] at hc
    obtain ⟨ag, ha, n, hn, x', hx, rfl⟩ := hc
    have hxV := hev x x' hx
    simp only [vop] at hv
    cases hx' : ev x' <;> rw [hx'] at hv hxV <;> try (simp only [reduceCtorEq] at hv; done)
    rename_i b off
    simp only [] at hv
    cases hl : H.load b off n with
    | none => simp [hl] at hv
    | some cs =>
      simp only [hl] at hv
      cases ag with
      | true =>
        simp only [cond_true, Option.some.injEq, Prod.mk.injEq] at hv
        obtain ⟨rfl, rfl⟩ := hv
        exact (s_ld h hn ha hxV hl rfl (fun e => by cases e)).good
      | false =>
        simp only [cond_false] at hv
        match cs, hl, hv with
        | [u], hl, hv =>
          simp only [Option.some.injEq, Prod.mk.injEq] at hv
          obtain ⟨rfl, rfl⟩ := hv
          obtain ⟨r, o, hβ, _⟩ := hxV.ptr_inv
          obtain ⟨vs, h1, h2, _⟩ := h.load hl hβ
          exact (s_ld h hn ha hxV hl rfl (fun _ => by simpa using h2.symm)).good
  case store t x y =>
    simp only [cOp, Option.bind_eq_bind, Option.bind_eq_some_iff, Option.some.injEq] at hc
    obtain ⟨n, hn, x', hx, y', hy, rfl⟩ := hc
    have hxV := hev x x' hx
    simp only [vop] at hv
    cases hx' : ev x' <;> rw [hx'] at hv hxV <;> try (simp only [reduceCtorEq] at hv; done)
    rename_i b off
    simp only [] at hv
    cases hl : Nat.beq (ev y').cells.length n with
    | false => simp [hl] at hv
    | true =>
      simp only [hl, cond_true] at hv
      cases hs : H.store b off (ev y').cells with
      | none => simp [hs] at hv
      | some H1 =>
        simp only [hs, Option.some.injEq, Prod.mk.injEq] at hv
        obtain ⟨rfl, rfl⟩ := hv
        exact s_st h hn hxV (hev y y' hy) (by simpa using hl) hs (store_ne_any hs)
  case nilCheck x =>
    simp only [cOp, Option.bind_eq_bind, Option.bind_eq_some_iff, Option.some.injEq] at hc
    obtain ⟨x', hx, rfl⟩ := hc
    have hxV := hev x x' hx
    simp only [vop] at hv
    cases hx' : ev x' <;> rw [hx'] at hv hxV <;> simp only [reduceCtorEq, Option.some.injEq, Prod.mk.injEq] at hv <;> obtain ⟨rfl, rfl⟩ := hv
    · exact s_nilc h rfl hxV (.inl ⟨_, _, rfl⟩)
    · exact s_nilc h rfl hxV (.inr (.inl ⟨_, _, _, rfl⟩))
    · exact s_nilc h rfl hxV (.inr (.inr ⟨_, _, rfl⟩))
  case binOp op t x y c =>
    simp only [cOp, Option.bind_eq_bind, Option.bind_eq_some_iff, Option.some.injEq] at hc
    obtain ⟨e, he, x', hx, y', hy, rfl⟩ := hc
    simp only [vop] at hv
    cases ha : abin H op e (ev x') (ev y') with
    | none => simp [ha] at hv
    | some u =>
      simp only [ha, Option.some.injEq, Prod.mk.injEq] at hv
      obtain ⟨rfl, rfl⟩ := hv
      exact (s_bin h he (hev x x' hx) (hev y y' hy) ha).good
  case unOp op t x =>
    simp only [cOp, Option.bind_eq_bind, Option.bind_eq_some_iff, Option.some.injEq] at hc
    obtain ⟨x', hx, rfl⟩ := hc
    simp only [vop] at hv
    cases ha : aun op (ev x') with
    | none => simp [ha] at hv
    | some u =>
      simp only [ha, Option.some.injEq, Prod.mk.injEq] at hv
      obtain ⟨rfl, rfl⟩ := hv
      exact (s_un h (hev x x' hx) ha).good
  case convert s d x =>
    simp only [cOp, Option.bind_eq_bind, Option.bind_eq_some_iff] at hc
    obtain ⟨x', hx, hc⟩ := hc
    exact (conv_sound h hc (hev x x' hx) hv).good
  case makeInterface t x =>
    simp only [cOp] at hc
    cases hu : P.underlying t with
    | none => simp [hu] at hc
    | some d =>
      have hd : ∀ ms, d ≠ .interface ms := by rintro ms rfl; simp [hu] at hc
      have hc' : (do some (IOp.mki t (← cOpd P x)) : Option IOp) = some i := by rw [hu] at hc; cases d <;> first | exact absurd rfl (hd _) | exact hc
      simp only [Option.bind_eq_bind, Option.bind_eq_some_iff, Option.some.injEq] at hc'
      obtain ⟨x', hx, rfl⟩ := hc'
      simp only [vop, Option.some.injEq, Prod.mk.injEq] at hv
      obtain ⟨rfl, rfl⟩ := hv
      exact (s_mki h hu hd (hev x x' hx)).good
  case makeFunc fn first cap =>
    cases fn <;> try (simp only [cOp, reduceCtorEq] at hc; done)
    simp only [cOp, Option.bind_eq_bind, Option.bind_eq_some_iff, Option.some.injEq] at hc
    obtain ⟨f', hf, c', hcp, rfl⟩ := hc
    simp only [vop, Option.some.injEq, Prod.mk.injEq] at hv
    obtain ⟨rfl, rfl⟩ := hv
    exact (GoodV.same h (.fn (cOpd_V hev hf) (cOpd_V hev hcp)) (by simp [Instr.makeFunc])).good
  case makeMap t r =>
    cases r <;> simp only [cOp, reduceCtorEq, Option.some.injEq] at hc
    subst hc
    simp only [vop, Option.some.injEq, Prod.mk.injEq] at hv
    obtain ⟨rfl, rfl⟩ := hv
    exact (s_mkm h).good
  case makeSlice t l c =>
    simp only [cOp] at hc
    cases hu : P.underlying t with
    | none => simp [hu] at hc
    | some d =>
      rw [hu] at hc
      cases d <;> try (simp only [reduceCtorEq] at hc; done)
      rename_i e
      simp only [Option.bind_eq_bind, Option.bind_eq_some_iff, Option.some.injEq] at hc
      obtain ⟨es, hes, by_, hby, z, hz, l', hl, c', hcc, rfl⟩ := hc
      have hlV := hev l l' hl
      have hcV := hev c c' hcc
      simp only [vop] at hv
      cases hl' : ev l' <;> rw [hl'] at hv hlV <;> try (simp only [reduceCtorEq] at hv; done)
      cases hc' : ev c' <;> rw [hc'] at hv hcV <;> try (simp only [reduceCtorEq] at hv; done)
      rename_i k1 a k2 b
      simp only [] at hv
      cases hcond : (decide (0 ≤ a) && decide (a ≤ b) && decide (b ≤ 140737488355328) && decide (b * (by_ : Int) ≤ 140737488355328) && Nat.beq z.length es) with
      | false => simp [hcond] at hv
      | true =>
        simp only [hcond, cond_true, Option.some.injEq, Prod.mk.injEq] at hv
        obtain ⟨rfl, rfl⟩ := hv
        simp only [Bool.and_eq_true, decide_eq_true_eq] at hcond
        exact (s_mks h hu hes hby hz hlV hcV hcond.1.1.1.1 hcond.1.1.1.2 hcond.1.1.2 hcond.1.2).good
  case slice t x lo hi mx =>
    simp only [cOp] at hc
    cases hu : P.underlying t with
    | none => simp [hu] at hc
    | some d =>
      rw [hu] at hc
      cases d <;> try (simp only [reduceCtorEq] at hc; done)
      case string =>
        simp only [Option.bind_eq_bind, Option.bind_eq_some_iff, Option.some.injEq] at hc
        obtain ⟨x', hx, l', hl, h', hh, m', hm, rfl⟩ := hc
        have qh := cOpt_spec hh (fun y _ y' hy => hev y y' hy)
        have ql := cOpt_spec hl (fun y _ y' hy => hev y y' hy)
        have qm := cOpt_spec hm (fun y _ y' hy => hev y y' hy)
        simp only [vop] at hv
        have hxV := hev x x' hx
        cases hst : ((ev x').isStr == true) with
        | false => simp [hst] at hv
        | true =>
        cases ha : aslice ev 1 (ev x') l' h' m' with
        | none => simp [ha] at hv
        | some u =>
          simp only [hst, cond_true, ha, Option.some.injEq, Prod.mk.injEq] at hv
          obtain ⟨rfl, rfl⟩ := hv
          have hs' : ∃ s, ev x' = .str s := by
            cases hx' : ev x' <;> rw [hx'] at hst <;> first | exact ⟨_, rfl⟩ | simp [AV.isStr] at hst
          exact (s_slc h (.inl hu) hxV ql.1 ql.2 qh.1 qh.2 qm.1 qm.2 ha (fun _ _ => hu) (.inl hs')).good
      case slice e =>
        simp only [Option.bind_eq_bind, Option.bind_eq_some_iff, Option.some.injEq] at hc
        obtain ⟨es, hes, x', hx, l', hl, h', hh, m', hm, rfl⟩ := hc
        have qh := cOpt_spec hh (fun y _ y' hy => hev y y' hy)
        have ql := cOpt_spec hl (fun y _ y' hy => hev y y' hy)
        have qm := cOpt_spec hm (fun y _ y' hy => hev y y' hy)
        simp only [vop] at hv
        have hxV := hev x x' hx
        cases hst : ((ev x').isStr == false) with
        | false => simp [hst] at hv
        | true =>
        cases ha : aslice ev es (ev x') l' h' m' with
        | none => simp [ha] at hv
        | some u =>
          simp only [hst, cond_true, ha, Option.some.injEq, Prod.mk.injEq] at hv
          obtain ⟨rfl, rfl⟩ := hv
          have hs' : ∀ s, ev x' ≠ .str s := by
            intro s e; rw [e] at hst; simp [AV.isStr] at hst
          exact (s_slc h (.inr ⟨e, hu, hes⟩) hxV ql.1 ql.2 qh.1 qh.2 qm.1 qm.2 ha (fun s e => absurd e (hs' s)) (.inr ⟨e, hu, hes⟩)).good
      case array n e =>
        simp only [Option.bind_eq_bind, Option.bind_eq_some_iff, Option.some.injEq] at hc
        obtain ⟨es, hes, x', hx, l', hl, h', hh, m', hm, rfl⟩ := hc
        have qh := cOpt_spec hh (fun y _ y' hy => hev y y' hy)
        have ql := cOpt_spec hl (fun y _ y' hy => hev y y' hy)
        have qm := cOpt_spec hm (fun y _ y' hy => hev y y' hy)
        simp only [vop] at hv
        have hxV := hev x x' hx
        cases ha : asliceA ev n es (ev x') l' h' m' with
        | none => simp [ha] at hv
        | some u =>
          simp only [ha, Option.some.injEq, Prod.mk.injEq] at hv
          obtain ⟨rfl, rfl⟩ := hv
          exact (s_slca h hu hes hxV ql.1 ql.2 qh.1 qh.2 qm.1 qm.2 ha).good
  case fieldAddr t x k =>
    simp only [cOp, Option.bind_eq_bind, Option.bind_eq_some_iff] at hc
    obtain ⟨fs, hfs, f, hf, n, hn, hc⟩ := hc
    have hb : Nat.beq n 0 = decide (n = 0) := by rw [Bool.eq_iff_iff]; simp
    rw [hb] at hc
    by_cases h0 : n = 0
    · simp [h0] at hc
    · simp only [h0, decide_false, cond_false, Option.bind_eq_some_iff, Option.some.injEq] at hc
      obtain ⟨x', hx, rfl⟩ := hc
      obtain ⟨fa, hua, rfl⟩ := fieldsC_spec hfs
      have hxV := hev x x' hx
      simp only [vop] at hv
      cases hx' : ev x' <;> rw [hx'] at hv hxV <;> simp only [reduceCtorEq, Option.some.injEq, Prod.mk.injEq] at hv
      obtain ⟨rfl, rfl⟩ := hv
      exact (s_fad h hua (by simpa using hf) hn h0 hxV).good
  case field t x k =>
    simp only [cOp, Option.bind_eq_bind, Option.bind_eq_some_iff, Option.some.injEq] at hc
    obtain ⟨fs, hfs, f, hf, n, hn, ag, ha, x', hx, rfl⟩ := hc
    obtain ⟨fa, hua, rfl⟩ := fieldsC_spec hfs
    have hxV := hev x x' hx
    simp only [vop] at hv
    cases hx' : ev x' <;> rw [hx'] at hv hxV <;> try (simp only [reduceCtorEq] at hv; done)
    rename_i cs
    simp only [] at hv
    cases ag with
    | true =>
      simp only [cond_true] at hv
      cases hle : Nat.ble (f.offset + n) cs.length with
      | false => simp [hle] at hv
      | true =>
        simp only [hle, cond_true, Option.some.injEq, Prod.mk.injEq] at hv
        obtain ⟨rfl, rfl⟩ := hv
        exact (s_fld h hua (by simpa using hf) hn ha hxV (by simp)).good
    | false =>
      simp only [cond_false] at hv
      cases hg : cs[f.offset]? with
      | none => simp [hg] at hv
      | some u =>
        simp only [hg, Option.some.injEq, Prod.mk.injEq] at hv
        obtain ⟨rfl, rfl⟩ := hv
        exact (s_fld h hua (by simpa using hf) hn ha hxV (by simpa using hg)).good
  case indexAddr t x k =>
    simp only [cOp] at hc
    cases hu : P.underlying t with
    | none => simp [hu] at hc
    | some d =>
      rw [hu] at hc
      cases d <;> try (simp only [reduceCtorEq] at hc; done)
      case slice e =>
        simp only [Option.bind_eq_bind, Option.bind_eq_some_iff, Option.some.injEq] at hc
        obtain ⟨es, hes, x', hx, k', hk, rfl⟩ := hc
        have hxV := hev x x' hx
        have hkV := hev k k' hk
        simp only [vop] at hv
        cases hx' : ev x' <;> rw [hx'] at hv hxV <;> try (simp only [reduceCtorEq] at hv; done)
        cases hk' : ev k' <;> rw [hk'] at hv hkV <;> try (simp only [reduceCtorEq] at hv; done)
        rename_i b off len cap sp k n
        simp only [] at hv
        cases hcnd : (decide (0 ≤ n) && decide (n < (len : Int))) with
        | false => simp [hcnd] at hv
        | true =>
          simp only [hcnd, cond_true, Option.some.injEq, Prod.mk.injEq] at hv
          obtain ⟨rfl, rfl⟩ := hv
          simp only [Bool.and_eq_true, decide_eq_true_eq] at hcnd
          exact (s_iad h hu hes hxV hkV hcnd.1 hcnd.2).good
      case array m e =>
        simp only [Option.bind_eq_bind, Option.bind_eq_some_iff, Option.some.injEq] at hc
        obtain ⟨es, hes, x', hx, k', hk, rfl⟩ := hc
        have hxV := hev x x' hx
        have hkV := hev k k' hk
        simp only [vop] at hv
        cases hx' : ev x' <;> rw [hx'] at hv hxV <;> try (simp only [reduceCtorEq] at hv; done)
        cases hk' : ev k' <;> rw [hk'] at hv hkV <;> try (simp only [reduceCtorEq] at hv; done)
        rename_i b off k n
        simp only [] at hv
        cases hcnd : (decide (0 ≤ n) && decide (n < (m : Int))) with
        | false => simp [hcnd] at hv
        | true =>
          simp only [hcnd, cond_true, Option.some.injEq, Prod.mk.injEq] at hv
          obtain ⟨rfl, rfl⟩ := hv
          simp only [Bool.and_eq_true, decide_eq_true_eq] at hcnd
          exact (s_iada h hu hes hxV hkV hcnd.1 hcnd.2).good
  case index t x k =>
    simp only [cOp] at hc
    cases hu : P.underlying t with
    | none => simp [hu] at hc
    | some d =>
      rw [hu] at hc
      cases d <;> try (simp only [reduceCtorEq] at hc; done)
      case string =>
        simp only [Option.bind_eq_bind, Option.bind_eq_some_iff, Option.some.injEq] at hc
        obtain ⟨x', hx, k', hk, rfl⟩ := hc
        have hxV := hev x x' hx
        have hkV := hev k k' hk
        simp only [vop] at hv
        cases hx' : ev x' <;> rw [hx'] at hv hxV <;> try (simp only [reduceCtorEq] at hv; done)
        cases hk' : ev k' <;> rw [hk'] at hv hkV <;> try (simp only [reduceCtorEq] at hv; done)
        rename_i l k n
        simp only [] at hv
        by_cases h0 : 0 ≤ n
        · simp only [h0, decide_true, cond_true] at hv
          cases hg : l[n.toNat]? with
          | none => simp [hg] at hv
          | some b =>
            simp only [hg, Option.some.injEq, Prod.mk.injEq] at hv
            obtain ⟨rfl, rfl⟩ := hv
            exact (s_idxs h hu hxV hkV h0 hg).good
        · simp [h0] at hv
      case array m e =>
        simp only [Option.bind_eq_bind, Option.bind_eq_some_iff, Option.some.injEq] at hc
        obtain ⟨es, hes, ag, ha, x', hx, k', hk, rfl⟩ := hc
        have hxV := hev x x' hx
        have hkV := hev k k' hk
        simp only [vop] at hv
        cases hx' : ev x' <;> rw [hx'] at hv hxV <;> try (simp only [reduceCtorEq] at hv; done)
        cases hk' : ev k' <;> rw [hk'] at hv hkV <;> try (simp only [reduceCtorEq] at hv; done)
        rename_i cs k n
        simp only [] at hv
        cases hcnd : (decide (0 ≤ n) && decide (n < (m : Int))) with
        | false => simp [hcnd] at hv
        | true =>
          simp only [hcnd, cond_true] at hv
          simp only [Bool.and_eq_true, decide_eq_true_eq] at hcnd
          cases ag with
          | true =>
            simp only [cond_true, Option.some.injEq, Prod.mk.injEq] at hv
            obtain ⟨rfl, rfl⟩ := hv
            exact (s_idxa h hu hes ha hxV hkV hcnd.1 hcnd.2 (by simp)).good
          | false =>
            simp only [cond_false] at hv
            cases hg : cs[n.toNat * es]? with
            | none => simp [hg] at hv
            | some u =>
              simp only [hg, Option.some.injEq, Prod.mk.injEq] at hv
              obtain ⟨rfl, rfl⟩ := hv
              exact (s_idxa h hu hes ha hxV hkV hcnd.1 hcnd.2 (by simpa using hg)).good
  case lookup t x k ok =>
    simp only [cOp] at hc
    cases hu : P.underlying t with
    | none => simp [hu] at hc
    | some d =>
      rw [hu] at hc
      cases d <;> try (simp only [reduceCtorEq] at hc; done)
      simp only [Option.bind_eq_bind, Option.bind_eq_some_iff, Option.some.injEq] at hc
      obtain ⟨kt, hkt, z, hz, x', hx, k', hk, rfl⟩ := hc
      exact (s_lkp h hu hkt hz (hev x x' hx) (hev k k' hk) hv).good
  case mapUpdate t m k x =>
    simp only [cOp] at hc
    cases hu : P.underlying t with
    | none => simp [hu] at hc
    | some d =>
      rw [hu] at hc
      cases d <;> try (simp only [reduceCtorEq] at hc; done)
      simp only [Option.bind_eq_bind, Option.bind_eq_some_iff, Option.some.injEq] at hc
      obtain ⟨kt, hkt, m', hm, k', hk, x', hx, rfl⟩ := hc
      exact s_mup h hu hkt (hev m m' hm) (hev k k' hk) (hev x x' hx) hv
  case insert t m k x =>
    simp only [cOp] at hc
    cases hu : P.underlying t with
    | none => simp [hu] at hc
    | some d =>
      rw [hu] at hc
      cases d <;> try (simp only [reduceCtorEq] at hc; done)
      simp only [Option.bind_eq_bind, Option.bind_eq_some_iff, Option.some.injEq] at hc
      obtain ⟨kt, hkt, m', hm, k', hk, x', hx, rfl⟩ := hc
      exact s_mup h hu hkt (hev m m' hm) (hev k k' hk) (hev x x' hx) hv
  case range t x =>
    simp only [cOp] at hc
    cases hu : P.underlying t with
    | none => simp [hu] at hc
    | some d =>
      rw [hu] at hc
      cases d <;> try (simp only [reduceCtorEq] at hc; done)
      case string =>
        simp only [Option.bind_eq_bind, Option.bind_eq_some_iff, Option.some.injEq] at hc
        obtain ⟨x', hx, rfl⟩ := hc
        exact (s_rngs h hu (hev x x' hx) hv).good
      case map k e =>
        simp only [Option.bind_eq_bind, Option.bind_eq_some_iff, Option.some.injEq] at hc
        obtain ⟨x', hx, rfl⟩ := hc
        exact (s_rngm h hu (hev x x' hx) hv).good
  case next x st =>
    cases st
    · simp only [cOp, Option.bind_eq_bind, Option.bind_eq_some_iff, Option.some.injEq] at hc
      obtain ⟨x', hx, rfl⟩ := hc
      exact (s_nxtm h (hev x x' hx) hv).good
    · simp only [cOp, Option.bind_eq_bind, Option.bind_eq_some_iff, Option.some.injEq] at hc
      obtain ⟨x', hx, rfl⟩ := hc
      exact (s_nxts h (hev x x' hx) hv).good
  case typeAssert x s t ok =>
    simp only [cOp] at hc
    cases hu : P.underlying t with
    | none => simp [hu] at hc
    | some d =>
      have hd : ∀ ms, d ≠ .interface ms := by rintro ms rfl; simp [hu] at hc
      have hc' : (do some (IOp.tas t ok (← zeroA P t) (← cOpd P x)) : Option IOp) = some i := by rw [hu] at hc; cases d <;> first | exact absurd rfl (hd _) | exact hc
      simp only [Option.bind_eq_bind, Option.bind_eq_some_iff, Option.some.injEq] at hc'
      obtain ⟨z, hz, x', hx, rfl⟩ := hc'
      exact (s_tas h hu hd hz (hev x x' hx) hv).good
  case extract x k =>
    simp only [cOp, Option.bind_eq_bind, Option.bind_eq_some_iff, Option.some.injEq] at hc
    obtain ⟨x', hx, rfl⟩ := hc
    have hxV := hev x x' hx
    simp only [vop] at hv
    cases hx' : ev x' <;> rw [hx'] at hv hxV <;> try (simp only [reduceCtorEq] at hv; done)
    rename_i vs
    simp only [] at hv
    cases hg : vs[k]? with
    | none => simp [hg] at hv
    | some u =>
      simp only [hg, Option.some.injEq, Prod.mk.injEq] at hv
      obtain ⟨rfl, rfl⟩ := hv
      exact (s_ext h hxV hg).good
  case call c => exact call_sound h hc hev hv hct hfun
  case defer c =>
    simp only [cOp] at hc
    cases hcal : c.callee <;> rw [hcal] at hc <;> try (simp only [reduceCtorEq] at hc; done)
    simp only [Option.bind_eq_bind, Option.bind_eq_some_iff, Option.some.injEq] at hc
    obtain ⟨x', hx, a', ha, rfl⟩ := hc
    simp [IOp.ctl] at hct
  case panic x =>
    simp only [cOp, Option.bind_eq_bind, Option.bind_eq_some_iff, Option.some.injEq] at hc
    obtain ⟨x', hx, rfl⟩ := hc
    simp [IOp.ctl] at hct
end Go.Ab
