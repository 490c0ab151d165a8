import Derived.Test.YtedlnhicaimhgaaGreatDoorAbOps4
namespace Go.Ab
variable {w0 : World} {β : Ren} {H H' : Heap} {w : World} {P : Program} {dst : Option Tmp} {ty : TypeId} {pos : String} {aft : Array Edge} {g : Option (Nat × Bool)}

/-! ### Slice expressions -/
/-- A bound, on both sides. -/
theorem bnd_run {ev : Opd → AV} {x : Option Opd} {xv : Option Value} {d m m' n : Nat} (hx : ∀ o v, x = some o → xv = some v → V β (ev o) v) (hs : x.isSome = xv.isSome) (hb : bnd ev x d m = some n) (hm : m ≤ m') (code : BoundsCode) :
    (x = none ∧ xv = none ∧ n = d) ∨ (∃ v, xv = some v ∧ n ≤ m ∧ (Instr.sliceBound v m' code).run P w = .ok n w) := by
  cases x with
  | none =>
    simp only [bnd, Option.some.injEq] at hb
    cases xv with
    | none => exact .inl ⟨rfl, rfl, hb.symm⟩
    | some v => simp at hs
  | some o =>
    cases xv with
    | none => simp at hs
    | some v =>
      have hV := hx o v rfl rfl
      simp only [bnd] at hb
      cases hv : ev o with
      | int k i =>
        rw [hv] at hb hV
        simp only [] at hb
        cases hc : (decide (0 ≤ i) && decide (i ≤ (m : Int))) with
        | false => simp [hc] at hb
        | true =>
          simp only [hc, cond_true, Option.some.injEq] at hb
          simp only [Bool.and_eq_true, decide_eq_true_eq] at hc
          have := hV.int_inv; subst this
          refine .inr ⟨_, rfl, by omega, ?_⟩
          subst hb
          simp only [Instr.sliceBound, Sem.run_bind, run_asIntOf, Result.andThen_ok]
          rw [if_pos ⟨hc.1, by omega⟩]; simp
      | _ => rw [hv] at hb; simp at hb

/-- The three bounds: on our side m is what is known of the room, on the other it is m'. -/
theorem bounds_run {ev : Opd → AV} {lo hi mx : Option Opd} {lov hiv mxv : Option Value} {isS : Bool} {len cap cap' m h l : Nat}
    (hl : ∀ o v, lo = some o → lov = some v → V β (ev o) v) (hls : lo.isSome = lov.isSome) (hh : ∀ o v, hi = some o → hiv = some v → V β (ev o) v) (hhs : hi.isSome = hiv.isSome)
    (hm : ∀ o v, mx = some o → mxv = some v → V β (ev o) v) (hms : mx.isSome = mxv.isSome) (hlc : len ≤ cap) (hcc : cap ≤ cap')
    (e1 : bnd ev mx cap cap = some m) (e2 : bnd ev hi len m = some h) (e3 : bnd ev lo 0 h = some l) (e4 : (hi.isSome || !mx.isSome) = true) :
    (Instr.sliceBounds isS len cap' lov hiv mxv).run P w = .ok (l, h, if mx.isSome then m else cap') w ∧ l ≤ h ∧ h ≤ m ∧ m ≤ cap ∧ (mx.isSome = false → m = cap) := by
  have hmle : m ≤ cap ∧ (mx.isSome = false → m = cap) := by
    rcases bnd_run (P := P) (w := w) hm hms e1 (Nat.le_refl _) .index with ⟨h1, _, h2⟩ | ⟨v, _, h2, _⟩
    · subst h1; exact ⟨by omega, fun _ => h2⟩
    · refine ⟨h2, fun h => ?_⟩
      cases mx with
      | none => simp only [bnd, Option.some.injEq] at e1; exact e1.symm
      | some _ => simp at h
  have hhm : h ≤ m := by
    rcases bnd_run (P := P) (w := w) hh hhs e2 (Nat.le_refl _) .index with ⟨h1, _, h2⟩ | ⟨v, _, h2, _⟩
    · subst h1
      have : mx.isSome = false := by simpa using e4
      rw [hmle.2 this]; omega
    · exact h2
  have hlh : l ≤ h := by
    rcases bnd_run (P := P) (w := w) hl hls e3 (Nat.le_refl _) .index with ⟨h1, _, h2⟩ | ⟨v, _, h2, _⟩
    · omega
    · exact h2
  refine ⟨?_, hlh, hhm, hmle.1, hmle.2⟩
  have key : ∀ mc, m ≤ mc → (match hiv, mxv with
      | some v, some _ => Instr.sliceBound v mc .slice3B
      | some v, none => Instr.sliceBound v mc (if isS then .sliceAcap else .sliceAlen)
      | none, none => Pure.pure len
      | none, some _ => stuck "Slice: max without high").run P w = .ok h w := by
    intro mc hmc
    cases hiv with
    | none =>
      cases mxv with
      | none =>
        cases hi with
        | none => simp only [bnd, Option.some.injEq] at e2; subst e2; simp
        | some _ => simp at hhs
      | some _ =>
        have h1 : hi.isSome = false := by simpa using hhs
        have h2 : mx.isSome = true := by simpa using hms
        rw [h1, h2] at e4; simp at e4
    | some v =>
      cases mxv with
      | none =>
        simp only []
        rcases bnd_run (P := P) (w := w) hh hhs e2 hmc (if isS then .sliceAcap else .sliceAlen) with ⟨_, h1, _⟩ | ⟨v', h1, _, h2⟩
        · cases h1
        · cases h1; exact h2
      | some u =>
        simp only []
        rcases bnd_run (P := P) (w := w) hh hhs e2 hmc .slice3B with ⟨_, h1, _⟩ | ⟨v', h1, _, h2⟩
        · cases h1
        · cases h1; exact h2
  have keyl : (match lov with
      | some v => Instr.sliceBound v h (if mxv.isSome then .slice3C else .sliceB)
      | none => Pure.pure 0).run P w = .ok l w := by
    cases lov with
    | none =>
      cases lo with
      | none => simp only [bnd, Option.some.injEq] at e3; subst e3; simp
      | some _ => simp at hls
    | some v =>
      simp only []
      rcases bnd_run (P := P) (w := w) hl hls e3 (Nat.le_refl _) (if mxv.isSome then .slice3C else .sliceB) with ⟨_, h1, _⟩ | ⟨v', h1, _, h2⟩
      · cases h1
      · cases h1; exact h2
  cases mxv with
  | none =>
    have hn : mx.isSome = false := hms
    have k1 := key cap' (by have := hmle.1; omega)
    cases hiv <;> cases lov <;> simp only [Sem.run_pure, Result.ok.injEq, and_true, Option.isSome_none, Bool.false_eq_true, if_false] at k1 keyl <;> simp [Instr.sliceBounds, k1, keyl, hn]
  | some u =>
    have hsome : mx.isSome = true := hms
    rcases bnd_run (P := P) (w := w) hm hms e1 hcc (if isS then .slice3Acap else .slice3Alen) with ⟨_, h1, _⟩ | ⟨v', h1, _, h2⟩
    · cases h1
    · cases h1
      have k1 := key m (Nat.le_refl _)
      cases hiv <;> cases lov <;> simp only [Sem.run_pure, run_stuck, reduceCtorEq, Result.ok.injEq, and_true, Option.isSome_some, if_true] at k1 keyl <;> simp [Instr.sliceBounds, h2, k1, keyl, hsome]

theorem cOpt_spec {ev : Opd → AV} {ρ : Operand → Value} {x : Option Operand} {x' : Option Opd} (h : cOpt P x = some x') (hev : ∀ y, x = some y → ∀ y', cOpd P y = some y' → V β (ev y') (ρ y)) :
    (∀ o v, x' = some o → x.map ρ = some v → V β (ev o) v) ∧ x'.isSome = (x.map ρ).isSome := by
  cases x with
  | none => simp only [cOpt, Option.some.injEq] at h; subst h; exact ⟨fun o v h => (by cases h), rfl⟩
  | some y =>
    simp only [cOpt] at h
    cases hy : cOpd P y with
    | none => simp [hy] at h
    | some a =>
      simp only [hy, Option.some.injEq] at h
      subst h
      exact ⟨fun o v h1 h2 => by cases h1; cases h2; exact hev y rfl a hy, rfl⟩

theorem s_slc (h : HR w0 β H w) {ev : Opd → AV} {t : TypeId} {es : Nat} {lo hi mx : Option Opd} {lov hiv mxv : Option Value} {x : AV} {xv : Value} {v : AV}
    (hu : (P.underlying t = some .string) ∨ (∃ e, P.underlying t = some (.slice e) ∧ sizeC P e = some es)) (hx : V β x xv)
    (hl : ∀ o v, lo = some o → lov = some v → V β (ev o) v) (hls : lo.isSome = lov.isSome) (hh : ∀ o v, hi = some o → hiv = some v → V β (ev o) v) (hhs : hi.isSome = hiv.isSome)
    (hm : ∀ o v, mx = some o → mxv = some v → V β (ev o) v) (hms : mx.isSome = mxv.isSome) (hv : aslice ev es x lo hi mx = some v)
    (hty : ∀ s, x = .str s → P.underlying t = some .string) (hty' : (∃ s, x = .str s) ∨ (∃ e, P.underlying t = some (.slice e) ∧ sizeC P e = some es)) : GoodV P w0 β H v H (Instr.sliceAt t xv lov hiv mxv) w := by
  cases x with
  | str s =>
    have hu := hty s rfl
    obtain ⟨b, rfl, hb⟩ := hx.str_inv
    simp only [aslice] at hv
    cases mx with
    | some _ => simp at hv
    | none =>
      simp only [] at hv
      have hmn : mxv = none := by cases mxv with | none => rfl | some _ => simp at hms
      subst hmn
      have hbl : s.length = b.size := by rw [← hb, List.length_map, Array.length_toList]; rfl
      cases e2 : bnd ev hi s.length s.length with
      | none => simp [e2] at hv
      | some hh' =>
        simp only [e2] at hv
        cases e3 : bnd ev lo 0 hh' with
        | none => simp [e3] at hv
        | some l =>
          simp only [e3, Option.some.injEq] at hv
          subst hv
          obtain ⟨hr, hlh, hhm, _, _⟩ := bounds_run (P := P) (w := w) (isS := false) (cap' := s.length) hl hls hh hhs hm hms (Nat.le_refl _) (Nat.le_refl _) (show bnd ev none s.length s.length = some s.length from rfl) e2 e3 (by simp)
          refine GoodV.same h (.str (b.extract l hh') _ ?_) ?_
          · have : (b.extract l hh').data.toList = (b.data.toList.drop l).take (hh' - l) := by simp [ByteArray.data_extract]
            rw [this, ← hb, List.map_take, List.map_drop]
          · rw [hbl] at hr
            simp only [Instr.sliceAt, Instr.slice, Sem.run_bind, run_underlying' hu, Result.andThen_ok, Option.isSome_none, Bool.false_eq_true, if_false]
            rw [hr]; simp
  | nils =>
    obtain ⟨e, hu, hes⟩ := hty'.resolve_left (by rintro ⟨s, hs⟩; cases hs)
    cases hx
    simp only [aslice] at hv
    cases e1 : bnd ev mx 0 0 with
    | none => simp [e1] at hv
    | some m =>
      simp only [e1] at hv
      have hm0 : m = 0 := by
        cases mx with
        | none => simp only [bnd, Option.some.injEq] at e1; exact e1.symm
        | some o =>
          rcases bnd_run (P := P) (w := w) hm hms e1 (Nat.le_refl _) .index with ⟨h1, _⟩ | ⟨_, _, h2, _⟩
          · cases h1
          · omega
      subst hm0
      cases e2 : bnd ev hi 0 0 with
      | none => simp [e2] at hv
      | some hh' =>
        simp only [e2] at hv
        have hh0 : hh' = 0 := by
          cases hi with
          | none => simp only [bnd, Option.some.injEq] at e2; exact e2.symm
          | some o =>
            rcases bnd_run (P := P) (w := w) hh hhs e2 (Nat.le_refl _) .index with ⟨h1, _⟩ | ⟨_, _, h2, _⟩
            · cases h1
            · omega
        subst hh0
        cases e3 : bnd ev lo 0 0 with
        | none => simp [e3] at hv
        | some l =>
          simp only [e3] at hv
          cases e4 : (hi.isSome || !mx.isSome) with
          | false => rw [e4] at hv; simp at hv
          | true =>
            simp only [e4, cond_true, Option.some.injEq] at hv
            subst hv
            obtain ⟨hr, hlh, _, _, _⟩ := bounds_run (P := P) (w := w) (isS := true) (cap' := 0) hl hls hh hhs hm hms (Nat.le_refl _) (Nat.le_refl _) e1 e2 e3 e4
            have hl0 : l = 0 := by omega
            subst hl0
            refine GoodV.same h .nils ?_
            simp only [Instr.sliceAt, Instr.slice, Sem.run_bind, run_underlying' hu, Result.andThen_ok]
            rw [hr]; simp [run_sizeOf' hes]
  | sl b off len cap sp =>
    obtain ⟨e, hu, hes⟩ := hty'.resolve_left (by rintro ⟨s, hs⟩; cases hs)
    cases hx with
    | sl hβ hlc hcc h3 h4 h5 =>
      rename_i r o a cap'
      simp only [aslice] at hv
      cases e1 : bnd ev mx cap cap with
      | none => simp [e1] at hv
      | some m =>
        simp only [e1] at hv
        cases e2 : bnd ev hi len m with
        | none => simp [e2] at hv
        | some hh' =>
          simp only [e2] at hv
          cases e3 : bnd ev lo 0 hh' with
          | none => simp [e3] at hv
          | some l =>
            simp only [e3] at hv
            cases e4 : (hi.isSome || !mx.isSome) && (Nat.beq sp 0 || Nat.beq sp es) with
            | false => rw [e4] at hv; simp at hv
            | true =>
              simp only [e4, cond_true, Option.some.injEq] at hv
              simp only [Bool.and_eq_true] at e4
              subst hv
              obtain ⟨hr, hlh, hhm, hmc, hmn⟩ := bounds_run (P := P) (w := w) (isS := true) (cap' := cap') hl hls hh hhs hm hms hlc hcc e1 e2 e3 e4.1
              have hsp : sp = 0 ∨ sp = es := by simpa using e4.2
              cases hms' : mx.isSome with
              | true =>
                rw [hms'] at hr
                simp only [if_true] at hr
                refine GoodV.same h (.sl (a := if m = l then a else a.add (l * es)) (cap' := m - l) hβ (by omega) (Nat.le_refl _) (fun _ => rfl) ?_ (fun h => absurd rfl h)) ?_
                · intro hne
                  rw [if_neg (by omega), h4 (by omega), add_eq, Nat.add_assoc]
                · simp only [Instr.sliceAt, Instr.slice, Sem.run_bind, run_underlying' hu, Result.andThen_ok]
                  rw [hr]; simp only [Result.andThen_ok, run_sizeOf' hes, Sem.run_bind, Sem.run_pure]
                  by_cases hml : m = l <;> simp [hml]
              | false =>
                rw [hms'] at hr
                simp only [Bool.false_eq_true, if_false] at hr
                have hmcap := hmn hms'
                refine GoodV.same h (.sl (a := if cap' = l then a else a.add (l * es)) (cap' := cap' - l) hβ (by omega) (by omega) (fun h0 => ?_) ?_ (fun hne => ?_)) ?_
                · have := h3 (by simpa using h0); omega
                · intro hne
                  rw [if_neg (by omega), h4 (by omega), add_eq, Nat.add_assoc]
                · simp only [cond_false] at hne ⊢
                  have h6 := h5 hne
                  have hses : sp = es := hsp.resolve_left hne
                  subst hses
                  have : cap' * sp = l * sp + (cap' - l) * sp := by rw [← Nat.add_mul]; congr 1; omega
                  omega
                · simp only [Instr.sliceAt, Instr.slice, Sem.run_bind, run_underlying' hu, Result.andThen_ok]
                  rw [hr]; simp only [Result.andThen_ok, run_sizeOf' hes, Sem.run_bind, Sem.run_pure]
                  by_cases hml : cap' = l <;> simp [hml]
  | _ => simp [aslice] at hv

theorem s_slca (h : HR w0 β H w) {ev : Opd → AV} {t e : TypeId} {n es : Nat} {lo hi mx : Option Opd} {lov hiv mxv : Option Value} {x : AV} {xv : Value} {v : AV}
    (hu : P.underlying t = some (.array n e)) (hes : sizeC P e = some es) (hx : V β x xv)
    (hl : ∀ o v, lo = some o → lov = some v → V β (ev o) v) (hls : lo.isSome = lov.isSome) (hh : ∀ o v, hi = some o → hiv = some v → V β (ev o) v) (hhs : hi.isSome = hiv.isSome)
    (hm : ∀ o v, mx = some o → mxv = some v → V β (ev o) v) (hms : mx.isSome = mxv.isSome) (hv : asliceA ev n es x lo hi mx = some v) : GoodV P w0 β H v H (Instr.sliceAt t xv lov hiv mxv) w := by
  cases x with
  | ptr b off =>
    obtain ⟨r, o, hβ, rfl⟩ := hx.ptr_inv
    simp only [asliceA] at hv
    cases e1 : bnd ev mx n n with
    | none => simp [e1] at hv
    | some m =>
      simp only [e1] at hv
      cases e2 : bnd ev hi n m with
      | none => simp [e2] at hv
      | some hh' =>
        simp only [e2] at hv
        cases e3 : bnd ev lo 0 hh' with
        | none => simp [e3] at hv
        | some l =>
          simp only [e3] at hv
          cases e4 : (hi.isSome || !mx.isSome) with
          | false => rw [e4] at hv; simp at hv
          | true =>
            simp only [e4, cond_true, Option.some.injEq] at hv
            subst hv
            obtain ⟨hr, hlh, hhm, hmc, hmn⟩ := bounds_run (P := P) (w := w) (isS := false) (cap' := n) hl hls hh hhs hm hms (Nat.le_refl _) (Nat.le_refl _) e1 e2 e3 e4
            have hif : (if mx.isSome = true then m else n) = m := by
              cases hms' : mx.isSome with
              | true => simp
              | false => simp [hmn hms']
            rw [hif] at hr
            refine GoodV.same h (.sl (a := if m = l then ⟨r, o + off, none⟩ else (⟨r, o + off, none⟩ : Addr).add (l * es)) (cap' := m - l) hβ (by omega) (Nat.le_refl _) (fun _ => rfl) ?_ (fun h => absurd rfl h)) ?_
            · intro hne
              rw [if_neg (by omega), add_eq, Nat.add_assoc]
            · simp only [Instr.sliceAt, Sem.run_bind, run_underlying' hu, Result.andThen_ok, Instr.sureAddr, Sem.run_pure]
              rw [hr]; simp only [Result.andThen_ok, run_sizeOf' hes, Sem.run_bind, Sem.run_pure]
  | _ => simp [asliceA] at hv
end Go.Ab
