import Derived.Test.YtedlnhicaimhgaaGreatDoorAbSnd10
/-!
What an operation reads, and what of its heap.
-/
namespace Go.Ab

/-- Two environments agree on some slots. -/
def Agree (l : List Nat) (e e' : Env) : Prop := ∀ t ∈ l, e.at t = e'.at t
theorem Agree.mono {l l' : List Nat} {e e' : Env} (h : Agree l e e') (hs : ∀ t ∈ l', t ∈ l) : Agree l' e e' := fun t ht => h t (hs t ht)
theorem Agree.opd {x : Opd} {e e' : Env} (h : Agree (opdT x) e e') : Opd.ev e x = Opd.ev e' x := by
  cases x with
  | t i => exact h i (by simp [opdT])
  | _ => rfl
theorem Agree.l {l l' : List Nat} {e e' : Env} (h : Agree (l ++ l') e e') : Agree l e e' := h.mono fun t ht => by simp [ht]
theorem Agree.r {l l' : List Nat} {e e' : Env} (h : Agree (l ++ l') e e') : Agree l' e e' := h.mono fun t ht => by simp [ht]
theorem Agree.list {xs : List Opd} {e e' : Env} (h : Agree (xs.flatMap opdT) e e') : xs.map (Opd.ev e) = xs.map (Opd.ev e') :=
  List.map_congr_left fun x hx => Agree.opd (h.mono fun t ht => List.mem_flatMap.2 ⟨x, hx, ht⟩)
theorem Agree.parts {ps : List (Nat × Nat × Opd)} {e e' : Env} (h : Agree (ps.flatMap fun p => opdT p.2.2) e e') : (ps.map fun p => (p.1, p.2.1, Opd.ev e p.2.2)) = ps.map fun p => (p.1, p.2.1, Opd.ev e' p.2.2) :=
  List.map_congr_left fun x hx => by rw [Agree.opd (h.mono fun t ht => List.mem_flatMap.2 ⟨x, hx, ht⟩)]
theorem Agree.bnd {x : Option Opd} {e e' : Env} (h : Agree (optT x) e e') (d m : Nat) : bnd (Opd.ev e) x d m = bnd (Opd.ev e') x d m := by
  cases x with
  | none => rfl
  | some o =>
    have : Opd.ev e o = Opd.ev e' o := by cases o <;> first | rfl | exact h _ (by simp [optT])
    simp only [Ab.bnd, this]

theorem aslice_congr {es : Nat} {x : AV} {lo hi mx : Option Opd} {e e' : Env} (h1 : Agree (optT lo) e e') (h2 : Agree (optT hi) e e') (h3 : Agree (optT mx) e e') : aslice (Opd.ev e) es x lo hi mx = aslice (Opd.ev e') es x lo hi mx := by
  unfold aslice
  simp only [h1.bnd, h2.bnd, h3.bnd]
theorem asliceA_congr {n es : Nat} {x : AV} {lo hi mx : Option Opd} {e e' : Env} (h1 : Agree (optT lo) e e') (h2 : Agree (optT hi) e e') (h3 : Agree (optT mx) e e') : asliceA (Opd.ev e) n es x lo hi mx = asliceA (Opd.ev e') n es x lo hi mx := by
  unfold asliceA
  simp only [h1.bnd, h2.bnd, h3.bnd]

theorem vop_congr {o : IOp} {e e' : Env} (h : Agree o.temps e e') (H : Heap) : vop o (Opd.ev e) H = vop o (Opd.ev e') H := by
  cases o <;> simp only [IOp.temps] at h
  case pick => simp only [vop, h.l.l.opd, h.l.r.opd, h.r.opd]
  case mup => simp only [vop, h.l.l.opd, h.l.r.opd, h.r.opd]
  case build => simp only [vop, h.parts]
  case bsl => simp only [vop, h.parts]
  case slc => simp only [vop, h.l.l.l.opd, aslice_congr h.l.l.r h.l.r h.r]
  case slca => simp only [vop, h.l.l.l.opd, asliceA_congr h.l.l.r h.l.r h.r]
  case mkf => simp only [vop, h.l.list, h.r.list]
  case mm => simp only [vop, h.list]
  all_goals first
    | rfl
    | (simp only [vop, h.opd]; done)
    | (simp only [vop, h.l.opd, h.r.opd]; done)

/-- What a step does to a state: the heap, the deferred calls, what is recovered; and one slot. -/
structure Eff where
  pan : Option AV
  heap : Heap
  dfs : List (Nat × List AV)
  rc : Option (Option AV)
  v : AV
def Eff.on (x : Eff) (dst : Option Nat) (st : St) : Option AV × St :=
  match x.pan with
  | some v => (some v, { st with heap := x.heap, dfs := x.dfs, rc := x.rc })
  | none => (none, { st with heap := x.heap, dfs := x.dfs, rc := x.rc }.put dst x.v)

section
variable {meth : Nat → String → Option Nat} {call : Nat → List AV → Heap → Option CR}

theorem landed_eff (st : St) (dst : Option Nat) (r : Option CR) {p : Option AV} {st' : St} (h : landed st dst r = some (p, st')) :
    ∃ x : Eff, (p, st') = x.on dst st ∧ ∀ e', landed { st with env := e' } dst r = some (x.on dst { st with env := e' }) := by
  cases r with
  | none => simp [landed] at h
  | some r =>
    cases r with
    | ret v H =>
      simp only [landed, Option.some.injEq, Prod.mk.injEq] at h
      obtain ⟨rfl, rfl⟩ := h
      exact ⟨⟨none, H, st.dfs, st.rc, v⟩, rfl, fun e' => rfl⟩
    | pan v H =>
      simp only [landed, Option.some.injEq, Prod.mk.injEq] at h
      obtain ⟨rfl, rfl⟩ := h
      exact ⟨⟨some v, H, st.dfs, st.rc, .any⟩, rfl, fun e' => rfl⟩

theorem step1_congr {s : ISt} {st st' : St} {p : Option AV} (h : step1 meth call s st = some (p, st')) : ∃ x : Eff, (p, st') = x.on s.dst st ∧ ∀ e', Agree s.op.temps st.env e' → step1 meth call s { st with env := e' } = some (x.on s.dst { st with env := e' }) := by
  by_cases hc : s.op.ctl = false ∨ ∃ x y, s.op = .xcon x y
  · rw [step1_vop hc] at h
    cases hv : vop s.op (Opd.ev st.env) st.heap with
    | none => simp [hv] at h
    | some q =>
      obtain ⟨v, H⟩ := q
      simp only [hv, Option.some.injEq, Prod.mk.injEq] at h
      obtain ⟨rfl, rfl⟩ := h
      refine ⟨⟨none, H, st.dfs, st.rc, v⟩, rfl, fun e' ha => ?_⟩
      rw [step1_vop hc]
      simp only [← vop_congr ha, hv]
      rfl
  · obtain ⟨dst, op, g⟩ := s
    simp only [not_or, Bool.not_eq_false] at hc
    cases op <;> try (simp [IOp.ctl] at hc; done)
    case call f args =>
      obtain ⟨x, h1, h2⟩ := landed_eff st dst _ h
      refine ⟨x, h1, fun e' ha => ?_⟩
      simp only [IOp.temps] at ha
      show landed { st with env := e' } dst (call f (args.map (Opd.ev e')) st.heap) = _
      rw [← ha.list]; exact h2 e'
    case callv y args =>
      simp only [step1] at h
      split at h
      · rename_i f first cap hy
        obtain ⟨x, h1, h2⟩ := landed_eff st dst _ h
        refine ⟨x, h1, fun e' ha => ?_⟩
        simp only [IOp.temps] at ha
        simp only [step1, ← ha.l.opd, hy, ← ha.r.list]
        exact h2 e'
      · simp at h
    case inv y m args =>
      simp only [step1] at h
      split at h
      · rename_i t v hy
        split at h
        · rename_i f hf
          obtain ⟨x, h1, h2⟩ := landed_eff st dst _ h
          refine ⟨x, h1, fun e' ha => ?_⟩
          simp only [IOp.temps] at ha
          simp only [step1, ← ha.l.opd, hy, hf, ← ha.r.list]
          exact h2 e'
        · simp at h
      · simp at h
    case dfr y args =>
      simp only [step1] at h
      split at h
      · rename_i f first cap hy
        simp only [Option.some.injEq, Prod.mk.injEq] at h
        obtain ⟨rfl, rfl⟩ := h
        refine ⟨⟨none, st.heap, (f, first ++ args.map (Opd.ev st.env) ++ cap) :: st.dfs, st.rc, .undef⟩, rfl, fun e' ha => ?_⟩
        simp only [IOp.temps] at ha
        simp only [step1, ← ha.l.opd, hy, ← ha.r.list]
        rfl
      · simp at h
    case pan y =>
      simp only [step1] at h
      split at h
      · rename_i t v hy
        simp only [Option.some.injEq, Prod.mk.injEq] at h
        obtain ⟨rfl, rfl⟩ := h
        refine ⟨⟨some (.iface t v), st.heap, st.dfs, st.rc, .any⟩, rfl, fun e' ha => ?_⟩
        simp only [IOp.temps] at ha
        simp only [step1, ← ha.opd, hy]
        rfl
      · simp at h
    case rcv =>
      simp only [step1] at h
      split at h
      · rename_i v hr
        simp only [Option.some.injEq, Prod.mk.injEq] at h
        obtain ⟨rfl, rfl⟩ := h
        refine ⟨⟨none, st.heap, st.dfs, some none, v⟩, rfl, fun e' ha => ?_⟩
        simp only [step1, hr]; rfl
      · rename_i hr
        simp only [Option.some.injEq, Prod.mk.injEq] at h
        obtain ⟨rfl, rfl⟩ := h
        refine ⟨⟨none, st.heap, st.dfs, st.rc, .nili⟩, rfl, fun e' ha => ?_⟩
        simp only [step1, hr]; rfl
      · simp at h

theorem stepG_congr {s : ISt} {st st' : St} {p : Option AV} (h : stepG meth call s st = some (p, st')) : ∃ x : Eff, (p, st') = x.on s.dst st ∧ ∀ e', Agree s.looks st.env e' → stepG meth call s { st with env := e' } = some (x.on s.dst { st with env := e' }) := by
  unfold stepG at h
  have gd : ∀ e', Agree s.looks st.env e' → blindA { st with env := e' } s.g = blindA st s.g ∧ wantedA { st with env := e' } s.g = wantedA st s.g := by
    intro e' ha
    have ha := ha.r
    cases hg : s.g with
    | none => exact ⟨rfl, rfl⟩
    | some q =>
      obtain ⟨t, want⟩ := q
      rw [hg] at ha
      have ht : st.env.at t = e'.at t := ha t (by simp)
      constructor
      · simp only [blindA, ht]
      · simp only [wantedA, ht]
  cases hb : blindA st s.g with
  | true => simp [hb] at h
  | false =>
    simp only [hb, cond_false] at h
    cases hw : wantedA st s.g with
    | true =>
      simp only [hw, cond_true] at h
      obtain ⟨x, h1, h2⟩ := step1_congr h
      refine ⟨x, h1, fun e' ha => ?_⟩
      unfold stepG
      rw [(gd e' ha).1, (gd e' ha).2, hb, hw]
      exact h2 e' ha.l
    | false =>
      simp only [hw, cond_false, Option.some.injEq, Prod.mk.injEq] at h
      obtain ⟨rfl, rfl⟩ := h
      refine ⟨⟨none, st.heap, st.dfs, st.rc, .undef⟩, rfl, fun e' ha => ?_⟩
      unfold stepG
      rw [(gd e' ha).1, (gd e' ha).2, hb, hw]
      rfl
end
end Go.Ab
