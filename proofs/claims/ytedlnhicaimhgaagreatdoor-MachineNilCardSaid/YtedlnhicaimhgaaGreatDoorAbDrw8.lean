import Derived.Test.YtedlnhicaimhgaaGreatDoorAbDrw7
namespace Go.Ab
variable {P : Program} {n : Nat} {meth : Nat → String → Option Nat} {call : Nat → List AV → Heap → Option CR}

theorem eff_env {x : Eff} {dst : Option Nat} {st st' : St} (h : (none, st') = x.on dst st) : x.pan = none ∧ st'.heap = x.heap ∧ st'.dfs = x.dfs ∧ st'.rc = x.rc ∧ (∀ t, (∀ d, dst = some d → t ≠ d) → st'.env.at t = st.env.at t) ∧ (∀ d, dst = some d → st'.env.at d = x.v) := by
  unfold Eff.on at h
  cases hp : x.pan with
  | some v => rw [hp] at h; simp at h
  | none =>
    rw [hp] at h
    simp only [Prod.mk.injEq, true_and] at h
    subst h
    cases dst with
    | none => exact ⟨rfl, rfl, rfl, rfl, fun t _ => rfl, fun d h => by cases h⟩
    | some d =>
      refine ⟨rfl, rfl, rfl, rfl, fun t ht => ?_, fun d' h => ?_⟩
      · simp only [St.put, Env.at_set]; rw [if_neg (ht d rfl)]
      · cases h; simp only [St.put, Env.at_set, if_true]

theorem stepG_env {s : ISt} {st st' : St} (h : stepG meth call s st = some (none, st')) : ∀ t, (∀ d, s.dst = some d → t ≠ d) → st'.env.at t = st.env.at t := by
  obtain ⟨x, h1, _⟩ := stepG_congr h
  exact (eff_env h1).2.2.2.2.1

theorem cat_ctl {o : IOp} (h : catOf o ≠ .act) : o.ctl = false := by
  cases o <;> first | rfl | exact absurd rfl h

/-- What an item that is no act does. -/
theorem step_plain {s : ISt} {st st' : St} (hc : catOf s.op ≠ .act) (h : stepG meth call s st = some (none, st')) : blindA st s.g = false ∧
    ((wantedA st s.g = true ∧ ∃ v H, vop s.op (Opd.ev st.env) st.heap = some (v, H) ∧ st' = { st with heap := H }.put s.dst v) ∨ (wantedA st s.g = false ∧ st' = st.put s.dst .undef)) := by
  unfold stepG at h
  cases hb : blindA st s.g with
  | true => simp [hb] at h
  | false =>
    refine ⟨rfl, ?_⟩
    simp only [hb, cond_false] at h
    cases hw : wantedA st s.g with
    | false =>
      simp only [hw, cond_false, Option.some.injEq, Prod.mk.injEq, true_and] at h
      exact .inr ⟨rfl, h.symm⟩
    | true =>
      simp only [hw, cond_true] at h
      rw [step1_vop (.inl (cat_ctl hc))] at h
      cases hv : vop s.op (Opd.ev st.env) st.heap with
      | none => simp [hv] at h
      | some q =>
        obtain ⟨v, H⟩ := q
        simp only [hv, Option.some.injEq, Prod.mk.injEq, true_and] at h
        exact .inl ⟨rfl, v, H, rfl, h.symm⟩

theorem guard_congr {st st' : St} {s : ISt} (h : ∀ t ∈ s.looks, st'.env.at t = st.env.at t) : blindA st' s.g = blindA st s.g ∧ wantedA st' s.g = wantedA st s.g := by
  cases hg : s.g with
  | none => exact ⟨rfl, rfl⟩
  | some q =>
    obtain ⟨t, want⟩ := q
    have ht : st'.env.at t = st.env.at t := h t (by simp [ISt.looks, hg])
    constructor
    · simp only [blindA, ht]
    · simp only [wantedA, ht]
theorem looks_agree {st st' : St} {s : ISt} (h : ∀ t ∈ s.looks, st'.env.at t = st.env.at t) : Agree s.op.temps st'.env st.env := fun t ht => h t (by simp [ISt.looks, ht])

theorem put_heap (st : St) (d : Option Nat) (v : AV) : (st.put d v).heap = st.heap := by cases d <;> rfl

theorem more_refl (H : Heap) : Heap.More H H := fun _ _ h => h
theorem more_new (H : Heap) (t : TypeId) (cs : List AV) : Heap.More H (H.new t cs) := fun b o h => by
  unfold Heap.new; rw [Heap.get_push, if_neg (by have := Heap.get_lt h; omega)]; exact h

/-- An item that is no act only adds to the heap. -/
theorem plain_more {s : ISt} {st st' : St} (hk : ∀ kt z ok x i, s.op = .lkp kt z ok x i → kt.plain = true) (hc : catOf s.op ≠ .act) (h : stepG meth call s st = some (none, st')) : Heap.More st.heap st'.heap := by
  obtain ⟨_, ⟨_, v, H, hv, rfl⟩ | ⟨_, rfl⟩⟩ := step_plain hc h
  · rw [put_heap]
    cases hcat : catOf s.op with
    | act => exact absurd hcat hc
    | quiet => rw [(vop_quiet hcat hv).1]; exact more_refl _
    | load => rw [(vop_load hcat hk hv).1]; exact more_refl _
    | alloc =>
      obtain ⟨t, cs, rfl, _⟩ := vop_alloc hcat hv
      exact more_new _ _ _
  · rw [put_heap]; exact more_refl _

def LkpOk (s : ISt) : Prop := ∀ kt z ok x i, s.op = .lkp kt z ok x i → kt.plain = true
end Go.Ab
