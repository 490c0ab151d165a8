import Derived.Test.YtedlnhicaimhgaaGreatDoorAbDrw10
import Derived.Orders
/-!
The invariant of a region that draws its order.
-/
namespace Go.Ab
variable {P : Program} {n : Nat} {w0 : World} {meth : Nat → String → Option Nat} {call : Nat → List AV → Heap → Option CR}
variable {ops : Array Oper} {l : List DIt} {pre : Nat → List Nat} {N : Nat} {T : Nat → St} {e0 : Env} {β0 : Ren} {k0 : Nat}

/-- A new object on the other side alone. -/
theorem HR.junk {β : Ren} {H : Heap} {w : World} {ob : Obj} (h : HR w0 β H w) : HR w0 β H (w.alloc ob) := by
  have hold : ∀ r, r < w.heap.size → (w.alloc ob).heap[r]? = w.heap[r]? := fun r hr => alloc_old w ob hr
  have hsz : (w.alloc ob).heap.size = w.heap.size + 1 := World.size_alloc _ _
  refine ⟨?_, ?_, ?_, ?_, ?_, h.sep, h.tip1, h.alone1, h.famlt, by rw [hsz]; have := h.size; omega, ?_, h.os, h.old, h.exact⟩
  · intro c r o hc; rw [hsz]; have := h.lt c r o hc; omega
  · intro c cs t fl r o hc hcβ
    obtain ⟨c', fz, hw, hr⟩ := h.cells c cs t fl r o hc hcβ
    exact ⟨c', fz, by rw [hold r (h.lt _ _ _ hcβ).2]; exact hw, hr⟩
  · intro c es k r o hc hcβ
    obtain ⟨es', hw, hr⟩ := h.maps c es k r o hc hcβ
    exact ⟨es', by rw [hold r (h.lt _ _ _ hcβ).2]; exact hw, hr⟩
  · intro c s pos r o hc hcβ
    obtain ⟨ho, bs, hw, he⟩ := h.iters c s pos r o hc hcβ
    exact ⟨ho, bs, by rw [hold r (h.lt _ _ _ hcβ).2]; exact hw, he⟩
  · intro c m r o hc hcβ
    obtain ⟨ho, m', since, last, hm, hw⟩ := h.miters c m r o hc hcβ
    exact ⟨ho, m', since, last, hm, by rw [hold r (h.lt _ _ _ hcβ).2]; exact hw⟩
  · intro r hr; rw [hold r (by have := h.size; omega)]; exact h.frame r hr

def Ls (listed : Array Bool) (i : Nat) : Prop := listed.getD i false = true

structure EnvAt (l : List DIt) (listed : Array Bool) (e0 E F : Env) : Prop where
  on : ∀ (p : Nat) (it : DIt) (d : Nat), l[p]? = some it → it.s.dst = some d → Ls listed it.ix → E.at d = F.at d
  off : ∀ d, (∀ (p : Nat) (it : DIt), l[p]? = some it → it.s.dst = some d → ¬ Ls listed it.ix) → E.at d = e0.at d
  base : ∀ d, (∀ (p : Nat) (it : DIt), l[p]? = some it → it.s.dst ≠ some d) → F.at d = e0.at d

/-- What holds between two items; q: the first act that has not come, or what comes ahead of it. -/
structure Inv0 (P : Program) (n : Nat) (w0 : World) (ops : Array Oper) (l : List DIt) (N : Nat) (T : Nat → St) (e0 : Env) (β0 : Ren) (k0 : Nat) (listed : Array Bool) (q : Nat) (β : Ren) (E : Env) (a : Act) (w : World) : Prop where
  size : listed.size = ops.size
  closed : ∀ i, Ls listed i → ∀ j ∈ edgesAt ops i, Ls listed j
  le : q ≤ N
  acts : ∀ (p : Nat) (it : DIt), p < q → l[p]? = some it → it.eff = true → Ls listed it.ix
  ahead : ∀ (p : Nat) (it : DIt), l[p]? = some it → Ls listed it.ix → p < q
  env : EnvAt l listed e0 E (T q).env
  pend : ∀ (p : Nat) (it : DIt), p < q → l[p]? = some it → ¬ Ls listed it.ix → Pend (T q) it (T p).heap.size
  unborn : ∀ (p : Nat) (it : DIt), p < q → l[p]? = some it → ¬ Ls listed it.ix → β (T p).heap.size = none ∨ (T (p + 1)).heap.size = (T p).heap.size
  mono : ∀ p p', p ≤ p' → p' ≤ q → (T p).heap.size ≤ (T p').heap.size
  sr : SR P n w0 β { T q with env := E } a w
  ext : Ext β0 k0 β
  hk : k0 ≤ (T q).heap.size
  base0 : k0 ≤ (T 0).heap.size
  rc : ∀ (p : Nat) (it : DIt), l[p]? = some it → (T q).rc = none ∨ it.s.op ≠ .rcv

structure Inv (P : Program) (n : Nat) (w0 : World) (ops : Array Oper) (l : List DIt) (N : Nat) (T : Nat → St) (e0 : Env) (β0 : Ren) (k0 : Nat) (listed : Array Bool) (q : Nat) (β : Ren) (E : Env) (a : Act) (w : World) : Prop
    extends Inv0 P n w0 ops l N T e0 β0 k0 listed q β E a w where
  atq : ∀ it, l[q]? = some it → it.eff = true

/-- How the run ends. -/
def Ends (l : List DIt) (N : Nat) (T : Nat → St) (meth : Nat → String → Option Nat) (call : Nat → List AV → Heap → Option CR) : Prop :=
  N = l.length ∨ ∃ it v stv, l[N]? = some it ∧ it.eff = true ∧ stepG meth call it.s (T N) = some (some v, stv)

theorem SR.env_congr {β : Ren} {st : St} {a : Act} {w : World} {E' : Env} (h : SR P n w0 β st a w) (he : ∀ t, E'.at t = st.env.at t) : SR P n w0 β { st with env := E' } a w :=
  ⟨h.heap, h.glob, fun t => by show V β (E'.at t) _; rw [he t]; exact h.env t, h.size, h.dfs⟩

/-- What stands ahead of the next act comes in the run; nothing comes in the world. -/
theorem Inv0.advance (R : Reg0 P n ops l pre) (Tr : Trace0 meth call l N T) (hend : Ends l N T meth call) {listed : Array Bool} {β : Ren} {E : Env} {a : Act} {w : World} :
    ∀ (k q : Nat), l.length - q = k → Inv0 P n w0 ops l N T e0 β0 k0 listed q β E a w → ∃ q', q ≤ q' ∧ Inv P n w0 ops l N T e0 β0 k0 listed q' β E a w
  | k, q, hk, I => by
    cases hq : l[q]? with
    | none => exact ⟨q, Nat.le_refl _, { I with atq := fun it h => by rw [hq] at h; cases h }⟩
    | some b =>
      cases he : b.eff with
      | true => exact ⟨q, Nat.le_refl _, { I with atq := fun it h => by rw [hq] at h; cases h; exact he }⟩
      | false =>
        have hql : q < l.length := (List.getElem?_eq_some_iff.1 hq).1
        have hqN : q < N := by
          rcases Nat.lt_or_ge q N with h | h
          · exact h
          · have e : q = N := by have := I.le; omega
            rcases hend with h1 | ⟨it, v, stv, h1, h2, h3⟩
            · omega
            · rw [← e, hq] at h1; cases h1; rw [he] at h2; cases h2
        have hs := Tr.step q b hqN hq
        have hcat : catOf b.s.op ≠ .act := by
          intro h; rw [R.cat hq] at he; simp [h] at he
        have henv := stepG_env hs
        have hnL : ¬ Ls listed b.ix := fun h => Nat.lt_irrefl _ (I.ahead q b hq h)
        obtain ⟨hbl, hplain⟩ := step_plain hcat hs
        have hheap : (T (q + 1)).heap = (T q).heap ∨ ∃ t cs, (T (q + 1)).heap = (T q).heap.new t cs := by
          rcases hplain with ⟨_, v, H, hv, e⟩ | ⟨_, e⟩
          · rw [e, put_heap]
            cases hc : catOf b.s.op with
            | act => exact absurd hc hcat
            | quiet => exact .inl (vop_quiet hc hv).1
            | load => exact .inl (vop_load hc (R.lkp hq) hv).1
            | alloc =>
              obtain ⟨t, cs, h1, _⟩ := vop_alloc hc hv
              exact .inr ⟨t, cs, h1⟩
          · exact .inl (by rw [e, put_heap])
        have hdfs : (T (q + 1)).dfs = (T q).dfs := by
          rcases hplain with ⟨_, v, H, hv, e⟩ | ⟨_, e⟩ <;> rw [e] <;> cases b.s.dst <;> rfl
        have hrc : (T (q + 1)).rc = (T q).rc := by
          rcases hplain with ⟨_, v, H, hv, e⟩ | ⟨_, e⟩ <;> rw [e] <;> cases b.s.dst <;> rfl
        have hsz : (T q).heap.size ≤ (T (q + 1)).heap.size := by
          rcases hheap with e | ⟨t, cs, e⟩
          · rw [e]; exact Nat.le_refl _
          · rw [e]; unfold Heap.new; rw [Heap.size_push]; omega
        have hHR : HR w0 β (T (q + 1)).heap w := by
          have h0 : HR w0 β (T q).heap w := I.sr.heap
          rcases hheap with e | ⟨t, cs, e⟩
          · rw [e]; exact h0
          · rw [e]; exact h0.push_unborn (fun cs' t' fl' h => by cases h; rfl)
        have I1 : Inv0 P n w0 ops l N T e0 β0 k0 listed (q + 1) β E a w := by
          refine { size := I.size, closed := I.closed, le := hqN, acts := ?_, ahead := ?_, env := ?_, pend := ?_, unborn := ?_, mono := ?_, sr := ?_, ext := I.ext, hk := Nat.le_trans I.hk hsz, base0 := I.base0, rc := ?_ }
          · intro p it hp hit hie
            rcases Nat.lt_or_ge p q with h | h
            · exact I.acts p it h hit hie
            · have e : p = q := by omega
              subst e; rw [hq] at hit; cases hit; rw [he] at hie; cases hie
          · intro p it hit hL; have := I.ahead p it hit hL; omega
          · refine ⟨fun p it d hit hd hL => ?_, I.env.off, fun d hno => ?_⟩
            · rw [henv d (fun d' hd' e => ?_)]
              · exact I.env.on p it d hit hd hL
              · subst e
                have := R.dsts p it q b d hit hq hd hd'
                have := I.ahead p it hit hL
                omega
            · rw [henv d (fun d' hd' e => hno q b hq (e ▸ hd'))]; exact I.env.base d hno
          · intro p it hp hit hnl
            rcases Nat.lt_or_ge p q with h | h
            · have hic : catOf it.s.op ≠ .act := by
                intro hc; exact hnl (I.acts p it h hit (by rw [R.cat hit]; simp [hc]))
              exact pend_next R Tr hit hq h hqN hic (fun h => absurd h hcat) (I.pend p it h hit hnl)
            · have e : p = q := by omega
              subst e; rw [hq] at hit; cases hit
              exact pend_first R Tr hq hqN hcat
          · intro p it hp hit hnl
            rcases Nat.lt_or_ge p q with h | h
            · exact I.unborn p it h hit hnl
            · have e : p = q := by omega
              subst e
              exact .inl I.sr.heap.unborn_size
          · intro p p' hp hp'
            rcases Nat.lt_or_ge p' (q + 1) with h | h
            · exact I.mono p p' hp (by omega)
            · have e : p' = q + 1 := by omega
              subst e
              rcases Nat.lt_or_ge p (q + 1) with h' | h'
              · exact Nat.le_trans (I.mono p q (by omega) (Nat.le_refl _)) hsz
              · have : p = q + 1 := by omega
                subst this; exact Nat.le_refl _
          · exact ⟨hHR, I.sr.glob, I.sr.env, I.sr.size, by show DL β (T (q + 1)).dfs a.defers; rw [hdfs]; exact I.sr.dfs⟩
          · intro p it hit; rw [hrc]; exact I.rc p it hit
        obtain ⟨q', h1, h2⟩ := Inv0.advance R Tr hend (l.length - (q + 1)) (q + 1) rfl I1
        exact ⟨q', by omega, h2⟩
  termination_by k => k
  decreasing_by omega

/-- What is ready reads what the run holds. -/
theorem Inv0.agree (R : Reg0 P n ops l pre) {listed : Array Bool} {q : Nat} {β : Ren} {E : Env} {a : Act} {w : World} (I : Inv0 P n w0 ops l N T e0 β0 k0 listed q β E a w) {p : Nat} {it : DIt} (hp : l[p]? = some it)
    (hpre : ∀ j ∈ pre it.ix, Ls listed j) : Agree it.s.looks (T q).env E := by
  intro t ht
  by_cases hd : ∃ (r : Nat) (b : DIt), l[r]? = some b ∧ b.s.dst = some t
  · obtain ⟨r, b, hr, hb⟩ := hd
    exact (I.env.on r b t hr hb (hpre _ (R.reads p it t r b hp ht hr hb))).symm
  · have hno : ∀ (r : Nat) (b : DIt), l[r]? = some b → b.s.dst ≠ some t := fun r b hr hb => hd ⟨r, b, hr, hb⟩
    rw [I.env.base t hno, I.env.off t (fun r b hr hb => absurd hb (hno r b hr))]

theorem Ls_set {listed : Array Bool} {i j : Nat} (hi : i < listed.size) : Ls (listed.setIfInBounds i true) j ↔ j = i ∨ Ls listed j := by
  unfold Ls
  by_cases h : j = i
  · subst h; simp [hi]
  · rw [getD_set_ne false (Ne.symm h)]; simp [h]

theorem edges_of {i : Nat} {o : Oper} (h : ops[i]? = some o) : edgesAt ops i = edgesOf o := by
  unfold edgesAt nthL
  rw [List.getElem?_map, Array.getElem?_toList, h]; rfl

theorem ready_iff {listed : Array Bool} {i : Nat} (hs : listed.size = ops.size) : i ∈ Region.ready .any ops listed ↔ i < ops.size ∧ ¬ Ls listed i ∧ ∀ j ∈ edgesAt ops i, Ls listed j := by
  rw [mem_ready]
  constructor
  · rintro ⟨h1, o, ho, h2⟩
    have hi : i < ops.size := (Array.getElem?_eq_some_iff.1 ho).1
    refine ⟨hi, fun h => ?_, fun j hj => ?_⟩
    · unfold Ls at h
      simp only [Array.getD_eq_getD_getElem?] at h h1
      rw [Array.getElem?_eq_getElem (by omega)] at h h1
      simp only [Option.getD_some] at h h1
      rw [h] at h1; cases h1
    · rw [edges_of ho] at hj
      obtain ⟨e, he, rfl⟩ := List.mem_map.1 hj
      obtain ⟨h3, h4⟩ := List.mem_filter.1 he
      exact h2 e (Array.mem_toList_iff.1 h3) h4
  · rintro ⟨hi, h1, h2⟩
    obtain ⟨o, ho⟩ : ∃ o, ops[i]? = some o := ⟨_, Array.getElem?_eq_getElem hi⟩
    refine ⟨?_, o, ho, fun e he hb => ?_⟩
    · unfold Ls at h1
      simp only [Array.getD_eq_getD_getElem?] at h1 ⊢
      rw [Array.getElem?_eq_getElem (by omega)] at h1 ⊢
      simpa using h1
    · exact h2 e.on (by rw [edges_of ho]; exact List.mem_map.2 ⟨e, List.mem_filter.2 ⟨Array.mem_toList_iff.2 he, hb⟩, rfl⟩)
end Go.Ab
