import Derived.Test.YtedlnhicaimhgaaGreatDoorAbHeap
/-!
What the heap's operations do on both sides.
-/
namespace Go.Ab
variable {w0 : World} {β : Ren} {H : Heap} {w : World}

structure Ext (β : Ren) (n : Nat) (β' : Ren) : Prop where
  le : Ren.le β β'
  un : ∀ b, b < n → β b = none → β' b = none
theorem Ext.refl (β : Ren) (n : Nat) : Ext β n β := ⟨Ren.le_refl β, fun _ _ h => h⟩
theorem Ext.trans {a b c : Ren} {n m : Nat} (h : Ext a n b) (h' : Ext b m c) (hn : n ≤ m) : Ext a n c :=
  ⟨Ren.le_trans h.le h'.le, fun x hx e => h'.un x (by omega) (h.un x hx e)⟩

def Ren.up (β : Ren) (b : Nat) (x : Nat × Nat) (n : Nat) : Ren := ⟨fun c => if c = b then some x else β c, fun c => if c = b then n else β.sz c⟩
theorem Ren.up_same (β : Ren) (b : Nat) (x : Nat × Nat) (n : Nat) : (β.up b x n) b = some x := by simp [Ren.up]
theorem Ren.sz_same (β : Ren) (b : Nat) (x : Nat × Nat) (n : Nat) : (β.up b x n).sz b = n := by simp [Ren.up]
theorem Ren.sz_other (β : Ren) {b c : Nat} (x : Nat × Nat) (n : Nat) (h : c ≠ b) : (β.up b x n).sz c = β.sz c := by simp [Ren.up, h]
theorem Ren.up_other (β : Ren) {b c : Nat} (x : Nat × Nat) (n : Nat) (h : c ≠ b) : (β.up b x n) c = β c := by simp [Ren.up, h]
theorem Ren.le_up (β : Ren) {b : Nat} (x : Nat × Nat) (n : Nat) (h : β b = none) : Ren.le β (β.up b x n) := fun c y hc => by
  by_cases e : c = b
  · subst e; rw [h] at hc; cases hc
  · rw [Ren.up_other β x n e, Ren.sz_other β x n e]; exact ⟨hc, rfl⟩
theorem Ext.up (β : Ren) {b : Nat} (x : Nat × Nat) (N : Nat) (h : β b = none) {n : Nat} (hn : n ≤ b) : Ext β n (β.up b x N) :=
  ⟨Ren.le_up β x N h, fun c hc e => by rw [Ren.up_other β x N (by omega)]; exact e⟩

theorem CellRel.mono {β β' : Ren} (hb : Ren.le β β') {cs : List AV} {o : Nat} {c' : Array Value} (h : CellRel β cs o c') : CellRel β' cs o c' :=
  ⟨h.1, fun i x hx => let ⟨v, hv, hr⟩ := h.2 i x hx; ⟨v, hv, hr.mono hb⟩⟩
theorem ER.mono {β β' : Ren} (hb : Ren.le β β') : ∀ {l : List (AV × AV × Nat)} {l' : List MapEntry}, ER β l l' → ER β' l l'
  | _, _, .nil => .nil
  | _, _, .cons hk hv h => .cons (hk.mono hb) (hv.mono hb) (ER.mono hb h)
theorem CellRel.of_VL {β : Ren} {cs : List AV} {c' : Array Value} (h : VL β cs c'.toList) : CellRel β cs 0 c' := by
  refine ⟨by have := h.length; simp at this; omega, fun i x hx => ?_⟩
  obtain ⟨y, hy, hv⟩ := h.get hx
  exact ⟨y, by simpa using hy, hv⟩

/-- An object and its image. -/
def ObjRel (β : Ren) (x : AObj) (o n : Nat) (ob : Obj) : Prop :=
  match x with
  | .cells cs t fl => ∃ c' fz, ob = .cells c' t fz ∧ CellRel β cs o c' ∧ (fl.frz = false → fz.2 ≤ fz.1) ∧ c'.size = n
  | .map es k => ∃ es', ob = .map es' k ∧ ER β es es'.toList
  | .iter s pos => ∃ bs : ByteArray, ob = .stringIter bs pos ∧ bs.data.toList.map (·.toNat) = s
  | .miter m => ∃ m' since last, β m = some (m', 0) ∧ ob = .mapIter (some m') since #[] last
  | .dead => True

theorem alloc_new (w : World) (ob : Obj) : (w.alloc ob).heap[w.heap.size]? = some ob := by show (w.heap.push ob)[w.heap.size]? = _; simp
theorem alloc_old (w : World) (ob : Obj) {r : Nat} (h : r < w.heap.size) : (w.alloc ob).heap[r]? = w.heap[r]? := by
  show (w.heap.push ob)[r]? = _; rw [Array.getElem?_push, if_neg (by omega)]
theorem HR.unborn_size (h : HR w0 β H w) : β H.size = none := by
  cases e : β H.size with
  | none => rfl
  | some x => exact absurd (h.lt H.size x.1 x.2 e).1 (by omega)

/-- A new object on both sides. -/
theorem HR.push {x : AObj} {ob : Obj} (n : Nat) (h : HR w0 β H w) (hx : ObjRel β x 0 n ob) (hf : ∀ cs t fl, x = .cells cs t fl → fl.fam = H.size) (he : ∀ cs t fl, x = .cells cs t fl → fl.ex = true → n = cs.length) :
    HR w0 (β.up H.size (w.heap.size, 0) n) (H.push x) (w.alloc ob) := by
  have hle : Ren.le β (β.up H.size (w.heap.size, 0) n) := Ren.le_up β _ n h.unborn_size
  have hnew : (w.alloc ob).heap[w.heap.size]? = some ob := alloc_new w ob
  have hold : ∀ r, r < w.heap.size → (w.alloc ob).heap[r]? = w.heap[r]? := fun r hr => alloc_old w ob hr
  have hsz : (w.alloc ob).heap.size = w.heap.size + 1 := World.size_alloc _ _
  have hup : ∀ b r o, (β.up H.size (w.heap.size, 0) n) b = some (r, o) → (b = H.size ∧ r = w.heap.size ∧ o = 0) ∨ (b ≠ H.size ∧ β b = some (r, o) ∧ r < w.heap.size) := by
    intro b r o hb
    by_cases e : b = H.size
    · subst e; rw [Ren.up_same] at hb; cases hb; exact .inl ⟨rfl, rfl, rfl⟩
    · rw [Ren.up_other β _ n e] at hb; exact .inr ⟨e, hb, (h.lt b r o hb).2⟩
  have hg : ∀ b, b ≠ H.size → (H.push x).get b = H.get b := fun b e => by rw [Heap.get_push, if_neg e]
  have hgn : (H.push x).get H.size = some x := by rw [Heap.get_push, if_pos rfl]
  refine ⟨?_, ?_, ?_, ?_, ?_, ?_, ?_, ?_, ?_, by rw [hsz]; have := h.size; omega, ?_, h.os, ?_, ?_⟩
  · intro b r o hb
    rw [Heap.size_push, hsz]
    rcases hup b r o hb with ⟨rfl, rfl, rfl⟩ | ⟨_, hb', _⟩
    · omega
    · have := h.lt b r o hb'; omega
  · intro b cs t fl r o hb hβ
    rcases hup b r o hβ with ⟨rfl, rfl, rfl⟩ | ⟨e, hb', hr⟩
    · rw [hgn] at hb; cases hb
      obtain ⟨c', fz, rfl, hc, hz, hn⟩ := hx
      exact ⟨c', fz, hnew, hc.mono hle, hz, by rw [Ren.sz_same]; exact hn⟩
    · rw [hg b e] at hb
      obtain ⟨c', fz, hw, hc, hz, hn⟩ := h.cells b cs t fl r o hb hb'
      exact ⟨c', fz, by rw [hold r hr]; exact hw, hc.mono hle, hz, by rw [Ren.sz_other _ _ _ e]; exact hn⟩
  · intro b es k r o hb hβ
    rcases hup b r o hβ with ⟨rfl, rfl, rfl⟩ | ⟨e, hb', hr⟩
    · rw [hgn] at hb; cases hb
      obtain ⟨es', rfl, he⟩ := hx
      exact ⟨es', hnew, he.mono hle⟩
    · rw [hg b e] at hb
      obtain ⟨es', hw, he⟩ := h.maps b es k r o hb hb'
      exact ⟨es', by rw [hold r hr]; exact hw, he.mono hle⟩
  · intro b s pos r o hb hβ
    rcases hup b r o hβ with ⟨rfl, rfl, rfl⟩ | ⟨e, hb', hr⟩
    · rw [hgn] at hb; cases hb
      obtain ⟨bs, rfl, he⟩ := hx
      exact ⟨rfl, bs, hnew, he⟩
    · rw [hg b e] at hb
      obtain ⟨ho, bs, hw, he⟩ := h.iters b s pos r o hb hb'
      exact ⟨ho, bs, by rw [hold r hr]; exact hw, he⟩
  · intro b m r o hb hβ
    rcases hup b r o hβ with ⟨rfl, rfl, rfl⟩ | ⟨e, hb', hr⟩
    · rw [hgn] at hb; cases hb
      obtain ⟨m', since, last, hm, rfl⟩ := hx
      exact ⟨rfl, m', since, last, (hle _ _ hm).1, hnew⟩
    · rw [hg b e] at hb
      obtain ⟨ho, m', since, last, hm, hw⟩ := h.miters b m r o hb hb'
      exact ⟨ho, m', since, last, (hle _ _ hm).1, by rw [hold r hr]; exact hw⟩
  · intro b1 b2 r o1 o2 x1 x2 hne hb1 hb2 h1 h2 l1 l2
    rcases hup b1 r o1 hb1 with ⟨rfl, rfl, rfl⟩ | ⟨e1, hb1', hr1⟩
    · rcases hup b2 _ o2 hb2 with ⟨rfl, _, _⟩ | ⟨_, _, hr2⟩
      · exact absurd rfl hne
      · omega
    · rcases hup b2 r o2 hb2 with ⟨rfl, rfl, rfl⟩ | ⟨e2, hb2', _⟩
      · omega
      · rw [hg b1 e1] at h1; rw [hg b2 e2] at h2
        exact h.sep b1 b2 r o1 o2 x1 x2 hne hb1' hb2' h1 h2 l1 l2
  · intro b1 b2 cs1 t1 f1 cs2 t2 f2 h1 h2 hfam ht1 ht2
    by_cases e1 : b1 = H.size <;> by_cases e2 : b2 = H.size
    · rw [e1, e2]
    · subst e1; rw [hgn] at h1; rw [hg b2 e2] at h2; cases h1
      have := hf _ _ _ rfl; have := h.famlt b2 _ _ _ h2; omega
    · subst e2; rw [hgn] at h2; rw [hg b1 e1] at h1; cases h2
      have := hf _ _ _ rfl; have := h.famlt b1 _ _ _ h1; omega
    · rw [hg b1 e1] at h1; rw [hg b2 e2] at h2; exact h.tip1 b1 b2 _ _ _ _ _ _ h1 h2 hfam ht1 ht2
  · intro b1 b2 cs1 t1 f1 cs2 t2 f2 h1 h2 hfam ha
    by_cases e1 : b1 = H.size <;> by_cases e2 : b2 = H.size
    · rw [e1, e2]
    · subst e1; rw [hgn] at h1; rw [hg b2 e2] at h2; cases h1
      have := hf _ _ _ rfl; have := h.famlt b2 _ _ _ h2; omega
    · subst e2; rw [hgn] at h2; rw [hg b1 e1] at h1; cases h2
      have := hf _ _ _ rfl; have := h.famlt b1 _ _ _ h1; omega
    · rw [hg b1 e1] at h1; rw [hg b2 e2] at h2; exact h.alone1 b1 b2 _ _ _ _ _ _ h1 h2 hfam ha
  · intro b cs t fl hb
    rw [Heap.size_push]
    by_cases e : b = H.size
    · subst e; rw [hgn] at hb; cases hb; have := hf _ _ _ rfl; omega
    · rw [hg b e] at hb; have := h.famlt b _ _ _ hb; omega
  · intro r hr
    rw [hold r (by have := h.size; omega)]; exact h.frame r hr
  · intro b r o y hβ hr hb hl
    rcases hup b r o hβ with ⟨rfl, rfl, rfl⟩ | ⟨e, hb', _⟩
    · have := h.size; omega
    · rw [hg b e] at hb; exact h.old b r o y hb' hr hb hl
  · intro b cs t fl r o hb hβ hex
    rcases hup b r o hβ with ⟨rfl, rfl, rfl⟩ | ⟨e, hb', hr⟩
    · rw [hgn] at hb; cases hb
      exact ⟨rfl, by rw [Ren.sz_same]; exact he _ _ _ rfl hex⟩
    · rw [hg b e] at hb; rw [Ren.sz_other _ _ _ e]; exact h.exact b cs t fl r o hb hb' hex

/-- A new object on our side alone: nobody can reach it yet. -/
theorem HR.push_unborn {x : AObj} (h : HR w0 β H w) (hf : ∀ cs t fl, x = .cells cs t fl → fl.fam = H.size) : HR w0 β (H.push x) w := by
  have hne : ∀ b r o, β b = some (r, o) → b ≠ H.size := fun b r o hb e => by subst e; rw [h.unborn_size] at hb; cases hb
  have hg : ∀ b, b ≠ H.size → (H.push x).get b = H.get b := fun b e => by rw [Heap.get_push, if_neg e]
  have hgn : (H.push x).get H.size = some x := by rw [Heap.get_push, if_pos rfl]
  refine ⟨?_, ?_, ?_, ?_, ?_, ?_, ?_, ?_, ?_, h.size, h.frame, h.os, ?_, ?_⟩
  · intro b r o hb; rw [Heap.size_push]; have := h.lt b r o hb; omega
  · intro b cs t fl r o hb hβ; rw [hg b (hne _ _ _ hβ)] at hb; exact h.cells b cs t fl r o hb hβ
  · intro b es k r o hb hβ; rw [hg b (hne _ _ _ hβ)] at hb; exact h.maps b es k r o hb hβ
  · intro b s p r o hb hβ; rw [hg b (hne _ _ _ hβ)] at hb; exact h.iters b s p r o hb hβ
  · intro b m r o hb hβ; rw [hg b (hne _ _ _ hβ)] at hb; exact h.miters b m r o hb hβ
  · intro b1 b2 r o1 o2 x1 x2 hn hb1 hb2 h1 h2 l1 l2
    rw [hg b1 (hne _ _ _ hb1)] at h1; rw [hg b2 (hne _ _ _ hb2)] at h2
    exact h.sep b1 b2 r o1 o2 x1 x2 hn hb1 hb2 h1 h2 l1 l2
  · intro b1 b2 cs1 t1 f1 cs2 t2 f2 h1 h2 hfam ht1 ht2
    by_cases e1 : b1 = H.size <;> by_cases e2 : b2 = H.size
    · rw [e1, e2]
    · subst e1; rw [hgn] at h1; rw [hg b2 e2] at h2; cases h1
      have := hf _ _ _ rfl; have := h.famlt b2 _ _ _ h2; omega
    · subst e2; rw [hgn] at h2; rw [hg b1 e1] at h1; cases h2
      have := hf _ _ _ rfl; have := h.famlt b1 _ _ _ h1; omega
    · rw [hg b1 e1] at h1; rw [hg b2 e2] at h2; exact h.tip1 b1 b2 _ _ _ _ _ _ h1 h2 hfam ht1 ht2
  · intro b1 b2 cs1 t1 f1 cs2 t2 f2 h1 h2 hfam ha
    by_cases e1 : b1 = H.size <;> by_cases e2 : b2 = H.size
    · rw [e1, e2]
    · subst e1; rw [hgn] at h1; rw [hg b2 e2] at h2; cases h1
      have := hf _ _ _ rfl; have := h.famlt b2 _ _ _ h2; omega
    · subst e2; rw [hgn] at h2; rw [hg b1 e1] at h1; cases h2
      have := hf _ _ _ rfl; have := h.famlt b1 _ _ _ h1; omega
    · rw [hg b1 e1] at h1; rw [hg b2 e2] at h2; exact h.alone1 b1 b2 _ _ _ _ _ _ h1 h2 hfam ha
  · intro b cs t fl hb
    rw [Heap.size_push]
    by_cases e : b = H.size
    · subst e; rw [hgn] at hb; cases hb; have := hf _ _ _ rfl; omega
    · rw [hg b e] at hb; have := h.famlt b _ _ _ hb; omega
  · intro b r o y hβ hr hb hl; rw [hg b (hne _ _ _ hβ)] at hb; exact h.old b r o y hβ hr hb hl
  · intro b cs t fl r o hb hβ; rw [hg b (hne _ _ _ hβ)] at hb; exact h.exact b cs t fl r o hb hβ

/-- A block that was on our side alone is born. -/
theorem HR.born {b : Nat} {x : AObj} {ob : Obj} (n : Nat) (h : HR w0 β H w) (hb : H.get b = some x) (hβ : β b = none) (hx : ObjRel β x 0 n ob) (hex : ∀ cs t fl, x = .cells cs t fl → fl.ex = true → n = cs.length) :
    HR w0 (β.up b (w.heap.size, 0) n) H (w.alloc ob) := by
  have hle : Ren.le β (β.up b (w.heap.size, 0) n) := Ren.le_up β _ n hβ
  have hnew : (w.alloc ob).heap[w.heap.size]? = some ob := alloc_new w ob
  have hold : ∀ r, r < w.heap.size → (w.alloc ob).heap[r]? = w.heap[r]? := fun r hr => alloc_old w ob hr
  have hsz : (w.alloc ob).heap.size = w.heap.size + 1 := World.size_alloc _ _
  have hup : ∀ c r o, (β.up b (w.heap.size, 0) n) c = some (r, o) → (c = b ∧ r = w.heap.size ∧ o = 0) ∨ (c ≠ b ∧ β c = some (r, o) ∧ r < w.heap.size) := by
    intro c r o hc
    by_cases e : c = b
    · subst e; rw [Ren.up_same] at hc; cases hc; exact .inl ⟨rfl, rfl, rfl⟩
    · rw [Ren.up_other β _ n e] at hc; exact .inr ⟨e, hc, (h.lt c r o hc).2⟩
  refine ⟨?_, ?_, ?_, ?_, ?_, ?_, h.tip1, h.alone1, h.famlt, by rw [hsz]; have := h.size; omega, ?_, h.os, ?_, ?_⟩
  · intro c r o hc
    rw [hsz]
    rcases hup c r o hc with ⟨rfl, rfl, rfl⟩ | ⟨_, hc', _⟩
    · have := Heap.get_lt hb; omega
    · have := h.lt c r o hc'; omega
  · intro c cs t fl r o hc hcβ
    rcases hup c r o hcβ with ⟨rfl, rfl, rfl⟩ | ⟨e, hc', hr⟩
    · rw [hb] at hc; cases hc
      obtain ⟨c', fz, rfl, hcr, hz, hn⟩ := hx
      exact ⟨c', fz, hnew, hcr.mono hle, hz, by rw [Ren.sz_same]; exact hn⟩
    · obtain ⟨c', fz, hw, hcr, hz, hn⟩ := h.cells c cs t fl r o hc hc'
      exact ⟨c', fz, by rw [hold r hr]; exact hw, hcr.mono hle, hz, by rw [Ren.sz_other _ _ _ e]; exact hn⟩
  · intro c es k r o hc hcβ
    rcases hup c r o hcβ with ⟨rfl, rfl, rfl⟩ | ⟨e, hc', hr⟩
    · rw [hb] at hc; cases hc
      obtain ⟨es', rfl, he⟩ := hx
      exact ⟨es', hnew, he.mono hle⟩
    · obtain ⟨es', hw, he⟩ := h.maps c es k r o hc hc'
      exact ⟨es', by rw [hold r hr]; exact hw, he.mono hle⟩
  · intro c s pos r o hc hcβ
    rcases hup c r o hcβ with ⟨rfl, rfl, rfl⟩ | ⟨e, hc', hr⟩
    · rw [hb] at hc; cases hc
      obtain ⟨bs, rfl, he⟩ := hx
      exact ⟨rfl, bs, hnew, he⟩
    · obtain ⟨ho, bs, hw, he⟩ := h.iters c s pos r o hc hc'
      exact ⟨ho, bs, by rw [hold r hr]; exact hw, he⟩
  · intro c m r o hc hcβ
    rcases hup c r o hcβ with ⟨rfl, rfl, rfl⟩ | ⟨e, hc', hr⟩
    · rw [hb] at hc; cases hc
      obtain ⟨m', since, last, hm, rfl⟩ := hx
      exact ⟨rfl, m', since, last, (hle _ _ hm).1, hnew⟩
    · obtain ⟨ho, m', since, last, hm, hw⟩ := h.miters c m r o hc hc'
      exact ⟨ho, m', since, last, (hle _ _ hm).1, by rw [hold r hr]; exact hw⟩
  · intro b1 b2 r o1 o2 x1 x2 hne hb1 hb2 h1 h2 l1 l2
    rcases hup b1 r o1 hb1 with ⟨rfl, rfl, rfl⟩ | ⟨e1, hb1', hr1⟩
    · rcases hup b2 _ o2 hb2 with ⟨rfl, _, _⟩ | ⟨_, _, hr2⟩
      · exact absurd rfl hne
      · omega
    · rcases hup b2 r o2 hb2 with ⟨rfl, rfl, rfl⟩ | ⟨e2, hb2', _⟩
      · omega
      · exact h.sep b1 b2 r o1 o2 x1 x2 hne hb1' hb2' h1 h2 l1 l2
  · intro r hr
    rw [hold r (by have := h.size; omega)]; exact h.frame r hr
  · intro c r o y hcβ hr hc hl
    rcases hup c r o hcβ with ⟨rfl, rfl, rfl⟩ | ⟨e, hc', _⟩
    · have := h.size; omega
    · exact h.old c r o y hc' hr hc hl
  · intro c cs t fl r o hc hcβ hx'
    rcases hup c r o hcβ with ⟨rfl, rfl, rfl⟩ | ⟨e, hc', hr⟩
    · rw [hb] at hc; cases hc
      exact ⟨rfl, by rw [Ren.sz_same]; exact hex _ _ _ rfl hx'⟩
    · rw [Ren.sz_other _ _ _ e]; exact h.exact c cs t fl r o hc hc' hx'

/-- The world has turned at one block alone. -/
structure OnlyAt (w w' : World) (r : Nat) (ob : Obj) : Prop where
  size : w'.heap.size = w.heap.size
  at_ : w'.heap[r]? = some ob
  other : ∀ r', r' ≠ r → w'.heap[r']? = w.heap[r']?
  os : w'.os = w.os
  output : w'.output = w.output

/-- Two objects of one shape: what the other blocks' facts say of it stays. -/
def SameShape : AObj → AObj → Prop
  | .cells cs t fl, .cells cs' t' fl' => cs'.length = cs.length ∧ t' = t ∧ fl'.fam = fl.fam ∧ fl'.tip = fl.tip ∧ fl'.alone = fl.alone ∧ fl'.ex = fl.ex
  | .map _ _, .map _ _ => True
  | .iter _ _, .iter _ _ => True
  | .miter _, .miter _ => True
  | _, _ => False

/-- An object that has its place for itself turns on both sides. -/
theorem HR.upd {b : Nat} {x x' : AObj} {r o : Nat} {ob : Obj} {w' : World} (h : HR w0 β H w) (hb : H.get b = some x) (hβ : β b = some (r, o)) (hs : SameShape x x') (hl : isLive x = true)
    (hal : ∀ cs t fl, x = .cells cs t fl → fl.alone = true ∧ fl.frz = false) (hx : ObjRel β x' o (β.sz b) ob) (hw : OnlyAt w w' r ob) : HR w0 β (H.put b x') w' := by
  have hblt := Heap.get_lt hb
  have hg : ∀ c, (H.put b x').get c = if c = b then some x' else H.get c := fun c => by rw [Heap.get_put]; by_cases e : c = b <;> simp [e, hblt]
  have hr0 : w0.heap.size ≤ r := by
    rcases Nat.lt_or_ge r w0.heap.size with hlt | hge
    · obtain ⟨cs, t, fl, rfl, hz⟩ := h.old b r o x hβ hlt hb hl
      rw [(hal _ _ _ rfl).2] at hz; cases hz
    · exact hge
  have huniq : ∀ c oc y, c ≠ b → β c = some (r, oc) → H.get c = some y → isLive y = true → False := by
    intro c oc y hc hcβ hy hly
    obtain ⟨cs1, t1, f1, cs2, t2, f2, e1, e2, _, ha1, _⟩ := h.sep b c r o oc x y (Ne.symm hc) hβ hcβ hb hy hl hly
    rw [(hal _ _ _ e1).1] at ha1; cases ha1
  refine ⟨?_, ?_, ?_, ?_, ?_, ?_, ?_, ?_, ?_, by rw [hw.size]; exact h.size, ?_, by rw [hw.os, hw.output]; exact h.os, ?_, ?_⟩
  · intro c r' o' hc; rw [Heap.size_put, hw.size]; exact h.lt c r' o' hc
  · intro c cs t fl r' o' hc hcβ
    rw [hg] at hc
    by_cases e : c = b
    · subst e; rw [if_pos rfl] at hc; cases hc
      rw [hβ] at hcβ; cases hcβ
      obtain ⟨c', fz, rfl, hcr, hz, hn⟩ := hx
      exact ⟨c', fz, hw.at_, hcr, hz, hn⟩
    · rw [if_neg e] at hc
      have : r' ≠ r := fun e' => by subst e'; exact huniq c o' _ e hcβ hc rfl
      rw [hw.other r' this]; exact h.cells c cs t fl r' o' hc hcβ
  · intro c es k r' o' hc hcβ
    rw [hg] at hc
    by_cases e : c = b
    · subst e; rw [if_pos rfl] at hc; cases hc
      rw [hβ] at hcβ; cases hcβ
      obtain ⟨es', rfl, he⟩ := hx
      exact ⟨es', hw.at_, he⟩
    · rw [if_neg e] at hc
      have : r' ≠ r := fun e' => by subst e'; exact huniq c o' _ e hcβ hc rfl
      rw [hw.other r' this]; exact h.maps c es k r' o' hc hcβ
  · intro c s p r' o' hc hcβ
    rw [hg] at hc
    by_cases e : c = b
    · subst e; rw [if_pos rfl] at hc; cases hc
      rw [hβ] at hcβ; cases hcβ
      obtain ⟨bs, rfl, he⟩ := hx
      refine ⟨?_, bs, hw.at_, he⟩
      cases x <;> simp only [SameShape] at hs <;> try exact hs.elim
      exact (h.iters _ _ _ _ _ hb hβ).1
    · rw [if_neg e] at hc
      have : r' ≠ r := fun e' => by subst e'; exact huniq c o' _ e hcβ hc rfl
      rw [hw.other r' this]; exact h.iters c s p r' o' hc hcβ
  · intro c m r' o' hc hcβ
    rw [hg] at hc
    by_cases e : c = b
    · subst e; rw [if_pos rfl] at hc; cases hc
      rw [hβ] at hcβ; cases hcβ
      obtain ⟨m', since, last, hm, rfl⟩ := hx
      refine ⟨?_, m', since, last, hm, hw.at_⟩
      cases x <;> simp only [SameShape] at hs <;> try exact hs.elim
      exact (h.miters _ _ _ _ hb hβ).1
    · rw [if_neg e] at hc
      have : r' ≠ r := fun e' => by subst e'; exact huniq c o' _ e hcβ hc rfl
      obtain ⟨ho, m', since, last, hm, hww⟩ := h.miters c m r' o' hc hcβ
      exact ⟨ho, m', since, last, hm, by rw [hw.other r' this]; exact hww⟩
  · intro b1 b2 r' o1 o2 x1 x2 hne hb1 hb2 h1 h2 l1 l2
    rw [hg] at h1 h2
    by_cases e1 : b1 = b
    · subst e1
      rw [if_neg (Ne.symm hne)] at h2
      rw [hβ] at hb1; cases hb1
      exact (huniq b2 o2 x2 (Ne.symm hne) hb2 h2 l2).elim
    · rw [if_neg e1] at h1
      by_cases e2 : b2 = b
      · subst e2
        rw [hβ] at hb2; cases hb2
        exact (huniq b1 o1 x1 hne hb1 h1 l1).elim
      · rw [if_neg e2] at h2
        exact h.sep b1 b2 r' o1 o2 x1 x2 hne hb1 hb2 h1 h2 l1 l2
  · intro b1 b2 cs1 t1 f1 cs2 t2 f2 h1 h2 hfam ht1 ht2
    rw [hg] at h1 h2
    by_cases e1 : b1 = b
    · by_cases e2 : b2 = b
      · rw [e1, e2]
      · subst e1; rw [if_pos rfl] at h1; rw [if_neg e2] at h2; cases h1
        cases x <;> simp only [SameShape] at hs <;> try exact hs.elim
        exact h.tip1 _ b2 _ _ _ _ _ _ hb h2 (by rw [← hs.2.2.1]; exact hfam) (by rw [← hs.2.2.2.1]; exact ht1) ht2
    · rw [if_neg e1] at h1
      by_cases e2 : b2 = b
      · subst e2; rw [if_pos rfl] at h2; cases h2
        cases x <;> simp only [SameShape] at hs <;> try exact hs.elim
        exact h.tip1 b1 _ _ _ _ _ _ _ h1 hb (by rw [← hs.2.2.1]; exact hfam) ht1 (by rw [← hs.2.2.2.1]; exact ht2)
      · rw [if_neg e2] at h2; exact h.tip1 b1 b2 _ _ _ _ _ _ h1 h2 hfam ht1 ht2
  · intro b1 b2 cs1 t1 f1 cs2 t2 f2 h1 h2 hfam ha
    rw [hg] at h1 h2
    by_cases e1 : b1 = b
    · by_cases e2 : b2 = b
      · rw [e1, e2]
      · subst e1; rw [if_pos rfl] at h1; rw [if_neg e2] at h2; cases h1
        cases x <;> simp only [SameShape] at hs <;> try exact hs.elim
        exact h.alone1 _ b2 _ _ _ _ _ _ hb h2 (by rw [← hs.2.2.1]; exact hfam) (by rw [← hs.2.2.2.2.1]; exact ha)
    · rw [if_neg e1] at h1
      by_cases e2 : b2 = b
      · subst e2; rw [if_pos rfl] at h2; cases h2
        cases x <;> simp only [SameShape] at hs <;> try exact hs.elim
        exact h.alone1 b1 _ _ _ _ _ _ _ h1 hb (by rw [← hs.2.2.1]; exact hfam) ha
      · rw [if_neg e2] at h2; exact h.alone1 b1 b2 _ _ _ _ _ _ h1 h2 hfam ha
  · intro c cs t fl hc
    rw [hg] at hc; rw [Heap.size_put]
    by_cases e : c = b
    · subst e; rw [if_pos rfl] at hc; cases hc
      cases x <;> simp only [SameShape] at hs <;> try exact hs.elim
      rw [hs.2.2.1]; exact h.famlt c _ _ _ hb
    · rw [if_neg e] at hc; exact h.famlt c cs t fl hc
  · intro r' hr'
    rw [hw.other r' (by omega)]; exact h.frame r' hr'
  · intro c r' o' y hcβ hr' hc hly
    rw [hg] at hc
    by_cases e : c = b
    · subst e; rw [hβ] at hcβ; cases hcβ; omega
    · rw [if_neg e] at hc; exact h.old c r' o' y hcβ hr' hc hly
  · intro c cs t fl r' o' hc hcβ hex
    rw [hg] at hc
    by_cases e : c = b
    · subst e; rw [if_pos rfl] at hc; cases hc
      cases x <;> simp only [SameShape] at hs <;> try exact hs.elim
      have := h.exact c _ _ _ r' o' hb hcβ (by rw [← hs.2.2.2.2.2]; exact hex)
      rw [hs.1]; exact this
    · rw [if_neg e] at hc; exact h.exact c cs t fl r' o' hc hcβ hex
end Go.Ab
