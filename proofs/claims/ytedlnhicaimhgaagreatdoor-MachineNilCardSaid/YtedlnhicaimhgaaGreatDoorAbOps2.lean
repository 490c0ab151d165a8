import Derived.Test.YtedlnhicaimhgaaGreatDoorAbHeap3
/-!
Operation by operation, second part: fresh memory, parts, addresses, slices.
-/
namespace Go.Ab
variable {w0 : World} {β : Ren} {H H' : Heap} {w : World} {P : Program}

/-- An operation that answers a value, whatever it does to the heap. -/
def GoodV (P : Program) (w0 : World) (β : Ren) (H : Heap) (v : AV) (H' : Heap) (s : Sem Value) (w : World) : Prop :=
  ∃ β' v' w', Ext β H.size β' ∧ H.size ≤ H'.size ∧ HR w0 β' H' w' ∧ V β' v v' ∧ s.run P w = .ok v' w'
theorem GoodV.good {v : AV} {s : Sem Value} (h : GoodV P w0 β H v H' s w) : Good P w0 β H v H' (do pure (Next.value (← s)) : Sem Next) w := by
  obtain ⟨β', v', w', h1, h2, h3, h4, h5⟩ := h
  exact ⟨β', v', w', h1, h2, h3, h4, .inl (by simp [h5])⟩
theorem GoodV.same {v : AV} {v' : Value} {s : Sem Value} (h : HR w0 β H w) (hv : V β v v') (hs : s.run P w = .ok v' w) : GoodV P w0 β H v H s w :=
  ⟨β, v', w, Ext.refl _ _, Nat.le_refl _, h, hv, hs⟩

theorem cells_ne_any {a : AV} (h : a.cells.all AV.one = true) : a ≠ .any := fun e => by subst e; simp [AV.cells, AV.one] at h

theorem zeroC_spec {t : TypeId} {z : List AV} (h : zeroC P t = some z) : ∃ i zv a, P.info? t = some i ∧ i.zero = some zv ∧ absV zv = some a ∧ a.cells = z ∧ z.all AV.one = true ∧ z.length = i.size := by
  unfold zeroC at h
  cases hi : P.info? t with
  | none => simp [hi] at h
  | some i =>
    simp only [hi] at h
    cases hz : i.zero with
    | none => simp [hz] at h
    | some zv =>
      simp only [hz] at h
      cases ha : absV zv with
      | none => simp [ha] at h
      | some a =>
        simp only [ha] at h
        cases hc : (a.cells.all AV.one && Nat.beq a.cells.length i.size) with
        | false => simp [hc] at h
        | true =>
          simp only [hc, cond_true, Option.some.injEq] at h
          simp only [Bool.and_eq_true, Nat.beq_eq] at hc
          exact ⟨i, zv, a, rfl, hz, ha, h, h ▸ hc.1, h ▸ hc.2⟩
theorem run_zeroValue' {t : TypeId} {i : TypeInfo} {zv : Value} (hi : P.info? t = some i) (hz : i.zero = some zv) (w : World) : (zeroValue t).run P w = .ok zv w := by
  simp [zeroValue, run_typeInfo' hi, hz]

/-- New cells. -/
theorem newRow_good (h : HR w0 β H w) (t : TypeId) {cs : List AV} {c' : Array Value} (hc : CellRel β cs 0 c') (hl : c'.size = cs.length) :
    ∃ β', Ext β H.size β' ∧ HR w0 β' (H.new t cs) (w.alloc (.cells c' t (0, 0))) ∧ β' H.size = some (w.heap.size, 0) ∧ β'.sz H.size = c'.size ∧ (newRow t c').run P w = .ok ⟨w.heap.size, 0, none⟩ (w.alloc (.cells c' t (0, 0))) :=
  ⟨β.up H.size (w.heap.size, 0) c'.size, Ext.up β _ _ h.unborn_size (Nat.le_refl _), h.push c'.size ⟨c', (0, 0), rfl, hc, fun _ => Nat.le_refl _, rfl⟩ (fun _ _ _ e => by cases e; rfl) (fun _ _ _ e _ => by cases e; exact hl), Ren.up_same _ _ _ _, Ren.sz_same _ _ _ _, by simp [newRow]⟩
/-- The same, with room behind the cells. -/
theorem newRowA_good (h : HR w0 β H w) (t : TypeId) {cs : List AV} {c' : Array Value} (hc : CellRel β cs 0 c') :
    ∃ β', Ext β H.size β' ∧ HR w0 β' (H.newA t cs) (w.alloc (.cells c' t (0, 0))) ∧ β' H.size = some (w.heap.size, 0) ∧ β'.sz H.size = c'.size :=
  ⟨β.up H.size (w.heap.size, 0) c'.size, Ext.up β _ _ h.unborn_size (Nat.le_refl _), h.push c'.size ⟨c', (0, 0), rfl, hc, fun _ => Nat.le_refl _, rfl⟩ (fun _ _ _ e => by cases e; rfl) (fun _ _ _ e he => by cases e; simp at he), Ren.up_same _ _ _ _, Ren.sz_same _ _ _ _⟩
theorem VL.size {β : Ren} {cs : List AV} {c' : Array Value} (h : VL β cs c'.toList) : c'.size = cs.length := by have := h.length; simp at this; omega
theorem size_new (H : Heap) (t : TypeId) (cs : List AV) : (H.new t cs).size = H.size + 1 := rfl
theorem size_newA (H : Heap) (t : TypeId) (cs : List AV) : (H.newA t cs).size = H.size + 1 := rfl

theorem s_new (h : HR w0 β H w) {t : TypeId} {z : List AV} (hz : zeroC P t = some z) : GoodV P w0 β H (.ptr H.size 0) (H.new t z) (Instr.alloc t true (.tuple #[])) w := by
  obtain ⟨i, zv, a, hi, hz0, ha, rfl, hone, _⟩ := zeroC_spec hz
  have hV := (absV_sound (β := β) zv a ha).cells (cells_ne_any hone)
  obtain ⟨β', h1, h2, h3, _, h4⟩ := newRow_good (P := P) h t (CellRel.of_VL hV) hV.size
  exact ⟨β', _, _, h1, by rw [size_new]; omega, h2, by simpa using V.ptr (off := 0) h3, by simp [Instr.alloc, run_zeroValue' hi hz0, newVar, h4]⟩

theorem s_box (h : HR w0 β H w) {t : TypeId} {x : AV} {v : Value} (hx : V β x v) (hone : x.cells.all AV.one = true) : GoodV P w0 β H (.ptr H.size 0) (H.new t x.cells) (Instr.box t v) w := by
  obtain ⟨β', h1, h2, h3, _, h4⟩ := newRow_good (P := P) h t (CellRel.of_VL (hx.cells (cells_ne_any hone))) (hx.cells (cells_ne_any hone)).size
  exact ⟨β', _, _, h1, by rw [size_new]; omega, h2, by simpa using V.ptr (off := 0) h3, by simp [Instr.box, newVar, h4]⟩

/-! ### Parts laid into cells -/
def putV : List Value → Nat → List Value → List Value
  | cs, _, [] => cs
  | cs, i, v :: vs => putV (cs.set i v) (i + 1) vs
theorem putV_foldl : ∀ (l : List Value) (off k : Nat) (cs : Array Value), ((l.zipIdx k).foldl (fun (cs : Array Value) (p : Value × Nat) => cs.setIfInBounds (off + p.2) p.1) cs).toList = putV cs.toList (off + k) l
  | [], off, k, cs => by simp [putV]
  | v :: l, off, k, cs => by
    rw [List.zipIdx_cons, List.foldl_cons, putV_foldl l off (k + 1)]
    simp only [putV, Array.toList_setIfInBounds]
    rw [show off + (k + 1) = off + k + 1 from by omega]
theorem putAll_VL : ∀ {xs : List AV} {vs : List Value}, VL β xs vs → ∀ {cs : List AV} {cv : List Value} (i : Nat), VL β cs cv → VL β (putAll cs i xs) (putV cv i vs)
  | _, _, .nil, _, _, _, h => h
  | _, _, .cons hx hs, _, _, i, h => putAll_VL hs (i + 1) (h.set i hx)
theorem putAll_length : ∀ (xs cs : List AV) (i : Nat), (putAll cs i xs).length = cs.length
  | [], _, _ => rfl
  | x :: xs, cs, i => by simp [putAll, putAll_length xs]

theorem cParts_spec {place : Nat → Option (Nat × Nat)} : ∀ {l : List (Nat × Operand)} {l' : List (Nat × Nat × Opd)}, cParts P place l = some l' →
    l = [] ∧ l' = [] ∨ ∃ i x l1 off sz a l2, l = (i, x) :: l1 ∧ l' = (off, sz, a) :: l2 ∧ place i = some (off, sz) ∧ cOpd P x = some a ∧ cParts P place l1 = some l2
  | [], l', h => by simp [cParts] at h; subst h; exact .inl ⟨rfl, rfl⟩
  | (i, x) :: l, l', h => by
    simp only [cParts] at h
    split at h
    · rename_i off sz a r hp ha hr
      simp at h; subst h
      exact .inr ⟨i, x, l, off, sz, a, r, rfl, rfl, hp, ha, hr⟩
    · simp at h

theorem fill_sound {ev : Opd → AV} {ρ : Operand → Value} {place place' : Nat → Option (Nat × Nat)} (hpl : ∀ i x, place i = some x → place' i = some x) : ∀ (l : List (Nat × Operand)) (l' : List (Nat × Nat × Opd)) (cs cs' : List AV) (cv : Array Value),
    cParts P place l = some l' → (∀ p ∈ l, ∀ x', cOpd P p.2 = some x' → V β (ev x') (ρ p.2)) → VL β cs cv.toList → fillA cs (l'.map fun p => (p.1, p.2.1, ev p.2.2)) = some cs' →
    ∃ cv', Instr.fill place' cv (l.map fun p => (p.1, ρ p.2)) = some cv' ∧ VL β cs' cv'.toList ∧ (cs.all AV.one = true → cs'.all AV.one = true)
  | l, l', cs, cs', cv, hc, hev, hV, hf => by
    rcases cParts_spec hc with ⟨rfl, rfl⟩ | ⟨i, x, l1, off, sz, a, l2, rfl, rfl, hp, ha, hr⟩
    · simp only [List.map_nil, fillA, Option.some.injEq] at hf
      subst hf
      exact ⟨cv, by simp [Instr.fill], hV, fun h => h⟩
    · simp only [List.map_cons, fillA] at hf
      cases hcond : (Nat.beq (ev a).cells.length sz && Nat.ble (off + sz) cs.length && (ev a).cells.all AV.one) with
      | false => simp [hcond] at hf
      | true =>
        simp only [hcond, cond_true] at hf
        simp only [Bool.and_eq_true, Nat.beq_eq, Nat.ble_eq] at hcond
        obtain ⟨⟨hsz, hle⟩, hone⟩ := hcond
        have hx := hev (i, x) (by simp) a ha
        have hxc := hx.cells (cells_ne_any hone)
        have hl1 := hxc.length
        have hl2 := hV.length
        simp only [Array.length_toList] at hl1 hl2
        have hset : VL β (putAll cs off (ev a).cells) (((ρ x).cells.zipIdx.foldl (fun (cs : Array Value) (p : Value × Nat) => cs.setIfInBounds (off + p.2) p.1) cv)).toList := by
          have e : ((ρ x).cells.zipIdx.foldl (fun (cs : Array Value) (p : Value × Nat) => cs.setIfInBounds (off + p.2) p.1) cv).toList = putV cv.toList off (ρ x).cells.toList := by
            rw [← Array.foldl_toList, Array.toList_zipIdx]
            simpa using putV_foldl (ρ x).cells.toList off 0 cv
          rw [e]; exact putAll_VL hxc off hV
        obtain ⟨cv', h1, h2, h3⟩ := fill_sound hpl l1 l2 _ cs' _ hr (fun p hp' => hev p (by simp [hp'])) hset hf
        refine ⟨cv', ?_, h2, fun hall => h3 ?_⟩
        · simp only [List.map_cons, Instr.fill, hpl _ _ hp]
          rw [if_neg (by simp; omega)]
          exact h1
        · exact putAll_one _ _ _ hall hone
where
  putAll_one : ∀ (xs cs : List AV) (i : Nat), cs.all AV.one = true → xs.all AV.one = true → (putAll cs i xs).all AV.one = true
    | [], cs, i, h, _ => h
    | x :: xs, cs, i, h, hx => by
      simp only [List.all_cons, Bool.and_eq_true] at hx
      refine putAll_one xs (cs.set i x) (i + 1) ?_ hx.2
      rw [List.all_eq_true] at h ⊢
      intro y hy
      rcases List.mem_or_eq_of_mem_set hy with h1 | h1
      · exact h y h1
      · rw [h1]; exact hx.1
end Go.Ab
