import Derived.Test.YtedlnhicaimhgaaGreatDoorAbRel
/-!
The two heaps side by side.
-/
namespace Go.Ab

def isLive : AObj → Bool
  | .dead => false
  | _ => true

/-- A block's cells, from an offset on. -/
def CellRel (β : Ren) (cs : List AV) (o : Nat) (c' : Array Value) : Prop :=
  o + cs.length ≤ c'.size ∧ ∀ (i : Nat) (x : AV), cs[i]? = some x → ∃ v, c'[o + i]? = some v ∧ V β x v

inductive ER (β : Ren) : List (AV × AV × Nat) → List MapEntry → Prop
  | nil : ER β [] []
  | cons {k v : AV} {b : Nat} {k' v' : Value} {l : List (AV × AV × Nat)} {l' : List MapEntry} (hk : V β k k') (hv : V β v v') (h : ER β l l') : ER β ((k, v, b) :: l) (⟨k', v', b⟩ :: l')

structure HR (w0 : World) (β : Ren) (H : Heap) (w : World) : Prop where
  lt : ∀ b r o, β b = some (r, o) → b < H.size ∧ r < w.heap.size
  cells : ∀ b cs t fl r o, H.get b = some (.cells cs t fl) → β b = some (r, o) → ∃ c' fz, w.heap[r]? = some (.cells c' t fz) ∧ CellRel β cs o c' ∧ (fl.frz = false → fz.2 ≤ fz.1) ∧ c'.size = β.sz b
  maps : ∀ b es k r o, H.get b = some (.map es k) → β b = some (r, o) → ∃ es', w.heap[r]? = some (.map es' k) ∧ ER β es es'.toList
  iters : ∀ b s pos r o, H.get b = some (.iter s pos) → β b = some (r, o) → o = 0 ∧ ∃ bs : ByteArray, w.heap[r]? = some (.stringIter bs pos) ∧ bs.data.toList.map (·.toNat) = s
  miters : ∀ b m r o, H.get b = some (.miter m) → β b = some (r, o) → o = 0 ∧ ∃ m' since last, β m = some (m', 0) ∧ w.heap[r]? = some (.mapIter (some m') since #[] last)
  sep : ∀ b1 b2 r o1 o2 x1 x2, b1 ≠ b2 → β b1 = some (r, o1) → β b2 = some (r, o2) → H.get b1 = some x1 → H.get b2 = some x2 → isLive x1 = true → isLive x2 = true →
    ∃ cs1 t1 f1 cs2 t2 f2, x1 = .cells cs1 t1 f1 ∧ x2 = .cells cs2 t2 f2 ∧ f1.fam = f2.fam ∧ f1.alone = false ∧ f2.alone = false ∧ (f1.tip = true → o2 + cs2.length ≤ o1 + cs1.length)
  tip1 : ∀ b1 b2 cs1 t1 f1 cs2 t2 f2, H.get b1 = some (.cells cs1 t1 f1) → H.get b2 = some (.cells cs2 t2 f2) → f1.fam = f2.fam → f1.tip = true → f2.tip = true → b1 = b2
  alone1 : ∀ b1 b2 cs1 t1 f1 cs2 t2 f2, H.get b1 = some (.cells cs1 t1 f1) → H.get b2 = some (.cells cs2 t2 f2) → f1.fam = f2.fam → f1.alone = true → b1 = b2
  famlt : ∀ b cs t fl, H.get b = some (.cells cs t fl) → fl.fam < H.size
  size : w0.heap.size ≤ w.heap.size
  frame : ∀ r, r < w0.heap.size → w.heap[r]? = w0.heap[r]?
  os : w.os = w0.os ∧ w.output = w0.output
  old : ∀ b r o x, β b = some (r, o) → r < w0.heap.size → H.get b = some x → isLive x = true → ∃ cs t fl, x = .cells cs t fl ∧ fl.frz = true
  exact : ∀ b cs t fl r o, H.get b = some (.cells cs t fl) → β b = some (r, o) → fl.ex = true → o = 0 ∧ β.sz b = cs.length

variable {w0 : World} {β : Ren} {H : Heap} {w : World}

theorem HR.drew (h : HR w0 β H w) : HR w0 β H { w with drawn := w.drawn + 1 } :=
  ⟨h.lt, h.cells, h.maps, h.iters, h.miters, h.sep, h.tip1, h.alone1, h.famlt, h.size, h.frame, h.os, h.old, h.exact⟩

/-- Some objects may fall. -/
theorem HR.weaken {H' : Heap} (h : HR w0 β H w) (hs : H'.size = H.size) (hg : ∀ b, H'.get b = H.get b ∨ H'.get b = some .dead) : HR w0 β H' w := by
  have g : ∀ b x, H'.get b = some x → isLive x = true → H.get b = some x := by
    intro b x hx hl
    rcases hg b with e | e
    · rw [← e]; exact hx
    · rw [e] at hx; cases hx; simp [isLive] at hl
  refine ⟨?_, ?_, ?_, ?_, ?_, ?_, ?_, ?_, ?_, h.size, h.frame, h.os, ?_, ?_⟩
  · intro b r o hb; rw [hs]; exact h.lt b r o hb
  · exact fun b cs t fl r o hx hb => h.cells b cs t fl r o (g _ _ hx rfl) hb
  · exact fun b es k r o hx hb => h.maps b es k r o (g _ _ hx rfl) hb
  · exact fun b s p r o hx hb => h.iters b s p r o (g _ _ hx rfl) hb
  · exact fun b m r o hx hb => h.miters b m r o (g _ _ hx rfl) hb
  · exact fun b1 b2 r o1 o2 x1 x2 hne hb1 hb2 h1 h2 l1 l2 => h.sep b1 b2 r o1 o2 x1 x2 hne hb1 hb2 (g _ _ h1 l1) (g _ _ h2 l2) l1 l2
  · exact fun b1 b2 cs1 t1 f1 cs2 t2 f2 h1 h2 => h.tip1 b1 b2 cs1 t1 f1 cs2 t2 f2 (g _ _ h1 rfl) (g _ _ h2 rfl)
  · exact fun b1 b2 cs1 t1 f1 cs2 t2 f2 h1 h2 => h.alone1 b1 b2 cs1 t1 f1 cs2 t2 f2 (g _ _ h1 rfl) (g _ _ h2 rfl)
  · intro b cs t fl hx; rw [hs]; exact h.famlt b cs t fl (g _ _ hx rfl)
  · exact fun b r o x hb hr hx hl => h.old b r o x hb hr (g _ _ hx hl) hl
  · exact fun b cs t fl r o hx hb => h.exact b cs t fl r o (g _ _ hx rfl) hb

theorem HR.congr {H' : Heap} (h : HR w0 β H w) (hs : H'.size = H.size) (hg : ∀ b, H'.get b = H.get b) : HR w0 β H' w := h.weaken hs fun b => .inl (hg b)

/-! ### Felling -/
theorem Heap.size_fell (fam b : Nat) : ∀ (n : Nat) (H : Heap), (Heap.fell fam b n H).size = H.size
  | 0, H => rfl
  | n + 1, H => by
    simp only [Heap.fell]
    split
    · cases (Nat.beq _ fam && !Nat.beq n b) <;> simp [Heap.size_put, Heap.size_fell fam b n H]
    · exact Heap.size_fell fam b n H
/-- It is one of those that fall. -/
def Falls (fam b n : Nat) (H : Heap) (c : Nat) : Prop := c < n ∧ c ≠ b ∧ ∃ cs t fl, H.get c = some (.cells cs t fl) ∧ fl.fam = fam
theorem Heap.get_fell (fam b : Nat) : ∀ (n : Nat) (H : Heap) (c : Nat),
    (Falls fam b n H c ∧ (Heap.fell fam b n H).get c = some .dead) ∨ (¬ Falls fam b n H c ∧ (Heap.fell fam b n H).get c = H.get c)
  | 0, H, c => .inr ⟨fun h => absurd h.1 (by omega), rfl⟩
  | n + 1, H, c => by
    have ih := Heap.get_fell fam b n H c
    have hsz := Heap.size_fell fam b n H
    have hstep : c ≠ n → (Falls fam b (n + 1) H c ↔ Falls fam b n H c) := fun hc => by
      unfold Falls
      constructor
      · rintro ⟨h1, h2⟩; exact ⟨by omega, h2⟩
      · rintro ⟨h1, h2⟩; exact ⟨by omega, h2⟩
    have hlast : ¬ Falls fam b n H n := fun h => absurd h.1 (by omega)
    have keep : (∀ cs t fl, H.get n = some (.cells cs t fl) → fl.fam ≠ fam ∨ n = b) → (Falls fam b (n + 1) H c ↔ Falls fam b n H c) := fun hk => by
      by_cases hc : c = n
      · subst hc
        refine ⟨fun ⟨_, h2, cs, t, fl, h3, h4⟩ => ?_, fun h => absurd h hlast⟩
        rcases hk cs t fl h3 with h | h
        · exact absurd h4 h
        · exact absurd h h2
      · exact hstep hc
    have hb : ∀ x y : Nat, Nat.beq x y = decide (x = y) := fun x y => by rw [Bool.eq_iff_iff]; simp
    simp only [Heap.fell]
    cases hn : H.get n with
    | none =>
      simp only []
      rw [keep (fun cs t fl h => by rw [hn] at h; cases h)]; exact ih
    | some x =>
      cases x with
      | cells cs t fl =>
        simp only []
        have hlt : n < (Heap.fell fam b n H).size := by rw [hsz]; exact Heap.get_lt hn
        rw [hb, hb]
        by_cases hf : fl.fam = fam
        · by_cases hnb : n = b
          · rw [show decide (n = b) = true from by simp [hnb]]
            simp only [Bool.not_true, Bool.and_false, cond_false]
            rw [keep (fun _ _ _ _ => .inr hnb)]; exact ih
          · simp only [hf, hnb, decide_true, decide_false, Bool.not_false, Bool.and_self, cond_true]
            rw [Heap.get_put]
            by_cases hc : c = n
            · subst hc
              rw [if_pos ⟨rfl, hlt⟩]
              exact .inl ⟨⟨by omega, hnb, cs, t, fl, hn, hf⟩, rfl⟩
            · rw [if_neg (by intro e; exact hc e.1), hstep hc]; exact ih
        · simp only [hf, decide_false, Bool.false_and, cond_false]
          rw [keep (fun cs' t' fl' h => by rw [hn] at h; cases h; exact .inl hf)]; exact ih
      | _ =>
        simp only []
        rw [keep (fun cs t fl h => by rw [hn] at h; cases h)]; exact ih

/-- Owned: the block is alone now. -/
theorem HR.own {b : Nat} {H' : Heap} {cs : List AV} {t : TypeId} {fl : Fl} (h : HR w0 β H w) (ho : H.own b = some (H', cs, t, fl)) :
    HR w0 β H' w ∧ H'.get b = some (.cells cs t fl) ∧ H'.size = H.size ∧ fl.tip = true ∧ fl.frz = false ∧ fl.alone = true ∧ (∃ fl0, H.get b = some (.cells cs t fl0)) := by
  unfold Heap.own at ho
  cases hb : H.get b with
  | none => simp [hb] at ho
  | some x =>
    cases x with
    | cells cs0 t0 fl0 =>
      simp only [hb] at ho
      cases htf : (fl0.tip && !fl0.frz) with
      | false => simp [htf] at ho
      | true =>
        simp only [htf, cond_true] at ho
        simp only [Bool.and_eq_true, Bool.not_eq_true'] at htf
        cases hal : fl0.alone with
        | true =>
          simp only [hal, cond_true, Option.some.injEq, Prod.mk.injEq] at ho
          obtain ⟨rfl, rfl, rfl, rfl⟩ := ho
          exact ⟨h, hb, rfl, htf.1, htf.2, hal, fl0, rfl⟩
        | false =>
          simp only [hal, cond_false, Option.some.injEq, Prod.mk.injEq] at ho
          obtain ⟨rfl, rfl, rfl, rfl⟩ := ho
          have hblt := Heap.get_lt hb
          have hW : HR w0 β (Heap.fell fl0.fam b H.size H) w := h.weaken (Heap.size_fell _ _ _ _) fun c => by
            rcases Heap.get_fell fl0.fam b H.size H c with ⟨_, e⟩ | ⟨_, e⟩
            · exact .inr e
            · exact .inl e
          have hg : ∀ c, ((Heap.fell fl0.fam b H.size H).put b (.cells cs0 t0 { fl0 with alone := true })).get c =
              if c = b then some (.cells cs0 t0 { fl0 with alone := true }) else (Heap.fell fl0.fam b H.size H).get c := by
            intro c; rw [Heap.get_put, Heap.size_fell]
            by_cases e : c = b <;> simp [e, hblt]
          have hother : ∀ c cs t f, c ≠ b → ((Heap.fell fl0.fam b H.size H).put b (.cells cs0 t0 { fl0 with alone := true })).get c = some (.cells cs t f) → H.get c = some (.cells cs t f) ∧ f.fam ≠ fl0.fam := by
            intro c cs t f hc hx
            rw [hg, if_neg hc] at hx
            rcases Heap.get_fell fl0.fam b H.size H c with ⟨_, e⟩ | ⟨hno, e⟩
            · rw [e] at hx; cases hx
            · rw [e] at hx
              exact ⟨hx, fun e => hno ⟨Heap.get_lt hx, hc, cs, t, f, hx, e⟩⟩
          have hlive : ∀ c x, c ≠ b → ((Heap.fell fl0.fam b H.size H).put b (.cells cs0 t0 { fl0 with alone := true })).get c = some x → isLive x = true → H.get c = some x := by
            intro c x hc hx hl
            rw [hg, if_neg hc] at hx
            rcases Heap.get_fell fl0.fam b H.size H c with ⟨_, e⟩ | ⟨_, e⟩
            · rw [e] at hx; cases hx; simp [isLive] at hl
            · rw [e] at hx; exact hx
          refine ⟨⟨?_, ?_, ?_, ?_, ?_, ?_, ?_, ?_, ?_, h.size, h.frame, h.os, ?_, ?_⟩, by rw [hg]; simp, by rw [Heap.size_put, Heap.size_fell], htf.1, htf.2, rfl, fl0, rfl⟩
          · intro c r o hc; rw [Heap.size_put, Heap.size_fell]; exact h.lt c r o hc
          · intro c cs t f r o hx hc
            by_cases e : c = b
            · subst e
              rw [hg, if_pos rfl] at hx; cases hx
              exact h.cells c cs0 t0 fl0 r o hb hc
            · exact h.cells c cs t f r o (hlive c _ e hx rfl) hc
          · intro c es k r o hx hc
            by_cases e : c = b
            · subst e; rw [hg, if_pos rfl] at hx; cases hx
            · exact h.maps c es k r o (hlive c _ e hx rfl) hc
          · intro c s p r o hx hc
            by_cases e : c = b
            · subst e; rw [hg, if_pos rfl] at hx; cases hx
            · exact h.iters c s p r o (hlive c _ e hx rfl) hc
          · intro c m r o hx hc
            by_cases e : c = b
            · subst e; rw [hg, if_pos rfl] at hx; cases hx
            · exact h.miters c m r o (hlive c _ e hx rfl) hc
          · intro b1 b2 r o1 o2 x1 x2 hne hb1 hb2 h1 h2 l1 l2
            by_cases e1 : b1 = b
            · subst e1
              have h2' := hlive b2 x2 (Ne.symm hne) h2 l2
              obtain ⟨_, _, f1, cs2, t2, f2, e1', e2', hfam, _⟩ := h.sep b1 b2 r o1 o2 _ x2 hne hb1 hb2 hb h2' rfl l2
              cases e1'
              rw [e2'] at h2
              exact absurd hfam.symm (hother b2 cs2 t2 f2 (Ne.symm hne) h2).2
            · by_cases e2 : b2 = b
              · subst e2
                have h1' := hlive b1 x1 e1 h1 l1
                obtain ⟨cs1, t1, f1, _, _, f2, e1', e2', hfam, _⟩ := h.sep b1 b2 r o1 o2 x1 _ hne hb1 hb2 h1' hb l1 rfl
                cases e2'
                rw [e1'] at h1
                exact absurd hfam (hother b1 cs1 t1 f1 hne h1).2
              · exact h.sep b1 b2 r o1 o2 x1 x2 hne hb1 hb2 (hlive _ _ e1 h1 l1) (hlive _ _ e2 h2 l2) l1 l2
          · intro b1 b2 cs1 t1 f1 cs2 t2 f2 h1 h2 hfam ht1 ht2
            by_cases e1 : b1 = b
            · by_cases e2 : b2 = b
              · rw [e1, e2]
              · subst e1; rw [hg, if_pos rfl] at h1; cases h1
                exact absurd hfam.symm (hother b2 cs2 t2 f2 e2 h2).2
            · by_cases e2 : b2 = b
              · subst e2; rw [hg, if_pos rfl] at h2; cases h2
                exact absurd hfam (hother b1 cs1 t1 f1 e1 h1).2
              · exact h.tip1 b1 b2 cs1 t1 f1 cs2 t2 f2 (hother _ _ _ _ e1 h1).1 (hother _ _ _ _ e2 h2).1 hfam ht1 ht2
          · intro b1 b2 cs1 t1 f1 cs2 t2 f2 h1 h2 hfam ha
            by_cases e1 : b1 = b
            · by_cases e2 : b2 = b
              · rw [e1, e2]
              · subst e1; rw [hg, if_pos rfl] at h1; cases h1
                exact absurd hfam.symm (hother b2 cs2 t2 f2 e2 h2).2
            · by_cases e2 : b2 = b
              · subst e2; rw [hg, if_pos rfl] at h2; cases h2
                exact absurd hfam (hother b1 cs1 t1 f1 e1 h1).2
              · exact h.alone1 b1 b2 cs1 t1 f1 cs2 t2 f2 (hother _ _ _ _ e1 h1).1 (hother _ _ _ _ e2 h2).1 hfam ha
          · intro c cs t f hx
            rw [Heap.size_put, Heap.size_fell]
            by_cases e : c = b
            · subst e; rw [hg, if_pos rfl] at hx; cases hx; exact h.famlt c cs0 t0 fl0 hb
            · exact h.famlt c cs t f (hother c cs t f e hx).1
          · intro c r o x hc hr hx hl
            by_cases e : c = b
            · subst e; rw [hg, if_pos rfl] at hx; cases hx
              obtain ⟨_, _, _, e', hz⟩ := h.old c r o _ hc hr hb rfl
              cases e'
              exact ⟨_, _, _, rfl, hz⟩
            · exact h.old c r o x hc hr (hlive c x e hx hl) hl
          · intro c cs t f r o hx hc hex
            by_cases e : c = b
            · subst e; rw [hg, if_pos rfl] at hx; cases hx
              exact h.exact c _ _ fl0 r o hb hc hex
            · exact h.exact c cs t f r o (hlive c _ e hx rfl) hc hex
    | _ => simp [hb] at ho
end Go.Ab
