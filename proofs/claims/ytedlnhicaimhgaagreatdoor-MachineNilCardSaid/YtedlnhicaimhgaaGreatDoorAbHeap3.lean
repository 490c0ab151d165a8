import Derived.Test.YtedlnhicaimhgaaGreatDoorAbOps1
/-!
An 'append' that had no room that is known: the new block is its family's newest, wherever it lies on the other side.
-/
namespace Go.Ab
variable {w0 : World} {β : Ren} {H H' : Heap} {w w' : World} {P : Program}

def Fl.elder (fl : Fl) : Fl := { fl with tip := false, alone := false }
def Fl.newest (fl : Fl) : Fl := { fl with tip := true, alone := false, ex := false }

/-- The heap behind it. -/
def Heap.extend (H : Heap) (b : Nat) (cs : List AV) (t : TypeId) (fl : Fl) (cs2 : List AV) : Heap := (H.put b (.cells cs t fl.elder)).push (.cells cs2 t fl.newest)

theorem Heap.get_extend {b : Nat} {cs cs2 : List AV} {t : TypeId} {fl : Fl} (hb : b < H.size) (c : Nat) :
    (H.extend b cs t fl cs2).get c = if c = H.size then some (.cells cs2 t fl.newest) else if c = b then some (.cells cs t fl.elder) else H.get c := by
  unfold Heap.extend
  rw [Heap.get_push, Heap.size_put, Heap.get_put]
  by_cases e : c = H.size
  · simp [e]
  · by_cases e2 : c = b <;> simp [e, e2, hb]
theorem Heap.size_extend {b : Nat} {cs cs2 : List AV} {t : TypeId} {fl : Fl} : (H.extend b cs t fl cs2).size = H.size + 1 := by
  unfold Heap.extend; rw [Heap.size_push, Heap.size_put]

/-- What the abstract side alone has to show. -/
theorem extend_tips (h : HR w0 β H w) {b : Nat} {cs cs2 : List AV} {t : TypeId} {fl : Fl} (hb : H.get b = some (.cells cs t fl)) (ht : fl.tip = true) :
    (∀ b1 b2 cs1 t1 f1 cs2' t2 f2, (H.extend b cs t fl cs2).get b1 = some (.cells cs1 t1 f1) → (H.extend b cs t fl cs2).get b2 = some (.cells cs2' t2 f2) → f1.fam = f2.fam → f1.tip = true → f2.tip = true → b1 = b2) ∧
    (∀ b1 b2 cs1 t1 f1 cs2' t2 f2, (H.extend b cs t fl cs2).get b1 = some (.cells cs1 t1 f1) → (H.extend b cs t fl cs2).get b2 = some (.cells cs2' t2 f2) → f1.fam = f2.fam → f1.alone = true → b1 = b2) ∧
    (∀ c cs1 t1 f1, (H.extend b cs t fl cs2).get c = some (.cells cs1 t1 f1) → f1.fam < (H.extend b cs t fl cs2).size) := by
  have hlt := Heap.get_lt hb
  have cases3 : ∀ c cs1 t1 f1, (H.extend b cs t fl cs2).get c = some (.cells cs1 t1 f1) →
      (c = H.size ∧ f1 = fl.newest) ∨ (c ≠ H.size ∧ c = b ∧ f1 = fl.elder) ∨ (c ≠ H.size ∧ c ≠ b ∧ H.get c = some (.cells cs1 t1 f1)) := by
    intro c cs1 t1 f1 hc
    rw [Heap.get_extend hlt] at hc
    by_cases e : c = H.size
    · rw [if_pos e] at hc; cases hc; exact .inl ⟨e, rfl⟩
    · rw [if_neg e] at hc
      by_cases e2 : c = b
      · rw [if_pos e2] at hc; cases hc; exact .inr (.inl ⟨e, e2, rfl⟩)
      · rw [if_neg e2] at hc; exact .inr (.inr ⟨e, e2, hc⟩)
  refine ⟨?_, ?_, ?_⟩
  · intro b1 b2 cs1 t1 f1 cs2' t2 f2 h1 h2 hfam ht1 ht2
    rcases cases3 b1 _ _ _ h1 with ⟨e1, rfl⟩ | ⟨_, e1, rfl⟩ | ⟨n1, m1, g1⟩
    · rcases cases3 b2 _ _ _ h2 with ⟨e2, rfl⟩ | ⟨_, e2, rfl⟩ | ⟨n2, m2, g2⟩
      · rw [e1, e2]
      · simp [Fl.elder] at ht2
      · exact absurd (h.tip1 b b2 _ _ _ _ _ _ hb g2 hfam ht ht2).symm m2
    · simp [Fl.elder] at ht1
    · rcases cases3 b2 _ _ _ h2 with ⟨e2, rfl⟩ | ⟨_, e2, rfl⟩ | ⟨n2, m2, g2⟩
      · exact absurd (h.tip1 b1 b _ _ _ _ _ _ g1 hb hfam ht1 ht) m1
      · simp [Fl.elder] at ht2
      · exact h.tip1 b1 b2 _ _ _ _ _ _ g1 g2 hfam ht1 ht2
  · intro b1 b2 cs1 t1 f1 cs2' t2 f2 h1 h2 hfam ha
    rcases cases3 b1 _ _ _ h1 with ⟨e1, rfl⟩ | ⟨_, e1, rfl⟩ | ⟨n1, m1, g1⟩
    · simp [Fl.newest] at ha
    · simp [Fl.elder] at ha
    · rcases cases3 b2 _ _ _ h2 with ⟨e2, rfl⟩ | ⟨_, e2, rfl⟩ | ⟨n2, m2, g2⟩
      · exact absurd (h.alone1 b1 b _ _ _ _ _ _ g1 hb hfam ha) m1
      · exact absurd (h.alone1 b1 b _ _ _ _ _ _ g1 hb hfam ha) m1
      · exact h.alone1 b1 b2 _ _ _ _ _ _ g1 g2 hfam ha
  · intro c cs1 t1 f1 hc
    rw [Heap.size_extend]
    rcases cases3 c _ _ _ hc with ⟨e1, rfl⟩ | ⟨_, e1, rfl⟩ | ⟨n1, m1, g1⟩
    · have := h.famlt b _ _ _ hb; simp [Fl.newest]; omega
    · have := h.famlt b _ _ _ hb; simp [Fl.elder]; omega
    · have := h.famlt c _ _ _ g1; omega

/-- The new block lies at a place (r2, o2) where it meets no block but its own family's; every old block reads as it did. -/
theorem HR.extendAt (h : HR w0 β H w) {b : Nat} {cs cs2 : List AV} {t : TypeId} {fl : Fl} (hb : H.get b = some (.cells cs t fl)) (ht : fl.tip = true) (hz : fl.frz = false)
    (r2 o2 n2 : Nat) (hr2 : w0.heap.size ≤ r2) (hr2' : r2 < w'.heap.size) (hsz : w.heap.size ≤ w'.heap.size) (hos : w'.os = w.os ∧ w'.output = w.output)
    (hsame : ∀ r', r' < w.heap.size → r' ≠ r2 → w'.heap[r']? = w.heap[r']?)
    (hnew : ∃ c' fz, w'.heap[r2]? = some (.cells c' t fz) ∧ CellRel (β.up H.size (r2, o2) n2) cs2 o2 c' ∧ fz.2 ≤ fz.1 ∧ c'.size = n2)
    (hold : ∀ c x o, β c = some (r2, o) → H.get c = some x → isLive x = true → ∃ ca ta fa ra oa, x = .cells ca ta fa ∧ fa.fam = fl.fam ∧ (c ≠ b → fa.alone = false) ∧ β b = some (ra, oa) ∧ o + ca.length ≤ o2 + cs2.length ∧
      ∃ c' fz, w'.heap[r2]? = some (.cells c' ta fz) ∧ CellRel β ca o c' ∧ (fa.frz = false → fz.2 ≤ fz.1) ∧ c'.size = β.sz c) :
    HR w0 (β.up H.size (r2, o2) n2) (H.extend b cs t fl cs2) w' := by
  have hlt := Heap.get_lt hb
  have hle : Ren.le β (β.up H.size (r2, o2) n2) := Ren.le_up β _ n2 h.unborn_size
  have hup : ∀ c r o, (β.up H.size (r2, o2) n2) c = some (r, o) → (c = H.size ∧ r = r2 ∧ o = o2) ∨ (c ≠ H.size ∧ β c = some (r, o) ∧ r < w.heap.size) := by
    intro c r o hc
    by_cases e : c = H.size
    · subst e; rw [Ren.up_same] at hc; cases hc; exact .inl ⟨rfl, rfl, rfl⟩
    · rw [Ren.up_other β _ n2 e] at hc; exact .inr ⟨e, hc, (h.lt c r o hc).2⟩
  have hgn : (H.extend b cs t fl cs2).get H.size = some (.cells cs2 t fl.newest) := by rw [Heap.get_extend hlt, if_pos rfl]
  have hgb : (H.extend b cs t fl cs2).get b = some (.cells cs t fl.elder) := by rw [Heap.get_extend hlt, if_neg (by omega), if_pos rfl]
  have hgo : ∀ c, c ≠ H.size → c ≠ b → (H.extend b cs t fl cs2).get c = H.get c := fun c e1 e2 => by rw [Heap.get_extend hlt, if_neg e1, if_neg e2]
  -- an old block's object, before
  have hbefore : ∀ c x, c ≠ H.size → (H.extend b cs t fl cs2).get c = some x → ∃ y, H.get c = some y ∧ (isLive x = isLive y) ∧ (∀ ca ta fa, x = .cells ca ta fa → ∃ fa', y = .cells ca ta fa' ∧ fa.fam = fa'.fam ∧ (fa.frz = fa'.frz ∧ fa.ex = fa'.ex) ∧ (fa.alone = true → fa'.alone = true ∧ c ≠ b) ∧ (fa.tip = true → fa'.tip = true ∧ c ≠ b)) ∧ (c ≠ b → x = y) := by
    intro c x e hx
    by_cases e2 : c = b
    · subst e2; rw [hgb] at hx; cases hx
      exact ⟨_, hb, rfl, fun ca ta fa e => by cases e; exact ⟨fl, rfl, rfl, ⟨rfl, rfl⟩, fun h => by simp [Fl.elder] at h, fun h => by simp [Fl.elder] at h⟩, fun h => absurd rfl h⟩
    · rw [hgo c e e2] at hx
      exact ⟨x, hx, rfl, fun ca ta fa e => ⟨fa, e, rfl, ⟨rfl, rfl⟩, fun h => ⟨h, e2⟩, fun h => ⟨h, e2⟩⟩, fun _ => rfl⟩
  obtain ⟨tp1, tp2, tp3⟩ := extend_tips h (cs2 := cs2) hb ht
  refine ⟨?_, ?_, ?_, ?_, ?_, ?_, tp1, tp2, tp3, by have := h.size; omega, ?_, by rw [hos.1, hos.2]; exact h.os, ?_, ?_⟩
  · intro c r o hc
    rw [Heap.size_extend]
    rcases hup c r o hc with ⟨rfl, rfl, rfl⟩ | ⟨_, hc', hr⟩
    · omega
    · have := h.lt c r o hc'; omega
  · intro c ca ta fa r o hc hcβ
    rcases hup c r o hcβ with ⟨rfl, rfl, rfl⟩ | ⟨e, hc', hr⟩
    · rw [hgn] at hc; cases hc
      obtain ⟨c', fz, g1, g2, g3, g4⟩ := hnew
      exact ⟨c', fz, g1, g2, fun _ => g3, by rw [Ren.sz_same]; exact g4⟩
    · obtain ⟨y, hy, _, hcell, _⟩ := hbefore c _ e hc
      obtain ⟨fa', rfl, _, ⟨hfz, _⟩, _⟩ := hcell _ _ _ rfl
      by_cases er : r = r2
      · subst er
        obtain ⟨_, _, _, _, _, e1, _, _, _, _, c', fz, g1, g2, g3, g4⟩ := hold c _ o hc' hy rfl
        cases e1
        exact ⟨c', fz, g1, g2.mono hle, fun h0 => g3 (hfz ▸ h0), by rw [Ren.sz_other _ _ _ e]; exact g4⟩
      · obtain ⟨c', fz, g1, g2, g3, g4⟩ := h.cells c _ _ _ r o hy hc'
        exact ⟨c', fz, by rw [hsame r hr er]; exact g1, g2.mono hle, fun h0 => g3 (hfz ▸ h0), by rw [Ren.sz_other _ _ _ e]; exact g4⟩
  · intro c es k r o hc hcβ
    rcases hup c r o hcβ with ⟨rfl, rfl, rfl⟩ | ⟨e, hc', hr⟩
    · rw [hgn] at hc; cases hc
    · have e2 : c ≠ b := fun e2 => by subst e2; rw [hgb] at hc; cases hc
      rw [hgo c e e2] at hc
      have er : r ≠ r2 := fun er => by subst er; obtain ⟨_, _, _, _, _, e1, _⟩ := hold c _ o hc' hc rfl; cases e1
      obtain ⟨es', g1, g2⟩ := h.maps c es k r o hc hc'
      exact ⟨es', by rw [hsame r hr er]; exact g1, g2.mono hle⟩
  · intro c s p r o hc hcβ
    rcases hup c r o hcβ with ⟨rfl, rfl, rfl⟩ | ⟨e, hc', hr⟩
    · rw [hgn] at hc; cases hc
    · have e2 : c ≠ b := fun e2 => by subst e2; rw [hgb] at hc; cases hc
      rw [hgo c e e2] at hc
      have er : r ≠ r2 := fun er => by subst er; obtain ⟨_, _, _, _, _, e1, _⟩ := hold c _ o hc' hc rfl; cases e1
      obtain ⟨ho, bs, g1, g2⟩ := h.iters c s p r o hc hc'
      exact ⟨ho, bs, by rw [hsame r hr er]; exact g1, g2⟩
  · intro c m r o hc hcβ
    rcases hup c r o hcβ with ⟨rfl, rfl, rfl⟩ | ⟨e, hc', hr⟩
    · rw [hgn] at hc; cases hc
    · have e2 : c ≠ b := fun e2 => by subst e2; rw [hgb] at hc; cases hc
      rw [hgo c e e2] at hc
      have er : r ≠ r2 := fun er => by subst er; obtain ⟨_, _, _, _, _, e1, _⟩ := hold c _ o hc' hc rfl; cases e1
      obtain ⟨ho, m', since, last, g0, g1⟩ := h.miters c m r o hc hc'
      exact ⟨ho, m', since, last, (hle _ _ g0).1, by rw [hsame r hr er]; exact g1⟩
  · intro b1 b2 r o1 o2' x1 x2 hne hb1 hb2 h1 h2 l1 l2
    rcases hup b1 r o1 hb1 with ⟨rfl, rfl, rfl⟩ | ⟨e1, hb1', hr1⟩
    · rw [hgn] at h1; cases h1
      rcases hup b2 r o2' hb2 with ⟨rfl, _, _⟩ | ⟨e2, hb2', hr2⟩
      · exact absurd rfl hne
      · obtain ⟨y, hy, hly, hcell, hyb⟩ := hbefore b2 x2 e2 h2
        obtain ⟨ca, ta, fa, ra, oa, rfl, hfam, hal, _, hend, _⟩ := hold b2 y o2' hb2' hy (hly ▸ l2)
        by_cases eb : b2 = b
        · subst eb; rw [hgb] at h2; cases h2; rw [hb] at hy; cases hy
          exact ⟨_, _, _, _, _, _, rfl, rfl, rfl, rfl, rfl, fun _ => hend⟩
        · rw [hyb eb]
          exact ⟨_, _, _, _, _, _, rfl, rfl, hfam.symm, rfl, hal eb, fun _ => hend⟩
    · obtain ⟨y1, hy1, hly1, hcell1, hyb1⟩ := hbefore b1 x1 e1 h1
      rcases hup b2 r o2' hb2 with ⟨rfl, rfl, rfl⟩ | ⟨e2, hb2', hr2⟩
      · rw [hgn] at h2; cases h2
        obtain ⟨ca, ta, fa, ra, oa, rfl, hfam, hal, _, hend, _⟩ := hold b1 y1 o1 hb1' hy1 (hly1 ▸ l1)
        by_cases eb : b1 = b
        · subst eb; rw [hgb] at h1; cases h1; rw [hb] at hy1; cases hy1
          exact ⟨_, _, _, _, _, _, rfl, rfl, rfl, rfl, rfl, fun h => by simp [Fl.elder] at h⟩
        · rw [hyb1 eb]
          refine ⟨_, _, _, _, _, _, rfl, rfl, hfam, hal eb, rfl, fun htip => ?_⟩
          exact absurd (h.tip1 b1 b _ _ _ _ _ _ hy1 hb hfam htip ht) eb
      · obtain ⟨y2, hy2, hly2, hcell2, hyb2⟩ := hbefore b2 x2 e2 h2
        obtain ⟨cs1, t1, f1, cs2', t2, f2, rfl, rfl, hfam, ha1, ha2, hend⟩ := h.sep b1 b2 r o1 o2' y1 y2 hne hb1' hb2' hy1 hy2 (hly1 ▸ l1) (hly2 ▸ l2)
        by_cases eb1 : b1 = b
        · subst eb1; rw [hgb] at h1; cases h1; rw [hb] at hy1; cases hy1
          have eb2 : b2 ≠ b1 := Ne.symm hne
          rw [hyb2 eb2]
          exact ⟨_, _, _, _, _, _, rfl, rfl, hfam, rfl, ha2, fun h => by simp [Fl.elder] at h⟩
        · rw [hyb1 eb1]
          by_cases eb2 : b2 = b
          · subst eb2; rw [hgb] at h2; cases h2; rw [hb] at hy2; cases hy2
            exact ⟨_, _, _, _, _, _, rfl, rfl, hfam, ha1, rfl, hend⟩
          · rw [hyb2 eb2]
            exact ⟨_, _, _, _, _, _, rfl, rfl, hfam, ha1, ha2, hend⟩
  · intro r hr
    rw [hsame r (by have := h.size; omega) (by omega)]; exact h.frame r hr
  · intro c r o x hcβ hr hc hl
    rcases hup c r o hcβ with ⟨rfl, rfl, rfl⟩ | ⟨e, hc', _⟩
    · omega
    · obtain ⟨y, hy, hly, hcell, hyb⟩ := hbefore c x e hc
      obtain ⟨ca, ta, fa, rfl, hz'⟩ := h.old c r o y hc' hr hy (hly ▸ hl)
      by_cases eb : c = b
      · subst eb; rw [hb] at hy; cases hy; rw [hz] at hz'; cases hz'
      · rw [hyb eb]; exact ⟨ca, ta, fa, rfl, hz'⟩
  · intro c ca ta fa r o hc hcβ hex
    rcases hup c r o hcβ with ⟨rfl, rfl, rfl⟩ | ⟨e, hc', hr⟩
    · rw [hgn] at hc; cases hc; simp [Fl.newest] at hex
    · obtain ⟨y, hy, _, hcell, _⟩ := hbefore c _ e hc
      obtain ⟨fa', rfl, _, ⟨_, hxe⟩, _⟩ := hcell _ _ _ rfl
      rw [Ren.sz_other _ _ _ e]
      exact h.exact c _ _ _ r o hy hc' (hxe ▸ hex)
end Go.Ab
