import Derived.Test.YtedlnhicaimhgaaGreatDoorAbDrw3
import Derived.Test.YtedlnhicaimhgaaGreatDoorAbDrw6
/-!
What is still to come of a region, though it stands ahead.
-/
namespace Go.Ab
variable {P : Program} {n : Nat} {meth : Nat → String → Option Nat} {call : Nat → List AV → Heap → Option CR}

/-- An item that reads or computes, and has not come yet: it would still answer what the state holds for it. -/
def Pend (S : St) (it : DIt) (b : Nat) : Prop :=
  blindA S it.s.g = false ∧
  (wantedA S it.s.g = false → ∀ d, it.s.dst = some d → S.env.at d = .undef) ∧
  (wantedA S it.s.g = true →
    (catOf it.s.op ≠ .alloc → ∃ v, vop it.s.op (Opd.ev S.env) S.heap = some (v, S.heap) ∧ ∀ d, it.s.dst = some d → S.env.at d = v) ∧
    (catOf it.s.op = .alloc → ∃ H0 v H1, H0.size = b ∧ vop it.s.op (Opd.ev S.env) H0 = some (v, H1) ∧ ∀ d, it.s.dst = some d → S.env.at d = v ∧ S.heap.get H0.size = H1.get H0.size))

theorem flOk_mem {S : St} : ∀ {l : List ISt}, flOk S l = true → ∀ s ∈ l, wantedA S s.g = true → ∃ d v H', s.dst = some d ∧ vop s.op (Opd.ev S.env) S.heap = some (v, H') ∧ v = S.env.at d
  | [], _, s, h, _ => by simp at h
  | k :: l, h, s, hs, hw => by
    simp only [flOk, Bool.and_eq_true, Bool.or_eq_true, Bool.not_eq_true'] at h
    rcases List.mem_cons.1 hs with rfl | hs
    · rcases h.1 with h1 | h1
      · rw [hw] at h1; cases h1
      · split at h1
        · rename_i d v H' e1 e2
          exact ⟨d, v, H', e1, e2, AV.beq_eq _ _ h1⟩
        · simp at h1
    · exact flOk_mem h.2 s hs hw

theorem sameCells_eq {H H' : Heap} {b : Nat} (h : sameCells H H' b = true) : ∃ cs t fl, H.get b = some (.cells cs t fl) ∧ H'.get b = some (.cells cs t fl) := by
  unfold sameCells at h
  split at h
  · rename_i cs t fl cs' t' fl' e1 e2
    simp only [Bool.and_eq_true, Nat.beq_eq, Fl.beq, beq_iff_eq] at h
    obtain ⟨⟨h1, h2⟩, h3⟩ := h
    have e3 := AV.beqL_eq _ _ h1
    subst e3; subst h2
    have : fl = fl' := by
      obtain ⟨a, b, c, d, e⟩ := fl
      obtain ⟨a', b', c', d', e'⟩ := fl'
      simp only at h3
      obtain ⟨⟨⟨⟨q1, q2⟩, q3⟩, q4⟩, q5⟩ := h3
      subst q1; subst q2; subst q3; subst q4; subst q5; rfl
    subst this
    exact ⟨_, _, _, e1, e2⟩
  · simp at h

theorem faOk_mem {S S' : St} : ∀ {l : List Nat}, faOk S S' l = true → ∀ d ∈ l, (∃ b off, S'.env.at d = .ptr b off ∧ sameCells S.heap S'.heap b = true) ∨ (∃ b off k c sp, S'.env.at d = .sl b off k c sp ∧ sameCells S.heap S'.heap b = true) ∨ S'.env.at d = .undef
  | [], _, d, h => by simp at h
  | k :: l, h, d, hd => by
    simp only [faOk, Bool.and_eq_true] at h
    rcases List.mem_cons.1 hd with rfl | hd
    · have h1 := h.1
      split at h1
      · rename_i b off e; exact .inl ⟨b, off, e, h1⟩
      · rename_i b off k c sp e; exact .inr (.inl ⟨b, off, k, c, sp, e, h1⟩)
      · rename_i e; exact .inr (.inr e)
      · simp at h1
    · exact faOk_mem h.2 d hd
end Go.Ab
