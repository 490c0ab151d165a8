import Derived.Test.YtedlnhicaimhgaaGreatDoorAbComp
/-!
What the static checks of a region say.
-/
namespace Go.Ab

theorem memN_iff {i : Nat} : ∀ {l : List Nat}, memN i l = true ↔ i ∈ l
  | [] => by simp [memN]
  | j :: l => by
    have hb : Nat.beq i j = decide (i = j) := by rw [Bool.eq_iff_iff]; simp
    simp [memN, hb, memN_iff]
theorem mem_ded {i : Nat} : ∀ {l : List Nat}, i ∈ ded l → i ∈ l
  | [], h => by simp [ded] at h
  | j :: l, h => by
    simp only [ded] at h
    cases hm : memN j (ded l) with
    | true => rw [hm] at h; exact List.mem_cons_of_mem _ (mem_ded h)
    | false =>
      rw [hm] at h
      rcases List.mem_cons.1 h with rfl | h
      · simp
      · exact List.mem_cons_of_mem _ (mem_ded h)

theorem nthL_append_left {a b : List (List Nat)} {i : Nat} (h : i < a.length) : nthL (a ++ b) i = nthL a i := by
  unfold nthL; rw [List.getElem?_append_left h]
theorem nthL_lt {a : List (List Nat)} {i j : Nat} (h : j ∈ nthL a i) : i < a.length := by
  unfold nthL at h
  cases hx : a[i]? with
  | none => rw [hx] at h; simp at h
  | some x => exact (List.getElem?_eq_some_iff.1 hx).1

/-- What stands ahead: an edge, or ahead of an edge. -/
def PreInv (all acc : List (List Nat)) : Prop := ∀ i j, j ∈ nthL acc i → j ∈ nthL all i ∨ ∃ k ∈ nthL all i, k < i ∧ j ∈ nthL acc k

theorem predsGo_inv : ∀ (es pfx acc : List (List Nat)), pfx.length = acc.length → PreInv (pfx ++ es) acc → PreInv (pfx ++ es) (predsGo es acc)
  | [], _, _, _, h => h
  | e :: es, pfx, acc, hl, h => by
    have key := predsGo_inv es (pfx ++ [e]) (acc ++ [ded (e ++ e.flatMap (nthL acc))]) (by simp [hl])
    rw [List.append_assoc, List.singleton_append] at key
    refine key fun i j hj => ?_
    have hi := nthL_lt hj
    simp only [List.length_append, List.length_cons, List.length_nil] at hi
    by_cases hlt : i < acc.length
    · rw [nthL_append_left hlt] at hj
      rcases h i j hj with h1 | ⟨k, h1, h2, h3⟩
      · exact .inl h1
      · exact .inr ⟨k, h1, h2, by rw [nthL_append_left (nthL_lt h3)]; exact h3⟩
    · have hi' : i = acc.length := by omega
      subst hi'
      have e1 : nthL (acc ++ [ded (e ++ e.flatMap (nthL acc))]) acc.length = ded (e ++ e.flatMap (nthL acc)) := by simp [nthL]
      have e2 : nthL (pfx ++ e :: es) acc.length = e := by rw [← hl]; simp [nthL]
      rw [e1] at hj
      rw [e2]
      rcases List.mem_append.1 (mem_ded hj) with h1 | h1
      · exact .inl h1
      · obtain ⟨k, hk, hk2⟩ := List.mem_flatMap.1 h1
        exact .inr ⟨k, hk, nthL_lt hk2, by rw [nthL_append_left (nthL_lt hk2)]; exact hk2⟩

/-- A set that holds what its members' edges hold holds all that stands ahead of them. -/
theorem pre_closed {edges : List (List Nat)} {L : Nat → Prop} (hL : ∀ i, L i → ∀ j ∈ nthL edges i, L j) : ∀ (i : Nat), (∀ j ∈ nthL edges i, L j) → ∀ j ∈ nthL (predsGo edges []) i, L j := by
  have inv : PreInv edges (predsGo edges []) := predsGo_inv edges [] [] rfl (fun i j h => by simp [nthL] at h)
  intro i
  induction i using Nat.strongRecOn with
  | _ i ih =>
    intro he j hj
    rcases inv i j hj with h1 | ⟨k, h1, h2, h3⟩
    · exact he j h1
    · exact ih k h2 (hL k (he k h1)) j h3

theorem mkD_get (sts : List ISt) (pre : List (List Nat)) : ∀ (order done : List Nat) (p : Nat) (it : DIt), (mkD sts pre done order)[p]? = some it →
    ∃ i, order[p]? = some i ∧ it = mkIt sts pre (done ++ order.take p) i (order.drop (p + 1))
  | [], _, _, _, h => by simp [mkD] at h
  | i :: order, done, 0, it, h => by
    simp only [mkD, List.getElem?_cons_zero, Option.some.injEq] at h
    exact ⟨i, by simp, by simp [← h]⟩
  | i :: order, done, p + 1, it, h => by
    simp only [mkD, List.getElem?_cons_succ] at h
    obtain ⟨j, h1, h2⟩ := mkD_get sts pre order (done ++ [i]) p it h
    exact ⟨j, by simpa using h1, by rw [h2]; simp⟩
theorem mkD_length (sts : List ISt) (pre : List (List Nat)) : ∀ (order done : List Nat), (mkD sts pre done order).length = order.length
  | [], _ => rfl
  | i :: order, done => by simp [mkD, mkD_length sts pre order]

theorem chainOk_get (sts : List ISt) (pre : List (List Nat)) : ∀ (order done : List Nat), chainOk sts pre done order = true → ∀ (p i : Nat), order[p]? = some i →
    i ∉ done ++ order.take p ∧ (∀ j ∈ nthL pre i, j ∈ done ++ order.take p) ∧
    (∀ r j, (done ++ order.take p)[r]? = some j → isCat sts .act j = true → j ∈ nthL pre i ∨ (order.drop (p + 1) = [] ∧ r + 1 = (done ++ order.take p).length ∧ isSt sts i = true ∧ isSt sts j = true))
  | [], _, _, _, _, h => by simp at h
  | k :: order, done, hc, p, i, h => by
    simp only [chainOk, Bool.and_eq_true] at hc
    obtain ⟨⟨⟨h1, h2⟩, h3⟩, h4⟩ := hc
    cases p with
    | zero =>
      simp only [List.getElem?_cons_zero, Option.some.injEq] at h
      subst h
      simp only [List.take_zero, List.append_nil]
      refine ⟨?_, ?_, ?_⟩
      · intro hm; rw [memN_iff.2 hm] at h1; simp at h1
      · intro j hj; exact memN_iff.1 (List.all_eq_true.1 h3 j hj)
      · intro r j hr hact
        have := List.all_eq_true.1 h2 (j, r) (List.mem_zipIdx_iff_getElem?.2 (by simpa using hr))
        simp only [hact, Bool.not_true, Bool.false_or, Bool.or_eq_true, Bool.and_eq_true, Nat.beq_eq, List.isEmpty_iff] at this
        rcases this with h5 | ⟨⟨⟨h5, h6⟩, h7⟩, h8⟩
        · exact .inl (memN_iff.1 h5)
        · exact .inr ⟨by simpa using h5, h6, h7, h8⟩
    | succ p =>
      simp only [List.getElem?_cons_succ] at h
      obtain ⟨g1, g2, g3⟩ := chainOk_get sts pre order (done ++ [k]) h4 p i h
      have e : done ++ List.take (p + 1) (k :: order) = done ++ [k] ++ List.take p order := by simp
      rw [e]
      exact ⟨g1, g2, by simpa using g3⟩
end Go.Ab
