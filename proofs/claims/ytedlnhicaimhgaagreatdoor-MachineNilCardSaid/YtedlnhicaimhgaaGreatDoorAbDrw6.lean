import Derived.Test.YtedlnhicaimhgaaGreatDoorAbDrw5
/-!
What is known of a region's items.
-/
namespace Go.Ab
variable {P : Program} {n : Nat}

def edgesAt (ops : Array Oper) (i : Nat) : List Nat := nthL (ops.toList.map edgesOf) i

structure Reg0 (P : Program) (n : Nat) (ops : Array Oper) (l : List DIt) (pre : Nat → List Nat) : Prop where
  get : ∀ (p : Nat) (it : DIt), l[p]? = some it → ∃ o, ops[it.ix]? = some o ∧ cSt P n ops o = some it.s ∧ it.eff = decide (catOf it.s.op = .act)
  pos : ∀ i, i < ops.size → ∃ (p : Nat) (it : DIt), l[p]? = some it ∧ it.ix = i
  inj : ∀ (p q : Nat) (a b : DIt), l[p]? = some a → l[q]? = some b → a.ix = b.ix → p = q
  closed : ∀ L : Nat → Prop, (∀ i, L i → ∀ j ∈ edgesAt ops i, L j) → ∀ i, (∀ j ∈ edgesAt ops i, L j) → ∀ j ∈ pre i, L j
  edge : ∀ i j, j ∈ edgesAt ops i → j ∈ pre i
  ahead : ∀ (p : Nat) (it : DIt) (j : Nat), l[p]? = some it → j ∈ pre it.ix → ∃ (r : Nat) (b : DIt), r < p ∧ l[r]? = some b ∧ b.ix = j
  reads : ∀ (p : Nat) (it : DIt) (t : Nat) (r : Nat) (b : DIt), l[p]? = some it → t ∈ it.s.looks → l[r]? = some b → b.s.dst = some t → b.ix ∈ pre it.ix
  dsts : ∀ (p : Nat) (it : DIt) (r : Nat) (b : DIt) (t : Nat), l[p]? = some it → l[r]? = some b → it.s.dst = some t → b.s.dst = some t → p = r
  fl : ∀ (p : Nat) (it : DIt) (r : Nat) (b : DIt), l[p]? = some it → r < p → l[r]? = some b → catOf b.s.op = .load → b.ix ∉ pre it.ix → b.s ∈ it.fl
  fa : ∀ (p : Nat) (it : DIt) (r : Nat) (b : DIt) (d : Nat), l[p]? = some it → r < p → l[r]? = some b → catOf b.s.op = .alloc → b.ix ∉ pre it.ix → b.s.dst = some d → d ∈ it.fa
structure Reg (P : Program) (n : Nat) (ops : Array Oper) (l : List DIt) (pre : Nat → List Nat) : Prop extends Reg0 P n ops l pre where
  mixed : P.follows .mixedOrders = true
  acts : ∀ (p : Nat) (it : DIt) (r : Nat) (b : DIt), l[p]? = some it → r < p → l[r]? = some b → b.eff = true → b.ix ∈ pre it.ix ∨ (p + 1 = l.length ∧ r + 1 = p ∧ b.pr = true)
  prst : ∀ (p : Nat) (it : DIt), l[p]? = some it → it.pr = true → ∃ n x v, it.s = ⟨none, .st n x v, none⟩

theorem mem_ded' {i : Nat} : ∀ {l : List Nat}, i ∈ l → i ∈ ded l
  | [], h => by simp at h
  | j :: l, h => by
    simp only [ded]
    cases hm : memN j (ded l) with
    | true =>
      rcases List.mem_cons.1 h with rfl | h
      · exact memN_iff.1 hm
      · exact mem_ded' h
    | false =>
      rcases List.mem_cons.1 h with rfl | h
      · simp
      · exact List.mem_cons_of_mem _ (mem_ded' h)
theorem predsGo_edge : ∀ (es pfx acc : List (List Nat)), pfx.length = acc.length → (∀ i j, j ∈ nthL pfx i → j ∈ nthL acc i) → ∀ i j, j ∈ nthL (pfx ++ es) i → j ∈ nthL (predsGo es acc) i
  | [], pfx, acc, _, h, i, j, hj => by simpa [predsGo] using h i j (by simpa using hj)
  | e :: es, pfx, acc, hl, h, i, j, hj => by
    refine predsGo_edge es (pfx ++ [e]) (acc ++ [ded (e ++ e.flatMap (nthL acc))]) (by simp [hl]) (fun i j hj => ?_) i j (by rw [List.append_assoc]; exact hj)
    have hi := nthL_lt hj
    simp only [List.length_append, List.length_cons, List.length_nil] at hi
    by_cases hlt : i < pfx.length
    · rw [nthL_append_left hlt] at hj
      rw [nthL_append_left (by omega)]; exact h i j hj
    · have hi' : i = pfx.length := by omega
      subst hi'
      have e1 : nthL (acc ++ [ded (e ++ e.flatMap (nthL acc))]) pfx.length = ded (e ++ e.flatMap (nthL acc)) := by rw [hl]; simp [nthL]
      have e2 : nthL (pfx ++ [e]) pfx.length = e := by simp [nthL]
      rw [e2] at hj; rw [e1]
      exact mem_ded' (List.mem_append_left _ hj)
theorem isSt_spec {sts : List ISt} {i : Nat} (h : isSt sts i = true) : ∃ n x v, getS sts i = ⟨none, .st n x v, none⟩ := by
  unfold isSt at h
  split at h
  · rename_i n x v e; exact ⟨n, x, v, e⟩
  · simp at h

theorem cSts_get {ops : Array Oper} : ∀ {l : List Oper} {sts : List ISt}, cSts P n ops l = some sts → sts.length = l.length ∧ ∀ i o, l[i]? = some o → cSt P n ops o = some (getS sts i)
  | [], sts, h => by simp only [cSts, Option.some.injEq] at h; subst h; simp
  | o :: l, sts, h => by
    obtain ⟨s, sl, h1, h2, rfl⟩ := cSts_cons' h
    obtain ⟨g1, g2⟩ := cSts_get h2
    refine ⟨by simp [g1], fun i o' ho => ?_⟩
    cases i with
    | zero => simp only [List.getElem?_cons_zero, Option.some.injEq] at ho; subst ho; simpa [getS] using h1
    | succ i => simp only [List.getElem?_cons_succ] at ho; simpa [getS] using g2 i o' ho
where
  cSts_cons' {ops : Array Oper} {o : Oper} {l : List Oper} {sl : List ISt} (h : cSts P n ops (o :: l) = some sl) : ∃ s sl', cSt P n ops o = some s ∧ cSts P n ops l = some sl' ∧ sl = s :: sl' := by
    simp only [cSts] at h
    split at h
    · rename_i s r h1 h2; simp only [Option.some.injEq] at h; exact ⟨s, r, h1, h2, h.symm⟩
    · simp at h

theorem reg_of_cDrw {ops : Array Oper} {l : List DIt} (h : cDrw P n ops = some l) : ∃ pre, Reg P n ops l pre := by
  unfold cDrw at h
  cases hs : cSts P n ops ops.toList with
  | none => simp [hs] at h
  | some sts =>
    simp only [hs] at h
    generalize hpre : predsGo (ops.toList.map edgesOf) [] = pre at h
    generalize orderGo (sts.map fun s => catOf s.op) (ops.toList.map edgesOf) ops.size [] = order at h
    cases hok : (P.follows .mixedOrders && drwOk sts (ops.toList.map edgesOf) pre order) with
    | false => simp [hok] at h
    | true =>
      simp only [hok, cond_true, Option.some.injEq] at h
      subst h
      simp only [Bool.and_eq_true, drwOk] at hok
      obtain ⟨hmix, ⟨⟨⟨⟨⟨k1, k2⟩, k3⟩, k4⟩, k5⟩, k6⟩⟩ := hok
      obtain ⟨hlen, hget⟩ := cSts_get hs
      simp only [Array.length_toList] at hlen
      have hch := chainOk_get sts pre order [] k3
      simp only [List.nil_append] at hch
      have hit : ∀ p it, (mkD sts pre [] order)[p]? = some it → ∃ i, order[p]? = some i ∧ it = mkIt sts pre (order.take p) i (order.drop (p + 1)) := fun p it hp => by
        simpa using mkD_get sts pre order [] p it hp
      have hlt : ∀ (i : Nat), i ∈ order → i < sts.length := fun i hi => by
        have := List.all_eq_true.1 k2 i hi
        simpa [Heap.blt_eq] using this
      have hinj : ∀ (p q i : Nat), order[p]? = some i → order[q]? = some i → p = q := by
        have one : ∀ (p q i : Nat), p < q → order[p]? = some i → order[q]? = some i → False := fun p q i hpq h1 h2 => by
          refine (hch q i h2).1 (List.mem_of_getElem? (i := p) ?_)
          rw [List.getElem?_take, if_pos hpq]; exact h1
        intro p q i h1 h2
        rcases Nat.lt_trichotomy p q with h | h | h
        · exact (one p q i h h1 h2).elim
        · exact h
        · exact (one q p i h h2 h1).elim
      have hback : ∀ (p i : Nat), order[p]? = some i → (mkD sts pre [] order)[p]? = some (mkIt sts pre (order.take p) i (order.drop (p + 1))) := fun p i hp => by
        have hl : p < (mkD sts pre [] order).length := by rw [mkD_length]; exact (List.getElem?_eq_some_iff.1 hp).1
        obtain ⟨j, g1, g2⟩ := hit p _ (List.getElem?_eq_getElem hl)
        rw [hp] at g1; cases g1
        rw [List.getElem?_eq_getElem hl, g2]
      refine ⟨nthL pre, { mixed := hmix, get := ?g1, pos := ?g2, inj := ?g3, closed := ?g4, edge := ?g5, ahead := ?g6, acts := ?g7, reads := ?g8, dsts := ?g9, fl := ?g10, fa := ?g11, prst := ?g12 }⟩
      case g1 =>
        intro p it hp
        obtain ⟨i, h1, rfl⟩ := hit p it hp
        have hi := hlt i (List.mem_of_getElem? h1)
        have ho : ops.toList[i]? = some ops.toList[i] := List.getElem?_eq_getElem (by simp; omega)
        refine ⟨ops.toList[i]'(by simp; omega), by rw [← Array.getElem?_toList]; exact ho, hget i _ ho, rfl⟩
      case g2 =>
        intro i hi
        have := List.all_eq_true.1 k1 i (List.mem_range.2 (by omega))
        obtain ⟨p, hp⟩ := List.mem_iff_getElem?.1 (memN_iff.1 this)
        exact ⟨p, _, hback p i hp, rfl⟩
      case g3 =>
        intro p q a b hp hq he
        obtain ⟨i, h1, rfl⟩ := hit p a hp
        obtain ⟨j, h2, rfl⟩ := hit q b hq
        have : i = j := he
        subst this
        exact hinj p q i h1 h2
      case g4 =>
        intro L hL i hi j hj
        rw [← hpre] at hj
        exact pre_closed hL i hi j hj
      case g6 =>
        intro p it j hp hj
        obtain ⟨i, h1, rfl⟩ := hit p it hp
        have := (hch p i h1).2.1 j hj
        obtain ⟨r, hr⟩ := List.mem_iff_getElem?.1 this
        rw [List.getElem?_take] at hr
        by_cases hrp : r < p
        · rw [if_pos hrp] at hr; exact ⟨r, _, hrp, hback r j hr, rfl⟩
        · rw [if_neg hrp] at hr; cases hr
      case g7 =>
        intro p it r b hp hrp hr heff
        obtain ⟨i, h1, rfl⟩ := hit p it hp
        obtain ⟨j, h2, rfl⟩ := hit r b hr
        have hpl : p < order.length := (List.getElem?_eq_some_iff.1 h1).1
        rcases (hch p i h1).2.2 r j (by rw [List.getElem?_take, if_pos hrp]; exact h2) heff with h3 | ⟨h3, h4, h5, h6⟩
        · exact .inl h3
        · have hlast : p + 1 = order.length := by
            have := List.drop_eq_nil_iff.1 h3; omega
          have hrp' : r + 1 = p := by rw [List.length_take] at h4; omega
          by_cases hm : j ∈ nthL pre i
          · exact .inl hm
          · refine .inr ⟨by rw [mkD_length]; exact hlast, hrp', ?_⟩
            have hd : order.drop (r + 1) = [i] := by
              rw [hrp', List.drop_eq_getElem_cons hpl, h3]
              congr 1
              exact Option.some.inj ((List.getElem?_eq_getElem hpl).symm.trans h1)
            simp only [mkIt, hd, h5, h6, Bool.and_self, Bool.true_and, Bool.not_eq_true']
            cases hq : memN j (nthL pre i) with
            | true => exact absurd (memN_iff.1 hq) hm
            | false => rfl
      case g8 =>
        intro p it t r b hp ht hr hd
        obtain ⟨i, h1, rfl⟩ := hit p it hp
        obtain ⟨j, h2, rfl⟩ := hit r b hr
        have hi := hlt i (List.mem_of_getElem? h1)
        have hj := hlt j (List.mem_of_getElem? h2)
        have q1 := List.all_eq_true.1 k6 i (List.mem_range.2 hi)
        have q2 := List.all_eq_true.1 q1 t ht
        have q3 := List.all_eq_true.1 q2 j (List.mem_range.2 hj)
        have hd' : (getS sts j).dst = some t := hd
        simp only [hd', Bool.or_eq_true, Bool.not_eq_true'] at q3
        rcases q3 with q3 | q3
        · simp at q3
        · exact memN_iff.1 q3
      case g9 =>
        intro p it r b t hp hr h3 h4
        obtain ⟨i, h1, rfl⟩ := hit p it hp
        obtain ⟨j, h2, rfl⟩ := hit r b hr
        have hi := hlt i (List.mem_of_getElem? h1)
        have hj := hlt j (List.mem_of_getElem? h2)
        have q1 := List.all_eq_true.1 k5 i (List.mem_range.2 hi)
        have q2 := List.all_eq_true.1 q1 j (List.mem_range.2 hj)
        have h3' : (getS sts i).dst = some t := h3
        have h4' : (getS sts j).dst = some t := h4
        simp only [sameDst, h3', h4', Bool.or_eq_true, Nat.beq_eq, Bool.not_eq_true'] at q2
        rcases q2 with q2 | q2
        · subst q2; exact hinj p r i h1 h2
        · simp at q2
      case g10 =>
        intro p it r b hp hrp hr hcat hno
        obtain ⟨i, h1, rfl⟩ := hit p it hp
        obtain ⟨j, h2, rfl⟩ := hit r b hr
        refine List.mem_map.2 ⟨j, List.mem_filter.2 ⟨List.mem_filter.2 ⟨List.mem_of_getElem? (i := r) (by rw [List.getElem?_take, if_pos hrp]; exact h2), ?_⟩, ?_⟩, rfl⟩
        · cases hq : memN j (nthL pre i) with
          | true => exact absurd (memN_iff.1 hq) hno
          | false => rfl
        · exact decide_eq_true hcat
      case g11 =>
        intro p it r b d hp hrp hr hcat hno hd
        obtain ⟨i, h1, rfl⟩ := hit p it hp
        obtain ⟨j, h2, rfl⟩ := hit r b hr
        refine List.mem_filterMap.2 ⟨j, List.mem_filter.2 ⟨List.mem_filter.2 ⟨List.mem_of_getElem? (i := r) (by rw [List.getElem?_take, if_pos hrp]; exact h2), ?_⟩, ?_⟩, hd⟩
        · cases hq : memN j (nthL pre i) with
          | true => exact absurd (memN_iff.1 hq) hno
          | false => rfl
        · exact decide_eq_true hcat
      case g5 =>
        intro i j hj
        rw [← hpre]
        exact predsGo_edge _ [] [] rfl (fun i j h => by simp [nthL] at h) i j hj
      case g12 =>
        intro p it hp he
        obtain ⟨i, h1, rfl⟩ := hit p it hp
        have he' : (mkIt sts pre (order.take p) i (order.drop (p + 1))).pr = true := he
        unfold mkIt at he'
        simp only at he'
        split at he'
        · simp only [Bool.and_eq_true] at he'
          exact isSt_spec he'.1.1
        · simp at he'
end Go.Ab
