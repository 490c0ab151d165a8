import Derived.Test.YtedlnhicaimhgaaGreatDoorAbOps5
namespace Go.Ab
variable {w0 : World} {β : Ren} {H H' : Heap} {w : World} {P : Program} {dst : Option Tmp} {ty : TypeId} {pos : String} {aft : Array Edge} {g : Option (Nat × Bool)}

theorem beq_zero_ne {n : Nat} (h : n ≠ 0) : Nat.beq n 0 = false := by
  cases n with
  | zero => exact absurd rfl h
  | succ n => rfl
theorem bytes_VL (l : List UInt8) : VL β ((l.map (·.toNat)).map fun (b : Nat) => AV.int .u8 b) (l.map fun b => Value.int .u8 b.toNat) := by
  induction l with
  | nil => exact .nil
  | cons x l ih => exact .cons (.int _ _) ih

/-- What is appended or copied, on both sides. -/
theorem srcCells_run {es n : Nat} {k : Option Nat} {new : List AV} {y : AV} {yv : Value} (h : HR w0 β H w) (hs : srcCells H es k y = some (n, new)) (hy : V β y yv) :
    ∃ us m, VL β new us ∧ (∀ w1 : World, (Builtin.lenOf yv).run P w1 = .ok m w1) ∧ n = capN k m ∧
      ∀ w1 : World, (∀ a, w1.cell? a = w.cell? a) → (Builtin.firstCells es n yv).run P w1 = .ok us.toArray w1 := by
  cases y with
  | nils =>
    cases hy
    simp only [srcCells, Option.some.injEq, Prod.mk.injEq] at hs
    obtain ⟨rfl, rfl⟩ := hs
    exact ⟨[], 0, .nil, fun w1 => by simp [Builtin.lenOf], by cases k <;> simp [capN], fun w1 _ => by simp [Builtin.firstCells]⟩
  | sl b off len cap sp =>
    cases hy with
    | sl hβ hlc hcc h3 h4 h5 =>
      rename_i r o a cap'
      simp only [srcCells] at hs
      generalize hkk : capN k len = kk at hs
      have hkle : kk ≤ len := by subst hkk; cases k <;> simp [capN]; omega
      by_cases h0 : kk = 0
      · rw [h0] at hs
        simp only [Nat.beq_refl, cond_true, Option.some.injEq, Prod.mk.injEq] at hs
        obtain ⟨rfl, rfl⟩ := hs
        refine ⟨[], len, .nil, fun w1 => by simp [Builtin.lenOf], by rw [hkk, h0], fun w1 _ => by simp [Builtin.firstCells, loadCells, loadCellsFrom]⟩
      · have hb : Nat.beq kk 0 = false := beq_zero_ne h0
        rw [hb] at hs
        simp only [cond_false] at hs
        cases hl : H.load b off (kk * es) with
        | none => simp [hl] at hs
        | some cs =>
          simp only [hl, Option.some.injEq, Prod.mk.injEq] at hs
          obtain ⟨rfl, rfl⟩ := hs
          obtain ⟨vs, hvl, hcl, hV, hc⟩ := h.load hl hβ
          refine ⟨vs, len, hV, fun w1 => by simp [Builtin.lenOf], hkk.symm, fun w1 hw1 => ?_⟩
          have ha := h4 (by omega)
          subst ha
          simp only [Builtin.firstCells]
          exact run_loadCells r (o + off) (kk * es) vs hvl (fun j v hj => by rw [hw1]; exact hc j v hj)
  | str s =>
    obtain ⟨b, rfl, hb⟩ := hy.str_inv
    simp only [srcCells] at hs
    generalize hkk : capN k s.length = kk at hs
    have hkle : kk ≤ s.length := by subst hkk; cases k <;> simp [capN]; omega
    by_cases he : es = 1
    · subst he
      simp only [Nat.beq_refl, cond_true, Option.some.injEq, Prod.mk.injEq] at hs
      obtain ⟨rfl, rfl⟩ := hs
      have hlen : s.length = b.size := by rw [← hb, List.length_map, Array.length_toList]; rfl
      refine ⟨(b.data.toList.take kk).map fun x => Value.int .u8 x.toNat, b.size, ?_, fun w1 => by simp [Builtin.lenOf], by rw [← hkk, hlen], fun w1 _ => ?_⟩
      · rw [← hb, ← List.map_take]; exact bytes_VL _
      · simp only [Builtin.firstCells, Sem.run_pure]
        congr 1
        apply Array.ext'
        simp [ByteArray.data_extract]
    · have : Nat.beq es 1 = false := by rw [Bool.eq_false_iff]; simpa using he
      rw [this] at hs; simp at hs
  | _ => simp [srcCells] at hs

section
variable (w)
theorem run_append_grow' {at_ : Array TypeId} {t t' ty e : TypeId} {i : TypeInfo} {z : Value} {d' : TypeDesc} (ha0 : at_[0]? = some t) (ha1 : at_[1]? = some t') (ht : P.underlying t = some (.slice e)) (ht' : P.underlying t' = some d')
    (hd : (∃ e', d' = .slice e') ∨ d' = .string) (hi : P.info? e = some i) (hz : i.zero = some z) {base : Option Addr} {sLen sCap n : Nat} {y : Value} {olds news : Array Value}
    (hn : ∀ w1 : World, (Builtin.lenOf y).run P w1 = .ok n w1) (ho : (Builtin.firstCells i.size sLen (.slice base sLen sCap)).run P w.drew = .ok olds w.drew) (hw : (Builtin.firstCells i.size n y).run P w.drew = .ok news w.drew)
    (hg : sCap < sLen + n) (hb : (sLen + n) * i.bytes ≤ 140737488355328) (hb0 : 0 < i.bytes) :
    (Builtin.append_ at_ ty #[.slice base sLen sCap, y]).run P w =
      .ok (.slice (some ⟨w.heap.size, 0, none⟩) (sLen + n) (grownCap w (sLen + n) sCap e)) (w.drew.alloc (.cells (olds ++ news ++ Builtin.zeroCells z.cells (grownCap w (sLen + n) sCap e - (sLen + n))) e)) := by
  have hle : ¬ (sLen + n ≤ sCap) := by omega
  have hfit := growslice_fits hg hb
  have hz0 : ¬ i.bytes = 0 := by omega
  have h48' : ¬ (281474976710656 < Builtin.nextslicecap (sLen + n) sCap * i.bytes) := by omega
  rcases hd with ⟨e', rfl⟩ | rfl <;>
    simp [Builtin.append_, ha0, ha1, run_underlying' ht, run_underlying' ht', sizeOf, typeInfo, zeroValue, hi, hz, hn, hle, hz0, h48', Question.forced, ho, hw, newRow, grownCap]

theorem run_append_room' {at_ : Array TypeId} {t t' ty e : TypeId} {i : TypeInfo} {d' : TypeDesc} (ha0 : at_[0]? = some t) (ha1 : at_[1]? = some t') (ht : P.underlying t = some (.slice e)) (ht' : P.underlying t' = some d')
    (hd : (∃ e', d' = .slice e') ∨ d' = .string) (hi : P.info? e = some i) {base : Option Addr} {sLen sCap n : Nat} {y : Value} {news : Array Value} {w' : World}
    (hn : ∀ w1 : World, (Builtin.lenOf y).run P w1 = .ok n w1) (hw : (Builtin.firstCells i.size n y).run P w = .ok news w)
    (hg : sLen + n ≤ sCap) (hst : ∀ a, base = some a → (storeCells (a.add (sLen * i.size)) news.toList).run P w = .ok () w') (hst' : base = none → w' = w) :
    (Builtin.append_ at_ ty #[.slice base sLen sCap, y]).run P w = .ok (.slice base (sLen + n) sCap) w' := by
  cases base with
  | none =>
    have := hst' rfl; subst this
    rcases hd with ⟨e', rfl⟩ | rfl <;> simp [Builtin.append_, ha0, ha1, run_underlying' ht, run_underlying' ht', sizeOf, typeInfo, hi, hn, hg, hw]
  | some a =>
    have := hst a rfl
    rcases hd with ⟨e', rfl⟩ | rfl <;> simp [Builtin.append_, ha0, ha1, run_underlying' ht, run_underlying' ht', sizeOf, typeInfo, hi, hn, hg, hw, this]
end

theorem grownCap_ge (w : World) {need old : Nat} (e : TypeId) : need ≤ grownCap w need old e := by
  unfold grownCap Question.cut; exact Nat.le_add_right _ _
theorem zeroCells_size (z : Array Value) (n : Nat) : (Builtin.zeroCells z n).size = n * z.size := by simp [Builtin.zeroCells]

theorem CellRel.append_rest {cs : List AV} {vs : Array Value} (h : VL β cs vs.toList) (rest : Array Value) : CellRel β cs 0 (vs ++ rest) := by
  have hl := h.length
  simp only [Array.length_toList] at hl
  refine ⟨by simp; omega, fun i x hx => ?_⟩
  obtain ⟨y, hy, hV⟩ := h.get hx
  have hi : i < vs.size := by
    have := (List.getElem?_eq_some_iff.1 hx).1; omega
  refine ⟨y, ?_, hV⟩
  rw [Nat.zero_add, Array.getElem?_append_left hi]
  simpa using hy

/-- Cells behind a block's known ones are written. -/
theorem store_beyond {w : World} {r : Nat} {c' : Array Value} {tb : TypeId} {fz : Nat × Nat} {new : List AV} (hwr : w.heap[r]? = some (.cells c' tb fz)) (hfz : fz.2 ≤ fz.1) (us : List Value) (hV : VL β new us) (hone : new.all AV.one = true) (k : Nat) (hk : k + us.length ≤ c'.size) :
    ∃ (w' : World) (c2 : Array Value), (storeCells ⟨r, k, none⟩ us).run P w = .ok () w' ∧ w'.heap.size = w.heap.size ∧ w'.heap[r]? = some (.cells c2 tb fz) ∧ (∀ r', r' ≠ r → w'.heap[r']? = w.heap[r']?) ∧
      (c2.size = c'.size ∧ (∀ j, j < k → c2[j]? = c'[j]?) ∧ (∀ (j : Nat) (u : Value), us[j]? = some u → c2[k + j]? = some u)) ∧ (w'.os = w.os ∧ w'.output = w.output) := by
  suffices hgen : ∀ (us : List Value) (new : List AV) (i : Nat) (w : World) (c' : Array Value), VL β new us → new.all AV.one = true → w.heap[r]? = some (.cells c' tb fz) → k + i + us.length ≤ c'.size →
      ∃ (w' : World) (c2 : Array Value), (storeCells ⟨r, k, none⟩ us i).run P w = .ok () w' ∧ w'.heap.size = w.heap.size ∧ w'.heap[r]? = some (.cells c2 tb fz) ∧ (∀ r', r' ≠ r → w'.heap[r']? = w.heap[r']?) ∧
        (c2.size = c'.size ∧ (∀ j, j < k + i → c2[j]? = c'[j]?) ∧ (∀ (j : Nat) (u : Value), us[j]? = some u → c2[k + i + j]? = some u)) ∧ (w'.os = w.os ∧ w'.output = w.output) by
    obtain ⟨w', c2, h1, h2, h3, h4, h5, h6⟩ := hgen us new 0 w c' hV hone hwr (by omega)
    exact ⟨w', c2, h1, h2, h3, h4, by simpa using h5, h6⟩
  intro us
  induction us with
  | nil => intro new i w c' _ _ hwr _; exact ⟨w, c', by simp [storeCells], rfl, hwr, fun _ _ => rfl, ⟨rfl, fun _ _ => rfl, fun j u h => by simp at h⟩, rfl, rfl⟩
  | cons u us ih =>
    intro new i w c' hV hone hwr hle
    cases hV with
    | cons hx hs =>
      rename_i x new
      simp only [List.all_cons, Bool.and_eq_true] at hone
      simp only [List.length_cons] at hle
      have hlt : k + i < c'.size := by omega
      have hnew : (w.setCell ⟨r, k + i, none⟩ u).heap[r]? = some (.cells (c'.setIfInBounds (k + i) u) tb fz) := by
        simp only [World.setCell, Array.getElem?_modify, hwr, Option.map_some, if_true]; simp
      have hother : ∀ r', r' ≠ r → (w.setCell ⟨r, k + i, none⟩ u).heap[r']? = w.heap[r']? := fun r' hr' => by
        simp only [World.setCell, Array.getElem?_modify]; rw [if_neg (by simpa using Ne.symm hr')]
      obtain ⟨w', c2, h1, h2, h3, h4, ⟨h5, h6, h7⟩, h8⟩ := ih new (i + 1) _ _ hs hone.2 hnew (by simp; omega)
      have hcell : w.cell? ⟨r, k + i, none⟩ = some c'[k + i] := cell_of hwr (by simp [hlt])
      have hfr : w.frozen? ⟨r, k + i, none⟩ = false := by simp only [World.frozen?, hwr]; simp; omega
      refine ⟨w', c2, ?_, by rw [h2]; simp [World.setCell], h3, fun r' hr' => by rw [h4 r' hr', hother r' hr'], ⟨by rw [h5]; simp, fun j hj => ?_, fun j v hj => ?_⟩, h8⟩
      · simp only [storeCells, add_eq, Sem.run_bind, run_store _ _ _ _ _ (hx.one hone.1), hcell, hfr, Bool.false_eq_true, if_false, Result.andThen_ok]
        exact h1
      · rw [h6 j (by omega), Array.getElem?_setIfInBounds_ne (by omega)]
      · cases j with
        | zero =>
          simp only [List.getElem?_cons_zero, Option.some.injEq] at hj
          subst hj
          rw [Nat.add_zero, h6 (k + i) (by omega)]; simp [hlt]
        | succ j =>
          simp only [List.getElem?_cons_succ] at hj
          have := h7 j v hj
          rw [show k + i + (j + 1) = k + (i + 1) + j from by omega]; exact this

set_option maxHeartbeats 1000000 in
theorem s_app {at_ : Array TypeId} {t t' ty e : TypeId} {d' : TypeDesc} {es bytes : Nat} {z : List AV} {x y v : AV} {xv yv : Value} (h : HR w0 β H w) (ha0 : at_[0]? = some t) (ha1 : at_[1]? = some t')
    (ht : P.underlying t = some (.slice e)) (ht' : P.underlying t' = some d') (hd : (∃ e', d' = .slice e') ∨ d' = .string) (hes : sizeC P e = some es) (hby : bytesC P e = some bytes) (hz : zeroC P e = some z) (hx : V β x xv) (hy : V β y yv)
    (hv : aappend H e es bytes x y = some (v, H')) : GoodV P w0 β H v H' (Builtin.append_ at_ ty #[xv, yv]) w := by
  obtain ⟨i, zv, a0, hi, hz0, ha, _, _, _⟩ := zeroC_spec hz
  have hsz : i.size = es := by simp [sizeC, hi] at hes; exact hes
  have hbz : i.bytes = bytes := by simp [bytesC, hi] at hby; exact hby
  have hzs : zv.cells.size = es := by
    obtain ⟨zv', h1, h2, _, h3⟩ := zero_VL (P := P) (β := β) hz
    have e1 := h1 w; rw [run_zeroValue' hi hz0 w] at e1; cases e1
    have := h2.length; simp only [Array.length_toList] at this
    rw [hes] at h3; cases h3; omega
  unfold aappend at hv
  cases hsrc : srcCells H es none y with
  | none => simp [hsrc] at hv
  | some q =>
    obtain ⟨n, new⟩ := q
    simp only [hsrc] at hv
    obtain ⟨us, m, hV, hlen, hnm, hfirst⟩ := srcCells_run (P := P) h hsrc hy
    simp only [capN] at hnm
    subst hnm
    have hfw : (Builtin.firstCells i.size n yv).run P w = .ok us.toArray w := by rw [hsz]; exact hfirst w (fun _ => rfl)
    have hfd : (Builtin.firstCells i.size n yv).run P w.drew = .ok us.toArray w.drew := by rw [hsz]; exact hfirst w.drew (fun _ => rfl)
    cases hcond : (new.all AV.one && Nat.beq new.length (n * es)) with
    | false => simp [hcond] at hv
    | true =>
      simp only [hcond, cond_true] at hv
      simp only [Bool.and_eq_true, Nat.beq_eq] at hcond
      obtain ⟨hone, hnl⟩ := hcond
      have hul : us.length = n * es := by rw [← hnl]; exact hV.length.symm
      have hdr : HR w0 β H w.drew := h.drew
      -- a fresh row on the other side
      have fresh : ∀ (cs : List AV) (olds : List Value) (sLen : Nat), VL β cs olds → olds.length = sLen * es → ∀ cap',
          CellRel β (cs ++ new) 0 (olds.toArray ++ us.toArray ++ Builtin.zeroCells zv.cells cap') ∧ (olds.toArray ++ us.toArray ++ Builtin.zeroCells zv.cells cap').size = (sLen + n + cap') * es := by
        intro cs olds sLen hc ho cap'
        refine ⟨CellRel.append_rest (by simpa using hc.append hV) _, ?_⟩
        simp only [Array.size_append, List.size_toArray, zeroCells_size, ho, hul, hzs, Nat.add_mul]
      cases x with
      | nils =>
        cases hx
        simp only [] at hv
        by_cases hn0 : n = 0
        · subst hn0
          simp only [Nat.beq_refl, cond_true, Option.some.injEq, Prod.mk.injEq] at hv
          obtain ⟨rfl, rfl⟩ := hv
          exact GoodV.same h .nils (run_append_room' w ha0 ha1 ht ht' hd hi hlen hfw (by omega) (fun a e => by cases e) (fun _ => rfl))
        · have hb0 : Nat.beq n 0 = false := beq_zero_ne hn0
          simp only [hb0, cond_false] at hv
          cases hc2 : (Nat.ble (n * bytes) 140737488355328 && Nat.blt 0 es && Nat.blt 0 bytes) with
          | false => simp [hc2] at hv
          | true =>
            simp only [hc2, cond_true, Option.some.injEq, Prod.mk.injEq] at hv
            obtain ⟨rfl, rfl⟩ := hv
            simp only [Bool.and_eq_true, Nat.ble_eq, Heap.blt_eq, decide_eq_true_eq] at hc2
            have hrun := run_append_grow' (ty := ty) w ha0 ha1 ht ht' hd hi hz0 (base := none) (sLen := 0) (sCap := 0) (olds := #[]) hlen (by simp [Builtin.firstCells]) hfd (by omega) (by rw [hbz, Nat.zero_add]; exact hc2.1.1) (by rw [hbz]; exact hc2.2)
            rw [Nat.zero_add] at hrun
            obtain ⟨g1, g2⟩ := fresh [] [] 0 .nil (by simp) (grownCap w n 0 e - n)
            simp only [List.nil_append] at g1
            obtain ⟨β', k1, k2, k3, k4⟩ := newRowA_good hdr e g1
            have hge := grownCap_ge w (need := n) (old := 0) e
            refine ⟨β', _, _, k1, by rw [size_newA]; omega, k2, .sl (a := ⟨w.heap.size, 0, none⟩) (cap' := grownCap w n 0 e) k3 (Nat.le_refl _) hge (fun e0 => by omega) (fun _ => rfl) (fun _ => ?_), hrun⟩
            rw [k4, g2]
            simp only [Nat.zero_add]
            exact Nat.le_of_eq (by congr 1; omega)
      | sl b off len cap sp =>
        simp only [] at hv
        cases hx with
        | sl hβ hlc hcc h3 h4 h5 =>
          rename_i r o a cap'
          have hble : ∀ p q : Nat, Nat.ble p q = decide (p ≤ q) := fun p q => by rw [Bool.eq_iff_iff]; simp [Nat.ble_eq]
          by_cases hfit : len + n ≤ cap
          · rw [hble, decide_eq_true hfit] at hv
            simp only [cond_true] at hv
            cases hst : H.store b (off + len * es) new with
            | none => simp [hst] at hv
            | some H1 =>
              simp only [hst, Option.some.injEq, Prod.mk.injEq] at hv
              obtain ⟨rfl, rfl⟩ := hv
              obtain ⟨w', g1, g2, g3⟩ := h.store (P := P) hst hβ hV
              by_cases hc0 : cap' = 0
              · have hn0 : n = 0 := by omega
                have hus : us = [] := List.eq_nil_of_length_eq_zero (by rw [hul, hn0]; simp)
                subst hus
                have hnil : new = [] := List.eq_nil_of_length_eq_zero (by rw [hnl, hn0]; simp)
                subst hnil
                simp only [Heap.store, Option.some.injEq] at hst
                subst hst
                refine ⟨β, _, w, Ext.refl _ _, Nat.le_refl _, h, .sl hβ hfit hcc h3 h4 h5, ?_⟩
                exact run_append_room' w ha0 ha1 ht ht' hd hi hlen hfw (by omega) (fun a' e' => by simp [storeCells]) (fun e' => by cases e')
              · have haa := h4 hc0
                refine ⟨β, _, w', Ext.refl _ _, by omega, g1, .sl hβ hfit hcc h3 h4 h5, ?_⟩
                refine run_append_room' w ha0 ha1 ht ht' hd hi hlen hfw (by omega) (fun a' e' => ?_) (fun e' => by cases e')
                cases e'
                rw [haa, add_eq, hsz, Nat.add_assoc]
                exact g3
          · rw [hble, decide_eq_false hfit] at hv
            simp only [cond_false] at hv
            cases hc2 : (Nat.ble ((len + n) * bytes) 140737488355328 && Nat.blt 0 es && Nat.blt 0 bytes) with
            | false => simp [hc2] at hv
            | true =>
              simp only [hc2, cond_true] at hv
              simp only [Bool.and_eq_true, Nat.ble_eq, Heap.blt_eq, decide_eq_true_eq] at hc2
              cases hld : H.load b off (len * es) with
              | none => simp [hld] at hv
              | some old =>
                simp only [hld] at hv
                obtain ⟨vs, hvl, hol, hVo, hco⟩ := h.load hld hβ
                have hfo : (Builtin.firstCells i.size len (.slice (some a) len cap')).run P w.drew = .ok vs.toArray w.drew := by
                  simp only [Builtin.firstCells, hsz]
                  by_cases hc0 : cap' = 0
                  · have : len = 0 := by omega
                    subst this
                    have : vs = [] := List.eq_nil_of_length_eq_zero (by simpa using hvl)
                    subst this; simp [loadCells, loadCellsFrom]
                  · rw [h4 hc0]
                    exact run_loadCells r (o + off) (len * es) vs hvl (fun j u hj => hco j u hj)
                obtain ⟨f1, f2⟩ := fresh old vs len hVo hvl (grownCap w (len + n) cap' e - (len + n))
                have hge := grownCap_ge w (need := len + n) (old := cap') e
                cases hsp : Nat.beq sp 0 with
                | true =>
                  simp only [hsp, cond_true, Option.some.injEq, Prod.mk.injEq] at hv
                  obtain ⟨rfl, rfl⟩ := hv
                  have hcap : cap' = cap := h3 (by simpa using hsp)
                  have hrun := run_append_grow' (ty := ty) w ha0 ha1 ht ht' hd hi hz0 hlen hfo hfd (by omega) (by rw [hbz]; exact hc2.1.1) (by rw [hbz]; exact hc2.2)
                  obtain ⟨β', k1, k2, k3, k4⟩ := newRowA_good hdr e f1
                  refine ⟨β', _, _, k1, by rw [size_newA]; omega, k2, .sl (a := ⟨w.heap.size, 0, none⟩) (cap' := grownCap w (len + n) cap' e) k3 (Nat.le_refl _) hge (fun e0 => by omega) (fun _ => rfl) (fun _ => ?_), hrun⟩
                  rw [k4, f2]
                  simp only [Nat.zero_add]
                  exact Nat.le_of_eq (by congr 1; omega)
                | false =>
                  simp only [hsp, cond_false] at hv
                  cases hgb : H.get b with
                  | none => simp [hgb] at hv
                  | some ob =>
                    cases ob with
                    | cells cs tb fl =>
                      simp only [hgb] at hv
                      cases hc3 : (Nat.beq sp es && Nat.beq tb e && Nat.beq len cap && Nat.beq (off + cap * es) cs.length && fl.tip && !fl.frz) with
                      | false => simp [hc3] at hv
                      | true =>
                        simp only [hc3, cond_true, Option.some.injEq, Prod.mk.injEq] at hv
                        simp only [Bool.and_eq_true, Nat.beq_eq, Bool.not_eq_true'] at hc3
                        obtain ⟨⟨⟨⟨⟨e1, e2⟩, e3⟩, e4⟩, etip⟩, efrz⟩ := hc3
                        subst e1; subst e2; subst e3
                        obtain ⟨rfl, rfl⟩ := hv
                        have hsp0 : sp ≠ 0 := fun e0 => by subst e0; simp at hsp
                        have hr0 : w0.heap.size ≤ r := by
                          rcases Nat.lt_or_ge r w0.heap.size with hlt | hge0
                          · obtain ⟨_, _, _, e5, hz5⟩ := h.old b r o _ hβ hlt hgb rfl
                            cases e5; rw [efrz] at hz5; cases hz5
                          · exact hge0
                        have hrlt := (h.lt b r o hβ).2
                        obtain ⟨c', fz, hwr, ⟨hcsz, hcrel⟩, hfz, hcN⟩ := h.cells b cs tb fl r o hgb hβ
                        have hfzle := hfz efrz
                        have hspare := h5 hsp0
                        -- what the old cells are
                        have hdrop : old = (cs.drop off).take (len * sp) := by
                          unfold Heap.load at hld
                          simp only [hgb] at hld
                          rw [hble] at hld
                          rw [decide_eq_true (by omega : off + len * sp ≤ cs.length)] at hld
                          simp only [cond_true, Option.some.injEq] at hld
                          exact hld.symm
                        have hdrop' : old = cs.drop off := by rw [hdrop, List.take_of_length_le (by simp; omega)]
                        by_cases hroom : len + n ≤ cap'
                        · -- in place on the other side
                          have hc0 : cap' ≠ 0 := by omega
                          have haa := h4 hc0
                          have hcell : ∀ j, j < us.length → ∃ u, w.cell? ⟨r, o + cs.length + j, none⟩ = some u := by
                            intro j hj
                            have : o + cs.length + j < c'.size := by
                              rw [hcN]
                              have : (len + n) * sp ≤ cap' * sp := Nat.mul_le_mul_right _ hroom
                              rw [Nat.add_mul] at this
                              omega
                            exact ⟨c'[o + cs.length + j], cell_of hwr (by simp [this])⟩
                          obtain ⟨w', c2, s1, s2, s3, s4, s5, s6⟩ := store_beyond (P := P) hwr hfzle us (hV := hV) hone (o + cs.length) (by
                            rw [hcN]
                            have : (len + n) * sp ≤ cap' * sp := Nat.mul_le_mul_right _ hroom
                            rw [Nat.add_mul] at this
                            omega)
                          have hrun := run_append_room' (ty := ty) w ha0 ha1 ht ht' hd hi hlen hfw (base := some a) (by omega) (w' := w') (fun a' e' => by
                            cases e'
                            rw [haa, add_eq, hsz, show o + off + len * sp = o + cs.length from by omega]
                            simpa using s1) (fun e' => by cases e')
                          refine ⟨β.up H.size (r, o + off) (β.sz b), _, w', Ext.up β _ _ h.unborn_size (Nat.le_refl _), by rw [Heap.size_push, Heap.size_put]; omega, ?_, ?_, hrun⟩
                          · refine h.extendAt hgb etip efrz r (o + off) (β.sz b) hr0 (by rw [s2]; exact hrlt) (by rw [s2]; omega) s6 (fun r' _ hr' => s4 r' hr') ?_ ?_
                            · refine ⟨c2, fz, s3, ⟨?_, fun j x hx => ?_⟩, hfzle, by rw [s5.1]; exact hcN⟩
                              · rw [List.length_append, hol, hnl, s5.1, hcN]
                                have : (len + n) * sp ≤ cap' * sp := Nat.mul_le_mul_right _ hroom
                                rw [Nat.add_mul] at this
                                omega
                              · have hle' := Ren.le_up β (r, o + off) (β.sz b) h.unborn_size
                                by_cases hj : j < old.length
                                · rw [List.getElem?_append_left hj] at hx
                                  rw [hdrop', List.getElem?_drop] at hx
                                  obtain ⟨u, hu, hVu⟩ := hcrel _ _ hx
                                  refine ⟨u, ?_, hVu.mono hle'⟩
                                  rw [s5.2.1 _ (by omega), show o + off + j = o + (off + j) from by omega]
                                  exact hu
                                · rw [List.getElem?_append_right (by omega)] at hx
                                  obtain ⟨u, hu, hVu⟩ := hV.get hx
                                  refine ⟨u, ?_, hVu.mono hle'⟩
                                  rw [show o + off + j = o + cs.length + (j - old.length) from by omega]
                                  exact s5.2.2 _ _ hu
                            · intro c x o' hcβ hxc hlx
                              by_cases ecb : c = b
                              · subst ecb
                                rw [hβ] at hcβ; cases hcβ
                                rw [hgb] at hxc; cases hxc
                                refine ⟨_, _, _, _, _, rfl, rfl, fun h => absurd rfl h, hβ, by rw [List.length_append, hol]; omega, c2, fz, s3, ⟨by rw [s5.1]; exact hcsz, fun j x hx => ?_⟩, hfz, by rw [s5.1]; exact hcN⟩
                                obtain ⟨u, hu, hVu⟩ := hcrel j x hx
                                have : j < cs.length := (List.getElem?_eq_some_iff.1 hx).1
                                exact ⟨u, by rw [s5.2.1 _ (by omega)]; exact hu, hVu⟩
                              · obtain ⟨cs1, t1, f1, cs2, t2, f2, q1, q2, q3, q4, q5, q6⟩ := h.sep b c r o o' _ x (Ne.symm ecb) hβ hcβ hgb hxc rfl hlx
                                cases q1; subst q2
                                have hend := q6 etip
                                obtain ⟨c'', fz'', p1, ⟨p2, p3⟩, p4, p5⟩ := h.cells c cs2 t2 f2 r o' hxc hcβ
                                rw [hwr] at p1; cases p1
                                refine ⟨_, _, _, _, _, rfl, q3.symm, fun _ => q5, hβ, by rw [List.length_append, hol]; omega, c2, fz, s3, ⟨by rw [s5.1]; exact p2, fun j x hx => ?_⟩, p4, by rw [s5.1]; exact p5⟩
                                obtain ⟨u, hu, hVu⟩ := p3 j x hx
                                have : j < cs2.length := (List.getElem?_eq_some_iff.1 hx).1
                                exact ⟨u, by rw [s5.2.1 _ (by omega)]; exact hu, hVu⟩
                          · refine .sl (r := r) (o := o + off) (a := a) (cap' := cap') (Ren.up_same _ _ _ _) (Nat.le_refl _) hroom (fun e0 => absurd e0 hsp0) (fun _ => by rw [haa]; rfl) (fun _ => ?_)
                            rw [Ren.sz_same]; omega
                        · -- elsewhere
                          have hrun := run_append_grow' (ty := ty) w ha0 ha1 ht ht' hd hi hz0 hlen hfo hfd (by omega) (by rw [hbz]; exact hc2.1.1) (by rw [hbz]; exact hc2.2)
                          have hsz1 : (w.drew.alloc (.cells (vs.toArray ++ us.toArray ++ Builtin.zeroCells zv.cells (grownCap w (len + n) cap' tb - (len + n))) tb)).heap.size = w.heap.size + 1 := World.size_alloc _ _
                          refine ⟨β.up H.size (w.heap.size, 0) ((len + n + (grownCap w (len + n) cap' tb - (len + n))) * sp), _, _, Ext.up β _ _ h.unborn_size (Nat.le_refl _), by rw [Heap.size_push, Heap.size_put]; omega, ?_, ?_, hrun⟩
                          · refine hdr.extendAt hgb etip efrz w.heap.size 0 _ (by have := h.size; omega) (by rw [hsz1]; omega) (by rw [hsz1]; show w.heap.size ≤ _; omega) ⟨rfl, rfl⟩ (fun r' hr' _ => alloc_old w.drew _ hr') ?_ ?_
                            · refine ⟨_, (0, 0), alloc_new w.drew _, f1.mono (Ren.le_up β _ _ h.unborn_size), Nat.le_refl _, f2⟩
                            · intro c x o' hcβ _ _
                              have := (h.lt c _ o' hcβ).2
                              exact absurd this (by show ¬ (w.heap.size < w.heap.size); omega)
                          · refine .sl (a := ⟨w.heap.size, 0, none⟩) (cap' := grownCap w (len + n) cap' tb) (Ren.up_same _ _ _ _) (Nat.le_refl _) hge (fun e0 => absurd e0 hsp0) (fun _ => rfl) (fun _ => ?_)
                            rw [Ren.sz_same]
                            simp only [Nat.zero_add]
                            exact Nat.le_of_eq (by congr 1; omega)
                    | _ => simp [hgb] at hv
      | _ => simp at hv
end Go.Ab
