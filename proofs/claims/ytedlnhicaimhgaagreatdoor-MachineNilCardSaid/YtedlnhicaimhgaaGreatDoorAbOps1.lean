import Derived.Test.YtedlnhicaimhgaaGreatDoorAbHeap2
/-!
Operation by operation: what the abstract machine answers, the model answers.
-/
namespace Go.Ab
variable {w0 : World} {β : Ren} {H H' : Heap} {w : World} {P : Program}

/-- What an operation of the model comes to. -/
def OpRes (r : Result Next) (v' : Value) (w' : World) : Prop := r = .ok (.value v') w' ∨ (r = .ok .skip w' ∧ v' = Go.undef)

/-- What is to be shown of an operation. -/
def Good (P : Program) (w0 : World) (β : Ren) (H : Heap) (v : AV) (H' : Heap) (s : Sem Next) (w : World) : Prop :=
  ∃ β' v' w', Ext β H.size β' ∧ H.size ≤ H'.size ∧ HR w0 β' H' w' ∧ V β' v v' ∧ OpRes (s.run P w) v' w'

theorem Good.mk0 {v : AV} {v' : Value} {s : Sem Next} (h : HR w0 β H w) (hv : V β v v') (hs : s.run P w = .ok (.value v') w) : Good P w0 β H v H s w :=
  ⟨β, v', w, Ext.refl _ _, Nat.le_refl _, h, hv, .inl hs⟩

/-- The common shape of an operation: a value. -/
theorem Good.val {v : AV} {v' : Value} {s : Sem Value} (h : HR w0 β H w) (hv : V β v v') (hs : s.run P w = .ok v' w) : Good P w0 β H v H (do pure (Next.value (← s)) : Sem Next) w :=
  Good.mk0 h hv (by simp [hs])

theorem cOpds_VL {ev : Opd → AV} {ρ : Operand → Value} : ∀ {l : List Operand} {l' : List Opd}, cOpds P l = some l' → (∀ x ∈ l, ∀ x', cOpd P x = some x' → V β (ev x') (ρ x)) → VL β (l'.map ev) (l.map ρ)
  | [], l', h, _ => by simp [cOpds] at h; subst h; exact .nil
  | x :: l, l', h, hev => by
    simp only [cOpds] at h
    split at h
    · rename_i a r ha hr
      simp at h; subst h
      exact .cons (hev x (by simp) a ha) (cOpds_VL hr fun y hy => hev y (by simp [hy]))
    · simp at h

theorem run_asIntOf (k : IntKind) (n : Int) (w : World) : (asIntOf (.int k n)).run P w = .ok (k, n) w := rfl
theorem run_asInt (k : IntKind) (n : Int) (w : World) : (asInt (.int k n)).run P w = .ok n w := by simp [asInt, asIntOf]
theorem run_underlying' {t : TypeId} {d : TypeDesc} (h : P.underlying t = some d) (w : World) : (underlying t).run P w = .ok d w := by simp [underlying, h]
theorem run_typeInfo' {t : TypeId} {i : TypeInfo} (h : P.info? t = some i) (w : World) : (typeInfo t).run P w = .ok i w := by simp [typeInfo, h]
theorem run_sizeOf' {t : TypeId} {n : Nat} (h : sizeC P t = some n) (w : World) : (sizeOf t).run P w = .ok n w := by
  unfold sizeC at h
  cases hi : P.info? t with
  | none => simp [hi] at h
  | some i => simp [hi] at h; simp [sizeOf, run_typeInfo' hi, h]
theorem run_isAgg' {t : TypeId} {b : Bool} (h : aggC P t = some b) (w : World) : (isAgg t).run P w = .ok b w := by
  unfold aggC at h
  cases hu : P.underlying t with
  | none => simp [hu] at h
  | some d => cases d <;> simp [hu] at h <;> subst h <;> simp [isAgg, run_underlying' hu]

/-! ### Integers, strings -/
theorem s_aint {op : BinOp} {k : IntKind} {a b : Int} {v : AV} (hv : aint op k a b = some v)  :
    ∃ v', V β v v' ∧ (match op with
      | .add | .sub | .mul => Op.intArith op k a b
      | .quo | .rem => Op.intDiv op k a b
      | .and | .or | .xor | .andNot => Op.intBits op k a b
      | _ => Op.intCmp op a b).run P w = .ok v' w ∧ op ≠ .shl ∧ op ≠ .shr := by
  cases op <;> simp only [aint, Option.some.injEq, reduceCtorEq] at hv
  case quo | rem =>
    cases hb : (b == 0) with
    | true => simp [hb] at hv
    | false =>
      have hb' : b ≠ 0 := by simpa using hb
      simp only [hb, cond_false, Option.some.injEq] at hv
      subst hv
      exact ⟨_, .int _ _, by simp [Op.intDiv, hb'], by simp, by simp⟩
  all_goals subst hv
  all_goals first
    | exact ⟨_, .int _ _, by simp [Op.intArith, Op.intBits], by simp, by simp⟩
    | exact ⟨_, .bool _, by simp [Op.intCmp], by simp, by simp⟩

theorem map_toNat_inj : ∀ (a b : List UInt8), a.map (·.toNat) = b.map (·.toNat) → a = b
  | [], [], _ => rfl
  | [], _ :: _, h => by simp at h
  | _ :: _, [], h => by simp at h
  | x :: a, y :: b, h => by
    simp only [List.map_cons, List.cons.injEq] at h
    rw [UInt8.toNat_inj.1 h.1, map_toNat_inj a b h.2]
theorem eqS_eq : ∀ (a b : List Nat), eqS a b = decide (a = b)
  | [], [] => by simp [eqS]
  | [], _ :: _ => by simp [eqS]
  | _ :: _, [] => by simp [eqS]
  | x :: a, y :: b => by
    have hb : Nat.beq x y = decide (x = y) := by rw [Bool.eq_iff_iff]; simp
    simp only [eqS, hb, eqS_eq a b, List.cons.injEq]
    by_cases h1 : x = y <;> by_cases h2 : a = b <;> simp [h1, h2]
theorem eqS_bytes (a b : List UInt8) : eqS (a.map (·.toNat)) (b.map (·.toNat)) = (a == b) := by
  rw [eqS_eq, Bool.eq_iff_iff]
  simp only [decide_eq_true_eq, beq_iff_eq]
  exact ⟨map_toNat_inj a b, fun h => by rw [h]⟩
theorem lexLt_bytes : ∀ (a b : List UInt8), lexLt (a.map (·.toNat)) (b.map (·.toNat)) = Op.bytesLess a b
  | [], [] => by simp [lexLt, Op.bytesLess]
  | [], _ :: _ => by simp [lexLt, Op.bytesLess]
  | _ :: _, [] => by simp [lexLt, Op.bytesLess]
  | x :: a, y :: b => by
    have hb : Nat.beq x.toNat y.toNat = (x == y) := by rw [Bool.eq_iff_iff]; simp [UInt8.toNat_inj]
    have hl : Nat.blt x.toNat y.toNat = decide (x < y) := by rw [Heap.blt_eq, Bool.eq_iff_iff]; simp [UInt8.lt_iff_toNat_lt]
    simp only [List.map_cons, lexLt, Op.bytesLess, lexLt_bytes a b, hb, hl]

theorem toList_data (s : ByteArray) : s.toList = s.data.toList := by
  simpa using ByteArray.toList_eq s

theorem s_astr {op : BinOp} {a b : ByteArray} {v : AV} (hv : astr op (a.data.toList.map (·.toNat)) (b.data.toList.map (·.toNat)) = some v) :
    ∃ v', V β v v' ∧ (Op.stringOp op a b).run P w = .ok v' w := by
  have la : (a.data.toList.map (·.toNat)).length = a.size := by rw [List.length_map, Array.length_toList]; rfl
  have lb : (b.data.toList.map (·.toNat)).length = b.size := by rw [List.length_map, Array.length_toList]; rfl
  cases op <;> simp only [astr, reduceCtorEq] at hv
  case add =>
    rw [la, lb] at hv
    by_cases hle : ((a.size + b.size : Nat) : Int) ≤ 9223372036854775807
    · rw [show decide (((a.size + b.size : Nat) : Int) ≤ 9223372036854775807) = true from decide_eq_true hle] at hv
      simp only [cond_true, Option.some.injEq] at hv
      subst hv
      refine ⟨_, .str (a ++ b) _ (by simp), ?_⟩
      have : ¬ ((a.size + b.size : Nat) : Int) > IntKind.i64.max := by
        have : IntKind.i64.max = 9223372036854775807 := by decide
        rw [this]; omega
      simp only [Op.stringOp, if_neg this, Sem.run_pure]
    · rw [show decide (((a.size + b.size : Nat) : Int) ≤ 9223372036854775807) = false from decide_eq_false hle] at hv
      simp at hv
  all_goals
    simp only [Option.some.injEq] at hv
    subst hv
    refine ⟨_, .bool _, ?_⟩
    simp only [Op.stringOp, toList_data, eqS_bytes, lexLt_bytes, Sem.run_pure]
end Go.Ab
namespace Go.Ab
variable {w0 : World} {β : Ren} {H H' : Heap} {w : World} {P : Program}

/-! ### Reading and writing cells -/
theorem cell_of {r o i : Nat} {c' : Array Value} {t : TypeId} {fz : Nat × Nat} {v : Value} (hw : w.heap[r]? = some (.cells c' t fz)) (hv : c'[o + i]? = some v) :
    w.cell? ⟨r, o + i, none⟩ = some v := by simp [World.cell?, hw, hv]
theorem add_eq (r o n : Nat) : (⟨r, o, none⟩ : Addr).add n = ⟨r, o + n, none⟩ := by
  unfold Addr.add; by_cases h : n = 0 <;> simp [h]

/-- Cells in a row are loaded. -/
theorem run_loadCellsFrom (r o : Nat) : ∀ (n i : Nat) (acc : Array Value) (vs : List Value), vs.length = n → (∀ (j : Nat) (v : Value), vs[j]? = some v → w.cell? ⟨r, o + (i + j), none⟩ = some v) →
    (loadCellsFrom ⟨r, o, none⟩ i n acc).run P w = .ok (acc ++ vs.toArray) w
  | 0, i, acc, vs, hl, h => by
    have : vs = [] := by simpa using hl
    subst this; simp [loadCellsFrom]
  | n + 1, i, acc, [], hl, h => by simp at hl
  | n + 1, i, acc, v :: vs, hl, h => by
    have h0 := h 0 v rfl
    simp only [Nat.add_zero] at h0
    have ih := run_loadCellsFrom r o n (i + 1) (acc.push v) vs (by simpa using hl) (fun j u hu => by have := h (j + 1) u (by simpa using hu); rw [show i + 1 + j = i + (j + 1) from by omega]; exact this)
    simp only [loadCellsFrom, add_eq, Sem.run_bind, run_load, h0, Result.andThen_ok, ih]
    simp
theorem run_loadCells (r o n : Nat) (vs : List Value) (hl : vs.length = n) (h : ∀ (j : Nat) (v : Value), vs[j]? = some v → w.cell? ⟨r, o + j, none⟩ = some v) :
    (loadCells ⟨r, o, none⟩ n).run P w = .ok vs.toArray w := by
  have := run_loadCellsFrom (P := P) (w := w) r o n 0 #[] vs hl (fun j v hv => by simpa using h j v hv)
  simpa [loadCells] using this

/-- A load on our side, and the values that lie there on the other. -/
theorem HR.load {b off n : Nat} {cs : List AV} {r o : Nat} (h : HR w0 β H w) (hl : H.load b off n = some cs) (hβ : β b = some (r, o)) :
    ∃ vs : List Value, vs.length = n ∧ cs.length = n ∧ VL β cs vs ∧ (∀ (j : Nat) (v : Value), vs[j]? = some v → w.cell? ⟨r, o + off + j, none⟩ = some v) := by
  unfold Heap.load at hl
  cases hb : H.get b with
  | none => simp [hb] at hl
  | some x =>
    cases x with
    | cells xs t fl =>
      simp only [hb] at hl
      have hble : Nat.ble (off + n) xs.length = decide (off + n ≤ xs.length) := by rw [Bool.eq_iff_iff]; simp [Nat.ble_eq]
      rw [hble] at hl
      by_cases hle : off + n ≤ xs.length
      · rw [decide_eq_true hle] at hl
        simp only [cond_true, Option.some.injEq] at hl
        subst hl
        obtain ⟨c', fz, hw, ⟨hsz, hc⟩, _, _⟩ := h.cells b xs t fl r o hb hβ
        refine ⟨(c'.toList.drop (o + off)).take n, ?_, ?_, ?_, ?_⟩
        · simp; omega
        · simp; omega
        · refine VL.of_get (by simp; omega) fun i x y hx hy => ?_
          rw [List.getElem?_take] at hx hy
          by_cases hi : i < n
          · rw [if_pos hi, List.getElem?_drop] at hx hy
            obtain ⟨v, hv, hV⟩ := hc _ _ hx
            rw [Array.getElem?_toList] at hy
            rw [show o + (off + i) = o + off + i from by omega, hy] at hv
            cases hv; exact hV
          · rw [if_neg hi] at hx; cases hx
        · intro j v hv
          rw [List.getElem?_take] at hv
          by_cases hi : j < n
          · rw [if_pos hi, List.getElem?_drop, Array.getElem?_toList] at hv
            exact cell_of hw hv
          · rw [if_neg hi] at hv; cases hv
      · rw [decide_eq_false hle] at hl; simp at hl
    | _ => simp [hb] at hl

theorem run_loadVar {t : TypeId} {n : Nat} {r o : Nat} {vs : List Value} {ag : Bool} (hn : sizeC P t = some n) (ha : aggC P t = some ag) (hl : vs.length = n)
    (h : ∀ (j : Nat) (v : Value), vs[j]? = some v → w.cell? ⟨r, o + j, none⟩ = some v) (h1 : ag = false → n = 1) :
    (loadVar t ⟨r, o, none⟩).run P w = .ok (if ag then .agg vs.toArray else vs.headD undef) w := by
  cases ag with
  | true => simp [loadVar, run_isAgg' ha, run_sizeOf' hn, run_loadCells r o n vs hl h]
  | false =>
    have hn1 := h1 rfl
    subst hn1
    match vs, hl with
    | [v], _ =>
      have := h 0 v rfl
      simp only [Nat.add_zero] at this
      simp [loadVar, run_isAgg' ha, this]

/-- One cell is written. -/
theorem HR.set1 {b i : Nat} {cs : List AV} {t : TypeId} {fl : Fl} {r o : Nat} {x : AV} {v : Value} (h : HR w0 β H w) (hb : H.get b = some (.cells cs t fl)) (hβ : β b = some (r, o))
    (ha : fl.alone = true) (hz : fl.frz = false) (hi : i < cs.length) (hx : V β x v) :
    HR w0 β (H.put b (.cells (cs.set i x) t fl)) (w.setCell ⟨r, o + i, none⟩ v) ∧ (∃ u, w.cell? ⟨r, o + i, none⟩ = some u) ∧ w.frozen? ⟨r, o + i, none⟩ = false := by
  obtain ⟨c', fz, hw, ⟨hsz, hc⟩, hfz, hN⟩ := h.cells b cs t fl r o hb hβ
  have hlt : o + i < c'.size := by omega
  have hr : r < w.heap.size := (h.lt b r o hβ).2
  have hnew : (w.setCell ⟨r, o + i, none⟩ v).heap[r]? = some (.cells (c'.setIfInBounds (o + i) v) t fz) := by
    simp only [World.setCell, Array.getElem?_modify, hw, Option.map_some, if_true]; simp
  refine ⟨h.upd hb hβ ?_ rfl (fun _ _ _ e => by cases e; exact ⟨ha, hz⟩) (o := o) (r := r) ?_ ⟨by simp [World.setCell], hnew, ?_, rfl, rfl⟩, ?_, ?_⟩
  · exact ⟨by simp, rfl, rfl, rfl, rfl, rfl⟩
  · refine ⟨_, fz, rfl, ⟨by simpa using hsz, fun j y hy => ?_⟩, hfz, by simpa using hN⟩
    rw [List.getElem?_set] at hy
    by_cases e : i = j
    · subst e
      rw [if_pos rfl, if_pos hi] at hy
      cases hy
      exact ⟨v, by simp [hlt], hx⟩
    · rw [if_neg e] at hy
      obtain ⟨u, hu, hV⟩ := hc j y hy
      exact ⟨u, by rw [Array.getElem?_setIfInBounds_ne (by omega)]; exact hu, hV⟩
  · intro r' hr'
    simp only [World.setCell, Array.getElem?_modify]
    rw [if_neg (by simpa using Ne.symm hr')]
  · exact ⟨c'[o + i], cell_of hw (by simp [hlt])⟩
  · simp only [World.frozen?, hw]
    have := hfz hz
    simp; omega

/-- Cells in a row are written. -/
theorem HR.stores {b : Nat} {t : TypeId} {fl : Fl} {r o : Nat} (ha : fl.alone = true) (hz : fl.frz = false) (hβ : β b = some (r, o)) :
    ∀ (vs : List AV) (us : List Value) (off i : Nat) (H : Heap) (w : World) (cs cs' : List AV), HR w0 β H w → H.get b = some (.cells cs t fl) → VL β vs us → setL cs (off + i) vs = some cs' →
      HR w0 β (H.put b (.cells cs' t fl)) (us.zipIdx.foldl (fun w p => w.setCell ⟨r, o + off + (i + p.2), none⟩ p.1) w) ∧
      (storeCells ⟨r, o + off, none⟩ us i).run P w = .ok () (us.zipIdx.foldl (fun w p => w.setCell ⟨r, o + off + (i + p.2), none⟩ p.1) w)
  | [], _, off, i, H, w, cs, cs', h, hb, .nil, hs => by
    simp only [setL, Option.some.injEq] at hs
    subst hs
    have hblt := Heap.get_lt hb
    refine ⟨h.congr (Heap.size_put _ _ _) fun c => ?_, by simp [storeCells]⟩
    rw [Heap.get_put]
    by_cases e : c = b
    · subst e; simp [hblt, hb]
    · simp [e]
  | x :: vs, u :: us, off, i, H, w, cs, cs', h, hb, .cons hx hvs, hs => by
    simp only [setL] at hs
    have hlt : Nat.blt (off + i) cs.length = decide (off + i < cs.length) := Heap.blt_eq _ _
    rw [hlt] at hs
    cases hone : x.one with
    | false => simp [hone] at hs
    | true =>
      by_cases hi : off + i < cs.length
      · rw [decide_eq_true hi, hone] at hs
        simp only [Bool.and_self, cond_true] at hs
        obtain ⟨h1, ⟨u0, hu0⟩, hfz⟩ := h.set1 hb hβ ha hz hi hx
        have hblt := Heap.get_lt hb
        have hb1 : (H.put b (.cells (cs.set (off + i) x) t fl)).get b = some (.cells (cs.set (off + i) x) t fl) := by rw [Heap.get_put, if_pos ⟨rfl, hblt⟩]
        have ih := HR.stores ha hz hβ vs us off (i + 1) _ _ _ cs' h1 hb1 hvs (by rw [show off + (i + 1) = off + i + 1 from by omega]; exact hs)
        have hfold : ((u :: us).zipIdx.foldl (fun w p => w.setCell ⟨r, o + off + (i + p.2), none⟩ p.1) w) =
            us.zipIdx.foldl (fun w p => w.setCell ⟨r, o + off + (i + 1 + p.2), none⟩ p.1) (w.setCell ⟨r, o + (off + i), none⟩ u) := by
          rw [List.zipIdx_cons, List.foldl_cons]
          simp only [Nat.add_zero]
          rw [List.zipIdx_succ, List.foldl_map]
          congr 1
          · funext w p; rw [show i + (p.2 + 1) = i + 1 + p.2 from by omega]
          · rw [show o + off + i = o + (off + i) from by omega]
        rw [hfold]
        refine ⟨ih.1.congr (by simp [Heap.size_put]) fun c => ?_, ?_⟩
        · rw [Heap.get_put, Heap.get_put, Heap.get_put, Heap.size_put]
          by_cases e : c = b <;> simp [e, hblt]
        · simp only [storeCells, add_eq, Sem.run_bind, run_store _ _ _ _ _ (hx.one hone)]
          rw [show o + off + i = o + (off + i) from by omega, hu0]
          simp only [hfz, Bool.false_eq_true, if_false, Result.andThen_ok]
          exact ih.2
      · rw [decide_eq_false hi] at hs; simp at hs
end Go.Ab
