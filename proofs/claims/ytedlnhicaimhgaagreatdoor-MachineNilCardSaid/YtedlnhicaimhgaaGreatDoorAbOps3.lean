import Derived.Test.YtedlnhicaimhgaaGreatDoorAbOps2
namespace Go.Ab
variable {w0 : World} {β : Ren} {H H' : Heap} {w : World} {P : Program} {dst : Option Tmp} {ty : TypeId} {pos : String} {aft : Array Edge} {g : Option (Nat × Bool)}

theorem run_listMapM {α γ : Type} {f : α → Sem γ} {g : α → γ} : ∀ (l : List α), (∀ x ∈ l, (f x).run P w = .ok (g x) w) → (l.mapM f).run P w = .ok (l.map g) w
  | [], _ => by simp
  | x :: l, h => by
    rw [List.mapM_cons]
    simp [h x (by simp), run_listMapM l (fun y hy => h y (by simp [hy]))]
theorem run_arrayMapM {α γ : Type} {f : α → Sem γ} {g : α → γ} (a : Array α) (h : ∀ x ∈ a.toList, (f x).run P w = .ok (g x) w) : (a.mapM f).run P w = .ok (a.map g) w := by
  have e := Array.toList_mapM (f := f) (xs := a)
  have h1 := run_listMapM (P := P) (w := w) a.toList h
  rw [← e] at h1
  simp only [Sem.run_map] at h1
  cases hr : (a.mapM f).run P w with
  | ok x w' =>
    rw [hr] at h1
    simp only [Result.andThen_ok, Result.ok.injEq] at h1
    obtain ⟨h2, rfl⟩ := h1
    rw [show x = a.map g from Array.toList_inj.1 (by simpa using h2)]
  | halt x w' => rw [hr] at h1; simp at h1

theorem zero_VL {t : TypeId} {z : List AV} (hz : zeroC P t = some z) : ∃ zv, (∀ w : World, (zeroValue t).run P w = .ok zv w) ∧ VL β z zv.cells.toList ∧ z.all AV.one = true ∧ sizeC P t = some z.length := by
  obtain ⟨i, zv, a, hi, hz0, ha, rfl, hone, hl⟩ := zeroC_spec hz
  exact ⟨zv, fun w => run_zeroValue' hi hz0 w, (absV_sound (β := β) zv a ha).cells (cells_ne_any hone), hone, by simp [sizeC, hi, hl]⟩

theorem s_build {ev : Opd → AV} {ρ : Operand → Value} (h : HR w0 β H w) {t : TypeId} {ps : Array (Nat × Operand)} {i : IOp} {v : AV}
    (hc : cOp P ⟨dst, .build t ps, ty, pos, aft, g⟩ = some i) (hev : ∀ x ∈ (ps.toList.map (·.2)), ∀ x', cOpd P x = some x' → V β (ev x') (ρ x)) (hv : vop i ev H = some (v, H')) :
    GoodV P w0 β H v H' (Instr.build t (ps.map fun p => (p.1, ρ p.2))) w := by
  simp only [cOp, Option.bind_eq_bind, Option.bind_eq_some_iff] at hc
  obtain ⟨z, hz, hc⟩ := hc
  obtain ⟨zv, hzr, hzV, hzone, hzs⟩ := zero_VL (β := β) hz
  have hmap : (ps.map fun p => (p.1, ρ p.2)).toList = ps.toList.map fun p => (p.1, ρ p.2) := by simp
  have hev' : ∀ p ∈ ps.toList, ∀ x', cOpd P p.2 = some x' → V β (ev x') (ρ p.2) := fun p hp x' hx => hev p.2 (List.mem_map.2 ⟨p, hp, rfl⟩) x' hx
  cases hu : P.underlying t with
  | none => simp [hu] at hc
  | some d =>
    simp only [hu] at hc
    cases d <;> simp only [reduceCtorEq] at hc
    case struct fs =>
      cases hall : fs.toList.all (fun f => (sizeC P f.type).isSome) with
      | false => simp [hall] at hc
      | true =>
        simp only [hall, cond_true, Option.bind_eq_some_iff, Option.some.injEq] at hc
        obtain ⟨l, hl, rfl⟩ := hc
        simp only [vop] at hv
        cases hf : fillA z (l.map fun p => (p.1, p.2.1, ev p.2.2)) with
        | none => simp [hf] at hv
        | some cs =>
          simp only [hf, Option.some.injEq, Prod.mk.injEq] at hv
          obtain ⟨rfl, rfl⟩ := hv
          have hplaces := run_arrayMapM (P := P) (w := w) (f := fun f : Field => do pure (f.offset, ← sizeOf f.type)) (g := fun f => (f.offset, (sizeC P f.type).getD 0)) fs (fun f hf => by
            have := List.all_eq_true.1 hall f hf
            cases hs : sizeC P f.type with
            | none => simp [hs] at this
            | some n => simp [run_sizeOf' hs])
          obtain ⟨cv', h1, h2, _⟩ := fill_sound (β := β) (place' := ((fs.map fun f => (f.offset, (sizeC P f.type).getD 0))[·]?)) (by
            intro i x hp
            cases hfi : fs[i]? with
            | none => simp [hfi] at hp
            | some f =>
              simp only [hfi] at hp
              cases hs : sizeC P f.type with
              | none => simp [hs] at hp
              | some n => simp only [hs, Option.some.injEq] at hp; subst hp; simp [hfi, hs]) _ _ _ _ _ hl hev' hzV hf
          refine GoodV.same h (.agg h2) ?_
          simp only [Instr.build, Sem.run_bind, hzr, Result.andThen_ok, run_underlying' hu, hplaces, hmap, h1, Sem.run_pure]
    case array n e =>
      simp only [Option.bind_eq_some_iff, Option.some.injEq] at hc
      obtain ⟨s, hs, l, hl, rfl⟩ := hc
      simp only [vop] at hv
      cases hf : fillA z (l.map fun p => (p.1, p.2.1, ev p.2.2)) with
      | none => simp [hf] at hv
      | some cs =>
        simp only [hf, Option.some.injEq, Prod.mk.injEq] at hv
        obtain ⟨rfl, rfl⟩ := hv
        obtain ⟨cv', h1, h2, _⟩ := fill_sound (β := β) (place' := fun i => some (i * s, s)) (fun _ _ hp => hp) _ _ _ _ _ hl hev' hzV hf
        refine GoodV.same h (.agg h2) ?_
        simp only [Instr.build, Sem.run_bind, hzr, Result.andThen_ok, run_underlying' hu, run_sizeOf' hs, hmap, h1, Sem.run_pure]

theorem repL_VL {z : List AV} {zv : List Value} (h : VL β z zv) : ∀ n, VL β (repL z n) (repL zv n)
  | 0 => .nil
  | n + 1 => h.append (repL_VL h n)
theorem repL_all {z : List AV} (h : z.all AV.one = true) : ∀ n, (repL z n).all AV.one = true
  | 0 => rfl
  | n + 1 => by simp only [repL, List.all_append, h, repL_all h n, Bool.and_self]
theorem repL_length {α : Type} (z : List α) : ∀ n, (repL z n).length = n * z.length
  | 0 => by simp [repL]
  | n + 1 => by simp [repL, repL_length z n, Nat.succ_mul]; omega
theorem repL_get {α : Type} (z : List α) (hz : z.length ≠ 0) : ∀ n i, i < n * z.length → (repL z n)[i]? = z[i % z.length]?
  | 0, i, h => by simp at h
  | n + 1, i, h => by
    simp only [repL]
    by_cases hi : i < z.length
    · rw [List.getElem?_append_left hi, Nat.mod_eq_of_lt hi]
    · rw [List.getElem?_append_right (by omega), repL_get z hz n (i - z.length) (by rw [Nat.succ_mul] at h; omega)]
      congr 1
      rw [Nat.mod_eq_sub_mod (by omega : i ≥ z.length)]
theorem range_rep (zero : Array Value) (n s : Nat) (hs : zero.size = s) (h0 : s ≠ 0) : ((Array.range (n * s)).map (zero[· % zero.size]!)).toList = repL zero.toList n := by
  refine List.ext_getElem? fun i => ?_
  have hz : zero.toList.length = s := by simpa using hs
  by_cases hi : i < n * s
  · rw [repL_get zero.toList (by omega) n i (by rw [hz]; exact hi)]
    have hlt : i % s < zero.size := by rw [hs]; exact Nat.mod_lt _ (by omega)
    simp [hi, hs]
    rw [getElem!_pos zero (i % s) hlt, Array.getElem?_eq_getElem hlt]
  · have hl : (repL zero.toList n).length = n * s := by rw [repL_length, hz]
    rw [List.getElem?_eq_none (by simp; omega), List.getElem?_eq_none (by omega)]

theorem s_bsl {ev : Opd → AV} {ρ : Operand → Value} (h : HR w0 β H w) {t : TypeId} {len : Nat} {ps : Array (Nat × Operand)} {i : IOp} {v : AV}
    (hc : cOp P ⟨dst, .buildSlice t len ps, ty, pos, aft, g⟩ = some i) (hev : ∀ x ∈ (ps.toList.map (·.2)), ∀ x', cOpd P x = some x' → V β (ev x') (ρ x)) (hv : vop i ev H = some (v, H')) :
    GoodV P w0 β H v H' (Instr.buildSlice t len (ps.map fun p => (p.1, ρ p.2))) w := by
  have hmap : (ps.map fun p => (p.1, ρ p.2)).toList = ps.toList.map fun p => (p.1, ρ p.2) := by simp
  have hev' : ∀ p ∈ ps.toList, ∀ x', cOpd P p.2 = some x' → V β (ev x') (ρ p.2) := fun p hp x' hx => hev p.2 (List.mem_map.2 ⟨p, hp, rfl⟩) x' hx
  simp only [cOp] at hc
  cases hu : P.underlying t with
  | none => simp [hu] at hc
  | some d =>
    simp only [hu] at hc
    cases d <;> simp only [reduceCtorEq] at hc
    case slice e =>
      simp only [Option.bind_eq_bind, Option.bind_eq_some_iff] at hc
      obtain ⟨s, hs, z, hz, hc⟩ := hc
      obtain ⟨zv, hzr, hzV, hzone, hzs⟩ := zero_VL (β := β) hz
      rw [hs] at hzs
      have hsl : s = z.length := Option.some.inj hzs
      cases hcond : (Nat.ble (len * s) 16777216 && !(Nat.beq s 0)) with
      | false => simp [hcond] at hc
      | true =>
        simp only [hcond, cond_true, Option.bind_eq_some_iff, Option.some.injEq] at hc
        obtain ⟨l, hl, rfl⟩ := hc
        simp only [Bool.and_eq_true, Nat.ble_eq, Bool.not_eq_true'] at hcond
        have hs0 : s ≠ 0 := fun e => by simp [e] at hcond
        simp only [vop] at hv
        cases hf : fillA (repL z len) (l.map fun p => (p.1, p.2.1, ev p.2.2)) with
        | none => simp [hf] at hv
        | some cs =>
          simp only [hf, Option.some.injEq, Prod.mk.injEq] at hv
          obtain ⟨rfl, rfl⟩ := hv
          have hzl := hzV.length
          simp only [Array.length_toList] at hzl
          have hbig : ¬ (len * s > 2 ^ 24) := by have := hcond.1; omega
          have key : ∀ zc : Array Value, ((Array.range (len * s)).map (zc[· % zc.size]!)).toList = repL zv.cells.toList len → ∃ cv', Instr.fill (fun i => some (i * s, s)) ((Array.range (len * s)).map (zc[· % zc.size]!)) (ps.toList.map fun p => (p.1, ρ p.2)) = some cv' ∧ VL β cs cv'.toList := by
            intro zc hzc
            obtain ⟨cv', h1, h2, _⟩ := fill_sound (β := β) (place' := fun i => some (i * s, s)) (fun _ _ hp => hp) _ _ _ _ ((Array.range (len * s)).map (zc[· % zc.size]!)) hl hev' (by rw [hzc]; exact repL_VL hzV len) hf
            exact ⟨cv', h1, h2⟩
          by_cases hl0 : len * s = 0
          · have hlen : len = 0 := (Nat.mul_eq_zero.1 hl0).resolve_right hs0
            obtain ⟨cv', h1, h2⟩ := key #[] (by subst hlen; simp [repL])
            obtain ⟨β', g1, g2, g3, g5, g4⟩ := newRow_good (P := P) h e (CellRel.of_VL h2) h2.size
            refine ⟨β', _, _, g1, by rw [size_new]; omega, g2, .sl (a := ⟨w.heap.size, 0, none⟩) (cap' := len) g3 (Nat.le_refl _) (Nat.le_refl _) (fun _ => rfl) (fun _ => rfl) (fun h => absurd rfl h), ?_⟩
            simp only [Instr.buildSlice, Sem.run_bind, run_underlying' hu, Result.andThen_ok, run_sizeOf' hs, if_neg hbig, if_pos hl0, Sem.run_pure, hmap, h1, g4]
          · obtain ⟨cv', h1, h2⟩ := key zv.cells (range_rep zv.cells len s (by omega) hs0)
            obtain ⟨β', g1, g2, g3, g5, g4⟩ := newRow_good (P := P) h e (CellRel.of_VL h2) h2.size
            refine ⟨β', _, _, g1, by rw [size_new]; omega, g2, .sl (a := ⟨w.heap.size, 0, none⟩) (cap' := len) g3 (Nat.le_refl _) (Nat.le_refl _) (fun _ => rfl) (fun _ => rfl) (fun h => absurd rfl h), ?_⟩
            simp only [Instr.buildSlice, Sem.run_bind, run_underlying' hu, Result.andThen_ok, run_sizeOf' hs, if_neg hbig, if_neg hl0, hzr, Sem.run_pure, hmap, h1, g4]
end Go.Ab
