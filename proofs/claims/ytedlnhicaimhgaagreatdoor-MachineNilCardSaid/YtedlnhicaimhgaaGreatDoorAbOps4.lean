import Derived.Test.YtedlnhicaimhgaaGreatDoorAbOps3
namespace Go.Ab
variable {w0 : World} {β : Ren} {H H' : Heap} {w : World} {P : Program} {dst : Option Tmp} {ty : TypeId} {pos : String} {aft : Array Edge} {g : Option (Nat × Bool)}

theorem V.ptr_inv {b off : Nat} {v : Value} (h : V β (.ptr b off) v) : ∃ r o, β b = some (r, o) ∧ v = .pointer (some ⟨r, o + off, none⟩) := by
  cases h with | ptr h => exact ⟨_, _, h, rfl⟩
theorem V.int_inv {k : IntKind} {n : Int} {v : Value} (h : V β (.int k n) v) : v = .int k n := by cases h; rfl
theorem V.str_inv {l : List Nat} {v : Value} (h : V β (.str l) v) : ∃ s : ByteArray, v = .string s ∧ s.data.toList.map (·.toNat) = l := by
  cases h with | str s _ h => exact ⟨s, rfl, h⟩
theorem V.agg_inv {cs : List AV} {v : Value} (h : V β (.agg cs) v) : ∃ cs' : Array Value, v = .agg cs' ∧ VL β cs cs'.toList := by
  cases h with | agg h => exact ⟨_, rfl, h⟩
theorem V.tup_inv {cs : List AV} {v : Value} (h : V β (.tup cs) v) : ∃ cs' : Array Value, v = .tuple cs' ∧ VL β cs cs'.toList := by
  cases h with | tup h => exact ⟨_, rfl, h⟩

/-! ### Loads and stores -/
theorem s_ld (h : HR w0 β H w) {t : TypeId} {n b off : Nat} {ag : Bool} {x : Value} {cs : List AV} {v : AV} (hn : sizeC P t = some n) (ha : aggC P t = some ag) (hx : V β (.ptr b off) x) (hl : H.load b off n = some cs)
    (hv : v = if ag then .agg cs else cs.headD .undef) (h1 : ag = false → n = 1) : GoodV P w0 β H v H (Instr.loadAt t x) w := by
  obtain ⟨r, o, hβ, rfl⟩ := hx.ptr_inv
  obtain ⟨vs, hvl, hcl, hV, hc⟩ := h.load hl hβ
  have hrun := run_loadVar hn ha hvl hc h1
  refine GoodV.same h ?_ (v' := if ag then .agg vs.toArray else vs.headD undef) (by simp only [Instr.loadAt, Instr.sureAddr, Sem.run_bind, Sem.run_pure, Result.andThen_ok, hrun])
  subst hv
  cases ag with
  | true => exact .agg (by simpa using hV)
  | false =>
    have := h1 rfl; subst this
    cases hV with
    | nil => simp at hvl
    | cons hx hs => simpa using hx

/-- A store on both sides. -/
theorem HR.store {b off : Nat} {xs : List AV} {us : List Value} {r o : Nat} (h : HR w0 β H w) (hs : H.store b off xs = some H') (hβ : β b = some (r, o)) (hv : VL β xs us) :
    ∃ w', HR w0 β H' w' ∧ H'.size = H.size ∧ (storeCells ⟨r, o + off, none⟩ us).run P w = .ok () w' := by
  unfold Heap.store at hs
  cases hv with
  | nil =>
    simp only [Option.some.injEq] at hs
    subst hs
    exact ⟨w, h, rfl, by simp [storeCells]⟩
  | cons hx hvs =>
    rename_i x u xs us
    simp only [] at hs
    cases ho : H.own b with
    | none => simp [ho] at hs
    | some q =>
      obtain ⟨H1, cs, t, fl⟩ := q
      simp only [ho] at hs
      cases hset : setL cs off (x :: xs) with
      | none => simp [hset] at hs
      | some cs' =>
        simp only [hset, Option.some.injEq] at hs
        subst hs
        obtain ⟨h1, hb1, hsz, _, hz, hal, _⟩ := h.own ho
        obtain ⟨g1, g2⟩ := HR.stores (P := P) hal hz hβ (x :: xs) (u :: us) off 0 H1 w cs cs' h1 hb1 (.cons hx hvs) (by simpa using hset)
        exact ⟨_, g1, by rw [Heap.size_put, hsz], g2⟩

theorem s_st (h : HR w0 β H w) {t : TypeId} {n b off : Nat} {x v : Value} {y : AV} (hn : sizeC P t = some n) (hx : V β (.ptr b off) x) (hy : V β y v) (hl : y.cells.length = n)
    (hs : H.store b off y.cells = some H') (hany : y ≠ .any) : Good P w0 β H .undef H' (do Instr.storeAt t x v; pure Next.skip) w := by
  obtain ⟨r, o, hβ, rfl⟩ := hx.ptr_inv
  have hc := hy.cells hany
  obtain ⟨w', h1, h2, h3⟩ := h.store (P := P) hs hβ hc
  refine ⟨β, undef, w', Ext.refl _ _, by omega, h1, V.undef, .inr ⟨?_, rfl⟩⟩
  have hlen : v.cells.size = n := by have := hc.length; simp at this; omega
  simp only [Instr.storeAt, Instr.sureAddr, storeVar, Sem.run_bind, Sem.run_pure, Result.andThen_ok, run_sizeOf' hn, hlen, ne_eq, not_true_eq_false, if_false, h3]

theorem store_ne_any {b off : Nat} {y : AV} (h : H.store b off y.cells = some H') : y ≠ .any := fun e => by
  subst e
  simp only [AV.cells, Heap.store] at h
  cases ho : H.own b with
  | none => simp [ho] at h
  | some q => simp [ho, setL, AV.one] at h

/-! ### Addresses and parts -/
theorem s_fad (h : HR w0 β H w) {t : TypeId} {fs : Array Field} {f : Field} {i n b off : Nat} {x : Value} (hu : P.underlying t = some (.struct fs)) (hf : fs[i]? = some f) (hn : sizeC P f.type = some n) (h0 : n ≠ 0)
    (hx : V β (.ptr b off) x) : GoodV P w0 β H (.ptr b (off + f.offset)) H (Instr.fieldAt t x i) w := by
  obtain ⟨r, o, hβ, rfl⟩ := hx.ptr_inv
  refine GoodV.same h (.ptr hβ) ?_
  simp only [Instr.fieldAt, Sem.run_bind, run_underlying' hu, Result.andThen_ok, hf, Instr.sureAddr, Sem.run_pure, fieldPlace, run_sizeOf' hn, if_neg h0, add_eq, Nat.add_assoc]

theorem run_part {t : TypeId} {n off : Nat} {ag : Bool} {cs : Array Value} {v : Value} (hn : sizeC P t = some n) (ha : aggC P t = some ag)
    (hv : if ag then v = .agg (cs.extract off (off + n)) else cs[off]? = some v) : (part t cs off).run P w = .ok v w := by
  cases ag with
  | true => simp only [if_true] at hv; subst hv; simp [part, run_isAgg' ha, run_sizeOf' hn]
  | false => simp only [Bool.false_eq_true, if_false] at hv; simp [part, run_isAgg' ha, hv]

theorem VL.extract {cs : List AV} {cs' : Array Value} (h : VL β cs cs'.toList) (off n : Nat) : VL β ((cs.drop off).take n) (cs'.extract off (off + n)).toList := by
  have := (h.drop off).take n
  rwa [show (cs'.extract off (off + n)).toList = (cs'.toList.drop off).take n from by simp]

theorem part_V {t : TypeId} {n off : Nat} {ag : Bool} {cs : List AV} {cs' : Array Value} {v : AV} (hn : sizeC P t = some n) (ha : aggC P t = some ag) (hc : VL β cs cs'.toList)
    (hv : if ag then v = .agg ((cs.drop off).take n) else cs[off]? = some v) : ∃ v', V β v v' ∧ (part t cs' off).run P w = .ok v' w := by
  cases ag with
  | true =>
    simp only [if_true] at hv; subst hv
    exact ⟨_, .agg (hc.extract off n), run_part hn ha (by simp)⟩
  | false =>
    simp only [Bool.false_eq_true, if_false] at hv
    obtain ⟨y, hy, hV⟩ := hc.get hv
    exact ⟨y, hV, run_part hn ha (by simpa using hy)⟩

theorem s_fld (h : HR w0 β H w) {t : TypeId} {fs : Array Field} {f : Field} {i n : Nat} {ag : Bool} {x : Value} {cs : List AV} {v : AV} (hu : P.underlying t = some (.struct fs)) (hf : fs[i]? = some f) (hn : sizeC P f.type = some n)
    (ha : aggC P f.type = some ag) (hx : V β (.agg cs) x) (hv : if ag then v = .agg ((cs.drop f.offset).take n) else cs[f.offset]? = some v) : GoodV P w0 β H v H (Instr.field t x i) w := by
  obtain ⟨cs', rfl, hc⟩ := hx.agg_inv
  obtain ⟨v', h1, h2⟩ := part_V (w := w) hn ha hc hv
  exact GoodV.same h h1 (by simp only [Instr.field, Sem.run_bind, run_underlying' hu, Result.andThen_ok, hf, asAgg, Sem.run_pure, h2])

theorem s_iad (h : HR w0 β H w) {t e : TypeId} {s b off len cap sp : Nat} {k : IntKind} {i : Int} {x ix : Value} (hu : P.underlying t = some (.slice e)) (hs : sizeC P e = some s) (hx : V β (.sl b off len cap sp) x) (hi : V β (.int k i) ix)
    (h0 : 0 ≤ i) (h1 : i < (len : Int)) : GoodV P w0 β H (.ptr b (off + i.toNat * s)) H (Instr.indexAt t x ix) w := by
  have := hi.int_inv; subst this
  cases hx with
  | sl hβ hlc hcc h3 h4 h5 =>
    have ha := h4 (by omega)
    subst ha
    refine GoodV.same h (.ptr hβ) ?_
    simp only [Instr.indexAt, Sem.run_bind, run_asIntOf, Result.andThen_ok, run_underlying' hu, Sem.run_pure]
    simp only [Bool.and_false, if_pos (And.intro h0 h1), Sem.run_bind, run_sizeOf' hs, Result.andThen_ok, Sem.run_pure, add_eq, Nat.add_assoc]

theorem s_iada (h : HR w0 β H w) {t e : TypeId} {n s b off : Nat} {k : IntKind} {i : Int} {x ix : Value} (hu : P.underlying t = some (.array n e)) (hs : sizeC P e = some s) (hx : V β (.ptr b off) x) (hi : V β (.int k i) ix)
    (h0 : 0 ≤ i) (h1 : i < (n : Int)) : GoodV P w0 β H (.ptr b (off + i.toNat * s)) H (Instr.indexAt t x ix) w := by
  have := hi.int_inv; subst this
  obtain ⟨r, o, hβ, rfl⟩ := hx.ptr_inv
  refine GoodV.same h (.ptr hβ) ?_
  simp only [Instr.indexAt, Sem.run_bind, run_asIntOf, Result.andThen_ok, run_underlying' hu, Instr.sureAddr, Sem.run_pure]
  simp only [if_pos (And.intro h0 h1), Sem.run_bind, run_sizeOf' hs, Result.andThen_ok, Sem.run_pure, add_eq, Nat.add_assoc]

theorem str_get {s : ByteArray} {l : List Nat} (hl : s.data.toList.map (·.toNat) = l) {i b : Nat} (h : l[i]? = some b) : ∃ x : UInt8, s[i]? = some x ∧ x.toNat = b := by
  subst hl
  rw [List.getElem?_map, Option.map_eq_some_iff] at h
  obtain ⟨x, hx, rfl⟩ := h
  refine ⟨x, ?_, rfl⟩
  rw [Array.getElem?_toList] at hx
  have hlt : i < s.data.size := (Array.getElem?_eq_some_iff.1 hx).1
  have : s[i]? = some s[i] := getElem?_pos s i hlt
  rw [this]
  rw [Array.getElem?_eq_getElem hlt] at hx
  exact hx

theorem s_idxs (h : HR w0 β H w) {t : TypeId} {l : List Nat} {k : IntKind} {i : Int} {b : Nat} {x ix : Value} (hu : P.underlying t = some .string) (hx : V β (.str l) x) (hi : V β (.int k i) ix)
    (h0 : 0 ≤ i) (hb : l[i.toNat]? = some b) : GoodV P w0 β H (.int .u8 b) H (Instr.index t x ix) w := by
  have := hi.int_inv; subst this
  obtain ⟨s, rfl, hs⟩ := hx.str_inv
  obtain ⟨y, hy, rfl⟩ := str_get hs hb
  refine GoodV.same h (.int _ _) ?_
  simp only [Instr.index, Sem.run_bind, run_asIntOf, Result.andThen_ok, run_underlying' hu, if_pos h0, hy, Sem.run_pure]

theorem s_idxa (h : HR w0 β H w) {t e : TypeId} {n s : Nat} {ag : Bool} {k : IntKind} {i : Int} {x ix : Value} {cs : List AV} {v : AV} (hu : P.underlying t = some (.array n e)) (hs : sizeC P e = some s) (ha : aggC P e = some ag)
    (hx : V β (.agg cs) x) (hi : V β (.int k i) ix) (h0 : 0 ≤ i) (h1 : i < (n : Int)) (hv : if ag then v = .agg ((cs.drop (i.toNat * s)).take s) else cs[i.toNat * s]? = some v) : GoodV P w0 β H v H (Instr.index t x ix) w := by
  have := hi.int_inv; subst this
  obtain ⟨cs', rfl, hc⟩ := hx.agg_inv
  obtain ⟨v', g1, g2⟩ := part_V (w := w) hs ha hc hv
  refine GoodV.same h g1 ?_
  simp only [Instr.index, Sem.run_bind, run_asIntOf, Result.andThen_ok, run_underlying' hu, if_pos (And.intro h0 h1), run_sizeOf' hs, g2]

theorem s_nilc (h : HR w0 β H w) {x : AV} {v : Value} {ρ : Operand → Value} {y : Operand} (hy : ρ y = v) (hx : V β x v) (hk : (∃ b off, x = .ptr b off) ∨ (∃ f a c, x = .fn f a c) ∨ (∃ t u, x = .iface t u)) :
    Good P w0 β H x H (execOp ρ ⟨dst, .nilCheck y, ty, pos, aft, g⟩) w := by
  refine Good.mk0 h hx ?_
  simp only [execOp, hy]
  rcases hk with ⟨b, off, rfl⟩ | ⟨f, a, c, rfl⟩ | ⟨t, u, rfl⟩ <;> cases hx <;> simp

/-! ### A slice made with a length -/
theorem s_mks (h : HR w0 β H w) {t e : TypeId} {es bytes : Nat} {z : List AV} {k1 k2 : IntKind} {a b : Int} {l c : Value} (hu : P.underlying t = some (.slice e)) (hes : sizeC P e = some es) (hby : bytesC P e = some bytes) (hz : zeroC P e = some z)
    (hl : V β (.int k1 a) l) (hc : V β (.int k2 b) c) (h0 : 0 ≤ a) (hab : a ≤ b) (hb : b ≤ 140737488355328) (hbb : b * bytes ≤ 140737488355328) :
    GoodV P w0 β H (.sl H.size 0 a.toNat b.toNat 0) (H.new e (repL z b.toNat)) (Instr.makeSlice t l c) w := by
  have := hl.int_inv; subst this
  have := hc.int_inv; subst this
  obtain ⟨zv, hzr, hzV, hzone, hzs⟩ := zero_VL (β := β) hz
  rw [hes] at hzs
  have hsl : es = z.length := Option.some.inj hzs
  have hzl := hzV.length
  simp only [Array.length_toList] at hzl
  obtain ⟨i, hi, hbi⟩ : ∃ i, P.info? e = some i ∧ i.bytes = bytes := by
    unfold bytesC at hby
    cases hi : P.info? e with
    | none => simp [hi] at hby
    | some i => simp [hi] at hby; exact ⟨i, rfl, hby⟩
  have wrapA : ∀ n : Int, 0 ≤ n → n ≤ 140737488355328 → IntKind.i64.wrap n = n := by
    intro n h1 h2
    have e1 : (2 ^ IntKind.i64.bits : Int) = 18446744073709551616 := by decide
    have e2 : (2 ^ (IntKind.i64.bits - 1) : Int) = 9223372036854775808 := by decide
    unfold IntKind.wrap
    rw [e1, e2]
    have : n % 18446744073709551616 = n := by omega
    simp only [this]
    rw [if_neg]
    simp; intro _; omega
  have wa := wrapA a h0 (by omega)
  have wb := wrapA b (by omega) hb
  have hmul : (bytes : Int) * b = b * bytes := Int.mul_comm _ _
  have hmula : (bytes : Int) * a ≤ b * bytes := by rw [Int.mul_comm]; exact Int.mul_le_mul_of_nonneg_right hab (by omega)
  have htoo : ((decide (b < 0) || decide ((bytes : Int) * b > 2 ^ 48)) || decide (a < 0) || decide (a > b)) = false := by
    have e3 : (2 ^ 48 : Int) = 281474976710656 := by decide
    rw [hmul, e3]
    simp; omega
  have key : ∀ zc : Array Value, ((Array.range (b.toNat * es)).map (zc[· % zc.size]!)).toList = repL zv.cells.toList b.toNat →
      CellRel β (repL z b.toNat) 0 ((Array.range (b.toNat * es)).map (zc[· % zc.size]!)) := fun zc hzc => CellRel.of_VL (by rw [hzc]; exact repL_VL hzV _)
  have hle : a.toNat ≤ b.toNat := by omega
  by_cases hn : b.toNat * es = 0
  · have hnil : repL zv.cells.toList b.toNat = [] := by
      apply List.eq_nil_of_length_eq_zero
      rw [repL_length]; simp only [Array.length_toList]; rw [← hzl, ← hsl]; exact hn
    obtain ⟨β', g1, g2, g3, g5, g4⟩ := newRow_good (P := P) h e (key #[] (by rw [hnil, hn]; simp)) (by rw [repL_length, ← hsl, hn]; simp [hn])
    refine ⟨β', _, _, g1, by rw [size_new]; omega, g2, .sl (a := ⟨w.heap.size, 0, none⟩) (cap' := b.toNat) g3 hle (Nat.le_refl _) (fun _ => rfl) (fun _ => rfl) (fun h => absurd rfl h), ?_⟩
    simp only [Instr.makeSlice, Sem.run_bind, run_underlying' hu, Result.andThen_ok, run_asInt, run_typeInfo' hi, hbi, wa, wb, htoo, Bool.false_eq_true, if_false, run_askRoom, run_sizeOf' hes, if_pos hn, Sem.run_pure, g4]
  · obtain ⟨β', g1, g2, g3, g5, g4⟩ := newRow_good (P := P) h e (key zv.cells (range_rep zv.cells b.toNat es (by omega) (fun h => hn (by rw [h]; simp)))) (by rw [repL_length, ← hsl]; simp)
    refine ⟨β', _, _, g1, by rw [size_new]; omega, g2, .sl (a := ⟨w.heap.size, 0, none⟩) (cap' := b.toNat) g3 hle (Nat.le_refl _) (fun _ => rfl) (fun _ => rfl) (fun h => absurd rfl h), ?_⟩
    simp only [Instr.makeSlice, Sem.run_bind, run_underlying' hu, Result.andThen_ok, run_asInt, run_typeInfo' hi, hbi, wa, wb, htoo, Bool.false_eq_true, if_false, run_askRoom, run_sizeOf' hes, if_neg hn, hzr, Sem.run_pure, g4]
end Go.Ab
