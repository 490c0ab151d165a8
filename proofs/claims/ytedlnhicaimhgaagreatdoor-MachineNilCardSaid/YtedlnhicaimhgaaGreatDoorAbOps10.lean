import Derived.Test.YtedlnhicaimhgaaGreatDoorAbOps9
namespace Go.Ab
variable {w0 : World} {β : Ren} {H H' : Heap} {w : World} {P : Program} {dst : Option Tmp} {ty : TypeId} {pos : String} {aft : Array Edge} {g : Option (Nat × Bool)}

/-! ### Ranges -/
theorem s_rngs (h : HR w0 β H w) {t : TypeId} {x v : AV} {xv : Value} (hu : P.underlying t = some .string) (hx : V β x xv) (hv : vop (.rngs (.c x)) (Opd.ev .leaf) H = some (v, H')) : GoodV P w0 β H v H' (Instr.range t xv) w := by
  simp only [vop, Opd.ev] at hv
  cases x <;> simp only [reduceCtorEq, Option.some.injEq, Prod.mk.injEq] at hv
  obtain ⟨rfl, rfl⟩ := hv
  obtain ⟨s, rfl, hs⟩ := hx.str_inv
  refine ⟨β.up H.size (w.heap.size, 0) 0, .pointer (some ⟨w.heap.size, 0 + 0, none⟩), w.alloc (.stringIter s 0), Ext.up β _ _ h.unborn_size (Nat.le_refl _), by rw [Heap.size_push]; omega,
    h.push 0 ⟨s, rfl, hs⟩ (fun _ _ _ e => by cases e) (fun _ _ _ e => by cases e), .ptr (Ren.up_same _ _ _ _), by simp [Instr.range, run_underlying' hu]⟩

theorem decode_ascii {s : ByteArray} {pos : Nat} {x : UInt8} (h : s[pos]? = some x) (hx : x.toNat < 128) : Utf8.decode s pos = (x.toNat, 1) := by
  have h1 : s.get! (pos + 0) = x := by
    obtain ⟨hl, e⟩ := getElem?_eq_some_iff.1 h
    have hl' : pos < s.data.size := hl
    show s.data[pos + 0]! = x
    rw [Nat.add_zero, getElem!_pos s.data pos hl']
    exact e
  simp only [Utf8.decode, h1]
  rw [if_pos hx]

theorem s_nxts (h : HR w0 β H w) {x v : AV} {xv : Value} (hx : V β x xv) (hv : vop (.nxts (.c x)) (Opd.ev .leaf) H = some (v, H')) : GoodV P w0 β H v H' (Instr.next xv true ty) w := by
  simp only [vop, Opd.ev] at hv
  cases x <;> try (simp only [reduceCtorEq] at hv; done)
  rename_i b off
  obtain ⟨r, o, hβ, rfl⟩ := hx.ptr_inv
  cases off with
  | succ n => simp at hv
  | zero =>
    cases hb : H.get b with
    | none => simp [hb] at hv
    | some y =>
      cases y <;> simp only [hb, reduceCtorEq] at hv
      rename_i l p
      obtain ⟨rfl, bs, hw, hs⟩ := h.iters b l p r o hb hβ
      have hgo := run_getObj' (P := P) hw (by simp)
      have hrlt := (h.lt b r 0 hβ).2
      have hlen : l.length = bs.size := by rw [← hs, List.length_map, Array.length_toList]; rfl
      cases hp : l[p]? with
      | none =>
        simp only [hp, Option.some.injEq, Prod.mk.injEq] at hv
        obtain ⟨rfl, rfl⟩ := hv
        have : ¬ p < bs.size := by rw [← hlen]; intro hlt; rw [List.getElem?_eq_getElem hlt] at hp; cases hp
        exact GoodV.same h (.tup (.cons (.bool false) .nil)) (v' := .tuple #[.bool false]) (by simp [Instr.next, hgo, this])
      | some c =>
        obtain ⟨u, hu, rfl⟩ := str_get hs hp
        simp only [hp, Heap.blt_eq] at hv
        by_cases hc : u.toNat < 128
        · simp only [hc, decide_true, cond_true, Option.some.injEq, Prod.mk.injEq] at hv
          obtain ⟨rfl, rfl⟩ := hv
          have hlt : p < bs.size := by rw [← hlen]; exact (List.getElem?_eq_some_iff.1 hp).1
          have hso := run_setObj' (P := P) (.stringIter bs (p + 1)) hw (by simp)
          refine ⟨β, .tuple #[.bool true, .int .i64 p, .int .i32 u.toNat], _, Ext.refl _ _, by rw [Heap.size_put]; omega, h.upd hb hβ trivial rfl (fun _ _ _ e => by cases e) ⟨bs, rfl, hs⟩ (onlyAt_set hrlt),
            .tup (.cons (.bool true) (.cons (.int _ _) (.cons (.int _ _) .nil))), ?_⟩
          simp [Instr.next, hgo, hlt, decode_ascii hu hc, hso, goInt]
        · simp [hc] at hv

theorem s_rngm (h : HR w0 β H w) {t k e : TypeId} {x v : AV} {xv : Value} (hu : P.underlying t = some (.map k e)) (hx : V β x xv) (hv : vop (.rngm (.c x)) (Opd.ev .leaf) H = some (v, H')) : GoodV P w0 β H v H' (Instr.range t xv) w := by
  simp only [vop, Opd.ev] at hv
  cases x <;> simp only [reduceCtorEq] at hv
  rename_i m
  cases hx with
  | mp hβ =>
    rename_i r
    cases hg : H.get m with
    | none => simp [hg] at hv
    | some y =>
      cases y <;> simp only [hg, reduceCtorEq] at hv
      rename_i es clock
      cases es <;> simp only [reduceCtorEq, Option.some.injEq, Prod.mk.injEq] at hv
      obtain ⟨rfl, rfl⟩ := hv
      obtain ⟨es', hw, he⟩ := h.maps m [] clock r 0 hg hβ
      have hgo := run_getObj' (P := P) hw (by simp)
      refine ⟨β.up H.size (w.heap.size, 0) 0, .pointer (some ⟨w.heap.size, 0 + 0, none⟩), w.alloc (.mapIter (some r) clock #[] clock), Ext.up β _ _ h.unborn_size (Nat.le_refl _), by rw [Heap.size_push]; omega,
        h.push 0 ⟨r, clock, clock, hβ, rfl⟩ (fun _ _ _ e => by cases e) (fun _ _ _ e => by cases e), .ptr (Ren.up_same _ _ _ _), by simp [Instr.range, run_underlying' hu, hgo]⟩

theorem s_nxtm (h : HR w0 β H w) {x v : AV} {xv : Value} (hx : V β x xv) (hv : vop (.nxtm (.c x)) (Opd.ev .leaf) H = some (v, H')) : GoodV P w0 β H v H' (Instr.next xv false ty) w := by
  simp only [vop, Opd.ev] at hv
  cases x <;> try (simp only [reduceCtorEq] at hv; done)
  rename_i b off
  obtain ⟨r, o, hβ, rfl⟩ := hx.ptr_inv
  cases off with
  | succ n => simp at hv
  | zero =>
    cases hb : H.get b with
    | none => simp [hb] at hv
    | some y =>
      cases y <;> simp only [hb, reduceCtorEq] at hv
      rename_i m
      obtain ⟨rfl, m', since, last, hm, hw⟩ := h.miters b m r o hb hβ
      have hgo := run_getObj' (P := P) hw (by simp)
      cases hg : H.get m with
      | none => simp [hg] at hv
      | some y =>
        cases y <;> simp only [hg, reduceCtorEq] at hv
        rename_i es clock
        cases es <;> simp only [reduceCtorEq, Option.some.injEq, Prod.mk.injEq] at hv
        obtain ⟨rfl, rfl⟩ := hv
        obtain ⟨es', hw2, he⟩ := h.maps m [] clock m' 0 hg hm
        have hgo2 := run_getObj' (P := P) hw2 (by simp)
        have hes : es' = #[] := by
          apply Array.toList_inj.1
          generalize es'.toList = q at he ⊢
          cases he; rfl
        subst hes
        have hch : (choose (.mapNext 1)).run P w = .ok 0 w := by simp [Question.forced]
        exact GoodV.same h (.tup (.cons (.bool false) .nil)) (v' := .tuple #[.bool false]) (by simp [Instr.next, hgo, hgo2, Question.forced])

/-! ### unsafe -/
theorem s_usd (h : HR w0 β H w) {ats : Array TypeId} {x v : AV} {xv : Value} (hx : V β x xv) (hv : vop (.usd (.c x)) (Opd.ev .leaf) H = some (v, H')) : GoodV P w0 β H v H' (Builtin.unsafeSliceData_ ats ty #[xv]) w := by
  simp only [vop, Opd.ev] at hv
  cases x <;> simp only [reduceCtorEq, Option.some.injEq, Prod.mk.injEq] at hv
  case nils =>
    obtain ⟨rfl, rfl⟩ := hv
    cases hx
    exact GoodV.same h .nilp (Lib.run_unsafeSliceData_nil w _ _ _ _)
  case sl b off len cap sp =>
    cases hx with
    | sl hβ hlc hcc h3 h4 h5 =>
      rw [Heap.blt_eq] at hv
      by_cases hc : 0 < cap
      · simp only [hc, decide_true, cond_true, Option.some.injEq, Prod.mk.injEq] at hv
        obtain ⟨rfl, rfl⟩ := hv
        have haa := h4 (by omega)
        subst haa
        exact GoodV.same h (.ptr hβ) (Lib.run_unsafeSliceData_row w _ _ _ _ _ (by omega))
      · simp [hc] at hv

theorem liesAt_off {e : TypeId} (hc : P.cellsOf e = 1) (count off n : Nat) (hn : off + n ≤ count) : liesAt P P.depth e count off e n = true := by
  have hd : P.depth = (2 * (P.types.size + Made.depth) + 1) + 1 := rfl
  rw [hd]
  simp only [liesAt, Bool.or_eq_true]
  left
  rw [hd]
  simp [rowAt, hc, hn, sameLayout, Nat.mod_one]

theorem s_uss (h : HR w0 β H w) {ats : Array TypeId} {pt e : TypeId} {x n v : AV} {xv nv : Value} (ha : ats[0]? = some pt) (hp : P.underlying pt = some (.pointer e)) (hs : sizeC P e = some 1) (hx : V β x xv) (hn : V β n nv)
    (hv : vop (.uss e (.c x) (.c n)) (Opd.ev .leaf) H = some (v, H')) : GoodV P w0 β H v H' (Builtin.unsafeString_ ats ty #[xv, nv]) w := by
  simp only [vop, Opd.ev] at hv
  have hmax : IntKind.i64.max = 9223372036854775807 := rfl
  cases x <;> try (simp only [reduceCtorEq] at hv; done)
  case nilp =>
    cases n <;> try (simp only [reduceCtorEq] at hv; done)
    rename_i k n
    have := hn.int_inv
    subst this
    cases hx
    by_cases h0 : n = 0
    · subst h0
      simp only [Option.some.injEq, Prod.mk.injEq] at hv
      obtain ⟨rfl, rfl⟩ := hv
      have hdef : Builtin.unsafeString_ ats ty #[.pointer none, .int k 0] =
        (do
          let n ← asInt (.int k 0)
          let some pt := ats[0]? | stuck "unsafe.String: no argument types"
          if n < 0 then runtimePanic (.error "unsafe.String: len out of range")
          if n > IntKind.i64.max then unsupported (.unsafePointer "String: a length above the largest int")
          if n = 0 then pure (.string .empty)
          else runtimePanic (.error "unsafe.String: ptr is nil and len is not zero")) := rfl
      refine GoodV.same h (.str .empty [] (by simp)) ?_
      rw [hdef]
      simp [asInt, asIntOf, hmax, ha]
    · split at hv <;> simp_all
  case ptr b off =>
    cases n <;> try (simp only [reduceCtorEq] at hv; done)
    rename_i k n
    have := hn.int_inv
    subst this
    obtain ⟨r, o, hβ, rfl⟩ := hx.ptr_inv
    cases hc : (decide (0 < n) && Nat.beq off 0 && decide (n ≤ 9223372036854775807)) with
    | false => simp [hc] at hv
    | true =>
      simp only [hc, cond_true] at hv
      simp only [Bool.and_eq_true, decide_eq_true_eq, Nat.beq_eq] at hc
      obtain ⟨⟨hn0, rfl⟩, hn63⟩ := hc
      cases ho : H.own b with
      | none => simp [ho] at hv
      | some q =>
        obtain ⟨H1, cs, t, fl⟩ := q
        simp only [ho] at hv
        cases hc : (Nat.ble n.toNat cs.length && Nat.beq t e) with
        | false => simp [hc] at hv
        | true =>
          simp only [hc, cond_true] at hv
          simp only [Bool.and_eq_true, Nat.ble_eq, Nat.beq_eq] at hc
          obtain ⟨hnl, rfl⟩ := hc
          cases hby : bytesOf (cs.take n.toNat) with
          | none => simp [hby] at hv
          | some l =>
            simp only [hby, Option.some.injEq, Prod.mk.injEq] at hv
            obtain ⟨rfl, rfl⟩ := hv
            obtain ⟨h1, hb1, hsz1, htip, hz, hal, _⟩ := h.own ho
            obtain ⟨c', fz, hw, ⟨hcsz, hcrel⟩, hfz, hcN⟩ := h1.cells b cs t fl r o hb1 hβ
            have hblt := Heap.get_lt hb1
            have hload : H1.load b 0 n.toNat = some (cs.take n.toNat) := by
              unfold Heap.load
              rw [hb1]
              have : Nat.ble (0 + n.toNat) cs.length = true := by rw [Nat.ble_eq]; omega
              simp only [this, cond_true, List.drop_zero]
            obtain ⟨vs, hvl, hcl, hV, hcell⟩ := h1.load hload hβ
            obtain ⟨e1, e2⟩ := bytesOf_VL hby hV
            subst e1
            have hll : l.length = n.toNat := by simpa using hvl
            have hlb := Lib.run_loadBytes (P := P) w (l.map UInt8.ofNat) ⟨r, o + 0, none⟩ .empty (fun j x hx => by
              rw [List.getElem?_map, Option.map_eq_some_iff] at hx
              obtain ⟨y, hy, rfl⟩ := hx
              have := hcell j (Value.int .u8 (y : Int)) (by simp [hy])
              rw [add_eq, this]
              have hy256 := e2 y (List.mem_of_getElem? hy)
              have : (UInt8.ofNat y).toNat = y := by simp; omega
              rw [this])
            rw [List.length_map, hll] at hlb
            have hco : P.cellsOf t = 1 := by
              unfold sizeC at hs; unfold Program.cellsOf; rw [hs]; rfl
            have hsh : w.shape? r = some (t, c'.size) := by simp [World.shape?, hw]
            have hlies := liesAt_off (P := P) hco (c'.size / P.cellsOf t) (o + 0) n.toNat (by rw [hco]; simp; omega)
            have hnz : n.toNat ≠ 0 := by omega
            have hfr : (w.freeze ⟨r, o + 0, none⟩ n.toNat).heap[r]? = some (.cells c' t (if fz.1 == fz.2 then (o + 0, o + 0 + n.toNat) else (min fz.1 (o + 0), max fz.2 (o + 0 + n.toNat)))) := by
              unfold World.freeze
              rw [if_neg hnz]
              simp only [Array.getElem?_modify, hw, Option.map_some, if_true]
            have honly : OnlyAt w (w.freeze ⟨r, o + 0, none⟩ n.toNat) r (.cells c' t (if fz.1 == fz.2 then (o + 0, o + 0 + n.toNat) else (min fz.1 (o + 0), max fz.2 (o + 0 + n.toNat)))) := by
              refine ⟨?_, hfr, fun r' hr' => ?_, ?_, ?_⟩
              · unfold World.freeze; rw [if_neg hnz]; simp
              · unfold World.freeze; rw [if_neg hnz]; simp only [Array.getElem?_modify]; rw [if_neg (Ne.symm hr')]
              · unfold World.freeze; rw [if_neg hnz]
              · unfold World.freeze; rw [if_neg hnz]
            refine ⟨β, .string ⟨(l.map UInt8.ofNat).toArray⟩, w.freeze ⟨r, o + 0, none⟩ n.toNat, Ext.refl _ _, by rw [Heap.size_put]; omega,
              h1.upd hb1 hβ ⟨rfl, rfl, rfl, rfl, hal.symm, rfl⟩ rfl (fun _ _ _ e => by cases e; exact ⟨hal, hz⟩) ⟨c', _, rfl, ⟨hcsz, hcrel⟩, fun e => by simp at e, hcN⟩ honly, .str _ l ?_, ?_⟩
            · simp only [List.map_map]
              have : ∀ b ∈ l, ((fun x : UInt8 => x.toNat) ∘ UInt8.ofNat) b = b := fun b hb => by have := e2 b hb; simp; omega
              rw [List.map_congr_left this]; simp
            · have hdef : Builtin.unsafeString_ ats ty #[.pointer (some ⟨r, o + 0, none⟩), .int k n] =
                  (do
                    let n ← asInt (.int k n)
                    let some pt := ats[0]? | stuck "unsafe.String: no argument types"
                    if n < 0 then runtimePanic (.error "unsafe.String: len out of range")
                    if n > IntKind.i64.max then unsupported (.unsafePointer "String: a length above the largest int")
                    if n = 0 then pure (.string .empty)
                    else if ← variablesAt ⟨r, o + 0, none⟩ (← elemOf pt) n.toNat then do
                      let s ← loadBytes ⟨r, o + 0, none⟩ .empty n.toNat
                      freeze ⟨r, o + 0, none⟩ n.toNat
                      pure (.string s)
                    else unsupported (.unsafePointer "String: not so many bytes at ptr")) := rfl
              rw [hdef]
              have g1 : ¬ n < 0 := by omega
              have g2 : ¬ (9223372036854775807 : Int) < n := by omega
              have g3 : n ≠ 0 := by omega
              simp only [Nat.add_zero] at hlb hlies hsh ⊢
              simp [asInt, asIntOf, hmax, ha, g1, g2, g3, variablesAt, hsh, elemOf, run_underlying' hp, hlies, hlb]
end Go.Ab
