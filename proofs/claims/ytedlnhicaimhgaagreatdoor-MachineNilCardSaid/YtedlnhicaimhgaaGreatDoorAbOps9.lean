import Derived.Test.YtedlnhicaimhgaaGreatDoorAbOps8
import Derived.Laws.BytesString
import Derived.Laws.LoneSync
import Derived.Lib.UnsafeStr
namespace Go.Ab
variable {w0 : World} {β : Ren} {H H' : Heap} {w : World} {P : Program} {dst : Option Tmp} {ty : TypeId} {pos : String} {aft : Array Edge} {g : Option (Nat × Bool)}

theorem run_getObj' {r : Nat} {o : Obj} (h : w.heap[r]? = some o) (hn : ∀ c t f, o ≠ .cells c t f) : (getObj r).run P w = .ok o w := by
  cases o <;> first | exact absurd rfl (hn _ _ _) | simp [getObj, Sem.run, h]
theorem run_setObj' {r : Nat} {o : Obj} (o' : Obj) (h : w.heap[r]? = some o) (hn : ∀ c t f, o ≠ .cells c t f) : (setObj r o').run P w = .ok () { w with heap := w.heap.setIfInBounds r o' } := by
  cases o <;> first | exact absurd rfl (hn _ _ _) | simp [setObj, Sem.run, h]
theorem onlyAt_set {r : Nat} {o' : Obj} (h : r < w.heap.size) : OnlyAt w { w with heap := w.heap.setIfInBounds r o' } r o' :=
  ⟨by simp, by simp [h], fun r' hr' => by simp [Array.getElem?_setIfInBounds, Ne.symm hr'], rfl, rfl⟩

/-! ### Conversions -/
theorem s_cvi (h : HR w0 β H w) {s d : TypeId} {ks k j : IntKind} {n : Int} {x : Value} (hs : P.underlying s = some (.int ks)) (hd : P.underlying d = some (.int k)) (hx : V β (.int j n) x) :
    GoodV P w0 β H (.int k (k.wrap n)) H (convert s d x) w := by
  have := hx.int_inv; subst this
  exact GoodV.same h (.int _ _) (by simp [convert, run_underlying' hs, run_underlying' hd, Conv.intToInt])
theorem s_cvs (h : HR w0 β H w) {s d : TypeId} {l : List Nat} {x : Value} (hs : P.underlying s = some .string) (hd : P.underlying d = some .string) (hx : V β (.str l) x) :
    GoodV P w0 β H (.str l) H (convert s d x) w := by
  obtain ⟨b, rfl, hb⟩ := hx.str_inv
  exact GoodV.same h (.str b l hb) (by simp [convert, run_underlying' hs, run_underlying' hd])

theorem bytesOf_VL : ∀ {cs : List AV} {l : List Nat} {vs : List Value}, bytesOf cs = some l → VL β cs vs → vs = l.map (fun (n : Nat) => Value.int .u8 (n : Int)) ∧ ∀ b ∈ l, b < 256
  | [], l, vs, h, hv => by
    simp only [bytesOf, Option.some.injEq] at h; subst h; cases hv; simp
  | c :: cs, l, vs, h, hv => by
    cases c <;> try (simp only [bytesOf, reduceCtorEq] at h; done)
    rename_i k n
    cases k <;> try (simp only [bytesOf, reduceCtorEq] at h; done)
    simp only [bytesOf] at h
    cases hb : bytesOf cs with
    | none => simp [hb] at h
    | some l' =>
      simp only [hb] at h
      by_cases h1 : 0 ≤ n ∧ n < 256
      · have hc : (decide (0 ≤ n) && decide (n < 256)) = true := by simp [h1]
        rw [hc] at h
        simp only [cond_true, Option.some.injEq] at h
        subst h
        cases hv with
        | cons hx hs =>
          obtain ⟨e1, e2⟩ := bytesOf_VL hb hs
          have := hx.int_inv
          subst this
          refine ⟨?_, ?_⟩
          · rw [List.map_cons, ← e1, Int.toNat_of_nonneg h1.1]
          · intro b hb'
            rcases List.mem_cons.1 hb' with rfl | hb'
            · omega
            · exact e2 b hb'
      · have hc : (decide (0 ≤ n) && decide (n < 256)) = false := by
          rw [Bool.eq_false_iff]; simp only [ne_eq, Bool.and_eq_true, decide_eq_true_eq]; exact h1
        rw [hc] at h; simp at h

theorem foldl_push : ∀ (l : List Nat) (acc : ByteArray), (∀ b ∈ l, b < 256) →
    ((l.map (fun (n : Nat) => (n : Int))).foldl (fun (r : ByteArray) (n : Int) => r.push (UInt8.ofNat n.toNat)) acc).data.toList.map (·.toNat) = acc.data.toList.map (·.toNat) ++ l
  | [], acc, _ => by simp
  | b :: l, acc, h => by
    rw [List.map_cons, List.foldl_cons, foldl_push l _ (fun c hc => h c (by simp [hc]))]
    have hb : b < 256 := h b (by simp)
    have : (UInt8.ofNat b).toNat = b := by simp; omega
    simp [ByteArray.push]
    omega

theorem s_cvbs (h : HR w0 β H w) {s d e : TypeId} {x : AV} {xv : Value} {v : AV} (hs : P.underlying s = some (.slice e)) (he : P.underlying e = some (.int .u8)) (hd : P.underlying d = some .string) (hx : V β x xv)
    (hv : vop (.cvbs (.c x)) (Opd.ev .leaf) H = some (v, H')) : GoodV P w0 β H v H' (convert s d xv) w := by
  simp only [vop, Opd.ev] at hv
  cases x <;> simp only [reduceCtorEq] at hv
  case nils =>
    simp only [Option.some.injEq, Prod.mk.injEq] at hv
    obtain ⟨rfl, rfl⟩ := hv
    cases hx
    refine GoodV.same h (.str .empty [] (by simp)) ?_
    rw [run_convert_bytes_string w s d e none 0 0 hs he hd]
    simp [Conv.bytesToString]
  case sl b off len cap sp =>
    cases hx with
    | sl hβ hlc hcc h3 h4 h5 =>
      rename_i r o a cap'
      have hb0 : Nat.beq len 0 = decide (len = 0) := by rw [Bool.eq_iff_iff]; simp
      rw [hb0] at hv
      by_cases hl0 : len = 0
      · subst hl0
        simp only [decide_true, cond_true, Option.some.injEq, Prod.mk.injEq] at hv
        obtain ⟨rfl, rfl⟩ := hv
        refine GoodV.same h (.str .empty [] (by simp)) ?_
        rw [run_convert_bytes_string w s d e _ _ _ hs he hd]
        simp [Conv.bytesToString, loadCells, loadCellsFrom]
      · simp only [hl0, decide_false, cond_false] at hv
        cases hld : H.load b off len with
        | none => simp [hld] at hv
        | some cs =>
          simp only [hld] at hv
          cases hby : bytesOf cs with
          | none => simp [hby] at hv
          | some l =>
            simp only [hby, Option.some.injEq, Prod.mk.injEq] at hv
            obtain ⟨rfl, rfl⟩ := hv
            obtain ⟨vs, hvl, hcl, hV, hc⟩ := h.load hld hβ
            obtain ⟨e1, e2⟩ := bytesOf_VL hby hV
            have haa := h4 (by omega)
            subst haa
            have hrun := run_loadCells (P := P) (w := w) r (o + off) len vs hvl hc
            refine GoodV.same h (.str _ l ?_) ?_ (v' := .string ((l.map (fun (n : Nat) => (n : Int))).foldl (fun (r : ByteArray) (n : Int) => r.push (UInt8.ofNat n.toNat)) ByteArray.empty))
            · rw [foldl_push l _ e2]; simp
            · rw [run_convert_bytes_string w s d e _ _ _ hs he hd]
              refine run_bytesToString w _ len cap' (l.map (fun (n : Nat) => (n : Int))) ?_
              rw [hrun, e1, List.map_map]; rfl

theorem s_cvp (h : HR w0 β H w) {s d t : TypeId} {n : Nat} {x : AV} {xv : Value} {v : AV} (hs : P.underlying s = some (.pointer t)) (hd : P.underlying d = some .unsafePointer) (hn : sizeC P t = some n) (h0 : n ≠ 0) (hx : V β x xv)
    (hv : vop (.cvp (.c x)) (Opd.ev .leaf) H = some (v, H')) : GoodV P w0 β H v H' (convert s d xv) w := by
  simp only [vop, Opd.ev] at hv
  cases x <;> simp only [reduceCtorEq] at hv
  case nilp =>
    simp only [Option.some.injEq, Prod.mk.injEq] at hv
    obtain ⟨rfl, rfl⟩ := hv
    cases hx
    exact GoodV.same h .nilp (by simp [convert, run_underlying' hs, run_underlying' hd, Conv.unsafePointer])
  case ptr b off =>
    obtain ⟨r, o, hβ, rfl⟩ := hx.ptr_inv
    cases hb : H.get b with
    | none => simp [hb] at hv
    | some y =>
      cases y <;> simp only [hb, reduceCtorEq] at hv
      rename_i cs t' fl
      rw [Heap.blt_eq] at hv
      by_cases hlt : off < cs.length
      · simp only [hlt, decide_true, cond_true, Option.some.injEq, Prod.mk.injEq] at hv
        obtain ⟨rfl, rfl⟩ := hv
        obtain ⟨c', fz, hw, ⟨hsz, hc⟩, _, _⟩ := h.cells b cs t' fl r o hb hβ
        obtain ⟨u, hu, _⟩ := hc off cs[off] (by simp [hlt])
        refine GoodV.same h (.ptr hβ) (run_convert_to_unsafe hs hd ?_ (cell_of hw hu))
        unfold sizeC at hn
        cases hi : P.info? t with
        | none => simp [hi] at hn
        | some i => simp [hi] at hn ⊢; omega
      · simp [hlt] at hv

theorem s_cvq (h : HR w0 β H w) {s d u : TypeId} {ts : List (TypeId × Nat)} {x : AV} {xv : Value} {v : AV} (hs : P.underlying s = some .unsafePointer) (hd : P.underlying d = some (.pointer u))
    (hts : ∀ p ∈ ts, sizeC P p.1 = some p.2 ∧ p.2 ≠ 0 ∧ liesAt P P.depth p.1 1 0 u 1 = true) (hu : (sizeC P u).isSome) (hx : V β x xv)
    (hv : vop (.cvq ts (.c x)) (Opd.ev .leaf) H = some (v, H')) : GoodV P w0 β H v H' (convert s d xv) w := by
  simp only [vop, Opd.ev] at hv
  cases x <;> (try simp only [reduceCtorEq] at hv)
  case nilp =>
    simp only [Option.some.injEq, Prod.mk.injEq] at hv
    obtain ⟨rfl, rfl⟩ := hv
    cases hx
    exact GoodV.same h .nilp (by simp [convert, run_underlying' hs, run_underlying' hd, Conv.unsafePointer])
  case ptr b off =>
    obtain ⟨r, o, hβ, rfl⟩ := hx.ptr_inv
    cases off with
    | succ n => simp at hv
    | zero =>
      cases hb : H.get b with
      | none => simp [hb] at hv
      | some y =>
        cases y <;> simp only [hb, reduceCtorEq] at hv
        rename_i cs t fl
        cases hcnd : (fl.ex && ts.any fun p => Nat.beq p.1 t && Nat.beq p.2 cs.length) with
        | false => simp [hcnd] at hv
        | true =>
          simp only [hcnd, cond_true, Option.some.injEq, Prod.mk.injEq] at hv
          obtain ⟨rfl, rfl⟩ := hv
          simp only [Bool.and_eq_true, List.any_eq_true, Nat.beq_eq] at hcnd
          obtain ⟨hex, p, hp, e1, e2⟩ := hcnd
          obtain ⟨q1, q2, q3⟩ := hts p hp
          obtain ⟨rfl, hN⟩ := h.exact b cs t fl r o hb hβ hex
          obtain ⟨c', fz, hw, _, _, hcN⟩ := h.cells b cs t fl r 0 hb hβ
          have hsh : w.shape? r = some (t, p.2) := by simp [World.shape?, hw, hcN, hN, e2]
          have hco : P.cellsOf t = p.2 := by
            rw [e1] at q1
            unfold sizeC at q1
            unfold Program.cellsOf
            rw [q1]; rfl
          rw [e1] at q3
          have hlies : liesAt P P.depth t (p.2 / P.cellsOf t) 0 u 1 = true := by rw [hco, Nat.div_self (by omega)]; exact q3
          obtain ⟨n, hn⟩ := Option.isSome_iff_exists.1 hu
          refine GoodV.same h (.ptr (off := 0) hβ) ?_
          simp [convert, run_underlying' hs, run_underlying' hd, Conv.unsafePointer, Conv.seenAt, viewAt, hsh, run_sizeOf' hn, variablesAt, hlies]

/-! ### Interfaces, functions, tuples -/
theorem s_mki (h : HR w0 β H w) {t : TypeId} {d : TypeDesc} {x : AV} {xv : Value} (hu : P.underlying t = some d) (hd : ∀ ms, d ≠ .interface ms) (hx : V β x xv) : GoodV P w0 β H (.iface t x) H (Instr.makeInterface t xv) w := by
  refine GoodV.same h (.iface hx) ?_
  simp only [Instr.makeInterface, Sem.run_bind, run_underlying' hu, Result.andThen_ok]
  cases d <;> first | exact absurd rfl (hd _) | simp
theorem s_ext (h : HR w0 β H w) {vs : List AV} {i : Nat} {v : AV} {xv : Value} (hx : V β (.tup vs) xv) (hv : vs[i]? = some v) : GoodV P w0 β H v H (Instr.extract xv i) w := by
  obtain ⟨cs', rfl, hc⟩ := hx.tup_inv
  obtain ⟨y, hy, hV⟩ := hc.get hv
  rw [Array.getElem?_toList] at hy
  exact GoodV.same h hV (by simp [Instr.extract, hy])
theorem zeroA_spec {t : TypeId} {z : AV} (h : zeroA P t = some z) : ∃ zv, (∀ w : World, (zeroValue t).run P w = .ok zv w) ∧ ∀ β, V β z zv := by
  unfold zeroA at h
  cases hi : P.info? t with
  | none => simp [hi] at h
  | some i =>
    simp only [hi] at h
    cases hz : i.zero with
    | none => simp [hz] at h
    | some zv => simp only [hz] at h; exact ⟨zv, fun w => run_zeroValue' hi hz w, fun β => absV_sound zv z h⟩
theorem s_tas (h : HR w0 β H w) {t s : TypeId} {d : TypeDesc} {ok : Bool} {z x v : AV} {xv : Value} (hu : P.underlying t = some d) (hd : ∀ ms, d ≠ .interface ms) (hz : zeroA P t = some z) (hx : V β x xv)
    (hv : vop (.tas t ok z (.c x)) (Opd.ev .leaf) H = some (v, H')) : GoodV P w0 β H v H' (Instr.typeAssert xv s t ok) w := by
  obtain ⟨zv, hzr, hzV⟩ := zeroA_spec hz
  simp only [vop, Opd.ev] at hv
  have fails : ok = true → v = .tup [z, .bool false] → H' = H → (Instr.typeAssert xv s t true).run P w = .ok (.tuple #[zv, .bool false]) w → GoodV P w0 β H v H' (Instr.typeAssert xv s t ok) w := by
    rintro rfl rfl rfl hr
    exact GoodV.same h (.tup (.cons (hzV β) (.cons (.bool false) .nil))) hr
  cases x <;> simp only [reduceCtorEq] at hv
  case nili =>
    cases hx
    cases ok with
    | false => simp at hv
    | true =>
      simp only [cond_true, Option.some.injEq, Prod.mk.injEq] at hv
      refine fails rfl hv.1.symm hv.2.symm ?_
      simp only [Instr.typeAssert, Sem.run_bind, run_underlying' hu, Result.andThen_ok]
      cases d <;> first | exact absurd rfl (hd _) | simp [hzr]
  case iface t' x =>
    cases hx with
    | iface hx =>
      have hb : Nat.beq t' t = decide (t' = t) := by rw [Bool.eq_iff_iff]; simp
      rw [hb] at hv
      by_cases e : t' = t
      · subst e
        simp only [decide_true, cond_true, Option.some.injEq, Prod.mk.injEq] at hv
        obtain ⟨rfl, rfl⟩ := hv
        cases ok with
        | true =>
          refine GoodV.same h (.tup (.cons hx (.cons (.bool true) .nil))) ?_ (v' := .tuple #[_, .bool true])
          simp only [Instr.typeAssert, Sem.run_bind, run_underlying' hu, Result.andThen_ok]
          cases d <;> first | exact absurd rfl (hd _) | simp
        | false =>
          refine GoodV.same h hx ?_
          simp only [Instr.typeAssert, Sem.run_bind, run_underlying' hu, Result.andThen_ok]
          cases d <;> first | exact absurd rfl (hd _) | simp
      · simp only [e, decide_false, cond_false] at hv
        cases ok with
        | false => simp at hv
        | true =>
          simp only [cond_true, Option.some.injEq, Prod.mk.injEq] at hv
          refine fails rfl hv.1.symm hv.2.symm ?_
          simp only [Instr.typeAssert, Sem.run_bind, run_underlying' hu, Result.andThen_ok]
          cases d <;> first | exact absurd rfl (hd _) | simp [hzr, e]

/-! ### Lengths -/
theorem s_len (h : HR w0 β H w) {ats : Array TypeId} {t : TypeId} {x v : AV} {xv : Value} {st : Bool} (ha : ats[0]? = some t) (hu : st = true → P.underlying t = some .string) (hu2 : st = false → ∃ e, P.underlying t = some (.slice e)) (hx : V β x xv)
    (hv : vop (.len st (.c x)) (Opd.ev .leaf) H = some (v, H')) : GoodV P w0 β H v H' (Builtin.len_ ats ty #[xv]) w := by
  simp only [vop, Opd.ev] at hv
  cases st with
  | true =>
    have hu := hu rfl
    cases x <;> simp only [reduceCtorEq, cond_true, Option.some.injEq, Prod.mk.injEq] at hv
    case str l =>
      obtain ⟨rfl, rfl⟩ := hv
      obtain ⟨s, rfl, hs⟩ := hx.str_inv
      refine GoodV.same h (.int _ _) ?_
      have hl : l.length = s.size := by rw [← hs, List.length_map, Array.length_toList]; rfl
      simp [Builtin.len_, ha, run_underlying' hu, goInt, hl]
  | false =>
    obtain ⟨e, hu⟩ := hu2 rfl
    cases x <;> simp only [reduceCtorEq, cond_false, Option.some.injEq, Prod.mk.injEq] at hv
    case nils =>
      obtain ⟨rfl, rfl⟩ := hv
      cases hx
      refine GoodV.same h (.int _ _) ?_
      simp [Builtin.len_, ha, run_underlying' hu, goInt]
    case sl b off len cap sp =>
      obtain ⟨rfl, rfl⟩ := hv
      cases hx
      refine GoodV.same h (.int _ _) ?_
      simp [Builtin.len_, ha, run_underlying' hu, goInt]
theorem s_lenm (h : HR w0 β H w) {ats : Array TypeId} {t k e : TypeId} {x v : AV} {xv : Value} (ha : ats[0]? = some t) (hu : P.underlying t = some (.map k e)) (hx : V β x xv)
    (hv : vop (.lenm (.c x)) (Opd.ev .leaf) H = some (v, H')) : GoodV P w0 β H v H' (Builtin.len_ ats ty #[xv]) w := by
  simp only [vop, Opd.ev] at hv
  cases x <;> simp only [reduceCtorEq, Option.some.injEq, Prod.mk.injEq] at hv
  case nilm =>
    obtain ⟨rfl, rfl⟩ := hv
    cases hx
    exact GoodV.same h (.int _ _) (by simp [Builtin.len_, ha, run_underlying' hu, goInt])
  case mp m =>
    cases hx with
    | mp hβ =>
      rename_i r
      cases hg : H.get m with
      | none => simp [hg] at hv
      | some y =>
        cases y <;> simp only [hg, reduceCtorEq, Option.some.injEq, Prod.mk.injEq] at hv
        rename_i es clock
        obtain ⟨rfl, rfl⟩ := hv
        obtain ⟨es', hw, he⟩ := h.maps m es clock r 0 hg hβ
        have hl : ∀ {l : List (AV × AV × Nat)} {l' : List MapEntry}, ER β l l' → l.length = l'.length := by
          intro l l' he; induction he with
          | nil => rfl
          | cons _ _ _ ih => simp [ih]
        have := hl he
        simp only [Array.length_toList] at this
        exact GoodV.same h (.int _ _) (by simp [Builtin.len_, ha, run_underlying' hu, goInt, run_getObj' hw (by simp), this])
theorem s_lena (h : HR w0 β H w) {ats : Array TypeId} {t e : TypeId} {n : Nat} {xv : Value} (ha : ats[0]? = some t) (hu : P.underlying t = some (.array n e)) : GoodV P w0 β H (.int .i64 n) H (Builtin.len_ ats ty #[xv]) w :=
  GoodV.same h (.int _ _) (by simp [Builtin.len_, ha, run_underlying' hu, goInt])
theorem s_mm (h : HR w0 β H w) {ats : Array TypeId} {mx : Bool} {x v : AV} {r : List AV} {args : List Value} (hx : VL β (x :: r) args) (hv : ammx mx x r = some v) :
    GoodV P w0 β H v H (if mx then Builtin.max_ ats ty args.toArray else Builtin.min_ ats ty args.toArray) w := by
  cases hx with
  | cons hx hs =>
    obtain ⟨v', h1, h2⟩ := ammx_run (P := P) (w := w) r _ x _ v hs hx hv
    refine GoodV.same h h1 ?_
    cases mx <;> simpa [Builtin.max_, Builtin.min_] using h2

/-! ### Maps -/
theorem s_mkm (h : HR w0 β H w) {t : TypeId} : GoodV P w0 β H (.mp H.size) (H.push (.map [] 0)) (Instr.makeMap t none) w := by
  refine ⟨β.up H.size (w.heap.size, 0) 0, .map (some w.heap.size), w.alloc (.map #[] 0), Ext.up β _ _ h.unborn_size (Nat.le_refl _), by rw [Heap.size_push]; omega,
    h.push 0 ⟨#[], rfl, .nil⟩ (fun _ _ _ e => by cases e) (fun _ _ _ e => by cases e), .mp (Ren.up_same _ _ _ _), by simp [Instr.makeMap]⟩

theorem run_checkKey {n : Nat} {t : TypeId} {e : ETy} {b : Bool} {v : Value} (hk : keyC P t = some e) (w : World) : (Instr.checkKey b (n + 1) t v).run P w = .ok () w := by
  unfold keyC at hk
  cases hu : P.underlying t with
  | none => simp [hu] at hk
  | some d =>
    rw [hu] at hk
    cases d <;> simp only [reduceCtorEq] at hk <;> simp [Instr.checkKey, run_underlying' hu]

theorem bytes_beq (s1 s2 : ByteArray) : (s1 == s2) = (s1.data.toList == s2.data.toList) := by
  have h1 : (s1 == s2) = (s1.data == s2.data) := by cases s1; cases s2; rfl
  rw [h1, Bool.eq_iff_iff]
  simp only [beq_iff_eq]
  exact ⟨fun e => by rw [e], fun e => Array.toList_inj.1 e⟩
theorem key_sound {t : TypeId} {e : ETy} {d : TypeDesc} (hk : keyC P t = some e) (hu : P.underlying t = some d) {k k0 : AV} {kv k' : Value} (hkv : V β k kv) (hk0 : V β k0 k') (q : Bool) (hq : aeq H e k k0 = some q) :
    Instr.sameNow d kv k' = some q ∧ (q = true → Instr.sameBits 10000 k' kv = true) := by
  unfold keyC at hk
  rw [hu] at hk
  cases d <;> simp only [reduceCtorEq, Option.some.injEq] at hk <;> subst hk
  · cases k <;> cases k0 <;> simp only [aeq, reduceCtorEq, Option.some.injEq] at hq
    cases hkv; cases hk0
    subst hq
    exact ⟨by simp [Instr.sameNow], fun e => by simp [Instr.sameBits] at e ⊢; exact e.symm⟩
  · cases k <;> cases k0 <;> simp only [aeq, reduceCtorEq] at hq
    rename_i ka a kb b
    cases hkv; cases hk0
    by_cases e : ka = kb
    · subst e
      simp only [beq_self_eq_true, cond_true, Option.some.injEq] at hq
      subst hq
      exact ⟨by simp [Instr.sameNow], fun e => by simp [Instr.sameBits] at e ⊢; exact e.symm⟩
    · have : (ka == kb) = false := by simpa using e
      rw [this] at hq; simp at hq
  · cases k <;> cases k0 <;> simp only [aeq, reduceCtorEq, Option.some.injEq] at hq
    obtain ⟨s1, rfl, h1⟩ := hkv.str_inv
    obtain ⟨s2, rfl, h2⟩ := hk0.str_inv
    subst h1; subst h2
    rw [eqS_bytes] at hq
    subst hq
    refine ⟨by simp [Instr.sameNow, bytes_beq], fun e => ?_⟩
    simp only [beq_iff_eq] at e
    have : s1 = s2 := ByteArray.ext (Array.toList_inj.1 e)
    subst this
    simp [Instr.sameBits, bytes_beq]

theorem find_sound {t : TypeId} {e : ETy} {d : TypeDesc} (hk : keyC P t = some e) (hu : P.underlying t = some d) {k : AV} {kv : Value} (hkv : V β k kv) : ∀ {es : List (AV × AV × Nat)} {es' : List MapEntry} (i : Nat) {r : Option (Nat × AV)}, ER β es es' → findA H e k es i = some r →
    ∃ r', Instr.findNow d kv es' i = some r' ∧ ((r = none ∧ r' = none) ∨ ∃ j v v', r = some (j, v) ∧ r' = some (j, v') ∧ V β v v' ∧ i ≤ j ∧ ∃ me : MapEntry, es'[j - i]? = some me ∧ Instr.sameBits 10000 me.key kv = true)
  | [], _, i, r, .nil, hf => by
    simp only [findA, Option.some.injEq] at hf; subst hf
    exact ⟨none, rfl, .inl ⟨rfl, rfl⟩⟩
  | (k0, v0, b0) :: es, _, i, r, .cons (k' := k') (v' := v') hk0 hv0 he, hf => by
    have key := key_sound (H := H) hk hu hkv hk0
    simp only [findA] at hf
    cases ha : aeq H e k k0 with
    | none => simp [ha] at hf
    | some q =>
      obtain ⟨h1, h2⟩ := key q ha
      cases q with
      | true =>
        simp only [ha, Option.some.injEq] at hf
        subst hf
        exact ⟨some (i, v'), by simp [Instr.findNow, h1], .inr ⟨i, v0, v', rfl, rfl, hv0, Nat.le_refl _, ⟨k', v', b0⟩, by simp, h2 rfl⟩⟩
      | false =>
        simp only [ha] at hf
        obtain ⟨r', g1, g2⟩ := find_sound hk hu hkv (i + 1) he hf
        refine ⟨r', by simp [Instr.findNow, h1, g1], ?_⟩
        rcases g2 with ⟨rfl, rfl⟩ | ⟨j, v, v', rfl, rfl, hV, hj, me, hm, hs⟩
        · exact .inl ⟨rfl, rfl⟩
        · refine .inr ⟨j, v, v', rfl, rfl, hV, by omega, me, ?_, hs⟩
          rw [show j - i = (j - (i + 1)) + 1 from by omega]
          simpa using hm

theorem s_lkp (h : HR w0 β H w) {t k e : TypeId} {kt : ETy} {ok : Bool} {z x i v : AV} {xv iv : Value} (hu : P.underlying t = some (.map k e)) (hk : keyC P k = some kt) (hz : zeroA P e = some z) (hx : V β x xv) (hi : V β i iv)
    (hv : vop (.lkp kt z ok (.c x) (.c i)) (Opd.ev .leaf) H = some (v, H')) : GoodV P w0 β H v H' (Instr.lookup t xv iv ok) w := by
  obtain ⟨zv, hzr, hzV⟩ := zeroA_spec hz
  obtain ⟨d, hd⟩ : ∃ d, P.underlying k = some d := by
    unfold keyC at hk
    cases hd : P.underlying k with
    | none => simp [hd] at hk
    | some d => exact ⟨d, rfl⟩
  simp only [vop, Opd.ev] at hv
  have ck : ∀ b, (Instr.checkKey b 10000 k iv).run P w = .ok () w := fun b => run_checkKey (n := 9999) hk w
  have miss : v = cond ok (.tup [z, .bool false]) z → ∃ v', V β v v' ∧ v' = (if ok = true then Value.tuple #[zv, .bool false] else zv) := by
    rintro rfl
    cases ok
    · exact ⟨_, hzV β, rfl⟩
    · exact ⟨_, .tup (.cons (hzV β) (.cons (.bool false) .nil)), rfl⟩
  cases x <;> simp only [reduceCtorEq, Option.some.injEq, Prod.mk.injEq] at hv
  case nilm =>
    obtain ⟨h1, rfl⟩ := hv
    cases hx
    obtain ⟨v', hV, rfl⟩ := miss h1.symm
    refine GoodV.same h hV ?_
    simp [Instr.lookup, run_underlying' hu, ck, Instr.findKey, run_underlying' hd, Instr.findNow, hzr]
  case mp m =>
    cases hx with
    | mp hβ =>
      rename_i r
      cases hg : H.get m with
      | none => simp [hg] at hv
      | some y =>
        cases y <;> simp only [hg, reduceCtorEq] at hv
        rename_i es clock
        obtain ⟨es', hw, he⟩ := h.maps m es clock r 0 hg hβ
        have hgo := run_getObj' (P := P) hw (by simp)
        cases hf : findA H kt i es 0 with
        | none => simp [hf] at hv
        | some q =>
          obtain ⟨r', g1, g2⟩ := find_sound hk hd hi 0 he hf
          rcases g2 with ⟨rfl, rfl⟩ | ⟨j, u, u', rfl, rfl, hV, _, _⟩
          · simp only [hf, Option.some.injEq, Prod.mk.injEq] at hv
            obtain ⟨h1, rfl⟩ := hv
            obtain ⟨v', hV, rfl⟩ := miss h1.symm
            refine GoodV.same h hV ?_
            simp [Instr.lookup, run_underlying' hu, ck, Instr.findKey, run_underlying' hd, g1, hzr, hgo]
          · simp only [hf, Option.some.injEq, Prod.mk.injEq] at hv
            obtain ⟨rfl, rfl⟩ := hv
            cases ok with
            | false =>
              refine GoodV.same h hV ?_
              simp [Instr.lookup, run_underlying' hu, ck, Instr.findKey, run_underlying' hd, g1, hgo]
            | true =>
              refine GoodV.same h (.tup (.cons hV (.cons (.bool true) .nil))) ?_ (v' := .tuple #[u', .bool true])
              simp [Instr.lookup, run_underlying' hu, ck, Instr.findKey, run_underlying' hd, g1, hgo]

theorem ER.set {i : Nat} {k v : AV} {kv vv : Value} (hk : V β k kv) (hv : V β v vv) : ∀ {es : List (AV × AV × Nat)} {es' : List MapEntry} (i : Nat), ER β es es' → ER β (setE es i k v) (es'.modify i fun e => { e with key := kv, val := vv })
  | [], _, _, .nil => by simp [setE]; exact .nil
  | (k0, v0, b0) :: es, _, 0, .cons h1 h2 he => by simp [setE]; exact .cons hk hv he
  | (k0, v0, b0) :: es, _, i + 1, .cons h1 h2 he => by simp [setE]; exact .cons h1 h2 (ER.set (i := i) hk hv i he)
theorem ER.snoc {k v : AV} {kv vv : Value} {c : Nat} (hk : V β k kv) (hv : V β v vv) : ∀ {es : List (AV × AV × Nat)} {es' : List MapEntry}, ER β es es' → ER β (es ++ [(k, v, c)]) (es' ++ [⟨kv, vv, c⟩])
  | [], _, .nil => .cons hk hv .nil
  | _ :: _, _, .cons h1 h2 he => .cons h1 h2 (ER.snoc hk hv he)

theorem s_mup (h : HR w0 β H w) {t k e : TypeId} {kt : ETy} {x i y v : AV} {xv iv yv : Value} (hu : P.underlying t = some (.map k e)) (hk : keyC P k = some kt) (hx : V β x xv) (hi : V β i iv) (hy : V β y yv)
    (hv : vop (.mup kt (.c x) (.c i) (.c y)) (Opd.ev .leaf) H = some (v, H')) : Good P w0 β H v H' (do Instr.mapUpdate t xv iv yv; pure Next.skip) w := by
  obtain ⟨d, hd⟩ : ∃ d, P.underlying k = some d := by
    unfold keyC at hk
    cases hd : P.underlying k with
    | none => simp [hd] at hk
    | some d => exact ⟨d, rfl⟩
  simp only [vop, Opd.ev] at hv
  have ck : ∀ b, (Instr.checkKey b 10000 k iv).run P w = .ok () w := fun b => run_checkKey (n := 9999) hk w
  cases x <;> simp only [reduceCtorEq] at hv
  case mp m =>
    cases hx with
    | mp hβ =>
      rename_i r
      cases hg : H.get m with
      | none => simp [hg] at hv
      | some q =>
        cases q <;> simp only [hg, reduceCtorEq] at hv
        rename_i es clock
        obtain ⟨es', hw, he⟩ := h.maps m es clock r 0 hg hβ
        have hgo := run_getObj' (P := P) hw (by simp)
        have hrlt := (h.lt m r 0 hβ).2
        cases hf : findA H kt i es 0 with
        | none => simp [hf] at hv
        | some q =>
          obtain ⟨r', g1, g2⟩ := find_sound hk hd hi 0 he hf
          rcases g2 with ⟨rfl, rfl⟩ | ⟨j, u, u', rfl, rfl, hV, _, me, hme, hsb⟩
          · simp only [hf, Option.some.injEq, Prod.mk.injEq] at hv
            obtain ⟨rfl, rfl⟩ := hv
            have hso := run_setObj' (P := P) (.map (es'.push ⟨iv, yv, clock⟩) (clock + 1)) hw (by simp)
            refine ⟨β, undef, _, Ext.refl _ _, by rw [Heap.size_put]; omega, h.upd hg hβ trivial rfl (fun _ _ _ e => by cases e) ⟨es'.push ⟨iv, yv, clock⟩, rfl, ?_⟩ (onlyAt_set hrlt), V.undef, .inr ⟨?_, rfl⟩⟩
            · simpa using he.snoc hi hy
            · simp [Instr.mapUpdate, run_underlying' hu, ck, Instr.findKey, run_underlying' hd, g1, hgo, hso]
          · simp only [hf, Option.some.injEq, Prod.mk.injEq] at hv
            obtain ⟨rfl, rfl⟩ := hv
            have hso := run_setObj' (P := P) (.map (es'.modify j fun e => { e with key := iv, val := yv }) clock) hw (by simp)
            have hme' : es'[j]? = some me := by simpa using hme
            have hks : (Instr.keyThatStays me.key iv).run P w = .ok iv w := by simp [Instr.keyThatStays, hsb]
            refine ⟨β, undef, _, Ext.refl _ _, by rw [Heap.size_put]; omega, h.upd hg hβ trivial rfl (fun _ _ _ e => by cases e) ⟨es'.modify j fun e => { e with key := iv, val := yv }, rfl, ?_⟩ (onlyAt_set hrlt), V.undef, .inr ⟨?_, rfl⟩⟩
            · simpa using ER.set (i := j) hi hy j he
            · simp [Instr.mapUpdate, run_underlying' hu, ck, Instr.findKey, run_underlying' hd, g1, hgo, hso, hme', hks]
end Go.Ab
