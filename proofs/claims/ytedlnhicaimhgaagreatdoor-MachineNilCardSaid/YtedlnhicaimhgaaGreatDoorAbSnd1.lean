import Derived.Test.YtedlnhicaimhgaaGreatDoorAbOps10
/-!
Whatever an operation answers here, it answers on the other side.
-/
namespace Go.Ab
variable {w0 : World} {β : Ren} {H H' : Heap} {w : World} {P : Program} {dst : Option Tmp} {ty : TypeId} {pos : String} {aft : Array Edge} {g : Option (Nat × Bool)}

/-! ### The calls that have no body -/
theorem x_byte {fn : Func} (hn : fn.name = "internal/bytealg.IndexByteString") (ho : fn.origin = "" ∨ fn.origin = fn.name) : Extern.findNext fn = none ∧ Extern.find fn = some Extern.BytealgIndexByte.indexByte := by
  have n1 : Extern.allNextRows.lookup "internal/bytealg.IndexByteString" = none := rfl
  have n2 : Extern.allNextRows.lookup "" = none := rfl
  have t1 : Extern.allGenericRows.lookup "internal/bytealg.IndexByteString" = none := rfl
  have t2 : Extern.allTypedRows.lookup "internal/bytealg.IndexByteString" = none := rfl
  have t3 : Extern.allRows.lookup "internal/bytealg.IndexByteString" = some Extern.BytealgIndexByte.indexByte := rfl
  constructor
  · unfold Extern.findNext
    rcases ho with ho | ho <;> simp only [ho, hn, n1, n2] <;> rfl
  · unfold Extern.find
    simp only [hn, t1, t2, t3]; rfl
theorem x_id {fn : Func} (hn : fn.name = "internal/abi.NoEscape") (ho : fn.origin = "" ∨ fn.origin = fn.name) : Extern.findNext fn = none ∧ Extern.find fn = some Extern.AbiNoEscape.same := by
  have n1 : Extern.allNextRows.lookup "internal/abi.NoEscape" = none := rfl
  have n2 : Extern.allNextRows.lookup "" = none := rfl
  have t1 : Extern.allGenericRows.lookup "internal/abi.NoEscape" = none := rfl
  have t2 : Extern.allTypedRows.lookup "internal/abi.NoEscape" = none := rfl
  have t3 : Extern.allRows.lookup "internal/abi.NoEscape" = some Extern.AbiNoEscape.same := rfl
  constructor
  · unfold Extern.findNext
    rcases ho with ho | ho <;> simp only [ho, hn, n1, n2] <;> rfl
  · unfold Extern.find
    simp only [hn, t1, t2, t3]; rfl

theorem find_congr {α : Type} {f g : α → Bool} : ∀ {l : List α}, (∀ x ∈ l, f x = g x) → l.find? f = l.find? g
  | [], _ => rfl
  | x :: l, h => by
    simp only [List.find?_cons, h x (by simp), find_congr (l := l) (fun y hy => h y (by simp [hy]))]
def orLess : Option Nat → Int
  | some j => j
  | none => -1
theorem idxOfL_spec (c : Nat) : ∀ (l : List Nat) (i : Nat), idxOfL c l i = orLess ((List.range' i l.length).find? (fun j => l[j - i]? == some c))
  | [], i => by simp [idxOfL, orLess]
  | x :: l, i => by
    have hb : Nat.beq x c = decide (x = c) := by rw [Bool.eq_iff_iff]; simp
    simp only [idxOfL, hb, List.length_cons, List.range'_succ, List.find?_cons]
    by_cases e : x = c
    · subst e; simp [orLess]
    · have e1 : ((x :: l)[i - i]? == some c) = false := by simp [e]
      rw [e1, decide_eq_false e]
      simp only [cond_false]
      rw [idxOfL_spec c l (i + 1)]
      congr 1
      refine find_congr fun j hj => ?_
      have := (List.mem_range'_1.1 hj).1
      rw [show j - i = (j - (i + 1)) + 1 from by omega]; simp

theorem idx_eq {s : ByteArray} {l : List Nat} (hl : s.data.toList.map (·.toNat) = l) {c : Nat} (hc : c < 256) : firstIdx s c.toUInt8 = idxOfL c l 0 := by
  rw [idxOfL_spec]
  have h1 : firstIdx s c.toUInt8 = orLess ((List.range s.size).find? fun i => s[i]! == c.toUInt8) := by
    unfold firstIdx orLess
    cases (List.range s.size).find? fun i => s[i]! == c.toUInt8 <;> rfl
  rw [h1]
  have hlen : l.length = s.size := by rw [← hl, List.length_map, Array.length_toList]; rfl
  congr 1
  rw [hlen, List.range_eq_range']
  refine find_congr fun j hj => ?_
  have hj' : j < s.size := by have := (List.mem_range'_1.1 hj).2; omega
  have e1 : s[j]! = s[j] := getElem!_pos s j hj'
  have e2 : l[j - 0]? = some s[j].toNat := by
    subst hl
    rw [Nat.sub_zero, List.getElem?_map, Array.getElem?_toList]
    have : s.data[j]? = some s.data[j] := Array.getElem?_eq_getElem hj'
    rw [this]; rfl
  rw [e1, e2, Bool.eq_iff_iff]
  simp only [beq_iff_eq, Option.some.injEq]
  constructor
  · intro e; rw [e]; simp; omega
  · intro e; rw [← e]; simp

theorem Good.cast {v : AV} {s s' : Sem Next} (h : Good P w0 β H v H' s w) (hs : s'.run P w = s.run P w) : Good P w0 β H v H' s' w := by
  obtain ⟨β', v', w', h1, h2, h3, h4, h5⟩ := h
  exact ⟨β', v', w', h1, h2, h3, h4, by rw [hs]; exact h5⟩

/-- Builtins. -/
theorem builtin_sound (h : HR w0 β H w) {b : Builtin} {c : Call} {i : IOp} {ev : Opd → AV} {ρ : Operand → Value} {v : AV} (hcal : c.callee = .builtin b) (hc : cCall P ⟨dst, .call c, ty, pos, aft, g⟩ c = some i)
    (hev : ∀ x x', cOpd P x = some x' → V β (ev x') (ρ x)) (hv : vop i ev H = some (v, H')) (cs : Array Bool) : Good P w0 β H v H' (builtin b c.argTypes ty cs (c.args.map ρ)) w := by
  simp only [cCall, hcal, Option.bind_eq_bind, Option.bind_eq_some_iff] at hc
  obtain ⟨args, ha, hc⟩ := hc
  have hVL := cOpds_VL (ev := ev) (ρ := ρ) (β := β) ha (fun x _ x' hx => hev x x' hx)
  have hargs : c.args.map ρ = (c.args.toList.map ρ).toArray := by apply Array.toList_inj.1; simp
  rw [hargs]
  generalize c.args.toList.map ρ = l at hVL
  cases b <;> try (simp only [reduceCtorEq] at hc; done)
  case append =>
    match args, hc with
    | [x, y], hc =>
      simp only [Option.bind_eq_some_iff] at hc
      obtain ⟨t, ht, t', ht', hc⟩ := hc
      cases hVL with
      | cons hx hs => cases hs with
        | cons hy hs => cases hs with
          | nil =>
            cases hu : P.underlying t with
            | none => simp [hu] at hc
            | some d =>
              cases hu' : P.underlying t' with
              | none => rw [hu, hu'] at hc; cases d <;> simp at hc
              | some d' =>
                rw [hu, hu'] at hc
                cases d <;> try (simp only [reduceCtorEq] at hc; done)
                rename_i e
                cases d' <;> simp only [reduceCtorEq, Option.bind_eq_some_iff, Option.some.injEq] at hc
                case slice e' =>
                  obtain ⟨es, hes, by_, hby, z, hz, rfl⟩ := hc
                  exact (s_app h ht ht' hu hu' (.inl ⟨e', rfl⟩) hes hby hz hx hy hv).good
                case string =>
                  obtain ⟨es, hes, by_, hby, z, hz, rfl⟩ := hc
                  exact (s_app h ht ht' hu hu' (.inr rfl) hes hby hz hx hy hv).good
  case copy =>
    match args, hc with
    | [x, y], hc =>
      simp only [Option.bind_eq_some_iff] at hc
      obtain ⟨t, ht, hc⟩ := hc
      cases hVL with
      | cons hx hs => cases hs with
        | cons hy hs => cases hs with
          | nil =>
            cases hu : P.underlying t with
            | none => simp [hu] at hc
            | some d =>
              rw [hu] at hc
              cases d <;> simp only [reduceCtorEq, Option.bind_eq_some_iff, Option.some.injEq] at hc
              obtain ⟨es, hes, rfl⟩ := hc
              exact (s_cpy h ht hu hes hx hy hv).good
  case len =>
    match args, hc with
    | [x], hc =>
      simp only [Option.bind_eq_some_iff] at hc
      obtain ⟨t, ht, hc⟩ := hc
      cases hVL with
      | cons hx hs => cases hs with
        | nil =>
          cases hu : P.underlying t with
          | none => simp [hu] at hc
          | some d =>
            rw [hu] at hc
            cases d <;> simp only [reduceCtorEq, Option.some.injEq] at hc <;> subst hc
            case string => exact (s_len h ht (fun _ => hu) (fun e => by cases e) hx hv).good
            case array =>
              simp only [vop, Option.some.injEq, Prod.mk.injEq] at hv
              obtain ⟨rfl, rfl⟩ := hv
              exact (s_lena h ht hu).good
            case slice => exact (s_len h ht (fun e => by cases e) (fun _ => ⟨_, hu⟩) hx hv).good
            case map => exact (s_lenm h ht hu hx hv).good
  case max =>
    simp only [Option.some.injEq] at hc
    subst hc
    simp only [vop] at hv
    cases args with
    | nil => simp at hv
    | cons x r =>
      simp only [List.map_cons] at hv hVL
      cases hm : ammx true (ev x) (r.map ev) with
      | none => simp [hm] at hv
      | some u =>
        simp only [hm, Option.some.injEq, Prod.mk.injEq] at hv
        obtain ⟨rfl, rfl⟩ := hv
        have hg := s_mm (P := P) (ats := c.argTypes) (ty := ty) (mx := true) h hVL hm
        simp only [if_true] at hg
        exact hg.good
  case min =>
    simp only [Option.some.injEq] at hc
    subst hc
    simp only [vop] at hv
    cases args with
    | nil => simp at hv
    | cons x r =>
      simp only [List.map_cons] at hv hVL
      cases hm : ammx false (ev x) (r.map ev) with
      | none => simp [hm] at hv
      | some u =>
        simp only [hm, Option.some.injEq, Prod.mk.injEq] at hv
        obtain ⟨rfl, rfl⟩ := hv
        have hg := s_mm (P := P) (ats := c.argTypes) (ty := ty) (mx := false) h hVL hm
        simp only [Bool.false_eq_true, if_false] at hg
        exact hg.good
  case recover =>
    match args, hc with
    | [], hc => simp only [Option.some.injEq] at hc; subst hc; simp [vop] at hv
  case panic =>
    match args, hc with
    | [x], hc => simp only [Option.some.injEq] at hc; subst hc; simp [vop] at hv
  case unsafeSliceData =>
    match args, hc with
    | [x], hc =>
      simp only [Option.some.injEq] at hc; subst hc
      cases hVL with
      | cons hx hs => cases hs with
        | nil => exact (s_usd h hx hv).good
  case unsafeString =>
    match args, hc with
    | [x, n], hc =>
      simp only [Option.bind_eq_some_iff] at hc
      obtain ⟨t, ht, hc⟩ := hc
      cases hVL with
      | cons hx hs => cases hs with
        | cons hn hs => cases hs with
          | nil =>
            cases hu : P.underlying t with
            | none => simp [hu] at hc
            | some d =>
              rw [hu] at hc
              cases d <;> simp only [reduceCtorEq] at hc
              rename_i e
              cases hs : sizeC P e with
              | none => simp [hs] at hc
              | some k =>
                rw [hs] at hc
                match k, hs, hc with
                | 1, hs, hc =>
                  simp only [Option.some.injEq] at hc; subst hc
                  exact (s_uss h ht hu hs hx hn hv).good
end Go.Ab
