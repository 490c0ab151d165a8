import Derived.Test.YtedlnhicaimhgaaGreatDoorCon
import Derived.Test.YtedlnhicaimhgaaGreatDoorRows
import Derived.WalkKit
import Derived.ProofKit
import Derived.OpenShut
import Derived.Deep.DeepHandedRow
import Derived.Lib.LaidTab
import Derived.LaidSub
/-!
The law's start: the package-level variables.
-/
namespace Go.Ab
open Go.Proofs Go.Proofs.YtedlnhicaimhgaaGreatDoor
def zsOf : DataW Unit → List Int
  | .agg l => l.map fun | .lit (.int _ z) => z | _ => 0
  | _ => []
def frzFl (i : Nat) : Fl := { fam := i, tip := false, alone := true, frz := true, ex := false }
def tabAV (k : IntKind) (zs : List Int) : List AV := zs.map (.int k)
/-- What the variables hold: which cells are known, and of what type. -/
def gAV : Nat → List AV
  | 0 => tabAV .u64 (zsOf Rows.laid_internal_strconv_uint64pow10)
  | 1 => tabAV .u8 (zsOf Rows.laid_strings_asciiSpace)
  | 2 => tabAV .u8 (zsOf Rows.laid_math_bits_deBruijn32tab)
  | 3 => tabAV .u8 (zsOf Rows.laid_math_bits_deBruijn64tab)
  | _ => []
def gTy : Nat → TypeId
  | 0 => 367 | 1 => 398 | 2 => 430 | 3 => 431 | 4 => 436 | 5 => 3 | _ => 436
def gSz : Nat → Nat
  | 0 => 20 | 1 => 256 | 2 => 32 | 3 => 64 | _ => 1
def gObj (i : Nat) : AObj := .cells (gAV i) (gTy i) (frzFl i)
def H0 : Heap := { objs := ((((((PMap.leaf.set 0 (gObj 0)).set 1 (gObj 1)).set 2 (gObj 2)).set 3 (gObj 3)).set 4 (gObj 4)).set 5 (gObj 5)).set 6 (gObj 6), size := 7 }
def β0 : Ren := ⟨fun b => if b < 7 then some (b, 0) else none, gSz⟩

theorem H0_get {b : Nat} : H0.get b = if b < 7 then some (gObj b) else none := by
  rw [Heap.get_eq]
  by_cases h : b < 7
  · rw [if_pos h, if_pos (show b < H0.size from h)]
    show PMap.get _ b = _
    simp only [H0, PMap.get_set, PMap.get_leaf]
    match b, h with
    | 0, _ => rfl
    | 1, _ => rfl
    | 2, _ => rfl
    | 3, _ => rfl
    | 4, _ => rfl
    | 5, _ => rfl
    | 6, _ => rfl
  · rw [if_neg h, if_neg (show ¬ b < H0.size from h)]
theorem β0_some {b r o : Nat} (h : β0 b = some (r, o)) : b < 7 ∧ r = b ∧ o = 0 := by
  have h : (if b < 7 then some (b, 0) else none) = some (r, o) := h
  by_cases hb : b < 7
  · rw [if_pos hb] at h; cases h; exact ⟨hb, rfl, rfl⟩
  · rw [if_neg hb] at h; cases h

/-- What the world holds at the variables. -/
structure VarsAt (W : World) : Prop where
  size : 12 ≤ W.heap.size
  row : ∀ g, g < 7 → ∃ c fz, W.heap[g]? = some (.cells c (gTy g) fz) ∧ c.size = gSz g ∧ CellRel β0 (gAV g) 0 c
  max : ∃ m, W.cell? ⟨5, 0, none⟩ = some (.int .i64 m)

theorem hr_start {W : World} (h : VarsAt W) : HR W β0 H0 W := by
  have hobj : ∀ {b : Nat} {x : AObj}, H0.get b = some x → b < 7 ∧ x = gObj b := by
    intro b x hx
    rw [H0_get] at hx
    by_cases hb : b < 7
    · rw [if_pos hb] at hx; cases hx; exact ⟨hb, rfl⟩
    · rw [if_neg hb] at hx; cases hx
  have hc : ∀ {b : Nat} {cs : List AV} {t : TypeId} {fl : Fl}, H0.get b = some (.cells cs t fl) → b < 7 ∧ cs = gAV b ∧ t = gTy b ∧ fl = frzFl b := by
    intro b cs t fl hx
    obtain ⟨h1, h2⟩ := hobj hx
    cases h2
    exact ⟨h1, rfl, rfl, rfl⟩
  refine ⟨?_, ?_, ?_, ?_, ?_, ?_, ?_, ?_, ?_, Nat.le_refl _, fun _ _ => rfl, ⟨rfl, rfl⟩, ?_, ?_⟩
  · intro b r o hb
    obtain ⟨h1, rfl, rfl⟩ := β0_some hb
    exact ⟨h1, by have := h.size; omega⟩
  · intro b cs t fl r o hx hb
    obtain ⟨h1, rfl, rfl⟩ := β0_some hb
    obtain ⟨_, rfl, rfl, rfl⟩ := hc hx
    obtain ⟨c, fz, e1, e2, e3⟩ := h.row r h1
    exact ⟨c, fz, e1, e3, (fun hf => by cases hf), e2⟩
  · intro b es k r o hx _; obtain ⟨_, h2⟩ := hobj hx; cases h2
  · intro b s p r o hx _; obtain ⟨_, h2⟩ := hobj hx; cases h2
  · intro b m r o hx _; obtain ⟨_, h2⟩ := hobj hx; cases h2
  · intro b1 b2 r o1 o2 x1 x2 hne h1 h2 _ _ _ _
    obtain ⟨_, rfl, _⟩ := β0_some h1
    obtain ⟨_, rfl, _⟩ := β0_some h2
    exact absurd rfl hne
  · intro b1 b2 cs1 t1 f1 cs2 t2 f2 h1 h2 hf _ _
    obtain ⟨_, _, _, rfl⟩ := hc h1
    obtain ⟨_, _, _, rfl⟩ := hc h2
    exact hf
  · intro b1 b2 cs1 t1 f1 cs2 t2 f2 h1 h2 hf _
    obtain ⟨_, _, _, rfl⟩ := hc h1
    obtain ⟨_, _, _, rfl⟩ := hc h2
    exact hf
  · intro b cs t fl hx
    obtain ⟨h1, _, _, rfl⟩ := hc hx
    exact h1
  · intro b r o x hb _ hx _
    obtain ⟨_, rfl⟩ := hobj hx
    exact ⟨_, _, _, rfl, rfl⟩
  · intro b cs t fl r o hx _ he
    obtain ⟨_, _, _, rfl⟩ := hc hx
    cases he

theorem globs_start : Globs Tryz.prog β0 := fun g hg => by
  have : Tryz.prog.globals.size = 7 := by kernel_rfl
  rw [this] at hg
  show (if g < 7 then some (g, 0) else none) = _
  rw [if_pos hg]

theorem cellRel_tab {k : IntKind} {zs : List Int} {c : Array Value} (h : c = (zs.map fun z => Value.int k z).toArray) : CellRel β0 (tabAV k zs) 0 c := by
  subst h
  refine ⟨by simp [tabAV], fun i x hx => ?_⟩
  simp only [tabAV, List.getElem?_map, Option.map_eq_some_iff] at hx
  obtain ⟨z, hz, rfl⟩ := hx
  exact ⟨.int k z, by simp [hz], .int k z⟩
theorem cellRel_nil {c : Array Value} : CellRel β0 [] 0 c := ⟨by simp, fun i x hx => by simp at hx⟩

theorem gRow : ∀ g, g < 7 → (((begin Tryz.prog (fun _ _ => 0) default).world.heap[g]?).bind Obj.row?).map (fun x => (x.1.size, x.2)) = some (gSz g, gTy g) := by
  have h : (List.range 7).all (fun g => decide ((((begin Tryz.prog (fun _ _ => 0) default).world.heap[g]?).bind Obj.row?).map (fun x => (x.1.size, x.2)) = some (gSz g, gTy g))) = true := by kernel_rfl
  exact fun g hg => of_decide_eq_true (List.all_eq_true.1 h g (List.mem_range.2 hg))

theorem varsAt_of {W : World} (hsh : W.ShapedOpen Tryz.prog) (hL : laidMetH Tryz.prog Rows.machineNilRow.laid W) : VarsAt W := by
  have hg7 : Tryz.prog.globals.size = 7 := by kernel_rfl
  have hb12 : (begin Tryz.prog (fun _ _ => 0) default).world.heap.size = 12 := by kernel_rfl
  have blk : ∀ g, g < 7 → ∃ c fz, W.heap[g]? = some (.cells c (gTy g) fz) ∧ c.size = gSz g := by
    intro g hg
    have hr := gRow g hg
    obtain ⟨⟨z, t⟩, hz, he⟩ := Option.map_eq_some_iff.1 hr
    simp only [Prod.mk.injEq] at he
    obtain ⟨e1, e2⟩ := he
    subst e2
    obtain ⟨cs, h1, h2, _⟩ := hsh.1 g z (gTy g) (by rw [hg7]; exact hg) hz
    exact ⟨cs, _, h1, h2.trans e1⟩
  have var : ∀ {name : String} {k : IntKind} {zs : List Int} {g : Nat}, Lib.TabIs Tryz.prog W name k zs → Tryz.prog.globalNamed name = some g → g < 7 → ∃ c fz, W.heap[g]? = some (.cells c (gTy g) fz) ∧ c.size = gSz g ∧ CellRel β0 (tabAV k zs) 0 c := by
    intro name k zs g ht hn hg
    obtain ⟨c, fz, h1, h2⟩ := blk g hg
    refine ⟨c, fz, h1, h2, cellRel_tab ?_⟩
    have hv : W.var? Tryz.prog name = some _ := ht
    simp only [World.var?, hn, Option.bind_some, h1, Option.some.injEq] at hv
    exact hv
  have one : ∀ (k : IntKind) (name : String) (d : DataW Unit), (Rows.machineNilRow.laid.filter fun x => x.1 == name) = [(name, d)] → d.handleName?.isSome = false → Lib.tabData k (zsOf d) = d → laidMet Tryz.prog ((name, Lib.tabData k (zsOf d)) :: []) W := by
    intro k name d h1 h2 h3
    have h := hL.filter (fun x => x.1 == name)
    rw [h1] at h
    rw [h3]
    have e : ([(name, d)].filter fun x => x.2.handleName?.isSome) = [] := by simp [h2]
    unfold laidMetH at h
    rw [e] at h
    exact h
  have t0 : Lib.TabIs Tryz.prog W "internal/strconv.uint64pow10" .u64 (zsOf Rows.laid_internal_strconv_uint64pow10) :=
    Lib.tabIs_of_head (rest := []) (g := 0) (by kernel_rfl) (by kernel_rfl) Tryz.underlying367 (by kernel_rfl) (by kernel_rfl) (by kernel_rfl) (one .u64 "internal/strconv.uint64pow10" Rows.laid_internal_strconv_uint64pow10 (by kernel_rfl) (by kernel_rfl) (by kernel_rfl))
  have t1 : Lib.TabIs Tryz.prog W "strings.asciiSpace" .u8 (zsOf Rows.laid_strings_asciiSpace) :=
    Lib.tabIs_of_head (rest := []) (g := 1) (by kernel_rfl) (by kernel_rfl) Tryz.underlying398 (by kernel_rfl) (by kernel_rfl) (by kernel_rfl) (one .u8 "strings.asciiSpace" Rows.laid_strings_asciiSpace (by kernel_rfl) (by kernel_rfl) (by kernel_rfl))
  have t2 : Lib.TabIs Tryz.prog W "math/bits.deBruijn32tab" .u8 (zsOf Rows.laid_math_bits_deBruijn32tab) :=
    Lib.tabIs_of_head (rest := []) (g := 2) (by kernel_rfl) (by kernel_rfl) Tryz.underlying430 (by kernel_rfl) (by kernel_rfl) (by kernel_rfl) (one .u8 "math/bits.deBruijn32tab" Rows.laid_math_bits_deBruijn32tab (by kernel_rfl) (by kernel_rfl) (by kernel_rfl))
  have t3 : Lib.TabIs Tryz.prog W "math/bits.deBruijn64tab" .u8 (zsOf Rows.laid_math_bits_deBruijn64tab) :=
    Lib.tabIs_of_head (rest := []) (g := 3) (by kernel_rfl) (by kernel_rfl) Tryz.underlying431 (by kernel_rfl) (by kernel_rfl) (by kernel_rfl) (one .u8 "math/bits.deBruijn64tab" Rows.laid_math_bits_deBruijn64tab (by kernel_rfl) (by kernel_rfl) (by kernel_rfl))
  refine ⟨?_, fun g hg => ?_, Tryz.laysM144.s1_3 W hsh⟩
  · have h11 := hsh.2 11 (by rw [hg7]; omega) (by rw [hb12]; omega)
    obtain ⟨o, o₀, h1, _⟩ := h11
    have := (Array.getElem?_eq_some_iff.1 h1).1
    omega
  · match g, hg with
    | 0, _ => exact var t0 (by kernel_rfl) (by omega)
    | 1, _ => exact var t1 (by kernel_rfl) (by omega)
    | 2, _ => exact var t2 (by kernel_rfl) (by omega)
    | 3, _ => exact var t3 (by kernel_rfl) (by omega)
    | 4, h => obtain ⟨c, fz, h1, h2⟩ := blk 4 h; exact ⟨c, fz, h1, h2, cellRel_nil⟩
    | 5, h => obtain ⟨c, fz, h1, h2⟩ := blk 5 h; exact ⟨c, fz, h1, h2, cellRel_nil⟩
    | 6, h => obtain ⟨c, fz, h1, h2⟩ := blk 6 h; exact ⟨c, fz, h1, h2, cellRel_nil⟩
end Go.Ab
