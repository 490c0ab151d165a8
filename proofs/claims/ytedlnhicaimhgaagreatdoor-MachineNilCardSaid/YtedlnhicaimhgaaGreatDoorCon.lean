import Derived.Shelf.LaysM
import Derived.Shelf.Strings.Search3
import Derived.Test.YtedlnhicaimhgaaGreatDoorProg
import Derived.Test.YtedlnhicaimhgaaGreatDoorAbDrw14
/-!
strings.Contains, by the shelf's contract, in the abstract machine's words.
-/
namespace Go.Proofs
open Go.Shelf
def Tryz.lays144_ren : Go.Shelf.Ren := ⟨fun | 144 => 223 | 143 => 275 | 219 => 314 | 217 => 219 | 225 => 310 | 224 => 309 | 267 => 332 | 266 => 268 | 314 => 336 | n => n, fun | 9 => 9 | 4 => 4 | 3 => 3 | 5 => 5 | 46 => 364 | 146 => 428 | 51 => 311 | n => n, fun | 1 => 5 | n => n⟩
theorem Tryz.lays144 : Go.Proofs.Lays.n144 Tryz.prog Tryz.lays144_ren := {
  mixed := by kernel_rfl
  f143 := Tryz.func275.trans (congrArg some (by kernel_rfl))
  f144 := Tryz.func223.trans (congrArg some (by kernel_rfl))
  f217 := Tryz.func219.trans (congrArg some (by kernel_rfl))
  f219 := Tryz.func314.trans (congrArg some (by kernel_rfl))
  f224 := Tryz.func309.trans (congrArg some (by kernel_rfl))
  f225 := Tryz.func310.trans (congrArg some (by kernel_rfl))
  f266 := Tryz.func268.trans (congrArg some (by kernel_rfl))
  f267 := Tryz.func332.trans (congrArg some (by kernel_rfl))
  f314 := Tryz.func336.trans (congrArg some (by kernel_rfl))
  t3 := Tryz.underlying3
  a3 := Tryz.isAgg3
  z3 := Tryz.sizeOf3
  v3 := Tryz.zeroValue3
  t4 := Tryz.underlying4
  a4 := Tryz.isAgg4
  z4 := Tryz.sizeOf4
  v4 := Tryz.zeroValue4
  t5 := Tryz.underlying5
  a5 := Tryz.isAgg5
  z5 := Tryz.sizeOf5
  v5 := Tryz.zeroValue5
  t9 := Tryz.underlying9
  a9 := Tryz.isAgg9
  z9 := Tryz.sizeOf9
  v9 := Tryz.zeroValue9
  t46 := Tryz.underlying364
  a46 := Tryz.isAgg364
  z46 := Tryz.sizeOf364
  v46 := Tryz.zeroValue364
  t51 := Tryz.underlying311
  a51 := Tryz.isAgg311
  z51 := Tryz.sizeOf311
  v51 := Tryz.zeroValue311
  t146 := Tryz.underlying428
  a146 := Tryz.isAgg428
  z146 := Tryz.sizeOf428
  v146 := Tryz.zeroValue428
  g1 := by kernel_rfl }
open Go.RowKit Go.Lib in
theorem Tryz.strings_Contains (s sub : ByteArray) (m : Int) (w : World) (hs : s.size < 4294967281) (hm : w.cell? ⟨5, 0, none⟩ = some (.int .i64 m)) :
    Calls Tryz.prog 223 #[.string s, .string sub] w fun e w' => e = .returned (.bool (Lib.contains s.data.toList sub.data.toList)) ∧ w' = w := Any.strings_Contains Tryz.lays144 s sub m w hs hm
def Tryz.laysM144_ren : Go.Shelf.Ren := ⟨fun | 144 => 223 | 143 => 275 | 219 => 314 | 217 => 219 | 225 => 310 | 224 => 309 | 267 => 332 | 266 => 268 | 314 => 336 | n => n, fun | 9 => 9 | 4 => 4 | 3 => 3 | 5 => 5 | 46 => 364 | 146 => 428 | 51 => 311 | n => n, fun | 1 => 5 | n => n⟩
theorem Tryz.laysM144 : Go.Proofs.LaysM.n144 Tryz.prog Tryz.laysM144_ren := {
  mixed := by kernel_rfl
  f143 := Tryz.func275.trans (congrArg some (by kernel_rfl))
  f144 := Tryz.func223.trans (congrArg some (by kernel_rfl))
  f217 := Tryz.func219.trans (congrArg some (by kernel_rfl))
  f219 := Tryz.func314.trans (congrArg some (by kernel_rfl))
  f224 := Tryz.func309.trans (congrArg some (by kernel_rfl))
  f225 := Tryz.func310.trans (congrArg some (by kernel_rfl))
  f266 := Tryz.func268.trans (congrArg some (by kernel_rfl))
  f267 := Tryz.func332.trans (congrArg some (by kernel_rfl))
  f314 := Tryz.func336.trans (congrArg some (by kernel_rfl))
  t3 := Tryz.underlying3
  a3 := Tryz.isAgg3
  z3 := Tryz.sizeOf3
  v3 := Tryz.zeroValue3
  t4 := Tryz.underlying4
  a4 := Tryz.isAgg4
  z4 := Tryz.sizeOf4
  v4 := Tryz.zeroValue4
  t5 := Tryz.underlying5
  a5 := Tryz.isAgg5
  z5 := Tryz.sizeOf5
  v5 := Tryz.zeroValue5
  t9 := Tryz.underlying9
  a9 := Tryz.isAgg9
  z9 := Tryz.sizeOf9
  v9 := Tryz.zeroValue9
  t46 := Tryz.underlying364
  a46 := Tryz.isAgg364
  z46 := Tryz.sizeOf364
  v46 := Tryz.zeroValue364
  t51 := Tryz.underlying311
  a51 := Tryz.isAgg311
  z51 := Tryz.sizeOf311
  v51 := Tryz.zeroValue311
  t146 := Tryz.underlying428
  a146 := Tryz.isAgg428
  z146 := Tryz.sizeOf428
  v146 := Tryz.zeroValue428
  g1 := by kernel_rfl
  i3 := by kernel_rfl
  i4 := by kernel_rfl
  i5 := by kernel_rfl
  i9 := by kernel_rfl
  i46 := by kernel_rfl
  i51 := by kernel_rfl
  i146 := by kernel_rfl
  m1 := by kernel_rfl
  s1_3 := fun w h => Go.Proofs.cell_of_shapedOpen_int (zero := #[.int .i64 0]) (t := 3) h (of_decide_eq_true (by kernel_rfl)) (by kernel_rfl) rfl (by kernel_rfl) (by kernel_rfl) Tryz.underlying3 }
end Go.Proofs

namespace Go.Ab
theorem preL_eq : ∀ (a b : List UInt8), preL (a.map (·.toNat)) (b.map (·.toNat)) = a.isPrefixOf b
  | [], b => by cases b <;> simp [preL]
  | x :: a, [] => by simp [preL]
  | x :: a, y :: b => by
    simp only [List.map_cons, preL, preL_eq a b, List.isPrefixOf]
    congr 1
    rw [Bool.eq_iff_iff]; simp [UInt8.toNat_inj]
theorem index_ge (sub : List UInt8) : ∀ s : List UInt8, -1 ≤ Lib.index s sub := fun s => Lib.index_ge s sub
theorem hasL_eq (sub : List UInt8) : ∀ s : List UInt8, hasL (sub.map (·.toNat)) (s.map (·.toNat)) = Lib.contains s sub
  | [] => by
    simp only [List.map_nil, hasL, Lib.contains, Lib.index]
    cases sub <;> simp [preL]
  | y :: s => by
    have h := preL_eq sub (y :: s)
    simp only [List.map_cons] at h
    simp only [List.map_cons, hasL, h, hasL_eq sub s, Lib.contains, Lib.index]
    have hge := Lib.index_ge s sub
    rw [Bool.eq_iff_iff]
    simp only [Bool.or_eq_true, decide_eq_true_eq, beq_iff_eq]
    by_cases hp : sub.isPrefixOf (y :: s) = true
    · simp [hp]
    · rw [if_neg hp]
      by_cases he : Lib.index s sub = -1
      · rw [if_pos he]; simp [hp]; omega
      · rw [if_neg he]; simp [hp]; omega

theorem conUniq : (Go.Proofs.Tryz.prog.funcs.toList.zipIdx.all fun x => !(x.1.name == "strings.Contains") || Nat.beq x.2 223) = true := by kernel_rfl
theorem conOK {w0 : World} {m : Int} (hm : w0.cell? ⟨5, 0, none⟩ = some (.int .i64 m)) (hs : 5 < w0.heap.size) : ConOK Go.Proofs.Tryz.prog w0 := by
  intro f fn hf hn
  have h1 : f = 223 := by
    have := List.all_eq_true.1 conUniq (fn, f) (List.mem_zipIdx_iff_getElem?.2 (by simpa using hf))
    simpa [hn] using this
  subst h1
  have e : fn = Go.Proofs.Tryz.f223 := Option.some.inj (hf.symm.trans Go.Proofs.Tryz.func223)
  subst e
  refine ⟨⟨_, Go.Proofs.Tryz.func223, by kernel_rfl, by kernel_rfl⟩, fun s sub w hw hlt => ?_⟩
  have hm' : w.cell? ⟨5, 0, none⟩ = some (.int .i64 m) := by
    rw [← hm]; exact World.cell?_of_block (w := w0) (hw 5 hs)
  refine Calls.mono (Go.Proofs.Tryz.strings_Contains s sub m w hlt hm') fun e w' he => ?_
  rw [hasL_eq]; exact he
end Go.Ab
