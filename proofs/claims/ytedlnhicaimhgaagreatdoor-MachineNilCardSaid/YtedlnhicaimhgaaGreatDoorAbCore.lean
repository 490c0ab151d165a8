import Derived.Calls
import Derived.Defers
import Derived.Recover
import Derived.Scope
/-!
The abstract machine: values, a heap, and what the loaded code does with them, as a function. No size of an array's spare room, no order of operands is left open here:
the theorem of YtedlnhicaimhgaaGreatDoorAbSound says that whatever this function answers the model's run answers too, whatever the tape.
-/
namespace Go.Ab

/-! ### Finite maps keyed by naturals, quick in the kernel -/
inductive PMap (α : Type) where
  | leaf
  | node (l : PMap α) (o : Option α) (r : PMap α)

namespace PMap
variable {α : Type}
def get : PMap α → Nat → Option α
  | .leaf, _ => none
  | .node l o r, k => cond (Nat.beq k 0) o (cond (Nat.beq (k % 2) 1) (get l (k / 2)) (get r (k / 2 - 1)))
def setF : Nat → PMap α → Nat → α → PMap α
  | 0, m, _, _ => m
  | n + 1, .leaf, k, v => cond (Nat.beq k 0) (.node .leaf (some v) .leaf)
      (cond (Nat.beq (k % 2) 1) (.node (setF n .leaf (k / 2) v) none .leaf) (.node .leaf none (setF n .leaf (k / 2 - 1) v)))
  | n + 1, .node l o r, k, v => cond (Nat.beq k 0) (.node l (some v) r)
      (cond (Nat.beq (k % 2) 1) (.node (setF n l (k / 2) v) o r) (.node l o (setF n r (k / 2 - 1) v)))
def set (m : PMap α) (k : Nat) (v : α) : PMap α := setF (k + 1) m k v

theorem get_leaf (k : Nat) : (PMap.leaf : PMap α).get k = none := by simp [get]
theorem get_setF : ∀ (n : Nat) (m : PMap α) (k : Nat) (v : α) (j : Nat), k < n → (setF n m k v).get j = if j = k then some v else m.get j := by
  intro n
  induction n with
  | zero => intro m k v j h; omega
  | succ n ih =>
    intro m k v j h
    have hb0 : ∀ x : Nat, Nat.beq x 0 = decide (x = 0) := fun x => by cases x <;> rfl
    have hb1 : ∀ x : Nat, Nat.beq x 1 = decide (x = 1) := fun x => by
      rcases x with _ | _ | x <;> rfl
    by_cases hk : k = 0
    · subst hk
      cases m with
      | leaf =>
        by_cases hj : j = 0
        · subst hj; simp [setF, get, hb0]
        · simp [setF, get, hb0, hb1, hj]
      | node l o r =>
        by_cases hj : j = 0
        · subst hj; simp [setF, get, hb0]
        · simp [setF, get, hb0, hb1, hj]
    · by_cases h2 : k % 2 = 1
      · have i1 := ih .leaf (k / 2) v (j / 2) (by omega)
        cases m with
        | leaf =>
          simp only [setF, hb0, hb1, hk, h2, decide_true, decide_false, cond_true, cond_false, get]
          by_cases hj : j = 0
          · subst hj; simp; omega
          · by_cases hj2 : j % 2 = 1
            · simp only [hj, hj2, decide_true, decide_false, cond_true, cond_false]
              rw [i1]; simp only [get]
              by_cases e : j = k
              · subst e; simp
              · rw [if_neg (by omega), if_neg e]
            · simp only [hj, hj2, decide_false, cond_false]
              rw [if_neg (by intro e; subst e; exact hj2 h2)]
        | node l o r =>
          have i2 := ih l (k / 2) v (j / 2) (by omega)
          simp only [setF, hb0, hb1, hk, h2, decide_true, decide_false, cond_true, cond_false, get]
          by_cases hj : j = 0
          · subst hj; simp; intro e; omega
          · by_cases hj2 : j % 2 = 1
            · simp only [hj, hj2, decide_true, decide_false, cond_true, cond_false]
              rw [i2]
              by_cases e : j = k
              · subst e; simp
              · rw [if_neg (by omega), if_neg e]
            · simp only [hj, hj2, decide_false, cond_false]
              rw [if_neg (by intro e; subst e; exact hj2 h2)]
      · have i1 := ih .leaf (k / 2 - 1) v (j / 2 - 1) (by omega)
        cases m with
        | leaf =>
          simp only [setF, hb0, hb1, hk, h2, decide_false, cond_false, get]
          by_cases hj : j = 0
          · subst hj; simp; omega
          · by_cases hj2 : j % 2 = 1
            · simp only [hj, hj2, decide_true, decide_false, cond_true, cond_false]
              rw [if_neg (by intro e; subst e; exact h2 hj2)]
            · simp only [hj, hj2, decide_false, cond_false]
              rw [i1]; simp only [get]
              by_cases e : j = k
              · subst e; simp
              · rw [if_neg (by omega), if_neg e]
        | node l o r =>
          have i2 := ih r (k / 2 - 1) v (j / 2 - 1) (by omega)
          simp only [setF, hb0, hb1, hk, h2, decide_false, cond_false, get]
          by_cases hj : j = 0
          · subst hj; simp; intro e; omega
          · by_cases hj2 : j % 2 = 1
            · simp only [hj, hj2, decide_true, decide_false, cond_true, cond_false]
              rw [if_neg (by intro e; subst e; exact h2 hj2)]
            · simp only [hj, hj2, decide_false, cond_false]
              rw [i2]
              by_cases e : j = k
              · subst e; simp
              · rw [if_neg (by omega), if_neg e]
theorem get_set (m : PMap α) (k : Nat) (v : α) (j : Nat) : (m.set k v).get j = if j = k then some v else m.get j := get_setF _ _ _ _ _ (by omega)
end PMap

/-! ### Values -/
inductive AV where
  | any                                   -- nothing is known of it
  | bool (b : Bool)
  | int (k : IntKind) (n : Int)
  | str (s : List Nat)
  | nilp
  | ptr (b off : Nat)
  | nils
  | sl (b off len cap sp : Nat)           -- sp = 0: the room behind it is known; else what is behind it is of elements of sp cells
  | nilm
  | mp (m : Nat)
  | nilf
  | fn (f : Nat) (first captured : List AV)
  | nili
  | iface (t : Nat) (v : AV)
  | agg (cs : List AV)
  | tup (vs : List AV)
  deriving Inhabited

def AV.undef : AV := .tup []
def AV.cells : AV → List AV
  | .agg cs => cs
  | v => [v]

/-- A value that is laid in one cell. -/
def AV.one : AV → Bool
  | .agg _ | .tup _ | .any => false
  | _ => true

mutual
def AV.beq : AV → AV → Bool
  | .bool a, .bool b => a == b
  | .int j a, .int k b => j == k && a == b
  | .str a, .str b => a == b
  | .nilp, .nilp => true
  | .ptr a i, .ptr b j => a == b && i == j
  | .nils, .nils => true
  | .sl a b c d e, .sl a' b' c' d' e' => a == a' && b == b' && c == c' && d == d' && e == e'
  | .nilm, .nilm => true
  | .mp a, .mp b => a == b
  | .nilf, .nilf => true
  | .fn f a c, .fn g b d => f == g && AV.beqL a b && AV.beqL c d
  | .nili, .nili => true
  | .iface t a, .iface u b => t == u && AV.beq a b
  | .agg a, .agg b => AV.beqL a b
  | .tup a, .tup b => AV.beqL a b
  | _, _ => false
def AV.beqL : List AV → List AV → Bool
  | [], [] => true
  | a :: as, b :: bs => AV.beq a b && AV.beqL as bs
  | _, _ => false
end

mutual
theorem AV.beq_eq : ∀ (a b : AV), AV.beq a b = true → a = b
  | .any, b => by cases b <;> simp [AV.beq]
  | .bool _, b => by cases b <;> simp [AV.beq]
  | .int _ _, b => by cases b <;> simp [AV.beq]
  | .str _, b => by cases b <;> simp [AV.beq]
  | .nilp, b => by cases b <;> simp [AV.beq]
  | .ptr _ _, b => by cases b <;> simp [AV.beq]
  | .nils, b => by cases b <;> simp [AV.beq]
  | .sl _ _ _ _ _, b => by cases b <;> simp [AV.beq, and_assoc]
  | .nilm, b => by cases b <;> simp [AV.beq]
  | .mp _, b => by cases b <;> simp [AV.beq]
  | .nilf, b => by cases b <;> simp [AV.beq]
  | .fn f a c, b => by
    cases b <;> simp [AV.beq]
    intro h1 h2 h3; exact ⟨h1, AV.beqL_eq _ _ h2, AV.beqL_eq _ _ h3⟩
  | .nili, b => by cases b <;> simp [AV.beq]
  | .iface t a, b => by
    cases b <;> simp [AV.beq]
    intro h1 h2; exact ⟨h1, AV.beq_eq _ _ h2⟩
  | .agg a, b => by
    cases b <;> simp [AV.beq]
    intro h; exact AV.beqL_eq _ _ h
  | .tup a, b => by
    cases b <;> simp [AV.beq]
    intro h; exact AV.beqL_eq _ _ h
theorem AV.beqL_eq : ∀ (a b : List AV), AV.beqL a b = true → a = b
  | [], b => by cases b <;> simp [AV.beqL]
  | a :: as, b => by
    cases b <;> simp [AV.beqL]
    intro h1 h2; exact ⟨AV.beq_eq _ _ h1, AV.beqL_eq _ _ h2⟩
end

/-! ### The heap -/
structure Fl where
  fam : Nat        -- its family: blocks that may lie in one array
  tip : Bool       -- the family's newest
  alone : Bool     -- no other of its family is left
  frz : Bool       -- a string shares its bytes
  ex : Bool        -- the other side's block is no greater

inductive AObj where
  | cells (cs : List AV) (t : TypeId) (fl : Fl)
  | map (es : List (AV × AV × Nat)) (clock : Nat)
  | iter (s : List Nat) (pos : Nat)
  | miter (m : Nat)
  | dead

structure Heap where
  objs : PMap AObj
  size : Nat

namespace Heap
def get (H : Heap) (b : Nat) : Option AObj := cond (Nat.blt b H.size) (H.objs.get b) none
def push (H : Heap) (o : AObj) : Heap := { objs := H.objs.set H.size o, size := H.size + 1 }
def put (H : Heap) (b : Nat) (o : AObj) : Heap := cond (Nat.blt b H.size) { H with objs := H.objs.set b o } H
theorem blt_eq (a b : Nat) : Nat.blt a b = decide (a < b) := by
  unfold Nat.blt
  rw [Bool.eq_iff_iff]; simp [Nat.ble_eq]; omega
theorem get_eq (H : Heap) (b : Nat) : H.get b = if b < H.size then H.objs.get b else none := by
  unfold get; rw [blt_eq]; by_cases h : b < H.size <;> simp [h]
theorem get_lt {H : Heap} {b : Nat} {o : AObj} (h : H.get b = some o) : b < H.size := by
  rw [get_eq] at h; by_cases hb : b < H.size
  · exact hb
  · rw [if_neg hb] at h; cases h
theorem get_push (H : Heap) (o : AObj) (b : Nat) : (H.push o).get b = if b = H.size then some o else H.get b := by
  rw [get_eq, get_eq]; unfold push; simp only [PMap.get_set]
  by_cases h : b = H.size
  · subst h; simp
  · by_cases hb : b < H.size
    · rw [if_pos (by omega), if_neg h, if_pos hb, if_neg h]
    · rw [if_neg (by omega), if_neg h, if_neg hb]
theorem size_push (H : Heap) (o : AObj) : (H.push o).size = H.size + 1 := rfl
theorem size_put (H : Heap) (b : Nat) (o : AObj) : (H.put b o).size = H.size := by
  unfold put; rw [blt_eq]; by_cases h : b < H.size <;> simp [h]
theorem get_put (H : Heap) (b : Nat) (o : AObj) (c : Nat) : (H.put b o).get c = if c = b ∧ b < H.size then some o else H.get c := by
  unfold put; rw [blt_eq]
  by_cases h : b < H.size
  · simp only [h, decide_true, cond_true]; rw [get_eq, get_eq]; simp only [PMap.get_set]
    by_cases e : c = b
    · subst e; simp [h]
    · by_cases hc : c < H.size <;> simp [e, hc]
  · simp [h]
end Heap

/-- What a fresh block's flags are: it is its own family. -/
def Heap.fresh (H : Heap) : Fl := { fam := H.size, tip := true, alone := true, frz := false, ex := true }
def Heap.new (H : Heap) (t : TypeId) (cs : List AV) : Heap := H.push (.cells cs t H.fresh)
/-- A fresh block behind whose cells there may be room. -/
def Heap.newA (H : Heap) (t : TypeId) (cs : List AV) : Heap := H.push (.cells cs t { H.fresh with ex := false })

/-- All others of a family fall. -/
def Heap.fell (fam b : Nat) : Nat → Heap → Heap
  | 0, H => H
  | n + 1, H =>
    let H' := Heap.fell fam b n H
    match H.get n with
    | some (.cells _ _ fl) => cond (Nat.beq fl.fam fam && !(Nat.beq n b)) (H'.put n .dead) H'
    | _ => H'

/-- Where a cell may be written: the block is the newest of its family, and no string shares it; the others of its family fall. -/
def Heap.own (H : Heap) (b : Nat) : Option (Heap × List AV × TypeId × Fl) :=
  match H.get b with
  | some (.cells cs t fl) =>
    cond (fl.tip && !fl.frz)
      (cond fl.alone (some (H, cs, t, fl))
        (let fl' := { fl with alone := true }
         some ((Heap.fell fl.fam b H.size H).put b (.cells cs t fl'), cs, t, fl'))) none
  | _ => none

def setL : List AV → Nat → List AV → Option (List AV)
  | cs, _, [] => some cs
  | cs, i, v :: vs => cond (v.one && Nat.blt i cs.length) (setL (cs.set i v) (i + 1) vs) none

/-- Some cells in a row are written. -/
def Heap.store (H : Heap) (b off : Nat) (vs : List AV) : Option Heap :=
  match vs with
  | [] => some H
  | _ =>
    match H.own b with
    | some (H', cs, t, fl) =>
      match setL cs off vs with
      | some cs' => some (H'.put b (.cells cs' t fl))
      | none => none
    | none => none

/-- Some cells in a row are read. -/
def Heap.load (H : Heap) (b off n : Nat) : Option (List AV) :=
  match H.get b with
  | some (.cells cs _ _) => cond (Nat.ble (off + n) cs.length) (some ((cs.drop off).take n)) none
  | _ => none

end Go.Ab
