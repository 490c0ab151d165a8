import Derived.Test.YtedlnhicaimhgaaGreatDoorAbComp
import Derived.WalkKit
/-!
What the abstract machine's values and heap have to do with the model's.
-/
namespace Go.Ab

/-- Where the blocks lie on the other side: which block, from which cell on; and that block's size. -/
structure Ren where
  f : Nat → Option (Nat × Nat)
  sz : Nat → Nat
instance : CoeFun Ren (fun _ => Nat → Option (Nat × Nat)) := ⟨Ren.f⟩

mutual
inductive V (β : Ren) : AV → Value → Prop
  | any (v : Value) : V β .any v
  | bool (b : Bool) : V β (.bool b) (.bool b)
  | int (k : IntKind) (n : Int) : V β (.int k n) (.int k n)
  | str (s : ByteArray) (l : List Nat) (h : s.data.toList.map (·.toNat) = l) : V β (.str l) (.string s)
  | nilp : V β .nilp (.pointer none)
  | ptr {b off r o : Nat} (h : β b = some (r, o)) : V β (.ptr b off) (.pointer (some ⟨r, o + off, none⟩))
  | nils : V β .nils (.slice none 0 0)
  | sl {b off len cap sp r o : Nat} {a : Addr} {cap' : Nat} (h : β b = some (r, o)) (h1 : len ≤ cap) (h2 : cap ≤ cap') (h3 : sp = 0 → cap' = cap)
      (h4 : cap' ≠ 0 → a = ⟨r, o + off, none⟩) (h5 : sp ≠ 0 → o + off + cap' * sp ≤ β.sz b) : V β (.sl b off len cap sp) (.slice (some a) len cap')
  | nilm : V β .nilm (.map none)
  | mp {m r : Nat} (h : β m = some (r, 0)) : V β (.mp m) (.map (some r))
  | nilf : V β .nilf .nilFunc
  | fn {f : Nat} {a c : List AV} {a' c' : Array Value} (h1 : VL β a a'.toList) (h2 : VL β c c'.toList) : V β (.fn f a c) (.func (.func f) a' c')
  | nili : V β .nili .nilIface
  | iface {t : Nat} {x : AV} {x' : Value} (h : V β x x') : V β (.iface t x) (.iface t x')
  | agg {cs : List AV} {cs' : Array Value} (h : VL β cs cs'.toList) : V β (.agg cs) (.agg cs')
  | tup {cs : List AV} {cs' : Array Value} (h : VL β cs cs'.toList) : V β (.tup cs) (.tuple cs')
inductive VL (β : Ren) : List AV → List Value → Prop
  | nil : VL β [] []
  | cons {x : AV} {v : Value} {xs : List AV} {vs : List Value} (h : V β x v) (hs : VL β xs vs) : VL β (x :: xs) (v :: vs)
end

def Ren.le (β β' : Ren) : Prop := ∀ b x, β b = some x → β' b = some x ∧ β'.sz b = β.sz b
theorem Ren.le_refl (β : Ren) : Ren.le β β := fun _ _ h => ⟨h, rfl⟩
theorem Ren.le_trans {a b c : Ren} (h : Ren.le a b) (h' : Ren.le b c) : Ren.le a c := fun x y e => ⟨(h' x y (h x y e).1).1, (h' x y (h x y e).1).2.trans (h x y e).2⟩

mutual
theorem V.mono {β β' : Ren} (hb : Ren.le β β') : ∀ {a : AV} {v : Value}, V β a v → V β' a v
  | _, _, .any v => .any v
  | _, _, .bool b => .bool b
  | _, _, .int k n => .int k n
  | _, _, .str s l h => .str s l h
  | _, _, .nilp => .nilp
  | _, _, .ptr h => .ptr (hb _ _ h).1
  | _, _, .nils => .nils
  | _, _, .sl h h1 h2 h3 h4 h5 => .sl (hb _ _ h).1 h1 h2 h3 h4 (fun e => by rw [(hb _ _ h).2]; exact h5 e)
  | _, _, .nilm => .nilm
  | _, _, .mp h => .mp (hb _ _ h).1
  | _, _, .nilf => .nilf
  | _, _, .fn h1 h2 => .fn (VL.mono hb h1) (VL.mono hb h2)
  | _, _, .nili => .nili
  | _, _, .iface h => .iface (V.mono hb h)
  | _, _, .agg h => .agg (VL.mono hb h)
  | _, _, .tup h => .tup (VL.mono hb h)
theorem VL.mono {β β' : Ren} (hb : Ren.le β β') : ∀ {a : List AV} {v : List Value}, VL β a v → VL β' a v
  | _, _, .nil => .nil
  | _, _, .cons h hs => .cons (V.mono hb h) (VL.mono hb hs)
end

theorem VL.length {β : Ren} : ∀ {a : List AV} {v : List Value}, VL β a v → a.length = v.length
  | _, _, .nil => rfl
  | _, _, .cons _ hs => by simp [VL.length hs]
theorem VL.get {β : Ren} : ∀ {a : List AV} {v : List Value}, VL β a v → ∀ {i : Nat} {x : AV}, a[i]? = some x → ∃ y, v[i]? = some y ∧ V β x y
  | _, _, .nil, i, x, h => by simp at h
  | _, _, .cons h hs, 0, x, e => by simp at e; subst e; exact ⟨_, rfl, h⟩
  | _, _, .cons h hs, i + 1, x, e => by simp at e; simpa using VL.get hs e
theorem VL.append {β : Ren} : ∀ {a b : List AV} {v w : List Value}, VL β a v → VL β b w → VL β (a ++ b) (v ++ w)
  | _, _, _, _, .nil, h => h
  | _, _, _, _, .cons h hs, h' => .cons h (VL.append hs h')
theorem VL.drop {β : Ren} : ∀ {a : List AV} {v : List Value}, VL β a v → ∀ n, VL β (a.drop n) (v.drop n)
  | _, _, .nil, n => by simp; exact .nil
  | _, _, .cons h hs, 0 => by simp; exact .cons h hs
  | _, _, .cons h hs, n + 1 => by simpa using VL.drop hs n
theorem VL.take {β : Ren} : ∀ {a : List AV} {v : List Value}, VL β a v → ∀ n, VL β (a.take n) (v.take n)
  | _, _, .nil, n => by simp; exact .nil
  | _, _, .cons h hs, 0 => by simp; exact .nil
  | _, _, .cons h hs, n + 1 => by simp; exact .cons h (VL.take hs n)
theorem VL.set {β : Ren} : ∀ {a : List AV} {v : List Value}, VL β a v → ∀ (i : Nat) {x : AV} {y : Value}, V β x y → VL β (a.set i x) (v.set i y)
  | _, _, .nil, i, _, _, _ => by simp; exact .nil
  | _, _, .cons h hs, 0, _, _, hx => by simp; exact .cons hx hs
  | _, _, .cons h hs, i + 1, _, _, hx => by simp; exact .cons h (VL.set hs i hx)
theorem VL.of_get {β : Ren} : ∀ {a : List AV} {v : List Value}, a.length = v.length → (∀ (i : Nat) (x : AV) (y : Value), a[i]? = some x → v[i]? = some y → V β x y) → VL β a v
  | [], [], _, _ => .nil
  | [], _ :: _, h, _ => by simp at h
  | _ :: _, [], h, _ => by simp at h
  | x :: xs, y :: ys, h, hg => .cons (hg 0 x y rfl rfl) (VL.of_get (by simpa using h) fun i x' y' h1 h2 => hg (i + 1) x' y' (by simpa using h1) (by simpa using h2))

theorem V.cells {β : Ren} {x : AV} {v : Value} (h : V β x v) (hx : x ≠ .any) : VL β x.cells v.cells.toList := by
  cases h <;> first | exact absurd rfl hx | (simp only [AV.cells, Value.cells]; first | assumption | exact .cons (by constructor <;> assumption) .nil)
theorem V.one {β : Ren} {x : AV} {v : Value} (h : V β x v) (hx : x.one = true) : v.oneCell' = true := by
  cases h <;> simp_all [AV.one, Value.oneCell']

theorem V.undef {β : Ren} : V β AV.undef Go.undef := .tup .nil

mutual
theorem absV_sound {β : Ren} : ∀ (v : Value) (a : AV), absV v = some a → V β a v
  | .bool b, a, h => by simp [absV] at h; subst h; exact .bool b
  | .int k n, a, h => by simp [absV] at h; subst h; exact .int k n
  | .float _ _, a, h => by simp [absV] at h
  | .complex _ _ _, a, h => by simp [absV] at h
  | .string s, a, h => by simp only [absV, Option.some.injEq] at h; exact h ▸ .str s _ rfl
  | .pointer none, a, h => by simp [absV] at h; subst h; exact .nilp
  | .pointer (some _), a, h => by simp [absV] at h
  | .slice none 0 0, a, h => by simp [absV] at h; subst h; exact .nils
  | .slice none (_ + 1) _, a, h => by simp [absV] at h
  | .slice none 0 (_ + 1), a, h => by simp [absV] at h
  | .slice (some _) _ _, a, h => by simp [absV] at h
  | .map none, a, h => by simp [absV] at h; subst h; exact .nilm
  | .map (some _), a, h => by simp [absV] at h
  | .chan _, a, h => by simp [absV] at h
  | .func _ _ _, a, h => by simp [absV] at h
  | .nilFunc, a, h => by simp [absV] at h; subst h; exact .nilf
  | .iface _ _, a, h => by simp [absV] at h
  | .nilIface, a, h => by simp [absV] at h; subst h; exact .nili
  | .agg cs, a, h => by
    simp only [absV] at h
    split at h
    · rename_i l hl; simp at h; subst h; exact .agg (absL_sound cs.toList l hl)
    · simp at h
  | .tuple cs, a, h => by
    simp only [absV] at h
    split at h
    · rename_i l hl; simp at h; subst h; exact .tup (absL_sound cs.toList l hl)
    · simp at h
theorem absL_sound {β : Ren} : ∀ (vs : List Value) (l : List AV), absL vs = some l → VL β l vs
  | [], l, h => by simp [absL] at h; subst h; exact .nil
  | v :: vs, l, h => by
    simp only [absL] at h
    split at h
    · rename_i a r ha hr
      simp at h; subst h
      exact .cons (absV_sound v a ha) (absL_sound vs r hr)
    · simp at h
end
end Go.Ab
