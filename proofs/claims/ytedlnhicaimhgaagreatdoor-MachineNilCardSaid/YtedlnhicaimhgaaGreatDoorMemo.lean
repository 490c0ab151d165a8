import Derived.Test.YtedlnhicaimhgaaGreatDoorAbFast
/-!
A run in pieces: calls whose answers are known.
-/
namespace Go.Ab

def PMap.beqF {α : Type} (f : α → α → Bool) : PMap α → PMap α → Bool
  | .leaf, .leaf => true
  | .node l o r, .node l' o' r' => (match o, o' with | none, none => true | some a, some b => f a b | _, _ => false) && PMap.beqF f l l' && PMap.beqF f r r'
  | _, _ => false
theorem PMap.beqF_eq {α : Type} {f : α → α → Bool} (hf : ∀ a b, f a b = true → a = b) : ∀ a b : PMap α, PMap.beqF f a b = true → a = b
  | .leaf, b, h => by cases b with
    | leaf => rfl
    | node => simp [PMap.beqF] at h
  | .node l o r, b, h => by
    cases b with
    | leaf => simp [PMap.beqF] at h
    | node l' o' r' =>
      simp only [PMap.beqF, Bool.and_eq_true] at h
      obtain ⟨⟨h1, h2⟩, h3⟩ := h
      have e2 := PMap.beqF_eq hf l l' h2
      have e3 := PMap.beqF_eq hf r r' h3
      have e1 : o = o' := by
        cases o <;> cases o' <;> simp at h1
        · rfl
        · rw [hf _ _ h1]
      rw [e1, e2, e3]
def entB : List (AV × AV × Nat) → List (AV × AV × Nat) → Bool
  | [], [] => true
  | (a, b, c) :: l, (a', b', c') :: l' => AV.beq a a' && AV.beq b b' && Nat.beq c c' && entB l l'
  | _, _ => false
theorem entB_eq : ∀ a b, entB a b = true → a = b
  | [], b, h => by cases b <;> simp [entB] at h ⊢
  | (a, b, c) :: l, l2, h => by
    cases l2 with
    | nil => simp [entB] at h
    | cons x l' =>
      obtain ⟨a', b', c'⟩ := x
      simp only [entB, Bool.and_eq_true, Nat.beq_eq] at h
      obtain ⟨⟨⟨h1, h2⟩, h3⟩, h4⟩ := h
      rw [AV.beq_eq _ _ h1, AV.beq_eq _ _ h2, h3, entB_eq l l' h4]
def AObj.beq : AObj → AObj → Bool
  | .cells cs t fl, .cells cs' t' fl' => AV.beqL cs cs' && Nat.beq t t' && Fl.beq fl fl'
  | .map es k, .map es' k' => entB es es' && Nat.beq k k'
  | .iter s p, .iter s' p' => eqS s s' && Nat.beq p p'
  | .miter m, .miter m' => Nat.beq m m'
  | .dead, .dead => true
  | _, _ => false
theorem AObj.beq_eq : ∀ a b, AObj.beq a b = true → a = b := by
  intro a b h
  cases a <;> cases b <;> simp only [AObj.beq, Bool.and_eq_true, Nat.beq_eq, reduceCtorEq, Bool.false_eq_true] at h
  · obtain ⟨⟨h1, h2⟩, h3⟩ := h
    rename_i cs t fl cs' t' fl'
    have e3 : fl = fl' := by
      obtain ⟨a, b, c, d, e⟩ := fl
      obtain ⟨a', b', c', d', e'⟩ := fl'
      simp only [Fl.beq, Bool.and_eq_true, Nat.beq_eq, beq_iff_eq] at h3
      obtain ⟨⟨⟨⟨q1, q2⟩, q3⟩, q4⟩, q5⟩ := h3
      subst q1; subst q2; subst q3; subst q4; subst q5; rfl
    rw [AV.beqL_eq _ _ h1, h2, e3]
  · rw [entB_eq _ _ h.1, h.2]
  · rename_i s p s2 p2; have e : s = s2 := of_decide_eq_true (by rw [← eqS_eq]; exact h.1)
    rw [e, h.2]
  · rw [h]
  · rfl
def Heap.beq (H H' : Heap) : Bool := Nat.beq H.size H'.size && PMap.beqF AObj.beq H.objs H'.objs
theorem Heap.beq_eq {H H' : Heap} (h : Heap.beq H H' = true) : H = H' := by
  obtain ⟨o, s⟩ := H
  obtain ⟨o', s'⟩ := H'
  simp only [Heap.beq, Bool.and_eq_true, Nat.beq_eq] at h
  rw [h.1, PMap.beqF_eq AObj.beq_eq _ _ h.2]

/-- Blocks in a row are laid. -/
def putsF : PMap AObj → List (Nat × AObj) → PMap AObj
  | m, [] => m
  | m, (b, o) :: l => putsF (m.set b o) l
def Heap.puts (H : Heap) (n : Nat) (l : List (Nat × AObj)) : Heap := { objs := putsF H.objs l, size := n }

/-- A call whose answer is known. -/
structure Ent where
  n : Nat
  f : Nat
  args : List AV
  H : Heap
  r : CR

section
variable (P : Prog)
def Ent.ok (e : Ent) : Prop := callF P e.n e.f e.args e.H = some e.r

def askT (n : Nat) (f : Nat) (args : List AV) (H : Heap) : List Ent → Option CR
  | [] => none
  | e :: l => cond (Nat.beq e.n n && Nat.beq e.f f && AV.beqL e.args args && Heap.beq e.H H) (some e.r) (askT n f args H l)
theorem askT_ok {n f : Nat} {args : List AV} {H : Heap} {r : CR} : ∀ {l : List Ent}, (∀ e ∈ l, e.ok P) → askT n f args H l = some r → callF P n f args H = some r
  | [], _, h => by simp [askT] at h
  | e :: l, hl, h => by
    simp only [askT] at h
    cases hc : (Nat.beq e.n n && Nat.beq e.f f && AV.beqL e.args args && Heap.beq e.H H) with
    | false => rw [hc] at h; exact askT_ok (fun e he => hl e (by simp [he])) h
    | true =>
      rw [hc] at h
      simp only [cond_true, Option.some.injEq] at h
      simp only [Bool.and_eq_true, Nat.beq_eq] at hc
      obtain ⟨⟨⟨h1, h2⟩, h3⟩, h4⟩ := hc
      have := hl e (by simp)
      unfold Ent.ok at this
      rw [h1, h2, AV.beqL_eq _ _ h3, Heap.beq_eq h4, h] at this
      exact this

noncomputable def bodyF (ih : CallT) (n : Nat) : CallT := fun f args H =>
  match P.fn f with
  | none => none
  | some F =>
    match codeF P.meth ih n F.code { env := initEnv args 0 .leaf, dfs := [], heap := H, rc := none } with
    | some (.normal, st) => finish (callDF P ih n) F st none
    | some (.ret, st) => finish (callDF P ih n) F st none
    | some (.pan v, st) => finish (callDF P ih n) F st (some v)
    | _ => none
/-- The run that looks its answers up. -/
noncomputable def callM (tbl : List Ent) (n : Nat) : CallT :=
  Nat.rec (motive := fun _ => CallT) (fun _ _ _ => none) (fun n ih f args H =>
    match askT (n + 1) f args H tbl with
    | some r => some r
    | none => bodyF P ih n f args H) n
theorem callM_eq {tbl : List Ent} (h : ∀ e ∈ tbl, e.ok P) : ∀ n, callM P tbl n = callF P n
  | 0 => by funext f args H; rfl
  | n + 1 => by
    funext f args H
    show (match askT (n + 1) f args H tbl with | some r => some r | none => bodyF P (callM P tbl n) n f args H) = _
    cases ha : askT (n + 1) f args H tbl with
    | some r => exact (askT_ok P h ha).symm
    | none =>
      rw [callM_eq h n, ← callFF_eq (P := P) n, ← callFF_eq (P := P) (n + 1)]
      rfl
/-- How an answer is told: the run that looks up the answers within comes to it. -/
theorem Ent.ok_of {e : Ent} (tbl : List Ent) (h : ∀ e ∈ tbl, e.ok P)
    (hr : (match callM P tbl e.n e.f e.args e.H, e.r with
      | some (.ret v H), .ret v' H' => AV.beq v v' && Heap.beq H H'
      | some (.pan v H), .pan v' H' => AV.beq v v' && Heap.beq H H'
      | _, _ => false) = true) : e.ok P := by
  unfold Ent.ok
  rw [← callM_eq P h]
  split at hr
  · rename_i h1 h2
    simp only [Bool.and_eq_true] at hr
    rw [h1, h2, AV.beq_eq _ _ hr.1, Heap.beq_eq hr.2]
  · rename_i h1 h2
    simp only [Bool.and_eq_true] at hr
    rw [h1, h2, AV.beq_eq _ _ hr.1, Heap.beq_eq hr.2]
  · cases hr
end
end Go.Ab
