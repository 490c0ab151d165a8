import Derived.Test.YtedlnhicaimhgaaGreatDoorAbCore
/-!
The abstract machine's code and what it does.
-/
namespace Go.Ab

inductive Opd where
  | t (i : Nat) | c (v : AV) | g (n : Nat) | f (n : Nat)
  deriving Inhabited

abbrev Env := PMap AV
def Env.at (e : Env) (i : Nat) : AV := (PMap.get e i).getD .undef
def Opd.ev (e : Env) : Opd → AV
  | .t i => e.at i
  | .c v => v
  | .g n => .ptr n 0
  | .f n => .fn n [] []

/-- What two values are held against each other by. -/
inductive ETy where
  | int | bool | str | ptr | slc | mp | fn | ifc
  | st (fs : List (Nat × Nat × ETy))
  deriving Inhabited

inductive IOp where
  | mv (x : Opd) | pick (c a b : Opd)
  | new (ty : TypeId) (z : List AV) | box (ty : TypeId) (x : Opd)
  | build (z : List AV) (ps : List (Nat × Nat × Opd))
  | bsl (ty : TypeId) (len : Nat) (z : List AV) (ps : List (Nat × Nat × Opd))
  | ld (ag : Bool) (n : Nat) (x : Opd) | st (n : Nat) (x v : Opd)
  | nilc (x : Opd)
  | bin (op : BinOp) (ty : ETy) (x y : Opd) | un (op : UnOp) (x : Opd)
  | cvi (k : IntKind) (x : Opd) | cvs (x : Opd) | cvbs (x : Opd) | cvp (x : Opd) | cvq (ts : List (TypeId × Nat)) (x : Opd)
  | mki (ty : TypeId) (x : Opd) | mkf (f : Nat) (first cap : List Opd) | mkm
  | mks (ty : TypeId) (es bytes : Nat) (z : List AV) (l c : Opd)
  | slc (st : Bool) (es : Nat) (x : Opd) (lo hi mx : Option Opd)
  | slca (n es : Nat) (x : Opd) (lo hi mx : Option Opd)
  | fad (off : Nat) (x : Opd) | fld (off sz : Nat) (ag : Bool) (x : Opd)
  | iad (es : Nat) (x i : Opd) | iada (n es : Nat) (x i : Opd)
  | idxs (x i : Opd) | idxa (es n : Nat) (ag : Bool) (x i : Opd)
  | lkp (kt : ETy) (z : AV) (ok : Bool) (x i : Opd) | mup (kt : ETy) (m k v : Opd)
  | rngs (x : Opd) | nxts (x : Opd) | rngm (x : Opd) | nxtm (x : Opd)
  | tas (ty : TypeId) (ok : Bool) (z : AV) (x : Opd)
  | ext (i : Nat) (x : Opd)
  | app (ty : TypeId) (es bytes : Nat) (z : List AV) (x y : Opd) | cpy (es : Nat) (x y : Opd)
  | len (st : Bool) (x : Opd) | lenm (x : Opd) | lena (n : Nat)
  | mm (mx : Bool) (xs : List Opd)
  | usd (x : Opd) | uss (ty : TypeId) (x n : Opd)
  | xbyte (x c : Opd) | xid (x : Opd) | xcon (x y : Opd)
  | call (f : Nat) (args : List Opd) | callv (x : Opd) (args : List Opd) | inv (x : Opd) (name : String) (args : List Opd)
  | dfr (x : Opd) (args : List Opd) | pan (x : Opd) | rcv
  deriving Inhabited

structure ISt where
  dst : Option Nat
  op : IOp
  g : Option (Nat × Bool)
  deriving Inhabited

/-- An operation of a region that draws its order: is it one that acts; the loads that may come behind it though they stand ahead; the allocations likewise. -/
structure DIt where
  s : ISt
  eff : Bool
  fl : List ISt
  fa : List Nat
  ix : Nat
  pr : Bool        -- it and the next, the region's last, may come in either order
  deriving Inhabited

inductive ICode where
  | skip
  | ops (l : List ISt)
  | drw (l : List DIt)
  | seq (a b : ICode)
  | cond (c : Opd) (a b : ICode)
  | blk (id : Nat) (a : ICode)
  | loop (a : ICode)
  | scope (a : ICode) (l1 : Nat) (r1 : ICode) (l2 : Nat) (r2 : ICode)
  | exit (id : Nat) | goto (l : Nat) | ret
  | bad
  deriving Inhabited

/-! ### Operations -/
def lexLt : List Nat → List Nat → Bool
  | _, [] => false
  | [], _ :: _ => true
  | a :: x, b :: y => Nat.blt a b || (Nat.beq a b && lexLt x y)
def eqS : List Nat → List Nat → Bool
  | [], [] => true
  | a :: x, b :: y => Nat.beq a b && eqS x y
  | _, _ => false

/-- A block that shares its place with no other, and with no string. -/
def Heap.plain (H : Heap) (b : Nat) : Bool :=
  match H.get b with
  | some (.cells _ _ fl) => fl.alone && !fl.frz
  | _ => false

mutual
def aeq (H : Heap) : ETy → AV → AV → Option Bool
  | .int, .int k a, .int j b => cond (k == j) (some (a == b)) none
  | .bool, .bool a, .bool b => some (a == b)
  | .str, .str a, .str b => some (eqS a b)
  | .ptr, .nilp, .nilp => some true
  | .ptr, .nilp, .ptr _ _ => some false
  | .ptr, .ptr _ _, .nilp => some false
  | .ptr, .ptr a i, .ptr b j => cond (H.plain a && H.plain b) (some (Nat.beq a b && Nat.beq i j)) none
  | .slc, .nils, .nils => some true
  | .slc, .nils, .sl _ _ _ _ _ => some false
  | .slc, .sl _ _ _ _ _, .nils => some false
  | .mp, .nilm, .nilm => some true
  | .mp, .nilm, .mp _ => some false
  | .mp, .mp _, .nilm => some false
  | .fn, .nilf, .nilf => some true
  | .fn, .nilf, .fn _ _ _ => some false
  | .fn, .fn _ _ _, .nilf => some false
  | .ifc, .nili, .nili => some true
  | .ifc, .nili, .iface _ _ => some false
  | .ifc, .iface _ _, .nili => some false
  | .st fs, .agg xs, .agg ys => aeqL H fs xs ys
  | _, _, _ => none
def aeqL (H : Heap) : List (Nat × Nat × ETy) → List AV → List AV → Option Bool
  | [], _, _ => some true
  | (off, sz, t) :: fs, xs, ys =>
    cond (Nat.beq sz 1)
      (match xs[off]?, ys[off]? with
       | some x, some y =>
         (match aeq H t x y with
          | some true => aeqL H fs xs ys
          | some false => some false
          | none => none)
       | _, _ => none) none
end

def aint (op : BinOp) (k : IntKind) (a b : Int) : Option AV :=
  match op with
  | .add => some (.int k (k.wrap (a + b)))
  | .sub => some (.int k (k.wrap (a - b)))
  | .mul => some (.int k (k.wrap (a * b)))
  | .quo => cond (b == 0) none (some (.int k (k.wrap (a.tdiv b))))
  | .rem => cond (b == 0) none (some (.int k (a.tmod b)))
  | .and => some (.int k (k.wrap (BitVec.ofInt k.bits a &&& BitVec.ofInt k.bits b).toNat))
  | .or => some (.int k (k.wrap (BitVec.ofInt k.bits a ||| BitVec.ofInt k.bits b).toNat))
  | .xor => some (.int k (k.wrap (BitVec.ofInt k.bits a ^^^ BitVec.ofInt k.bits b).toNat))
  | .andNot => some (.int k (k.wrap (BitVec.ofInt k.bits a &&& ~~~BitVec.ofInt k.bits b).toNat))
  | .eql => some (.bool (a == b))
  | .neq => some (.bool (a != b))
  | .lss => some (.bool (decide (a < b)))
  | .leq => some (.bool (decide (a ≤ b)))
  | .gtr => some (.bool (decide (a > b)))
  | .geq => some (.bool (decide (a ≥ b)))
  | _ => none

def astr (op : BinOp) (a b : List Nat) : Option AV :=
  match op with
  | .add => cond (decide (((a.length + b.length : Nat) : Int) ≤ 9223372036854775807)) (some (.str (a ++ b))) none
  | .eql => some (.bool (eqS a b))
  | .neq => some (.bool (!eqS a b))
  | .lss => some (.bool (lexLt a b))
  | .leq => some (.bool (lexLt a b || eqS a b))
  | .gtr => some (.bool (!(lexLt a b || eqS a b)))
  | .geq => some (.bool (!lexLt a b))
  | _ => none

def abin (H : Heap) (op : BinOp) (ty : ETy) (x y : AV) : Option AV :=
  match x, y with
  | .int k a, .int j b =>
    match op with
    | .shl => cond (decide (b < 0)) none (some (.int k (k.wrap (a * 2 ^ (min b.toNat k.bits)))))
    | .shr => cond (decide (b < 0)) none (some (.int k (a.fdiv (2 ^ (min b.toNat k.bits)))))
    | _ => cond (k == j) (aint op k a b) none
  | .str a, .str b => astr op a b
  | x, y =>
    match op with
    | .eql => (match aeq H ty x y with | some r => some (.bool r) | none => none)
    | .neq => (match aeq H ty x y with | some r => some (.bool !r) | none => none)
    | _ => none

def aun (op : UnOp) (x : AV) : Option AV :=
  match op, x with
  | .neg, .int k n => some (.int k (k.wrap (0 - n)))
  | .xor, .int k n => some (.int k (k.wrap (BitVec.ofInt k.bits (if k.signed then -1 else k.max) ^^^ BitVec.ofInt k.bits n).toNat))
  | .not, .bool b => some (.bool !b)
  | _, _ => none

/-- The cells of a struct or an array, its parts laid in. -/
def putAll : List AV → Nat → List AV → List AV
  | cs, _, [] => cs
  | cs, i, v :: vs => putAll (cs.set i v) (i + 1) vs
def fillA : List AV → List (Nat × Nat × AV) → Option (List AV)
  | cs, [] => some cs
  | cs, (off, sz, v) :: ps =>
    cond (Nat.beq v.cells.length sz && Nat.ble (off + sz) cs.length && v.cells.all AV.one) (fillA (putAll cs off v.cells) ps) none

def repL {α : Type} (z : List α) : Nat → List α
  | 0 => []
  | n + 1 => z ++ repL z n

def idxOfL (c : Nat) : List Nat → Nat → Int
  | [], _ => -1
  | x :: xs, i => cond (Nat.beq x c) (i : Int) (idxOfL c xs (i + 1))

def preL : List Nat → List Nat → Bool
  | [], _ => true
  | _ :: _, [] => false
  | a :: x, b :: y => Nat.beq a b && preL x y
/-- Is the first a part of the second. -/
def hasL (a : List Nat) : List Nat → Bool
  | [] => preL a []
  | b :: y => preL a (b :: y) || hasL a y

/-- A bound of a slice expression. -/
def bnd (ev : Opd → AV) (x : Option Opd) (dflt most : Nat) : Option Nat :=
  match x with
  | none => some dflt
  | some o =>
    match ev o with
    | .int _ n => cond (decide (0 ≤ n) && decide (n ≤ (most : Int))) (some n.toNat) none
    | _ => none

def aslice (ev : Opd → AV) (es : Nat) (x : AV) (lo hi mx : Option Opd) : Option AV :=
  match x with
  | .str s =>
    match mx with
    | some _ => none
    | none =>
      match bnd ev hi s.length s.length with
      | none => none
      | some h =>
        match bnd ev lo 0 h with
        | none => none
        | some l => some (.str ((s.drop l).take (h - l)))
  | .nils =>
    match bnd ev mx 0 0 with
    | none => none
    | some _ =>
      match bnd ev hi 0 0 with
      | none => none
      | some _ =>
        match bnd ev lo 0 0 with
        | none => none
        | some _ => cond (hi.isSome || !mx.isSome) (some .nils) none
  | .sl b off len cap sp =>
    match bnd ev mx cap cap with
    | none => none
    | some m =>
      match bnd ev hi len m with
      | none => none
      | some h =>
        match bnd ev lo 0 h with
        | none => none
        | some l => cond ((hi.isSome || !mx.isSome) && (Nat.beq sp 0 || Nat.beq sp es)) (some (.sl b (off + l * es) (h - l) (m - l) (cond mx.isSome 0 sp))) none
  | _ => none

def asliceA (ev : Opd → AV) (n es : Nat) (x : AV) (lo hi mx : Option Opd) : Option AV :=
  match x with
  | .ptr b off =>
    match bnd ev mx n n with
    | none => none
    | some m =>
      match bnd ev hi n m with
      | none => none
      | some h =>
        match bnd ev lo 0 h with
        | none => none
        | some l => cond (hi.isSome || !mx.isSome) (some (.sl b (off + l * es) (h - l) (m - l) 0)) none
  | _ => none

def capN (k : Option Nat) (m : Nat) : Nat :=
  match k with
  | some j => min j m
  | none => m
/-- The length and the cells of what is appended or copied. -/
def srcCells (H : Heap) (es : Nat) (n : Option Nat) (y : AV) : Option (Nat × List AV) :=
  match y with
  | .nils => some (0, [])
  | .sl b off len _ _ =>
    let k := capN n len
    cond (Nat.beq k 0) (some (0, []))
      (match H.load b off (k * es) with
       | some cs => some (k, cs)
       | none => none)
  | .str s =>
    let k := capN n s.length
    cond (Nat.beq es 1) (some (k, (s.take k).map fun (b : Nat) => AV.int .u8 b)) none
  | _ => none

def srcLen (y : AV) : Option Nat :=
  match y with
  | .nils => some 0
  | .sl _ _ len _ _ => some len
  | .str s => some s.length
  | _ => none

/-- 'append': in the room that is known, or a new block; the old one is then its family's elder. -/
def aappend (H : Heap) (ty : TypeId) (es bytes : Nat) (x y : AV) : Option (AV × Heap) :=
  match srcCells H es none y with
  | none => none
  | some (n, new) =>
    cond (new.all AV.one && Nat.beq new.length (n * es)) (
    match x with
    | .nils =>
      cond (Nat.beq n 0) (some (.nils, H))
        (cond (Nat.ble (n * bytes) 140737488355328 && Nat.blt 0 es && Nat.blt 0 bytes) (some (.sl H.size 0 n n es, H.newA ty new)) none)
    | .sl b off len cap sp =>
      cond (Nat.ble (len + n) cap)
        (match H.store b (off + len * es) new with
         | some H' => some (.sl b off (len + n) cap sp, H')
         | none => none)
        (cond (Nat.ble ((len + n) * bytes) 140737488355328 && Nat.blt 0 es && Nat.blt 0 bytes)
          (match H.load b off (len * es) with
           | none => none
           | some old =>
             cond (Nat.beq sp 0) (some (.sl H.size 0 (len + n) (len + n) es, H.newA ty (old ++ new)))
               (match H.get b with
                | some (.cells cs t fl) =>
                  cond (Nat.beq sp es && Nat.beq t ty && Nat.beq len cap && Nat.beq (off + cap * es) cs.length && fl.tip && !fl.frz)
                    (some (.sl H.size 0 (len + n) (len + n) es,
                      (H.put b (.cells cs t { fl with tip := false, alone := false })).push (.cells (old ++ new) t { fl with tip := true, alone := false, ex := false }))) none
                | _ => none)) none)
    | _ => none) none

def acopy (H : Heap) (es : Nat) (x y : AV) : Option (AV × Heap) :=
  match x with
  | .nils =>
    match srcLen y with
    | some _ => some (.int .i64 0, H)
    | none => none
  | .sl b off len _ _ =>
    match srcCells H es (some len) y with
    | none => none
    | some (n, new) =>
      match H.store b off new with
      | some H' => some (.int .i64 n, H')
      | none => none
  | _ => none

/-- Keys that may be held against each other on the spot. -/
def findA (H : Heap) (kt : ETy) (k : AV) : List (AV × AV × Nat) → Nat → Option (Option (Nat × AV))
  | [], _ => some none
  | (k', v, _) :: es, i =>
    match aeq H kt k k' with
    | some true => some (some (i, v))
    | some false => findA H kt k es (i + 1)
    | none => none

def setE : List (AV × AV × Nat) → Nat → AV → AV → List (AV × AV × Nat)
  | [], _, _, _ => []
  | (k, v, b) :: es, 0, k', v' => (k', v', b) :: es
  | e :: es, i + 1, k', v' => e :: setE es i k' v'

def ammx (mx : Bool) : AV → List AV → Option AV
  | x, [] => some x
  | .int k a, .int j b :: r => cond (k == j) (ammx mx (.int k (cond mx (if b > a then b else a) (if b < a then b else a))) r) none
  | _, _ => none

def bytesOf : List AV → Option (List Nat)
  | [] => some []
  | .int .u8 n :: r =>
    match bytesOf r with
    | some l => cond (decide (0 ≤ n) && decide (n < 256)) (some (n.toNat :: l)) none
    | none => none
  | _ => none

def AV.isStr : AV → Bool
  | .str _ => true
  | _ => false

def vop (o : IOp) (ev : Opd → AV) (H : Heap) : Option (AV × Heap) :=
  match o with
  | .mv x => some (ev x, H)
  | .pick c a b => (match ev c with | .bool true => some (ev a, H) | .bool false => some (ev b, H) | _ => none)
  | .new ty z => some (.ptr H.size 0, H.new ty z)
  | .box ty x => cond ((ev x).cells.all AV.one) (some (.ptr H.size 0, H.new ty (ev x).cells)) none
  | .build z ps => (match fillA z (ps.map fun p => (p.1, p.2.1, ev p.2.2)) with | some cs => some (.agg cs, H) | none => none)
  | .bsl ty len z ps => (match fillA z (ps.map fun p => (p.1, p.2.1, ev p.2.2)) with | some cs => some (.sl H.size 0 len len 0, H.new ty cs) | none => none)
  | .ld ag n x =>
    (match ev x with
     | .ptr b off =>
       (match H.load b off n with
        | some cs => cond ag (some (.agg cs, H)) (match cs with | [v] => some (v, H) | _ => none)
        | none => none)
     | _ => none)
  | .st n x v =>
    (match ev x with
     | .ptr b off => cond (Nat.beq (ev v).cells.length n) (match H.store b off (ev v).cells with | some H' => some (.undef, H') | none => none) none
     | _ => none)
  | .nilc x => (match ev x with | .ptr b off => some (.ptr b off, H) | .fn f a c => some (.fn f a c, H) | .iface t v => some (.iface t v, H) | _ => none)
  | .bin op ty x y => (match abin H op ty (ev x) (ev y) with | some v => some (v, H) | none => none)
  | .un op x => (match aun op (ev x) with | some v => some (v, H) | none => none)
  | .cvi k x => (match ev x with | .int _ n => some (.int k (k.wrap n), H) | _ => none)
  | .cvs x => (match ev x with | .str s => some (.str s, H) | _ => none)
  | .cvbs x =>
    (match ev x with
     | .nils => some (.str [], H)
     | .sl b off len _ _ =>
       cond (Nat.beq len 0) (some (.str [], H))
       (match H.load b off len with
        | some cs => (match bytesOf cs with | some l => some (.str l, H) | none => none)
        | none => none)
     | _ => none)
  | .cvp x => (match ev x with | .nilp => some (.nilp, H) | .ptr b off => (match H.get b with | some (.cells cs _ _) => cond (Nat.blt off cs.length) (some (.ptr b off, H)) none | _ => none) | _ => none)
  | .cvq ts x =>
    (match ev x with
     | .nilp => some (.nilp, H)
     | .ptr b 0 =>
       (match H.get b with
        | some (.cells cs t fl) => cond (fl.ex && ts.any fun p => Nat.beq p.1 t && Nat.beq p.2 cs.length) (some (.ptr b 0, H)) none
        | _ => none)
     | _ => none)
  | .mki ty x => some (.iface ty (ev x), H)
  | .mkf f first cap => some (.fn f (first.map ev) (cap.map ev), H)
  | .mkm => some (.mp H.size, H.push (.map [] 0))
  | .mks ty es bytes z l c =>
    (match ev l, ev c with
     | .int _ a, .int _ b =>
       cond (decide (0 ≤ a) && decide (a ≤ b) && decide (b ≤ 140737488355328) && decide (b * bytes ≤ 140737488355328) && Nat.beq z.length es)
         (some (.sl H.size 0 a.toNat b.toNat 0, H.new ty (repL z b.toNat))) none
     | _, _ => none)
  | .slc st es x lo hi mx => cond ((ev x).isStr == st) (match aslice ev es (ev x) lo hi mx with | some v => some (v, H) | none => none) none
  | .slca n es x lo hi mx => (match asliceA ev n es (ev x) lo hi mx with | some v => some (v, H) | none => none)
  | .fad off x => (match ev x with | .ptr b o => some (.ptr b (o + off), H) | _ => none)
  | .fld off sz ag x =>
    (match ev x with
     | .agg cs => cond ag (cond (Nat.ble (off + sz) cs.length) (some (.agg ((cs.drop off).take sz), H)) none)
        (match cs[off]? with | some v => some (v, H) | none => none)
     | _ => none)
  | .iad es x i =>
    (match ev x, ev i with
     | .sl b off len _ _, .int _ n => cond (decide (0 ≤ n) && decide (n < (len : Int))) (some (.ptr b (off + n.toNat * es), H)) none
     | _, _ => none)
  | .iada n es x i =>
    (match ev x, ev i with
     | .ptr b off, .int _ j => cond (decide (0 ≤ j) && decide (j < (n : Int))) (some (.ptr b (off + j.toNat * es), H)) none
     | _, _ => none)
  | .idxs x i =>
    (match ev x, ev i with
     | .str s, .int _ n => cond (decide (0 ≤ n)) (match s[n.toNat]? with | some b => some (.int .u8 b, H) | none => none) none
     | _, _ => none)
  | .idxa es n ag x i =>
    (match ev x, ev i with
     | .agg cs, .int _ j =>
       cond (decide (0 ≤ j) && decide (j < (n : Int)))
         (cond ag (some (.agg ((cs.drop (j.toNat * es)).take es), H)) (match cs[j.toNat * es]? with | some v => some (v, H) | none => none)) none
     | _, _ => none)
  | .lkp kt z ok x i =>
    (match ev x with
     | .nilm => some (cond ok (.tup [z, .bool false]) z, H)
     | .mp m =>
       (match H.get m with
        | some (.map es _) =>
          (match findA H kt (ev i) es 0 with
           | some (some (_, v)) => some (cond ok (.tup [v, .bool true]) v, H)
           | some none => some (cond ok (.tup [z, .bool false]) z, H)
           | none => none)
        | _ => none)
     | _ => none)
  | .mup kt m k v =>
    (match ev m with
     | .mp m =>
       (match H.get m with
        | some (.map es clock) =>
          (match findA H kt (ev k) es 0 with
           | some (some (i, _)) => some (.undef, H.put m (.map (setE es i (ev k) (ev v)) clock))
           | some none => some (.undef, H.put m (.map (es ++ [(ev k, ev v, clock)]) (clock + 1)))
           | none => none)
        | _ => none)
     | _ => none)
  | .rngs x => (match ev x with | .str s => some (.ptr H.size 0, H.push (.iter s 0)) | _ => none)
  | .nxts x =>
    (match ev x with
     | .ptr b 0 =>
       (match H.get b with
        | some (.iter s pos) =>
          (match s[pos]? with
           | some c => cond (Nat.blt c 128) (some (.tup [.bool true, .int .i64 pos, .int .i32 c], H.put b (.iter s (pos + 1)))) none
           | none => some (.tup [.bool false], H))
        | _ => none)
     | _ => none)
  | .rngm x =>
    (match ev x with
     | .mp m => (match H.get m with | some (.map [] _) => some (.ptr H.size 0, H.push (.miter m)) | _ => none)
     | _ => none)
  | .nxtm x =>
    (match ev x with
     | .ptr b 0 => (match H.get b with | some (.miter m) => (match H.get m with | some (.map [] _) => some (.tup [.bool false], H) | _ => none) | _ => none)
     | _ => none)
  | .tas ty ok z x =>
    (match ev x with
     | .nili => cond ok (some (.tup [z, .bool false], H)) none
     | .iface t v => cond (Nat.beq t ty) (some (cond ok (.tup [v, .bool true]) v, H)) (cond ok (some (.tup [z, .bool false], H)) none)
     | _ => none)
  | .ext i x => (match ev x with | .tup vs => (match vs[i]? with | some v => some (v, H) | none => none) | _ => none)
  | .app ty es bytes _ x y => aappend H ty es bytes (ev x) (ev y)
  | .cpy es x y => acopy H es (ev x) (ev y)
  | .len st x => (match ev x with | .str s => cond st (some (.int .i64 s.length, H)) none | .nils => cond st none (some (.int .i64 0, H)) | .sl _ _ len _ _ => cond st none (some (.int .i64 len, H)) | _ => none)
  | .lenm x => (match ev x with | .nilm => some (.int .i64 0, H) | .mp m => (match H.get m with | some (.map es _) => some (.int .i64 es.length, H) | _ => none) | _ => none)
  | .lena n => some (.int .i64 n, H)
  | .mm mx xs => (match xs.map ev with | x :: r => (match ammx mx x r with | some v => some (v, H) | none => none) | [] => none)
  | .usd x => (match ev x with | .nils => some (.nilp, H) | .sl b off _ cap _ => cond (Nat.blt 0 cap) (some (.ptr b off, H)) none | _ => none)
  | .uss ty x n =>
    (match ev x, ev n with
     | .nilp, .int _ 0 => some (.str [], H)
     | .ptr b off, .int _ n =>
       cond (decide (0 < n) && Nat.beq off 0 && decide (n ≤ 9223372036854775807))
         (match H.own b with
          | some (H', cs, t, fl) =>
            cond (Nat.ble n.toNat cs.length && Nat.beq t ty) (match bytesOf (cs.take n.toNat) with | some l => some (.str l, H'.put b (.cells cs t { fl with frz := true, alone := true })) | none => none) none
          | none => none) none
     | _, _ => none)
  | .xbyte x c => (match ev x, ev c with | .str s, .int .u8 n => cond (decide (0 ≤ n) && decide (n < 256)) (some (.int .i64 (idxOfL n.toNat s 0), H)) none | _, _ => none)
  | .xid x => some (ev x, H)
  | .xcon x y => (match ev x, ev y with | .str a, .str b => cond (Nat.blt a.length 4294967281) (some (.bool (hasL b a), H)) none | _, _ => none)
  | _ => none

/-! ### Code -/
inductive XT where
  | normal | exit (id : Nat) | goto (l : Nat) | ret | pan (v : AV)
  deriving Inhabited

structure St where
  env : Env
  dfs : List (Nat × List AV)
  heap : Heap
  rc : Option (Option AV)

inductive CR where
  | ret (v : AV) (H : Heap)
  | pan (v : AV) (H : Heap)

def St.put (st : St) (dst : Option Nat) (v : AV) : St :=
  match dst with
  | some d => { st with env := PMap.set st.env d v }
  | none => st

def wantedA (st : St) (g : Option (Nat × Bool)) : Bool :=
  match g with
  | none => true
  | some (t, want) =>
    match st.env.at t with
    | .bool b => b == want
    | _ => false

/-- Nothing is known of the guard. -/
def blindA (st : St) (g : Option (Nat × Bool)) : Bool :=
  match g with
  | none => false
  | some (t, _) =>
    match st.env.at t with
    | .any => true
    | _ => false

/-- What a call comes to. -/
def landed (st : St) (dst : Option Nat) (r : Option CR) : Option (Option AV × St) :=
  match r with
  | some (.ret v H) => some (none, { st with heap := H }.put dst v)
  | some (.pan v H) => some (some v, { st with heap := H })
  | none => none

section
variable (meth : Nat → String → Option Nat) (call : Nat → List AV → Heap → Option CR)

def step1 (s : ISt) (st : St) : Option (Option AV × St) :=
  let ev := Opd.ev st.env
  match s.op with
  | .call f args => landed st s.dst (call f (args.map ev) st.heap)
  | .callv x args =>
    (match ev x with
     | .fn f first cap => landed st s.dst (call f (first ++ args.map ev ++ cap) st.heap)
     | _ => none)
  | .inv x name args =>
    (match ev x with
     | .iface t v => (match meth t name with | some f => landed st s.dst (call f (v :: args.map ev) st.heap) | none => none)
     | _ => none)
  | .dfr x args =>
    (match ev x with
     | .fn f first cap => some (none, { st with dfs := (f, first ++ args.map ev ++ cap) :: st.dfs }.put s.dst .undef)
     | _ => none)
  | .pan x => (match ev x with | .iface t v => some (some (.iface t v), st) | _ => none)
  | .rcv =>
    (match st.rc with
     | some (some v) => some (none, { st with rc := some none }.put s.dst v)
     | some none => some (none, st.put s.dst .nili)
     | none => none)
  | o =>
    (match vop o ev st.heap with
     | some (v, H) => some (none, { st with heap := H }.put s.dst v)
     | none => none)

def stepG (s : ISt) (st : St) : Option (Option AV × St) :=
  cond (blindA st s.g) none (cond (wantedA st s.g) (step1 meth call s st) (some (none, st.put s.dst .undef)))

def execOps : List ISt → St → Option (XT × St)
  | [], st => some (.normal, st)
  | s :: l, st =>
    match stepG meth call s st with
    | some (none, st') => execOps l st'
    | some (some v, st') => some (.pan v, st')
    | none => none

def flOk (st : St) : List ISt → Bool
  | [] => true
  | s :: l =>
    (!(wantedA st s.g) ||
      (match s.dst, vop s.op (Opd.ev st.env) st.heap with
       | some d, some (v, _) => AV.beq v (st.env.at d)
       | _, _ => false)) && flOk st l
def Fl.beq (a b : Fl) : Bool := Nat.beq a.fam b.fam && a.tip == b.tip && a.alone == b.alone && a.frz == b.frz && a.ex == b.ex
def sameCells (H H' : Heap) (b : Nat) : Bool :=
  match H.get b, H'.get b with
  | some (.cells cs t fl), some (.cells cs' t' fl') => AV.beqL cs cs' && Nat.beq t t' && Fl.beq fl fl'
  | _, _ => false
def faOk (st st' : St) : List Nat → Bool
  | [] => true
  | d :: l =>
    (match st'.env.at d with
     | .ptr b _ => sameCells st.heap st'.heap b
     | .sl b _ _ _ _ => sameCells st.heap st'.heap b
     | .tup [] => true
     | _ => false) && faOk st st' l

def anyEnv (e : Env) : List DIt → Env
  | [] => e
  | d :: l => match d.s.dst with
    | some t => PMap.set (anyEnv e l) t .any
    | none => anyEnv e l

def famAt (H : Heap) (v : AV) : Option Nat :=
  match v with
  | .ptr b _ => (match H.get b with | some (.cells _ _ fl) => some fl.fam | _ => none)
  | _ => none
/-- Two stores that may come in either order: into blocks of different families. -/
def pairOk (a b : DIt) (st : St) : Bool :=
  match a.s, b.s with
  | ⟨none, .st _ xa _, none⟩, ⟨none, .st _ xb _, none⟩ =>
    (match famAt st.heap (Opd.ev st.env xa), famAt st.heap (Opd.ev st.env xb) with
     | some f, some g => !(Nat.beq f g)
     | _, _ => false) &&
    (match stepG meth call b.s st with
     | some (none, stB) =>
       flOk stB b.fl && faOk st stB b.fa &&
       (match stepG meth call a.s stB with
        | some (none, stBA) => flOk stBA a.fl && faOk stB stBA a.fa
        | _ => false)
     | _ => false)
  | _, _ => false

def execDrw (e0 : Env) (all : List DIt) : List DIt → St → Option (XT × St)
  | [], st => some (.normal, st)
  | d :: l, st =>
    match stepG meth call d.s st with
    | some (none, st') =>
      cond (!d.eff || (flOk st' d.fl && faOk st st' d.fa))
        (cond (!d.pr || (match l with | [b] => pairOk meth call d b st | _ => false)) (execDrw e0 all l st') none) none
    | some (some v, st') => cond d.eff (some (.pan v, { st' with env := anyEnv e0 all })) none
    | none => none

def loopN (f : St → Option (XT × St)) : Nat → St → Option (XT × St)
  | 0, _ => none
  | n + 1, st =>
    match f st with
    | some (.normal, st') => loopN f n st'
    | r => r

def gotoN (l1 : Nat) (f1 : St → Option (XT × St)) (l2 : Nat) (f2 : St → Option (XT × St)) : Nat → Option (XT × St) → Option (XT × St)
  | 0, _ => none
  | n + 1, r =>
    match r with
    | some (.goto l, st) => cond (Nat.beq l l1) (gotoN l1 f1 l2 f2 n (f1 st)) (cond (Nat.beq l l2) (gotoN l1 f1 l2 f2 n (f2 st)) none)
    | r => r

def exec (n : Nat) : ICode → St → Option (XT × St)
  | .skip, st => some (.normal, st)
  | .ops l, st => execOps meth call l st
  | .drw l, st => execDrw meth call st.env l l st
  | .seq a b, st =>
    match exec n a st with
    | some (.normal, st') => exec n b st'
    | r => r
  | .cond c a b, st =>
    match Opd.ev st.env c with
    | .bool true => exec n a st
    | .bool false => exec n b st
    | _ => none
  | .blk id a, st =>
    match exec n a st with
    | some (.exit i, st') => cond (Nat.beq i id) (some (.normal, st')) (some (.exit i, st'))
    | r => r
  | .loop a, st => loopN (exec n a) n st
  | .scope a l1 r1 l2 r2, st => gotoN l1 (exec n r1) l2 (exec n r2) n (exec n a st)
  | .exit id, st => some (.exit id, st)
  | .goto l, st => some (.goto l, st)
  | .ret, st => some (.ret, st)
  | .bad, _ => none
end

inductive IRes where
  | t (i : Nat)
  | cell (i n : Nat) (ag : Bool)

structure IFun where
  code : ICode
  res : List IRes

structure Prog where
  fn : Nat → Option IFun
  meth : Nat → String → Option Nat

def initEnv : List AV → Nat → Env → Env
  | [], _, e => e
  | v :: vs, i, e => initEnv vs (i + 1) (PMap.set e i v)

def resL (e : Env) (H : Heap) : List IRes → Option (List AV)
  | [] => some []
  | .t i :: r => (match resL e H r with | some vs => some (e.at i :: vs) | none => none)
  | .cell i n ag :: r =>
    (match e.at i with
     | .ptr b off =>
       (match H.load b off n with
        | some cs =>
          (match cond ag (some (AV.agg cs)) (match cs with | [v] => some v | _ => none), resL e H r with
           | some v, some vs => some (v :: vs)
           | _, _ => none)
        | none => none)
     | _ => none)
def results (e : Env) (H : Heap) (l : List IRes) : Option AV :=
  match resL e H l with
  | some [v] => some v
  | some vs => some (.tup vs)
  | none => none

def noRcv : ICode → Bool
  | .ops l => l.all fun s => match s.op with | .rcv => false | _ => true
  | .drw l => l.all fun d => match d.s.op with | .rcv => false | _ => true
  | .seq a b => noRcv a && noRcv b
  | .cond _ a b => noRcv a && noRcv b
  | .blk _ a => noRcv a
  | .loop a => noRcv a
  | .scope a _ b _ c => noRcv a && noRcv b && noRcv c
  | _ => true
/-- Where a deferred function may recover. -/
def rcvOk : ICode → Bool
  | .ops _ => true
  | .seq a b => rcvOk a && rcvOk b
  | .cond _ a b => rcvOk a && rcvOk b
  | c => noRcv c

section
variable (P : Prog)
/-- A deferred call: what is still panicking behind it. -/
def callD (call : Nat → List AV → Heap → Option CR) (n : Nat) (f : Nat) (args : List AV) (p : Option AV) (H : Heap) : Option (Option AV × Heap) :=
  match P.fn f with
  | none => none
  | some F =>
    cond (rcvOk F.code) (
    match exec P.meth call n F.code { env := initEnv args 0 .leaf, dfs := [], heap := H, rc := some p } with
    | some (.normal, st) => (match st.dfs, st.rc, results st.env st.heap F.res with | [], some p', some _ => some (p', st.heap) | _, _, _ => none)
    | some (.ret, st) => (match st.dfs, st.rc, results st.env st.heap F.res with | [], some p', some _ => some (p', st.heap) | _, _, _ => none)
    | _ => none) none
def runD (d : Nat → List AV → Option AV → Heap → Option (Option AV × Heap)) : List (Nat × List AV) → Option AV → Heap → Option (Option AV × Heap)
  | [], p, H => some (p, H)
  | (f, args) :: ds, p, H =>
    match d f args p H with
    | some (p', H') => runD d ds p' H'
    | none => none
def finish (d : Nat → List AV → Option AV → Heap → Option (Option AV × Heap)) (F : IFun) (st : St) (p : Option AV) : Option CR :=
  match runD d st.dfs p st.heap with
  | some (none, H) => (match results st.env H F.res with | some v => some (.ret v H) | none => none)
  | some (some v, H) => some (.pan v H)
  | none => none
def callF : Nat → Nat → List AV → Heap → Option CR
  | 0, _, _, _ => none
  | n + 1, f, args, H =>
    match P.fn f with
    | none => none
    | some F =>
      match exec P.meth (callF n) n F.code { env := initEnv args 0 .leaf, dfs := [], heap := H, rc := none } with
      | some (.normal, st) => finish (callD P (callF n) n) F st none
      | some (.ret, st) => finish (callD P (callF n) n) F st none
      | some (.pan v, st) => finish (callD P (callF n) n) F st (some v)
      | _ => none
end
end Go.Ab
