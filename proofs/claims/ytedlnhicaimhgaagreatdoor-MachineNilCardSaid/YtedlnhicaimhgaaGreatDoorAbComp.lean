import Derived.Test.YtedlnhicaimhgaaGreatDoorAbExec
/-!
From the loaded code to the abstract machine's.
-/
namespace Go.Ab

mutual
def absV : Value → Option AV
  | .bool b => some (.bool b)
  | .int k n => some (.int k n)
  | .string s => some (.str (s.data.toList.map (·.toNat)))
  | .pointer none => some .nilp
  | .slice none 0 0 => some .nils
  | .map none => some .nilm
  | .nilFunc => some .nilf
  | .nilIface => some .nili
  | .agg cs => (match absL cs.toList with | some l => some (.agg l) | none => none)
  | .tuple cs => (match absL cs.toList with | some l => some (.tup l) | none => none)
  | _ => none
def absL : List Value → Option (List AV)
  | [] => some []
  | v :: vs => (match absV v, absL vs with | some a, some l => some (a :: l) | _, _ => none)
end

def cOpd (P : Program) : Operand → Option Opd
  | .tmp t => some (.t t)
  | .const v => (match absV v with | some a => some (.c a) | none => none)
  | .global g => cond (Nat.blt g P.globals.size) (some (.g g)) none
  | .func f => some (.f f)
def cOpds (P : Program) : List Operand → Option (List Opd)
  | [] => some []
  | x :: l => (match cOpd P x, cOpds P l with | some a, some r => some (a :: r) | _, _ => none)
def cOpt (P : Program) : Option Operand → Option (Option Opd)
  | none => some none
  | some x => (match cOpd P x with | some a => some (some a) | none => none)
def cParts (P : Program) (place : Nat → Option (Nat × Nat)) : List (Nat × Operand) → Option (List (Nat × Nat × Opd))
  | [] => some []
  | (i, x) :: l => (match place i, cOpd P x, cParts P place l with | some (off, sz), some a, some r => some ((off, sz, a) :: r) | _, _, _ => none)

/-- A type's cells, its zero's cells. -/
def zeroC (P : Program) (t : TypeId) : Option (List AV) :=
  match P.info? t with
  | some i =>
    (match i.zero with
     | some z =>
       (match absV z with
        | some a => cond (a.cells.all AV.one && Nat.beq a.cells.length i.size) (some a.cells) none
        | none => none)
     | none => none)
  | none => none
def zeroA (P : Program) (t : TypeId) : Option AV :=
  match P.info? t with
  | some i => (match i.zero with | some z => absV z | none => none)
  | none => none
def sizeC (P : Program) (t : TypeId) : Option Nat := (P.info? t).map (·.size)
def bytesC (P : Program) (t : TypeId) : Option Nat := (P.info? t).map (·.bytes)
def aggC (P : Program) (t : TypeId) : Option Bool :=
  match P.underlying t with
  | some (.struct _) => some true
  | some (.array _ _) => some true
  | some _ => some false
  | none => none
def fieldsC (P : Program) (t : TypeId) : Option (List Field) :=
  match P.underlying t with
  | some (.struct fs) => some fs.toList
  | _ => none

/-- How two values of a type are held against each other. -/
def etyC (P : Program) : Nat → TypeId → Option ETy
  | 0, _ => none
  | n + 1, t =>
    match P.underlying t with
    | some (.int _) => some .int
    | some .bool => some .bool
    | some .string => some .str
    | some (.pointer e) => (match sizeC P e with | some s => cond (Nat.beq s 0) none (some .ptr) | none => none)
    | some (.slice _) => some .slc
    | some (.map _ _) => some .mp
    | some (.func _ _ _) => some .fn
    | some (.interface _) => some .ifc
    | some (.struct fs) =>
      cond (P.stoodInHeld t || P.eqGuardType P.depth t) none
      (match fs.toList.mapM (fun f => if f.name == "_" then none else
          match sizeC P f.type, etyC P n f.type with | some s, some e => cond (Nat.beq s 1) (some (f.offset, s, e)) none | _, _ => none) with
       | some l => some (.st l)
       | none => none)
    | _ => none

/-- What a map's keys are: only those that are held against each other on the spot. -/
def keyC (P : Program) (t : TypeId) : Option ETy :=
  match P.underlying t with
  | some (.int _) => some .int
  | some .bool => some .bool
  | some .string => some .str
  | _ => none

def isConst : Operand → Bool
  | .const _ => true
  | _ => false

def cEq (P : Program) (t : TypeId) (x y : Operand) : Option ETy :=
  match etyC P 4 t with
  | some .ifc => cond (isConst x || isConst y) (some .ifc) none
  | some (.st _) => none
  | r => r
def cBin (P : Program) (op : BinOp) (t : TypeId) (x y : Operand) : Option ETy :=
  match op with
  | .eql => cEq P t x y
  | .neq => cEq P t x y
  | _ => (match P.underlying t with | some (.int _) => some .int | some .string => some .str | _ => none)

def cConv (P : Program) (s d : TypeId) (x : Opd) : Option IOp :=
  match P.underlying s, P.underlying d with
  | some (.int _), some (.int k) => some (.cvi k x)
  | some .string, some .string => some (.cvs x)
  | some (.slice e), some .string => (match P.underlying e with | some (.int .u8) => some (.cvbs x) | _ => none)
  | some (.pointer e), some .unsafePointer => (match sizeC P e with | some n => cond (Nat.beq n 0) none (some (.cvp x)) | none => none)
  | some .unsafePointer, some (.pointer u) =>
    match sizeC P u with | none => none | some _ => some (.cvq ((P.types.toList.zipIdx.filter fun (i, t) => (t == u || (match i.desc with | .struct fs => (match fs[0]? with | some f => f.type == u | none => false) | .named _ v => (match P.underlying v with | some (.struct fs) => (match fs[0]? with | some f => f.type == u | none => false) | _ => false) | _ => false)) &&
      !(Nat.beq i.size 0) && liesAt P P.depth t 1 0 u 1).map fun (i, t) => (t, i.size)) x)
  | _, _ => none

def cCall (P : Program) (o : Oper) (c : Call) : Option IOp := do
  let args ← cOpds P c.args.toList
  match c.callee with
  | .value (.func f) =>
    match P.funcs[f]? with
    | none => none
    | some fn =>
      if fn.name == "strings.Contains" then (match args with | [a, b] => some (.xcon a b) | _ => none)
      else if fn.body.isSome then some (.call f args)
      else if !(fn.origin == "" || fn.origin == fn.name) then none
      else if fn.name == "internal/bytealg.IndexByteString" then (match args with | [a, b] => some (.xbyte a b) | _ => none)
      else if fn.name == "internal/abi.NoEscape" then (match args with | [a] => some (.xid a) | _ => none)
      else none
  | .value x => do some (.callv (← cOpd P x) args)
  | .invoke x m => do some (.inv (← cOpd P x) m args)
  | .builtin b =>
    match b, args with
    | .append, [x, y] => do
      let t ← c.argTypes[0]?
      let t' ← c.argTypes[1]?
      match P.underlying t, P.underlying t' with
      | some (.slice e), some (.slice _) => some (.app e (← sizeC P e) (← bytesC P e) (← zeroC P e) x y)
      | some (.slice e), some .string => some (.app e (← sizeC P e) (← bytesC P e) (← zeroC P e) x y)
      | _, _ => none
    | .copy, [x, y] => do
      let t ← c.argTypes[0]?
      match P.underlying t with
      | some (.slice e) => some (.cpy (← sizeC P e) x y)
      | _ => none
    | .len, [x] => do
      let t ← c.argTypes[0]?
      match P.underlying t with
      | some .string => some (.len true x)
      | some (.slice _) => some (.len false x)
      | some (.map _ _) => some (.lenm x)
      | some (.array n _) => some (.lena n)
      | _ => none
    | .max, xs => some (.mm true xs)
    | .min, xs => some (.mm false xs)
    | .recover, [] => some .rcv
    | .panic, [x] => some (.pan x)
    | .unsafeSliceData, [x] => some (.usd x)
    | .unsafeString, [x, n] => do
      let t ← c.argTypes[0]?
      match P.underlying t with
      | some (.pointer e) => (match sizeC P e with | some 1 => some (.uss e x n) | _ => none)
      | _ => none
    | _, _ => none

def cOp (P : Program) (o : Oper) : Option IOp :=
  match o.op with
  | .move x | .assign x => do some (.mv (← cOpd P x))
  | .pick c a b => do some (.pick (← cOpd P c) (← cOpd P a) (← cOpd P b))
  | .alloc e => do some (.new e (← zeroC P e))
  | .box e x => do some (.box e (← cOpd P x))
  | .build t ps => do
    let z ← zeroC P t
    match P.underlying t with
    | some (.struct fs) => cond (fs.toList.all fun f => (sizeC P f.type).isSome) (do some (.build z (← cParts P (fun i => match fs[i]? with | some f => (match sizeC P f.type with | some n => some (f.offset, n) | none => none) | none => none) ps.toList))) none
    | some (.array _ e) => do
      let s ← sizeC P e
      some (.build z (← cParts P (fun i => some (i * s, s)) ps.toList))
    | _ => none
  | .buildSlice t len ps => do
    match P.underlying t with
    | some (.slice e) => do
      let s ← sizeC P e
      let z ← zeroC P e
      cond (Nat.ble (len * s) 16777216 && !(Nat.beq s 0)) (do some (.bsl e len (repL z len) (← cParts P (fun i => some (i * s, s)) ps.toList))) none
    | _ => none
  | .load t x => do some (.ld (← aggC P t) (← sizeC P t) (← cOpd P x))
  | .store t x v => do some (.st (← sizeC P t) (← cOpd P x) (← cOpd P v))
  | .nilCheck x => do some (.nilc (← cOpd P x))
  | .binOp op t x y _ => do some (.bin op (← cBin P op t x y) (← cOpd P x) (← cOpd P y))
  | .unOp op _ x => do some (.un op (← cOpd P x))
  | .convert s d x => do cConv P s d (← cOpd P x)
  | .makeInterface t x => do
    match P.underlying t with
    | some (.interface _) => none
    | some _ => some (.mki t (← cOpd P x))
    | none => none
  | .makeFunc (.func f) first cap => do some (.mkf f (← cOpds P first.toList) (← cOpds P cap.toList))
  | .makeMap t none => some .mkm
  | .makeSlice t l c => do
    match P.underlying t with
    | some (.slice e) => some (.mks e (← sizeC P e) (← bytesC P e) (← zeroC P e) (← cOpd P l) (← cOpd P c))
    | _ => none
  | .slice t x lo hi mx => do
    match P.underlying t with
    | some .string => some (.slc true 1 (← cOpd P x) (← cOpt P lo) (← cOpt P hi) (← cOpt P mx))
    | some (.slice e) => some (.slc false (← sizeC P e) (← cOpd P x) (← cOpt P lo) (← cOpt P hi) (← cOpt P mx))
    | some (.array n e) => some (.slca n (← sizeC P e) (← cOpd P x) (← cOpt P lo) (← cOpt P hi) (← cOpt P mx))
    | _ => none
  | .fieldAddr t x i => do
    let f ← (← fieldsC P t)[i]?
    let n ← sizeC P f.type
    cond (Nat.beq n 0) none (do some (.fad f.offset (← cOpd P x)))
  | .field t x i => do
    let f ← (← fieldsC P t)[i]?
    some (.fld f.offset (← sizeC P f.type) (← aggC P f.type) (← cOpd P x))
  | .indexAddr t x i => do
    match P.underlying t with
    | some (.slice e) => some (.iad (← sizeC P e) (← cOpd P x) (← cOpd P i))
    | some (.array n e) => some (.iada n (← sizeC P e) (← cOpd P x) (← cOpd P i))
    | _ => none
  | .index t x i => do
    match P.underlying t with
    | some .string => some (.idxs (← cOpd P x) (← cOpd P i))
    | some (.array n e) => some (.idxa (← sizeC P e) n (← aggC P e) (← cOpd P x) (← cOpd P i))
    | _ => none
  | .lookup t x i ok => do
    match P.underlying t with
    | some (.map k e) => some (.lkp (← keyC P k) (← zeroA P e) ok (← cOpd P x) (← cOpd P i))
    | _ => none
  | .mapUpdate t m k x | .insert t m k x => do
    match P.underlying t with
    | some (.map kt _) => some (.mup (← keyC P kt) (← cOpd P m) (← cOpd P k) (← cOpd P x))
    | _ => none
  | .range t x => do
    match P.underlying t with
    | some .string => some (.rngs (← cOpd P x))
    | some (.map _ _) => some (.rngm (← cOpd P x))
    | _ => none
  | .next x true => do some (.nxts (← cOpd P x))
  | .next x false => do some (.nxtm (← cOpd P x))
  | .typeAssert x _ t ok => do
    match P.underlying t with
    | some (.interface _) => none
    | some _ => some (.tas t ok (← zeroA P t) (← cOpd P x))
    | none => none
  | .extract x i => do some (.ext i (← cOpd P x))
  | .call c => cCall P o c
  | .defer c =>
    match c.callee with
    | .value x => do some (.dfr (← cOpd P x) (← cOpds P c.args.toList))
    | _ => none
  | .panic x => do some (.pan (← cOpd P x))
  | _ => none

/-- The guard's slot. -/
def cGuard (ops : Array Oper) (o : Oper) : Option (Option (Nat × Bool)) :=
  match o.guard with
  | none => some none
  | some (j, want) => (match ops[j]? with | some p => (match p.dst with | some t => some (some (t, want)) | none => none) | none => none)

def cSt (P : Program) (n : Nat) (ops : Array Oper) (o : Oper) : Option ISt :=
  match cOp P o, cGuard ops o with
  | some i, some g =>
    (match o.dst with
     | some d => cond (Nat.blt d n) (some ⟨some d, i, g⟩) none
     | none => some ⟨none, i, g⟩)
  | _, _ => none
def cSts (P : Program) (n : Nat) (ops : Array Oper) : List Oper → Option (List ISt)
  | [] => some []
  | o :: l => (match cSt P n ops o, cSts P n ops l with | some s, some r => some (s :: r) | _, _ => none)

/-! The regions that draw their order. -/
inductive Cat where
  | quiet | load | alloc | act
  deriving DecidableEq

def catOf : IOp → Cat
  | .ld _ _ _ => .load
  | .cvbs _ => .load
  | .lkp _ _ _ _ _ => .load
  | .lenm _ => .load
  | .new _ _ => .alloc
  | .box _ _ => .alloc
  | .bsl _ _ _ _ => .alloc
  | .mks _ _ _ _ _ _ => .alloc
  | .mv _ | .pick _ _ _ | .build _ _ | .nilc _ | .un _ _ | .cvi _ _ | .cvs _ | .mki _ _ | .mkf _ _ _ | .slc _ _ _ _ _ _ | .slca _ _ _ _ _ _ | .fad _ _ | .fld _ _ _ _ | .iad _ _ _ | .iada _ _ _ _ | .idxs _ _
  | .idxa _ _ _ _ _ | .tas _ _ _ _ | .ext _ _ | .len _ _ | .lena _ | .mm _ _ | .xbyte _ _ | .xid _ => .quiet
  | .bin _ .int _ _ | .bin _ .bool _ _ | .bin _ .str _ _ | .bin _ .ifc _ _ | .bin _ .slc _ _ | .bin _ .mp _ _ | .bin _ .fn _ _ => .quiet
  | .bin _ _ _ _ => .act
  | _ => .act

def edgesOf (o : Oper) : List Nat := (o.after.toList.filter (Region.binds .any ·)).map (·.on)
def memN (i : Nat) : List Nat → Bool
  | [] => false
  | j :: l => Nat.beq i j || memN i l
def ded : List Nat → List Nat
  | [] => []
  | i :: l => cond (memN i (ded l)) (ded l) (i :: ded l)
def nthL (l : List (List Nat)) (i : Nat) : List Nat := (l[i]?).getD []

/-- What stands ahead of each, however far. -/
def predsGo : List (List Nat) → List (List Nat) → List (List Nat)
  | [], acc => acc
  | e :: es, acc => predsGo es (acc ++ [ded (e ++ e.flatMap (nthL acc))])

def subN (a b : List Nat) : Bool := a.all fun i => memN i b

/-- The order: whatever may come and is no act first; then the next act. -/
def orderGo (cats : List Cat) (edges : List (List Nat)) : Nat → List Nat → List Nat
  | 0, done => done
  | f + 1, done =>
    let idx := List.range cats.length
    let ready := idx.filter fun i => !memN i done && subN (edges[i]?.getD []) done
    match ready.filter (fun i => cats[i]? != some .act) with
    | i :: _ => orderGo cats edges f (done ++ [i])
    | [] =>
      match ready with
      | i :: _ => orderGo cats edges f (done ++ [i])
      | [] => done

def optT : Option Opd → List Nat
  | some (.t i) => [i]
  | _ => []
def opdT : Opd → List Nat
  | .t i => [i]
  | _ => []
/-- The slots that an operation reads. -/
def IOp.temps : IOp → List Nat
  | .mv x | .box _ x | .ld _ _ x | .nilc x | .un _ x | .cvi _ x | .cvs x | .cvbs x | .cvp x | .cvq _ x | .mki _ x | .fad _ x | .fld _ _ _ x | .rngs x | .nxts x | .rngm x | .nxtm x | .tas _ _ _ x | .ext _ x | .len _ x | .lenm x | .usd x | .xid x | .pan x => opdT x
  | .pick c a b => opdT c ++ opdT a ++ opdT b
  | .st _ x y | .bin _ _ x y | .mks _ _ _ _ x y | .iad _ x y | .iada _ _ x y | .idxs x y | .idxa _ _ _ x y | .lkp _ _ _ x y | .app _ _ _ _ x y | .cpy _ x y | .uss _ x y | .xbyte x y | .xcon x y => opdT x ++ opdT y
  | .mup _ m k v => opdT m ++ opdT k ++ opdT v
  | .build _ ps | .bsl _ _ _ ps => ps.flatMap fun p => opdT p.2.2
  | .slc _ _ x lo hi mx | .slca _ _ x lo hi mx => opdT x ++ optT lo ++ optT hi ++ optT mx
  | .mkf _ a b => a.flatMap opdT ++ b.flatMap opdT
  | .mm _ xs => xs.flatMap opdT
  | .call _ xs => xs.flatMap opdT
  | .callv x xs | .inv x _ xs | .dfr x xs => opdT x ++ xs.flatMap opdT
  | .new _ _ | .mkm | .lena _ | .rcv => []
def ISt.looks (s : ISt) : List Nat :=
  s.op.temps ++ (match s.g with | some (t, _) => [t] | none => [])

def getS (sts : List ISt) (i : Nat) : ISt := (sts[i]?).getD default
def isCat (sts : List ISt) (c : Cat) (i : Nat) : Bool := decide (catOf (getS sts i).op = c)

def isSt (sts : List ISt) (i : Nat) : Bool :=
  match getS sts i with
  | ⟨none, .st _ _ _, none⟩ => true
  | _ => false
/-- The items, each with what may come behind it though it stands ahead. -/
def mkIt (sts : List ISt) (pre : List (List Nat)) (done : List Nat) (i : Nat) (rest : List Nat) : DIt :=
  let before := done.filter fun j => !memN j (nthL pre i)
  { s := getS sts i, eff := isCat sts .act i, fl := (before.filter (isCat sts .load)).map (getS sts), fa := (before.filter (isCat sts .alloc)).filterMap fun j => (getS sts j).dst, ix := i
    pr := match rest with
      | [j] => isSt sts i && isSt sts j && !memN i (nthL pre j)
      | _ => false }
def mkD (sts : List ISt) (pre : List (List Nat)) : List Nat → List Nat → List DIt
  | _, [] => []
  | done, i :: rest => mkIt sts pre done i rest :: mkD sts pre (done ++ [i]) rest

def sameDst (a b : ISt) : Bool :=
  match a.dst, b.dst with
  | some x, some y => Nat.beq x y
  | _, _ => false
/-- The acts come one behind the other; but the last two may be stores in either order. -/
def chainOk (sts : List ISt) (pre : List (List Nat)) : List Nat → List Nat → Bool
  | _, [] => true
  | done, i :: rest => !memN i done && done.zipIdx.all (fun (j, p) => !isCat sts .act j || memN j (nthL pre i) || (rest.isEmpty && Nat.beq (p + 1) done.length && isSt sts i && isSt sts j)) &&
    (nthL pre i).all (fun j => memN j done) && chainOk sts pre (done ++ [i]) rest
/-- What the order must be like. -/
def drwOk (sts : List ISt) (edges pre : List (List Nat)) (order : List Nat) : Bool :=
  let idx := List.range sts.length
  idx.all (fun i => memN i order) && order.all (fun i => Nat.blt i sts.length) && chainOk sts pre [] order &&
  idx.all (fun i => (nthL edges i).all fun j => Nat.blt j i) &&
  idx.all (fun i => idx.all fun j => Nat.beq i j || !sameDst (getS sts i) (getS sts j)) &&
  idx.all (fun i => (getS sts i).looks.all fun t => idx.all fun j => (match (getS sts j).dst with | some d => !Nat.beq d t || memN j (nthL pre i) | none => true))

def cDrw (P : Program) (n : Nat) (ops : Array Oper) : Option (List DIt) :=
  match cSts P n ops ops.toList with
  | none => none
  | some sts =>
    let edges := ops.toList.map edgesOf
    let pre := predsGo edges []
    let order := orderGo (sts.map fun s => catOf s.op) edges ops.size []
    cond (P.follows .mixedOrders && drwOk sts edges pre order) (some (mkD sts pre [] order)) none

def findLab : ICode → Nat → Option ICode
  | .seq a b, l =>
    match findLab a l with
    | some rest => some (.seq rest b)
    | none => findLab b l
  | .ops [⟨none, .lena l', none⟩], l => cond (Nat.beq l' l) (some .skip) none
  | _, _ => none

/-- The labels of a scope's body. -/
def labelsOf : Code → List Nat
  | .seq a b => labelsOf a ++ labelsOf b
  | .label l => [l]
  | _ => []

def comp (P : Program) (n : Nat) : Nat → Code → Option ICode
  | 0, _ => none
  | d + 1, c =>
    match c with
    | .skip => some .skip
    | .region _ ops false => (match cSts P n ops ops.toList with | some l => some (.ops l) | none => some .bad)
    | .region _ ops true => (match cDrw P n ops with | some l => some (.drw l) | none => some .bad)
    | .seq a b => (match comp P n d a, comp P n d b with | some a, some b => some (.seq a b) | _, _ => none)
    | .cond c a b => (match cOpd P c, comp P n d a, comp P n d b with | some c, some a, some b => some (.cond c a b) | _, _, _ => none)
    | .block id a => (match comp P n d a with | some a => some (.blk id a) | none => none)
    | .loop a => (match comp P n d a with | some a => some (.loop a) | none => none)
    | .scope a =>
      let r (l : Nat) : Option ICode := match findLabel a l with | some c => comp P n d c | none => none
      (match comp P n d a, labelsOf a with
       | some a, [l] => (match r l with | some b => some (.scope a l b l b) | none => none)
       | some a, [l, m] => (match r l, r m with | some b, some c => some (.scope a l b m c) | _, _ => none)
       | _, _ => none)
    | .exit id => some (.exit id)
    | .label _ => some .skip
    | .goto l => some (.goto l)
    | .ret => some .ret
    | .refuse _ => some .bad
    | .rangeFunc _ _ _ _ => some .bad

def cRes (P : Program) : List ResultVar → Option (List IRes)
  | [] => some []
  | .tmp t :: l => (match cRes P l with | some r => some (.t t :: r) | none => none)
  | .cell a t :: l => (match sizeC P t, aggC P t, cRes P l with | some n, some ag, some r => some (.cell a n ag :: r) | _, _, _ => none)

def cFun (P : Program) (fn : Func) : Option IFun :=
  match fn.body with
  | none => none
  | some c => cond (fn.name == "runtime.NumGoroutine") none (match comp P fn.ntmps 200 c, cRes P fn.results.toList with | some c, some r => some ⟨c, r⟩ | _, _ => none)
end Go.Ab
namespace Go.Ab
/-- The method behind an interface value, where the value itself is its receiver. -/
def methC (P : Program) (t : TypeId) (name : String) : Option Nat :=
  match P.info? t with
  | none => none
  | some i =>
    match i.methods.find? (·.name == name) with
    | none => none
    | some m =>
      cond m.path.isEmpty
        (match m.func, P.underlying t with
         | some (f, true), some (.pointer _) => some f
         | some (_, false), some (.pointer _) => none
         | some (f, false), some _ => some f
         | _, _ => none) none
def progC (P : Program) : Prog := { fn := fun f => match P.funcs[f]? with | some fn => cFun P fn | none => none, meth := methC P }
end Go.Ab
