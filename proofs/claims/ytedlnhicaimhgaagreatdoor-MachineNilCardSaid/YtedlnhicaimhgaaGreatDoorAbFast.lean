import Derived.Test.YtedlnhicaimhgaaGreatDoorAbDrw14
/-!
The abstract machine once more, for the kernel's run: each operation is a function of its own. (Printed by gen_fast.py.)
-/
namespace Go.Ab
def f_mv (x : Opd) (ev : Opd → AV) (H : Heap) : Option (AV × Heap) :=
  some (ev x, H)
def f_pick (c : Opd) (a : Opd) (b : Opd) (ev : Opd → AV) (H : Heap) : Option (AV × Heap) :=
  (match ev c with | .bool true => some (ev a, H) | .bool false => some (ev b, H) | _ => none)
def f_new (ty : TypeId) (z : List AV) (ev : Opd → AV) (H : Heap) : Option (AV × Heap) :=
  some (.ptr H.size 0, H.new ty z)
def f_box (ty : TypeId) (x : Opd) (ev : Opd → AV) (H : Heap) : Option (AV × Heap) :=
  cond ((ev x).cells.all AV.one) (some (.ptr H.size 0, H.new ty (ev x).cells)) none
def f_build (z : List AV) (ps : List (Nat × Nat × Opd)) (ev : Opd → AV) (H : Heap) : Option (AV × Heap) :=
  (match fillA z (ps.map fun p => (p.1, p.2.1, ev p.2.2)) with | some cs => some (.agg cs, H) | none => none)
def f_bsl (ty : TypeId) (len : Nat) (z : List AV) (ps : List (Nat × Nat × Opd)) (ev : Opd → AV) (H : Heap) : Option (AV × Heap) :=
  (match fillA z (ps.map fun p => (p.1, p.2.1, ev p.2.2)) with | some cs => some (.sl H.size 0 len len 0, H.new ty cs) | none => none)
def f_ld (ag : Bool) (n : Nat) (x : Opd) (ev : Opd → AV) (H : Heap) : Option (AV × Heap) :=
  (match ev x with
     | .ptr b off =>
       (match H.load b off n with
        | some cs => cond ag (some (.agg cs, H)) (match cs with | [v] => some (v, H) | _ => none)
        | none => none)
     | _ => none)
def f_st (n : Nat) (x : Opd) (v : Opd) (ev : Opd → AV) (H : Heap) : Option (AV × Heap) :=
  (match ev x with
     | .ptr b off => cond (Nat.beq (ev v).cells.length n) (match H.store b off (ev v).cells with | some H' => some (.undef, H') | none => none) none
     | _ => none)
def f_nilc (x : Opd) (ev : Opd → AV) (H : Heap) : Option (AV × Heap) :=
  (match ev x with | .ptr b off => some (.ptr b off, H) | .fn f a c => some (.fn f a c, H) | .iface t v => some (.iface t v, H) | _ => none)
def f_bin (op : BinOp) (ty : ETy) (x : Opd) (y : Opd) (ev : Opd → AV) (H : Heap) : Option (AV × Heap) :=
  (match abin H op ty (ev x) (ev y) with | some v => some (v, H) | none => none)
def f_un (op : UnOp) (x : Opd) (ev : Opd → AV) (H : Heap) : Option (AV × Heap) :=
  (match aun op (ev x) with | some v => some (v, H) | none => none)
def f_cvi (k : IntKind) (x : Opd) (ev : Opd → AV) (H : Heap) : Option (AV × Heap) :=
  (match ev x with | .int _ n => some (.int k (k.wrap n), H) | _ => none)
def f_cvs (x : Opd) (ev : Opd → AV) (H : Heap) : Option (AV × Heap) :=
  (match ev x with | .str s => some (.str s, H) | _ => none)
def f_cvbs (x : Opd) (ev : Opd → AV) (H : Heap) : Option (AV × Heap) :=
  (match ev x with
     | .nils => some (.str [], H)
     | .sl b off len _ _ =>
       cond (Nat.beq len 0) (some (.str [], H))
       (match H.load b off len with
        | some cs => (match bytesOf cs with | some l => some (.str l, H) | none => none)
        | none => none)
     | _ => none)
def f_cvp (x : Opd) (ev : Opd → AV) (H : Heap) : Option (AV × Heap) :=
  (match ev x with | .nilp => some (.nilp, H) | .ptr b off => (match H.get b with | some (.cells cs _ _) => cond (Nat.blt off cs.length) (some (.ptr b off, H)) none | _ => none) | _ => none)
def f_cvq (ts : List (TypeId × Nat)) (x : Opd) (ev : Opd → AV) (H : Heap) : Option (AV × Heap) :=
  (match ev x with
     | .nilp => some (.nilp, H)
     | .ptr b 0 =>
       (match H.get b with
        | some (.cells cs t fl) => cond (fl.ex && ts.any fun p => Nat.beq p.1 t && Nat.beq p.2 cs.length) (some (.ptr b 0, H)) none
        | _ => none)
     | _ => none)
def f_mki (ty : TypeId) (x : Opd) (ev : Opd → AV) (H : Heap) : Option (AV × Heap) :=
  some (.iface ty (ev x), H)
def f_mkf (f : Nat) (first : List Opd) (cap : List Opd) (ev : Opd → AV) (H : Heap) : Option (AV × Heap) :=
  some (.fn f (first.map ev) (cap.map ev), H)
def f_mkm  (ev : Opd → AV) (H : Heap) : Option (AV × Heap) :=
  some (.mp H.size, H.push (.map [] 0))
def f_mks (ty : TypeId) (es : Nat) (bytes : Nat) (z : List AV) (l : Opd) (c : Opd) (ev : Opd → AV) (H : Heap) : Option (AV × Heap) :=
  (match ev l, ev c with
     | .int _ a, .int _ b =>
       cond (decide (0 ≤ a) && decide (a ≤ b) && decide (b ≤ 140737488355328) && decide (b * bytes ≤ 140737488355328) && Nat.beq z.length es)
         (some (.sl H.size 0 a.toNat b.toNat 0, H.new ty (repL z b.toNat))) none
     | _, _ => none)
def f_slc (st : Bool) (es : Nat) (x : Opd) (lo : Option Opd) (hi : Option Opd) (mx : Option Opd) (ev : Opd → AV) (H : Heap) : Option (AV × Heap) :=
  cond ((ev x).isStr == st) (match aslice ev es (ev x) lo hi mx with | some v => some (v, H) | none => none) none
def f_slca (n : Nat) (es : Nat) (x : Opd) (lo : Option Opd) (hi : Option Opd) (mx : Option Opd) (ev : Opd → AV) (H : Heap) : Option (AV × Heap) :=
  (match asliceA ev n es (ev x) lo hi mx with | some v => some (v, H) | none => none)
def f_fad (off : Nat) (x : Opd) (ev : Opd → AV) (H : Heap) : Option (AV × Heap) :=
  (match ev x with | .ptr b o => some (.ptr b (o + off), H) | _ => none)
def f_fld (off : Nat) (sz : Nat) (ag : Bool) (x : Opd) (ev : Opd → AV) (H : Heap) : Option (AV × Heap) :=
  (match ev x with
     | .agg cs => cond ag (cond (Nat.ble (off + sz) cs.length) (some (.agg ((cs.drop off).take sz), H)) none)
        (match cs[off]? with | some v => some (v, H) | none => none)
     | _ => none)
def f_iad (es : Nat) (x : Opd) (i : Opd) (ev : Opd → AV) (H : Heap) : Option (AV × Heap) :=
  (match ev x, ev i with
     | .sl b off len _ _, .int _ n => cond (decide (0 ≤ n) && decide (n < (len : Int))) (some (.ptr b (off + n.toNat * es), H)) none
     | _, _ => none)
def f_iada (n : Nat) (es : Nat) (x : Opd) (i : Opd) (ev : Opd → AV) (H : Heap) : Option (AV × Heap) :=
  (match ev x, ev i with
     | .ptr b off, .int _ j => cond (decide (0 ≤ j) && decide (j < (n : Int))) (some (.ptr b (off + j.toNat * es), H)) none
     | _, _ => none)
def f_idxs (x : Opd) (i : Opd) (ev : Opd → AV) (H : Heap) : Option (AV × Heap) :=
  (match ev x, ev i with
     | .str s, .int _ n => cond (decide (0 ≤ n)) (match s[n.toNat]? with | some b => some (.int .u8 b, H) | none => none) none
     | _, _ => none)
def f_idxa (es : Nat) (n : Nat) (ag : Bool) (x : Opd) (i : Opd) (ev : Opd → AV) (H : Heap) : Option (AV × Heap) :=
  (match ev x, ev i with
     | .agg cs, .int _ j =>
       cond (decide (0 ≤ j) && decide (j < (n : Int)))
         (cond ag (some (.agg ((cs.drop (j.toNat * es)).take es), H)) (match cs[j.toNat * es]? with | some v => some (v, H) | none => none)) none
     | _, _ => none)
def f_lkp (kt : ETy) (z : AV) (ok : Bool) (x : Opd) (i : Opd) (ev : Opd → AV) (H : Heap) : Option (AV × Heap) :=
  (match ev x with
     | .nilm => some (cond ok (.tup [z, .bool false]) z, H)
     | .mp m =>
       (match H.get m with
        | some (.map es _) =>
          (match findA H kt (ev i) es 0 with
           | some (some (_, v)) => some (cond ok (.tup [v, .bool true]) v, H)
           | some none => some (cond ok (.tup [z, .bool false]) z, H)
           | none => none)
        | _ => none)
     | _ => none)
def f_mup (kt : ETy) (m : Opd) (k : Opd) (v : Opd) (ev : Opd → AV) (H : Heap) : Option (AV × Heap) :=
  (match ev m with
     | .mp m =>
       (match H.get m with
        | some (.map es clock) =>
          (match findA H kt (ev k) es 0 with
           | some (some (i, _)) => some (.undef, H.put m (.map (setE es i (ev k) (ev v)) clock))
           | some none => some (.undef, H.put m (.map (es ++ [(ev k, ev v, clock)]) (clock + 1)))
           | none => none)
        | _ => none)
     | _ => none)
def f_rngs (x : Opd) (ev : Opd → AV) (H : Heap) : Option (AV × Heap) :=
  (match ev x with | .str s => some (.ptr H.size 0, H.push (.iter s 0)) | _ => none)
def f_nxts (x : Opd) (ev : Opd → AV) (H : Heap) : Option (AV × Heap) :=
  (match ev x with
     | .ptr b 0 =>
       (match H.get b with
        | some (.iter s pos) =>
          (match s[pos]? with
           | some c => cond (Nat.blt c 128) (some (.tup [.bool true, .int .i64 pos, .int .i32 c], H.put b (.iter s (pos + 1)))) none
           | none => some (.tup [.bool false], H))
        | _ => none)
     | _ => none)
def f_rngm (x : Opd) (ev : Opd → AV) (H : Heap) : Option (AV × Heap) :=
  (match ev x with
     | .mp m => (match H.get m with | some (.map [] _) => some (.ptr H.size 0, H.push (.miter m)) | _ => none)
     | _ => none)
def f_nxtm (x : Opd) (ev : Opd → AV) (H : Heap) : Option (AV × Heap) :=
  (match ev x with
     | .ptr b 0 => (match H.get b with | some (.miter m) => (match H.get m with | some (.map [] _) => some (.tup [.bool false], H) | _ => none) | _ => none)
     | _ => none)
def f_tas (ty : TypeId) (ok : Bool) (z : AV) (x : Opd) (ev : Opd → AV) (H : Heap) : Option (AV × Heap) :=
  (match ev x with
     | .nili => cond ok (some (.tup [z, .bool false], H)) none
     | .iface t v => cond (Nat.beq t ty) (some (cond ok (.tup [v, .bool true]) v, H)) (cond ok (some (.tup [z, .bool false], H)) none)
     | _ => none)
def f_ext (i : Nat) (x : Opd) (ev : Opd → AV) (H : Heap) : Option (AV × Heap) :=
  (match ev x with | .tup vs => (match vs[i]? with | some v => some (v, H) | none => none) | _ => none)
def f_app (ty : TypeId) (es : Nat) (bytes : Nat) (x : Opd) (y : Opd) (ev : Opd → AV) (H : Heap) : Option (AV × Heap) :=
  aappend H ty es bytes (ev x) (ev y)
def f_cpy (es : Nat) (x : Opd) (y : Opd) (ev : Opd → AV) (H : Heap) : Option (AV × Heap) :=
  acopy H es (ev x) (ev y)
def f_len (st : Bool) (x : Opd) (ev : Opd → AV) (H : Heap) : Option (AV × Heap) :=
  (match ev x with | .str s => cond st (some (.int .i64 s.length, H)) none | .nils => cond st none (some (.int .i64 0, H)) | .sl _ _ len _ _ => cond st none (some (.int .i64 len, H)) | _ => none)
def f_lenm (x : Opd) (ev : Opd → AV) (H : Heap) : Option (AV × Heap) :=
  (match ev x with | .nilm => some (.int .i64 0, H) | .mp m => (match H.get m with | some (.map es _) => some (.int .i64 es.length, H) | _ => none) | _ => none)
def f_lena (n : Nat) (ev : Opd → AV) (H : Heap) : Option (AV × Heap) :=
  some (.int .i64 n, H)
def f_mm (mx : Bool) (xs : List Opd) (ev : Opd → AV) (H : Heap) : Option (AV × Heap) :=
  (match xs.map ev with | x :: r => (match ammx mx x r with | some v => some (v, H) | none => none) | [] => none)
def f_usd (x : Opd) (ev : Opd → AV) (H : Heap) : Option (AV × Heap) :=
  (match ev x with | .nils => some (.nilp, H) | .sl b off _ cap _ => cond (Nat.blt 0 cap) (some (.ptr b off, H)) none | _ => none)
def f_uss (ty : TypeId) (x : Opd) (n : Opd) (ev : Opd → AV) (H : Heap) : Option (AV × Heap) :=
  (match ev x, ev n with
     | .nilp, .int _ 0 => some (.str [], H)
     | .ptr b off, .int _ n =>
       cond (decide (0 < n) && Nat.beq off 0 && decide (n ≤ 9223372036854775807))
         (match H.own b with
          | some (H', cs, t, fl) =>
            cond (Nat.ble n.toNat cs.length && Nat.beq t ty) (match bytesOf (cs.take n.toNat) with | some l => some (.str l, H'.put b (.cells cs t { fl with frz := true, alone := true })) | none => none) none
          | none => none) none
     | _, _ => none)
def f_xbyte (x : Opd) (c : Opd) (ev : Opd → AV) (H : Heap) : Option (AV × Heap) :=
  (match ev x, ev c with | .str s, .int .u8 n => cond (decide (0 ≤ n) && decide (n < 256)) (some (.int .i64 (idxOfL n.toNat s 0), H)) none | _, _ => none)
def f_xid (x : Opd) (ev : Opd → AV) (H : Heap) : Option (AV × Heap) :=
  some (ev x, H)
def f_xcon (x : Opd) (y : Opd) (ev : Opd → AV) (H : Heap) : Option (AV × Heap) :=
  (match ev x, ev y with | .str a, .str b => cond (Nat.blt a.length 4294967281) (some (.bool (hasL b a), H)) none | _, _ => none)

abbrev CallT := Nat → List AV → Heap → Option CR
abbrev FOp := CallT → St → Option (Option AV × St)
/-- An operation that gives a value. -/
def oV (dst : Option Nat) (f : (Opd → AV) → Heap → Option (AV × Heap)) : FOp := fun _ st =>
  match st with
  | ⟨env, dfs, heap, rc⟩ =>
    match f (Opd.ev env) heap with
    | some (v, H) => some (none, (St.mk env dfs H rc).put dst v)
    | none => none
def oCall (dst : Option Nat) (f : Nat) (args : List Opd) : FOp := fun call st => landed st dst (call f (args.map (Opd.ev st.env)) st.heap)
def oCallv (dst : Option Nat) (x : Opd) (args : List Opd) : FOp := fun call st =>
  match Opd.ev st.env x with
  | .fn f first cap => landed st dst (call f (first ++ args.map (Opd.ev st.env) ++ cap) st.heap)
  | _ => none
def oInv (meth : Nat → String → Option Nat) (dst : Option Nat) (x : Opd) (name : String) (args : List Opd) : FOp := fun call st =>
  match Opd.ev st.env x with
  | .iface t v => (match meth t name with | some f => landed st dst (call f (v :: args.map (Opd.ev st.env)) st.heap) | none => none)
  | _ => none
def oDfr (dst : Option Nat) (x : Opd) (args : List Opd) : FOp := fun _ st =>
  match Opd.ev st.env x with
  | .fn f first cap => some (none, { st with dfs := (f, first ++ args.map (Opd.ev st.env) ++ cap) :: st.dfs }.put dst .undef)
  | _ => none
def oPan (x : Opd) : FOp := fun _ st => match Opd.ev st.env x with | .iface t v => some (some (.iface t v), st) | _ => none
def oRcv (dst : Option Nat) : FOp := fun _ st =>
  match st.rc with
  | some (some v) => some (none, { st with rc := some none }.put dst v)
  | some none => some (none, st.put dst .nili)
  | none => none
def oNone : FOp := fun _ _ => none
def fOp (o : IOp) : (Opd → AV) → Heap → Option (AV × Heap) :=
  match o with
  | .mv x => f_mv x
  | .pick c a b => f_pick c a b
  | .new ty z => f_new ty z
  | .box ty x => f_box ty x
  | .build z ps => f_build z ps
  | .bsl ty len z ps => f_bsl ty len z ps
  | .ld ag n x => f_ld ag n x
  | .st n x v => f_st n x v
  | .nilc x => f_nilc x
  | .bin op ty x y => f_bin op ty x y
  | .un op x => f_un op x
  | .cvi k x => f_cvi k x
  | .cvs x => f_cvs x
  | .cvbs x => f_cvbs x
  | .cvp x => f_cvp x
  | .cvq ts x => f_cvq ts x
  | .mki ty x => f_mki ty x
  | .mkf f first cap => f_mkf f first cap
  | .mkm  => f_mkm 
  | .mks ty es bytes z l c => f_mks ty es bytes z l c
  | .slc st es x lo hi mx => f_slc st es x lo hi mx
  | .slca n es x lo hi mx => f_slca n es x lo hi mx
  | .fad off x => f_fad off x
  | .fld off sz ag x => f_fld off sz ag x
  | .iad es x i => f_iad es x i
  | .iada n es x i => f_iada n es x i
  | .idxs x i => f_idxs x i
  | .idxa es n ag x i => f_idxa es n ag x i
  | .lkp kt z ok x i => f_lkp kt z ok x i
  | .mup kt m k v => f_mup kt m k v
  | .rngs x => f_rngs x
  | .nxts x => f_nxts x
  | .rngm x => f_rngm x
  | .nxtm x => f_nxtm x
  | .tas ty ok z x => f_tas ty ok z x
  | .ext i x => f_ext i x
  | .app ty es bytes _ x y => f_app ty es bytes x y
  | .cpy es x y => f_cpy es x y
  | .len st x => f_len st x
  | .lenm x => f_lenm x
  | .lena n => f_lena n
  | .mm mx xs => f_mm mx xs
  | .usd x => f_usd x
  | .uss ty x n => f_uss ty x n
  | .xbyte x c => f_xbyte x c
  | .xid x => f_xid x
  | .xcon x y => f_xcon x y
  | _ => fun _ _ => none
theorem fOp_eq (o : IOp) : fOp o = vop o := by cases o <;> rfl
def mkOp (meth : Nat → String → Option Nat) (dst : Option Nat) (o : IOp) : FOp :=
  match o with
  | .mv x => oV dst (f_mv x)
  | .pick c a b => oV dst (f_pick c a b)
  | .new ty z => oV dst (f_new ty z)
  | .box ty x => oV dst (f_box ty x)
  | .build z ps => oV dst (f_build z ps)
  | .bsl ty len z ps => oV dst (f_bsl ty len z ps)
  | .ld ag n x => oV dst (f_ld ag n x)
  | .st n x v => oV dst (f_st n x v)
  | .nilc x => oV dst (f_nilc x)
  | .bin op ty x y => oV dst (f_bin op ty x y)
  | .un op x => oV dst (f_un op x)
  | .cvi k x => oV dst (f_cvi k x)
  | .cvs x => oV dst (f_cvs x)
  | .cvbs x => oV dst (f_cvbs x)
  | .cvp x => oV dst (f_cvp x)
  | .cvq ts x => oV dst (f_cvq ts x)
  | .mki ty x => oV dst (f_mki ty x)
  | .mkf f first cap => oV dst (f_mkf f first cap)
  | .mkm  => oV dst (f_mkm )
  | .mks ty es bytes z l c => oV dst (f_mks ty es bytes z l c)
  | .slc st es x lo hi mx => oV dst (f_slc st es x lo hi mx)
  | .slca n es x lo hi mx => oV dst (f_slca n es x lo hi mx)
  | .fad off x => oV dst (f_fad off x)
  | .fld off sz ag x => oV dst (f_fld off sz ag x)
  | .iad es x i => oV dst (f_iad es x i)
  | .iada n es x i => oV dst (f_iada n es x i)
  | .idxs x i => oV dst (f_idxs x i)
  | .idxa es n ag x i => oV dst (f_idxa es n ag x i)
  | .lkp kt z ok x i => oV dst (f_lkp kt z ok x i)
  | .mup kt m k v => oV dst (f_mup kt m k v)
  | .rngs x => oV dst (f_rngs x)
  | .nxts x => oV dst (f_nxts x)
  | .rngm x => oV dst (f_rngm x)
  | .nxtm x => oV dst (f_nxtm x)
  | .tas ty ok z x => oV dst (f_tas ty ok z x)
  | .ext i x => oV dst (f_ext i x)
  | .app ty es bytes _ x y => oV dst (f_app ty es bytes x y)
  | .cpy es x y => oV dst (f_cpy es x y)
  | .len st x => oV dst (f_len st x)
  | .lenm x => oV dst (f_lenm x)
  | .lena n => oV dst (f_lena n)
  | .mm mx xs => oV dst (f_mm mx xs)
  | .usd x => oV dst (f_usd x)
  | .uss ty x n => oV dst (f_uss ty x n)
  | .xbyte x c => oV dst (f_xbyte x c)
  | .xid x => oV dst (f_xid x)
  | .xcon x y => oV dst (f_xcon x y)
  | .call f args => oCall dst f args
  | .callv x args => oCallv dst x args
  | .inv x name args => oInv meth dst x name args
  | .dfr x args => oDfr dst x args
  | .pan x => oPan x
  | .rcv => oRcv dst
theorem mkOp_eq (meth : Nat → String → Option Nat) (call : CallT) (s : ISt) (st : St) : mkOp meth s.dst s.op call st = step1 meth call s st := by
  obtain ⟨dst, op, g⟩ := s
  obtain ⟨env, dfs, heap, rc⟩ := st
  cases op <;> rfl

def fGuard (t : Nat) (want : Bool) (dst : Option Nat) (f : FOp) : FOp := fun call st =>
  match st.env.at t with
  | .bool b => cond (b == want) (f call st) (some (none, st.put dst .undef))
  | .any => none
  | _ => some (none, st.put dst .undef)
def mkG (meth : Nat → String → Option Nat) (s : ISt) : FOp :=
  match s with
  | ⟨dst, op, g⟩ =>
    match g with
    | none => mkOp meth dst op
    | some (t, want) => fGuard t want dst (mkOp meth dst op)
theorem mkG_eq (meth : Nat → String → Option Nat) (call : CallT) (s : ISt) (st : St) : mkG meth s call st = stepG meth call s st := by
  obtain ⟨dst, op, g⟩ := s
  cases g with
  | none => exact mkOp_eq meth call ⟨dst, op, none⟩ st
  | some q =>
    obtain ⟨t, want⟩ := q
    have h := mkOp_eq meth call ⟨dst, op, some (t, want)⟩ st
    simp only [mkG, fGuard, stepG, blindA, wantedA]
    cases hv : st.env.at t <;> simp only [cond_true, cond_false]
    all_goals first | rfl | (rw [← h]; done) | skip

theorem stepG_F {meth : Nat → String → Option Nat} {call : CallT} {s : ISt} {st : St} : stepG meth call s st = mkG meth s call st := (mkG_eq meth call s st).symm

section
variable (meth : Nat → String → Option Nat) (call : CallT)
noncomputable def opsF (l : List ISt) : St → Option (XT × St) :=
  List.rec (motive := fun _ => St → Option (XT × St)) (fun st => some (.normal, st))
    (fun s _ ih st => match mkG meth s call st with
      | some (none, st') => ih st'
      | some (some v, st') => some (.pan v, st')
      | none => none) l
theorem opsF_eq : ∀ (l : List ISt) (st : St), opsF meth call l st = execOps meth call l st
  | [], st => rfl
  | s :: l, st => by
    simp only [execOps, stepG_F]
    show (match mkG meth s call st with | some (none, st') => opsF meth call l st' | some (some v, st') => some (.pan v, st') | none => none) = _
    cases mkG meth s call st with
    | none => rfl
    | some q => obtain ⟨p, st'⟩ := q; cases p with
      | none => exact opsF_eq l st'
      | some v => rfl

noncomputable def flF (st : St) (l : List ISt) : Bool :=
  List.rec (motive := fun _ => Bool) true (fun s _ ih => (!(wantedA st s.g) ||
      (match s.dst, fOp s.op (Opd.ev st.env) st.heap with
       | some d, some (v, _) => AV.beq v (st.env.at d)
       | _, _ => false)) && ih) l
theorem flF_eq (st : St) : ∀ l : List ISt, flF st l = flOk st l
  | [] => rfl
  | s :: l => by
    simp only [flOk, ← flF_eq st l, ← fOp_eq]
    rfl
noncomputable def pairF (a b : DIt) (st : St) : Bool :=
  match a.s, b.s with
  | ⟨none, .st _ xa _, none⟩, ⟨none, .st _ xb _, none⟩ =>
    (match famAt st.heap (Opd.ev st.env xa), famAt st.heap (Opd.ev st.env xb) with
     | some f, some g => !(Nat.beq f g)
     | _, _ => false) &&
    (match mkG meth b.s call st with
     | some (none, stB) =>
       flF stB b.fl && faOk st stB b.fa &&
       (match mkG meth a.s call stB with
        | some (none, stBA) => flF stBA a.fl && faOk stB stBA a.fa
        | _ => false)
     | _ => false)
  | _, _ => false
theorem pairF_eq (a b : DIt) (st : St) : pairF meth call a b st = pairOk meth call a b st := by
  unfold pairF pairOk
  simp only [stepG_F, flF_eq]
  rfl
noncomputable def drwF (e0 : Env) (all : List DIt) (l : List DIt) : St → Option (XT × St) :=
  List.rec (motive := fun _ => St → Option (XT × St)) (fun st => some (.normal, st))
    (fun d l ih st => match mkG meth d.s call st with
      | some (none, st') =>
        cond (!d.eff || (flF st' d.fl && faOk st st' d.fa))
          (cond (!d.pr || (match l with | [b] => pairF meth call d b st | _ => false)) (ih st') none) none
      | some (some v, st') => cond d.eff (some (.pan v, { st' with env := anyEnv e0 all })) none
      | none => none) l
theorem drwF_eq (e0 : Env) (all : List DIt) : ∀ (l : List DIt) (st : St), drwF meth call e0 all l st = execDrw meth call e0 all l st
  | [], st => rfl
  | d :: l, st => by
    simp only [execDrw, stepG_F, ← flF_eq, ← pairF_eq, ← drwF_eq e0 all l]
    rfl
noncomputable def codeF (n : Nat) (c : ICode) : St → Option (XT × St) :=
  ICode.rec (motive := fun _ => St → Option (XT × St))
    (fun st => some (.normal, st))
    (fun l st => opsF meth call l st)
    (fun l st => drwF meth call st.env l l st)
    (fun _ _ ia ib st => match ia st with
      | some (.normal, st') => ib st'
      | r => r)
    (fun c _ _ ia ib st => match Opd.ev st.env c with
      | .bool true => ia st
      | .bool false => ib st
      | _ => none)
    (fun id _ ia st => match ia st with
      | some (.exit i, st') => cond (Nat.beq i id) (some (.normal, st')) (some (.exit i, st'))
      | r => r)
    (fun _ ia st => loopN ia n st)
    (fun _ l1 _ l2 _ ia i1 i2 st => gotoN l1 i1 l2 i2 n (ia st))
    (fun id st => some (.exit id, st))
    (fun l st => some (.goto l, st))
    (fun st => some (.ret, st))
    (fun _ => none) c
theorem codeF_eq (n : Nat) : ∀ (c : ICode), codeF meth call n c = exec meth call n c
  | .skip => rfl
  | .ops l => funext fun st => opsF_eq meth call l st
  | .drw l => funext fun st => drwF_eq meth call st.env l l st
  | .seq a b => funext fun st => by
    simp only [exec, ← codeF_eq n a, ← codeF_eq n b]; rfl
  | .cond c a b => funext fun st => by
    simp only [exec, ← codeF_eq n a, ← codeF_eq n b]; rfl
  | .blk id a => funext fun st => by
    simp only [exec, ← codeF_eq n a]; rfl
  | .loop a => funext fun st => by
    simp only [exec, ← codeF_eq n a]; rfl
  | .scope a l1 r1 l2 r2 => funext fun st => by
    simp only [exec, ← codeF_eq n a, ← codeF_eq n r1, ← codeF_eq n r2]; rfl
  | .exit id => rfl
  | .goto l => rfl
  | .ret => rfl
  | .bad => rfl
end

section
variable (P : Prog)
noncomputable def callDF (call : CallT) (n : Nat) (f : Nat) (args : List AV) (p : Option AV) (H : Heap) : Option (Option AV × Heap) :=
  match P.fn f with
  | none => none
  | some F =>
    cond (rcvOk F.code) (
    match codeF P.meth call n F.code { env := initEnv args 0 .leaf, dfs := [], heap := H, rc := some p } with
    | some (.normal, st) => (match st.dfs, st.rc, results st.env st.heap F.res with | [], some p', some _ => some (p', st.heap) | _, _, _ => none)
    | some (.ret, st) => (match st.dfs, st.rc, results st.env st.heap F.res with | [], some p', some _ => some (p', st.heap) | _, _, _ => none)
    | _ => none) none
noncomputable def callFF (n : Nat) : CallT :=
  Nat.rec (motive := fun _ => CallT) (fun _ _ _ => none) (fun n ih f args H =>
    match P.fn f with
    | none => none
    | some F =>
      match codeF P.meth ih n F.code { env := initEnv args 0 .leaf, dfs := [], heap := H, rc := none } with
      | some (.normal, st) => finish (callDF P ih n) F st none
      | some (.ret, st) => finish (callDF P ih n) F st none
      | some (.pan v, st) => finish (callDF P ih n) F st (some v)
      | _ => none) n
theorem callDF_eq (call : CallT) (n : Nat) : callDF P call n = callD P call n := by
  funext f args p H
  unfold callDF callD
  simp only [codeF_eq]
  rfl
theorem callFF_eq : ∀ n, callFF P n = callF P n
  | 0 => by funext f args H; rfl
  | n + 1 => by
    funext f args H
    simp only [callF, ← callFF_eq n, ← codeF_eq, ← callDF_eq]
    rfl
end
end Go.Ab
