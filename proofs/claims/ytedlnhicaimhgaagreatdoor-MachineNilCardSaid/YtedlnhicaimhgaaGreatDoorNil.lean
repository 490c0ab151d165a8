/-
  MachineNil: for every fuel the law of the nil machine returns true and its argument reads as it did. No condition.
-/
import Derived.Test.YtedlnhicaimhgaaGreatDoorNilRun
import Derived.Test.YtedlnhicaimhgaaGreatDoorNilF
import Derived.Test.YtedlnhicaimhgaaGreatDoorCards
import Derived.Test.YtedlnhicaimhgaaGreatDoorTie
import Derived.Deep.DeepWitnessRowRef
namespace Go.Ab
open Go.Proofs Go.Proofs.YtedlnhicaimhgaaGreatDoor Go.ChangeShapes Go.WideShapes

/-- What a call that the abstract machine runs to 'true' says of the model's call. -/
theorem returns_true {f : Nat} {args : List AV} {args' : Array Value} {W : World} {N : Nat} (hv : VarsAt W) (hr : saysTrue (callF (progC Tryz.prog) N f args H0) = true) (hV : VL β0 args args'.toList) :
    Calls Tryz.prog f args' W fun e w' => e = .returned (.bool true) ∧ World.keptBut W w' (fun _ => False) ∧ ∀ r, r < W.heap.size → w'.heap[r]? = W.heap[r]? := by
  obtain ⟨m, hm⟩ := hv.max
  have hcon : ConOK Tryz.prog W := conOK hm (by have := hv.size; omega)
  have hC := callF_ok (P := Tryz.prog) (w0 := W) drwAll hcon methC_ok N
  cases hc : callF (progC Tryz.prog) N f args H0 with
  | none => rw [hc] at hr; cases hr
  | some r =>
    rw [hc] at hr
    refine Calls.mono ((hC f args H0 r hc).2 β0 W args' (hr_start hv) globs_start hV) fun e w' hE => ?_
    cases e with
    | outgrown => exact hE.elim
    | panicked c =>
      obtain ⟨β', v, H, _, _, rfl, _⟩ := hE
      cases hr
    | returned v' =>
      obtain ⟨β', v, H, _, _, rfl, hH, hVv⟩ := hE
      have e : v = .bool true := by
        unfold saysTrue at hr
        split at hr
        · rename_i h; cases h; rfl
        · cases hr
      subst e
      cases hVv
      refine ⟨rfl, ⟨hH.os.1, hH.os.2, fun i hi => ?_⟩, fun r hr => hH.frame r hr⟩
      rw [hH.frame i hi]
      cases W.heap[i]? with
      | none => trivial
      | some o =>
        cases o <;> first
          | exact ⟨rfl, rfl, rfl, fun _ _ => rfl⟩
          | exact .inr ⟨rfl, rfl⟩
          | rfl

section
variable {H : Type} {enc : TypeId × Value → H} {P : Program}
/-- As post_of_same, where new memory may be frozen. -/
theorem post_kept {f : Func} {s : ChangeSpec} {apart fresh handsOn again : Bool} {W W' : World} {args : Array Value} {v : Value} {ds gs : List (DataW H)} {before pa pv : List MemPlace}
    (hW : DataW.Whole enc P f.params.toList s.vars apart W args.toList ds gs before)
    (hres : ∀ (b : Nat) (sp : Nat → Bool) (hd : Bool), DataW.TrodAll enc P W' b sp hd f.resultTypes.toList (v.resultList f.resultTypes.size) (s.fn H (ds ++ gs)).results [])
    (hargs : ∀ sp : Nat → Bool, (∀ p ∈ before, sp p.block = true) → DataW.TrodAll enc P W' 0 sp true f.params.toList args.toList (s.fn H (ds ++ gs)).args pa)
    (hvars : ∀ sp : Nat → Bool, (∀ p ∈ before, sp p.block = true) → DataW.TrodVars enc P W' sp s.vars (s.fn H (ds ++ gs)).vars pv)
    (hps : before = pa ++ pv) (hk : W.keptBut W' (· ∈ before)) (hold : ∀ r, r < W.heap.size → W'.heap[r]? = W.heap[r]?)
    (hok : ∀ (j : Nat) (t : TypeId) (r : Value), f.resultTypes[j]? = some t → (v.resultList f.resultTypes.size)[j]? = some r → Value.okWide P W' .any 0 t r) :
    s.post enc P f apart fresh handsOn again W args v W' := by
  have hlt : ∀ p ∈ before, p.block < W.heap.size := fun p hp => hW.lt p hp
  have hold' : ∀ p ∈ before, (fun b => decide (b < W.heap.size)) p.block = true := fun p hp => by simpa using hlt p hp
  refine ⟨ds, gs, before, [], pa, pv, hW, hres _ _ _, hargs _ hold', hvars _ hold', World.keptBut_mono (fun p hp => ⟨hp, ?_⟩) hk, fun _ => ?_⟩
  · rw [hps, List.mem_append] at hp
    exact Or.inr hp
  · obtain ⟨_, _, _, _, _, hz, hn⟩ := hW
    refine ⟨hok, _, _, ([] ++ pa) ++ pv, ⟨[] ++ pa, pv, trodAll_append (hargs _ (fun _ _ => rfl)) (hres _ _ _), hvars _ (fun _ _ => rfl), rfl, ?_, ?_⟩, ?_⟩
    · intro b off hp
      have hp' : MemPlace.cell b off ∈ before := by rw [hps]; simpa using hp
      have hb : b < W.heap.size := hlt _ hp'
      have := hz b off hp'
      unfold World.frozen? at this ⊢
      rw [hold b hb]
      exact this
    · intro ha
      have := hn ha
      rw [hps] at this
      simpa using this
    · intro p hp _
      rw [hps]
      simpa using hp
end
end Go.Ab

namespace Go.Proofs.YtedlnhicaimhgaaGreatDoor.machineNil
set_option maxRecDepth 100000
open Go.ChangeShapes Go.WideShapes Go.ChangeAt Go.RowKit Go.Ab

theorem own : ownKnob Tryz.prog.godebug = none := by kernel_rfl

theorem contract (H : Type) (enc : TypeId × Value → H) (W : World) (base : Nat) (args : Array Value) (ds gs : List (DataW H)) (before : List MemPlace)
    (hval : ∀ (j : Nat) t v, Tryz.f3.params[j]? = some t → args[j]? = some v → Value.okWide Tryz.prog W .any base t v)
    (hW : DataW.Whole enc Tryz.prog Tryz.f3.params.toList Rows.machineNilSpec.vars false W args.toList ds gs before) (hL : laidMetH Tryz.prog Rows.machineNilRow.laid W) (hsh : W.ShapedOpen Tryz.prog) :
    Calls Tryz.prog 3 args W fun e W' => ∃ v, e = .returned v ∧ Rows.machineNilSpec.post enc Tryz.prog Tryz.f3 false true false false W args v W' := by
  have hW' := hW
  obtain ⟨p, q, hA0, hV, rfl, hfz, hnd⟩ := hW
  have hA : DataW.TrodAll enc Tryz.prog W 0 (fun _ => true) true Tryz.f3.params.toList args.toList ds p := hA0
  rw [Tryz.params3] at hA hval
  obtain ⟨v0, vs0, d0, ds0, p0, q0, hargs, rfl, rfl, h0, r0⟩ := trodAll_cons hA
  obtain ⟨rfl, rfl, rfl⟩ := trodAll_nil r0
  obtain rfl : args = #[v0] := by cases args; simp_all
  obtain ⟨rfl, rfl⟩ := trodVars_none hV
  obtain ⟨n, rfl, rfl, rfl, hwf⟩ := open_int Tryz.underlying3 (hval 0 3 v0 rfl rfl) h0
  clear hA0
  simp only [List.append_nil] at hW'
  refine (returns_true (varsAt_of hsh hL) (nil_run n) (.cons (.int .i64 n) .nil)).mono fun e W' ⟨he, hk, hold⟩ => ?_
  subst he
  exact ⟨_, rfl, post_kept (pa := []) (pv := []) hW' (fun _ _ _ => trodAll_cons_mk (shut_bool Tryz.underlying4 _) trodAll_mk0) (fun _ _ => trodAll_cons_mk (shut_int Tryz.underlying3 hwf) trodAll_mk0) (fun _ _ => rfl) rfl
    (World.keptBut_mono (fun _ h => h.elim) hk) hold (ok_one (by kernel_rfl) rfl (okWide_bool_mk Tryz.underlying4 _))⟩

/-- A world for the witness: the variables hold what their initialisers lay; two blocks more (a table of ranges). -/
noncomputable def laidWorld (os : Os) : World :=
  let N := (World.settled Tryz.prog os).heap.size
  let r (a b c : Int) : List Value := [.int .u16 a, .int .u16 b, .int .u16 c]
  let w0 := World.holding Tryz.prog os ⟨#[
    .cells ((r 9 13 1 ++ r 32 133 101 ++ r 160 5760 5600 ++ r 8192 8202 1 ++ r 8232 8233 1 ++ r 8239 8287 48 ++ r 12288 12288 1).toArray) 459,
    .cells #[.slice (some ⟨N, 0, none⟩) 7 7, .slice none 0 0, .int .i64 2] 456], #[], []⟩
  let put (h : Array Obj) (g : Nat) (cs : Array Value) : Array Obj := h.modify g fun
    | .cells _ t frozen => .cells cs t frozen
    | o => o
  let tab (k : IntKind) (d : DataW Unit) : Array Value := ((zsOf d).map fun z => Value.int k z).toArray
  let h0 := put w0.heap 0 (tab .u64 Rows.laid_internal_strconv_uint64pow10)
  let h1 := put h0 1 (tab .u8 Rows.laid_strings_asciiSpace)
  let h2 := put h1 2 (tab .u8 Rows.laid_math_bits_deBruijn32tab)
  let h3 := put h2 3 (tab .u8 Rows.laid_math_bits_deBruijn64tab)
  let h4 := put h3 4 #[.pointer (some ⟨N + 1, 0, none⟩)]
  { w0 with heap := h4 }
set_option maxRecDepth 100000 in
theorem laid_met (os : Os) (args : Array Value) : laidMet Tryz.prog Rows.machineNilRow.laid ((laidWorld os).forCall (fun _ _ => 0) ⟨#[], args, []⟩).memory :=
  laidMet_of_run' 8 (by kernel_rfl) (by kernel_rfl)
theorem reads (os : Os) {H : Type} (enc : TypeId × Value → H) : ∃ places, DataW.whole enc Tryz.prog ((laidWorld os).forCall (fun _ _ => 0) ⟨#[], #[.int .i64 0], []⟩).memory Tryz.f3.params.toList Rows.machineNilSpec.vars false #[Value.int .i64 0].toList 8 = some ([.lit (.int .i64 0)], [], places) :=
  ⟨[], by kernel_rfl⟩

set_option maxRecDepth 100000 in
theorem lifted (os : Os) (started : os.Started) (H : Type) (enc : TypeId × Value → H) (F : Stop.Interp) :
    ReturnsInHanded {} Tryz.checked os 3 .any ((OpenSpec.ofChange Rows.machineNilSpec).preRow enc Tryz.prog Tryz.f3 Rows.machineNilRow.domain false Rows.machineNilRow.laid) (((OpenSpec.ofChange Rows.machineNilSpec).at F).post enc Tryz.prog Tryz.f3 false true false false) := by
  obtain ⟨places, hx⟩ := reads os enc
  refine returnsInHanded_of_row (C := Tryz.checked) (s := OpenSpec.ofChange Rows.machineNilSpec) own started (by kernel_rfl) Tryz.func3
    (witness_row_atRef (enc := enc) (C := Tryz.checked) false (laidWorld os) #[.int .i64 0] rfl (by kernel_rfl) (by kernel_rfl) (by kernel_rfl)
      (OpenSpec.preRow_of_cond 8 hx (by kernel_rfl) (fun k hk => by cases hk) (by kernel_rfl) (laid_met os _))) ?_
  intro W base args ds gs before hval hW _ _ _ hL hsh _
  exact contract H enc W base args ds gs before hval hW hL hsh

theorem named3 : Tryz.pinned.checked.prog.funcNamed Rows.machineNilRow.func = some 3 := by kernel_rfl
theorem inst3 : Tryz.f3.isInstance Tryz.pinned.checked.prog Rows.machineNilRow.origin Rows.machineNilRow.targs := of_decide_eq_true (by kernel_rfl)
theorem wrap3 : Tryz.f3.isWrapper Tryz.pinned.checked.prog Rows.machineNilRow.wrapper Rows.machineNilRow.mainSum := by
  unfold Func.isWrapper; first | (rw [if_pos (by decide +kernel)]; kernel_rfl) | (rw [if_neg (by decide +kernel)]; exact ⟨rfl, rfl⟩)
theorem said : Rows.MachineNilSaid :=
  OpenClaim.holds_of_cond 3 Tryz.f3 rfl rfl rfl rfl rfl rfl rfl ⟨rfl, rfl, rfl, rfl, rfl⟩ rfl rfl rfl rfl rfl named3 Tryz.func3 facts inst3 wrap3
    (fun os started H enc _ F => by rw [OpenClaim.pre_eq_preRow]; exact lifted os started H enc F)
theorem looks : true = Tryz.pinned.checked.prog.looks [] := by kernel_rfl
theorem standIn3 : Tryz.prog.wantsStandIn 3 = false := by kernel_rfl
theorem plain (f : FuncId) (fn : Func) (hf : Tryz.pinned.checked.prog.funcNamed Rows.machineNilRow.func = some f) (hfn : Tryz.pinned.checked.prog.funcs[f]? = some fn) :
    true = Tryz.pinned.checked.prog.looks [] ∧ ∀ (j : Nat) t, fn.params[j]? = some t → Tryz.pinned.checked.prog.wantsStandIn t = false := by
  obtain rfl : f = 3 := Option.some.inj (named3.symm.trans hf) |>.symm
  obtain rfl : fn = Tryz.f3 := (Option.some.inj (Tryz.func3.symm.trans hfn)).symm
  refine ⟨looks, fun j t ht => ?_⟩
  rw [Tryz.params3] at ht
  obtain rfl : t = 3 := by simpa using Array.mem_of_getElem? ht
  exact standIn3

end Go.Proofs.YtedlnhicaimhgaaGreatDoor.machineNil
namespace Go.Proofs.YtedlnhicaimhgaaGreatDoor
theorem machineNil.byText : Rows.machineNilRow.wfByText (OpenSpec.ofChange Rows.machineNilSpec) = true := by kernel_rfl
theorem machineNil.mainIs : Tryz.pinned.checked.prog.mainIs = some (true, "0383bb654f19f3b9b21309a72101ade9b875b0e54e5651d42ef85162e03c683e".toList) := by kernel_rfl
theorem machineNil.goes : false = Rows.machineNilRow.goesBy Tryz.pinned.checked.prog := by kernel_rfl
theorem machineNil_holds : Rows.MachineNilCardSaid :=
  Claim7.holds_tied_plain_at .later [] [.data, .data, .data, .listed, .data] true (true, "0383bb654f19f3b9b21309a72101ade9b875b0e54e5651d42ef85162e03c683e") true machineNil.said (fun _ h => by cases h) machineNil.byText (fun _ h => by cases h)
    machineNil_row_tie rfl ⟨rfl, rfl⟩ machineNil.mainIs rfl machineNil.plain machineNil.goes
#print axioms machineNil_holds
end Go.Proofs.YtedlnhicaimhgaaGreatDoor
