/- The row of FilesPuts, WHERE WHAT IT READS IS OF BULK AT MOST 1048576: out of its walk. Written by rows.py, a program of this session. -/
import Derived.Test.YtjglehhkaeckmaaGreatDoorCards
import Derived.Test.YtjglehhkaeckmaaGreatDoorTie
import Derived.Test.YtjglehhkaeckmaaGreatDoorRows
import Derived.Test.YtjglehhkaeckmaaGreatDoorBridge
import Derived.Test.YtjglehhkaeckmaaGreatDoorWFilesPuts
import Derived.Deep.DeepHandedRow
import Derived.WalkKit
import Derived.ProofKit
import Derived.OpenShut
import Derived.ShutString
import Derived.ChangeOld
import Derived.Below
import Derived.JoinedCond
namespace Go.Proofs.YtjglehhkaeckmaaGreatDoor.filesPuts
open Go.ChangeShapes Go.WideShapes Go.ChangeAt Go.RowKit
open Go.ChangeMaps (open_string shut_string)
set_option linter.all false
theorem own : ownKnob Tryz.prog.godebug = none := by kernel_rfl
theorem laidOut : laidOutB Tryz.prog = true := by kernel_rfl
theorem plain : plainTypes Tryz.prog [3, 9, 22, 28, 30] = true := by kernel_rfl
set_option maxRecDepth 100000 in
theorem contract (H : Type) (enc : TypeId × Value → H) (W : World) (base : Nat) (args : Array Value) (ds gs : List (DataW H)) (before : List MemPlace)
    (hval : ∀ (j : Nat) t v, Tryz.f3.params[j]? = some t → args[j]? = some v → Value.okWide Tryz.prog W .any base t v)
    (hW : DataW.Whole enc Tryz.prog Tryz.f3.params.toList Rows.filesPutsSpec.vars false W args.toList ds gs before) (hk : Rows.uptoSmall H (ds ++ gs) = true) :
    Calls Tryz.prog 3 args W fun e W' => ∃ v, e = .returned v ∧ Rows.filesPutsSpec.post enc Tryz.prog Tryz.f3 false true false false W args v W' := by
  have hW' := hW
  obtain ⟨p, q, hA0, hV, rfl, hfz, hnd⟩ := hW
  have hA : DataW.TrodAll enc Tryz.prog W 0 (fun _ => true) true Tryz.f3.params.toList args.toList ds p := hA0
  rw [Tryz.params3] at hA hval
  obtain ⟨v0, vs0, d0, ds0, p0, q0, hargs, rfl, rfl, h0, r0⟩ := trodAll_cons hA
  obtain ⟨rfl, rfl, rfl⟩ := trodAll_nil r0
  obtain rfl : args = #[v0] := by cases args; simp_all
  obtain ⟨rfl, rfl⟩ := trodVars_none hV
  obtain ⟨A0, n0, c0, rfl⟩ := okWide_slice Tryz.underlying22 (hval 0 22 v0 rfl rfl)
  have k0 := h0
  have lt0 : ∀ x ∈ p0, x.block < W.heap.size := by obtain ⟨m, hm⟩ := k0; exact DataW.trod_lt m _ _ _ hm
  obtain ⟨X0, g0, ty0, bu0⟩ : ∃ X : D, Rep (· < W.heap.size) W X [.slice A0 n0 c0] ∧ (∃ n, HasTy Tryz.prog n 22 X) ∧ X.bulk ≤ Rows.uptoBulk d0 := by
    obtain ⟨fuel, hf⟩ := h0
    obtain ⟨X, r1, r2, r3⟩ := trod_rep plain fuel 22 _ _ (by simp) hf
    exact ⟨X, by simpa [Value.cells] using r1, ⟨_, r2⟩, r3⟩
  have hb : X0.bulk ≤ 1048576 := by
    have hz : Rows.uptoBulkAll _ ≤ 1048576 := of_decide_eq_true hk
    simp only [List.append_nil, Rows.uptoBulkAll, Rows.uptoBulk, Array.length_toList] at hz
    try simp only [ByteArray.size_data] at hz
    omega
  clear hA0
  refine (filesPuts_walk A0 n0 c0 X0 W g0 ty0 hb).mono fun e W' ⟨he, bel⟩ => ?_
  subst he
  exact ⟨_, rfl, _, _, _, [], _, [], hW', trodAll_mk1 (shut_bool Tryz.underlying4 _), (trodAll_cons_mk (Below.trod laidOut (by kernel_rfl) (of_decide_eq_true (by kernel_rfl)) k0 bel lt0) trodAll_mk0), rfl, bel.frame _, fun h => by cases h⟩
mutual
def cellsD : DataW Unit → List Value
  | .lit (.int k n) => [.int k n]
  | .lit (.bool b) => [.bool b]
  | .lit (.string s) => [.string ⟨s.toArray⟩]
  | .agg ps => cellsDs ps
  | _ => []
def cellsDs : List (DataW Unit) → List Value
  | [] => []
  | d :: ds => cellsD d ++ cellsDs ds
end
def ptrOf : DataW Unit → DataW Unit
  | .iface _ (.ptr d) => d
  | d => d
/-- A world for the witness: the listed variables hold what their initialisers lay. -/
noncomputable def laidWorld (os : Os) : World := { World.holding Tryz.prog os ⟨#[Obj.cells (cellsD (ptrOf Rows.laid_strconv_ErrRange)).toArray 291 (0, 0), Obj.cells (cellsD (ptrOf Rows.laid_strconv_ErrSyntax)).toArray 291 (0, 0)], #[], []⟩ with heap := ((((((((World.holding Tryz.prog os ⟨#[Obj.cells (cellsD (ptrOf Rows.laid_strconv_ErrRange)).toArray 291 (0, 0), Obj.cells (cellsD (ptrOf Rows.laid_strconv_ErrSyntax)).toArray 291 (0, 0)], #[], []⟩).heap.modify 6 (fun o => match o with | Obj.cells _ t frozen => Obj.cells (cellsD Rows.laid_math_bits_deBruijn32tab).toArray t frozen | o => o)).modify 7 (fun o => match o with | Obj.cells _ t frozen => Obj.cells (cellsD Rows.laid_math_bits_deBruijn64tab).toArray t frozen | o => o)).modify 5 (fun o => match o with | Obj.cells _ t frozen => Obj.cells (cellsD Rows.laid_internal_strconv_uint64pow10).toArray t frozen | o => o)).modify 2 (fun o => match o with | Obj.cells _ t frozen => Obj.cells (cellsD Rows.laid_unicode_utf8_acceptRanges).toArray t frozen | o => o)).modify 4 (fun o => match o with | Obj.cells _ t frozen => Obj.cells #[Value.iface 289 (.pointer (some ⟨(World.settled Tryz.prog os).heap.size + 0, 0, none⟩))] t frozen | o => o)).modify 3 (fun o => match o with | Obj.cells _ t frozen => Obj.cells #[Value.iface 289 (.pointer (some ⟨(World.settled Tryz.prog os).heap.size + 1, 0, none⟩))] t frozen | o => o)).modify 1 (fun o => match o with | Obj.cells _ t frozen => Obj.cells (cellsD Rows.laid_unicode_utf8_first).toArray t frozen | o => o)) }
set_option maxRecDepth 100000 in
theorem laid_met (os : Os) : laidMet Tryz.prog Rows.filesPutsUptoRow.laid ((laidWorld os).forCall (fun _ _ => 0) ⟨#[], #[.slice none 0 0], []⟩).memory :=
  laidMet_of_run' 8 (by kernel_rfl) (by kernel_rfl)
set_option maxRecDepth 100000 in
theorem reads (os : Os) {H : Type} (enc : TypeId × Value → H) : ∃ places, DataW.whole enc Tryz.prog ((laidWorld os).forCall (fun _ _ => 0) ⟨#[], #[.slice none 0 0], []⟩).memory Tryz.f3.params.toList Rows.filesPutsSpec.vars false (#[.slice none 0 0] : Array Value).toList 8 = some ([.nil], [], places) :=
  ⟨[], by kernel_rfl⟩
set_option maxRecDepth 100000 in
theorem lifted (os : Os) (started : os.Started) (H : Type) (enc : TypeId × Value → H) (F : Stop.Interp) :
    ReturnsInHanded {} Tryz.checked os 3 .any ((Rows.OpenSpec.upto Rows.filesPutsSpec).preRow enc Tryz.prog Tryz.f3 Rows.filesPutsUptoRow.domain false Rows.filesPutsUptoRow.laid) (((Rows.OpenSpec.upto Rows.filesPutsSpec).at F).post enc Tryz.prog Tryz.f3 false true false false) := by
  obtain ⟨places, hx⟩ := reads os enc
  refine returnsInHanded_of_row (C := Tryz.checked) (s := Rows.OpenSpec.upto Rows.filesPutsSpec) own started (by kernel_rfl) Tryz.func3
    (witness_row_at (enc := enc) (C := Tryz.checked) false (laidWorld os) #[.slice none 0 0] rfl (by kernel_rfl) (by kernel_rfl) (by kernel_rfl)
      (OpenSpec.preRow_of_cond 8 hx (by kernel_rfl) (fun k hk => by cases hk; kernel_rfl) (by kernel_rfl) (laid_met os))) ?_
  intro W base args ds gs before hval hW _ hcond _ _ _ _
  exact contract H enc W base args ds gs before hval hW (hcond _ rfl)
theorem and_t {a b : Bool} (h : a = true) (k : b = true) : (a && b) = true := by rw [h, k]; rfl
set_option maxRecDepth 100000 in
theorem q1 : (Rows.filesPutsUptoRow.wf (OpenSpec.ofChange (Rows.OpenSpec.upto Rows.filesPutsSpec).bare)) = true := by kernel_rfl
set_option maxRecDepth 100000 in
theorem q2 : (laidOutB Tryz.prog) = true := by kernel_rfl
set_option maxRecDepth 100000 in
theorem q3 : (mapsRowed Tryz.prog) = true := by kernel_rfl
set_option maxRecDepth 100000 in
theorem q4 : (Tryz.f3.params.all (Tryz.prog.readableRec ·)) = true := by kernel_rfl
set_option maxRecDepth 100000 in
theorem q5 : (namedTie Tryz.prog Rows.filesPutsUptoRow.named (Rows.OpenSpec.upto Rows.filesPutsSpec).bare.vars) = true := by kernel_rfl
set_option maxRecDepth 100000 in
theorem q6 : ((Rows.filesPutsUptoRow.stops == [])) = true := by kernel_rfl
set_option maxRecDepth 100000 in
theorem q7 : ((Tryz.prog.stops == [])) = true := by kernel_rfl
set_option maxRecDepth 100000 in
theorem q8 : ((Rows.filesPutsUptoRow.knobs == [])) = true := by kernel_rfl
set_option maxRecDepth 100000 in
theorem q9 : ((Tryz.prog.stopKnobs == [])) = true := by kernel_rfl
set_option maxRecDepth 100000 in
theorem q10 : ((Rows.filesPutsUptoRow.inPlace == Tryz.prog.inPlace 3)) = true := by kernel_rfl
set_option maxRecDepth 100000 in
theorem q11 : ((Rows.filesPutsUptoRow.unfollowed == Tryz.prog.unfollowed 3)) = true := by kernel_rfl
set_option maxRecDepth 100000 in
theorem q12 : ((Rows.filesPutsUptoRow.recurses == Tryz.prog.recurses 3)) = true := by kernel_rfl
set_option maxRecDepth 100000 in
theorem q13 : ((Rows.filesPutsUptoRow.named == Tryz.prog.varsNamed 3)) = true := by kernel_rfl
set_option maxRecDepth 100000 in
theorem q14 : ((Rows.filesPutsUptoRow.maps == (Tryz.f3.params.toList ++ (Rows.OpenSpec.upto Rows.filesPutsSpec).bare.plain.varTypes Tryz.prog).any (Tryz.prog.mapsRec ·))) = true := by kernel_rfl
set_option maxRecDepth 100000 in
theorem q15 : ((Rows.filesPutsUptoRow.ifaces == (Tryz.f3.params.toList ++ (Rows.OpenSpec.upto Rows.filesPutsSpec).bare.plain.varTypes Tryz.prog).any (Tryz.prog.ifacesRec ·))) = true := by kernel_rfl
set_option maxRecDepth 100000 in
theorem q16 : ((Rows.filesPutsUptoRow.mapsOut == Tryz.prog.mapsAmong Tryz.f3.resultTypes.toList)) = true := by kernel_rfl
set_option maxRecDepth 100000 in
theorem q17 : ((Rows.filesPutsUptoRow.loops == (Tryz.f3.params.toList ++ (Rows.OpenSpec.upto Rows.filesPutsSpec).bare.plain.varTypes Tryz.prog).any (Tryz.prog.loopsFrom ·))) = true := by kernel_rfl
set_option maxRecDepth 100000 in
theorem q18 : ((Rows.filesPutsUptoRow.wideKeys == (Tryz.f3.params.toList ++ (Rows.OpenSpec.upto Rows.filesPutsSpec).bare.plain.varTypes Tryz.prog ++ Tryz.f3.resultTypes.toList).any (Tryz.prog.wideKeysFrom ·))) = true := by kernel_rfl
set_option maxRecDepth 100000 in
theorem q19 : ((Rows.OpenSpec.upto Rows.filesPutsSpec).bare.vars.all (Tryz.prog.varReadable ·)) = true := by kernel_rfl
set_option maxRecDepth 100000 in
theorem q20 : (Tryz.f3.resultTypes.all (fun t => Tryz.prog.readableRec t && decide (t < Tryz.prog.types.size))) = true := by kernel_rfl
set_option maxRecDepth 100000 in
theorem q21 : ((Rows.filesPutsUptoRow.ifacesOut == Tryz.f3.resultTypes.toList.any (Tryz.prog.ifacesRec ·))) = true := by kernel_rfl
set_option maxRecDepth 100000 in
theorem q22 : ((Rows.filesPutsUptoRow.loopsOut == Tryz.f3.resultTypes.toList.any (Tryz.prog.loopsFrom ·))) = true := by kernel_rfl
set_option maxRecDepth 100000 in
theorem q23 : ((Rows.filesPutsUptoRow.plainKeys == Tryz.prog.plainKeys)) = true := by kernel_rfl
set_option maxRecDepth 100000 in
theorem q24 : (Rows.filesPutsUptoRow.shortTexts.isNone) = true := by kernel_rfl
set_option maxRecDepth 100000 in
theorem q25 : (Tryz.prog.stopsHeard) = true := by kernel_rfl
set_option maxRecDepth 100000 in
theorem q26 : (Tryz.prog.mayEnter) = true := by kernel_rfl
set_option maxRecDepth 100000 in
theorem q27 : ((Rows.filesPutsUptoRow.lifted == Tryz.prog.liftsFinal)) = true := by kernel_rfl
set_option maxRecDepth 100000 in
theorem q28 : ((Tryz.prog.make == some Rows.filesPutsUptoRow.make)) = true := by kernel_rfl
set_option maxRecDepth 100000 in
theorem q29 : ((Rows.filesPutsUptoRow.kinds == (if Rows.filesPutsUptoRow.domain.isEmpty then [] else Tryz.f3.params.toList.map fun t => match Tryz.prog.underlying t with | some (.int k) => some k | _ => none))) = true := by kernel_rfl
set_option maxRecDepth 100000 in
theorem q30 : ((Rows.filesPutsUptoRow.pinned == Rows.filesPutsUptoRow.pinnedBy)) = true := by kernel_rfl
set_option maxRecDepth 100000 in
theorem q31 : ((Rows.filesPutsUptoRow.veiled == (Tryz.f3.params.toList ++ (Rows.OpenSpec.upto Rows.filesPutsSpec).bare.plain.varTypes Tryz.prog ++ Tryz.f3.resultTypes.toList).any (Tryz.prog.veiledRec ·))) = true := by kernel_rfl
set_option maxRecDepth 100000 in
theorem q32 : (Rows.filesPutsUptoRow.veiledFits Tryz.prog Tryz.f3.params.toList (Tryz.f3.params.toList ++ (Rows.OpenSpec.upto Rows.filesPutsSpec).bare.plain.varTypes Tryz.prog ++ Tryz.f3.resultTypes.toList)) = true := by kernel_rfl
set_option maxRecDepth 100000 in
theorem closed : joinedFacts Tryz.prog 3 Tryz.f3 (Rows.OpenSpec.upto Rows.filesPutsSpec).bare Rows.filesPutsUptoRow = true := (and_t (and_t (and_t (and_t (and_t (and_t (and_t (and_t (and_t (and_t (and_t (and_t (and_t (and_t (and_t (and_t (and_t (and_t (and_t (and_t (and_t (and_t (and_t (and_t (and_t (and_t (and_t (and_t (and_t (and_t (and_t q1 q2) q3) q4) q5) q6) q7) q8) q9) q10) q11) q12) q13) q14) q15) q16) q17) q18) q19) q20) q21) q22) q23) q24) q25) q26) q27) q28) q29) q30) q31) q32)
theorem over : Rows.filesPutsUptoRow.holds Tryz.pinned (Rows.OpenSpec.upto Rows.filesPutsSpec) :=
  OpenClaim.holds_of_cond 3 Tryz.f3 rfl rfl rfl rfl rfl rfl rfl ⟨rfl, rfl, rfl, rfl, rfl⟩ rfl rfl rfl rfl rfl (by kernel_rfl) Tryz.func3 closed
    (of_decide_eq_true (by kernel_rfl)) (by unfold Func.isWrapper; first | (rw [if_pos (by decide +kernel)]; kernel_rfl) | (rw [if_neg (by decide +kernel)]; exact ⟨rfl, rfl⟩))
    (fun os started H enc _ F => by rw [OpenClaim.pre_eq_preRow]; exact lifted os started H enc F)
/-- No parameter wants a stand-in; the program's own looks are off. -/
theorem plainly (f : FuncId) (fn : Func) (hf : Tryz.pinned.checked.prog.funcNamed "emendation/emendationlaw21.FilesPuts" = some f) (hfn : Tryz.pinned.checked.prog.funcs[f]? = some fn) :
    true = Tryz.pinned.checked.prog.looks [] ∧ ∀ (j : Nat) t, fn.params[j]? = some t → Tryz.pinned.checked.prog.wantsStandIn t = false := by
  obtain rfl : f = 3 := Option.some.inj ((show Tryz.prog.funcNamed "emendation/emendationlaw21.FilesPuts" = some 3 by kernel_rfl).symm.trans hf) |>.symm
  obtain rfl : fn = Tryz.f3 := (Option.some.inj (Tryz.func3.symm.trans hfn)).symm
  refine ⟨by kernel_rfl, fun j t ht => ?_⟩
  rw [Tryz.params3] at ht
  have hm := Array.mem_of_getElem? ht
  simp only [List.mem_toArray, List.mem_cons, List.not_mem_nil, or_false] at hm
  subst hm
  exact (show Tryz.prog.wantsStandIn 22 = false by kernel_rfl)
theorem cardUpto : Rows.FilesPutsUptoCardSaid :=
  Claim7.holds_tied_plain_at .later [] _ _ _ _ over (fun _ h => by cases h) (by kernel_rfl) (fun _ h => by cases h) filesPutsUpto_row_tie rfl ⟨rfl, rfl⟩ (by kernel_rfl) rfl plainly (by kernel_rfl)
end Go.Proofs.YtjglehhkaeckmaaGreatDoor.filesPuts
namespace Go.Proofs.YtjglehhkaeckmaaGreatDoor
/-- FilesPuts: true for every input of bulk at most 1048576 (the tied card). -/
theorem filesPuts_holds : Rows.FilesPutsUptoCardSaid := filesPuts.cardUpto
#print axioms filesPuts_holds
end Go.Proofs.YtjglehhkaeckmaaGreatDoor
