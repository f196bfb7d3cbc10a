/- The row of NumberTells, WHERE WHAT IT READS IS OF BULK AT MOST 1048576: out of its walk. Written by rows.py, a program of this session. -/
import Derived.Test.YtobncidpdodaiaaDoorCards
import Derived.Test.YtobncidpdodaiaaDoorTie
import Derived.Test.YtobncidpdodaiaaDoorRows
import Derived.Test.YtobncidpdodaiaaDoorBridge
import Derived.Test.YtobncidpdodaiaaDoorWNumberTells
import Derived.Deep.DeepHandedRow
import Derived.WalkKit
import Derived.ProofKit
import Derived.OpenShut
import Derived.ShutString
import Derived.ChangeOld
import Derived.Below
import Derived.JoinedCond
import Derived.LaidSub
import Derived.MakeChecks
import Derived.Lib.LaidTab
namespace Go.Proofs.YtobncidpdodaiaaDoor.numberTells
open Go.ChangeShapes Go.WideShapes Go.ChangeAt Go.RowKit
open Go.ChangeMaps (open_string shut_string)
set_option linter.all false
theorem own : ownKnob Tryd.prog.godebug = none := by kernel_rfl
theorem laidOut : laidOutB Tryd.prog = true := by kernel_rfl
theorem plain : plainTypes Tryd.prog [3, 9, 22, 23, 24, 26, 69] = true := by kernel_rfl
theorem pow_of {W : World} (hL : laidMetH Tryd.prog Rows.numberTellsUptoRow.laid W) : PowB W.heap.size W := by
  have h0 : laidMet Tryd.prog Rows.numberTellsUptoRow.laid W := (MakeChecks.laidMetH_plain _ _ _ (by kernel_rfl)).mp hL
  have h1 := laidMet.filter (fun x => x.1 == "internal/strconv.uint64pow10") h0
  have e1 : Rows.numberTellsUptoRow.laid.filter (fun x => x.1 == "internal/strconv.uint64pow10") = [("internal/strconv.uint64pow10", Lib.tabData .u64 Lib.pow10Tab)] := by kernel_rfl
  rw [e1] at h1
  exact Lib.tabBelow_of_tabIs (Lib.tabIs_of_head (g := 0) (t := 127) (e := 107) (n := 20) (by kernel_rfl) (by kernel_rfl) Tryd.underlying127 Tryd.underlying107 (by kernel_rfl) (by kernel_rfl) h1)
set_option maxRecDepth 100000 in
theorem contract (H : Type) (enc : TypeId × Value → H) (W : World) (base : Nat) (args : Array Value) (ds gs : List (DataW H)) (before : List MemPlace)
    (hval : ∀ (j : Nat) t v, Tryd.f5.params[j]? = some t → args[j]? = some v → Value.okWide Tryd.prog W .any base t v)
    (hW : DataW.Whole enc Tryd.prog Tryd.f5.params.toList Rows.numberTellsSpec.vars false W args.toList ds gs before) (hk : Rows.uptoSmall H (ds ++ gs) = true) (hL : laidMetH Tryd.prog Rows.numberTellsUptoRow.laid W) :
    Calls Tryd.prog 5 args W fun e W' => ∃ v, e = .returned v ∧ Rows.numberTellsSpec.post enc Tryd.prog Tryd.f5 false true false false W args v W' := by
  have hW' := hW
  obtain ⟨p, q, hA0, hV, rfl, hfz, hnd⟩ := hW
  have hA : DataW.TrodAll enc Tryd.prog W 0 (fun _ => true) true Tryd.f5.params.toList args.toList ds p := hA0
  rw [Tryd.params5] at hA hval
  obtain ⟨v0, vs0, d0, ds0, p0, q0, hargs, rfl, rfl, h0, r0⟩ := trodAll_cons hA
  obtain ⟨v1, vs1, d1, ds1, p1, q1, rfl, rfl, rfl, h1, r1⟩ := trodAll_cons r0
  obtain ⟨rfl, rfl, rfl⟩ := trodAll_nil r1
  obtain rfl : args = #[v0, v1] := by cases args; simp_all
  obtain ⟨rfl, rfl⟩ := trodVars_none hV
  obtain ⟨A0, n0, c0, rfl⟩ := okWide_slice Tryd.underlying24 (hval 0 24 v0 rfl rfl)
  have k0 := h0
  have lt0 : ∀ x ∈ p0, x.block < W.heap.size := by obtain ⟨m, hm⟩ := k0; exact DataW.trod_lt m _ _ _ hm
  obtain ⟨X0, g0, ty0, bu0⟩ : ∃ X : D, Rep (· < W.heap.size) W X [.slice A0 n0 c0] ∧ (∃ n, HasTy Tryd.prog n 24 X) ∧ X.bulk ≤ Rows.uptoBulk d0 := by
    obtain ⟨fuel, hf⟩ := h0
    obtain ⟨X, r1, r2, r3⟩ := trod_rep plain fuel 24 _ _ (by simp) hf
    exact ⟨X, by simpa [Value.cells] using r1, ⟨_, r2⟩, r3⟩
  obtain ⟨A1, n1, c1, rfl⟩ := okWide_slice Tryd.underlying24 (hval 1 24 v1 rfl rfl)
  have k1 := h1
  have lt1 : ∀ x ∈ p1, x.block < W.heap.size := by obtain ⟨m, hm⟩ := k1; exact DataW.trod_lt m _ _ _ hm
  obtain ⟨X1, g1, ty1, bu1⟩ : ∃ X : D, Rep (· < W.heap.size) W X [.slice A1 n1 c1] ∧ (∃ n, HasTy Tryd.prog n 24 X) ∧ X.bulk ≤ Rows.uptoBulk d1 := by
    obtain ⟨fuel, hf⟩ := h1
    obtain ⟨X, r1, r2, r3⟩ := trod_rep plain fuel 24 _ _ (by simp) hf
    exact ⟨X, by simpa [Value.cells] using r1, ⟨_, r2⟩, r3⟩
  have hb : X0.bulk + X1.bulk ≤ 1048576 := by
    have hz : Rows.uptoBulkAll _ ≤ 1048576 := of_decide_eq_true hk
    simp only [List.append_nil, Rows.uptoBulkAll, Rows.uptoBulk, Array.length_toList] at hz
    try simp only [ByteArray.size_data] at hz
    omega
  clear hA0
  refine (numberTells_walk A0 n0 c0 X0 A1 n1 c1 X1 W g0 ty0 g1 ty1 hb (pow_of hL)).mono fun e W' ⟨he, bel⟩ => ?_
  subst he
  exact ⟨_, rfl, _, _, _, [], _, [], hW', trodAll_mk1 (shut_bool Tryd.underlying4 _), (trodAll_cons_mk (Below.trod laidOut (by kernel_rfl) (of_decide_eq_true (by kernel_rfl)) k0 bel lt0) (trodAll_cons_mk (Below.trod laidOut (by kernel_rfl) (of_decide_eq_true (by kernel_rfl)) k1 bel lt1) trodAll_mk0)), rfl, bel.frame _, fun h => by cases h⟩
mutual
def cellsD : DataW Unit → List Value
  | .lit (.int k n) => [.int k n]
  | .lit (.bool b) => [.bool b]
  | .lit (.string s) => [.string ⟨s.toArray⟩]
  | .agg ps => cellsDs ps
  | _ => []
def cellsDs : List (DataW Unit) → List Value
  | [] => []
  | d :: ds => cellsD d ++ cellsDs ds
end
def ptrOf : DataW Unit → DataW Unit
  | .iface _ (.ptr d) => d
  | d => d
/-- A world for the witness: the listed variables hold what their initialisers lay. -/
noncomputable def laidWorld (os : Os) : World := { World.holding Tryd.prog os ⟨#[], #[], []⟩ with heap := ((((World.holding Tryd.prog os ⟨#[], #[], []⟩).heap.modify 1 (fun o => match o with | Obj.cells _ t frozen => Obj.cells (cellsD Rows.laid_math_bits_deBruijn32tab).toArray t frozen | o => o)).modify 2 (fun o => match o with | Obj.cells _ t frozen => Obj.cells (cellsD Rows.laid_math_bits_deBruijn64tab).toArray t frozen | o => o)).modify 0 (fun o => match o with | Obj.cells _ t frozen => Obj.cells (cellsD Rows.laid_internal_strconv_uint64pow10).toArray t frozen | o => o)) }
set_option maxRecDepth 100000 in
theorem laid_met (os : Os) : laidMet Tryd.prog Rows.numberTellsUptoRow.laid ((laidWorld os).forCall (fun _ _ => 0) ⟨#[], #[.slice none 0 0, .slice none 0 0], []⟩).memory :=
  laidMet_of_run' 8 (by kernel_rfl) (by kernel_rfl)
set_option maxRecDepth 100000 in
theorem reads (os : Os) {H : Type} (enc : TypeId × Value → H) : ∃ places, DataW.whole enc Tryd.prog ((laidWorld os).forCall (fun _ _ => 0) ⟨#[], #[.slice none 0 0, .slice none 0 0], []⟩).memory Tryd.f5.params.toList Rows.numberTellsSpec.vars false (#[.slice none 0 0, .slice none 0 0] : Array Value).toList 8 = some ([.nil, .nil], [], places) :=
  ⟨[], by kernel_rfl⟩
set_option maxRecDepth 100000 in
theorem lifted (os : Os) (started : os.Started) (H : Type) (enc : TypeId × Value → H) (F : Stop.Interp) :
    ReturnsInHanded {} Tryd.checked os 5 .any ((Rows.OpenSpec.upto Rows.numberTellsSpec).preRow enc Tryd.prog Tryd.f5 Rows.numberTellsUptoRow.domain false Rows.numberTellsUptoRow.laid) (((Rows.OpenSpec.upto Rows.numberTellsSpec).at F).post enc Tryd.prog Tryd.f5 false true false false) := by
  obtain ⟨places, hx⟩ := reads os enc
  refine returnsInHanded_of_row (C := Tryd.checked) (s := Rows.OpenSpec.upto Rows.numberTellsSpec) own started (by kernel_rfl) Tryd.func5
    (witness_row_at (enc := enc) (C := Tryd.checked) false (laidWorld os) #[.slice none 0 0, .slice none 0 0] rfl (by kernel_rfl) (by kernel_rfl) (by kernel_rfl)
      (OpenSpec.preRow_of_cond 8 hx (by kernel_rfl) (fun k hk => by cases hk; kernel_rfl) (by kernel_rfl) (laid_met os))) ?_
  intro W base args ds gs before hval hW _ hcond _ hL _ _
  exact contract H enc W base args ds gs before hval hW (hcond _ rfl) hL
theorem over : Rows.numberTellsUptoRow.holds Tryd.pinned (Rows.OpenSpec.upto Rows.numberTellsSpec) :=
  OpenClaim.holds_of_cond 5 Tryd.f5 rfl rfl rfl rfl rfl rfl rfl ⟨rfl, rfl, rfl, rfl, rfl⟩ rfl rfl rfl rfl rfl (by kernel_rfl) Tryd.func5 (by kernel_rfl)
    (of_decide_eq_true (by kernel_rfl)) (by unfold Func.isWrapper; first | (rw [if_pos (by decide +kernel)]; kernel_rfl) | (rw [if_neg (by decide +kernel)]; exact ⟨rfl, rfl⟩))
    (fun os started H enc _ F => by rw [OpenClaim.pre_eq_preRow]; exact lifted os started H enc F)
/-- No parameter wants a stand-in; the program's own looks are off. -/
theorem plainly (f : FuncId) (fn : Func) (hf : Tryd.pinned.checked.prog.funcNamed "emendation/emendationlaw15.NumberTells" = some f) (hfn : Tryd.pinned.checked.prog.funcs[f]? = some fn) :
    false = Tryd.pinned.checked.prog.looks [] ∧ ∀ (j : Nat) t, fn.params[j]? = some t → Tryd.pinned.checked.prog.wantsStandIn t = false := by
  obtain rfl : f = 5 := Option.some.inj ((show Tryd.prog.funcNamed "emendation/emendationlaw15.NumberTells" = some 5 by kernel_rfl).symm.trans hf) |>.symm
  obtain rfl : fn = Tryd.f5 := (Option.some.inj (Tryd.func5.symm.trans hfn)).symm
  refine ⟨by kernel_rfl, fun j t ht => ?_⟩
  rw [Tryd.params5] at ht
  have hm := Array.mem_of_getElem? ht
  simp only [List.mem_toArray, List.mem_cons, List.not_mem_nil, or_false] at hm
  rcases hm with rfl | rfl
  · exact (show Tryd.prog.wantsStandIn 24 = false by kernel_rfl)
  · exact (show Tryd.prog.wantsStandIn 24 = false by kernel_rfl)
theorem cardUpto : Rows.NumberTellsUptoCardSaid :=
  Claim7.holds_tied_plain_at .later [] _ _ _ _ over (fun _ h => by cases h) (by kernel_rfl) (fun _ h => by cases h) numberTellsUpto_row_tie rfl ⟨rfl, rfl⟩ (by kernel_rfl) rfl plainly (by kernel_rfl)
end Go.Proofs.YtobncidpdodaiaaDoor.numberTells
namespace Go.Proofs.YtobncidpdodaiaaDoor
/-- NumberTells: true for every input of bulk at most 1048576 (the tied card). -/
theorem numberTells_holds : Rows.NumberTellsUptoCardSaid := numberTells.cardUpto
#print axioms numberTells_holds
end Go.Proofs.YtobncidpdodaiaaDoor
