/- A region that draws its order, by what holds whichever of its operations have come up. No program in it. -/
import Derived.Deep.RegionHeld
import Derived.WalkKit
namespace Go.Proofs.YtobncidpdodaiaaDoor
open Go
section
variable {P : Program} {ops : Array Oper} {Q : Exit → Act → World → Prop} {md : Region.Mode}
/-- One more has come up. -/
def upd (L : Nat → Bool) (i : Nat) : Nat → Bool := fun j => if j = i then true else L j
theorem upd_same (L : Nat → Bool) (i : Nat) : upd L i i = true := by simp [upd]
theorem upd_ne (L : Nat → Bool) {i j : Nat} (h : j ≠ i) : upd L i j = L j := by simp [upd, h]
/-- What an operation waits for stands ahead of it. -/
def topoB (md : Region.Mode) (ops : Array Oper) : Bool :=
  (List.range ops.size).all fun j => match ops[j]? with
    | some o => o.after.all fun e => !Region.binds md e || decide (e.on < j)
    | none => true
theorem count_set : ∀ (l : List Bool) (i : Nat), l[i]? = some false → ((l.set i true).filter (fun b => !b)).length + 1 = (l.filter (fun b => !b)).length
  | [], i, h => by simp at h
  | b :: l, 0, h => by
    simp at h
    subst h
    simp
  | b :: l, i + 1, h => by
    have := count_set l i (by simpa using h)
    cases b <;> simp at this ⊢ <;> omega
theorem all_listed {listed : Array Bool} (ht : topoB md ops = true) (hs : listed.size = ops.size) (hr : Region.ready md ops listed = []) : ∀ i, i < ops.size → listed.getD i false = true := by
  intro i
  induction i using Nat.strongRecOn with
  | _ i ih =>
    intro hi
    cases hl : listed.getD i false with
    | true => rfl
    | false =>
      exfalso
      have ho : ops[i]? = some ops[i] := Array.getElem?_eq_getElem hi
      simp only [topoB, List.all_eq_true, List.mem_range] at ht
      have h1 := ht i hi
      simp only [ho, Array.all_eq_true_iff_forall_mem] at h1
      have hm : i ∈ Region.ready md ops listed := mem_ready.2 ⟨by
        have hi2 : i < listed.size := by omega
        have e : listed[i]? = some listed[i] := Array.getElem?_eq_getElem hi2
        simp only [Array.getD_eq_getD_getElem?, e, Option.getD_some] at hl ⊢
        exact hl, ops[i], ho, fun e he hb => by
          have h2 := h1 e he
          rw [hb] at h2
          have h3 : e.on < i := by simpa using h2
          exact ih e.on h3 (by omega)⟩
      rw [hr] at hm
      cases hm
theorem wpAny_inv {I : (Nat → Bool) → Act → World → Prop} (ht : topoB md ops = true)
    (hstep : ∀ (i : Nat) (o : Oper), ops[i]? = some o → ∀ (L : Nat → Bool) (a : Act) (w : World), L i = false → (∀ e ∈ o.after, Region.binds md e = true → L e.on = true) → I L a w →
      ∀ K : Act → World → Prop, Shut (∀ a w, I (upd L i) a w → K a w) → if Region.wanted o (yielded ops a.tmps) = true then Oper.wp P o a w K Q else K (a.put o.dst undef) w)
    (hend : ∀ (L : Nat → Bool) (a : Act) (w : World), (∀ i, i < ops.size → L i = true) → I L a w → Q .normal a w) :
    ∀ (fuel : Nat) (listed : Array Bool) (a : Act) (w : World), listed.size = ops.size → (listed.toList.filter (fun b => !b)).length ≤ fuel → I (fun j => listed.getD j false) a w → wpAny P md ops Q fuel listed a w := by
  intro fuel
  induction fuel with
  | zero =>
    intro listed a w hs hc hI
    have hall : ∀ i, i < ops.size → listed.getD i false = true := fun i hi => by
      cases hl : listed.getD i false with
      | true => rfl
      | false =>
        have hi2 : i < listed.size := by omega
        have e : listed[i]? = some listed[i] := Array.getElem?_eq_getElem hi2
        simp only [Array.getD_eq_getD_getElem?, e, Option.getD_some] at hl
        have := count_set listed.toList i (by rw [Array.getElem?_toList, e, hl])
        omega
    refine ⟨List.eq_nil_iff_forall_not_mem.2 (fun j hj => ?_), hend _ _ _ hall hI⟩
    obtain ⟨h1, o, ho, _⟩ := mem_ready.1 hj
    have h2 := hall j (Array.getElem?_eq_some_iff.1 ho).1
    have hj2 : j < listed.size := by have := (Array.getElem?_eq_some_iff.1 ho).1; omega
    have e : listed[j]? = some listed[j] := Array.getElem?_eq_getElem hj2
    simp only [Array.getD_eq_getD_getElem?, e, Option.getD_some] at h1 h2
    rw [h1] at h2
    cases h2
  | succ fuel ih =>
    intro listed a w hs hc hI
    refine ⟨fun hr => hend _ _ _ (all_listed ht hs hr) hI, fun i hi => ?_⟩
    obtain ⟨hu, o, ho, hall⟩ := mem_ready.1 hi
    have hlt := (Array.getElem?_eq_some_iff.1 ho).1
    have hi2 : i < listed.size := by omega
    have e : listed[i]? = some listed[i] := Array.getElem?_eq_getElem hi2
    have hf : listed.getD i false = false := by
      simp only [Array.getD_eq_getD_getElem?, e, Option.getD_some] at hu ⊢
      exact hu
    have hup : (fun j => (listed.setIfInBounds i true).getD j false) = upd (fun j => listed.getD j false) i := by
      funext j
      unfold upd
      by_cases hj : j = i
      · subst hj
        simp [hs, hlt]
      · rw [if_neg hj]
        simp [Ne.symm hj]
    refine wpOp_step ho (fun K' hK => ?_)
    refine hstep i o ho (fun j => listed.getD j false) a w hf hall hI K' (fun a' w' hI' => hK a' w' (ih _ _ _ (by simpa using hs) ?_ (by rw [hup]; exact hI')))
    have hc2 := count_set listed.toList i (by
      rw [Array.getElem?_toList, e]
      simp only [Array.getD_eq_getD_getElem?, e, Option.getD_some] at hf
      rw [hf])
    rw [Array.toList_setIfInBounds]
    omega
/-- The whole region. -/
theorem wp_region_inv {id : Nat} {a0 : Act} {w0 : World} (I : Act → (Nat → Bool) → Act → World → Prop) (hm : P.follows .mixedOrders = true) (ht : topoB .any ops = true) (h0 : I a0 (fun _ => false) a0 w0.drew)
    (hstep : ∀ (i : Nat) (o : Oper), ops[i]? = some o → ∀ (L : Nat → Bool) (a : Act) (w : World), L i = false → (∀ e ∈ o.after, Region.binds .any e = true → L e.on = true) → I a0 L a w →
      ∀ K : Act → World → Prop, Shut (∀ a w, I a0 (upd L i) a w → K a w) → if Region.wanted o (yielded ops a.tmps) = true then Oper.wp P o a w K Q else K (a.put o.dst undef) w)
    (hend : ∀ (L : Nat → Bool) (a : Act) (w : World), (∀ i, i < ops.size → L i = true) → I a0 L a w → Q .normal a w) : (Code.region id ops true).wp P Q a0 w0 := by
  refine wp_region_any hm ?_
  refine wpAny_inv ht hstep hend ops.size _ a0 w0.drew (by simp) (by
    refine Nat.le_trans (List.length_filter_le _ _) ?_
    simp) ?_
  have e : (fun j => (Array.replicate ops.size false).getD j false) = fun _ => false := by
    funext j
    simp only [Array.getD_eq_getD_getElem?]
    by_cases h : j < ops.size
    · simp [h]
    · simp [h]
  rw [e]
  exact h0
end
end Go.Proofs.YtobncidpdodaiaaDoor
