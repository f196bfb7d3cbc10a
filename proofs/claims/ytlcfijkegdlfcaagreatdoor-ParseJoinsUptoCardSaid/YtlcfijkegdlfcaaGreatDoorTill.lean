/- A region that draws its order: a load is taken first although a call that waits for it writes the cell that it reads. No program in it. -/
import Derived.Deep.RegionHeld
import Derived.Test.YtlcfijkegdlfcaaGreatDoorKit2
namespace Go.Proofs.YtlcfijkegdlfcaaGreatDoor
open Go
section
variable {P : Program} {ops : Array Oper} {Q : Exit → Act → World → Prop} {md : Region.Mode} {S : World → Prop} {c : Nat}

/-- S holds till operation c has come up. -/
def Till (c : Nat) (S : World → Prop) (listed : Array Bool) (w : World) : Prop := listed.getD c false = false → S w
theorem Till.later {listed : Array Bool} {w : World} (h : Till c S listed w) (i : Nat) : Till c S (listed.setIfInBounds i true) w := fun hc => h (by
  cases hl : listed.getD c false with
  | false => rfl
  | true => rw [getD_set_true hl] at hc; cases hc)

/-- Whatever order is picked from here on, S holding till c has come up. -/
def wpAnyT (P : Program) (md : Region.Mode) (ops : Array Oper) (Q : Exit → Act → World → Prop) (c : Nat) (S : World → Prop) : Nat → Array Bool → Act → World → Prop
  | 0, listed, a, w => Region.ready md ops listed = [] ∧ Q .normal a w
  | fuel + 1, listed, a, w => (Region.ready md ops listed = [] → Q .normal a w) ∧
    ∀ i ∈ Region.ready md ops listed, wpOp P ops Q i (fun a' w' => Till c S (listed.setIfInBounds i true) w' ∧ wpAnyT P md ops Q c S fuel (listed.setIfInBounds i true) a' w') a w
theorem wpAny_of_till : ∀ (fuel : Nat) (listed : Array Bool) (a : Act) (w : World), wpAnyT P md ops Q c S fuel listed a w → wpAny P md ops Q fuel listed a w
  | 0, _, _, _, h => h
  | fuel + 1, _, _, _, h => ⟨h.1, fun i hi => wpOp_mono (fun a' w' h' => wpAny_of_till fuel _ a' w' h'.2) (h.2 i hi)⟩

/-- What has come up, its forerunners have. -/
def Closed (md : Region.Mode) (ops : Array Oper) (listed : Array Bool) : Prop := ∀ j o, ops[j]? = some o → listed.getD j false = true → ∀ e ∈ o.after, Region.binds md e = true → listed.getD e.on false = true
def closedB (md : Region.Mode) (ops : Array Oper) (listed : Array Bool) : Bool :=
  (List.range ops.size).all fun j => !listed.getD j false || match ops[j]? with
    | some o => o.after.all fun e => !Region.binds md e || listed.getD e.on false
    | none => true
theorem closed_of {listed : Array Bool} (h : closedB md ops listed = true) : Closed md ops listed := by
  intro j o ho hj e he hb
  simp only [closedB, List.all_eq_true, List.mem_range] at h
  have h1 := h j (Array.getElem?_eq_some_iff.1 ho).1
  simp only [hj, ho, Bool.not_true, Bool.false_or, Array.all_eq_true_iff_forall_mem] at h1
  have h2 := h1 e he
  rw [hb] at h2
  simpa using h2
theorem Closed.step {listed : Array Bool} (h : Closed md ops listed) {j : Nat} (hj : j ∈ Region.ready md ops listed) : Closed md ops (listed.setIfInBounds j true) := by
  intro k o ho hk e he hb
  by_cases hjk : j = k
  · subst hjk
    obtain ⟨_, o', ho', hall⟩ := mem_ready.1 hj
    rw [ho] at ho'
    cases ho'
    exact getD_set_true (hall e he hb)
  · rw [getD_set_ne false hjk] at hk
    exact getD_set_true (h k o ho hk e he hb)
/-- Operation j waits for operation i. -/
def waits (md : Region.Mode) (ops : Array Oper) : Nat → Nat → Nat → Bool
  | 0, j, i => j == i
  | f + 1, j, i => j == i || match ops[j]? with
    | some o => o.after.any fun e => Region.binds md e && waits md ops f e.on i
    | none => false
theorem waits_listed {listed : Array Bool} (h : Closed md ops listed) {i : Nat} : ∀ (f j : Nat), waits md ops f j i = true → listed.getD j false = true → listed.getD i false = true
  | 0, j, hw, hj => by
    have : j = i := by simpa [waits] using hw
    exact this ▸ hj
  | f + 1, j, hw, hj => by
    rw [waits, Bool.or_eq_true] at hw
    rcases hw with hw | hw
    · have : j = i := by simpa using hw
      exact this ▸ hj
    · split at hw
      · rename_i o ho
        obtain ⟨k, hk, h1⟩ := Array.any_eq_true.1 hw
        rw [Bool.and_eq_true] at h1
        exact waits_listed h f _ h1.2 (h j o ho hj _ (Array.getElem_mem hk) h1.1)
      · cases hw
theorem unlisted {i : Nat} {listed : Array Bool} (h : i ∈ Region.ready md ops listed) : listed.getD i false = false := by
  have h0 := (mem_ready.1 h).1
  rcases Nat.lt_or_ge i listed.size with h' | h'
  · simpa [h'] using h0
  · simp [h'] at h0

theorem wpAnyT_first {i : Nat} {oi : Oper} {v : Value} {T : World → Prop} (hi : ops[i]? = some oi) (hci : c ≠ i) (hsel : ∀ (j : Nat) (o : Oper) cs b, ops[j]? = some o → o.op ≠ .select cs b)
    (hQ : ∀ c a w, Q (.panic c) (a.put oi.dst v) w → Q (.panic c) a w)
    (hT : ∀ (listed : Array Bool) (w : World), Closed md ops listed → listed.getD i false = false → Till c S listed w → T w) :
    ∀ (fuel : Nat) (listed : Array Bool) (a : Act) (w : World),
      (∀ j oj, ops[j]? = some oj → j ≠ i → listed.getD j true = false → (∀ e ∈ oj.after, Region.binds md e = true → e.on ≠ i) → oi.apart ops oj = true) →
      i ∈ Region.ready md ops listed → Closed md ops listed → YieldsIf P ops T oi v a → Till c S listed w →
      wpAnyT P md ops Q c S fuel (listed.setIfInBounds i true) (a.put oi.dst v) w → wpAnyT P md ops Q c S (fuel + 1) listed a w := by
  intro fuel
  induction fuel with
  | zero =>
    intro listed a w _ hr hcl hy hS H
    refine ⟨fun h => (by rw [h] at hr; cases hr), fun j hj => ?_⟩
    by_cases hji : j = i
    · subst hji; exact hy.wpOp hi (hT listed w hcl (unlisted hr) hS) ⟨hS.later j, H⟩
    · have := ready_mono hj hji
      rw [H.1] at this
      cases this
  | succ fuel ih =>
    intro listed a w hfree hr hcl hy hS H
    refine ⟨fun h => (by rw [h] at hr; cases hr), fun j hj => ?_⟩
    by_cases hji : j = i
    · subst hji; exact hy.wpOp hi (hT listed w hcl (unlisted hr) hS) ⟨hS.later j, H⟩
    · have h1 := H.2 j (ready_mono hj hji)
      obtain ⟨hjun, oj, hoj, hall⟩ := mem_ready.1 hj
      have hnot : ∀ e ∈ oj.after, Region.binds md e = true → e.on ≠ i := fun e he hb heq => by
        have h2 := hall e he hb
        rw [heq, unlisted hr] at h2
        cases h2
      have h2 := wpOp_putIf hoj (hfree j oj hoj hji hjun hnot) (fun cs b => hsel i oi cs b hi) (fun cs b => hsel j oj cs b hoj) hQ hy h1
      refine wpOp_mono (fun a' w' h3 => ?_) h2
      have ht : Till c S (listed.setIfInBounds j true) w' := fun hc => h3.2.1 (by rw [Array.setIfInBounds_comm _ _ (Ne.symm hji), getD_set_ne false (Ne.symm hci)]; exact hc)
      refine ⟨ht, ih (listed.setIfInBounds j true) a' w' (fun k ok hk hki hun hno => hfree k ok hk hki ?_ hno) (ready_mono hr (Ne.symm hji)) (hcl.step hj) h3.1 ht ?_⟩
      · by_cases hjk : j = k
        · subst hjk; exact hjun
        · rwa [getD_set_ne true hjk] at hun
      · rw [Array.setIfInBounds_comm _ _ hji]
        exact h3.2.2

/-- Take number i first: it yields v in every world that meets S, and c waits for it. -/
theorem wpAnyT_load {i : Nat} {oi : Oper} {v : Value} {fuel : Nat} {listed : Array Bool} {a : Act} {w : World} (f : Nat) (hi : ops[i]? = some oi)
    (hb : (Region.noSelect ops && Region.free md ops listed i && (Region.ready md ops listed).contains i && closedB md ops listed && waits md ops f c i && !(c == i)) = true)
    (hQ : ∀ c a w, Q (.panic c) (a.put oi.dst v) w → Q (.panic c) a w) (hy : YieldsIf P ops S oi v a) (hS : Till c S listed w)
    (h : Till c S (listed.setIfInBounds i true) w → wpAnyT P md ops Q c S fuel (listed.setIfInBounds i true) (a.put oi.dst v) w) : wpAnyT P md ops Q c S (fuel + 1) listed a w := by
  simp only [Bool.and_eq_true, Bool.not_eq_true', beq_eq_false_iff_ne] at hb
  obtain ⟨⟨⟨⟨⟨h1, h2⟩, h3⟩, h4⟩, h5⟩, h6⟩ := hb
  exact wpAnyT_first hi h6 (Region.noSelect_spec h1) hQ (fun l w' hcl hun ht => ht (by
    cases hl : l.getD c false with
    | false => rfl
    | true => rw [waits_listed hcl f c h5 hl] at hun; cases hun)) fuel listed a w (Region.free_spec hi h2) (by simpa using h3) (closed_of h4) hy hS (h (hS.later i))
/-- Take number i first: it yields v in whatever world. -/
theorem wpAnyT_take {i : Nat} {oi : Oper} {v : Value} {fuel : Nat} {listed : Array Bool} {a : Act} {w : World} (hi : ops[i]? = some oi)
    (hb : (Region.noSelect ops && Region.free md ops listed i && (Region.ready md ops listed).contains i && closedB md ops listed && !(c == i)) = true)
    (hQ : ∀ c a w, Q (.panic c) (a.put oi.dst v) w → Q (.panic c) a w) (hy : YieldsIf P ops (fun _ => True) oi v a) (hS : Till c S listed w)
    (h : Till c S (listed.setIfInBounds i true) w → wpAnyT P md ops Q c S fuel (listed.setIfInBounds i true) (a.put oi.dst v) w) : wpAnyT P md ops Q c S (fuel + 1) listed a w := by
  simp only [Bool.and_eq_true, Bool.not_eq_true', beq_eq_false_iff_ne] at hb
  obtain ⟨⟨⟨⟨h1, h2⟩, h3⟩, h4⟩, h6⟩ := hb
  exact wpAnyT_first hi h6 (Region.noSelect_spec h1) hQ (fun _ _ _ _ _ => trivial) fuel listed a w (Region.free_spec hi h2) (by simpa using h3) (closed_of h4) hy hS (h (hS.later i))
/-- All have come up. -/
theorem wpAnyT_done {listed : Array Bool} {a : Act} {w : World} (hr : Region.ready md ops listed = []) (h : Q .normal a w) : ∀ fuel, wpAnyT P md ops Q c S fuel listed a w
  | 0 => ⟨hr, h⟩
  | _ + 1 => ⟨fun _ => h, by rw [hr]; simp⟩
/-- One of some comes up. -/
def ReadyT (P : Program) (md : Region.Mode) (ops : Array Oper) (Q : Exit → Act → World → Prop) (c : Nat) (S : World → Prop) (fuel : Nat) (listed : Array Bool) (a : Act) (w : World) (rs : List Nat) : Prop :=
  ∀ i ∈ rs, wpOp P ops Q i (fun a' w' => Till c S (listed.setIfInBounds i true) w' ∧ wpAnyT P md ops Q c S fuel (listed.setIfInBounds i true) a' w') a w
theorem ReadyT.nil {fuel : Nat} {listed : Array Bool} {a : Act} {w : World} : ReadyT P md ops Q c S fuel listed a w [] := fun _ h => by cases h
theorem ReadyT.cons {fuel : Nat} {listed : Array Bool} {a : Act} {w : World} {i : Nat} {o : Oper} {rs : List Nat} (ho : ops[i]? = some o)
    (h : ∀ K' : Act → World → Prop, Shut (∀ a w, Till c S (listed.setIfInBounds i true) w → (Till c S (listed.setIfInBounds i true) w → wpAnyT P md ops Q c S fuel (listed.setIfInBounds i true) a w) → K' a w) →
      if Region.wanted o (yielded ops a.tmps) = true then Oper.wp P o a w K' Q else K' (a.put o.dst undef) w)
    (hs : ReadyT P md ops Q c S fuel listed a w rs) : ReadyT P md ops Q c S fuel listed a w (i :: rs) := fun j hj => by
  rcases List.mem_cons.1 hj with rfl | hj
  · exact wpOp_step ho (fun K' hK => h K' (fun a w hS hW => hK a w ⟨hS, hW hS⟩))
  · exact hs j hj
theorem wpAnyT_ready {rs : List Nat} {fuel : Nat} {listed : Array Bool} {a : Act} {w : World} (hr : Region.ready md ops listed = rs) (hne : rs ≠ [])
    (h : ReadyT P md ops Q c S fuel listed a w rs) : wpAnyT P md ops Q c S (fuel + 1) listed a w := ⟨fun h0 => absurd (hr ▸ h0) hne, hr ▸ h⟩
/-- The beginning. -/
theorem wp_region_till {id : Nat} {a : Act} {w : World} (c : Nat) (S : World → Prop) (hm : P.follows .mixedOrders = true) (hS : S w.drew)
    (h : Till c S (Array.replicate ops.size false) w.drew → wpAnyT P .any ops Q c S ops.size (Array.replicate ops.size false) a w.drew) : (Code.region id ops true).wp P Q a w :=
  wp_region_any hm (wpAny_of_till _ _ _ _ (h (fun _ => hS)))
end
section
open Go.RowKit
theorem grown_of_drew {w w' : World} {o : Option Nat} (h : w.drew.grownBy w' o) : w.grownBy w' o := ⟨h.os, h.tape, h.output, h.size, h.block⟩
theorem grown_set {w w' : World} {o : Option Nat} (h : w.grownBy w' o) {p : Addr} (hk : w.heap.size ≤ p.block) (v : Value) : w.grownBy (w'.setCell p v) o :=
  ⟨h.os, h.tape, h.output, by simp only [World.setCell]; simpa using h.size, fun k hlt hne => (Below.heap_setCell w' p v k (by omega)).trans (h.block k hlt hne)⟩
theorem own_same {w w' : World} {base e size n : Nat} {v : Value} {xs : List Value} (h : w.ownsRow base e size v n xs) (hm : ∀ g, v.ownBlock = some g → w'.heap[g]? = w.heap[g]?) : w'.ownsRow base e size v n xs := by
  obtain ⟨h1, h2⟩ := h
  refine ⟨h1, ?_⟩
  rcases h2 with h2 | ⟨g', cap, cur, rfl, hb, hg, r⟩
  · exact .inl h2
  · exact .inr ⟨g', cap, cur, rfl, hb, (hm g' rfl).trans hg, r⟩
theorem own_grown {w w' : World} {base e size n b : Nat} {v : Value} {xs : List Value} (h : w.ownsRow base e size v n xs) (hg : w.grownBy w' (some b)) (hb : b < base) : w'.ownsRow base e size v n xs :=
  own_same h (fun g hv => hg.block g (h.lt g hv).2 (fun e => by have := (h.lt g hv).1; injection e with e; omega))
theorem own_set {w : World} {base e size n : Nat} {v x : Value} {xs : List Value} {p : Addr} (h : w.ownsRow base e size v n xs) (hp : ∀ g, v.ownBlock = some g → g ≠ p.block) : (w.setCell p x).ownsRow base e size v n xs :=
  own_same h (fun g hv => Below.heap_setCell w p x g (hp g hv))
theorem below_grown {n b : Nat} {w w1 w2 : World} (h : Below n w w1) (hg : w1.grownBy w2 (some b)) (hb : n ≤ b) (hn : n ≤ w1.heap.size) : Below n w w2 :=
  ⟨hg.os.trans h.os, hg.tape.trans h.tape, hg.output.trans h.output, Nat.le_trans h.size hg.size, fun k hk => (hg.block k (by omega) (fun e => by injection e with e; omega)).trans (h.block k hk)⟩
end
end Go.Proofs.YtlcfijkegdlfcaaGreatDoor
