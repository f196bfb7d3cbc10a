/- A table of texts: a map of texts that the call has made, and what it says. No program in it. -/
import Derived.Test.YtjglehhkaeckmaaGreatDoorIdsP
import Derived.Maps.OwnOps
import Derived.Maps.OwnSet
import Derived.Maps.StringElems
import Derived.Sort.KeysCollected
namespace Go.Proofs.YtjglehhkaeckmaaGreatDoor
open Go Go.Maps Go.Sort
set_option linter.all false
set_option linter.deprecated false
abbrev Bs := List UInt8
/-- Entries, the first of a label counts. -/
def find (ds : List (Bs × Bs)) (k : Bs) : Option Bs := (ds.find? fun p => p.1 == k).map (·.2)
theorem find_nil (k : Bs) : find [] k = none := rfl
theorem find_cons (p : Bs × Bs) (ds : List (Bs × Bs)) (k : Bs) : find (p :: ds) k = if p.1 = k then some p.2 else find ds k := by
  unfold find
  rw [List.find?_cons]
  by_cases h : p.1 = k
  · simp [h]
  · have : (p.1 == k) = false := by simp [h]
    simp [this, h]
theorem find_append (a b : List (Bs × Bs)) (k : Bs) : find (a ++ b) k = (find a k).or (find b k) := by
  unfold find
  rw [List.find?_append]
  cases List.find? (fun p => p.1 == k) a <;> simp
theorem find_none {ds : List (Bs × Bs)} {k : Bs} : find ds k = none ↔ k ∉ ds.map (·.1) := by
  unfold find
  rw [Option.map_eq_none_iff, List.find?_eq_none]
  simp only [List.mem_map, not_exists, not_and]
  constructor
  · intro h p hp e; exact h p hp (by simp [e])
  · intro h p hp e; exact h p hp (by simpa using e)
theorem find_isSome {ds : List (Bs × Bs)} {k : Bs} : (find ds k).isSome = true ↔ k ∈ ds.map (·.1) := by
  cases h : find ds k with
  | none => simp only [Option.isSome_none, Bool.false_eq_true, false_iff]; exact find_none.1 h
  | some v =>
    simp only [Option.isSome_some, true_iff]
    exact Classical.byContradiction fun hn => by rw [find_none.2 hn] at h; cases h
/-- The map reads as the entries say. -/
structure Tab (ds : List (Bs × Bs)) (D : DataW Unit) : Prop where
  m : IsMap D
  has : ∀ k, Maps.has D (.string k) = (find ds k).isSome
  at' : ∀ k v, find ds k = some v → D.atKey (.string k) (.lit (.string [])) = .lit (.string v)
theorem Tab.nil : Tab [] (.map []) := ⟨⟨_, rfl⟩, fun k => rfl, fun k v h => by cases h⟩
theorem Tab.add {ds : List (Bs × Bs)} {D : DataW Unit} (h : Tab ds D) {k : Bs} (hk : find ds k = none) (v : Bs) : Tab (ds ++ [(k, v)]) (D.put (.string k) (.lit (.string v))) := by
  have hl : WideAt.IsKeyLit (.string k) := trivial
  have hf : ∀ k', find (ds ++ [(k, v)]) k' = if k = k' then some v else find ds k' := fun k' => by
    rw [find_append, find_cons, find_nil]
    by_cases e : k = k'
    · subst e; rw [hk]; simp
    · simp [e]
  refine ⟨h.m.put _ _, fun k' => ?_, fun k' v' hv => ?_⟩
  · rw [hf]
    by_cases e : k = k'
    · subst e; rw [has_put_same h.m hl]; simp
    · rw [has_put_other (fun e' => e (by injection e' with e'; exact e'.symm)), h.has, if_neg e]
  · rw [hf] at hv
    by_cases e : k = k'
    · subst e; rw [if_pos rfl] at hv; cases hv; exact atKey_put_same h.m hl _ _
    · rw [if_neg e] at hv; rw [atKey_put_other (fun e' => e (by injection e' with e'; exact e'.symm))]; exact h.at' _ _ hv
theorem Tab.same {ds : List (Bs × Bs)} {D : DataW Unit} (h : Tab ds D) {k v0 : Bs} (hk : find ds k = some v0) (v : Bs) : Tab (ds ++ [(k, v)]) D := by
  have hf : ∀ k', find (ds ++ [(k, v)]) k' = find ds k' := fun k' => by
    rw [find_append, find_cons, find_nil]
    by_cases e : k = k'
    · subst e; rw [hk]; rfl
    · simp [e]
  exact ⟨h.m, fun k' => by rw [hf]; exact h.has k', fun k' v' hv => by rw [hf] at hv; exact h.at' _ _ hv⟩
theorem Tab.none {ds : List (Bs × Bs)} {D : DataW Unit} (h : Tab ds D) {k : Bs} (hk : find ds k = none) (z : DataW Unit) : D.atKey (.string k) z = z :=
  atKey_of_not_has (by rw [h.has k, hk]; rfl) z
/-- Each of some texts once, in their order. -/
def uniqL (l : List Bs) : List Bs := Lib.compact (l.mergeSort fun x y => decide (x ≤ y))
theorem uniqL_spec (l : List Bs) : (uniqL l).Pairwise (· < ·) ∧ (∀ x, x ∈ uniqL l ↔ x ∈ l) ∧ (uniqL l).length ≤ l.length := by
  unfold uniqL Lib.compact
  generalize hl : l.mergeSort (fun x y => decide (x ≤ y)) = m
  have hp : m.Perm l := hl ▸ List.mergeSort_perm _ _
  have hsd : m.Pairwise (fun a b => decide (a ≤ b) = true) := hl ▸ List.pairwise_mergeSort (fun a b c h1 h2 => by simp only [decide_eq_true_eq] at *; exact List.le_trans h1 h2) (fun a b => by simp only [Bool.or_eq_true, decide_eq_true_eq]; exact List.le_total a b) _
  have hs : ∀ i j, i ≤ j → j < m.toArray.size → m.toArray[i]! ≤ m.toArray[j]! := by
    intro i j hij hj
    simp only [List.size_toArray] at hj
    rw [getElem!_pos m.toArray i (by simp; omega), getElem!_pos m.toArray j (by simpa using hj)]
    simp only [List.getElem_toArray]
    rcases Nat.lt_or_ge i j with h | h
    · have := List.pairwise_iff_getElem.1 hsd i j (by omega) hj h
      simpa using this
    · have : i = j := by omega
      subst this
      exact List.not_lt.1 (List.lt_irrefl _)
  obtain ⟨h1, h2, h3⟩ := compact_rises m.toArray hs m.length (by simp)
  refine ⟨h1, fun x => ⟨fun hx => ?_, fun hx => ?_⟩, ?_⟩
  · obtain ⟨j, hj, rfl⟩ := h2 x hx
    rw [getElem!_pos m.toArray j (by simpa using hj)]
    simp only [List.getElem_toArray]
    exact hp.mem_iff.1 (List.getElem_mem _)
  · obtain ⟨j, hj, e⟩ := List.mem_iff_getElem.1 (hp.mem_iff.2 hx)
    have := h3 j hj
    rw [getElem!_pos m.toArray j (by simpa using hj)] at this
    simp only [List.getElem_toArray] at this
    rw [← e]; exact this
  · have := Lib.compact_length_le m
    unfold Lib.compact at this
    exact Nat.le_trans this (by rw [hp.length_eq]; exact Nat.le_refl _)
theorem uniqL_nodup (l : List Bs) : (uniqL l).Nodup := by
  have h := (uniqL_spec l).1
  unfold List.Nodup
  refine List.Pairwise.imp ?_ h
  intro a b hab e
  subst e
  exact List.lt_irrefl _ hab
theorem uniqL_sort (l : List Bs) : (uniqL l).mergeSort (fun x y => decide (x ≤ y)) = uniqL l := by
  apply List.mergeSort_of_pairwise
  exact (uniqL_spec l).1.imp (fun h => by simp only [decide_eq_true_eq]; exact List.le_of_lt h)
/-- What slices.Sorted(maps.Keys(..)) of a table gives: its labels, each once, in their order. -/
theorem sorted_keys {P : Program} {k : TypeId} {R : Value → Option (DataW Unit × List MemPlace)} {w : World} {b n : Nat} {D : DataW Unit} {ds : List (Bs × Bs)} (hown : w.ownsMap P k R b n D) (K : Keyed P k) (hk : P.underlying k = some .string) (h : Tab ds D)
    {ss : List Bs} (hp : ss.Perm (strKeys D)) : ss.mergeSort (fun x y => decide (x ≤ y)) = uniqL (ds.map (·.1)) := by
  obtain ⟨es, hD, hpw, _⟩ := hown.entries K
  obtain ⟨es', hD', hko⟩ := hown.keysOf
  obtain rfl : es = es' := by rw [hD] at hD'; simpa using hD'
  subst hD
  have hst : ∀ p ∈ es, ∃ x, p.1 = .string x := fun p hp => by obtain ⟨v, hv⟩ := hko p hp; obtain ⟨x, _, hx, _⟩ := Maps.keyOf_str hk hv; exact ⟨x, hx⟩
  have hq : (uniqL (ds.map (·.1))).Perm (strKeys (.map es)) := perm_strKeys hpw hst (uniqL_nodup _) (fun x => by
    rw [(uniqL_spec _).2.1, ← find_isSome, ← h.has])
  rw [mergeSort_of_perm (hp.trans hq.symm)]
  exact uniqL_sort _
theorem tab_size {D : DataW Unit} {P : Program} {k : TypeId} {R : Value → Option (DataW Unit × List MemPlace)} {w : World} {b n : Nat} (hown : w.ownsMap P k R b n D) : Maps.size D ≤ n := by
  obtain ⟨es, clock, _, F, hs, rfl⟩ := hown
  simp only [Maps.size]
  rw [length_sorted]
  simpa using hs
/-- A look-up of a text, with 'ok'. -/
theorem wpList_lookup_own_ok_str {P : Program} (w : World) {ops : Array Oper} {rest : List Oper} {o : Oper} {a : Act} {Q : Exit → Act → World → Prop}
    (hg : o.guard = none) (m x : Operand) (t : TypeId) (hop : o.op = Op.lookup t m x true)
    (k e : TypeId) (K : Keyed P k) (ht : P.underlying t = some (.map k e)) (he : P.underlying e = some .string) (hz : (zeroValue e).run P w = .ok (.string ByteArray.empty) w) (b n : Nat) (D : DataW Unit)
    (hm : a.eval m = .map (some b)) (hown : w.ownsMap P k (plainElem P e) b n D) (key : Value) (kl : Lit) (hx : a.eval x = key) (hkey : keyOf P k key = some kl)
    (hK : ∀ c : ByteArray, D.atKey kl (.lit (.string [])) = .lit (.string c.data.toList) → wpList P ops Q rest (a.put o.dst (.tuple #[.string c, .bool (Maps.has D kl)])) w) :
    wpList P ops Q (o :: rest) a w :=
  wpList_lookup_own_ok w hg m x t hop k e K ht (plainElem P e) hz (.lit (.string [])) [] (plainElem_string he (by decide)) b n D hm hown key kl hx hkey (fun v ps hv => by
    obtain ⟨c, rfl, hc, _⟩ := plainElem_string_inv he hv
    simp only [Prod.mk.injEq] at hc
    exact hK c hc.1)
end Go.Proofs.YtjglehhkaeckmaaGreatDoor
