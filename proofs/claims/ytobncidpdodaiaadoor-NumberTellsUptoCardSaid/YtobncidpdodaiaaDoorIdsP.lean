/- A number for each text of some lists: plain functions, no program in sight. -/
import Derived.Sort.OwnSorted
import Derived.Lib.SlicesCompact
import Derived.Lib.RowBridge
import Derived.WideShapes
import Derived.Shelf.Spec.SearchS
namespace Go.Proofs.YtobncidpdodaiaaDoor
open Go
set_option linter.unusedVariables false

theorem lt_of_le_ne {x y : List UInt8} (h : x ≤ y) (hn : x ≠ y) : x < y := by
  by_cases h1 : x < y
  · exact h1
  · exact absurd (List.le_antisymm h (List.not_lt.1 h1)) hn
/-- Each text once, in their order. -/
def uniq (all : List ByteArray) : List (List UInt8) := Lib.compact ((all.map (·.data.toList)).mergeSort fun x y => decide (x ≤ y))
theorem compact_rises (d : Array (List UInt8)) (hs : ∀ i j, i ≤ j → j < d.size → d[i]! ≤ d[j]!) : ∀ m, m ≤ d.size →
    (Lib.compactUpTo d m).Pairwise (· < ·) ∧ (∀ x ∈ Lib.compactUpTo d m, ∃ j, j < m ∧ x = d[j]!) ∧ (∀ j, j < m → d[j]! ∈ Lib.compactUpTo d m) := by
  intro m
  induction m with
  | zero => intro _; simp [Lib.compactUpTo]
  | succ m ih =>
    intro hm
    obtain ⟨h1, h2, h3⟩ := ih (by omega)
    rw [Lib.compactUpTo_succ]
    by_cases hk : Lib.keeps d m = true
    · rw [if_pos hk]
      refine ⟨?_, ?_, ?_⟩
      · rw [List.pairwise_append]
        refine ⟨h1, by simp, fun x hx y hy => ?_⟩
        rw [List.mem_singleton] at hy
        subst hy
        obtain ⟨j, hj, rfl⟩ := h2 x hx
        have hne : d[m]! ≠ d[m - 1]! := by
          simp only [Lib.keeps, decide_eq_true_eq] at hk
          exact hk.resolve_left (by omega)
        exact List.lt_of_le_of_lt (hs j (m - 1) (by omega) (by omega)) (lt_of_le_ne (hs (m - 1) m (by omega) (by omega)) (Ne.symm hne))
      · intro x hx
        rcases List.mem_append.1 hx with hx | hx
        · obtain ⟨j, hj, e⟩ := h2 x hx; exact ⟨j, by omega, e⟩
        · exact ⟨m, by omega, by simpa using hx⟩
      · intro j hj
        rw [List.mem_append]
        by_cases e : j = m
        · subst e; exact .inr (by simp)
        · exact .inl (h3 j (by omega))
    · rw [if_neg hk, List.append_nil]
      have hk' : ¬ (m = 0 ∨ d[m]! ≠ d[m - 1]!) := by simpa [Lib.keeps] using hk
      have h0 : m ≠ 0 := fun e => hk' (.inl e)
      have he : d[m]! = d[m - 1]! := Classical.byContradiction fun e => hk' (.inr e)
      refine ⟨h1, fun x hx => ?_, fun j hj => ?_⟩
      · obtain ⟨j, hj, e⟩ := h2 x hx; exact ⟨j, by omega, e⟩
      · by_cases e : j = m
        · subst e; rw [he]; exact h3 _ (by omega)
        · exact h3 j (by omega)
theorem uniq_spec (all : List ByteArray) : (uniq all).Pairwise (· < ·) ∧ (∀ s ∈ all, s.data.toList ∈ uniq all) ∧ (uniq all).length ≤ all.length := by
  unfold uniq Lib.compact
  generalize hl : (all.map (·.data.toList)).mergeSort (fun x y => decide (x ≤ y)) = l
  have hp : l.Perm (all.map (·.data.toList)) := hl ▸ List.mergeSort_perm _ _
  have hsd : l.Pairwise (fun a b => decide (a ≤ b) = true) := hl ▸ List.pairwise_mergeSort (fun a b c h1 h2 => by simp only [decide_eq_true_eq] at *; exact List.le_trans h1 h2) (fun a b => by simp only [Bool.or_eq_true, decide_eq_true_eq]; exact List.le_total a b) _
  have hs : ∀ i j, i ≤ j → j < l.toArray.size → l.toArray[i]! ≤ l.toArray[j]! := by
    intro i j hij hj
    simp only [List.size_toArray] at hj
    rw [getElem!_pos l.toArray i (by simp; omega), getElem!_pos l.toArray j (by simpa using hj)]
    simp only [List.getElem_toArray]
    rcases Nat.lt_or_ge i j with h | h
    · have := List.pairwise_iff_getElem.1 hsd i j (by omega) hj h
      simpa using this
    · have : i = j := by omega
      subst this
      exact List.not_lt.1 (List.lt_irrefl _)
  obtain ⟨h1, h2, h3⟩ := compact_rises l.toArray hs l.length (by simp)
  refine ⟨h1, fun s hsm => ?_, ?_⟩
  · have hm : s.data.toList ∈ l := hp.mem_iff.2 (List.mem_map.2 ⟨s, hsm, rfl⟩)
    obtain ⟨j, hj, e⟩ := List.mem_iff_getElem.1 hm
    have := h3 j hj
    rw [getElem!_pos l.toArray j (by simpa using hj)] at this
    simp only [List.getElem_toArray] at this
    rw [← e]; exact this
  · have := Lib.compact_length_le l
    unfold Lib.compact at this
    exact Nat.le_trans this (by rw [hp.length_eq, List.length_map]; exact Nat.le_refl _)
/-- The number of a text. -/
def idOf (all : List ByteArray) (s : ByteArray) : Nat := Lib.bsGo (fun t => decide ((uniq all).getD t s.data.toList < s.data.toList)) (uniq all).length 0 (uniq all).length
theorem idOf_spec {all : List ByteArray} {s : ByteArray} (hs : s ∈ all) : (uniq all)[idOf all s]? = some s.data.toList := by
  obtain ⟨h1, h2, _⟩ := uniq_spec all
  obtain ⟨k, hk, e⟩ := List.mem_iff_getElem.1 (h2 s hs)
  have : idOf all s = k := by
    unfold idOf
    refine Lib.bsGo_spec _ k (fun t ht => ?_) (fun t ht => ?_) _ 0 _ (by omega) (Nat.zero_le _) (by omega)
    · have := List.pairwise_iff_getElem.1 h1 t k (by omega) hk ht
      rw [e] at this
      rw [List.getD_eq_getElem?_getD, List.getElem?_eq_getElem (by omega)]
      exact decide_eq_true this
    · refine decide_eq_false (fun hlt => ?_)
      rcases Nat.lt_or_ge t (uniq all).length with h | h
      · rw [List.getD_eq_getElem?_getD, List.getElem?_eq_getElem h] at hlt
        simp only [Option.getD_some] at hlt
        rcases Nat.eq_or_lt_of_le ht with e' | h'
        · subst e'; rw [e] at hlt; exact List.lt_irrefl _ hlt
        · have := List.pairwise_iff_getElem.1 h1 k t hk h h'
          rw [e] at this
          exact List.lt_irrefl _ (List.lt_trans hlt this)
      · rw [List.getD_eq_getElem?_getD, List.getElem?_eq_none h] at hlt
        exact List.lt_irrefl _ hlt
  rw [this, List.getElem?_eq_getElem hk, e]
theorem idOf_inj {all : List ByteArray} {s t : ByteArray} (hs : s ∈ all) (ht : t ∈ all) (h : idOf all s = idOf all t) : s = t := by
  have h1 := idOf_spec hs
  rw [h, idOf_spec ht] at h1
  have h2 := (Option.some.inj h1).symm
  exact ByteArray.ext (Array.toList_inj.1 h2)
end Go.Proofs.YtobncidpdodaiaaDoor
