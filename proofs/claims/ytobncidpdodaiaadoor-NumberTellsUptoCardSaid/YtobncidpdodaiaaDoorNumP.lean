/- Numbers of texts in another order, and how alike two lists, two blocks are: no program in it. -/
import Derived.Test.YtobncidpdodaiaaDoorIdsP
import Derived.Test.YtobncidpdodaiaaDoorPlcs
import Derived.Test.YtobncidpdodaiaaDoorKeyP
import Derived.Test.YtobncidpdodaiaaDoorSameP
namespace Go.Proofs.YtobncidpdodaiaaDoor
open Go
set_option linter.all false
set_option linter.deprecated false
theorem rise_same : ∀ {a b : List (List UInt8)}, a.Pairwise (· < ·) → b.Pairwise (· < ·) → (∀ x, x ∈ a ↔ x ∈ b) → a = b
  | [], [], _, _, _ => rfl
  | [], y :: b, _, _, h => absurd ((h y).2 (by simp)) (by simp)
  | x :: a, [], _, _, h => absurd ((h x).1 (by simp)) (by simp)
  | x :: a, y :: b, ha, hb, h => by
    rw [List.pairwise_cons] at ha hb
    have e : x = y := by
      rcases List.mem_cons.1 ((h x).1 (by simp)) with e | hx
      · exact e
      · rcases List.mem_cons.1 ((h y).2 (by simp)) with e | hy
        · exact e.symm
        · exact absurd (List.lt_trans (ha.1 y hy) (hb.1 x hx)) (List.lt_irrefl x)
    subst e
    have := rise_same ha.2 hb.2 (fun z => by
      constructor
      · intro hz
        rcases List.mem_cons.1 ((h z).1 (by simp [hz])) with e | hz'
        · subst e; exact absurd (ha.1 _ hz) (List.lt_irrefl _)
        · exact hz'
      · intro hz
        rcases List.mem_cons.1 ((h z).2 (by simp [hz])) with e | hz'
        · subst e; exact absurd (hb.1 _ hz) (List.lt_irrefl _)
        · exact hz')
    rw [this]
theorem uniq_mem (all : List ByteArray) (x : List UInt8) : x ∈ uniq all ↔ ∃ s ∈ all, s.data.toList = x := by
  constructor
  · intro hx
    unfold uniq Lib.compact at hx
    generalize hl : (all.map (·.data.toList)).mergeSort (fun x y => decide (x ≤ y)) = l at hx
    have hp : l.Perm (all.map (·.data.toList)) := hl ▸ List.mergeSort_perm _ _
    have hsd : l.Pairwise (fun a b => decide (a ≤ b) = true) := hl ▸ List.pairwise_mergeSort (fun a b c h1 h2 => by simp only [decide_eq_true_eq] at *; exact List.le_trans h1 h2) (fun a b => by simp only [Bool.or_eq_true, decide_eq_true_eq]; exact List.le_total a b) _
    have hs : ∀ i j, i ≤ j → j < l.toArray.size → l.toArray[i]! ≤ l.toArray[j]! := by
      intro i j hij hj
      simp only [List.size_toArray] at hj
      rw [getElem!_pos l.toArray i (by simp; omega), getElem!_pos l.toArray j (by simpa using hj)]
      simp only [List.getElem_toArray]
      rcases Nat.lt_or_ge i j with h | h
      · have := List.pairwise_iff_getElem.1 hsd i j (by omega) hj h
        simpa using this
      · have : i = j := by omega
        subst this
        exact List.not_lt.1 (List.lt_irrefl _)
    obtain ⟨_, h2, _⟩ := compact_rises l.toArray hs l.length (by simp)
    obtain ⟨j, hj, rfl⟩ := h2 x hx
    rw [getElem!_pos l.toArray j (by simpa using hj)]
    simp only [List.getElem_toArray]
    obtain ⟨s, hs1, hs2⟩ := List.mem_map.1 (hp.mem_iff.1 (List.getElem_mem hj))
    exact ⟨s, hs1, hs2⟩
  · rintro ⟨s, hs, rfl⟩
    exact (uniq_spec all).2.1 s hs
theorem uniq_congr {a b : List ByteArray} (h : ∀ s, s ∈ a ↔ s ∈ b) : uniq a = uniq b :=
  rise_same (uniq_spec a).1 (uniq_spec b).1 (fun x => by
    rw [uniq_mem, uniq_mem]
    exact ⟨fun ⟨s, hs, e⟩ => ⟨s, (h s).1 hs, e⟩, fun ⟨s, hs, e⟩ => ⟨s, (h s).2 hs, e⟩⟩)
theorem idOf_congr {a b : List ByteArray} (h : ∀ s, s ∈ a ↔ s ∈ b) (s : ByteArray) : idOf a s = idOf b s := by unfold idOf; rw [uniq_congr h]
section
variable {α : Type} [DecidableEq α]
theorem lcsL_comm : ∀ a b : List α, lcsL a b = lcsL b a
  | [], b => by rw [lcsL_nil, lcsL_nil']
  | x :: a, [] => by rw [lcsL_nil, lcsL_nil']
  | x :: a, y :: b => by
    rw [lcsL_cons, lcsL_cons, lcsL_comm a b, lcsL_comm a (y :: b), lcsL_comm (x :: a) b, Nat.max_comm]
    by_cases h : x = y
    · simp [h]
    · simp [h, Ne.symm h]
theorem lcsL_prefix (c : List α) : ∀ a : List α, lcsL a (a ++ c) = a.length
  | [] => rfl
  | x :: a => by rw [List.cons_append, lcsL_cons, if_pos rfl, lcsL_prefix c a, List.length_cons]
/-- How alike two lists are, in thousandths. -/
def dice (a b : List α) : Int := if a.length + b.length = 0 then 1000 else ((2000 * lcsL a b / (a.length + b.length) : Nat) : Int)
theorem dice_comm (a b : List α) : dice a b = dice b a := by
  unfold dice
  rw [Nat.add_comm, lcsL_comm]
theorem dice_nonneg (a b : List α) : 0 ≤ dice a b := by
  unfold dice
  split
  · decide
  · exact Int.natCast_nonneg _
end
end Go.Proofs.YtobncidpdodaiaaDoor
