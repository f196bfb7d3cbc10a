/- Labels that are folded. No program in it but the words of the walk. -/
import Derived.Test.YtnoloihdcmgbaaaDoorRowsB
import Derived.Test.YtnoloihdcmgbaaaDoorFoldP
namespace Go.Proofs.YtnoloihdcmgbaaaDoor
open Go.RowKit Go.PlainAid Go.Maps Go.Sort
set_option linter.all false
set_option linter.deprecated false
/-- Labels that are folded. -/
def Folded (es : List (Bs × Bs)) : Prop := ∀ p ∈ es, (foldS ⟨p.1.toArray⟩).data.toList = p.1
theorem folded_defs : ∀ (N : Nat) (l : List Bl), D.bulks (dBls l) ≤ N → Folded (defsL l) := by
  intro N
  induction N with
  | zero =>
    intro l hl p hp
    have := D.len_bulks (dBls l)
    rw [dBls_len] at this
    have h0 : l = [] := List.eq_nil_of_length_eq_zero (by omega)
    subst h0; simp [defsL] at hp
  | succ N ih =>
    intro l hl p hp
    have : ∀ l : List Bl, p ∈ defsL l → ∃ x ∈ l, p ∈ defsB x := by
      intro l
      induction l with
      | nil => intro h; simp [defsL] at h
      | cons y l ihl =>
        intro h
        rw [defsL, List.mem_append] at h
        rcases h with h | h
        · exact ⟨y, by simp, h⟩
        · obtain ⟨x, hx, hp⟩ := ihl h; exact ⟨x, by simp [hx], hp⟩
    obtain ⟨x, hx, hp⟩ := this l hp
    obtain ⟨h1, _, _⟩ := bls_kids2 hx
    rw [defsB_eq, List.mem_append] at hp
    rcases hp with hp | hp
    · split at hp
      · rw [List.mem_singleton] at hp
        subst hp
        have : (⟨(foldS x.info).data.toList.toArray⟩ : ByteArray) = foldS x.info := by simp
        simp only [this, foldS_twice]
      · cases hp
    · exact ih x.kids (by omega) p hp
theorem folded_listOf {ds : List (Bs × Bs)} (h : Folded ds) : Folded (listOf ds) := by
  intro p hp
  unfold listOf at hp
  obtain ⟨k, hk, rfl⟩ := List.mem_map.1 hp
  obtain ⟨q, hq, rfl⟩ := List.mem_map.1 (((uniqL_spec _).2.1 k).1 hk)
  exact h q hq
end Go.Proofs.YtnoloihdcmgbaaaDoor
