/- A map of texts, whatever is laid. No program in it. -/
import Derived.Test.YtjglehhkaeckmaaGreatDoorTab
namespace Go.Proofs.YtjglehhkaeckmaaGreatDoor
open Go Go.Maps Go.Sort
set_option linter.all false
theorem Tab.put {ds : List (Bs × Bs)} {D : DataW Unit} (h : Tab ds D) (k v : Bs) : Tab ((k, v) :: ds) (D.put (.string k) (.lit (.string v))) := by
  have hl : WideAt.IsKeyLit (.string k) := trivial
  refine ⟨h.m.put _ _, fun k' => ?_, fun k' v' hv => ?_⟩
  · rw [find_cons]
    by_cases e : k = k'
    · subst e; rw [has_put_same h.m hl]; simp
    · rw [has_put_other (fun e' => e (by injection e' with e'; exact e'.symm)), h.has, if_neg e]
  · rw [find_cons] at hv
    by_cases e : k = k'
    · subst e; rw [if_pos rfl] at hv; cases hv; exact atKey_put_same h.m hl _ _
    · rw [if_neg e] at hv; rw [atKey_put_other (fun e' => e (by injection e' with e'; exact e'.symm))]; exact h.at' _ _ hv
end Go.Proofs.YtjglehhkaeckmaaGreatDoor
