/- The kids of spans, of blocks, are less. No program in it. -/
import Derived.Test.YtlcfijkegdlfcaaGreatDoorTree
namespace Go.Proofs.YtlcfijkegdlfcaaGreatDoor
open Go.RowKit
set_option linter.all false
theorem sps_kids {l : List Sp} {x : Sp} (h : x ∈ l) : D.bulks (dSps x.kids) < D.bulks (dSps l) := by
  have h1 : (dSp x).bulk ≤ D.bulks (dSps l) := by rw [dSps_map]; exact D.bulk_mem (List.mem_map.2 ⟨x, h, rfl⟩)
  obtain ⟨k, s, ks⟩ := x
  simp only [dSp, D.bulk, D.bulks, Sp.kids] at *
  omega
theorem bls_kids {l : List Bl} {x : Bl} (h : x ∈ l) : D.bulks (dBls x.kids) < D.bulks (dBls l) := by
  have h1 : (dBl x).bulk ≤ D.bulks (dBls l) := by rw [dBls_map]; exact D.bulk_mem (List.mem_map.2 ⟨x, h, rfl⟩)
  obtain ⟨k, n, i, ls, sp, ks⟩ := x
  simp only [dBl, D.bulk, D.bulks, Bl.kids] at *
  omega
end Go.Proofs.YtlcfijkegdlfcaaGreatDoor
