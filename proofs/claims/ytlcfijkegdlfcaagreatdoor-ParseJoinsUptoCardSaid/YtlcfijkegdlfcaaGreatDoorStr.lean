/- How a walk spells that texts are the same. No program in it. -/
import Derived.Lib.SlicesS
import Derived.PlainAid
namespace Go.Proofs.YtlcfijkegdlfcaaGreatDoor
open Go
theorem beq_t {a b : ByteArray} (h : a = b) : (a.toList == b.toList) = true := (Lib.bytes_beq_iff a b).2 h
theorem beq_f {a b : ByteArray} (h : ¬ a = b) : (a.toList == b.toList) = false := Bool.eq_false_iff.2 (fun e => h ((Lib.bytes_beq_iff a b).1 e))
theorem beq_d (a b : ByteArray) : (a.toList == b.toList) = decide (a = b) := by
  by_cases h : a = b
  · rw [beq_t h]; simp [h]
  · rw [beq_f h]; simp [h]
theorem empty_d (a : ByteArray) : a.toList.isEmpty = decide (a = ByteArray.empty) := by
  have h := beq_d a ByteArray.empty
  rw [← h]
  have he : ByteArray.empty.toList = [] := by simp [ByteArray.toList_empty]
  rw [he]
  cases a.toList <;> rfl
end Go.Proofs.YtlcfijkegdlfcaaGreatDoor
