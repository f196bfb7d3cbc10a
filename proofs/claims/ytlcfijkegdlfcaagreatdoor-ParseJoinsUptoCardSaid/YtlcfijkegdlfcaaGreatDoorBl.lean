/- Bytes as lists. No program in it. -/
import Derived.Test.YtlcfijkegdlfcaaGreatDoorKit2
namespace Go.Proofs.YtlcfijkegdlfcaaGreatDoor
set_option linter.all false
set_option linter.deprecated false
/-- A line: bytes. -/
abbrev Ln := List UInt8
def ba (l : List UInt8) : ByteArray := ⟨l.toArray⟩
def bl (s : ByteArray) : List UInt8 := s.data.toList
@[simp] theorem bl_ba (l : List UInt8) : bl (ba l) = l := by simp [bl, ba]
@[simp] theorem ba_bl (s : ByteArray) : ba (bl s) = s := rfl
theorem bl_inj {s t : ByteArray} (h : bl s = bl t) : s = t := by rw [← ba_bl s, ← ba_bl t, h]
theorem ba_inj {s t : List UInt8} (h : ba s = ba t) : s = t := by rw [← bl_ba s, ← bl_ba t, h]
theorem ba_size (l : List UInt8) : (ba l).size = l.length := List.size_toArray
theorem bl_len (s : ByteArray) : (bl s).length = s.size := Array.length_toList
end Go.Proofs.YtlcfijkegdlfcaaGreatDoor
