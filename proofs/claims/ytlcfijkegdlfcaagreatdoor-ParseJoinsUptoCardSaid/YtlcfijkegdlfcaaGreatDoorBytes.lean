/- []byte(s) and string(b). No program in it. -/
import Derived.Test.YtlcfijkegdlfcaaGreatDoorKit2
import Derived.Laws.IdiomStrings
import Derived.Laws.BytesArg
namespace Go.Proofs.YtlcfijkegdlfcaaGreatDoor
open Go Go.RowKit
set_option linter.all false
set_option linter.deprecated false
def byteV (c : UInt8) : Value := .int .u8 c.toNat
/-- The world behind []byte(s). -/
def bytesW (w : World) (e : TypeId) (s : ByteArray) : World := w.drew.alloc (.cells (bytesRow s (grownCap w s.size 0 e)) e ((bytesRow s (grownCap w s.size 0 e)).size, (bytesRow s (grownCap w s.size 0 e)).size + 1))
theorem conv_str {P : Program} {src dst e : TypeId} (hs : P.underlying src = some .string) (hd : P.underlying dst = some (.slice e)) (he : P.underlying e = some (.int .u8)) (s : ByteArray) (w : World) :
    (convert src dst (.string s)).run P w = .ok (.slice (some ⟨w.heap.size, 0, none⟩) s.size (grownCap w s.size 0 e)) (bytesW w e s) := run_bytes_of_string w src dst e s hs hd he
theorem bytesW_below (w : World) (e : TypeId) (s : ByteArray) : Below w.heap.size w (bytesW w e s) := below_alloc (below_drewN (Below.refl _ _) 1) (Nat.le_refl _) _
theorem bytesW_size (w : World) (e : TypeId) (s : ByteArray) : (bytesW w e s).heap.size = w.heap.size + 1 := by
  unfold bytesW
  simp
theorem bytesW_cell (w : World) (e : TypeId) (b : List UInt8) {j : Nat} (hj : j < b.length) : (bytesW w e ⟨b.toArray⟩).cell? ⟨w.heap.size, j, none⟩ = some (byteV b[j]) := by
  have hsz : w.drew.heap.size = w.heap.size := rfl
  have h := World.alloc_heap_new w.drew (.cells (bytesRow ⟨b.toArray⟩ (grownCap w (ByteArray.mk b.toArray).size 0 e)) e ((bytesRow ⟨b.toArray⟩ (grownCap w (ByteArray.mk b.toArray).size 0 e)).size, (bytesRow ⟨b.toArray⟩ (grownCap w (ByteArray.mk b.toArray).size 0 e)).size + 1))
  rw [hsz] at h
  unfold World.cell? bytesW
  rw [h]
  simp only [Option.isSome_none, Bool.false_eq_true, if_false]
  unfold bytesRow
  rw [Array.getElem?_append_left (by simpa using hj)]
  simp [hj, byteV]
theorem conv_back {P : Program} {src dst e : TypeId} (hs : P.underlying src = some (.slice e)) (he : P.underlying e = some (.int .u8)) (hd : P.underlying dst = some .string) {w : World} {base t n : Nat} {v : Value} {l : List UInt8} (h : w.ownsRow base t 1 v n (l.map byteV)) :
    (convert src dst v).run P w = .ok (.string ⟨l.toArray⟩) w := by
  have hl : l.length = n := by have := h.1; simpa using this
  subst hl
  rcases Nat.eq_zero_or_pos l.length with h0 | h0
  · have : l = [] := List.eq_nil_of_length_eq_zero h0
    subst this
    obtain ⟨A, c, rfl⟩ := own_slice h
    cases A with
    | none =>
      rw [run_convert_bytes_string w src dst e none _ c hs he hd]
      simp [Conv.bytesToString]
      rfl
    | some a => exact run_convert_bytes_back w src dst e a c [] hs he hd (fun j hj => by simp at hj)
  · obtain ⟨g, cap, rfl, _, _⟩ := h.form h0
    refine run_convert_bytes_back w src dst e _ cap l hs he hd (fun j hj => ?_)
    have : (Addr.mk g 0 none).add j = ⟨g, j, none⟩ := by unfold Addr.add; split <;> simp_all
    rw [this, h.cellAt j (by omega), List.getElem?_map, List.getElem?_eq_getElem hj]
    rfl
end Go.Proofs.YtlcfijkegdlfcaaGreatDoor
