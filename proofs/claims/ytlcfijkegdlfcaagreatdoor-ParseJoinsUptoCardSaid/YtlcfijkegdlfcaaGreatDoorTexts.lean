/- Rows of texts: their cells. -/
import Derived.Test.YtlcfijkegdlfcaaGreatDoorKit2
import Derived.Test.YtlcfijkegdlfcaaGreatDoorStr
import Derived.Test.YtlcfijkegdlfcaaGreatDoorProg
import Derived.Laws.OwnMore
namespace Go.Proofs.YtlcfijkegdlfcaaGreatDoor
open Go.RowKit Go.PlainAid
set_option linter.all false
set_option linter.deprecated false
/-- The cell of a text at a place. -/
theorem Rd.str_cell {ok : Nat → Prop} {w : World} {A : Option Addr} {n c : Nat} {l : List ByteArray} (h : Rd ok w (.slice A n c) (l.map D.str)) {i : Nat} (hi : i < l.length) :
    ∃ b o, A = some ⟨b, o, none⟩ ∧ ok b ∧ b < w.heap.size ∧ w.cell? ⟨b, o + i, none⟩ = some (.string l[i]) := by
  obtain ⟨b, o, hA, hb, hlt, hc⟩ := h.strs (by omega)
  have := hc i hi
  refine ⟨b, o, hA, hb, hlt, ?_⟩
  rw [this]
  simp [hi]
theorem Rd.below' {w w1 : World} {v : Value} {ds : List D} (h : Rd (· < w.heap.size) w v ds) (hb : Below w.heap.size w w1) : Rd (· < w1.heap.size) w1 v ds := h.lt_below hb
theorem rd_row {w0 w1 : World} {base n : Nat} {v : Value} {l : List ByteArray} (h : w0.ownsRow base 9 1 v n (l.map Value.string)) (hn : l.length = n) (hb : Below w0.heap.size w0 w1) : Rd (· < w1.heap.size) w1 v (l.map D.str) :=
  (Rd.of_own (ok := (· < _)) h (by simpa using hn) (RepAll.strs _ _ _) (fun k hk => (h.lt k hk).2)).step (fun k hk _ => hb.block k hk) (fun k hk _ => Nat.lt_of_lt_of_le hk hb.size)
theorem eq_of_take {a b : List ByteArray} (hl : a.length = b.length) (h : ∀ i, i < a.length → a[i]? = b[i]?) : a = b := by
  apply List.ext_getElem?
  intro i
  by_cases hi : i < a.length
  · exact h i hi
  · rw [List.getElem?_eq_none (by omega), List.getElem?_eq_none (by omega)]
end Go.Proofs.YtlcfijkegdlfcaaGreatDoor
