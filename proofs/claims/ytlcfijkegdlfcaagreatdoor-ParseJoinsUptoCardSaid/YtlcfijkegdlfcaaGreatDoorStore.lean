/- A struct stored whole into a box, as one step of a region. No program in it. -/
import Derived.Deep.MidRow
import Derived.Laws.Rows
import Derived.Test.YtlcfijkegdlfcaaGreatDoorTill
namespace Go.Proofs.YtlcfijkegdlfcaaGreatDoor
open Go Go.RowKit
set_option linter.all false
theorem setCells_row {t : TypeId} {g : Nat} : ∀ (vs : List Value) (o : Nat) (w : World) (cs : Array Value), w.heap[g]? = some (.cells cs t (0, 0)) → ∃ cs', (w.setCells g o vs).heap[g]? = some (.cells cs' t (0, 0)) ∧ cs'.size = cs.size ∧
    (∀ j, j < o → cs'[j]? = cs[j]?) ∧ (∀ j, j < vs.length → o + j < cs.size → cs'[o + j]? = vs[j]?) ∧ (∀ j, o + vs.length ≤ j → cs'[j]? = cs[j]?)
  | [], o, w, cs, h => ⟨cs, h, rfl, fun _ _ => rfl, fun j hj => by simp at hj, fun _ _ => rfl⟩
  | v :: r, o, w, cs, h => by
    obtain ⟨cs', h1, h2, h3, h4, h5⟩ := setCells_row r (o + 1) (w.setCell ⟨g, o, none⟩ v) _ (heap_setCell_same w g o cs t v h)
    refine ⟨cs', h1, by simpa using h2, fun j hj => by rw [h3 j (by omega), Array.getElem?_setIfInBounds_ne (by omega)], fun j hj hlt => ?_, fun j hj => by rw [h5 j (by simp at hj; omega), Array.getElem?_setIfInBounds_ne (by simp at hj; omega)]⟩
    cases j with
    | zero =>
      rw [Nat.add_zero, h3 o (by omega), Array.getElem?_setIfInBounds_self_of_lt (by omega)]; rfl
    | succ j =>
      have := h4 j (by simpa using hj) (by simp; omega)
      rw [show o + (j + 1) = o + 1 + j by omega, this]; rfl
/-- The box holds what was stored. -/
theorem setCells_whole {w : World} {g : Nat} {cs : Array Value} {t : TypeId} (vs : List Value) (h : w.heap[g]? = some (.cells cs t (0, 0))) (hl : vs.length = cs.size) : (w.setCells g 0 vs).heap[g]? = some (.cells vs.toArray t (0, 0)) := by
  obtain ⟨cs', h1, h2, _, h4, _⟩ := setCells_row vs 0 w cs h
  have e : cs' = vs.toArray := by
    apply Array.ext_getElem?
    intro j
    by_cases hj : j < vs.length
    · have := h4 j hj (by omega)
      rw [Nat.zero_add] at this
      rw [this]; simp
    · rw [Array.getElem?_eq_none (by omega), Array.getElem?_eq_none (by simp; omega)]
  rw [h1, e]
theorem setCells_other {g k : Nat} (hk : k ≠ g) : ∀ (vs : List Value) (o : Nat) (w : World), (w.setCells g o vs).heap[k]? = w.heap[k]?
  | [], _, _ => rfl
  | v :: r, o, w => by rw [World.setCells, setCells_other hk r, Below.heap_setCell w ⟨g, o, none⟩ v k hk]
theorem setCells_below {B g : Nat} (hg : B ≤ g) {w0 : World} : ∀ (vs : List Value) (o : Nat) (w : World), Below B w0 w → Below B w0 (w.setCells g o vs)
  | [], _, _, h => h
  | v :: r, o, w, h => setCells_below hg r (o + 1) _ (h.setCell (p := ⟨g, o, none⟩) hg v)
theorem setCells_own {w : World} {base e size n g : Nat} {v : Value} {xs : List Value} (h : w.ownsRow base e size v n xs) (hg : v.ownBlock ≠ some g) (vs : List Value) (o : Nat) : (w.setCells g o vs).ownsRow base e size v n xs :=
  own_same h (fun k hk => setCells_other (fun e => hg (by rw [hk, e])) vs o w)
theorem setCells_size {g : Nat} : ∀ (vs : List Value) (o : Nat) (w : World), (w.setCells g o vs).heap.size = w.heap.size
  | [], _, _ => rfl
  | v :: r, o, w => by rw [World.setCells, setCells_size r]; simp [World.setCell]
theorem there_of_row {w : World} {b : Nat} {cs : Array Value} {t : TypeId} (h : w.heap[b]? = some (.cells cs t (0, 0))) : w.there b 0 cs.size := fun j hj => by
  rw [Nat.zero_add]
  exact ⟨by rw [cell_of_row w b j _ _ _ h, Array.getElem?_eq_getElem hj]; rfl, frozen_of_row w b j _ _ h⟩
theorem step_store {P : Program} {ops : Array Oper} {o : Oper} {a : Act} {K : Act → World → Prop} {Q : Exit → Act → World → Prop} {W : World} {E : Prop} {T : Array Value} (hgd : o.guard = none) (ty : TypeId) (x y : Operand) (ho : o.op = .store ty x y)
    (b : Nat) (cells old : Array Value) (t : TypeId) (hx : a.eval x = .pointer (some ⟨b, 0, none⟩)) (hy : a.eval y = .agg cells) (hb : W.heap[b]? = some (.cells old t (0, 0))) (hs : cells.size = old.size) (hi : (P.info? ty).map (·.size) = some cells.size) (h1 : cells.all (·.oneCell') = true)
    (h : K (a.put o.dst undef) (W.setCells b 0 cells.toList)) : if Region.wanted o (yielded ops T) = true then Oper.wp P o a W K Q else E := by
  have hw : Region.wanted o (yielded ops T) = true := by simp [Region.wanted, hgd]
  rw [if_pos hw]
  exact wp_store_mid ty x y ho b 0 cells hx hy (by rw [hs]; exact there_of_row hb) hi h1 h
end Go.Proofs.YtlcfijkegdlfcaaGreatDoor
