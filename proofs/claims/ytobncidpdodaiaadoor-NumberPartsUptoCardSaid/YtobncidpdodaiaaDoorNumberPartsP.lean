/- What the walk of the law NumberParts says of its quotes, and of the region that makes one. -/
import Derived.Test.YtobncidpdodaiaaDoorGuards15
import Derived.Test.YtobncidpdodaiaaDoorBlCells
import Derived.Test.YtobncidpdodaiaaDoorStepApp
import Derived.Test.YtobncidpdodaiaaDoorInv
namespace Go.Proofs.YtobncidpdodaiaaDoor
open Go.RowKit Go.PlainAid
set_option linter.all false
set_option linter.deprecated false
set_option maxRecDepth 100000
/-- A quote of these. -/
abbrev quo (l : List Bl) : Bl := .mk 5 0 ⟨#[]⟩ [] [] l
theorem quo_parts (l : List Bl) : partsB (quo l) = l.map keyS := by
  unfold partsB
  rw [if_neg (by simp [Bl.kind]), if_neg (by simp [Bl.kind]), if_pos (by simp [Bl.kind])]; rfl
theorem quo_alike (l : List Bl) (x : Bl) : alikeB (quo l) (quo (l ++ [x])) = min 999 (2000 * (l.length : Int) / (2 * l.length + 1)) := by
  unfold alikeB
  have hne : ¬ eqBl (quo l) (quo (l ++ [x])) = true := fun h => by
    have e := (eqBl_iff _ _).1 h
    injection e with _ _ _ _ _ e
    have := congrArg List.length e
    simp at this
  rw [if_neg hne, if_pos (show (quo l).kind = (quo (l ++ [x])).kind from rfl), quo_parts, quo_parts]
  have hlen : (idsOf (l.map keyS ++ (l ++ [x]).map keyS) (l.map keyS)).length = l.length := by rw [idsOf_len, List.length_map]
  have hap : idsOf (l.map keyS ++ (l ++ [x]).map keyS) ((l ++ [x]).map keyS) = idsOf (l.map keyS ++ (l ++ [x]).map keyS) (l.map keyS) ++ idsOf (l.map keyS ++ (l ++ [x]).map keyS) [keyS x] := by
    have e : (l ++ [x]).map keyS = l.map keyS ++ [keyS x] := by simp
    rw [e]
    unfold idsOf
    exact List.map_append
  have h1 : (idsOf (l.map keyS ++ (l ++ [x]).map keyS) [keyS x]).length = 1 := by rw [idsOf_len]; rfl
  rw [hap]
  generalize idsOf (l.map keyS ++ (l ++ [x]).map keyS) (l.map keyS) = a at *
  generalize idsOf (l.map keyS ++ (l ++ [x]).map keyS) [keyS x] = c at *
  unfold dice
  rw [List.length_append, h1, hlen, if_neg (by omega), lcsL_prefix, hlen]
  congr 1
  have e : l.length + (l.length + 1) = 2 * l.length + 1 := by omega
  rw [e]
  simp
theorem quo_none (x : Bl) (l : List Bl) : alikeB (quo []) (quo (l ++ [x])) = 0 := by
  unfold alikeB
  have hne : ¬ eqBl (quo []) (quo (l ++ [x])) = true := fun h => by
    have e := (eqBl_iff _ _).1 h
    injection e with _ _ _ _ _ e
    simp at e
  rw [if_neg hne, if_pos (show (quo []).kind = (quo (l ++ [x])).kind from rfl), quo_parts, quo_parts]
  have h0 : idsOf ([].map keyS ++ (l ++ [x]).map keyS) ([].map keyS) = [] := rfl
  rw [h0]
  have h1 : (idsOf ([].map keyS ++ (l ++ [x]).map keyS) ((l ++ [x]).map keyS)).length = l.length + 1 := by rw [idsOf_len]; simp
  unfold dice
  rw [if_neg (by rw [h1]; simp), lcsL_nil', Nat.mul_zero, Nat.zero_div]
  decide
/-- What holds in the region that puts a block behind others, whichever of its operations have come up. -/
def PartsInv (W0 : World) (A : Option Addr) (ca : Nat) (l : List Bl) (cells xc : List Value) (a0 : Act) (L : Nat → Bool) (a : Act) (w : World) : Prop :=
  ∃ v25 v26 v27 v28 v29 v30 v31 v6, a = (((((((a0.put (some 25) v25).put (some 26) v26).put (some 27) v27).put (some 28) v28).put (some 29) v29).put (some 30) v30).put (some 31) v31).put (some 6) v6 ∧ Below W0.heap.size W0 w ∧
  (L 0 = true → L 2 = false → Hid (w.ownsRow W0.heap.size 26 6 v25 0 [])) ∧ (L 1 = true → v26 = .slice A l.length ca) ∧ (L 2 = true → L 5 = false → Hid (w.ownsRow W0.heap.size 26 6 v27 l.length cells)) ∧ (L 3 = true → v28 = .agg xc.toArray) ∧
  (L 4 = true → L 5 = false → ∃ b, v29 = .slice (some ⟨b, 0, none⟩) 1 1 ∧ Hid (b < w.heap.size ∧ w.heap[b]? = some (.cells xc.toArray 26 (0, 0)) ∧ (L 0 = true → L 2 = false → v25.ownBlock ≠ some b) ∧ (L 2 = true → v27.ownBlock ≠ some b))) ∧
  (L 5 = true → Hid (w.ownsRow W0.heap.size 26 6 v30 (l.length + 1) (cells ++ xc))) ∧ (L 6 = true → v31 = .agg #[.int .i64 5, .int .i64 0, .string ⟨#[]⟩, .slice none 0 0, .slice none 0 0, v30]) ∧
  (L 7 = true → ∃ p, v6 = .pointer (some ⟨p, 0, none⟩) ∧ Hid (W0.heap.size ≤ p ∧ p < w.heap.size ∧ (L 8 = false → w.heap[p]? = some (.cells #[.int .i64 0, .int .i64 0, .string ⟨#[]⟩, .slice none 0 0, .slice none 0 0, .slice none 0 0] 26 (0, 0))) ∧ (L 8 = true → w.heap[p]? = some (.cells #[.int .i64 5, .int .i64 0, .string ⟨#[]⟩, .slice none 0 0, .slice none 0 0, v30] 26 (0, 0))) ∧
    (L 0 = true → L 2 = false → v25.ownBlock ≠ some p) ∧ (L 2 = true → L 5 = false → v27.ownBlock ≠ some p) ∧ (L 5 = true → v30.ownBlock ≠ some p))) ∧
  (L 2 = true → L 0 = true) ∧ (L 5 = true → L 2 = true ∧ L 4 = true) ∧ (L 6 = true → L 5 = true) ∧ (L 8 = true → L 6 = true ∧ L 7 = true)
theorem ne_own {v : Value} {w : World} {base e size n p : Nat} {xs : List Value} (h : w.ownsRow base e size v n xs) (hp : w.heap.size ≤ p) : v.ownBlock ≠ some p := fun e => by have := (h.lt p e).2; omega
theorem ne_hat {v v' : Value} {w : World} {p : Nat} (h : v'.ownBlock = v.ownBlock ∨ ∃ b, v'.ownBlock = some b ∧ w.heap.size ≤ b) (h1 : v.ownBlock ≠ some p) (hp : p < w.heap.size) : v'.ownBlock ≠ some p := by
  rcases h with h | ⟨b, h, hb⟩
  · rwa [h]
  · rw [h]; intro e; injection e with e; omega
theorem heap_alloc_lt {w : World} {o : Obj} {p : Nat} {x : Option Obj} (h : w.heap[p]? = x) (hp : p < w.heap.size) : (w.alloc o).heap[p]? = x := (Below.heap_alloc w o p hp).trans h
theorem lt_alloc {w : World} {o : Obj} {p : Nat} (hp : p < w.heap.size) : p < (w.alloc o).heap.size := by simp; omega
theorem ff {b : Bool} (h : b = true) (h' : b = false) {p : Prop} : p := by rw [h] at h'; cases h'
end Go.Proofs.YtobncidpdodaiaaDoor
