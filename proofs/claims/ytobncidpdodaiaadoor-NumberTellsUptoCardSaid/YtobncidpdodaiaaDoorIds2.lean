/- slices.Sort and slices.Compact on a row of the call's own. -/
import Derived.Test.YtobncidpdodaiaaDoorIds
import Derived.Test.YtobncidpdodaiaaDoorIdsP
import Derived.Test.YtobncidpdodaiaaDoorShelf
namespace Go.Proofs.YtobncidpdodaiaaDoor
open Go.RowKit Go.PlainAid Go.Sort
set_option linter.unusedVariables false

theorem enc_str (all : List ByteArray) : all.map Value.string = (all.map (·.data.toList)).map encStr := by
  rw [List.map_map]
  exact List.map_congr_left (fun s _ => rfl)

theorem SortS_calls (base : Nat) (v : Value) (ss : List (List UInt8)) (w : World) (hl : ss.length ≤ 8796093022208) (h : w.ownsRow base 9 1 v ss.length (ss.map encStr)) :
    Calls Tryd.prog 37 #[v] w fun e w' => e = .returned (.tuple #[]) ∧ w'.ownsRow base 9 1 v ss.length ((ss.mergeSort fun x y => decide (x ≤ y)).map encStr) ∧ w.grownBy w' v.ownBlock := by
  have hlen : (ss.mergeSort fun x y => decide (x ≤ y)).length = ss.length := (List.mergeSort_perm _ _).length_eq
  obtain ⟨_, h2⟩ := h
  rcases h2 with ⟨rfl, h0⟩ | ⟨g, cap, cur, rfl, hb, hg, h1, hm, hc, ht⟩
  · have : ss = [] := List.eq_nil_of_length_eq_zero h0
    subst this
    refine (Tryd.slices_Sort_string_none none 0 w).mono ?_
    rintro e w' ⟨rfl, rfl⟩
    exact ⟨rfl, by simpa using World.ownsRow_nil _ _ _ _, World.grownBy.refl _ _⟩
  · rw [Nat.mul_one] at ht
    refine (Tryd.slices_Sort_string g 0 cap ss w (holds_of_block hg ht) (Array.getElem?_eq_some_iff.1 hg).1 (by omega)).mono ?_
    rintro e w' ⟨rfl, n, os, rfl⟩
    exact ⟨rfl, ownsRow_sorted hlen hb hg h1 hm hc, grownBy_sorted _⟩

theorem CompactS_calls (base : Nat) (v : Value) (zs : List (List UInt8)) (w : World) (hl : zs.length ≤ 8796093022208) (h : w.ownsRow base 9 1 v zs.length (zs.map encStr)) :
    Calls Tryd.prog 38 #[v] w fun e w' => ∃ v', e = .returned v' ∧ w'.ownsRow base 9 1 v' (Lib.compact zs).length ((Lib.compact zs).map encStr) ∧ w.grownBy w' v.ownBlock := by
  have hle := Lib.compact_length_le zs
  obtain ⟨_, h2⟩ := h
  rcases h2 with ⟨rfl, h0⟩ | ⟨g, cap, cur, rfl, hb, hg, h1, hm, hc, ht⟩
  · have : zs = [] := List.eq_nil_of_length_eq_zero h0
    subst this
    refine (Tryd.slices_Compact_string_empty none 0 w).mono ?_
    rintro e w' ⟨rfl, rfl⟩
    have hn : Lib.compact ([] : List (List UInt8)) = [] := rfl
    rw [hn]
    exact ⟨_, rfl, World.ownsRow_nil _ _ _ _, World.grownBy.refl _ _⟩
  · rw [Nat.mul_one] at ht
    refine (Tryd.slices_Compact_string g 0 cap zs w (holds_of_block hg ht) (by omega) h1).mono ?_
    rintro e w' ⟨rfl, q, rfl⟩
    have hg' := heap_sorted (n := q) (os := #[]) (Lib.compact zs ++ List.replicate (zs.length - (Lib.compact zs).length) []).toArray hg
    have hgr := grownBy_sorted (w := w) (g := g) (n := q) (os := #[]) (Lib.compact zs ++ List.replicate (zs.length - (Lib.compact zs).length) []).toArray
    rw [grow_empty] at hg' hgr
    refine ⟨_, rfl, ⟨by simp, .inr ⟨g, cap, _, rfl, hb, hg', by omega, hm, by simp [putCells, hc], ?_⟩⟩, hgr⟩
    have htk := take_putCells cur (Lib.compact zs ++ List.replicate (zs.length - (Lib.compact zs).length) []) (by simp; omega)
    have := congrArg (List.take (Lib.compact zs).length) htk
    rw [List.take_take, List.map_append, List.take_append_of_le_length (by simp), List.length_append] at this
    have h5 : List.take (Lib.compact zs).length (List.map encStr (Lib.compact zs)) = List.map encStr (Lib.compact zs) := List.take_of_length_le (by simp)
    simp [h5] at this
    simpa using this

theorem SearchS_calls (base : Nat) (v : Value) (all : List ByteArray) (s : ByteArray) (w : World) (hl : (uniq all).length ≤ 8796093022208) (h : w.ownsRow base 9 1 v (uniq all).length ((uniq all).map encStr)) :
    Calls Tryd.prog 39 #[v, .string s] w fun e w' => (∃ b, e = .returned (.tuple #[.int .i64 (idOf all s : Nat), .bool b])) ∧ ∃ q, w' = w.drewN q := by
  have hs := h
  obtain ⟨_, h2⟩ := hs
  rcases h2 with ⟨rfl, h0⟩ | ⟨g, cap, cur, rfl, hb, hg, h1, hm, hc, ht⟩
  · clear hl h
    refine (Any2.slices_BinarySearch_string_empty Tryd.searchS none 0 s w).mono ?_
    rintro e w' ⟨rfl, rfl⟩
    have : idOf all s = 0 := by unfold idOf; rw [h0]; rfl
    rw [this]
    exact ⟨⟨_, rfl⟩, 0, rfl⟩
  · have hcell : ∀ j, j < (uniq all).length → w.cell? ⟨g, 0 + j, none⟩ = some (.string ⟨((uniq all).getD j s.data.toList).toArray⟩) := fun j hj => by
      rw [Nat.zero_add, h.cellAt j (by omega), List.getElem?_map, List.getElem?_eq_getElem hj, List.getD_eq_getElem?_getD, List.getElem?_eq_getElem hj]
      rfl
    refine (Any2.slices_BinarySearch_string Tryd.searchS g 0 (uniq all).length cap (fun t => ⟨((uniq all).getD t s.data.toList).toArray⟩) s w (by omega) hcell).mono ?_
    rintro e w' ⟨rfl, hq⟩
    have he : (fun t => Op.bytesLess (ByteArray.mk ((uniq all).getD t s.data.toList).toArray).toList s.toList) = fun t => decide ((uniq all).getD t s.data.toList < s.data.toList) := by
      funext t
      rw [bytesLess_eq, ByteArray.toList_eq, ByteArray.toList_eq]
    simp only [he]
    exact ⟨⟨_, rfl⟩, hq⟩
end Go.Proofs.YtobncidpdodaiaaDoor
