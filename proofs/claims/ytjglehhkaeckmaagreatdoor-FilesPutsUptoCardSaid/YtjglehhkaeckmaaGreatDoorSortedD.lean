/- slices.Sorted(maps.Keys(t)) of a map of texts: its keys, each once, in their order. -/
import Derived.Test.YtjglehhkaeckmaaGreatDoorMapS
import Derived.Test.YtjglehhkaeckmaaGreatDoorShelf
import Derived.Shelf.SlIter.Nil
import Derived.Shelf.SortM.Plain
import Derived.Shelf.SortM.SortNone
namespace Go.Proofs.YtjglehhkaeckmaaGreatDoor
open Go.RowKit Go.PlainAid Go.Maps Go.Sort Go.Shelf
set_option linter.all false
set_option linter.deprecated false
set_option maxRecDepth 100000
theorem sorts_in (m : Nat) : AnyZ.SortsIn Tryz.prog Tryz.sortedT_ren Fence.wide m :=
  ⟨fun blk off cap ss W hH hblk hsz => callsIn_wide.2 (AnyM.slices_Sort_string Tryz.sortT blk off cap ss W hH hblk hsz),
   fun p cap W => callsIn_wide.2 (AnyM.slices_Sort_string_none Tryz.sortT p cap W)⟩
theorem Keys_calls (mb : Option Nat) (w : World) : Calls Tryz.prog 15 #[.map mb] w fun e w' => e = .returned (.func (.func 23) #[] #[.pointer (some ⟨w.heap.size, 0, none⟩)]) ∧ w' = w.alloc (.cells #[.map mb] 38) :=
  callsIn_wide.1 (AnyZ.keys_in Tryz.keysD Fence.wide 5 trivial rfl mb w)
set_option maxHeartbeats 1000000 in
theorem Sorted_nil (w : World) :
    Calls Tryz.prog 14 #[.func (.func 23) #[] #[.pointer (some ⟨w.heap.size, 0, none⟩)]] (w.alloc (.cells #[.map none] 38)) fun e w' => ∃ v, e = .returned v ∧
      w'.ownsRow (w.heap.size + 1) 9 1 v 0 [] ∧ Below w.heap.size w w' := by
  have hseq : SeqGives Fence.wide 2 Tryz.prog 23 #[.pointer (some ⟨w.heap.size, 0, none⟩)] encStr (fun ss => ss = []) 0 (w.alloc (.cells #[.map none] 38)) :=
    AnyZ.keys_gives_nil (ρ := Tryz.keysD_ren) { Tryz.keysD with } Fence.wide _ trivial rfl w.heap.size _ (by simp) (by rw [cell_of_row _ _ 0 _ _ _ (heap_alloc_new w (.cells #[.map none] 38))]; rfl)
  have hc := AnyZ.sorted_in Tryz.sortedT Fence.wide 5 trivial trivial trivial trivial rfl (by omega) (sorts_in _) (enters_of Tryz.func22 (by kernel_rfl) rfl) 23 #[.pointer (some ⟨w.heap.size, 0, none⟩)] trivial (enters_of Tryz.func23 (by kernel_rfl) rfl) _ _ (by unfold maxLen; omega) (by omega) _ hseq
  refine (callsIn_wide.1 hc).mono ?_
  rintro e w' ⟨v, ss, rfl, rfl, hrow, _, hB⟩
  simp only [List.length_nil, List.mergeSort_nil, List.map_nil] at hrow
  have hr2 : w'.ownsRow (w.alloc (.cells #[.map none] 38)).heap.size 9 1 v 0 [] := hrow
  exact ⟨v, rfl, by simpa using hr2, (below_alloc (Below.refl _ _) (Nat.le_refl _) _).trans (hB.mono (by simp))⟩
set_option maxHeartbeats 1000000 in
theorem Sorted_calls (b n : Nat) (ds : List (Bs × Bs)) (D0 : DataW Unit) (w : World) (hown : OwnT w b n D0) (hT : Tab ds D0) (hn : n ≤ 8796093022208) :
    Calls Tryz.prog 14 #[.func (.func 23) #[] #[.pointer (some ⟨w.heap.size, 0, none⟩)]] (w.alloc (.cells #[.map (some b)] 38)) fun e w' => ∃ v, e = .returned v ∧
      w'.ownsRow (w.heap.size + 1) 9 1 v (uniqL (ds.map (·.1))).length ((uniqL (ds.map (·.1))).map encStr) ∧ Below w.heap.size w w' := by
  have hbl := hown.lt
  have hsz := tab_size hown
  have hseq : SeqGives Fence.wide 2 Tryz.prog 23 #[.pointer (some ⟨w.heap.size, 0, none⟩)] encStr (fun ss => ss.Perm (strKeys D0)) (Maps.size D0) (w.alloc (.cells #[.map (some b)] 38)) :=
    AnyZ.keys_gives (ρ := Tryz.keysD_ren) { Tryz.keysD with } Fence.wide _ trivial rfl (by omega) w.heap.size b n D0 _ (by simp) (by simp) (by
      obtain ⟨es, clock, hb, Ft, hs, hD⟩ := hown
      exact ⟨es, clock, (Below.heap_alloc _ _ b hbl).trans hb, Ft, hs, hD⟩)
  have hc := AnyZ.sorted_in Tryz.sortedT Fence.wide 5 trivial trivial trivial trivial rfl (by omega) (sorts_in _) (enters_of Tryz.func22 (by kernel_rfl) rfl) 23 #[.pointer (some ⟨w.heap.size, 0, none⟩)] trivial (enters_of Tryz.func23 (by kernel_rfl) rfl) _ _ (by unfold maxLen; omega) (by omega) _ hseq
  refine (callsIn_wide.1 hc).mono ?_
  rintro e w' ⟨v, ss, rfl, hp, hrow, _, hB⟩
  have hk := sorted_keys hown lawS Tryz.underlying9 hT hp
  have hlen : ss.length = (uniqL (ds.map (·.1))).length := by rw [← hk]; exact (List.length_mergeSort ss).symm
  rw [hk, hlen] at hrow
  have hr2 : w'.ownsRow (w.alloc (.cells #[.map (some b)] 38)).heap.size 9 1 v (uniqL (ds.map (·.1))).length ((uniqL (ds.map (·.1))).map encStr) := hrow
  exact ⟨v, rfl, by simpa using hr2, (below_alloc (Below.refl _ _) (Nat.le_refl _) _).trans (hB.mono (by simp))⟩
set_option maxHeartbeats 1000000 in
theorem Names_calls (d n : Nat) (mb : Option Nat) (ds : List (Bs × Bs)) (w : World) (h : DiskAt d mb ds n w) (hn : n ≤ 8796093022208) :
    Calls Tryz.prog 10 #[.pointer (some ⟨d, 0, none⟩)] w fun e w' => ∃ v, e = .returned v ∧ w'.ownsRow w.heap.size 9 1 v (uniqL (ds.map (·.1))).length ((uniqL (ds.map (·.1))).map encStr) ∧ Below w.heap.size w w' := by
  have c0 : w.cell? ⟨d, 0, none⟩ = some (.map mb) := (row_facts h.blk 0 rfl).1
  rcases h.tab with ⟨rfl, rfl⟩ | ⟨b, D, rfl, hne, hown, hT⟩
  · have hu : uniqL (([] : List (Bs × Bs)).map (·.1)) = [] := List.eq_nil_of_length_eq_zero (by have := (uniqL_spec ([] : List Bs)).2.2; simpa using this)
    rw [hu]
    clear hu
    have hs := Sorted_nil w
    have HS := Lib.hid hs
    clear h hs
    go_enter Tryz.func10, Tryz.ntmps10
    go_wp2_with fail
    refine (Keys_calls none _).mono ?_
    rintro e w1 ⟨rfl, rfl⟩
    go_wp2_with fail
    refine HS.out.mono ?_
    rintro e w2 ⟨v, rfl, hr, hb⟩
    go_wp2_with fail
    go_ret
    exact ⟨_, rfl, own_lower hr (Nat.le_succ _), hb⟩
  · have hs := Sorted_calls b n ds D w hown hT hn
    have HS := Lib.hid hs
    clear h hs
    go_enter Tryz.func10, Tryz.ntmps10
    go_wp2_with fail
    refine (Keys_calls (some b) _).mono ?_
    rintro e w1 ⟨rfl, rfl⟩
    go_wp2_with fail
    refine HS.out.mono ?_
    rintro e w2 ⟨v, rfl, hr, hb⟩
    go_wp2_with fail
    go_ret
    exact ⟨_, rfl, own_lower hr (Nat.le_succ _), hb⟩
end Go.Proofs.YtjglehhkaeckmaaGreatDoor
