/- slices.Sorted(maps.Keys(t)) of a table of texts: its labels, each once, in their order. -/
import Derived.Test.YtnoloihdcmgbaaaDoorDefs
import Derived.Shelf.SlIter.Nil
import Derived.Shelf.SortM.Plain
import Derived.Shelf.SortM.SortNone
namespace Go.Proofs.YtnoloihdcmgbaaaDoor
open Go.RowKit Go.PlainAid Go.Maps Go.Sort Go.Shelf
set_option linter.all false
set_option linter.deprecated false
set_option maxRecDepth 100000
theorem sorts_in (m : Nat) : AnyZ.SortsIn Tryd.prog Tryd.sortedT_ren Fence.wide m :=
  ⟨fun blk off cap ss W hH hblk hsz => callsIn_wide.2 (AnyM.slices_Sort_string Tryd.sortT blk off cap ss W hH hblk hsz),
   fun p cap W => callsIn_wide.2 (AnyM.slices_Sort_string_none Tryd.sortT p cap W)⟩
theorem Keys_calls (b : Nat) (w : World) : Calls Tryd.prog 37 #[.map (some b)] w fun e w' => e = .returned (.func (.func 61) #[] #[.pointer (some ⟨w.heap.size, 0, none⟩)]) ∧ w' = w.alloc (.cells #[.map (some b)] 58) :=
  callsIn_wide.1 (AnyZ.keys_in Tryd.keysT Fence.wide 5 trivial rfl (some b) w)
set_option maxHeartbeats 1000000 in
theorem Sorted_calls (b n : Nat) (ds : List (Bs × Bs)) (D0 : DataW Unit) (w : World) (hown : OwnT w b n D0) (hT : Tab ds D0) (hn : n ≤ 8796093022208) :
    Calls Tryd.prog 36 #[.func (.func 61) #[] #[.pointer (some ⟨w.heap.size, 0, none⟩)]] (w.alloc (.cells #[.map (some b)] 58)) fun e w' => ∃ v, e = .returned v ∧
      w'.ownsRow (w.heap.size + 1) 9 1 v (uniqL (ds.map (·.1))).length ((uniqL (ds.map (·.1))).map encStr) ∧ Below w.heap.size w w' := by
  have hbl := hown.lt
  have hsz := tab_size hown
  have hseq : SeqGives Fence.wide 2 Tryd.prog 61 #[.pointer (some ⟨w.heap.size, 0, none⟩)] encStr (fun ss => ss.Perm (strKeys D0)) (Maps.size D0) (w.alloc (.cells #[.map (some b)] 58)) :=
    AnyZ.keys_gives (ρ := Tryd.keysT_ren) { Tryd.keysT with } Fence.wide _ trivial rfl (by omega) w.heap.size b n D0 _ (by simp) (by simp) (by
      obtain ⟨es, clock, hb, Ft, hs, hD⟩ := hown
      exact ⟨es, clock, (Below.heap_alloc _ _ b hbl).trans hb, Ft, hs, hD⟩)
  have hc := AnyZ.sorted_in Tryd.sortedT Fence.wide 5 trivial trivial trivial trivial rfl (by omega) (sorts_in _) (enters_of Tryd.func60 (by kernel_rfl) rfl) 61 #[.pointer (some ⟨w.heap.size, 0, none⟩)] trivial (enters_of Tryd.func61 (by kernel_rfl) rfl) _ _ (by unfold maxLen; omega) (by omega) _ hseq
  refine (callsIn_wide.1 hc).mono ?_
  rintro e w' ⟨v, ss, rfl, hp, hrow, _, hB⟩
  have hk := sorted_keys hown lawS Tryd.underlying9 hT hp
  have hlen : ss.length = (uniqL (ds.map (·.1))).length := by rw [← hk]; exact (List.length_mergeSort ss).symm
  rw [hk, hlen] at hrow
  have hr2 : w'.ownsRow (w.alloc (.cells #[.map (some b)] 58)).heap.size 9 1 v (uniqL (ds.map (·.1))).length ((uniqL (ds.map (·.1))).map encStr) := hrow
  exact ⟨v, rfl, by simpa using hr2, (below_alloc (Below.refl _ _) (Nat.le_refl _) _).trans (hB.mono (by simp))⟩
end Go.Proofs.YtnoloihdcmgbaaaDoor
