/- A map of texts that the call has made, at this program. -/
import Derived.Test.YtjglehhkaeckmaaGreatDoorTabPut
import Derived.Test.YtjglehhkaeckmaaGreatDoorMap
import Derived.Test.YtjglehhkaeckmaaGreatDoorKit2
import Derived.Test.YtjglehhkaeckmaaGreatDoorStr
import Derived.Test.YtjglehhkaeckmaaGreatDoorProg
import Derived.StringKeys
import Derived.Maps.Range
import Derived.WalkSpells
namespace Go.Proofs.YtjglehhkaeckmaaGreatDoor
open Go.RowKit Go.PlainAid Go.Maps
set_option linter.all false
set_option linter.deprecated false
set_option maxRecDepth 100000
theorem lawS : Keyed Tryz.prog 9 := string_keyed Tryz.underlying9
theorem zeroStr (w : World) : (zeroValue 9).run Tryz.prog w = .ok (.string ByteArray.empty) w := by kernel_rfl
/-- A map of texts in memory. -/
abbrev OwnT (w : World) (b n : Nat) (D : DataW Unit) : Prop := w.ownsMap Tryz.prog 9 (plainElem Tryz.prog 9) b n D
theorem grown_below {w w' : World} (h : Below w.heap.size w w') (o : Option Nat) : w.grownBy w' o := ⟨h.os, h.tape, h.output, h.size, fun k hk _ => h.block k hk⟩
theorem grown_refl (w : World) (o : Option Nat) : w.grownBy w o := grown_below (Below.refl _ _) o
theorem map_at {H : Type} {P : Program} {k : TypeId} {R : Value → Option (DataW H × List MemPlace)} {w w' : World} {b n : Nat} {D : DataW H} (h : w.ownsMap P k R b n D) (e : w'.heap[b]? = w.heap[b]?) : w'.ownsMap P k R b n D := by
  obtain ⟨es, clock, h0, F, hs, hD⟩ := h
  exact ⟨es, clock, e.trans h0, F, hs, hD⟩
/-- A disk: its block, its map's. -/
structure DiskAt (d : Nat) (mb : Option Nat) (ds : List (Bs × Bs)) (n : Nat) (w : World) : Prop where
  blk : w.heap[d]? = some (.cells #[.map mb, .map none] 41 (0, 0))
  tab : (mb = none ∧ ds = []) ∨ ∃ b D, mb = some b ∧ b ≠ d ∧ OwnT w b n D ∧ Tab ds D
theorem DiskAt.lt {d n : Nat} {mb : Option Nat} {ds : List (Bs × Bs)} {w : World} (h : DiskAt d mb ds n w) : d < w.heap.size := (Array.getElem?_eq_some_iff.1 h.blk).1
/-- All lies as it lay, but for a disk. -/
structure Chg (d : Nat) (mb : Option Nat) (w w' : World) : Prop where
  os : w'.os = w.os
  tape : w'.tape = w.tape
  output : w'.output = w.output
  size : w.heap.size ≤ w'.heap.size
  block : ∀ k, k < w.heap.size → k ≠ d → mb ≠ some k → w'.heap[k]? = w.heap[k]?
theorem DiskAt.keep {d n : Nat} {mb : Option Nat} {ds : List (Bs × Bs)} {w w' : World} (h : DiskAt d mb ds n w) (h0 : w'.heap[d]? = w.heap[d]?) (h1 : ∀ b, mb = some b → w'.heap[b]? = w.heap[b]?) : DiskAt d mb ds n w' :=
  ⟨h0.trans h.blk, by
    rcases h.tab with h2 | ⟨b, D, rfl, hne, ho, hT⟩
    · exact .inl h2
    · exact .inr ⟨b, D, rfl, hne, map_at ho (h1 b rfl), hT⟩⟩
theorem DiskAt.below {d n : Nat} {mb : Option Nat} {ds : List (Bs × Bs)} {w w' : World} (h : DiskAt d mb ds n w) (hb : Below w.heap.size w w') : DiskAt d mb ds n w' :=
  h.keep (hb.block d h.lt) (fun b e => by
    rcases h.tab with ⟨h2, _⟩ | ⟨b', D, h2, hne, ho, hT⟩
    · rw [h2] at e; cases e
    · rw [h2] at e; cases e; exact hb.block _ ho.lt)
theorem New_calls (w : World) : Calls Tryz.prog 7 #[] w fun e w' => e = .returned (.pointer (some ⟨w.heap.size, 0, none⟩)) ∧ DiskAt w.heap.size none [] 0 w' ∧ Below w.heap.size w w' := by
  go_enter Tryz.func7, Tryz.ntmps7
  go_wp2
  go_ret
  exact ⟨rfl, ⟨World.alloc_heap_new w _, .inl ⟨rfl, rfl⟩⟩, below_alloc (Below.refl _ _) (Nat.le_refl _) _⟩
theorem Get_calls (d n : Nat) (mb : Option Nat) (ds : List (Bs × Bs)) (k : ByteArray) (w : World) (h : DiskAt d mb ds n w) (hk : k.size ≤ maxLen) :
    Calls Tryz.prog 9 #[.pointer (some ⟨d, 0, none⟩), .string k] w fun e w' => e = .returned (.tuple #[.string ⟨((find ds k.data.toList).getD []).toArray⟩, .bool (find ds k.data.toList).isSome]) ∧ w = w' := by
  have c0 : w.cell? ⟨d, 0, none⟩ = some (.map mb) := (row_facts h.blk 0 rfl).1
  rcases h.tab with ⟨rfl, rfl⟩ | ⟨b, D, rfl, hne, hown, hT⟩
  · have hlk : ∀ W : World, (Instr.lookup 38 (.map none) (.string k) true).run Tryz.prog W = .ok (.tuple #[.string ByteArray.empty, .bool false]) W := fun W => (Maps.look_nil true lawS Tryz.underlying38 (zeroStr W) (WideMaps.keyOf_string_mk Tryz.underlying9 hk))
    clear h
    go_enter Tryz.func9, Tryz.ntmps9
    go_wp2_with fail
    go_ret2
    exact ⟨rfl, rfl⟩
  · clear h
    have h1 := hT.has k.data.toList
    go_enter Tryz.func9, Tryz.ntmps9
    go_wp2_with (at_lookup; go_must (refine wpList_lookup_own_ok_str _ rfl _ _ 38 rfl 9 9 lawS Tryz.underlying38 Tryz.underlying9 (zeroStr _) b n D rfl hown _ _ rfl (WideMaps.keyOf_string_mk Tryz.underlying9 hk) ?_); intro c hat)
    have hc : c = ⟨((find ds k.data.toList).getD []).toArray⟩ := by
      cases hfd : find ds k.data.toList with
      | none =>
        have h2 := (hT.none hfd _).symm.trans hat
        injection h2 with h2
        injection h2 with h2
        exact ByteArray.ext (Array.toList_inj.1 h2.symm)
      | some fv =>
        have h2 := (hT.at' _ _ hfd).symm.trans hat
        injection h2 with h2
        injection h2 with h2
        exact ByteArray.ext (Array.toList_inj.1 h2.symm)
    subst hc
    go_ret2
    exact ⟨rfl, rfl⟩
set_option maxHeartbeats 2000000 in
theorem Put_calls (d n : Nat) (mb : Option Nat) (ds : List (Bs × Bs)) (k v : ByteArray) (w : World) (h : DiskAt d mb ds n w) (hn : n < maxLen) (hk : k.size ≤ maxLen) (hv : v.size ≤ maxLen) :
    Calls Tryz.prog 8 #[.pointer (some ⟨d, 0, none⟩), .string k, .string v] w fun e w' => e = .returned (.tuple #[]) ∧ ∃ mb', DiskAt d mb' ((k.data.toList, v.data.toList) :: ds) (n + 1) w' ∧ (mb' = mb ∨ ∃ b, mb' = some b ∧ w.heap.size ≤ b) ∧ Chg d mb w w' := by
  have hmm := @run_makeMap Tryz.prog
  have hlt := h.lt
  have c0 : w.cell? ⟨d, 0, none⟩ = some (.map mb) := (row_facts h.blk 0 rfl).1
  have f0 : w.frozen? ⟨d, 0, none⟩ = false := (row_facts h.blk 0 (v := .map mb) rfl).2
  have q1 : ∀ (W : World) (r : Option Nat), (binOp .eql 38 (.map r) (.map none)).run Tryz.prog W = .ok (.bool r.isNone) W := fun W r => run_eql_map_nil W _ _ _ r Tryz.underlying38
  rcases h.tab with ⟨rfl, rfl⟩ | ⟨b, D, rfl, hne, hown, hT⟩
  · have hb := h.blk
    have hne : w.heap.size ≠ d := by omega
    have HB := Lib.hid hb
    have hW : (w.setCell ⟨d, 0, none⟩ (.map (some w.heap.size))).heap.size = w.heap.size := by simp [World.setCell]
    have hm0 : OwnT ((w.setCell ⟨d, 0, none⟩ (.map (some w.heap.size))).alloc (.map #[] 0)) (w.setCell ⟨d, 0, none⟩ (.map (some w.heap.size))).heap.size 0 (.map []) := World.ownsMap_made _ _ _ _
    rw [hW] at hm0
    have hmade : OwnT ((w.setCell ⟨d, 0, none⟩ (.map (some w.heap.size))).alloc (.map #[] 0)) w.heap.size n (.map []) := hm0.mono (Nat.zero_le _)
    have hbd : ((w.setCell ⟨d, 0, none⟩ (.map (some w.heap.size))).alloc (.map #[] 0)).heap[d]? = some (.cells #[.map (some w.heap.size), .map none] 41 (0, 0)) :=
      (Below.heap_alloc _ _ d (by rw [hW]; exact hlt)).trans (by simp [World.setCell, Array.getElem?_modify, hb])
    have hbk : ∀ k, k < w.heap.size → k ≠ d → ((w.setCell ⟨d, 0, none⟩ (.map (some w.heap.size))).alloc (.map #[] 0)).heap[k]? = w.heap[k]? := fun k hk hkd =>
      (Below.heap_alloc _ _ k (by rw [hW]; exact hk)).trans (Below.heap_setCell _ _ _ _ hkd)
    have hsz : w.heap.size < ((w.setCell ⟨d, 0, none⟩ (.map (some w.heap.size))).alloc (.map #[] 0)).heap.size := by simp [World.setCell]
    have HBD := Lib.hid hbd
    have HBK := Lib.hid hbk
    have HSZ := Lib.hid hsz
    clear hm0 hW hbd hbk hsz
    clear hb h
    go_enter Tryz.func8, Tryz.ntmps8
    go_wp2_with (at_mapUpdate; go_must (refine wpList_mapUpdate_own _ rfl _ _ _ 38 rfl 9 9 lawS Tryz.underlying38 _ w.heap.size n _ rfl (by exact hmade) hn _ _ _ rfl rfl (WideMaps.keyOf_string_mk Tryz.underlying9 hk) _ [] (plainElem_string Tryz.underlying9 hv) ?_); intro w6 hmp6 hgr6)
    go_end0
    refine ⟨rfl, some w.heap.size, ⟨?_, .inr ⟨_, _, rfl, hne, hmp6, Tab.nil.put _ _⟩⟩, .inr ⟨_, rfl, Nat.le_refl _⟩, ?_⟩
    · exact (hgr6.block d (Nat.lt_trans hlt HSZ.out) (fun e => by injection e with e; omega)).trans HBD.out
    · exact ⟨hgr6.os, hgr6.tape, hgr6.output, Nat.le_trans (Nat.le_of_lt HSZ.out) hgr6.size, fun j hj hjd _ => (hgr6.block j (Nat.lt_trans hj HSZ.out) (fun e => by injection e with e; omega)).trans (HBK.out j hj hjd)⟩
  · have hb := h.blk
    have HB := Lib.hid hb
    clear hb h
    go_enter Tryz.func8, Tryz.ntmps8
    go_wp2_with (at_mapUpdate; go_must (refine wpList_mapUpdate_own _ rfl _ _ _ 38 rfl 9 9 lawS Tryz.underlying38 _ b n _ rfl (by exact hown) hn _ _ _ rfl rfl (WideMaps.keyOf_string_mk Tryz.underlying9 hk) _ [] (plainElem_string Tryz.underlying9 hv) ?_); intro w6 hmp6 hgr6)
    go_end0
    refine ⟨rfl, some b, ⟨(hgr6.block d hlt (fun e => hne (by injection e with e; exact e.symm))).trans HB.out, .inr ⟨_, _, rfl, hne, hmp6, hT.put _ _⟩⟩, .inl rfl, ⟨hgr6.os, hgr6.tape, hgr6.output, hgr6.size, fun j hj hjd hjb => hgr6.block j hj (fun e => hjb (by injection e with e; rw [e]))⟩⟩
end Go.Proofs.YtjglehhkaeckmaaGreatDoor
