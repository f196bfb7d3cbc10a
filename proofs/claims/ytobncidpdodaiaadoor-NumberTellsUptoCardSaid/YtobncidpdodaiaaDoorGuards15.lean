/- The beginning of layer 15's statements, and words on what number.Ids answers. -/
import Derived.Test.YtobncidpdodaiaaDoorAwake15
import Derived.Test.YtobncidpdodaiaaDoorSameR
namespace Go.Proofs.YtobncidpdodaiaaDoor
open Go.RowKit Go.PlainAid
set_option linter.all false
set_option linter.deprecated false
set_option maxRecDepth 100000
/-- A slice in a slice. -/
theorem rd_slat {ok : Nat → Prop} {w : World} {V : Option Addr} {n c : Nat} {lss : List (List D)} (h : Rd ok w (.slice V n c) (lss.map D.sl)) {i : Nat} (hi : i < lss.length) :
    ∃ b o u, V = some ⟨b, o, none⟩ ∧ ok b ∧ b < w.heap.size ∧ w.cell? ⟨b, o + i, none⟩ = some u ∧ Rd ok w u lss[i] := by
  obtain ⟨b, o, c', cs, hv, hb, hlt, hr, hc⟩ := h.get (k := 1) (i := i) (fun d hd => by obtain ⟨x, _, rfl⟩ := List.mem_map.1 hd; rfl) (by simpa using hi)
  obtain ⟨hA, _, _⟩ := Value.slice.inj hv
  simp only [List.getElem_map] at hr
  obtain ⟨u, rfl, hu⟩ := rep_sl hr
  exact ⟨b, o, u, hA, hb, hlt, by simpa using hc 0 _ rfl, hu⟩
/-- The numbers of some lists of blocks. -/
def numsOf (lss : List (List Bl)) : List (List Int) := (keyss lss).map (idsOf (keyss lss).flatten)
theorem idsD_map (all : List ByteArray) (l : List (List ByteArray)) : l.map (idsD all) = (l.map fun x => (idsOf all x).map (D.int .i64)).map D.sl := by
  rw [List.map_map]
  exact List.map_congr_left (fun x _ => idsD_eq all x)
theorem keyss_len (lss : List (List Bl)) : (keyss lss).flatten.length = (lss.map List.length).sum := by
  unfold keyss
  rw [List.length_flatten, List.map_map]
  congr 1
  exact List.map_congr_left (fun x _ => by simp)
/-- What number.Ids answers. -/
def NumsRes (lss : List (List Bl)) (w : World) (e : Ending) (w' : World) : Prop :=
  ∃ V c, e = .returned (.slice V lss.length c) ∧ Rd (· < w'.heap.size) w' (.slice V lss.length c) ((numsOf lss).map fun x => D.sl (x.map (D.int .i64))) ∧ Below w.heap.size w w'
theorem nums_calls (v : Value) (lss : List (List Bl)) (w : World) (hR : Rd (· < w.heap.size) w v (dbss lss)) (hn : lss.length ≤ 1048575) (hb : ∀ l ∈ lss, D.bulks (dBls l) ≤ 1048576 ∧ Bls.wf l) (hT : (lss.map List.length).sum ≤ 1048575) (hP : PowB w.heap.size w) :
    Calls Tryd.prog 12 #[v] w (NumsRes lss w) := by
  refine (NIds_calls v lss w hR hn hb (by rw [keyss_len]; exact hT) hP).mono ?_
  rintro e w' ⟨v', rfl, hr, hbe⟩
  have hr2 : Rd (· < w'.heap.size) w' v' ((numsOf lss).map fun x => D.sl (x.map (D.int .i64))) := by
    have := hr.mono (ok' := (· < w'.heap.size)) (fun k hk _ => hk.2)
    rw [idsD_map, List.map_map] at this
    unfold numsOf
    rw [List.map_map]
    exact this
  obtain ⟨V, c, rfl, _, _⟩ := hr2.form
  have hl : ((numsOf lss).map fun x => D.sl (x.map (D.int .i64))).length = lss.length := by simp [numsOf, keyss]
  rw [hl] at hr2 ⊢
  exact ⟨V, c, rfl, hr2, hbe⟩
theorem treeTypes : TreeTypes Tryd.prog 3 9 22 69 23 26 24 :=
  ⟨Tryd.underlying3, Tryd.underlying9, Tryd.underlying22, Tryd.underlying23, Tryd.underlying24, ⟨_, _, _, Tryd.underlying69, rfl, rfl, rfl⟩, ⟨_, _, _, _, _, _, Tryd.underlying26, rfl, rfl, rfl, rfl, rfl, rfl⟩⟩
end Go.Proofs.YtobncidpdodaiaaDoor
