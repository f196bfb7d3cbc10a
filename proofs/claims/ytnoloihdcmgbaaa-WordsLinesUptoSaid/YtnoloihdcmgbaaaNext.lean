/- The walks of weave's weaver: to, next. -/
import Derived.Test.YtnoloihdcmgbaaaWeaver
import Derived.RegionTactic
import Derived.ChangeAlike
import Derived.BigRegion
namespace Go.Proofs.Ytnoloihdcmgbaaa
open Go.RowKit Go.PlainAid
set_option linter.unusedVariables false

/-- What lies ahead of the next place, from i on, that both sides keep. -/
def nextL : List Int → List Int → Nat → Option (Nat × Int × Int)
  | a :: ko, c :: kt, i => if 0 ≤ a ∧ 0 ≤ c then some (i, a, c) else nextL ko kt (i + 1)
  | _, _, _ => none
theorem nextL_at {ko kt : List Int} {i : Nat} (h1 : i < ko.length) (h2 : i < kt.length) : nextL (ko.drop i) (kt.drop i) i = if 0 ≤ ko[i] ∧ 0 ≤ kt[i] then some (i, ko[i], kt[i]) else nextL (ko.drop (i + 1)) (kt.drop (i + 1)) (i + 1) := by
  rw [List.drop_eq_getElem_cons h1, List.drop_eq_getElem_cons h2, nextL]
def nextOr (ko kt : List Int) (x no nt : Nat) : Int × Int × Int := match nextL (ko.drop x) (kt.drop x) x with
  | some (i, a, c) => (i, a, c)
  | none => (ko.length, no, nt)

set_option maxRecDepth 100000 in
set_option maxHeartbeats 4000000 in
theorem next_calls (b : Nat) (A O T : Option Addr) (nb cb no co nt ct g1 g2 : Nat) (ko kt : List Int) (x y z : Nat) (w : World) (hn : nb ≤ 1048575) (hx : x ≤ nb) (hko : ko.length = nb) (hkt : kt.length = nb) (base : Nat)
    (hW : Wv w b (.slice A nb cb) (.slice O no co) (.slice T nt ct) (.slice (some ⟨g1, 0, none⟩) nb nb) (.slice (some ⟨g2, 0, none⟩) nb nb) x y z)
    (h1 : w.ownsRow base 3 1 (.slice (some ⟨g1, 0, none⟩) nb nb) nb (ko.map (Value.int .i64))) (h2 : w.ownsRow base 3 1 (.slice (some ⟨g2, 0, none⟩) nb nb) nb (kt.map (Value.int .i64))) :
    Calls Try.prog 51 #[.pointer (some ⟨b, 0, none⟩)] w fun e w' => e = .returned (.tuple #[.int .i64 (nextOr ko kt x no nt).1, .int .i64 (nextOr ko kt x no nt).2.1, .int .i64 (nextOr ko kt x no nt).2.2]) ∧ ∃ q, w' = w.drewN q := by
  have c0 : w.cell? ⟨b, 0, none⟩ = some (.slice A nb cb) := (cell_of_row w b 0 _ _ _ hW).trans rfl
  have c1 : w.cell? ⟨b, 1, none⟩ = some (.slice O no co) := (cell_of_row w b 1 _ _ _ hW).trans rfl
  have c2 : w.cell? ⟨b, 2, none⟩ = some (.slice T nt ct) := (cell_of_row w b 2 _ _ _ hW).trans rfl
  have c3 : w.cell? ⟨b, 3, none⟩ = some (.slice (some ⟨g1, 0, none⟩) nb nb) := (cell_of_row w b 3 _ _ _ hW).trans rfl
  have c4 : w.cell? ⟨b, 4, none⟩ = some (.slice (some ⟨g2, 0, none⟩) nb nb) := (cell_of_row w b 4 _ _ _ hW).trans rfl
  have c5 : w.cell? ⟨b, 5, none⟩ = some (.int .i64 x) := (cell_of_row w b 5 _ _ _ hW).trans rfl
  have k1 : ∀ i (hi : i < ko.length), w.cell? ⟨g1, i, none⟩ = some (.int .i64 ko[i]) := fun i hi => (h1.cellAt i (by omega)).trans (by rw [List.getElem?_map, List.getElem?_eq_getElem hi]; rfl)
  have k2 : ∀ i (hi : i < kt.length), w.cell? ⟨g2, i, none⟩ = some (.int .i64 kt[i]) := fun i hi => (h2.cellAt i (by omega)).trans (by rw [List.getElem?_map, List.getElem?_eq_getElem hi]; rfl)
  clear hW h1 h2
  have HKO := Lib.hid hko
  have HKT := Lib.hid hkt
  clear hko hkt
  go_enter Try.func51, Try.ntmps51
  go_wp2
  go_loopw [5] (fun v wr => ∃ i : Nat, v = .int .i64 i ∧ i ≤ nb ∧ wr = w ∧ nextL (ko.drop x) (kt.drop x) x = nextL (ko.drop i) (kt.drop i) i)
    (fun v _ => nb - (intOf v).toNat)
  case atStart => exact ⟨x, rfl, hx, rfl, rfl⟩
  case round =>
    obtain ⟨i, rfl, hi, rfl, hr⟩ := hrel
    have HR := Lib.hid hr
    clear hr
    by_cases hlt : i < nb
    · have h1 : i < ko.length := by have := HKO.out; omega
      have h2 : i < kt.length := by have := HKT.out; omega
      have hs := nextL_at h1 h2
      replace k1 := k1 i h1
      replace k2 := k2 i h2
      generalize ko[i] = a at *
      generalize kt[i] = c at *
      have HS := Lib.hid hs
      clear hs h1 h2
      have w6 : (i : Int) < nb := by omega
      have w8 : (0 : Int) ≤ i := by omega
      by_cases ha : 0 ≤ a
      · by_cases hc : 0 ≤ c
        · go_wp2
          go_quiet (fail)
          go_wp2
          go_ret3
          refine ⟨?_, _, rfl⟩
          have hh : nextOr ko kt x no nt = ((i : Int), a, c) := by unfold nextOr; rw [HR.out, HS.out, if_pos ⟨ha, hc⟩]
          rw [hh]
          rfl
        · have hc1 : decide (0 ≤ c) = false := by simpa using hc
          go_wp2
          go_roundw
          case rel => exact ⟨i + 1, by go_num, by omega, by first | trivial | rfl, by rw [HR.out, HS.out, if_neg (fun h => hc h.2)]⟩
          case measure => simp [intOf]; omega
      · have ha1 : decide (0 ≤ a) = false := by simpa using ha
        go_wp2
        go_roundw
        case rel => exact ⟨i + 1, by go_num, by omega, by first | trivial | rfl, by rw [HR.out, HS.out, if_neg (fun h => ha h.1)]⟩
        case measure => simp [intOf]; omega
    · clear k1 k2
      go_wp2
      go_quiet (fail)
      go_wp2
      go_ret3
      refine ⟨?_, _, rfl⟩
      have hie : i = nb := by omega
      have hh : nextOr ko kt x no nt = ((nb : Int), (no : Int), (nt : Int)) := by
        unfold nextOr; rw [HR.out, hie, show ko.drop nb = [] from List.drop_eq_nil_of_le (by have := HKO.out; omega)]; simp [nextL, HKO.out]
      rw [hh]
      rfl

/-- A chunk's cells. -/
structure Ch where
  b0 : Nat
  b1 : Nat
  o0 : Nat
  o1 : Nat
  t0 : Nat
  t1 : Nat
  out : Nat
def cellsCh (c : Ch) : List Value := [.int .i64 (c.b0 : Int), .int .i64 (c.b1 : Int), .int .i64 (c.o0 : Int), .int .i64 (c.o1 : Int), .int .i64 (c.t0 : Int), .int .i64 (c.t1 : Int), .int .i64 (c.out : Int)]
def valCh (c : Ch) : Value := .agg (cellsCh c).toArray

set_option maxRecDepth 100000 in
set_option maxHeartbeats 4000000 in
theorem to_calls (b x' y' z' : Nat) (vb vo vt vp vq : Value) (x y z : Nat) (w : World) (hW : Wv w b vb vo vt vp vq x y z) :
    Calls Try.prog 50 #[.pointer (some ⟨b, 0, none⟩), .int .i64 x', .int .i64 y', .int .i64 z'] w fun e w' => e = .returned (valCh ⟨x, x', y, y', z, z', 0⟩) ∧ Wv w' b vb vo vt vp vq x' y' z' ∧ w.heap.size ≤ w'.heap.size ∧ w.grownBy w' (some b) := by
  have c5 : w.cell? ⟨b, 5, none⟩ = some (.int .i64 x) := (cell_of_row w b 5 _ _ _ hW).trans rfl
  have c6 : w.cell? ⟨b, 6, none⟩ = some (.int .i64 y) := (cell_of_row w b 6 _ _ _ hW).trans rfl
  have c7 : w.cell? ⟨b, 7, none⟩ = some (.int .i64 z) := (cell_of_row w b 7 _ _ _ hW).trans rfl
  have hb : b < w.heap.size := World.block_lt_of_cell? w _ c5
  have f5 : w.frozen? ⟨b, 5, none⟩ = false := frozen_of_row w b 5 _ _ hW
  have f6 : w.frozen? ⟨b, 6, none⟩ = false := frozen_of_row w b 6 _ _ hW
  have f7 : w.frozen? ⟨b, 7, none⟩ = false := frozen_of_row w b 7 _ _ hW
  have hne : ¬ b = w.heap.size := by omega
  have hne' : ¬ w.heap.size = b := by omega
  go_enter Try.func50, Try.ntmps50
  go_wp2
  have n5 := World.new_ne w _ c5
  have n6 := World.new_ne w _ c6
  have n7 := World.new_ne w _ c7
  go_region_held3 (fun w' => w'.cell? ⟨b, 5, none⟩ = some (.int .i64 x) ∧ w'.cell? ⟨b, 6, none⟩ = some (.int .i64 y) ∧ w'.cell? ⟨b, 7, none⟩ = some (.int .i64 z)) (go_keep) (fail)
  go_wp2
  have hW' : ((((((w.setCell ⟨b, 5, none⟩ (.int .i64 x')).setCell ⟨b, 6, none⟩ (.int .i64 y')).setCell ⟨b, 7, none⟩ (.int .i64 z')).alloc (.cells (cellsCh ⟨x, x', y, y', z, z', 0⟩).toArray 58)).alloc (.cells (cellsCh ⟨x, x', y, y', z, z', 0⟩).toArray 58)).drew).heap[b]? = some (.cells #[vb, vo, vt, vp, vq, .int .i64 x', .int .i64 y', .int .i64 z'] 88 (0, 0)) := by
    show (((((w.setCell ⟨b, 5, none⟩ (.int .i64 x')).setCell ⟨b, 6, none⟩ (.int .i64 y')).setCell ⟨b, 7, none⟩ (.int .i64 z')).alloc (.cells (cellsCh ⟨x, x', y, y', z, z', 0⟩).toArray 58)).alloc (.cells (cellsCh ⟨x, x', y, y', z, z', 0⟩).toArray 58)).heap[b]? = _
    rw [Below.heap_alloc _ _ _ (by simp [World.setCell]; omega), Below.heap_alloc _ _ _ (by simp [World.setCell]; omega)]
    rw [heap_setCell_same _ b 7 _ _ _ (heap_setCell_same _ b 6 _ _ _ (heap_setCell_same w b 5 _ _ _ hW))]
    rfl
  have hG : w.grownBy ((((((w.setCell ⟨b, 5, none⟩ (.int .i64 x')).setCell ⟨b, 6, none⟩ (.int .i64 y')).setCell ⟨b, 7, none⟩ (.int .i64 z')).alloc (.cells (cellsCh ⟨x, x', y, y', z, z', 0⟩).toArray 58)).alloc (.cells (cellsCh ⟨x, x', y, y', z, z', 0⟩).toArray 58)).drew) (some b) := by
    refine ⟨rfl, rfl, rfl, by simp [World.setCell]; omega, fun k hk hne => ?_⟩
    show (((((w.setCell ⟨b, 5, none⟩ (.int .i64 x')).setCell ⟨b, 6, none⟩ (.int .i64 y')).setCell ⟨b, 7, none⟩ (.int .i64 z')).alloc (.cells (cellsCh ⟨x, x', y, y', z, z', 0⟩).toArray 58)).alloc (.cells (cellsCh ⟨x, x', y, y', z, z', 0⟩).toArray 58)).heap[k]? = _
    have hkb : k ≠ b := fun e => hne (by rw [e])
    rw [Below.heap_alloc _ _ _ (by simp [World.setCell]; omega), Below.heap_alloc _ _ _ (by simp [World.setCell]; omega), Below.heap_setCell _ _ _ _ hkb, Below.heap_setCell _ _ _ _ hkb, Below.heap_setCell _ _ _ _ hkb]
  refine bodyPost_ret (v := valCh ⟨x, x', y, y', z, z', 0⟩) (by simp [results, Try.results50, go_sem, valCh, cellsCh]) rfl ⟨rfl, hW', hG.size, hG⟩
end Go.Proofs.Ytnoloihdcmgbaaa
