/- The walks of weave's weaver: run, next, to. -/
import Derived.Test.YtnoloihdcmgbaaaKept
namespace Go.Proofs.Ytnoloihdcmgbaaa
open Go.RowKit Go.PlainAid
set_option linter.unusedVariables false

/-- How many places, from here on, are stable. -/
def runLen : List Int → List Int → Int → Int → Nat
  | a :: ko, c :: kt, y, z => if a = y ∧ c = z then runLen ko kt (y + 1) (z + 1) + 1 else 0
  | _, _, _, _ => 0
theorem runLen_le : ∀ (ko kt : List Int) (y z : Int), runLen ko kt y z ≤ ko.length ∧ runLen ko kt y z ≤ kt.length
  | [], _, _, _ => by simp [runLen]
  | _ :: _, [], _, _ => by simp [runLen]
  | a :: ko, c :: kt, y, z => by
    have := runLen_le ko kt (y + 1) (z + 1)
    simp only [runLen, List.length_cons]
    split <;> omega
theorem runLen_at {ko kt : List Int} {i : Nat} (h1 : i < ko.length) (h2 : i < kt.length) (y z : Int) : runLen (ko.drop i) (kt.drop i) y z = if ko[i] = y ∧ kt[i] = z then runLen (ko.drop (i + 1)) (kt.drop (i + 1)) (y + 1) (z + 1) + 1 else 0 := by
  rw [List.drop_eq_getElem_cons h1, List.drop_eq_getElem_cons h2, runLen]

/-- A weaver in memory. -/
def Wv (w : World) (b : Nat) (vb vo vt vp vq : Value) (x y z : Int) : Prop := w.heap[b]? = some (.cells #[vb, vo, vt, vp, vq, .int .i64 x, .int .i64 y, .int .i64 z] 88 (0, 0))

set_option maxRecDepth 100000 in
set_option maxHeartbeats 4000000 in
theorem run_calls (b : Nat) (A : Option Addr) (nb cb g1 g2 : Nat) (vo vt : Value) (ko kt : List Int) (x y z : Nat) (w : World) (hn : nb ≤ 1048575) (hx : x ≤ nb) (hy : y ≤ 1048576) (hz : z ≤ 1048576) (hko : ko.length = nb) (hkt : kt.length = nb) (base : Nat)
    (hW : Wv w b (.slice A nb cb) vo vt (.slice (some ⟨g1, 0, none⟩) nb nb) (.slice (some ⟨g2, 0, none⟩) nb nb) x y z)
    (h1 : w.ownsRow base 3 1 (.slice (some ⟨g1, 0, none⟩) nb nb) nb (ko.map (Value.int .i64))) (h2 : w.ownsRow base 3 1 (.slice (some ⟨g2, 0, none⟩) nb nb) nb (kt.map (Value.int .i64))) :
    Calls Try.prog 49 #[.pointer (some ⟨b, 0, none⟩)] w fun e w' => e = .returned (.int .i64 (runLen (ko.drop x) (kt.drop x) y z : Nat)) ∧ ∃ q, w' = w.drewN q := by
  have c0 : w.cell? ⟨b, 0, none⟩ = some (.slice A nb cb) := (cell_of_row w b 0 _ _ _ hW).trans rfl
  have c3 : w.cell? ⟨b, 3, none⟩ = some (.slice (some ⟨g1, 0, none⟩) nb nb) := (cell_of_row w b 3 _ _ _ hW).trans rfl
  have c4 : w.cell? ⟨b, 4, none⟩ = some (.slice (some ⟨g2, 0, none⟩) nb nb) := (cell_of_row w b 4 _ _ _ hW).trans rfl
  have c5 : w.cell? ⟨b, 5, none⟩ = some (.int .i64 x) := (cell_of_row w b 5 _ _ _ hW).trans rfl
  have c6 : w.cell? ⟨b, 6, none⟩ = some (.int .i64 y) := (cell_of_row w b 6 _ _ _ hW).trans rfl
  have c7 : w.cell? ⟨b, 7, none⟩ = some (.int .i64 z) := (cell_of_row w b 7 _ _ _ hW).trans rfl
  have k1 : ∀ i (hi : i < ko.length), w.cell? ⟨g1, i, none⟩ = some (.int .i64 ko[i]) := fun i hi => (h1.cellAt i (by omega)).trans (by rw [List.getElem?_map, List.getElem?_eq_getElem hi]; rfl)
  have k2 : ∀ i (hi : i < kt.length), w.cell? ⟨g2, i, none⟩ = some (.int .i64 kt[i]) := fun i hi => (h2.cellAt i (by omega)).trans (by rw [List.getElem?_map, List.getElem?_eq_getElem hi]; rfl)
  clear hW h1 h2
  have hle := runLen_le (ko.drop x) (kt.drop x) y z
  rw [List.length_drop, List.length_drop] at hle
  go_enter Try.func49, Try.ntmps49
  go_wp2
  go_loopw [3] (fun v wr => ∃ n q : Nat, v = .int .i64 n ∧ x + n ≤ nb ∧ wr = w.drewN q ∧ runLen (ko.drop x) (kt.drop x) y z = n + runLen (ko.drop (x + n)) (kt.drop (x + n)) ((y + n : Nat) : Int) ((z + n : Nat) : Int))
    (fun v _ => nb - x - (intOf v).toNat)
  case atStart => exact ⟨0, 0, rfl, hx, rfl, by simp⟩
  case round =>
    obtain ⟨n, q, rfl, hxn, rfl, hr⟩ := hrel
    have HR := Lib.hid hr
    clear hr
    have w1 : IntKind.i64.wrap ((x : Int) + (n : Int)) = (x : Int) + n := IntWalk.i64_in _ (by omega)
    have w4 : ((x : Int) + (n : Int)).toNat = x + n := by omega
    have w5 : (0 : Int) ≤ (x : Int) + (n : Int) := by omega
    by_cases hlt : x + n < nb
    · have hs := runLen_at (ko := ko) (kt := kt) (i := x + n) (by omega) (by omega) ((y + n : Nat) : Int) ((z + n : Nat) : Int)
      replace k1 := k1 (x + n) (by omega)
      replace k2 := k2 (x + n) (by omega)
      generalize ko[x + n]'(by omega) = a at *
      generalize kt[x + n]'(by omega) = c at *
      have w2 : IntKind.i64.wrap ((y : Int) + (n : Int)) = (y : Int) + n := IntWalk.i64_in _ (by omega)
      have w3 : IntKind.i64.wrap ((z : Int) + (n : Int)) = (z : Int) + n := IntWalk.i64_in _ (by omega)
      have w6 : (x : Int) + (n : Int) < nb := by omega
      have w7 : decide ((x : Int) + (n : Int) < (nb : Int)) = true := by simpa using w6
      have HS := Lib.hid hs
      have HK := Lib.hid hko
      have HT := Lib.hid hkt
      clear hs hko hkt
      by_cases ha : a = (y : Int) + n
      · have ha1 : (a == (y : Int) + n) = true := by simpa using ha
        have HA := Lib.hid ha
        clear ha
        by_cases hc : c = (z : Int) + n
        · have hc1 : (c == (z : Int) + n) = true := by simpa using hc
          have HC := Lib.hid hc
          clear hc
          go_wp2
          go_quiet (fail)
          clear w1 w2 w3 w4
          go_wp2
          go_roundw
          case rel =>
            refine ⟨n + 1, _, by go_num, by omega, rfl, ?_⟩
            rw [HR.out, HS.out, if_pos ⟨by rw [HA.out]; simp, by rw [HC.out]; simp⟩]
            have e1 : ((y + n : Nat) : Int) + 1 = ((y + (n + 1) : Nat) : Int) := by omega
            have e2 : ((z + n : Nat) : Int) + 1 = ((z + (n + 1) : Nat) : Int) := by omega
            rw [e1, e2, Nat.add_assoc x n 1]
            omega
          case measure => simp [intOf]; omega
        · have hc1 : (c == (z : Int) + n) = false := by simpa using hc
          have HC := Lib.hid hc
          clear hc
          go_wp2
          go_quiet (fail)
          clear w1 w2 w3 w4
          go_wp2
          go_ret
          refine ⟨ret_int ?_, _, World.drewN_drewN ..⟩
          rw [HR.out, HS.out, if_neg (fun h => HC.out (by rw [h.2]; simp))]
          simp
      · have ha1 : (a == (y : Int) + n) = false := by simpa using ha
        have HA := Lib.hid ha
        clear ha
        go_wp2
        go_quiet (fail)
        clear w1 w2 w3 w4
        go_wp2
        go_ret
        refine ⟨ret_int ?_, _, World.drewN_drewN ..⟩
        rw [HR.out, HS.out, if_neg (fun h => HA.out (by rw [h.1]; simp))]
        simp
    · have w7 : decide ((x : Int) + (n : Int) < (nb : Int)) = false := by simp; omega
      have hxe : x + n = nb := by omega
      have HX := Lib.hid hxe
      clear hxe k1 k2
      go_wp2
      go_quiet (fail)
      clear w1 w4
      go_wp2
      go_ret
      refine ⟨ret_int ?_, _, World.drewN_drewN ..⟩
      rw [HR.out, HX.out, List.drop_eq_nil_of_le (by omega : ko.length ≤ nb)]
      simp [runLen]
end Go.Proofs.Ytnoloihdcmgbaaa
