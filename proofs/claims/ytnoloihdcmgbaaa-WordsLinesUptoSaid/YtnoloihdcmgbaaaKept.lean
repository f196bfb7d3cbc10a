/- The walk of weave.kept. -/
import Derived.Test.YtnoloihdcmgbaaaPairs
namespace Go.Proofs.Ytnoloihdcmgbaaa
open Go.RowKit Go.PlainAid
set_option linter.unusedVariables false

def putKept (l : List Int) (p : Nat × Nat) : List Int := l.set p.1 (p.2 : Int)
/-- Where a side keeps each place of the base; below 0: nowhere. -/
def keptL (n : Nat) (ps : List (Nat × Nat)) : List Int := ps.foldl putKept (List.replicate n (-1))
theorem keptL_len (n : Nat) (ps : List (Nat × Nat)) : (keptL n ps).length = n := by
  unfold keptL
  suffices ∀ l : List Int, (ps.foldl putKept l).length = l.length by rw [this]; simp
  induction ps with
  | nil => intro l; rfl
  | cons p ps ih => intro l; rw [List.foldl_cons, ih]; simp [putKept]
theorem keptL_snoc (n : Nat) (ps : List (Nat × Nat)) (p : Nat × Nat) : keptL n (ps ++ [p]) = putKept (keptL n ps) p := by simp [keptL]
theorem flat_pair (ps : List (Nat × Nat)) (j : Nat) (hj : j < ps.length) : (ps.flatMap cellsPair)[j * 2]? = some (.int .i64 (ps[j].1 : Int)) ∧ (ps.flatMap cellsPair)[j * 2 + 1]? = some (.int .i64 (ps[j].2 : Int)) := by
  induction ps generalizing j with
  | nil => simp at hj
  | cons p ps ih =>
    rw [List.flatMap_cons]
    cases j with
    | zero => simp [cellsPair]
    | succ j =>
      have h := ih j (by simpa using hj)
      have e1 : (j + 1) * 2 = j * 2 + 1 + 1 := by omega
      rw [e1]
      constructor
      · simpa [cellsPair] using h.1
      · simpa [cellsPair] using h.2
theorem flat_pair_len (ps : List (Nat × Nat)) : (ps.flatMap cellsPair).length = ps.length * 2 := by
  induction ps with
  | nil => rfl
  | cons p ps ih => rw [List.flatMap_cons, List.length_append, ih]; simp [cellsPair]; omega

set_option maxRecDepth 100000 in
set_option maxHeartbeats 2000000 in
theorem kept_calls (va vb : Value) (za zb : List Int) (w : World) (hla : za.length ≤ 1048575) (hlb : zb.length ≤ 1048575) (hA : Rd (· < w.heap.size) w va (za.map (D.int .i64))) (hB : Rd (· < w.heap.size) w vb (zb.map (D.int .i64))) :
    Calls Try.prog 48 #[va, vb] w fun e w' => ∃ g, e = .returned (.slice (some ⟨g, 0, none⟩) za.length za.length) ∧ w'.ownsRow w.heap.size 3 1 (.slice (some ⟨g, 0, none⟩) za.length za.length) za.length ((keptL za.length (pairs za zb)).map (Value.int .i64)) ∧ Below w.heap.size w w' := by
  obtain ⟨A, ca, hva, hca, _⟩ := hA.form
  simp only [List.length_map] at hva hca
  subst hva
  obtain ⟨i0, hi, hz0, hz1, hz2⟩ := info_parts infoInt
  have HA := Lib.hid hA
  have HB := Lib.hid hB
  clear hA hB
  go_enter Try.func48, Try.ntmps48
  go_wp2_with (at_make; go_must (refine wpList_make_full _ rfl _ _ 39 rfl w.heap.size 3 i0 _ 1 Try.underlying39 hi hz0 hz1 .i64 .i64 _ _ za.length rfl rfl rfl rfl (by rw [hz2]; omega) (by simp only [maxLen]; omega) (Nat.le_refl _) ?_); intro w1 hown hgr)
  have hB1 : Below w.heap.size w w1 := (Below.refl _ _).grown hgr (Nat.le_refl _) (fun k hk => by cases hk)
  rw [made_one rfl] at hown
  clear hgr
  go_loopw [6, 14] (fun _ vi wr => ∃ k : Nat, k ≤ za.length ∧ vi = .int .i64 k ∧ wr.ownsRow w.heap.size 3 1 (.slice (some ⟨w.heap.size, 0, none⟩) za.length za.length) za.length ((List.replicate k (-1 : Int) ++ List.replicate (za.length - k) (0 : Int)).map (Value.int .i64)) ∧ Below w.heap.size w wr)
    (fun _ vi _ => za.length - (intOf vi).toNat)
  case atStart => exact ⟨0, Nat.zero_le _, rfl, by simpa using hown, hB1⟩
  case round =>
    obtain ⟨k, hk, rfl, hor, hBr⟩ := hrel
    clear hown hB1
    by_cases hlt : k < za.length
    · have hcq : ∃ v, wr.cell? ⟨w.heap.size, k, none⟩ = some v := ⟨_, by rw [hor.cellAt k (by omega), List.getElem?_map, List.getElem?_eq_getElem (by simp; omega)]; rfl⟩
      obtain ⟨vq, hcq⟩ := hcq
      have hfq : wr.frozen? ⟨w.heap.size, k, none⟩ = false := hor.frozenAt k
      go_wp2
      go_roundw
      case rel =>
        refine ⟨k + 1, by omega, by go_num, ?_, hBr.setCell (Nat.le_refl _) _⟩
        have h1 := (hor.stored k (.int .i64 (-1))).1
        have h2 : ((List.replicate k (-1 : Int) ++ List.replicate (za.length - k) (0 : Int)).map (Value.int .i64)).set k (.int .i64 (-1)) = (List.replicate (k + 1) (-1 : Int) ++ List.replicate (za.length - (k + 1)) (0 : Int)).map (Value.int .i64) := by
          rw [← List.map_set]
          congr 1
          rw [List.set_append_right _ _ (by simp), show za.length - k = (za.length - (k + 1)) + 1 from by omega, List.replicate_succ, List.length_replicate, Nat.sub_self, List.set_cons_zero, List.replicate_succ' (n := k)]
          simp
        rw [h2] at h1
        exact h1
      case measure => simp [intOf]; omega
    · have hkl : k = za.length := by omega
      subst hkl
      have hor2 : wr.ownsRow w.heap.size 3 1 (.slice (some ⟨w.heap.size, 0, none⟩) za.length za.length) za.length ((keptL za.length []).map (Value.int .i64)) := by simpa [keptL] using hor
      clear hor
      have hlt0 : w.heap.size < wr.heap.size := (hor2.lt _ rfl).2
      have hrA := HA.out.step (ok' := (· < wr.heap.size)) (w1 := wr) (fun k hk _ => hBr.block k hk) (fun k hk _ => by omega)
      have hrB := HB.out.step (ok' := (· < wr.heap.size)) (w1 := wr) (fun k hk _ => hBr.block k hk) (fun k hk _ => by omega)
      have HA2 := Lib.hid hrA
      have HB2 := Lib.hid hrB
      clear hrA hrB hlt
      go_wp2_with (go_at_call 71; go_must (refine (Pairs_calls _ _ za zb wr hla hlb HA2.out HB2.out).mono ?_); rintro e w2 ⟨v, rfl, hp, hb2⟩; obtain ⟨A2, c2, rfl⟩ := own_slice hp)
      have hb2' : Below w.heap.size w w2 := hBr.trans (hb2.mono (by omega))
      have hor3 := own_at hor2 (hb2.block w.heap.size hlt0)
      have hlen : (pairs za zb).length ≤ 1048575 := by have := prs_len za 0 0 zb; unfold pairs; omega
      have hbd : ∀ j (hj : j < (pairs za zb).length), (pairs za zb)[j].1 < za.length := fun j hj => by
        have h1 := prs_bounds za 0 0 zb (pairs za zb)[j] (List.getElem_mem hj)
        omega
      clear hor2 hb2 hBr HA2 HB2
      generalize hps : pairs za zb = ps at *
      have HPS := Lib.hid hps
      clear hps
      go_loopw [25] (fun vi wr => ∃ j : Nat, j ≤ ps.length ∧ vi = .int .i64 j ∧ wr.ownsRow w.heap.size 3 1 (.slice (some ⟨w.heap.size, 0, none⟩) za.length za.length) za.length ((keptL za.length (ps.take j)).map (Value.int .i64)) ∧
          wr.ownsRow (w.heap.size + 1) 115 2 (.slice A2 ps.length c2) ps.length (ps.flatMap cellsPair) ∧ Below w.heap.size w wr)
        (fun vi _ => ps.length - (intOf vi).toNat)
      case atStart => exact ⟨0, Nat.zero_le _, rfl, hor3, own_lower hp (by omega), hb2'⟩
      case round =>
        obtain ⟨j, hj, rfl, hor4, hp4, hB4⟩ := hrel
        clear hor3 hp hb2' hlt0
        by_cases hlt : j < ps.length
        · obtain ⟨g, cap, hv, hg1, hg2⟩ := hp4.form (by omega)
          injection hv with hA2 _ hcc
          subst hA2
          have h1 := hp4.cellAt (j * 2) (by omega)
          have h2 := hp4.cellAt (j * 2 + 1) (by omega)
          rw [(flat_pair ps j hlt).1] at h1
          rw [(flat_pair ps j hlt).2] at h2
          have hbj := hbd j hlt
          have hsn : ps.take (j + 1) = ps.take j ++ [ps[j]] := by rw [List.take_succ_eq_append_getElem hlt]
          generalize ps[j] = q at *
          obtain ⟨qa, qb⟩ := q
          simp only [] at h1 h2 hbj
          have hcq : ∃ v, wr.cell? ⟨w.heap.size, qa, none⟩ = some v := ⟨_, by rw [hor4.cellAt qa (by omega), List.getElem?_map, List.getElem?_eq_getElem (by rw [keptL_len]; omega)]; rfl⟩
          obtain ⟨vq, hcq0⟩ := hcq
          have hcq : ∀ o, (wr.alloc o).cell? ⟨w.heap.size, qa, none⟩ = some vq := fun o => (World.cell?_of_block (a := ⟨w.heap.size, qa, none⟩) (Below.heap_alloc wr o _ (hor4.lt _ rfl).2)).trans hcq0
          have hfq : ∀ o, (wr.alloc o).frozen? ⟨w.heap.size, qa, none⟩ = false := fun o => (World.frozen?_of_block (a := ⟨w.heap.size, qa, none⟩) (Below.heap_alloc wr o _ (hor4.lt _ rfl).2)).trans (hor4.frozenAt qa)
          clear hcq0
          have HS := Lib.hid hsn
          have HBD := Lib.hid hbd
          clear hsn hbd
          have hq1 : (qa : Int) < za.length := by omega
          have hgw : g < wr.heap.size := hg2
          go_wp2
          go_roundw
          case rel =>
            refine ⟨j + 1, by omega, by go_num, ?_, ?_, (hB4.alloc (by have := (hor4.lt _ rfl).2; omega) _).setCell (Nat.le_refl _) _⟩
            · rw [HS.out, keptL_snoc]
              have := ((hor4.alloc (.cells #[.int .i64 (qa : Int), .int .i64 (qb : Int)] 115)).stored qa (.int .i64 (qb : Int))).1
              rw [← List.map_set] at this
              exact this
            · exact own_at (hp4.alloc _) (Below.heap_setCell _ _ _ _ (by simp only []; omega))
          case measure => simp [intOf]; omega
        · have hjl : j = ps.length := by omega
          subst hjl
          go_wp2
          go_ret
          rw [List.take_length, ← HPS.out] at hor4
          exact ⟨_, rfl, hor4, hB4⟩
end Go.Proofs.Ytnoloihdcmgbaaa
