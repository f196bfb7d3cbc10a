/- The walk of weave.Clean. -/
import Derived.Test.YtnoloihdcmgbaaaChunksP
namespace Go.Proofs.Ytnoloihdcmgbaaa
open Go.RowKit Go.PlainAid
set_option linter.unusedVariables false

theorem flat_ch (cs : List Ch) (i : Nat) (hi : i < cs.length) (k : Nat) (hk : k < 7) : (cs.flatMap cellsCh)[i * 7 + k]? = (cellsCh cs[i])[k]? := by
  induction cs generalizing i with
  | nil => simp at hi
  | cons c cs ih =>
    rw [List.flatMap_cons]
    cases i with
    | zero => rw [List.getElem?_append_left (by simp [cellsCh]; omega)]; simp
    | succ i =>
      rw [List.getElem?_append_right (by simp [cellsCh]; omega)]
      have := ih i (by simpa using hi)
      rw [show (i + 1) * 7 + k - (cellsCh c).length = i * 7 + k by simp [cellsCh]; omega, this]
      simp
theorem flat_ch_len (cs : List Ch) : (cs.flatMap cellsCh).length = cs.length * 7 := by
  induction cs with
  | nil => rfl
  | cons c cs ih => rw [List.flatMap_cons, List.length_append, ih]; simp [cellsCh]; omega
/-- The cells of a row of chunks. -/
theorem row_ch {w : World} {base g c : Nat} {cs : List Ch} (h : w.ownsRow base 58 7 (.slice (some ⟨g, 0, none⟩) cs.length c) cs.length (cs.flatMap cellsCh)) (i : Nat) (hi : i < cs.length) (k : Nat) (hk : k < 7) : w.cell? ⟨g, i * 7 + k, none⟩ = (cellsCh cs[i])[k]? := by
  rw [← flat_ch cs i hi k hk]
  have := h.cellAt (i * 7 + k) (by omega)
  exact this

set_option maxRecDepth 100000 in
set_option maxHeartbeats 400000 in
theorem Clean1_calls (c : Ch) (w : World) : Calls Try.prog 54 #[valCh c] w fun e w' => e = .returned (.bool (c.out == 5)) ∧ Below w.heap.size w w' := by
  obtain ⟨b0, b1, o0, o1, t0, t1, oc⟩ := c
  simp only [valCh, cellsCh]
  go_enter Try.func54, Try.ntmps54
  go_wp2
  go_ret
  exact ⟨ret_bool (by rw [Bool.eq_iff_iff]; simp only [beq_iff_eq]; omega), (Below.refl _ _).alloc (Nat.le_refl _) _⟩

set_option maxRecDepth 100000 in
set_option maxHeartbeats 2000000 in
theorem IndexChunk_calls (A : Option Addr) (c : Nat) (cs : List Ch) (w : World) (base : Nat) (hl : cs.length ≤ 4194304) (h : w.ownsRow base 58 7 (.slice A cs.length c) cs.length (cs.flatMap cellsCh)) :
    Calls Try.prog 73 #[.slice A cs.length c, .func (.func 54) #[] #[]] w fun e w' => ∃ r : Int, e = .returned (.int .i64 r) ∧ decide (0 ≤ r) = cs.any (fun c => c.out == 5) ∧ Below w.heap.size w w' := by
  have H := Lib.hid h
  clear h
  go_enter Try.func73, Try.ntmps73
  go_wp2
  go_loopw [8] (fun v wr => ∃ i : Nat, v = .int .i64 i ∧ i ≤ cs.length ∧ (cs.take i).any (fun c => c.out == 5) = false ∧ Below w.heap.size w wr)
    (fun v _ => cs.length - (intOf v).toNat)
  case atStart => exact ⟨0, rfl, Nat.zero_le _, rfl, Below.refl _ _⟩
  case round =>
    obtain ⟨i, rfl, hi, ha, hB⟩ := hrel
    have HA := Lib.hid ha
    clear ha
    by_cases hlt : i < cs.length
    · obtain ⟨g, cap, hv, hg1, hg⟩ := H.out.form (by omega)
      obtain ⟨hA2, _, hcc⟩ := Value.slice.inj hv
      subst hA2
      have hrow := own_at H.out (hB.block g hg)
      have d0 := row_ch hrow i hlt 0 (by omega)
      have d1 := row_ch hrow i hlt 1 (by omega)
      have d2 := row_ch hrow i hlt 2 (by omega)
      have d3 := row_ch hrow i hlt 3 (by omega)
      have d4 := row_ch hrow i hlt 4 (by omega)
      have d5 := row_ch hrow i hlt 5 (by omega)
      have d6 := row_ch hrow i hlt 6 (by omega)
      have hs : cs.take (i + 1) = cs.take i ++ [cs[i]] := by rw [List.take_succ_eq_append_getElem hlt]
      have hany : cs[i].out = 5 → cs.any (fun c => c.out == 5) = true := fun e => List.any_eq_true.2 ⟨cs[i], List.getElem_mem hlt, by simp [e]⟩
      generalize cs[i] = x at *
      obtain ⟨b0, b1, o0, o1, t0, t1, oc⟩ := x
      simp only [cellsCh, List.getElem?_cons_zero, List.getElem?_cons_succ, Nat.add_zero] at d0 d1 d2 d3 d4 d5 d6
      have HS := Lib.hid hs
      have HN := Lib.hid hany
      clear hs hany hrow
      by_cases h5 : oc = 5
      · have h5' : (oc == 5) = true := by simp [h5]
        have H5 := Lib.hid h5
        clear h5
        go_wp2_with (go_at_call 54; go_must (refine (Clean1_calls ⟨b0, b1, o0, o1, t0, t1, oc⟩ wr).mono ?_); rintro e w2 ⟨rfl, hb2⟩)
        go_ret
        exact ⟨_, rfl, by rw [HN.out H5.out]; simp, below_to hB hB.size hb2⟩
      · have h5' : (oc == 5) = false := by simp [h5]
        have H5 := Lib.hid h5
        clear h5
        go_wp2_with (go_at_call 54; go_must (refine (Clean1_calls ⟨b0, b1, o0, o1, t0, t1, oc⟩ wr).mono ?_); rintro e w2 ⟨rfl, hb2⟩)
        go_roundw
        case rel => exact ⟨i + 1, by go_num, by omega, by rw [HS.out, List.any_append, HA.out]; simp [H5.out], below_to hB hB.size hb2⟩
        case measure => simp [intOf]; omega
    · go_wp2
      go_ret
      have hie : i = cs.length := by omega
      have := HA.out
      rw [hie, List.take_length] at this
      exact ⟨_, rfl, by rw [this]; simp, hB⟩

set_option maxRecDepth 100000 in
set_option maxHeartbeats 2000000 in
theorem ContainsChunk_calls (A : Option Addr) (c : Nat) (cs : List Ch) (w : World) (base : Nat) (hl : cs.length ≤ 4194304) (h : w.ownsRow base 58 7 (.slice A cs.length c) cs.length (cs.flatMap cellsCh)) :
    Calls Try.prog 53 #[.slice A cs.length c, .func (.func 54) #[] #[]] w fun e w' => e = .returned (.bool (cs.any (fun c => c.out == 5))) ∧ Below w.heap.size w w' := by
  generalize hc : cs.any (fun c => c.out == 5) = r
  go_enter Try.func53, Try.ntmps53
  go_wp2_with (go_at_call 73; go_must (refine (IndexChunk_calls A c cs _ base hl h).mono ?_); rintro e w2 ⟨k, rfl, hk, hb2⟩)
  rw [hc] at hk
  go_ret
  exact ⟨rfl, hb2⟩

set_option maxRecDepth 100000 in
set_option maxHeartbeats 2000000 in
theorem Clean_calls (v : Value) (cs : List Ch) (w : World) (base : Nat) (hl : cs.length ≤ 4194304) (h : w.ownsRow base 58 7 v cs.length (cs.flatMap cellsCh)) :
    Calls Try.prog 32 #[v] w fun e w' => e = .returned (.bool (!cs.any (fun c => c.out == 5))) ∧ Below w.heap.size w w' := by
  obtain ⟨A, cap, rfl⟩ := own_slice h
  generalize hc : cs.any (fun c => c.out == 5) = r
  go_enter Try.func32, Try.ntmps32
  go_wp2_with (go_at_call 53; go_must (refine (ContainsChunk_calls A cap cs _ base hl h).mono ?_); rintro e w2 ⟨rfl, hb2⟩)
  go_ret
  exact ⟨rfl, hb2⟩
end Go.Proofs.Ytnoloihdcmgbaaa
