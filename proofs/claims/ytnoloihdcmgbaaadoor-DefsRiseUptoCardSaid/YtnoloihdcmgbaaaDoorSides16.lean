/- The walks of the statements' list and of the document's Same (layer 16). -/
import Derived.Test.YtnoloihdcmgbaaaDoorMergeC
import Derived.Test.YtnoloihdcmgbaaaDoorSame02
namespace Go.Proofs.YtnoloihdcmgbaaaDoor
open Go.RowKit Go.PlainAid Go.Maps Go.Sort
set_option linter.all false
set_option linter.deprecated false
set_option maxRecDepth 100000
theorem infoREntry : (Tryd.prog.info? 72).map (fun i => (i.zero, i.size, i.bytes)) = some (some (.agg #[.string ByteArray.empty, .string ByteArray.empty]), 2, 32) := by kernel_rfl
theorem rd_RE {w0 w1 : World} {base n : Nat} {v : Value} {es : List (Bs × Bs)} (h : w0.ownsRow base 72 2 v n (es.flatMap cellsE)) (hn : es.length = n) (hb : Below w0.heap.size w0 w1) : Rd (· < w1.heap.size) w1 v (es.map dE) :=
  (Rd.of_own (ok := (· < _)) h (by simpa using hn) (repall_E _ _ _) (fun k hk => (h.lt k hk).2)).step (fun k hk _ => hb.block k hk) (fun k hk _ => Nat.lt_of_lt_of_le hk hb.size)
set_option maxHeartbeats 1000000 in
theorem list16_calls (v : Value) (es : List (Bs × Bs)) (w : World) (hR : Rd (· < w.heap.size) w v (es.map dE)) (hn : es.length ≤ 4194304) :
    Calls Tryd.prog 18 #[v] w fun e w' => ∃ v', e = .returned v' ∧ w'.ownsRow w.heap.size 72 2 v' es.length (es.flatMap cellsE) ∧ Below w.heap.size w w' := by
  obtain ⟨A, c, rfl, hc, _⟩ := hR.form
  rw [List.length_map] at *
  have HR := Lib.hid hR
  clear hR
  go_enter Tryd.func18, Tryd.ntmps18
  go_wp2
  go_loopw [3, 7] (fun vo vi wr => ∃ i : Nat, i ≤ es.length ∧ vi = .int .i64 i ∧ wr.ownsRow w.heap.size 72 2 vo i ((es.take i).flatMap cellsE) ∧ Below w.heap.size w wr) (fun _ vi _ => es.length - (intOf vi).toNat)
  case atStart => exact ⟨0, Nat.zero_le _, rfl, World.ownsRow_nil _ _ _ _, Below.refl _ _⟩
  case round =>
    obtain ⟨i, hi, rfl, hor, hB⟩ := hrel
    by_cases hlt : i < es.length
    · obtain ⟨bb, o, rfl, hokb, hbl2, c0', c1'⟩ := HR.out.e_at hlt
      have c0 := below_at' hB hbl2 c0'
      have c1 := below_at' hB hbl2 c1'
      have htk : es.take (i + 1) = es.take i ++ [es[i]] := by rw [List.take_succ_eq_append_getElem hlt]
      have HTK := Lib.hid htk
      clear c0' c1' htk
      generalize es[i] = p at *
      go_wp2_with (at_builtin; go_must (refine app_one (w0 := w) w.heap.size rfl _ _ 40 72 rfl Tryd.underlying40 infoREntry rfl (by decide) (by decide) [.string ⟨p.1.toArray⟩, .string ⟨p.2.toArray⟩] rfl rfl rfl (by simp [Value.oneCell']) (by exact hor) hB hB.size (by omega) ?_); intro v' w7 hown' hbe' _ _)
      go_roundw
      case rel => exact ⟨i + 1, by omega, by go_num, by rw [HTK.out, List.flatMap_append, List.flatMap_singleton]; exact hown', hbe'⟩
      case measure => simp [intOf]; omega
    · have hie : i = es.length := by omega
      rw [hie, List.take_length] at hor
      have HOR := Lib.hid hor
      clear hor
      go_wp2
      go_ret
      exact ⟨_, rfl, HOR.out, hB⟩
set_option maxHeartbeats 1000000 in
theorem same16_calls (va vb : Value) (a : List (Bs × Bs)) (w : World) (hA : Rd (· < w.heap.size) w va (a.map dE)) (hB : Rd (· < w.heap.size) w vb (a.map dE)) :
    Calls Tryd.prog 17 #[va, vb] w fun e w' => e = .returned (.bool true) ∧ ∃ q, w' = w.drewN q := by
  obtain ⟨A, ca, rfl, hca, hma⟩ := hA.form
  obtain ⟨B, cb, rfl, hcb, hmb⟩ := hB.form
  simp only [List.length_map] at *
  have HA := Lib.hid hA
  have HB := Lib.hid hB
  clear hA hB
  go_enter Tryd.func17, Tryd.ntmps17
  go_wp2
  go_loopw [13] (fun vi wr => ∃ i : Nat, i ≤ a.length ∧ vi = .int .i64 i ∧ ∃ q, wr = w.drewN q)
    (fun vi _ => a.length - (intOf vi).toNat)
  case atStart => exact ⟨0, Nat.zero_le _, rfl, 0, rfl⟩
  case round =>
    obtain ⟨i, hi, rfl, q, rfl⟩ := hrel
    by_cases hlt : i < a.length
    · obtain ⟨ba, oa, rfl, _, _, x0, x1⟩ := HA.out.e_at hlt
      obtain ⟨bb, ob, rfl, _, _, y0, y1⟩ := HB.out.e_at hlt
      generalize a[i] = p at *
      have bq1 := beq_t (rfl : (⟨p.1.toArray⟩ : ByteArray) = ⟨p.1.toArray⟩)
      have bq2 := beq_t (rfl : (⟨p.2.toArray⟩ : ByteArray) = ⟨p.2.toArray⟩)
      go_wp2
      go_quiet (fail)
      go_wp2
      go_roundw
      case rel => exact ⟨i + 1, by omega, by go_num, _, rfl⟩
      case measure => simp [intOf]; omega
    · go_wp2
      go_ret
      exact ⟨rfl, _, rfl⟩
theorem rd_enc {w0 w1 : World} {base n : Nat} {v : Value} {K : List Bs} (h : w0.ownsRow base 9 1 v n (K.map encStr)) (hn : K.length = n) (hb : Below w0.heap.size w0 w1) : Rd (· < w1.heap.size) w1 v ((K.map fun k => (⟨k.toArray⟩ : ByteArray)).map D.str) := by
  have hke : K.map encStr = (K.map fun k => (⟨k.toArray⟩ : ByteArray)).map Value.string := by rw [List.map_map]; exact List.map_congr_left (fun _ _ => rfl)
  rw [hke] at h
  exact rd_row h (by simpa using hn) hb
theorem less_t {x y : Bs} (h : x < y) : Op.bytesLess (ByteArray.mk x.toArray).toList (ByteArray.mk y.toArray).toList = true := by
  rw [bytesLess_eq, ByteArray.toList_eq, ByteArray.toList_eq]; simpa using h
theorem rise_at {l : List Bs} (h : l.Pairwise (· < ·)) {i : Nat} (h0 : 0 < i) (hi : i < l.length) : l[i - 1]'(by omega) < l[i] := List.pairwise_iff_getElem.1 h (i - 1) i (by omega) hi (by omega)
end Go.Proofs.YtnoloihdcmgbaaaDoor
