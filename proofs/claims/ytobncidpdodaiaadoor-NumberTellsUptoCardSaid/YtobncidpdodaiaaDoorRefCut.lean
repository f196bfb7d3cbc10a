/- The walk of the document's Cut (layer 3). -/
import Derived.Test.YtobncidpdodaiaaDoorTok
import Derived.Test.YtobncidpdodaiaaDoorKit2
import Derived.Test.YtobncidpdodaiaaDoorStr
import Derived.StillTailTactics
import Derived.Deep.DeepCutAuto
import Derived.Laws.OwnMore
/- The walk of the document's Class (layer 1). -/
namespace Go.Proofs.YtobncidpdodaiaaDoor
open Go.RowKit Go.PlainAid
set_option linter.all false
set_option linter.deprecated false
set_option maxRecDepth 100000
set_option maxHeartbeats 2000000 in
theorem refclass_calls (c : Int) (w : World) : Calls Tryd.prog 67 #[.int .i64 c] w fun e w' => e = .returned (.int .i64 (cls c)) ∧ w = w' := by
  have hc : c = 9 ∨ c = 10 ∨ c = 13 ∨ c = 32 ∨ (c ≤ 8) ∨ (11 ≤ c ∧ c ≤ 12) ∨ (14 ≤ c ∧ c ≤ 31) ∨ (33 ≤ c ∧ c ≤ 47) ∨ (48 ≤ c ∧ c ≤ 57) ∨ (58 ≤ c ∧ c ≤ 64) ∨ (65 ≤ c ∧ c ≤ 90) ∨ (91 ≤ c ∧ c ≤ 96) ∨ (97 ≤ c ∧ c ≤ 122) ∨ (123 ≤ c ∧ c ≤ 126) ∨ (127 ≤ c) := by omega
  rcases hc with rfl | rfl | rfl | rfl | h | h | h | h | h | h | h | h | h | h | h
  · go_enter Tryd.func67, Tryd.ntmps67
    go_wp2
    go_ret
    exact ⟨ret_int (by decide), rfl⟩
  · go_enter Tryd.func67, Tryd.ntmps67
    go_wp2
    go_ret
    exact ⟨ret_int (by decide), rfl⟩
  · go_enter Tryd.func67, Tryd.ntmps67
    go_wp2
    go_ret
    exact ⟨ret_int (by decide), rfl⟩
  · go_enter Tryd.func67, Tryd.ntmps67
    go_wp2
    go_ret
    exact ⟨ret_int (by decide), rfl⟩
  · have hk : cls c = 1 := by unfold cls; (repeat' split) <;> omega
    rw [hk]
    have q10 : (c == 10) = false := beq_eq_false_iff_ne.2 (by omega)
    have q13 : (c == 13) = false := beq_eq_false_iff_ne.2 (by omega)
    have q9 : (c == 9) = false := beq_eq_false_iff_ne.2 (by omega)
    have q32 : (c == 32) = false := beq_eq_false_iff_ne.2 (by omega)
    have g33 : decide (33 ≤ c) = false := by simp; omega
    have g58 : decide (58 ≤ c) = false := by simp; omega
    have g91 : decide (91 ≤ c) = false := by simp; omega
    have g123 : decide (123 ≤ c) = false := by simp; omega
    have l47 : decide (c ≤ 47) = true := by simp; omega
    have l64 : decide (c ≤ 64) = true := by simp; omega
    have l96 : decide (c ≤ 96) = true := by simp; omega
    have l126 : decide (c ≤ 126) = true := by simp; omega
    clear h hk
    go_enter Tryd.func67, Tryd.ntmps67
    go_wp2
    go_ret
    exact ⟨rfl, rfl⟩
  · have hk : cls c = 1 := by unfold cls; (repeat' split) <;> omega
    rw [hk]
    have q10 : (c == 10) = false := beq_eq_false_iff_ne.2 (by omega)
    have q13 : (c == 13) = false := beq_eq_false_iff_ne.2 (by omega)
    have q9 : (c == 9) = false := beq_eq_false_iff_ne.2 (by omega)
    have q32 : (c == 32) = false := beq_eq_false_iff_ne.2 (by omega)
    have g33 : decide (33 ≤ c) = false := by simp; omega
    have g58 : decide (58 ≤ c) = false := by simp; omega
    have g91 : decide (91 ≤ c) = false := by simp; omega
    have g123 : decide (123 ≤ c) = false := by simp; omega
    have l47 : decide (c ≤ 47) = true := by simp; omega
    have l64 : decide (c ≤ 64) = true := by simp; omega
    have l96 : decide (c ≤ 96) = true := by simp; omega
    have l126 : decide (c ≤ 126) = true := by simp; omega
    clear h hk
    go_enter Tryd.func67, Tryd.ntmps67
    go_wp2
    go_ret
    exact ⟨rfl, rfl⟩
  · have hk : cls c = 1 := by unfold cls; (repeat' split) <;> omega
    rw [hk]
    have q10 : (c == 10) = false := beq_eq_false_iff_ne.2 (by omega)
    have q13 : (c == 13) = false := beq_eq_false_iff_ne.2 (by omega)
    have q9 : (c == 9) = false := beq_eq_false_iff_ne.2 (by omega)
    have q32 : (c == 32) = false := beq_eq_false_iff_ne.2 (by omega)
    have g33 : decide (33 ≤ c) = false := by simp; omega
    have g58 : decide (58 ≤ c) = false := by simp; omega
    have g91 : decide (91 ≤ c) = false := by simp; omega
    have g123 : decide (123 ≤ c) = false := by simp; omega
    have l47 : decide (c ≤ 47) = true := by simp; omega
    have l64 : decide (c ≤ 64) = true := by simp; omega
    have l96 : decide (c ≤ 96) = true := by simp; omega
    have l126 : decide (c ≤ 126) = true := by simp; omega
    clear h hk
    go_enter Tryd.func67, Tryd.ntmps67
    go_wp2
    go_ret
    exact ⟨rfl, rfl⟩
  · have hk : cls c = 4 := by unfold cls; (repeat' split) <;> omega
    rw [hk]
    have q10 : (c == 10) = false := beq_eq_false_iff_ne.2 (by omega)
    have q13 : (c == 13) = false := beq_eq_false_iff_ne.2 (by omega)
    have q9 : (c == 9) = false := beq_eq_false_iff_ne.2 (by omega)
    have q32 : (c == 32) = false := beq_eq_false_iff_ne.2 (by omega)
    have g33 : decide (33 ≤ c) = true := by simp; omega
    have g58 : decide (58 ≤ c) = false := by simp; omega
    have g91 : decide (91 ≤ c) = false := by simp; omega
    have g123 : decide (123 ≤ c) = false := by simp; omega
    have l47 : decide (c ≤ 47) = true := by simp; omega
    have l64 : decide (c ≤ 64) = true := by simp; omega
    have l96 : decide (c ≤ 96) = true := by simp; omega
    have l126 : decide (c ≤ 126) = true := by simp; omega
    clear h hk
    go_enter Tryd.func67, Tryd.ntmps67
    go_wp2
    go_ret
    exact ⟨rfl, rfl⟩
  · have hk : cls c = 1 := by unfold cls; (repeat' split) <;> omega
    rw [hk]
    have q10 : (c == 10) = false := beq_eq_false_iff_ne.2 (by omega)
    have q13 : (c == 13) = false := beq_eq_false_iff_ne.2 (by omega)
    have q9 : (c == 9) = false := beq_eq_false_iff_ne.2 (by omega)
    have q32 : (c == 32) = false := beq_eq_false_iff_ne.2 (by omega)
    have g33 : decide (33 ≤ c) = true := by simp; omega
    have g58 : decide (58 ≤ c) = false := by simp; omega
    have g91 : decide (91 ≤ c) = false := by simp; omega
    have g123 : decide (123 ≤ c) = false := by simp; omega
    have l47 : decide (c ≤ 47) = false := by simp; omega
    have l64 : decide (c ≤ 64) = true := by simp; omega
    have l96 : decide (c ≤ 96) = true := by simp; omega
    have l126 : decide (c ≤ 126) = true := by simp; omega
    clear h hk
    go_enter Tryd.func67, Tryd.ntmps67
    go_wp2
    go_ret
    exact ⟨rfl, rfl⟩
  · have hk : cls c = 4 := by unfold cls; (repeat' split) <;> omega
    rw [hk]
    have q10 : (c == 10) = false := beq_eq_false_iff_ne.2 (by omega)
    have q13 : (c == 13) = false := beq_eq_false_iff_ne.2 (by omega)
    have q9 : (c == 9) = false := beq_eq_false_iff_ne.2 (by omega)
    have q32 : (c == 32) = false := beq_eq_false_iff_ne.2 (by omega)
    have g33 : decide (33 ≤ c) = true := by simp; omega
    have g58 : decide (58 ≤ c) = true := by simp; omega
    have g91 : decide (91 ≤ c) = false := by simp; omega
    have g123 : decide (123 ≤ c) = false := by simp; omega
    have l47 : decide (c ≤ 47) = false := by simp; omega
    have l64 : decide (c ≤ 64) = true := by simp; omega
    have l96 : decide (c ≤ 96) = true := by simp; omega
    have l126 : decide (c ≤ 126) = true := by simp; omega
    clear h hk
    go_enter Tryd.func67, Tryd.ntmps67
    go_wp2
    go_ret
    exact ⟨rfl, rfl⟩
  · have hk : cls c = 1 := by unfold cls; (repeat' split) <;> omega
    rw [hk]
    have q10 : (c == 10) = false := beq_eq_false_iff_ne.2 (by omega)
    have q13 : (c == 13) = false := beq_eq_false_iff_ne.2 (by omega)
    have q9 : (c == 9) = false := beq_eq_false_iff_ne.2 (by omega)
    have q32 : (c == 32) = false := beq_eq_false_iff_ne.2 (by omega)
    have g33 : decide (33 ≤ c) = true := by simp; omega
    have g58 : decide (58 ≤ c) = true := by simp; omega
    have g91 : decide (91 ≤ c) = false := by simp; omega
    have g123 : decide (123 ≤ c) = false := by simp; omega
    have l47 : decide (c ≤ 47) = false := by simp; omega
    have l64 : decide (c ≤ 64) = false := by simp; omega
    have l96 : decide (c ≤ 96) = true := by simp; omega
    have l126 : decide (c ≤ 126) = true := by simp; omega
    clear h hk
    go_enter Tryd.func67, Tryd.ntmps67
    go_wp2
    go_ret
    exact ⟨rfl, rfl⟩
  · have hk : cls c = 4 := by unfold cls; (repeat' split) <;> omega
    rw [hk]
    have q10 : (c == 10) = false := beq_eq_false_iff_ne.2 (by omega)
    have q13 : (c == 13) = false := beq_eq_false_iff_ne.2 (by omega)
    have q9 : (c == 9) = false := beq_eq_false_iff_ne.2 (by omega)
    have q32 : (c == 32) = false := beq_eq_false_iff_ne.2 (by omega)
    have g33 : decide (33 ≤ c) = true := by simp; omega
    have g58 : decide (58 ≤ c) = true := by simp; omega
    have g91 : decide (91 ≤ c) = true := by simp; omega
    have g123 : decide (123 ≤ c) = false := by simp; omega
    have l47 : decide (c ≤ 47) = false := by simp; omega
    have l64 : decide (c ≤ 64) = false := by simp; omega
    have l96 : decide (c ≤ 96) = true := by simp; omega
    have l126 : decide (c ≤ 126) = true := by simp; omega
    clear h hk
    go_enter Tryd.func67, Tryd.ntmps67
    go_wp2
    go_ret
    exact ⟨rfl, rfl⟩
  · have hk : cls c = 1 := by unfold cls; (repeat' split) <;> omega
    rw [hk]
    have q10 : (c == 10) = false := beq_eq_false_iff_ne.2 (by omega)
    have q13 : (c == 13) = false := beq_eq_false_iff_ne.2 (by omega)
    have q9 : (c == 9) = false := beq_eq_false_iff_ne.2 (by omega)
    have q32 : (c == 32) = false := beq_eq_false_iff_ne.2 (by omega)
    have g33 : decide (33 ≤ c) = true := by simp; omega
    have g58 : decide (58 ≤ c) = true := by simp; omega
    have g91 : decide (91 ≤ c) = true := by simp; omega
    have g123 : decide (123 ≤ c) = false := by simp; omega
    have l47 : decide (c ≤ 47) = false := by simp; omega
    have l64 : decide (c ≤ 64) = false := by simp; omega
    have l96 : decide (c ≤ 96) = false := by simp; omega
    have l126 : decide (c ≤ 126) = true := by simp; omega
    clear h hk
    go_enter Tryd.func67, Tryd.ntmps67
    go_wp2
    go_ret
    exact ⟨rfl, rfl⟩
  · have hk : cls c = 4 := by unfold cls; (repeat' split) <;> omega
    rw [hk]
    have q10 : (c == 10) = false := beq_eq_false_iff_ne.2 (by omega)
    have q13 : (c == 13) = false := beq_eq_false_iff_ne.2 (by omega)
    have q9 : (c == 9) = false := beq_eq_false_iff_ne.2 (by omega)
    have q32 : (c == 32) = false := beq_eq_false_iff_ne.2 (by omega)
    have g33 : decide (33 ≤ c) = true := by simp; omega
    have g58 : decide (58 ≤ c) = true := by simp; omega
    have g91 : decide (91 ≤ c) = true := by simp; omega
    have g123 : decide (123 ≤ c) = true := by simp; omega
    have l47 : decide (c ≤ 47) = false := by simp; omega
    have l64 : decide (c ≤ 64) = false := by simp; omega
    have l96 : decide (c ≤ 96) = false := by simp; omega
    have l126 : decide (c ≤ 126) = true := by simp; omega
    clear h hk
    go_enter Tryd.func67, Tryd.ntmps67
    go_wp2
    go_ret
    exact ⟨rfl, rfl⟩
  · have hk : cls c = 1 := by unfold cls; (repeat' split) <;> omega
    rw [hk]
    have q10 : (c == 10) = false := beq_eq_false_iff_ne.2 (by omega)
    have q13 : (c == 13) = false := beq_eq_false_iff_ne.2 (by omega)
    have q9 : (c == 9) = false := beq_eq_false_iff_ne.2 (by omega)
    have q32 : (c == 32) = false := beq_eq_false_iff_ne.2 (by omega)
    have g33 : decide (33 ≤ c) = true := by simp; omega
    have g58 : decide (58 ≤ c) = true := by simp; omega
    have g91 : decide (91 ≤ c) = true := by simp; omega
    have g123 : decide (123 ≤ c) = true := by simp; omega
    have l47 : decide (c ≤ 47) = false := by simp; omega
    have l64 : decide (c ≤ 64) = false := by simp; omega
    have l96 : decide (c ≤ 96) = false := by simp; omega
    have l126 : decide (c ≤ 126) = false := by simp; omega
    clear h hk
    go_enter Tryd.func67, Tryd.ntmps67
    go_wp2
    go_ret
    exact ⟨rfl, rfl⟩
end Go.Proofs.YtobncidpdodaiaaDoor
namespace Go.Proofs.YtobncidpdodaiaaDoor
open Go.RowKit Go.PlainAid
set_option linter.all false
set_option linter.deprecated false
set_option maxRecDepth 100000
/-- The tokens of the first bytes, and the last one's class. -/
def refG (s : ByteArray) : Nat → List ByteArray × Int
  | 0 => ([], 0)
  | i + 1 => let p := refG s i
    if p.1 ≠ [] ∧ cls (bt s i) = p.2 ∧ cls (bt s i) < 3 then (p.1.dropLast ++ [p.1.getLastD ByteArray.empty ++ s.extract i (i + 1)], cls (bt s i)) else (p.1 ++ [s.extract i (i + 1)], cls (bt s i))
theorem refG_succ (s : ByteArray) (i : Nat) : refG s (i + 1) = if (refG s i).1 ≠ [] ∧ cls (bt s i) = (refG s i).2 ∧ cls (bt s i) < 3 then ((refG s i).1.dropLast ++ [(refG s i).1.getLastD ByteArray.empty ++ s.extract i (i + 1)], cls (bt s i)) else ((refG s i).1 ++ [s.extract i (i + 1)], cls (bt s i)) := rfl
theorem refG_len (s : ByteArray) : ∀ i, (refG s i).1.length ≤ i
  | 0 => Nat.le_refl _
  | i + 1 => by
    have := refG_len s i
    rw [refG_succ]
    split
    · simp; omega
    · simp; omega
theorem refG_size (s : ByteArray) : ∀ i, ∀ x ∈ (refG s i).1, x.size ≤ i
  | 0, x, h => by simp [refG] at h
  | i + 1, x, h => by
    have ih := refG_size s i
    have he : (s.extract i (i + 1)).size ≤ 1 := by rw [ByteArray.size_extract]; omega
    rw [refG_succ] at h
    split at h
    · rename_i hc
      simp only [List.mem_append, List.mem_singleton] at h
      rcases h with h | h
      · have := ih x (List.dropLast_subset _ h); omega
      · subst h
        have hl : (refG s i).1.getLastD ByteArray.empty ∈ (refG s i).1 := by
          rw [List.getLastD_eq_getLast?, List.getLast?_eq_some_getLast hc.1]
          exact List.getLast_mem hc.1
        have := ih _ hl
        rw [ByteArray.size_append]; omega
    · simp only [List.mem_append, List.mem_singleton] at h
      rcases h with h | h
      · have := ih x h; omega
      · subst h; omega
theorem infoStrC : (Tryd.prog.info? 9).map (fun i => (i.zero, i.size, i.bytes)) = some (some (.string ⟨#[]⟩), 1, 16) := by kernel_rfl
set_option maxHeartbeats 2000000 in
theorem RefCut_calls (s : ByteArray) (w : World) (hs : s.size ≤ 1099511627776) :
    Calls Tryd.prog 49 #[.string s] w fun e w' => ∃ v, e = .returned v ∧ w'.ownsRow w.heap.size 9 1 v (refG s s.size).1.length ((refG s s.size).1.map Value.string) ∧ Below w.heap.size w w' := by
  have hb := get_bt s
  go_enter Tryd.func49, Tryd.ntmps49
  go_wp2
  go_loopw [3, 4, 5] (fun v la i wr => ∃ k : Nat, k ≤ s.size ∧ i = .int .i64 k ∧ la = .int .i64 (refG s k).2 ∧ wr.ownsRow w.heap.size 9 1 v (refG s k).1.length ((refG s k).1.map Value.string) ∧ Below w.heap.size w wr)
    (fun _ _ i _ => s.size - (intOf i).toNat)
  case atStart => exact ⟨0, Nat.zero_le _, rfl, rfl, World.ownsRow_nil _ _ _ _, Below.refl _ _⟩
  case round =>
    obtain ⟨k, hk, rfl, rfl, hown, hbe⟩ := hrel
    by_cases hlt : k < s.size
    · have hb1 := bt_nonneg s k
      have hb2 := bt_le s k
      have hl := refG_len s k
      have hstep := refG_succ s k
      have hsz := refG_size s k
      generalize hp : refG s k = p at *
      obtain ⟨out, la⟩ := p
      simp only [] at hown hl hstep hsz
      obtain ⟨VA, vc, rfl⟩ := own_slice hown
      have HS := Lib.hid hstep
      clear hstep hp
      have c4 : (out.length + 1) * 16 ≤ 140737488355328 := by omega
      have hbt := hb k hlt
      have c5 : w.heap.size ≤ wr.heap.size := hbe.size
      generalize hC : cls (bt s k) = C at *
      by_cases hj : out ≠ [] ∧ C = la ∧ C < 3
      · rw [if_pos hj] at HS
        obtain ⟨h0, h1, h2⟩ := hj
        have hpos : 0 < out.length := List.length_pos_iff.2 h0
        have hcl := refclass_calls (bt s k) wr
        rw [hC] at hcl
        have HCL := Lib.hid hcl
        have hz : out.getLastD ByteArray.empty = out[out.length - 1]'(by omega) := by
          rw [List.getLastD_eq_getLast?, List.getLast?_eq_getElem?, List.getElem?_eq_getElem (by omega)]; rfl
        have hzs := hsz _ (List.getElem_mem (show out.length - 1 < out.length by omega))
        have hset : (out.map Value.string).set (out.length - 1) (.string (out.getLastD ByteArray.empty ++ s.extract k (k + 1))) = (out.dropLast ++ [out.getLastD ByteArray.empty ++ s.extract k (k + 1)]).map Value.string := by
          rw [List.map_append, List.dropLast_eq_take]
          apply List.ext_getElem
          · simp; omega
          · intro j h1 h2
            simp only [List.length_set, List.length_map] at h1
            rw [List.getElem_set]
            split
            · rename_i e
              subst e
              rw [List.getElem_append_right (by simp)]
              simp
            · rename_i e
              rw [List.getElem_append_left (by simp; omega)]
              simp
        have hlen : (out.dropLast ++ [out.getLastD ByteArray.empty ++ s.extract k (k + 1)]).length = out.length := by simp; omega
        obtain ⟨g, hg⟩ : ∃ g, VA = some ⟨g, 0, none⟩ := by
          obtain ⟨g, cap, e, _, _⟩ := hown.form hpos
          exact ⟨g, (Value.slice.inj e).1⟩
        subst hg
        have hcell : wr.cell? ⟨g, out.length - 1, none⟩ = some (.string (out.getLastD ByteArray.empty)) := by
          rw [hown.cellAt _ (by omega), List.getElem?_map, List.getElem?_eq_getElem (by omega), hz]; rfl
        have hfr : wr.frozen? ⟨g, out.length - 1, none⟩ = false := hown.frozenAt _
        have hge := own_ge hown g rfl
        have hst := (hown.stored (out.length - 1) (.string (out.getLastD ByteArray.empty ++ s.extract k (k + 1)))).1
        rw [hset] at hst
        rw [← hz] at hzs
        have hes : (s.extract k (k + 1)).size ≤ 1 := by rw [ByteArray.size_extract]; omega
        have HSET := Lib.hid (by rw [HS.out, hlen]; exact ⟨hst, rfl⟩ : (wr.setCell ⟨g, out.length - 1, none⟩ (.string (out.getLastD ByteArray.empty ++ s.extract k (k + 1)))).ownsRow w.heap.size 9 1 (.slice (some ⟨g, 0, none⟩) out.length vc) (refG s (k + 1)).1.length ((refG s (k + 1)).1.map Value.string) ∧ (refG s (k + 1)).2 = C)
        generalize out.getLastD ByteArray.empty = z at *
        clear hst hset hlen hz hsz hcl hC hown h0 hl HS
        generalize out.length = n at *
        have t1 : decide (0 < n) = true := decide_eq_true hpos
        obtain rfl : C = la := h1
        have t2 : (C == C) = true := by simp
        have t3 : decide (C < 3) = true := decide_eq_true h2
        have e1 : IntKind.i64.wrap ((n : Int) - 1) = (n : Int) - 1 := IntWalk.i64_in _ (by omega)
        have e2 : ((n : Int) - 1).toNat = n - 1 := by omega
        have e3 : (0 : Int) ≤ (n : Int) - 1 := by omega
        have e4 : 1 ≤ n := hpos
        have e5 : (n : Int) - 1 < n := by omega
        have e10 : (1 : Int) ≤ n := by omega
        have e11 : decide ((n : Int) - 1 < n) = true := by simp; omega
        have e12 : decide ((0 : Int) ≤ (n : Int) - 1) = true := by simp; omega
        have e13 : n - 1 < n := by omega
        have e14 : (k : Int) ≤ (k : Int) + 1 := by omega
        have e15 : k + 1 ≤ s.size := by omega
        have e16 : decide ((k : Int) ≤ (k : Int) + 1) = true := by simp; omega
        have e17 : decide ((k : Int) + 1 ≤ s.size) = true := by simp; omega
        have e18 : decide ((0 : Int) ≤ k) = true := by simp
        have e6 : IntKind.i64.wrap ((k : Int) + 1) = (k : Int) + 1 := IntWalk.i64_in _ (by omega)
        have e7 : ((k : Int) + 1).toNat = k + 1 := by omega
        have e8 : (k : Int) + 1 ≤ s.size := by omega
        have e9 : (0 : Int) ≤ (k : Int) + 1 := by omega
        generalize hX : s.extract k (k + 1) = X at *
        have z1 : ¬ 9223372036854775807 < z.size + X.size := by omega
        go_upto_region 8 with (first
          | (go_at_call 67; refine HCL.out.mono ?_; rintro e w' ⟨rfl, rfl⟩))
        go_still_tail 17, (by kernel_rfl)
        change wpList _ _ _ _ _ wr.drew
        clear e1 e3 e5 e6 e7 e8 e9 e10 e11 e12 e14 e16 e17 e18
        go_wp2
        go_roundw
        case rel => exact ⟨k + 1, by omega, by go_num, by rw [HSET.out.2], by exact HSET.out.1, (Below.drew hbe).setCell (p := ⟨g, n - 1, none⟩) hge _⟩
        case measure => simp [intOf]; omega
      · rw [if_neg hj] at HS
        have hor : out.length = 0 ∨ (0 < out.length ∧ ¬ C = la) ∨ (0 < out.length ∧ C = la ∧ ¬ C < 3) := by
          rcases Nat.eq_zero_or_pos out.length with h | h
          · exact .inl h
          · by_cases h2 : C = la
            · exact .inr (.inr ⟨h, h2, fun h3 => hj ⟨fun e => by rw [e] at h; simp at h, h2, h3⟩⟩)
            · exact .inr (.inl ⟨h, h2⟩)
        have hcl := refclass_calls (bt s k) wr
        rw [hC] at hcl
        have HCL := Lib.hid hcl
        clear hj hC hcl
        rcases hor with h0 | ⟨h0, h1⟩ | ⟨h0, h1, h2⟩
        · have t1 : decide (0 < out.length) = false := decide_eq_false (by omega)
          have H0 := Lib.hid h0
          clear h0
          go_wp2_with (first
            | (go_at_call 67; refine HCL.out.mono ?_; rintro e w' ⟨rfl, rfl⟩)
            | (at_builtin; go_must (refine app_one w.heap.size rfl _ _ 22 9 rfl Tryd.underlying22 infoStrC rfl (by decide) (by decide) [.string (s.extract k (k + 1))] rfl rfl rfl (by simp [Value.oneCell']) (by exact hown) hbe c5 c4 ?_); intro v' w1 hown' hbe' _ _))
          go_roundw
          case rel => exact ⟨k + 1, by omega, by go_num, by rw [HS.out], by rw [HS.out, List.length_append, List.map_append]; exact hown', hbe'⟩
          case measure => simp [intOf]; omega
        · have t1 : decide (0 < out.length) = true := decide_eq_true h0
          have t2 : (C == la) = false := beq_eq_false_iff_ne.2 h1
          go_wp2_with (first
            | (go_at_call 67; refine HCL.out.mono ?_; rintro e w' ⟨rfl, rfl⟩)
            | (at_builtin; go_must (refine app_one w.heap.size rfl _ _ 22 9 rfl Tryd.underlying22 infoStrC rfl (by decide) (by decide) [.string (s.extract k (k + 1))] rfl rfl rfl (by simp [Value.oneCell']) (by exact hown) hbe c5 c4 ?_); intro v' w1 hown' hbe' _ _))
          go_roundw
          case rel => exact ⟨k + 1, by omega, by go_num, by rw [HS.out], by rw [HS.out, List.length_append, List.map_append]; exact hown', hbe'⟩
          case measure => simp [intOf]; omega
        · have t1 : decide (0 < out.length) = true := decide_eq_true h0
          obtain rfl : C = la := h1
          have t2 : (C == C) = true := by simp
          have t3 : decide (C < 3) = false := decide_eq_false h2
          go_wp2_with (first
            | (go_at_call 67; refine HCL.out.mono ?_; rintro e w' ⟨rfl, rfl⟩)
            | (at_builtin; go_must (refine app_one w.heap.size rfl _ _ 22 9 rfl Tryd.underlying22 infoStrC rfl (by decide) (by decide) [.string (s.extract k (k + 1))] rfl rfl rfl (by simp [Value.oneCell']) (by exact hown) hbe c5 c4 ?_); intro v' w1 hown' hbe' _ _))
          go_roundw
          case rel => exact ⟨k + 1, by omega, by go_num, by rw [HS.out], by rw [HS.out, List.length_append, List.map_append]; exact hown', hbe'⟩
          case measure => simp [intOf]; omega
    · have hks : k = s.size := by omega
      subst hks
      go_wp2
      go_ret
      exact ⟨_, rfl, hown, hbe⟩
end Go.Proofs.YtobncidpdodaiaaDoor
