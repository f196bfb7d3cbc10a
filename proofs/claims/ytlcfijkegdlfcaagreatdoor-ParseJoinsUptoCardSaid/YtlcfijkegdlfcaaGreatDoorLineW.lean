/- The walks of lines.Run, Trim, Blank. -/
import Derived.Test.YtlcfijkegdlfcaaGreatDoorProg
import Derived.Test.YtlcfijkegdlfcaaGreatDoorReadP
import Derived.Test.YtlcfijkegdlfcaaGreatDoorShelf
import Derived.Test.YtlcfijkegdlfcaaGreatDoorStr
import Derived.PlainAid
import Derived.WalkSpells
namespace Go.Proofs.YtlcfijkegdlfcaaGreatDoor
open Go.RowKit Go.PlainAid
set_option linter.all false
set_option linter.deprecated false
set_option maxRecDepth 100000
/-- A byte of a text, as it is loaded. -/
theorem bt_bl (s : ByteArray) (i : Nat) : bt s i = (((bl s).getD i 0).toNat : Int) := by
  unfold bt bl
  by_cases h : i < s.size
  · rw [dif_pos h, List.getD_eq_getElem?_getD, List.getElem?_eq_getElem (by rw [Array.length_toList]; exact h)]
    rfl
  · rw [dif_neg h, List.getD_eq_getElem?_getD, List.getElem?_eq_none (by rw [Array.length_toList]; exact Nat.le_of_not_lt h)]
    rfl
theorem run_le (c : UInt8) (s : Ln) : runL c s ≤ s.length := by
  unfold runL
  exact (List.takeWhile_sublist _).length_le
theorem run_step {c : UInt8} {s : Ln} : ∀ {n : Nat}, n ≤ runL c s → (n < s.length → (n < runL c s ↔ s.getD n 0 = c)) := by
  induction s with
  | nil => intro n h h2; simp at h2
  | cons x t ih =>
    intro n h h2
    by_cases hx : (x == c) = true
    · have e : runL c (x :: t) = runL c t + 1 := by unfold runL; rw [List.takeWhile_cons, if_pos hx, List.length_cons]
      rw [e] at h ⊢
      cases n with
      | zero => simp; simpa using hx
      | succ n =>
        have := ih (n := n) (by omega) (by simpa using h2)
        rw [List.getD_cons_succ, ← this]
        omega
    · have e : runL c (x :: t) = 0 := by unfold runL; rw [List.takeWhile_cons, if_neg hx]; rfl
      rw [e] at h ⊢
      have hn : n = 0 := by omega
      subst hn
      simp; simpa using hx
set_option maxHeartbeats 1000000 in
theorem Run_calls (s : ByteArray) (c : UInt8) (w : World) (hs : s.size ≤ 1099511627776) :
    Calls Tryz.prog 80 #[.string s, .int .u8 c.toNat] w fun e w' => e = .returned (.int .i64 (runL c (bl s) : Nat)) ∧ w' = w := by
  have hb := get_bt s
  have hle := run_le c (bl s)
  rw [bl_len] at hle
  obtain ⟨R, hR⟩ : ∃ R, runL c (bl s) = R := ⟨_, rfl⟩
  have HS := Lib.hid (fun n (h : n ≤ R) (h2 : n < s.size) => hR ▸ run_step (c := c) (s := bl s) (n := n) (hR ▸ h) (by rw [bl_len]; exact h2))
  rw [hR] at hle ⊢
  clear hR
  go_enter Tryz.func80, Tryz.ntmps80
  go_wp2
  go_loopw [5] (fun i wr => ∃ k : Nat, k ≤ R ∧ i = .int .i64 k ∧ wr = w) (fun i _ => s.size - (intOf i).toNat)
  case atStart => exact ⟨0, Nat.zero_le _, by first | rfl | trivial, by first | rfl | trivial⟩
  case round =>
    obtain ⟨k, hk, rfl, rfl⟩ := hrel
    by_cases hlt : k < s.size
    · have hstep := HS.out k hk hlt
      have h1 := bt_bl s k
      by_cases hkR : k < R
      · have h2 := hstep.1 hkR
        have h3 : (bt s k == (c.toNat : Int)) = true := by rw [h1, h2]; simp
        clear hstep h1 h2
        go_wp2
        go_roundw
        case rel => exact ⟨k + 1, by omega, by go_num, trivial⟩
        case measure => simp [intOf]; omega
      · have h3 : (bt s k == (c.toNat : Int)) = false := by
          refine beq_eq_false_iff_ne.2 (fun e => hkR (hstep.2 ?_))
          rw [h1] at e
          exact UInt8.toNat_inj.1 (by exact_mod_cast e)
        obtain rfl : k = R := by omega
        clear hstep h1
        go_wp2
        go_ret
        exact ⟨rfl, rfl⟩
    · obtain rfl : k = R := by omega
      go_wp2
      go_ret
      exact ⟨rfl, rfl⟩
theorem Trim2_calls (s : ByteArray) (w : World) (hs : s.size ≤ 1099511627776) :
    Calls Tryz.prog 134 #[.string s, .string ⟨#[32, 9]⟩] w fun e w' => e = .returned (.string (ba (trimL (bl s)))) ∧ Below w.heap.size w w' :=
  Any.strings_Trim_ascii Tryz.trimS (fun w => by kernel_rfl) (by kernel_rfl) s ⟨#[32, 9]⟩ w (by omega) (by decide) (fun j b hb => by
    have : b ∈ [32, 9] := List.mem_of_getElem? hb
    simp at this
    rcases this with rfl | rfl <;> decide)
set_option maxHeartbeats 1000000 in
theorem LTrim_calls (s : ByteArray) (w : World) (hs : s.size ≤ 1099511627776) :
    Calls Tryz.prog 105 #[.string s] w fun e w' => e = .returned (.string (ba (trimL (bl s)))) ∧ Below w.heap.size w w' := by
  have HT := Lib.hid (Trim2_calls s w hs)
  go_enter Tryz.func105, Tryz.ntmps105
  go_wp2_with fail
  refine HT.out.mono ?_
  rintro e w1 ⟨rfl, hb⟩
  go_wp2_with fail
  go_ret
  exact ⟨rfl, hb⟩
theorem ba_empty (l : Ln) : (ba l).toList.isEmpty = decide (l = []) := by
  rw [empty_d]
  have : (ba l = ByteArray.empty) ↔ l = [] := ⟨fun h => ba_inj (t := []) (h.trans rfl), fun h => by rw [h]; rfl⟩
  exact decide_eq_decide.2 this
set_option maxHeartbeats 1000000 in
theorem LBlank_calls (s : ByteArray) (w : World) (hs : s.size ≤ 1099511627776) :
    Calls Tryz.prog 78 #[.string s] w fun e w' => e = .returned (.bool (decide (trimL (bl s) = []))) ∧ Below w.heap.size w w' := by
  have HT := Lib.hid (LTrim_calls s w hs)
  have he := ba_empty (trimL (bl s))
  go_enter Tryz.func78, Tryz.ntmps78
  go_wp2_with fail
  refine HT.out.mono ?_
  rintro e w1 ⟨rfl, hb⟩
  generalize ba (trimL (bl s)) = T at *
  go_wp2_with fail
  go_ret
  exact ⟨rfl, hb⟩
end Go.Proofs.YtlcfijkegdlfcaaGreatDoor
