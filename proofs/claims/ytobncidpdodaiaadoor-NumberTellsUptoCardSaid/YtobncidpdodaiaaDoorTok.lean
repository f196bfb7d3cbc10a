/- The walks of utf.Class, token.long, token.Cut. -/
import Derived.Test.YtobncidpdodaiaaDoorProg
import Derived.Test.YtobncidpdodaiaaDoorKit
import Derived.PlainAid
import Derived.WalkSpells
namespace Go.Proofs.YtobncidpdodaiaaDoor
open Go.RowKit Go.PlainAid
set_option linter.unusedVariables false

def cls (c : Int) : Int :=
  if c = 10 ∨ c = 13 then 3 else if c = 9 ∨ c = 32 then 2
  else if (32 < c ∧ c < 48) ∨ (57 < c ∧ c < 65) ∨ (90 < c ∧ c < 97) ∨ (122 < c ∧ c ≤ 126) then 4 else 1
def long (k : Int) : Bool := k == 1 || k == 2

set_option maxHeartbeats 400000 in
theorem class_calls (c : Int) (w : World) :
    Calls Tryd.prog 60 #[.int .i64 c] w fun e w' => e = .returned (.int .i64 (cls c)) ∧ w = w' := by
  go_enter Tryd.func60, Tryd.ntmps60
  go_wp2
  all_goals go_ret
  all_goals refine ⟨ret_int ?_, rfl⟩
  all_goals (try simp only [beq_iff_eq, beq_eq_false_iff_ne, ne_eq] at *)
  all_goals unfold cls
  all_goals (repeat' split)
  all_goals omega

set_option maxHeartbeats 400000 in
theorem long_calls (c : Int) (w : World) :
    Calls Tryd.prog 61 #[.int .i64 c] w fun e w' => e = .returned (.bool (long c)) ∧ w = w' := by
  go_enter Tryd.func61, Tryd.ntmps61
  go_wp2
  all_goals go_ret
  all_goals refine ⟨ret_bool ?_, rfl⟩
  all_goals (simp_all [long])

def cutTo (s : ByteArray) : Nat → List ByteArray × Nat
  | 0 => ([], 0)
  | i + 1 => let p := cutTo s i
    if i + 1 < s.size ∧ long (cls (bt s i)) = true ∧ cls (bt s (i + 1)) = cls (bt s i) then p else (p.1 ++ [s.extract p.2 (i + 1)], i + 1)
theorem cutTo_succ (s : ByteArray) (i : Nat) : cutTo s (i + 1) = if i + 1 < s.size ∧ long (cls (bt s i)) = true ∧ cls (bt s (i + 1)) = cls (bt s i) then cutTo s i else ((cutTo s i).1 ++ [s.extract (cutTo s i).2 (i + 1)], i + 1) := rfl
theorem cutTo_len (s : ByteArray) (i : Nat) : (cutTo s i).1.length ≤ i ∧ (cutTo s i).2 ≤ i := by
  induction i with
  | zero => simp [cutTo]
  | succ i ih =>
    simp only [cutTo]
    split
    · omega
    · simp; omega
def cut (s : ByteArray) : List ByteArray := (cutTo s s.size).1

theorem infoStrT : (Tryd.prog.info? 9).map (fun i => (i.zero, i.size, i.bytes)) = some (some (.string ⟨#[]⟩), 1, 16) := by kernel_rfl
set_option maxRecDepth 100000 in
set_option maxHeartbeats 800000 in
theorem cut_calls (s : ByteArray) (w : World) (hs : s.size ≤ 1099511627776) :
    Calls Tryd.prog 40 #[.string s] w fun e w' => ∃ v, e = .returned v ∧ w'.ownsRow w.heap.size 9 1 v (cut s).length ((cut s).map Value.string) ∧ Below w.heap.size w w' := by
  obtain ⟨i0, hi, hz0, hz1, hz2⟩ := info_parts infoStrT
  have hb := get_bt s
  go_enter Tryd.func40, Tryd.ntmps40
  go_wp2
  go_loopw [3, 4, 5] (fun v fr i wr => ∃ k : Nat, k ≤ s.size ∧ i = .int .i64 (k + 1) ∧ fr = .int .i64 (cutTo s k).2 ∧
      wr.ownsRow w.heap.size 9 1 v (cutTo s k).1.length ((cutTo s k).1.map Value.string) ∧ Below w.heap.size w wr)
    (fun _ _ i _ => s.size + 1 - (intOf i).toNat)
  case atStart => exact ⟨0, Nat.zero_le _, rfl, rfl, World.ownsRow_nil _ _ _ _, Below.refl _ _⟩
  case round =>
    obtain ⟨k, hk, rfl, rfl, hown, hbe⟩ := hrel
    by_cases hlt : k < s.size
    · have hb1 := bt_nonneg s k
      have hb2 := bt_le s k
      have hb3 := bt_nonneg s (k + 1)
      have hb4 := bt_le s (k + 1)
      have hl := cutTo_len s k
      have hstep := cutTo_succ s k
      generalize hp : cutTo s k = p at *
      obtain ⟨out, fr⟩ := p
      have HS := Lib.hid hstep
      clear hstep hp
      obtain ⟨hl1, hl2⟩ := hl
      simp only [] at hl1 hl2 hown
      have hl3 : (fr : Int) ≤ k + 1 := by omega
      have c4 : (out.length + 1) * 16 ≤ 140737488355328 := by omega
      have c5 : w.heap.size ≤ wr.heap.size := hbe.size
      go_wp2_with (first
          | (go_at_call 60; refine (class_calls _ _).mono ?_; rintro e w' ⟨rfl, rfl⟩)
          | (go_at_call 61; refine (long_calls _ _).mono ?_; rintro e w' ⟨rfl, rfl⟩)
          | (at_builtin; go_must (refine app_one w.heap.size rfl _ _ 22 9 rfl Tryd.underlying22 infoStrT rfl (by decide) (by decide) [.string (s.extract fr (k + 1))] rfl rfl rfl (by simp [Value.oneCell']) (by exact hown) hbe c5 c4 ?_); intro v' w1 hown' hbe' _ _))
      · have hx := HS.out
        have h1 : (cls (bt s (k + 1)) == cls (bt s k)) = true := by assumption
        rw [if_pos ⟨by omega, by assumption, beq_iff_eq.1 h1⟩] at hx
        go_roundw
        case rel => exact ⟨k + 1, by omega, by go_num, by rw [hx], by rw [hx]; exact hown, hbe⟩
        case measure => simp [intOf]; omega
      all_goals
        have hx := HS.out
        rw [if_neg (fun h => by obtain ⟨h1, h2, h3⟩ := h; first | omega | contradiction | (simp_all; done))] at hx
        have hx2 : (cutTo s (k + 1)).1.map Value.string = out.map Value.string ++ [.string (s.extract fr (k + 1))] := by rw [hx]; simp
        have hx3 : (cutTo s (k + 1)).1.length = out.length + 1 := by rw [hx]; simp
        go_roundw
        case rel => exact ⟨k + 1, by omega, by go_num, by rw [hx]; go_num, by rw [hx2, hx3]; exact hown', hbe'⟩
        case measure => simp [intOf]; omega
    · have hks : k = s.size := by omega
      subst hks
      go_wp2
      go_ret
      exact ⟨_, rfl, hown, hbe⟩
end Go.Proofs.YtobncidpdodaiaaDoor
