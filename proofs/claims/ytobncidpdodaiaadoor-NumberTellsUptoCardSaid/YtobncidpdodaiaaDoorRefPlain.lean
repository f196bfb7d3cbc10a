/- The walk of the document's Plain (layer 7). -/
import Derived.Test.YtobncidpdodaiaaDoorProg
import Derived.Test.YtobncidpdodaiaaDoorPlainP
import Derived.Test.YtobncidpdodaiaaDoorKit2
import Derived.Deep.RegionHeld3
import Derived.PlainAid
import Derived.WalkSpells
namespace Go.Proofs.YtobncidpdodaiaaDoor
open Go.RowKit Go.PlainAid
set_option linter.all false
set_option linter.deprecated false
set_option maxRecDepth 100000
set_option maxHeartbeats 4000000 in
theorem Plain07_calls : ∀ (N : Nat) (l : List Sp) (_ : D.bulks (dSps l) < N) (_ : N ≤ 4194304) (v : Value) (w : World) (_ : Rd (· < w.heap.size) w v (dSps l)),
    Calls Tryd.prog 50 #[v] w fun e w' => e = .returned (.string (plainS l)) ∧ w' = w := by
  intro N
  induction N with
  | zero => intro l h; exact absurd h (Nat.not_lt_zero _)
  | succ N ih =>
    have IH := Lib.hid ih
    clear ih
    intro l hN hN2 v w hR
    obtain ⟨A, c, rfl, hc, hmx⟩ := hR.form
    rw [dSps_len] at *
    have HR := Lib.hid hR
    clear hR
    go_enter Tryd.func50, Tryd.ntmps50
    go_wp2_with fail
    go_loopw [3, 7] (fun vs vi wr => ∃ i : Nat, i ≤ l.length ∧ vi = .int .i64 i ∧ vs = .string (plainS (l.take i)) ∧ wr = w) (fun _ vi _ => l.length - (intOf vi).toNat)
    case atStart => exact ⟨0, Nat.zero_le _, rfl, rfl, rfl⟩
    case round =>
      obtain ⟨i, hi, rfl, rfl, rfl⟩ := hrel
      by_cases hlt : i < l.length
      · obtain ⟨bb, o, u, rfl, hbb, hbl2, c0, c1, c2, hk⟩ := HR.out.sp_at hlt
        have hbt : (dSp l[i]).bulk ≤ D.bulks (dSps l) := by rw [dSps_map]; exact D.bulk_mem (List.mem_map.2 ⟨_, List.getElem_mem hlt, rfl⟩)
        have htk := plainSps_take hlt
        have hle := plainS_size (l.take i)
        have hlb : D.bulks (dSps (l.take i)) ≤ 4194304 := by
          have e : D.bulks (dSps l) = D.bulks (dSps (l.take i)) + D.bulks (dSps (l.drop i)) := by
            rw [← D.bulks_append]
            congr 1
            rw [dSps_map, dSps_map, dSps_map, ← List.map_append, List.take_append_drop]
          omega
        generalize l[i] = x at *
        obtain ⟨K, s, L⟩ := x
        rw [bulk_sp'] at hbt
        rw [plainSp] at htk
        simp only [Sp.kind, Sp.s, Sp.kids] at c0 c1 c2 hk
        obtain ⟨T, tc, rfl, _, _⟩ := hk.form
        rw [dSps_len] at *
        have hps := plainS_size L
        have hct := IH.out L (by omega) (by omega) _ wr hk
        have hnx : plainS (l.take (i + 1)) = (if K = 1 ∨ K = 2 then plainS (l.take i) ++ s else plainS (l.take i)) ++ plainS L := by
          unfold plainS
          rw [htk]
          split
          · apply ByteArray.ext; simp [List.append_assoc]
          · apply ByteArray.ext; simp
        generalize plainS (l.take i) = P at *
        generalize plainS L = Q at *
        have z1 : ¬ 9223372036854775807 < P.size + s.size := by omega
        have z2 : ¬ 9223372036854775807 < P.size + s.size + Q.size := by omega
        have z3 : ¬ 9223372036854775807 < P.size + Q.size := by omega
        have HCT := Lib.hid hct
        clear hct hk htk
        by_cases hkk : K = 1 ∨ K = 2
        · rw [if_pos hkk] at hnx
          have HNX := Lib.hid hnx
          clear hnx
          rcases hkk with rfl | rfl
          all_goals
            go_wp2_with fail
            refine HCT.out.mono ?_
            rintro e w7 ⟨rfl, rfl⟩
            go_wp2_with fail
            go_roundw
            case rel => exact ⟨i + 1, by omega, by go_num, by rw [HNX.out], trivial⟩
            case measure => simp [intOf]; omega
        · rw [if_neg hkk] at hnx
          have HNX := Lib.hid hnx
          have q1 : (K == 1) = false := beq_eq_false_iff_ne.2 (fun e => hkk (.inl e))
          have q2 : (K == 2) = false := beq_eq_false_iff_ne.2 (fun e => hkk (.inr e))
          clear hnx hkk
          go_wp2_with fail
          refine HCT.out.mono ?_
          rintro e w7 ⟨rfl, rfl⟩
          go_wp2_with fail
          go_roundw
          case rel => exact ⟨i + 1, by omega, by go_num, by rw [HNX.out], trivial⟩
          case measure => simp [intOf]; omega
      · have hie : i = l.length := by omega
        rw [hie, List.take_length]
        clear hie
        go_wp2_with fail
        go_ret
        exact ⟨rfl, rfl⟩
end Go.Proofs.YtobncidpdodaiaaDoor
