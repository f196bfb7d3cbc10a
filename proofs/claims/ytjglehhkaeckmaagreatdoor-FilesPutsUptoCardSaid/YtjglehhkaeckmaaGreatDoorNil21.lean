/- The walk of the law FilesNil. -/
import Derived.Test.YtjglehhkaeckmaaGreatDoorMapS
import Derived.Test.YtjglehhkaeckmaaGreatDoorBridge
namespace Go.Proofs.YtjglehhkaeckmaaGreatDoor
open Go.RowKit Go.PlainAid Go.Maps
set_option linter.all false
set_option linter.deprecated false
set_option maxRecDepth 100000
theorem Put_nil (k v : ByteArray) (w : World) : Calls Tryz.prog 8 #[.pointer none, .string k, .string v] w fun e w' => e = .returned (.tuple #[]) ∧ w = w' := by
  go_enter Tryz.func8, Tryz.ntmps8
  go_wp2
  exact bodyPost_ret (results_none rfl _ _ _) rfl ⟨rfl, rfl⟩
theorem Fail_nil (n : Int) (k : ByteArray) (w : World) : Calls Tryz.prog 12 #[.pointer none, .int .i64 n, .string k] w fun e w' => e = .returned (.tuple #[]) ∧ w = w' := by
  go_enter Tryz.func12, Tryz.ntmps12
  go_wp2
  exact bodyPost_ret (results_none rfl _ _ _) rfl ⟨rfl, rfl⟩
theorem Get_nil (k : ByteArray) (w : World) : Calls Tryz.prog 9 #[.pointer none, .string k] w fun e w' => e = .returned (.tuple #[.string ⟨#[]⟩, .bool false]) ∧ w = w' := by
  go_enter Tryz.func9, Tryz.ntmps9
  go_wp2
  go_ret2
  exact ⟨rfl, rfl⟩
theorem Names_nil (w : World) : Calls Tryz.prog 10 #[.pointer none] w fun e w' => e = .returned (.slice none 0 0) ∧ w = w' := by
  go_enter Tryz.func10, Tryz.ntmps10
  go_wp2
  go_ret
  exact ⟨rfl, rfl⟩
set_option maxHeartbeats 2000000 in
theorem Drive_nil (A : Option Addr) (n c : Nat) (w : World) : Calls Tryz.prog 13 #[.pointer none, .slice A n c] w fun e w' => e = .returned (.int .i64 129) ∧ w = w' := by
  go_enter Tryz.func13, Tryz.ntmps13
  go_wp2_with fail
  go_ret
  exact ⟨rfl, rfl⟩
set_option maxHeartbeats 2000000 in
theorem Drive_short (d : Nat) (w : World) : Calls Tryz.prog 13 #[.pointer (some ⟨d, 0, none⟩), .slice none 0 0] w fun e w' => e = .returned (.int .i64 129) ∧ w = w' := by
  go_enter Tryz.func13, Tryz.ntmps13
  go_wp2_with fail
  go_ret
  exact ⟨rfl, rfl⟩
theorem find_one (k v : Bs) : find [(k, v)] k = some v := by rw [find_cons, if_pos rfl]
set_option maxHeartbeats 2000000 in
theorem awake21_calls (w : World) : Calls Tryz.prog 5 #[] w fun e w' => e = .returned (.bool true) ∧ Below w.heap.size w w' := by
  have bq := beq_t (rfl : (⟨#[120]⟩ : ByteArray) = ⟨#[120]⟩)
  go_enter Tryz.func5, Tryz.ntmps5
  go_wp2_with fail
  refine (New_calls w).mono ?_
  rintro e w1 ⟨rfl, h1, hb1⟩
  go_wp2_with fail
  refine (Put_calls _ 0 none [] ⟨#[97]⟩ ⟨#[120]⟩ w1 h1 (by decide) (by decide) (by decide)).mono ?_
  rintro e w2 ⟨rfl, mb, h2, hm, hc⟩
  have hg := Get_calls _ _ mb _ ⟨#[97]⟩ w2 h2 (by decide)
  have hv : (find [((⟨#[97]⟩ : ByteArray).data.toList, (⟨#[120]⟩ : ByteArray).data.toList)] (⟨#[97]⟩ : ByteArray).data.toList) = some [120] := find_one _ _
  rw [hv] at hg
  simp only [Option.getD_some, Option.isSome_some] at hg
  clear hv
  go_wp2_with fail
  refine hg.mono ?_
  rintro e w3 ⟨rfl, rfl⟩
  go_wp2_with fail
  refine (Drive_short _ _).mono ?_
  rintro e w4 ⟨rfl, rfl⟩
  go_wp2_with fail
  go_ret
  exact ⟨rfl, hc.os.trans hb1.os, hc.tape.trans hb1.tape, hc.output.trans hb1.output, Nat.le_trans hb1.size hc.size, fun k hk => (hc.block k (Nat.lt_of_lt_of_le hk hb1.size) (by omega) (by simp)).trans (hb1.block k hk)⟩
end Go.Proofs.YtjglehhkaeckmaaGreatDoor
