/- What comes with a block in a box. -/
import Derived.Test.YtlcfijkegdlfcaaGreatDoorFence
import Derived.Test.YtlcfijkegdlfcaaGreatDoorRead
import Derived.Deep.RegionHeld3
/- The walks of kind.Define, and of the reader's line. -/
namespace Go.Proofs.YtlcfijkegdlfcaaGreatDoor
open Go.RowKit Go.PlainAid
set_option linter.all false
set_option linter.deprecated false
set_option maxRecDepth 100000
theorem kind_def {s : Ln} (h : kindL s = 7) : (defineL s).isSome = true := by
  unfold kindL at h
  repeat' split at h
  all_goals first | assumption | omega
set_option maxHeartbeats 4000000 in
theorem KDefine_calls (s : ByteArray) (w : World) (hs : s.size ≤ 4294967280) (hT : TextB w.heap.size w) (hk : kindL (bl s) = 7) :
    Calls Tryz.prog 109 #[.string s] w fun e w' => ∃ v1, e = .returned (.agg #[.int .i64 8, .int .i64 0, .string (defB (bl s)).info, v1, .slice none 0 0, .slice none 0 0]) ∧ Rd (w.heap.size ≤ ·) w' v1 ((defB (bl s)).lines.map D.str) ∧ Below w.heap.size w w' := by
  obtain ⟨⟨l, t⟩, hx⟩ := Option.isSome_iff_exists.1 (kind_def hk)
  have e1 : (defB (bl s)).info = ba l := by unfold defB; rw [hx]; rfl
  have e2 : (defB (bl s)).lines = [ba t] := by unfold defB; rw [hx]; rfl
  rw [e1, e2]
  obtain ⟨LA, hLA⟩ : ∃ LA, ba l = LA := ⟨_, rfl⟩
  obtain ⟨TO, hTO⟩ : ∃ TO, ba t = TO := ⟨_, rfl⟩
  rw [hLA, hTO]
  have HLA := Lib.hid hLA
  have HTO := Lib.hid hTO
  clear hLA hTO
  have hO := fun W (hW : Below w.heap.size w W) => Of_calls s W hs (hT.up hW)
  have hD := fun W (hW : Below w.heap.size w W) => define_calls s W hs (hT.up hW)
  rw [hk] at hO
  rw [hx] at hD
  have HO := Lib.hid hO
  have HD := Lib.hid hD
  have hbA := (Below.refl w.heap.size w).alloc (Nat.le_refl _) (.cells #[.int .i64 0, .int .i64 0, .string ⟨#[]⟩, .slice none 0 0, .slice none 0 0, .slice none 0 0] 36)
  have hzA := heap_alloc_new w (.cells #[.int .i64 0, .int .i64 0, .string ⟨#[]⟩, .slice none 0 0, .slice none 0 0, .slice none 0 0] 36)
  have hsA := World.size_alloc w (.cells #[.int .i64 0, .int .i64 0, .string ⟨#[]⟩, .slice none 0 0, .slice none 0 0, .slice none 0 0] 36)
  clear hO hD hx e1 e2 hT hk
  go_enter Tryz.func109, Tryz.ntmps109
  go_wp2_with fail
  refine (HO.out _ hbA).mono ?_
  rintro e w1 ⟨rfl, hb1⟩
  have hz1 := (hb1.block w.heap.size (by omega)).trans hzA
  have hs1 : w.heap.size + 1 ≤ w1.heap.size := by have := hb1.size; omega
  have hb1 := below_to hbA hbA.size hb1
  clear hbA hzA hsA HO
  go_wp2_with fail
  refine (HD.out _ hb1).mono ?_
  rintro e w2 ⟨a, b, rfl, hab, hb2⟩
  obtain ⟨ha, hb⟩ := hab l t rfl
  rw [HLA.out] at ha
  rw [HTO.out] at hb
  have ha := ha.symm
  have hb := hb.symm
  subst ha
  subst hb
  have hz2 := (hb2.block w.heap.size (by omega)).trans hz1
  have hs2 : w.heap.size + 1 ≤ w2.heap.size := by have := hb2.size; omega
  have hb2 := below_to hb1 hb1.size hb2
  clear hb1 hz1 hs1 HD
  have hbB := (Below.refl w2.heap.size w2).alloc (Nat.le_refl _) (.cells #[.string TO] 9)
  have hgB := heap_alloc_new w2 (.cells #[.string TO] 9)
  have hz := (hbB.block w.heap.size (by omega)).trans hz2
  go_wp2_with (refine wpList_store_mid rfl _ _ _ rfl w.heap.size 0 #[.int .i64 8, .int .i64 0, .string LA, .slice (some ⟨w2.heap.size, 0, none⟩) 1 1, .slice none 0 0, .slice none 0 0] rfl rfl (show (w2.alloc (.cells #[.string TO] 9)).there w.heap.size 0 6 from there_of_row hz) (by kernel_rfl) (by simp [Value.oneCell']) ?_; have hrow2 := setCells_whole [.int .i64 8, .int .i64 0, .string LA, .slice (some ⟨w2.heap.size, 0, none⟩) 1 1, .slice none 0 0, .slice none 0 0] hz rfl; generalize hw9 : World.setCells _ w.heap.size 0 _ = w9 at hrow2 ⊢; have HW9 := Lib.hid hw9; clear hw9)
  (try simp only [Exit.inBlock, Exit.then])
  refine bodyPost_ret (results_cell1 rfl _ _ w.heap.size _ _ _ _ rfl hrow2 Tryz.underlying36 rfl (by kernel_rfl)) rfl ?_
  rw [← HW9.out]
  have hbC := below_to hb2 hb2.size hbB
  refine ⟨_, rfl, ?_, setCells_below (Nat.le_refl _) _ 0 _ hbC⟩
  have hr : Rd (w.heap.size + 1 ≤ ·) (w2.alloc (.cells #[.string TO] 9)) (.slice (some ⟨w2.heap.size, 0, none⟩) 1 1) [.str TO] := by
    unfold Rd
    rw [Rep]
    refine ⟨_, 1, rfl, by simp, by simp, (fun h => by cases h), fun _ => ⟨w2.heap.size, 0, [.string TO], rfl, hs2, (Array.getElem?_eq_some_iff.1 hgB).1, RepAll.strs _ _ [TO], fun j u hu => ?_⟩⟩
    rw [Nat.zero_add, cell_of_row _ _ j _ _ _ hgB]; simpa using hu
  exact (rd_off hr (Nat.lt_succ_self _)).mono (fun j hj _ => Nat.le_of_succ_le hj)
end Go.Proofs.YtlcfijkegdlfcaaGreatDoor
namespace Go.Proofs.YtlcfijkegdlfcaaGreatDoor
open Go.RowKit Go.PlainAid
set_option linter.all false
set_option linter.deprecated false
set_option maxRecDepth 100000
theorem blk_fin {w W : World} {b B n c k k' d : Nat} {A : Option Addr} {ls : List ByteArray} {v1 v2 v3 : Value} {rest : List Ln} (x : Bl) (cs : List Value) (H : Rds w b B A n c ls k d) (hr : Rdr W b (.slice A n c) k' d) (hk' : k' ≤ n)
    (hg : w.grownBy W (some b)) (h1 : Rd (w.heap.size + 1 ≤ ·) W v1 (x.lines.map D.str)) (h2 : Rd (w.heap.size + 1 ≤ ·) W v2 (dSps x.spans)) (h3 : Rd (w.heap.size + 1 ≤ ·) W v3 (dBls x.kids)) (hrest : (ls.map bl).drop k' = rest) :
    BlkTo w b B A n c ls d x rest (.returned (.agg #[.int .i64 x.kind, .int .i64 x.level, .string x.info, v1, v2, v3])) (W.setCells w.heap.size 0 cs) := by
  have hb2 := setCells_below (Nat.le_refl w.heap.size) cs 0 _ (Below.refl w.heap.size W)
  have hfin := mv_low hg hb2
  have hr2 : Rdr (W.setCells w.heap.size 0 cs) b (.slice A n c) k' d := (hb2.block b H.lt).trans hr
  exact ⟨v1, v2, v3, k', rfl, (rd_off h1 (Nat.lt_succ_self _)).mono (fun j hj _ => Nat.le_of_succ_le hj), (rd_off h2 (Nat.lt_succ_self _)).mono (fun j hj _ => Nat.le_of_succ_le hj), (rd_off h3 (Nat.lt_succ_self _)).mono (fun j hj _ => Nat.le_of_succ_le hj), H.to hfin hr2 hk', hrest, hfin⟩
theorem trimL_le (s : Ln) : (trimL s).length ≤ s.length := by
  have h1 : ∀ (p : UInt8 → Bool) (l : Ln), (l.dropWhile p).length ≤ l.length := fun p l => (List.dropWhile_sublist p).length_le
  unfold trimL Lib.trimS Lib.trimLeftS Lib.trimRightS
  have a1 := h1 (fun b => ([32, 9] : Ln).contains b) s.reverse
  have a2 := h1 (fun b => ([32, 9] : Ln).contains b) (s.reverse.dropWhile (fun b => ([32, 9] : Ln).contains b)).reverse
  simp only [List.length_reverse] at *
  omega
theorem unmarkL_le (s : Ln) : (unmarkL s).length ≤ s.length := by
  unfold unmarkL unspL
  split <;> simp <;> omega
theorem ba_le {f : Ln → Ln} (hf : ∀ s, (f s).length ≤ s.length) (s : ByteArray) : (ba (f (bl s))).size ≤ s.size := by
  have := hf (bl s)
  rw [bl_len] at this
  rw [ba_size]; exact this
theorem joinL_le : ∀ l : List ByteArray, (joinL (l.map bl)).length ≤ sumS l
  | [] => by simp [joinL]
  | [s] => by simp [joinL, List.intercalate, sumS, bl_len]
  | s :: s2 :: l => by
    have := joinL_le (s2 :: l)
    have e : joinL ((s :: s2 :: l).map bl) = bl s ++ 10 :: joinL ((s2 :: l).map bl) := by simp [joinL, List.intercalate]
    rw [e, List.length_append, List.length_cons, bl_len, sumS]
    omega
/-- A line of a run. -/
theorem rows_at {ls : List ByteArray} {k R i : Nat} (hi : i < R) : ((ls.drop k).take R).getD i ByteArray.empty = lnAt ls (k + i) := by
  unfold lnAt
  rw [List.getD_eq_getElem?_getD, List.getD_eq_getElem?_getD, List.getElem?_take, if_pos hi, List.getElem?_drop]
theorem run_kind {w : World} {b B n c k d : Nat} {A : Option Addr} {ls : List ByteArray} (h : Rds w b B A n c ls k d) {z i : Nat} (hz : 1 ≤ z) (hi : i < runK z ((ls.map bl).drop k)) : kindL (bl (lnAt ls (k + i))) = z ∧ (lnAt ls (k + i)).size ≤ 4294967280 := by
  have hle := runK_le z ((ls.map bl).drop k)
  rw [List.length_drop, List.length_map, h.len] at hle
  have h1 := (runK_here (l := ls.map bl) (k := k) (z := z) (i := i) hz (Nat.le_of_lt hi)).1 hi
  obtain ⟨g, o, _, _, _, hs, hd⟩ := h.at (i := k + i) (by omega)
  rw [hd] at h1
  exact ⟨h1, hs⟩
end Go.Proofs.YtlcfijkegdlfcaaGreatDoor
