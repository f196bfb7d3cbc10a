/- The same element ahead of three lists is ahead of what comes of them. Plain functions, no program in sight. -/
import Derived.Test.YtnoloihdcmgbaaaNat
namespace Go.Proofs.Ytnoloihdcmgbaaa
set_option linter.all false
set_option linter.deprecated false
section
variable {α : Type} [DecidableEq α]
def sh (v : Int) : Int := if v < 0 then v else v + 1
theorem sh_eq {v y : Int} (hy : 0 ≤ y) : sh v = y + 1 ↔ v = y := by unfold sh; split <;> omega
theorem sh_pos {v : Int} : 0 ≤ sh v ↔ 0 ≤ v := by unfold sh; split <;> omega
theorem prs_shift : ∀ (a : List α) (i k : Nat) (b : List α), prs a (i + 1) (k + 1) b = (prs a i k b).map fun p => (p.1 + 1, p.2 + 1)
  | [], _, _, _ => rfl
  | x :: a, i, k, [] => by simp [prs_nil]
  | x :: a, i, k, y :: b => by
    rw [prs_cons, prs_cons, prs_shift a (i + 1) (k + 1) b, prs_shift a (i + 1) k (y :: b), prs_shift (x :: a) i (k + 1) b]
    split
    · rfl
    · split <;> rfl
theorem pairs_ahead (f : α) (a b : List α) : pairs (f :: a) (f :: b) = (0, 0) :: (pairs a b).map fun p => (p.1 + 1, p.2 + 1) := by
  unfold pairs
  rw [prs_cons, if_pos rfl, prs_shift]
theorem put_sh (l : List Int) (p : Nat × Nat) (x : Int) : putKept (x :: l.map sh) (p.1 + 1, p.2 + 1) = x :: (putKept l p).map sh := by
  unfold putKept
  rw [List.set_cons_succ, List.map_set]
  congr 2
theorem fold_sh (ps : List (Nat × Nat)) : ∀ (l : List Int) (x : Int), (ps.map fun p => (p.1 + 1, p.2 + 1)).foldl putKept (x :: l.map sh) = x :: (ps.foldl putKept l).map sh := by
  induction ps with
  | nil => intro l x; rfl
  | cons p ps ih => intro l x; rw [List.map_cons, List.foldl_cons, List.foldl_cons, put_sh, ih]
theorem kept_ahead' (f : α) (a b : List α) : keptL (f :: a).length (pairs (f :: a) (f :: b)) = 0 :: (keptL a.length (pairs a b)).map sh := by
  rw [pairs_ahead]
  unfold keptL
  rw [List.foldl_cons, ← fold_sh]
  congr 1
  unfold putKept
  rw [List.length_cons, List.replicate_succ, List.set_cons_zero]
  congr 1
  rw [List.map_replicate]
  rfl
theorem runLen_sh : ∀ (ko kt : List Int) (y z : Int), 0 ≤ y → 0 ≤ z → runLen (ko.map sh) (kt.map sh) (y + 1) (z + 1) = runLen ko kt y z
  | [], _, _, _, _, _ => by simp [runLen]
  | _ :: _, [], _, _, _, _ => by simp [runLen]
  | a :: ko, c :: kt, y, z, hy, hz => by
    rw [List.map_cons, List.map_cons, runLen, runLen, runLen_sh ko kt (y + 1) (z + 1) (by omega) (by omega)]
    simp only [sh_eq hy, sh_eq hz]
theorem nextL_sh : ∀ (ko kt : List Int) (i : Nat), nextL (ko.map sh) (kt.map sh) (i + 1) = (nextL ko kt i).map fun t => (t.1 + 1, t.2.1 + 1, t.2.2 + 1)
  | [], _, _ => by simp [nextL]
  | _ :: _, [], _ => by simp [nextL]
  | a :: ko, c :: kt, i => by
    rw [List.map_cons, List.map_cons, nextL, nextL, nextL_sh ko kt (i + 1)]
    simp only [sh_pos]
    split
    · rename_i h
      unfold sh
      rw [if_neg (by omega), if_neg (by omega)]
      rfl
    · rfl
theorem nextOr_sh (ko kt : List Int) (x no nt : Nat) : nextOr (0 :: ko.map sh) (0 :: kt.map sh) (x + 1) (no + 1) (nt + 1) = ((nextOr ko kt x no nt).1 + 1, (nextOr ko kt x no nt).2.1 + 1, (nextOr ko kt x no nt).2.2 + 1) := by
  unfold nextOr
  rw [List.drop_succ_cons, List.drop_succ_cons, ← List.map_drop, ← List.map_drop, nextL_sh]
  cases nextL (ko.drop x) (kt.drop x) x with
  | none => simp
  | some t => obtain ⟨i, a, c⟩ := t; simp
def shCh (c : Ch) : Ch := ⟨c.b0 + 1, c.b1 + 1, c.o0 + 1, c.o1 + 1, c.t0 + 1, c.t1 + 1, c.out⟩
theorem part_ahead (f : α) (l : List α) (a b : Nat) : part (f :: l) (a + 1) (b + 1) = part l a b := by unfold part; simp
theorem chunkAt_sh (f : α) {zb zo zt : List α} {ko kt : List Int} {x y z : Nat} (h : St zb zo zt ko kt x y z) :
    chunkAt (f :: zb) (f :: zo) (f :: zt) (0 :: ko.map sh) (0 :: kt.map sh) (x + 1) (y + 1) (z + 1) = shCh (chunkAt zb zo zt ko kt x y z) := by
  have hr := runLen_sh (ko.drop x) (kt.drop x) y z (by omega) (by omega)
  obtain ⟨i, a, c, he, _⟩ := next_spec h
  unfold chunkAt
  rw [List.drop_succ_cons, List.drop_succ_cons, ← List.map_drop, ← List.map_drop]
  simp only [List.length_cons, nextOr_sh, he]
  have e1 : ((y + 1 : Nat) : Int) = (y : Int) + 1 := by omega
  have e2 : ((z + 1 : Nat) : Int) = (z : Int) + 1 := by omega
  rw [e1, e2, hr]
  split
  · simp only [shCh]
    congr 1 <;> omega
  · have t1 : ((i : Int) + 1).toNat = i + 1 := by omega
    have t2 : ((a : Int) + 1).toNat = a + 1 := by omega
    have t3 : ((c : Int) + 1).toNat = c + 1 := by omega
    simp only [t1, t2, t3, part_ahead, shCh, Int.toNat_natCast]
theorem chunksF_sh (f : α) {zb zo zt : List α} {ko kt : List Int} : ∀ (n x y z : Nat), St zb zo zt ko kt x y z →
    chunksF (f :: zb) (f :: zo) (f :: zt) (0 :: ko.map sh) (0 :: kt.map sh) n (x + 1) (y + 1) (z + 1) = (chunksF zb zo zt ko kt n x y z).map shCh
  | 0, _, _, _, _ => rfl
  | n + 1, x, y, z, h => by
    rw [chunksF, chunksF, chunkAt_sh f h]
    simp only [List.length_cons, Nat.add_lt_add_iff_right]
    split
    · rw [List.map_cons]
      congr 1
      exact chunksF_sh f n _ _ _ (chunk_spec h).2.2.2.2.2.2.1
    · rfl
theorem takeCh_sh (f : α) (zo zt : List α) (c : Ch) : takeCh (f :: zo) (f :: zt) (shCh c) = takeCh zo zt c := by
  unfold takeCh shCh
  simp only [part_ahead]
theorem flat_sh (f : α) (zo zt : List α) (cs : List Ch) : (cs.map shCh).flatMap (takeCh (f :: zo) (f :: zt)) = cs.flatMap (takeCh zo zt) := by
  rw [List.flatMap_map]
  simp only [takeCh_sh]
theorem any_sh (cs : List Ch) : (cs.map shCh).any (fun c => c.out == 5) = cs.any (fun c => c.out == 5) := by
  rw [List.any_map]
  rfl
/-- The same element ahead of all three. -/
theorem mergeL_ahead (f : α) (zb zo zt : List α) : mergeL (f :: zb) (f :: zo) (f :: zt) = (mergeL zb zo zt).map (f :: ·) := by
  have hS := st_zero zb zo zt
  have hS' := st_zero (f :: zb) (f :: zo) (f :: zt)
  have hl : 0 < (f :: zb).length ∨ 0 < (f :: zo).length ∨ 0 < (f :: zt).length := .inl (by simp)
  unfold mergeL chunks
  rw [kept_ahead', kept_ahead'] at *
  generalize keptL zb.length (pairs zb zo) = ko at *
  generalize keptL zb.length (pairs zb zt) = kt at *
  have hr0 : runLen (ko.map sh) (kt.map sh) (0 + 1) (0 + 1) = runLen ko kt 0 0 := runLen_sh ko kt 0 0 (Int.le_refl _) (Int.le_refl _)
  have hle := (runLen_le ko kt 0 0).1
  have hlo := hS.lo
  have hrun := run_spec hS (runLen ko kt 0 0) (by simp)
  have hch : ∀ r, runLen ko kt 0 0 = r → chunkAt (f :: zb) (f :: zo) (f :: zt) (0 :: ko.map sh) (0 :: kt.map sh) 0 0 0 = ⟨0, r + 1, 0, r + 1, 0, r + 1, 1⟩ := by
    intro r hr
    unfold chunkAt
    simp only [List.drop_zero, Int.natCast_zero, runLen, true_and, if_true, hr0, hr, Nat.zero_add, Nat.zero_lt_succ]
  have hch0 : ∀ r, runLen ko kt 0 0 = r → 0 < r → chunkAt zb zo zt ko kt 0 0 0 = ⟨0, r, 0, r, 0, r, 1⟩ := by
    intro r hr h0
    unfold chunkAt
    simp only [List.drop_zero, Int.natCast_zero, hr, h0, if_true, Nat.zero_add]
  have hsh : ∀ r, runLen ko kt 0 0 = r → chunksL (f :: zb) (f :: zo) (f :: zt) (0 :: ko.map sh) (0 :: kt.map sh) (r + 1) (r + 1) (r + 1) = (chunksL zb zo zt ko kt r r r).map shCh := by
    intro r hr
    rw [hr] at hrun
    simp only [Nat.zero_add] at hrun
    unfold chunksL
    have : far (f :: zb) (f :: zo) (f :: zt) (r + 1) (r + 1) (r + 1) = far zb zo zt r r r := by unfold far; simp
    rw [this, chunksF_sh f _ _ _ _ hrun]
  generalize hr : runLen ko kt 0 0 = r at *
  rw [chunksL_at hS' hl, hch r rfl]
  simp only []
  rw [hsh r rfl, List.any_cons, List.flatMap_cons, any_sh, flat_sh]
  have e1 : ((1 : Nat) == 5) = false := rfl
  have e2 : ¬ ((1 : Nat) = 2 ∨ (1 : Nat) = 4) := by omega
  have e3 : takeCh (f :: zo) (f :: zt) ⟨0, r + 1, 0, r + 1, 0, r + 1, 1⟩ = f :: part zt 0 r := by
    unfold takeCh
    rw [if_neg e2]
    unfold part
    simp
  rw [e1, e3, Bool.false_or]
  rcases Nat.eq_zero_or_pos r with rfl | h0
  · have : part zt 0 0 = [] := by simp [part]
    rw [this]
    split <;> simp
  · rw [chunksL_at hS (.inl (by omega)), hch0 r rfl h0, List.any_cons, List.flatMap_cons]
    simp only []
    have e4 : takeCh zo zt ⟨0, r, 0, r, 0, r, 1⟩ = part zt 0 r := by unfold takeCh; rw [if_neg e2]
    rw [e1, e4, Bool.false_or]
    split <;> simp
end
end Go.Proofs.Ytnoloihdcmgbaaa
