/- Two changes at places that aren't near: what comes of the three lists. Plain functions, no program in sight. -/
import Derived.Test.YtnoloihdcmgbaaaNat
namespace Go.Proofs.Ytnoloihdcmgbaaa
set_option linter.all false
set_option linter.deprecated false
section
variable {α : Type} [DecidableEq α]
theorem lcsL_same : ∀ s : List α, lcsL s s = s.length
  | [] => rfl
  | x :: s => by rw [lcsL_cons, if_pos rfl, lcsL_same s]; rfl
theorem lcsL_more : ∀ (a b : List α) (y : α), lcsL a b ≤ lcsL a (y :: b)
  | [], _, _ => by simp [lcsL]
  | x :: a, b, y => by
    have step : ∀ b : List α, lcsL (x :: a) b ≤ lcsL a b + 1 := by
      intro b
      induction b with
      | nil => simp [lcsL_nil]
      | cons z b ih =>
        rw [lcsL_cons]
        have := lcsL_more a b z
        split <;> omega
    rw [lcsL_cons]
    have := step b
    split <;> omega
/-- Pairs side by side. -/
def diag (n i k : Nat) : List (Nat × Nat) := (List.range n).map fun j => (i + j, k + j)
theorem diag_succ (n i k : Nat) : diag (n + 1) i k = (i, k) :: diag n (i + 1) (k + 1) := by
  unfold diag
  rw [List.range_succ_eq_map, List.map_cons, List.map_map]
  congr 1
  apply List.map_congr_left
  intro j _
  simp only [Function.comp, Nat.succ_eq_add_one, Prod.mk.injEq]
  omega
theorem prs_app (a b : List α) : ∀ (p : List α) (i k : Nat), prs (p ++ a) i k (p ++ b) = diag p.length i k ++ prs a (i + p.length) (k + p.length) b
  | [], i, k => by simp [diag]
  | x :: p, i, k => by
    rw [List.cons_append, List.cons_append, prs_cons, if_pos rfl, prs_app a b p, List.length_cons, diag_succ, List.cons_append]
    congr 3 <;> omega
theorem prs_same (s : List α) (i k : Nat) : prs s i k s = diag s.length i k := by
  have := prs_app [] [] s i k
  simpa [prs_nil] using this
theorem prs_unlike {u v : α} {s : List α} (huv : u ≠ v) (hv : v ∉ s) (i k : Nat) : prs (u :: s) i k (v :: s) = diag s.length (i + 1) (k + 1) := by
  have h1 : lcsL (u :: s) s ≤ lcsL s (v :: s) := by
    have := (lcsL_le (u :: s) s).2
    have := lcsL_more s s v
    rw [lcsL_same] at this
    omega
  rw [prs_cons, if_neg huv, if_pos h1]
  cases s with
  | nil => simp [prs, diag]
  | cons c s =>
    have hc : c ≠ v := fun e => hv (by simp [e])
    have h2 : ¬ lcsL (c :: s) (c :: s) ≤ lcsL s (v :: c :: s) := by
      rw [lcsL_same]
      have := (lcsL_le s (v :: c :: s)).1
      simp only [List.length_cons]
      omega
    rw [prs_cons, if_neg hc, if_neg h2, prs_same]
theorem kept_not : ∀ (ps : List (Nat × Nat)) (l : List Int) (i : Nat), (∀ p ∈ ps, p.1 ≠ i) → (ps.foldl putKept l)[i]? = l[i]?
  | [], _, _, _ => rfl
  | p :: ps, l, i, h => by
    rw [List.foldl_cons, kept_not ps _ i (fun q hq => h q (by simp [hq]))]
    unfold putKept
    rw [List.getElem?_set_ne (h p (by simp))]
theorem kept_mem : ∀ (ps : List (Nat × Nat)) (l : List Int) (p : Nat × Nat), ps.Pairwise (fun a b => a.1 < b.1 ∧ a.2 < b.2) → p ∈ ps → p.1 < l.length → (ps.foldl putKept l)[p.1]? = some (p.2 : Int)
  | q :: ps, l, p, hs, hp, hl => by
    obtain ⟨h1, h2⟩ := List.pairwise_cons.1 hs
    rw [List.foldl_cons]
    rcases List.mem_cons.1 hp with e | hp
    · subst e
      rw [kept_not ps _ _ (fun r hr => by have := (h1 r hr).1; omega)]
      unfold putKept
      rw [List.getElem?_set_self hl]
    · exact kept_mem ps _ p h2 hp (by unfold putKept; rw [List.length_set]; exact hl)
theorem keptL_mem {a b : List α} {i k : Nat} (h : (i, k) ∈ pairs a b) : (keptL a.length (pairs a b))[i]? = some (k : Int) := by
  unfold keptL
  have hb := prs_bounds a 0 0 b _ h
  exact kept_mem _ _ (i, k) (prs_sorted a 0 0 b) h (by rw [List.length_replicate]; simp only [] at hb ⊢; omega)
theorem keptL_not {a b : List α} {i : Nat} (hi : i < a.length) (h : ∀ p ∈ pairs a b, p.1 ≠ i) : (keptL a.length (pairs a b))[i]? = some (-1) := by
  unfold keptL
  rw [kept_not _ _ _ h, List.getElem?_replicate, if_pos hi]
theorem pairs_set {l : List α} {x : Nat} {u : α} (hx : x < l.length) (hu : u ∉ l) : pairs l (l.set x u) = diag x 0 0 ++ diag (l.length - (x + 1)) (x + 1) (x + 1) := by
  have e1 : l = l.take x ++ l[x] :: l.drop (x + 1) := by rw [List.getElem_cons_drop, List.take_append_drop]
  have e2 : l.set x u = l.take x ++ u :: l.drop (x + 1) := by rw [List.set_eq_take_append_cons_drop, if_pos hx]
  have e3 : prs l 0 0 (l.set x u) = prs (l.take x ++ l[x] :: l.drop (x + 1)) 0 0 (l.take x ++ u :: l.drop (x + 1)) := by rw [← e2, ← e1]
  unfold pairs
  rw [e3, prs_app]
  have ht : (l.take x).length = x := by rw [List.length_take]; omega
  conv => lhs; arg 2; rw [prs_unlike (fun e => hu (by rw [← e]; exact List.getElem_mem hx)) (fun h => hu (List.mem_of_mem_drop h))]
  rw [ht, List.length_drop]
  simp only [Nat.zero_add]
theorem diag_mem {n i k : Nat} {p : Nat × Nat} : p ∈ diag n i k ↔ ∃ j, j < n ∧ p = (i + j, k + j) := by
  unfold diag
  rw [List.mem_map]
  constructor
  · rintro ⟨j, hj, rfl⟩; exact ⟨j, List.mem_range.1 hj, rfl⟩
  · rintro ⟨j, hj, rfl⟩; exact ⟨j, List.mem_range.2 hj, rfl⟩
theorem kept_set {l : List α} {x : Nat} {u : α} (hx : x < l.length) (hu : u ∉ l) (j : Nat) (hj : j < l.length) : (keptL l.length (pairs l (l.set x u)))[j]? = some (if j = x then -1 else (j : Int)) := by
  have hp := pairs_set hx hu
  by_cases e : j = x
  · subst e
    rw [if_pos rfl]
    refine keptL_not hj (fun p hp' => ?_)
    rw [hp, List.mem_append, diag_mem, diag_mem] at hp'
    rcases hp' with ⟨i, hi, rfl⟩ | ⟨i, hi, rfl⟩ <;> simp only [] <;> omega
  · rw [if_neg e]
    refine keptL_mem ?_
    rw [hp, List.mem_append, diag_mem, diag_mem]
    rcases Nat.lt_or_gt_of_ne e with h | h
    · exact .inl ⟨j, h, by simp⟩
    · exact .inr ⟨j - (x + 1), by omega, by simp only [Prod.mk.injEq]; omega⟩
/-- The next place that both keep. -/
theorem nextL_here {ko kt : List Int} {i : Nat} {a c : Int} (ho : ko[i]? = some a) (ht : kt[i]? = some c) (ha : 0 ≤ a) (hc : 0 ≤ c) : nextL (ko.drop i) (kt.drop i) i = some (i, a, c) := by
  obtain ⟨h1, rfl⟩ := List.getElem?_eq_some_iff.1 ho
  obtain ⟨h2, rfl⟩ := List.getElem?_eq_some_iff.1 ht
  rw [nextL_at h1 h2, if_pos ⟨ha, hc⟩]
theorem nextL_past {ko kt : List Int} {i : Nat} {a c : Int} (ho : ko[i]? = some a) (ht : kt[i]? = some c) (h : a < 0 ∨ c < 0) : nextL (ko.drop i) (kt.drop i) i = nextL (ko.drop (i + 1)) (kt.drop (i + 1)) (i + 1) := by
  obtain ⟨h1, rfl⟩ := List.getElem?_eq_some_iff.1 ho
  obtain ⟨h2, rfl⟩ := List.getElem?_eq_some_iff.1 ht
  rw [nextL_at h1 h2, if_neg (by omega)]
theorem runLen_pos {ko kt : List Int} {i : Nat} {y z : Int} (ho : ko[i]? = some y) (ht : kt[i]? = some z) : 0 < runLen (ko.drop i) (kt.drop i) y z := by
  obtain ⟨h1, rfl⟩ := List.getElem?_eq_some_iff.1 ho
  obtain ⟨h2, rfl⟩ := List.getElem?_eq_some_iff.1 ht
  rw [runLen_at h1 h2, if_pos ⟨rfl, rfl⟩]
  omega
theorem runLen_zero {ko kt : List Int} {i : Nat} {a c y z : Int} (ho : ko[i]? = some a) (ht : kt[i]? = some c) (h : a ≠ y ∨ c ≠ z) : runLen (ko.drop i) (kt.drop i) y z = 0 := by
  obtain ⟨h1, rfl⟩ := List.getElem?_eq_some_iff.1 ho
  obtain ⟨h2, rfl⟩ := List.getElem?_eq_some_iff.1 ht
  rw [runLen_at h1 h2, if_neg (fun hh => h.elim (fun h => h hh.1) (fun h => h hh.2))]
theorem part_drop {l : List α} {a b : Nat} (hab : a ≤ b) : part l a b ++ l.drop b = l.drop a := by
  unfold part
  rw [List.drop_take]
  have : b = a + (b - a) := by omega
  conv => lhs; arg 2; rw [this, ← List.drop_drop]
  rw [List.take_append_drop]
theorem part_one {l : List α} {a : Nat} (h : a < l.length) : part l a (a + 1) = [l[a]] := by
  unfold part
  rw [List.drop_take, Nat.add_sub_cancel_left, List.drop_eq_getElem_cons h]
  rfl
/-- Two places that aren't near are set, by ours and by theirs: both are set in what comes. -/
theorem far_set {l : List α} {x y : Nat} {u v : α} (hx : x < l.length) (hy : y < l.length) (hu : u ∉ l) (hv : v ∉ l) (hxy : x ≠ y) (h1 : x + 1 ≠ y) (h2 : y + 1 ≠ x) :
    mergeL l (l.set x u) (l.set y v) = some ((l.set x u).set y v) := by
  have hko := fun j hj => kept_set hx hu j hj
  have hkt := fun j hj => kept_set hy hv j hj
  have hst := st_zero l (l.set x u) (l.set y v)
  have key : ∀ n i, n = l.length - i → i ≤ l.length → St l (l.set x u) (l.set y v) (keptL l.length (pairs l (l.set x u))) (keptL l.length (pairs l (l.set y v))) i i i →
      (∀ c ∈ chunksL l (l.set x u) (l.set y v) (keptL l.length (pairs l (l.set x u))) (keptL l.length (pairs l (l.set y v))) i i i, c.out ≠ 5) ∧
      (chunksL l (l.set x u) (l.set y v) (keptL l.length (pairs l (l.set x u))) (keptL l.length (pairs l (l.set y v))) i i i).flatMap (takeCh (l.set x u) (l.set y v)) = ((l.set x u).set y v).drop i := by
    generalize keptL l.length (pairs l (l.set x u)) = ko at *
    generalize keptL l.length (pairs l (l.set y v)) = kt at *
    intro n
    induction n using Nat.strongRecOn with
    | ind n ih =>
    intro i hn hi hS
    by_cases he : i = l.length
    · rw [chunksL_end (by simp only [List.length_set]; omega)]
      refine ⟨by simp, ?_⟩
      rw [List.drop_eq_nil_of_le (by simp only [List.length_set]; omega)]
      rfl
    have hlt : i < l.length := by omega
    rw [chunksL_at hS (.inl hlt)]
    have hc := (chunk_spec hS).2.2.2.2.2.2.1
    by_cases hk : i = x ∨ i = y
    · -- a place that is set
      have hr : ¬ 0 < runLen (ko.drop i) (kt.drop i) (i : Int) (i : Int) := by
        rw [runLen_zero (hko i hlt) (hkt i hlt) (by rcases hk with h | h <;> simp [h] <;> omega)]
        omega
      have hnx : nextOr ko kt i (l.set x u).length (l.set y v).length = (((i + 1 : Nat) : Int), ((i + 1 : Nat) : Int), ((i + 1 : Nat) : Int)) := by
        unfold nextOr
        rw [nextL_past (hko i hlt) (hkt i hlt) (by rcases hk with h | h <;> simp [h])]
        by_cases hlast : i + 1 < l.length
        · rw [nextL_here (hko _ hlast) (hkt _ hlast) (by split <;> omega) (by split <;> omega)]
          have ex : ¬ i + 1 = x := by omega
          have ey : ¬ i + 1 = y := by omega
          simp only [ex, ey, if_false]
        · have e1 := hS.lo
          rw [List.drop_eq_nil_of_le (by omega)]
          simp only [nextL, List.length_set, e1]
          have : l.length = i + 1 := by omega
          rw [this]
      have hch : chunkAt l (l.set x u) (l.set y v) ko kt i i i = ⟨i, i + 1, i, i + 1, i, i + 1, outc (part l i (i + 1)) (part (l.set x u) i (i + 1)) (part (l.set y v) i (i + 1))⟩ := by
        unfold chunkAt
        rw [if_neg hr, hnx]
        simp only [Int.toNat_natCast]
      rw [hch] at hc ⊢
      obtain ⟨g1, g2⟩ := ih (l.length - (i + 1)) (by omega) (i + 1) rfl (by omega) hc
      have p1 : part l i (i + 1) = [l[i]] := part_one hlt
      have p2 : part (l.set x u) i (i + 1) = [(l.set x u)[i]'(by simpa using hlt)] := part_one (by simpa using hlt)
      have p3 : part (l.set y v) i (i + 1) = [(l.set y v)[i]'(by simpa using hlt)] := part_one (by simpa using hlt)
      have hw : ((l.set x u).set y v).drop i = ((l.set x u).set y v)[i]'(by simpa using hlt) :: ((l.set x u).set y v).drop (i + 1) := List.drop_eq_getElem_cons (by simpa using hlt)
      rw [p1, p2, p3]
      have hmem : l[i] ∈ l := List.getElem_mem hlt
      rcases hk with rfl | rfl
      · have n1 : u ≠ l[i] := fun e => hu (e ▸ hmem)
        have ho : outc [l[i]] [(l.set i u)[i]'(by simpa using hlt)] [(l.set y v)[i]'(by simpa using hlt)] = 2 := by
          simp [outc, List.getElem_set_self, List.getElem_set_ne (Ne.symm hxy), n1]
        rw [ho]
        refine ⟨fun c hcc => ?_, ?_⟩
        · rcases List.mem_cons.1 hcc with rfl | hcc
          · simp
          · exact g1 c hcc
        · rw [List.flatMap_cons, g2, hw]
          simp only [takeCh, true_or, if_true]
          rw [p2]
          simp [List.getElem_set_self, List.getElem_set_ne (Ne.symm hxy)]
      · have n1 : v ≠ l[i] := fun e => hv (e ▸ hmem)
        have ho : outc [l[i]] [(l.set x u)[i]'(by simpa using hlt)] [(l.set i v)[i]'(by simpa using hlt)] = 3 := by
          simp [outc, List.getElem_set_self, List.getElem_set_ne hxy, Ne.symm n1]
        rw [ho]
        refine ⟨fun c hcc => ?_, ?_⟩
        · rcases List.mem_cons.1 hcc with rfl | hcc
          · simp
          · exact g1 c hcc
        · rw [List.flatMap_cons, g2, hw]
          have : ¬ ((3 : Nat) = 2 ∨ (3 : Nat) = 4) := by omega
          simp only [takeCh, this, if_false]
          rw [p3]
          simp [List.getElem_set_self]
    · -- a run of places that are kept
      have hx' : ¬ i = x := fun e => hk (.inl e)
      have hy' : ¬ i = y := fun e => hk (.inr e)
      have hr : 0 < runLen (ko.drop i) (kt.drop i) (i : Int) (i : Int) := runLen_pos (by rw [hko i hlt, if_neg hx']) (by rw [hkt i hlt, if_neg hy'])
      have hch : chunkAt l (l.set x u) (l.set y v) ko kt i i i = ⟨i, i + runLen (ko.drop i) (kt.drop i) i i, i, i + runLen (ko.drop i) (kt.drop i) i i, i, i + runLen (ko.drop i) (kt.drop i) i i, 1⟩ := by
        unfold chunkAt
        rw [if_pos hr]
      have hsp := fun m hm => runLen_spec (ko.drop i) (kt.drop i) i i m hm
      rw [hch] at hc ⊢
      generalize runLen (ko.drop i) (kt.drop i) i i = m at *
      have hm := hc.hx
      simp only [] at hm
      obtain ⟨g1, g2⟩ := ih (l.length - (i + m)) (by omega) (i + m) rfl hm hc
      refine ⟨fun c hcc => ?_, ?_⟩
      · rcases List.mem_cons.1 hcc with rfl | hcc
        · simp
        · exact g1 c hcc
      · rw [List.flatMap_cons, g2]
        have : ¬ ((1 : Nat) = 2 ∨ (1 : Nat) = 4) := by omega
        simp only [takeCh, this, if_false]
        have hpp : part (l.set y v) i (i + m) = part ((l.set x u).set y v) i (i + m) := by
          apply List.ext_getElem?
          intro j
          unfold part
          rw [List.getElem?_drop, List.getElem?_drop, List.getElem?_take, List.getElem?_take]
          by_cases hj : i + j < i + m
          · rw [if_pos hj, if_pos hj]
            have := (hsp j (by omega)).1
            rw [List.getElem?_drop, hko _ (by omega)] at this
            have hne : ¬ i + j = x := fun e => by rw [if_pos e] at this; simp only [Option.some.injEq] at this; omega
            have hne2 : ¬ x = i + j := fun e => hne e.symm
            rw [List.getElem?_set, List.getElem?_set, List.getElem?_set]
            simp only [hne2, if_false, List.length_set]
          · rw [if_neg hj, if_neg hj]
        rw [hpp]
        exact part_drop (by omega)
  have hz := key _ 0 rfl (Nat.zero_le _) hst
  obtain ⟨k1, k2⟩ := hz
  unfold mergeL
  change (∀ c ∈ chunks l (l.set x u) (l.set y v), c.out ≠ 5) at k1
  change (chunks l (l.set x u) (l.set y v)).flatMap _ = _ at k2
  rw [if_neg, k2, List.drop_zero]
  intro h
  obtain ⟨c, hc, h5⟩ := List.any_eq_true.1 h
  exact k1 c hc (by simpa using h5)
end
end Go.Proofs.Ytnoloihdcmgbaaa
