/- Three lists, part by part: plain functions, no program in sight. -/
import Derived.Test.YtnoloihdcmgbaaaOutcome2
namespace Go.Proofs.Ytnoloihdcmgbaaa
set_option linter.unusedVariables false

theorem runLen_spec : ∀ (ko kt : List Int) (y z : Int) (m : Nat), m < runLen ko kt y z → ko[m]? = some (y + m) ∧ kt[m]? = some (z + m)
  | [], _, _, _, _, h => by simp [runLen] at h
  | _ :: _, [], _, _, _, h => by simp [runLen] at h
  | a :: ko, c :: kt, y, z, m, h => by
    rw [runLen] at h
    split at h
    · rename_i hh
      cases m with
      | zero => simp [hh.1, hh.2]
      | succ m =>
        have := runLen_spec ko kt (y + 1) (z + 1) m (by omega)
        simp only [List.getElem?_cons_succ, this]
        constructor <;> (congr 1; push_cast; omega)
    · omega
theorem nextL_spec : ∀ (ko kt : List Int) (i j : Nat) (a c : Int), nextL ko kt i = some (j, a, c) → ∃ m, j = i + m ∧ ko[m]? = some a ∧ kt[m]? = some c ∧ 0 ≤ a ∧ 0 ≤ c
  | [], _, _, _, _, _, h => by simp [nextL] at h
  | _ :: _, [], _, _, _, _, h => by simp [nextL] at h
  | u :: ko, v :: kt, i, j, a, c, h => by
    rw [nextL] at h
    split at h
    · simp only [Option.some.injEq, Prod.mk.injEq] at h
      obtain ⟨rfl, rfl, rfl⟩ := h
      rename_i hh
      exact ⟨0, rfl, rfl, rfl, hh⟩
    · obtain ⟨m, rfl, h1, h2, h3⟩ := nextL_spec ko kt (i + 1) j a c h
      exact ⟨m + 1, by omega, by simpa using h1, by simpa using h2, h3⟩

section
variable {α : Type} [DecidableEq α]
/-- The next chunk, from some places on. -/
def chunkAt (zb zo zt : List α) (ko kt : List Int) (x y z : Nat) : Ch :=
  if 0 < runLen (ko.drop x) (kt.drop x) y z then
    ⟨x, x + runLen (ko.drop x) (kt.drop x) y z, y, y + runLen (ko.drop x) (kt.drop x) y z, z, z + runLen (ko.drop x) (kt.drop x) y z, 1⟩
  else
    ⟨x, (nextOr ko kt x zo.length zt.length).1.toNat, y, (nextOr ko kt x zo.length zt.length).2.1.toNat, z, (nextOr ko kt x zo.length zt.length).2.2.toNat,
      outc (part zb x (nextOr ko kt x zo.length zt.length).1.toNat) (part zo y (nextOr ko kt x zo.length zt.length).2.1.toNat) (part zt z (nextOr ko kt x zo.length zt.length).2.2.toNat)⟩
def chunksF (zb zo zt : List α) (ko kt : List Int) : Nat → Nat → Nat → Nat → List Ch
  | 0, _, _, _ => []
  | f + 1, x, y, z => if x < zb.length ∨ y < zo.length ∨ z < zt.length then chunkAt zb zo zt ko kt x y z :: chunksF zb zo zt ko kt f (chunkAt zb zo zt ko kt x y z).b1 (chunkAt zb zo zt ko kt x y z).o1 (chunkAt zb zo zt ko kt x y z).t1 else []

def Mono (k : List Int) : Prop := ∀ (i j : Nat) (a b : Int), i < j → k[i]? = some a → k[j]? = some b → 0 ≤ a → 0 ≤ b → a < b
def Ahead (k : List Int) (x y n : Nat) : Prop := ∀ (j : Nat) (a : Int), x ≤ j → k[j]? = some a → 0 ≤ a → (y : Int) ≤ a ∧ a < n
/-- Some places that may be reached. -/
structure St (zb zo zt : List α) (ko kt : List Int) (x y z : Nat) : Prop where
  lo : ko.length = zb.length
  lt : kt.length = zb.length
  mo : Mono ko
  mt : Mono kt
  hx : x ≤ zb.length
  hy : y ≤ zo.length
  hz : z ≤ zt.length
  ao : Ahead ko x y zo.length
  at' : Ahead kt x z zt.length

omit [DecidableEq α] in
/-- The ends that lie ahead: what is to be known of them. -/
theorem next_spec {zb zo zt : List α} {ko kt : List Int} {x y z : Nat} (h : St zb zo zt ko kt x y z) :
    ∃ i a c : Nat, nextOr ko kt x zo.length zt.length = ((i : Int), (a : Int), (c : Int)) ∧ St zb zo zt ko kt i a c ∧ x ≤ i ∧ y ≤ a ∧ z ≤ c ∧
      (runLen (ko.drop x) (kt.drop x) y z = 0 → x < zb.length ∨ y < zo.length ∨ z < zt.length → zb.length - i + (zo.length - a) + (zt.length - c) < zb.length - x + (zo.length - y) + (zt.length - z)) := by
  unfold nextOr
  generalize hN : nextL (ko.drop x) (kt.drop x) x = N
  cases N with
  | none =>
    refine ⟨zb.length, zo.length, zt.length, by simp [h.lo], ⟨h.lo, h.lt, h.mo, h.mt, Nat.le_refl _, Nat.le_refl _, Nat.le_refl _, ?_, ?_⟩, h.hx, h.hy, h.hz, fun _ _ => by have := h.hx; have := h.hy; have := h.hz; omega⟩
    · intro j a hj ha; have := (List.getElem?_eq_some_iff.1 ha).1; have := h.lo; omega
    · intro j a hj ha; have := (List.getElem?_eq_some_iff.1 ha).1; have := h.lt; omega
  | some p =>
    obtain ⟨i, a, c⟩ := p
    obtain ⟨m, rfl, h1, h2, ha, hc⟩ := nextL_spec _ _ _ _ _ _ hN
    rw [List.getElem?_drop] at h1 h2
    obtain ⟨a, rfl⟩ := Int.eq_ofNat_of_zero_le ha
    obtain ⟨c, rfl⟩ := Int.eq_ofNat_of_zero_le hc
    have hx := (List.getElem?_eq_some_iff.1 h1).1
    have hl := h.lo
    obtain ⟨ha1, ha2⟩ := h.ao _ _ (by omega) h1 ha
    obtain ⟨hc1, hc2⟩ := h.at' _ _ (by omega) h2 hc
    refine ⟨x + m, a, c, rfl, ⟨h.lo, h.lt, h.mo, h.mt, by omega, by omega, by omega, ?_, ?_⟩, by omega, by omega, by omega, fun hr _ => ?_⟩
    · intro j v hj hv h0
      refine ⟨?_, (h.ao j v (by omega) hv h0).2⟩
      by_cases e : j = x + m
      · subst e; rw [h1] at hv; cases hv; exact Int.le_refl _
      · exact Int.le_of_lt (h.mo _ _ _ _ (by omega) h1 hv ha h0)
    · intro j v hj hv h0
      refine ⟨?_, (h.at' j v (by omega) hv h0).2⟩
      by_cases e : j = x + m
      · subst e; rw [h2] at hv; cases hv; exact Int.le_refl _
      · exact Int.le_of_lt (h.mt _ _ _ _ (by omega) h2 hv hc h0)
    · by_cases hm : m = 0
      · subst hm
        rw [Nat.add_zero] at h1 h2 hx
        have hlt := h.lt
        rw [runLen_at hx (by omega)] at hr
        have e1 : ko[x] = (a : Int) := by have := List.getElem?_eq_getElem hx; rw [this] at h1; exact Option.some.inj h1
        have e2 : kt[x]'(by omega) = (c : Int) := by have := List.getElem?_eq_getElem (l := kt) (i := x) (by omega); rw [this] at h2; exact Option.some.inj h2
        rw [e1, e2] at hr
        split at hr
        · omega
        · rename_i hn
          have : ¬ (a = y ∧ c = z) := fun hh => hn ⟨by omega, by omega⟩
          omega
      · omega

omit [DecidableEq α] in
theorem run_spec {zb zo zt : List α} {ko kt : List Int} {x y z : Nat} (h : St zb zo zt ko kt x y z) (n : Nat) (hn : n ≤ runLen (ko.drop x) (kt.drop x) y z) : St zb zo zt ko kt (x + n) (y + n) (z + n) := by
  rcases Nat.eq_zero_or_pos n with rfl | h0
  · exact h
  have hr := runLen_spec (ko.drop x) (kt.drop x) y z (n - 1) (by omega)
  rw [List.getElem?_drop, List.getElem?_drop] at hr
  obtain ⟨h1, h2⟩ := hr
  have hx := (List.getElem?_eq_some_iff.1 h1).1
  have hl := h.lo
  obtain ⟨ha1, ha2⟩ := h.ao _ _ (by omega) h1 (by omega)
  obtain ⟨hc1, hc2⟩ := h.at' _ _ (by omega) h2 (by omega)
  refine ⟨h.lo, h.lt, h.mo, h.mt, by omega, by omega, by omega, ?_, ?_⟩
  · intro j v hj hv hz
    have := h.mo _ _ _ _ (show x + (n - 1) < j by omega) h1 hv (by omega) hz
    exact ⟨by omega, (h.ao j v (by omega) hv hz).2⟩
  · intro j v hj hv hz
    have := h.mt _ _ _ _ (show x + (n - 1) < j by omega) h2 hv (by omega) hz
    exact ⟨by omega, (h.at' j v (by omega) hv hz).2⟩

/-- How far it is to the ends. -/
def far (zb zo zt : List α) (x y z : Nat) : Nat := zb.length - x + (zo.length - y) + (zt.length - z)
theorem chunk_spec {zb zo zt : List α} {ko kt : List Int} {x y z : Nat} (h : St zb zo zt ko kt x y z) :
    (chunkAt zb zo zt ko kt x y z).b0 = x ∧ (chunkAt zb zo zt ko kt x y z).o0 = y ∧ (chunkAt zb zo zt ko kt x y z).t0 = z ∧
    x ≤ (chunkAt zb zo zt ko kt x y z).b1 ∧ y ≤ (chunkAt zb zo zt ko kt x y z).o1 ∧ z ≤ (chunkAt zb zo zt ko kt x y z).t1 ∧
    St zb zo zt ko kt (chunkAt zb zo zt ko kt x y z).b1 (chunkAt zb zo zt ko kt x y z).o1 (chunkAt zb zo zt ko kt x y z).t1 ∧
    (x < zb.length ∨ y < zo.length ∨ z < zt.length → far zb zo zt (chunkAt zb zo zt ko kt x y z).b1 (chunkAt zb zo zt ko kt x y z).o1 (chunkAt zb zo zt ko kt x y z).t1 < far zb zo zt x y z) := by
  unfold chunkAt
  by_cases hr : 0 < runLen (ko.drop x) (kt.drop x) y z
  · rw [if_pos hr]
    have hs := run_spec h _ (Nat.le_refl _)
    refine ⟨rfl, rfl, rfl, by simp, by simp, by simp, hs, fun _ => ?_⟩
    have := hs.hx; have := hs.hy; have := hs.hz
    unfold far
    simp only [] at *
    omega
  · rw [if_neg hr]
    obtain ⟨i, a, c, he, hs, h1, h2, h3, h4⟩ := next_spec h
    rw [he]
    simp only [Int.toNat_natCast]
    exact ⟨trivial, trivial, trivial, h1, h2, h3, hs, fun hl => h4 (by omega) hl⟩
theorem chunksF_fuel {zb zo zt : List α} {ko kt : List Int} : ∀ (f g x y z : Nat), St zb zo zt ko kt x y z → far zb zo zt x y z ≤ f → far zb zo zt x y z ≤ g → chunksF zb zo zt ko kt f x y z = chunksF zb zo zt ko kt g x y z
  | 0, 0, _, _, _, _, _, _ => rfl
  | 0, g + 1, x, y, z, h, hf, hg => by
    have := h.hx; have := h.hy; have := h.hz
    unfold far at hf
    rw [chunksF, chunksF, if_neg (by omega)]
  | f + 1, 0, x, y, z, h, hf, hg => by
    have := h.hx; have := h.hy; have := h.hz
    unfold far at hg
    rw [chunksF, chunksF, if_neg (by omega)]
  | f + 1, g + 1, x, y, z, h, hf, hg => by
    rw [chunksF, chunksF]
    split
    · rename_i hl
      obtain ⟨_, _, _, _, _, _, hs, hd⟩ := chunk_spec h
      have := hd hl
      rw [chunksF_fuel f g _ _ _ hs (by omega) (by omega)]
    · rfl
theorem chunksF_len {zb zo zt : List α} {ko kt : List Int} : ∀ (f x y z : Nat), (chunksF zb zo zt ko kt f x y z).length ≤ f
  | 0, _, _, _ => Nat.le_refl _
  | f + 1, x, y, z => by
    rw [chunksF]
    split
    · have := chunksF_len (zb := zb) (zo := zo) (zt := zt) (ko := ko) (kt := kt) f (chunkAt zb zo zt ko kt x y z).b1 (chunkAt zb zo zt ko kt x y z).o1 (chunkAt zb zo zt ko kt x y z).t1
      simp only [List.length_cons]
      omega
    · simp
/-- The chunks from some places on. -/
def chunksL (zb zo zt : List α) (ko kt : List Int) (x y z : Nat) : List Ch := chunksF zb zo zt ko kt (far zb zo zt x y z) x y z
theorem chunksL_at {zb zo zt : List α} {ko kt : List Int} {x y z : Nat} (h : St zb zo zt ko kt x y z) (hl : x < zb.length ∨ y < zo.length ∨ z < zt.length) :
    chunksL zb zo zt ko kt x y z = chunkAt zb zo zt ko kt x y z :: chunksL zb zo zt ko kt (chunkAt zb zo zt ko kt x y z).b1 (chunkAt zb zo zt ko kt x y z).o1 (chunkAt zb zo zt ko kt x y z).t1 := by
  obtain ⟨_, _, _, _, _, _, hs, hd⟩ := chunk_spec h
  have := hd hl
  unfold chunksL
  obtain ⟨f, hf⟩ : ∃ f, far zb zo zt x y z = f + 1 := ⟨far zb zo zt x y z - 1, by omega⟩
  rw [hf, chunksF, if_pos hl, chunksF_fuel f _ _ _ _ hs (by omega) (Nat.le_refl _)]
theorem chunksL_end {zb zo zt : List α} {ko kt : List Int} {x y z : Nat} (hl : ¬ (x < zb.length ∨ y < zo.length ∨ z < zt.length)) : chunksL zb zo zt ko kt x y z = [] := by
  unfold chunksL
  cases far zb zo zt x y z with
  | zero => rfl
  | succ f => rw [chunksF, if_neg hl]
end

section
variable {α : Type} [DecidableEq α]
theorem prs_sorted (a : List α) : ∀ (i k : Nat) (b : List α), (prs a i k b).Pairwise (fun p q => p.1 < q.1 ∧ p.2 < q.2) := by
  induction a with
  | nil => intro i k b; simp [prs]
  | cons x a ih =>
    intro i k b
    induction b generalizing k with
    | nil => simp [prs_nil]
    | cons y b ihb =>
      rw [prs_cons]
      split
      · refine List.pairwise_cons.2 ⟨fun q hq => ?_, ih _ _ _⟩
        have := prs_bounds a (i + 1) (k + 1) b q hq
        simp only []; omega
      · split
        · exact ih _ _ _
        · exact ihb (k + 1)
theorem keptL_get (n : Nat) : ∀ (ps : List (Nat × Nat)) (i : Nat) (v : Int), (keptL n ps)[i]? = some v → 0 ≤ v → ∃ p ∈ ps, p.1 = i ∧ (p.2 : Int) = v := by
  intro ps
  unfold keptL
  suffices ∀ l : List Int, ∀ i v, (ps.foldl putKept l)[i]? = some v → 0 ≤ v → (∃ p ∈ ps, p.1 = i ∧ (p.2 : Int) = v) ∨ l[i]? = some v by
    intro i v h h0
    rcases this _ i v h h0 with h | h
    · exact h
    · have := (List.getElem?_eq_some_iff.1 h).2
      simp at this
      omega
  induction ps with
  | nil => intro l i v h _; exact .inr h
  | cons p ps ih =>
    intro l i v h h0
    rw [List.foldl_cons] at h
    rcases ih _ i v h h0 with ⟨q, hq, he⟩ | h
    · exact .inl ⟨q, by simp [hq], he⟩
    · unfold putKept at h
      by_cases e : p.1 = i
      · subst e
        rw [List.getElem?_set_self' ] at h
        cases hl : l[p.1]? with
        | none => rw [hl] at h; cases h
        | some u => rw [hl] at h; simp at h; exact .inl ⟨p, by simp, rfl, h⟩
      · rw [List.getElem?_set_ne e] at h; exact .inr h
theorem pairs_uniq {a b : List α} {p q : Nat × Nat} (hp : p ∈ pairs a b) (hq : q ∈ pairs a b) : p = q ∨ (p.1 < q.1 ∧ p.2 < q.2) ∨ (q.1 < p.1 ∧ q.2 < p.2) := by
  have hs := prs_sorted a 0 0 b
  unfold pairs at hp hq
  generalize prs a 0 0 b = l at *
  induction l with
  | nil => simp at hp
  | cons r l ih =>
    obtain ⟨h1, h2⟩ := List.pairwise_cons.1 hs
    rcases List.mem_cons.1 hp with e | hp' <;> rcases List.mem_cons.1 hq with e' | hq'
    · exact .inl (e.trans e'.symm)
    · subst e; exact .inr (.inl (h1 _ hq'))
    · subst e'; exact .inr (.inr (h1 _ hp'))
    · exact ih hp' hq' h2
theorem kept_mono (a b : List α) : Mono (keptL a.length (pairs a b)) := by
  intro i j u v hij hu hv h0 h1
  obtain ⟨p, hp, rfl, rfl⟩ := keptL_get _ _ _ _ hu h0
  obtain ⟨q, hq, rfl, rfl⟩ := keptL_get _ _ _ _ hv h1
  rcases pairs_uniq hp hq with rfl | h | h <;> omega
theorem kept_ahead (a b : List α) : Ahead (keptL a.length (pairs a b)) 0 0 b.length := by
  intro j v _ hv h0
  obtain ⟨p, hp, rfl, rfl⟩ := keptL_get _ _ _ _ hv h0
  have := prs_bounds a 0 0 b p hp
  omega
theorem st_zero (zb zo zt : List α) : St zb zo zt (keptL zb.length (pairs zb zo)) (keptL zb.length (pairs zb zt)) 0 0 0 :=
  ⟨keptL_len _ _, keptL_len _ _, kept_mono _ _, kept_mono _ _, Nat.zero_le _, Nat.zero_le _, Nat.zero_le _, kept_ahead _ _, kept_ahead _ _⟩
/-- Three lists, part by part. -/
def chunks (zb zo zt : List α) : List Ch := chunksL zb zo zt (keptL zb.length (pairs zb zo)) (keptL zb.length (pairs zb zt)) 0 0 0
theorem chunks_len (zb zo zt : List α) : (chunks zb zo zt).length ≤ zb.length + zo.length + zt.length := chunksF_len _ _ _ _
end
end Go.Proofs.Ytnoloihdcmgbaaa
