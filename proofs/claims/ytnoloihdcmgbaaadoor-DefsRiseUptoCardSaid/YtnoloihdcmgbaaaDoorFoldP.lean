/- A folded text folds to itself. Plain. -/
import Derived.Test.YtnoloihdcmgbaaaDoorFold
namespace Go.Proofs.YtnoloihdcmgbaaaDoor
open Go.PlainAid
set_option linter.all false
set_option linter.deprecated false
set_option maxRecDepth 100000
theorem gapB_32 : gapB 32 = true := by decide
theorem low_facts : ∀ n : Fin 256, (gapB (lowB (UInt8.ofNat n.val)) = gapB (UInt8.ofNat n.val)) ∧ lowB (lowB (UInt8.ofNat n.val)) = lowB (UInt8.ofNat n.val) ∧ (gapB (UInt8.ofNat n.val) = true ↔ ([9, 10, 13, 32] : List UInt8).contains (UInt8.ofNat n.val) = true) := by decide +kernel
theorem low_fact (c : UInt8) : gapB (lowB c) = gapB c ∧ lowB (lowB c) = lowB c ∧ (gapB c = true ↔ ([9, 10, 13, 32] : List UInt8).contains c = true) := by
  have h := low_facts ⟨c.toNat, c.toNat_lt⟩
  have e : UInt8.ofNat c.toNat = c := by simp
  simp only [e] at h
  exact h
theorem gap_contains (c : UInt8) : ([9, 10, 13, 32] : List UInt8).contains c = gapB c := by
  have h := (low_fact c).2.2
  cases h1 : gapB c <;> cases h2 : ([9, 10, 13, 32] : List UInt8).contains c <;> simp_all
/-- What a folded text is like; is its last one a space? -/
structure Nrm (g : List UInt8) (b : Bool) : Prop where
  each : ∀ (i : Nat) c, g[i]? = some c → (gapB c = true → c = 32 ∧ 0 < i ∧ ∃ d, g[i - 1]? = some d ∧ gapB d = false) ∧ (gapB c = false → lowB c = c)
  last : ∀ c, g.getLast? = some c → gapB c = b
theorem Nrm.snoc {g : List UInt8} {b : Bool} (h : Nrm g b) {c : UInt8} (hc : gapB c = false → lowB c = c) (hg : gapB c = true → c = 32 ∧ g ≠ [] ∧ b = false) : Nrm (g ++ [c]) (gapB c) := by
  refine ⟨fun i x hx => ?_, fun x hx => by simp at hx; rw [hx]⟩
  by_cases hi : i < g.length
  · rw [List.getElem?_append_left hi] at hx
    obtain ⟨h1, h2⟩ := h.each i x hx
    refine ⟨fun hg => ?_, h2⟩
    obtain ⟨e, h0, d, hd, hd2⟩ := h1 hg
    exact ⟨e, h0, d, by rw [List.getElem?_append_left (by omega)]; exact hd, hd2⟩
  · by_cases e : i = g.length
    · subst e
      rw [List.getElem?_append_right (Nat.le_refl _), Nat.sub_self] at hx
      simp at hx
      subst hx
      refine ⟨fun hgap => ?_, hc⟩
      obtain ⟨h32, hne, hb⟩ := hg hgap
      have hpos : 0 < g.length := List.length_pos_iff.2 hne
      refine ⟨h32, hpos, g[g.length - 1], ?_, ?_⟩
      · rw [List.getElem?_append_left (by omega), List.getElem?_eq_getElem (by omega)]
      · rw [← hb]
        exact h.last _ (by rw [List.getLast?_eq_getElem?, List.getElem?_eq_getElem (by omega)])
    · rw [List.getElem?_eq_none (by simp; omega)] at hx; cases hx
theorem foldTo_nrm {b : List UInt8} (hb : ∀ c, b.head? = some c → gapB c = false) : ∀ k, k ≤ b.length → ∃ z, Nrm (foldTo b k) z ∧ (0 < k → z = gapB (b.getD (k - 1) 0) ∧ foldTo b k ≠ [])
  | 0, _ => ⟨false, ⟨fun i c h => by simp [foldTo] at h, fun c h => by simp [foldTo] at h⟩, fun h => absurd h (Nat.lt_irrefl _)⟩
  | k + 1, hk => by
    obtain ⟨z, hn, hz⟩ := foldTo_nrm hb k (by omega)
    have hd : b.getD k 0 = b[k] := by simp [show k < b.length by omega]
    rw [foldTo, hd]
    simp only [Nat.add_sub_cancel, hd]
    by_cases hg : gapB b[k] = true
    · have hk0 : 0 < k := by
        rcases Nat.eq_zero_or_pos k with h | h
        · subst h
          have := hb b[0] (by rw [List.head?_eq_getElem?, List.getElem?_eq_getElem (by omega)])
          rw [this] at hg; cases hg
        · exact h
      obtain ⟨hz1, hne⟩ := hz hk0
      rw [if_pos hg]
      by_cases hp : gapB (b.getD (k - 1) 0) = true
      · rw [if_pos hp]
        exact ⟨z, hn, fun _ => ⟨by rw [hz1, hp, hg], hne⟩⟩
      · rw [if_neg hp]
        refine ⟨true, ?_, fun _ => ⟨hg.symm, by simp⟩⟩
        have := hn.snoc (c := 32) (fun h => by rw [gapB_32] at h; cases h) (fun _ => ⟨rfl, hne, by rw [hz1]; simpa using hp⟩)
        rwa [gapB_32] at this
    · rw [if_neg hg]
      have hg' : gapB b[k] = false := by simpa using hg
      obtain ⟨l1, l2, _⟩ := low_fact b[k]
      refine ⟨gapB (lowB b[k]), hn.snoc (fun _ => l2) (fun h => by rw [l1, hg'] at h; cases h), fun _ => ⟨l1, by simp⟩⟩
theorem trim_id {g : List UInt8} (h1 : ∀ c, g.head? = some c → gapB c = false) (h2 : ∀ c, g.getLast? = some c → gapB c = false) : trimG g = g := by
  have hf : (fun x => ([9, 10, 13, 32] : List UInt8).contains x) = gapB := funext gap_contains
  unfold trimG Lib.trimS Lib.trimLeftS Lib.trimRightS
  rw [hf]
  have e1 : g.reverse.dropWhile gapB = g.reverse := by
    cases hr : g.reverse with
    | nil => rfl
    | cons c r =>
      have : g.getLast? = some c := by rw [← List.head?_reverse, hr]; rfl
      rw [List.dropWhile_cons, h2 c this]
      simp
  rw [e1, List.reverse_reverse]
  cases g with
  | nil => rfl
  | cons c r =>
    rw [List.dropWhile_cons, h1 c rfl]
    simp
theorem fold_nrm {g : List UInt8} {z : Bool} (h : Nrm g z) : ∀ k, k ≤ g.length → foldTo g k = g.take k
  | 0, _ => rfl
  | k + 1, hk => by
    have hd : g.getD k 0 = g[k] := by simp [show k < g.length by omega]
    obtain ⟨h1, h2⟩ := h.each k g[k] (List.getElem?_eq_getElem (by omega))
    rw [foldTo, fold_nrm h k (by omega), hd, List.take_succ_eq_append_getElem (by omega)]
    by_cases hg : gapB g[k] = true
    · obtain ⟨e32, h0, d, hdd, hd2⟩ := h1 hg
      have : g.getD (k - 1) 0 = d := by rw [List.getD_eq_getElem?_getD, hdd]; rfl
      rw [if_pos hg, this, hd2, if_neg (by simp), e32]
    · rw [if_neg hg, h2 (by simpa using hg)]
theorem trimG_last (s : List UInt8) : ∀ c, (trimG s).getLast? = some c → gapB c = false := by
  intro c h
  have hf : (fun x => ([9, 10, 13, 32] : List UInt8).contains x) = gapB := funext gap_contains
  unfold trimG Lib.trimS Lib.trimLeftS Lib.trimRightS at h
  rw [hf] at h
  generalize hm : (s.reverse.dropWhile gapB) = m at h
  have hhead : ∀ x, m.head? = some x → gapB x = false := fun x hx => by
    have := List.head?_dropWhile_not (p := gapB) s.reverse
    rw [hm, hx] at this
    simpa using this
  have hsuf : (m.reverse.dropWhile gapB) <:+ m.reverse := List.dropWhile_suffix _
  obtain ⟨p, hp⟩ := hsuf
  have hl : m.reverse.getLast? = some c := by
    rw [← hp, List.getLast?_append, h]; rfl
  rw [List.getLast?_reverse] at hl
  exact hhead c hl
/-- Folding twice is folding once. -/
theorem foldS_twice (s : ByteArray) : foldS (foldS s) = foldS s := by
  have hd : (foldS s).data.toList = foldTo (trimG s.data.toList) (trimG s.data.toList).length := rfl
  obtain ⟨z, hn, hz⟩ := foldTo_nrm (trimG_head s.data.toList) _ (Nat.le_refl _)
  have hl := trimG_last s.data.toList
  generalize trimG s.data.toList = b at *
  generalize hg : foldTo b b.length = g at *
  have h1 : ∀ c, g.head? = some c → gapB c = false := fun c hc => by
    cases hgc : gapB c with
    | false => rfl
    | true =>
      rw [List.head?_eq_getElem?] at hc
      have := (hn.each 0 c hc).1 hgc
      omega
  have h2 : ∀ c, g.getLast? = some c → gapB c = false := fun c hc => by
    rw [hn.last c hc]
    rcases Nat.eq_zero_or_pos b.length with h0 | h0
    · have : b = [] := List.eq_nil_of_length_eq_zero h0
      subst this
      simp [foldTo] at hg
      subst hg
      simp at hc
    · rw [(hz h0).1]
      have : b.getD (b.length - 1) 0 = b[b.length - 1] := by simp [show b.length - 1 < b.length by omega]
      rw [this]
      exact hl _ (by rw [List.getLast?_eq_getElem?, List.getElem?_eq_getElem (by omega)])
  have ht := trim_id h1 h2
  unfold foldS
  change (⟨(foldTo (trimG (foldS s).data.toList) (trimG (foldS s).data.toList).length).toArray⟩ : ByteArray) = _
  rw [hd, ht, fold_nrm hn _ (Nat.le_refl _), List.take_length]
  rw [← hd]
  rfl
end Go.Proofs.YtnoloihdcmgbaaaDoor
