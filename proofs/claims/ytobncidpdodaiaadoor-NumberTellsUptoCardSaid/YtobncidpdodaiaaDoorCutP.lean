/- A text's tokens, byte by byte: plain functions, no program in sight. -/
import Derived.Test.YtobncidpdodaiaaDoorTok
namespace Go.Proofs.YtobncidpdodaiaaDoor
open Go.PlainAid
set_option linter.all false
set_option linter.deprecated false
def kls (c : UInt8) : Int := cls (c.toNat : Int)
/-- Does the byte b go on what ends in a? -/
def joins (a b : UInt8) : Bool := kls b == kls a && long (kls a)
def cstep (p : List (List UInt8) × Option UInt8) (c : UInt8) : List (List UInt8) × Option UInt8 :=
  if p.2.any (fun d => joins d c) = true then (p.1.dropLast ++ [p.1.getLastD [] ++ [c]], some c) else (p.1 ++ [[c]], some c)
def cutG (l : List UInt8) : List (List UInt8) × Option UInt8 := l.foldl cstep ([], none)
/-- The tokens of a list of bytes. -/
def cutL (l : List UInt8) : List (List UInt8) := (cutG l).1
theorem cutG_snoc (l : List UInt8) (c : UInt8) : cutG (l ++ [c]) = cstep (cutG l) c := by simp [cutG]
theorem cutG_last (l : List UInt8) : (cutG l).2 = l.getLast? := by
  rcases List.eq_nil_or_concat l with rfl | ⟨l, c, rfl⟩
  · rfl
  · rw [List.concat_eq_append, cutG_snoc]
    unfold cstep
    split <;> simp
theorem bytes_get (s : ByteArray) {i : Nat} (h : i < s.size) : s.data.toList[i]? = some s[i] := by
  have : i < s.data.toList.length := by simpa using h
  rw [List.getElem?_eq_getElem this]
  rfl
theorem extract_list (s : ByteArray) (a b : Nat) : (s.extract a b).data.toList = (s.data.toList.take b).drop a := by
  rw [ByteArray.data_extract, Array.toList_extract, List.extract_eq_take_drop, List.drop_take]
def contAt (s : ByteArray) (i : Nat) : Prop := i < s.size ∧ long (cls (bt s (i - 1))) = true ∧ cls (bt s i) = cls (bt s (i - 1))
theorem cutTo_list (s : ByteArray) : ∀ i, i ≤ s.size → (cutTo s i).2 ≤ i ∧
    cutL (s.data.toList.take i) = (cutTo s i).1.map (·.data.toList) ++ (if (cutTo s i).2 < i then [(s.data.toList.take i).drop (cutTo s i).2] else []) ∧
    ((cutTo s i).2 < i → contAt s i) ∧ ((cutTo s i).2 = i → ¬ (0 < i ∧ contAt s i))
  | 0, _ => by simp [cutTo, cutL, cutG]
  | i + 1, hi => by
    obtain ⟨h0, h1, h2, h3⟩ := cutTo_list s i (by omega)
    rw [cutTo_succ]
    generalize cutTo s i = p at *
    obtain ⟨out, fr⟩ := p
    simp only [] at h0 h1 h2 h3 ⊢
    have hl : s.data.toList.length = s.size := by simp
    have hg := bytes_get s (i := i) (by omega)
    have htk : s.data.toList.take (i + 1) = s.data.toList.take i ++ [s[i]] := by rw [List.take_add_one, hg]; rfl
    have hgrp : cutL (s.data.toList.take (i + 1)) = out.map (·.data.toList) ++ [(s.data.toList.take (i + 1)).drop fr] := by
      have hdrop : (s.data.toList.take (i + 1)).drop fr = (s.data.toList.take i).drop fr ++ [s[i]] := by
        rw [htk, List.drop_append_of_le_length (by rw [List.length_take]; omega)]
      rw [hdrop, htk]
      unfold cutL at h1 ⊢
      rw [cutG_snoc]
      have hlast := cutG_last (s.data.toList.take i)
      have hbt : bt s i = (s[i].toNat : Int) := by unfold bt; rw [dif_pos (by omega)]
      unfold cstep
      rcases Nat.eq_zero_or_pos i with rfl | hi0
      · rw [hlast]
        have : fr = 0 := by omega
        subst this
        rw [if_neg (Nat.lt_irrefl _), List.append_nil] at h1
        simp only [List.take_zero, List.getLast?_nil, Option.any_none, Bool.false_eq_true, if_false] at h1 ⊢
        rw [h1]
        simp
      · have hlg : (s.data.toList.take i).getLast? = some (s[i - 1]'(by omega)) := by
          rw [List.getLast?_eq_getElem?, List.length_take, hl, Nat.min_eq_left (by omega), List.getElem?_take, if_pos (by omega), bytes_get s (i := i - 1) (by omega)]
        have hbt1 : bt s (i - 1) = ((s[i - 1]'(by omega)).toNat : Int) := by unfold bt; rw [dif_pos (by omega)]
        have hj : joins (s[i - 1]'(by omega)) s[i] = true ↔ contAt s i := by
          unfold joins kls contAt
          rw [hbt, hbt1]
          simp only [Bool.and_eq_true, beq_iff_eq]
          constructor
          · rintro ⟨a, b⟩; exact ⟨by omega, b, a⟩
          · rintro ⟨_, a, b⟩; exact ⟨b, a⟩
        rw [hlast, hlg]
        simp only [Option.any_some]
        by_cases hc : contAt s i
        · rw [if_pos (hj.2 hc)]
          have hfr : fr < i := by
            rcases Nat.lt_or_eq_of_le h0 with h | h
            · exact h
            · exact absurd ⟨hi0, hc⟩ (h3 h)
          rw [h1, if_pos hfr]
          simp
        · rw [if_neg (fun h => hc (hj.1 h))]
          have hfr : fr = i := by
            rcases Nat.lt_or_eq_of_le h0 with h | h
            · exact absurd (h2 h) hc
            · exact h
          subst hfr
          rw [h1, if_neg (Nat.lt_irrefl _), List.drop_eq_nil_of_le (by rw [List.length_take]; omega)]
          simp
    by_cases hc : i + 1 < s.size ∧ long (cls (bt s i)) = true ∧ cls (bt s (i + 1)) = cls (bt s i)
    · rw [if_pos hc]
      simp only []
      refine ⟨by omega, ?_, fun _ => hc, fun h => by omega⟩
      rw [if_pos (by omega), hgrp]
    · rw [if_neg hc]
      simp only []
      refine ⟨Nat.le_refl _, ?_, fun h => by omega, fun _ h => hc h.2⟩
      rw [if_neg (Nat.lt_irrefl _), hgrp, List.map_append, List.map_singleton, extract_list, List.append_nil]
theorem cut_list (s : ByteArray) : (cut s).map (·.data.toList) = cutL s.data.toList := by
  obtain ⟨h0, h1, h2, _⟩ := cutTo_list s s.size (Nat.le_refl _)
  have hl : s.data.toList.length = s.size := by simp
  rw [List.take_of_length_le (by omega)] at h1
  rw [h1, if_neg (fun h => by have := (h2 h).1; omega), List.append_nil]
  rfl
theorem ba_inj {a b : ByteArray} (h : a.data.toList = b.data.toList) : a = b := ByteArray.ext (Array.toList_inj.1 h)
theorem bas_inj {a b : List ByteArray} (h : a.map (·.data.toList) = b.map (·.data.toList)) : a = b := (List.map_inj_right (fun _ _ h => ba_inj h)).1 h
/-- Behind the first token the ones ahead don't change. -/
theorem cutG_app (b : List UInt8) : ∀ (acc g : List (List UInt8)) (o : Option UInt8), g ≠ [] → b.foldl cstep (acc ++ g, o) = (acc ++ (b.foldl cstep (g, o)).1, (b.foldl cstep (g, o)).2) := by
  induction b with
  | nil => intro acc g o _; rfl
  | cons c b ih =>
    intro acc g o hg
    rw [List.foldl_cons, List.foldl_cons]
    obtain ⟨g', x, rfl⟩ : ∃ g' x, g = g' ++ [x] := by
      rcases List.eq_nil_or_concat g with h | ⟨g', x, h⟩
      · exact absurd h hg
      · exact ⟨g', x, by rw [h, List.concat_eq_append]⟩
    unfold cstep
    simp only []
    split
    · have : (acc ++ (g' ++ [x])).dropLast ++ [(acc ++ (g' ++ [x])).getLastD [] ++ [c]] = acc ++ ((g' ++ [x]).dropLast ++ [(g' ++ [x]).getLastD [] ++ [c]]) := by
        rw [← List.append_assoc acc, List.dropLast_concat, List.dropLast_concat, List.getLastD_concat, List.getLastD_concat, List.append_assoc]
      rw [this]
      exact ih acc _ _ (by simp)
    · rw [List.append_assoc acc]
      exact ih acc _ _ (by simp)
/-- The tokens of two texts, one behind the other, if the second one doesn't go on the first one's last token. -/
theorem cutL_app {a b : List UInt8} (h : ∀ x y, a.getLast? = some x → b.head? = some y → joins x y = false) : cutL (a ++ b) = cutL a ++ cutL b := by
  cases b with
  | nil => simp [cutL, cutG]
  | cons c b =>
    unfold cutL cutG
    rw [List.foldl_append]
    have hl := cutG_last a
    unfold cutG at hl
    generalize a.foldl cstep ([], none) = p at *
    obtain ⟨acc, o⟩ := p
    simp only [] at hl
    subst hl
    rw [List.foldl_cons, List.foldl_cons]
    have e1 : cstep (acc, a.getLast?) c = (acc ++ [[c]], some c) := by
      unfold cstep
      rw [if_neg]
      cases hg : a.getLast? with
      | none => simp
      | some x => simp [h x c hg rfl]
    have e2 : cstep ([], none) c = ([[c]], some c) := by simp [cstep]
    rw [e1, e2, cutG_app b acc [[c]] _ (by simp)]
/-- A text of one long class is one token. -/
theorem cutL_run : ∀ (l : List UInt8) (k : Int), l ≠ [] → long k = true → (∀ c ∈ l, kls c = k) → cutL l = [l] := by
  suffices ∀ (n : Nat) (l : List UInt8), l.length = n → ∀ k : Int, l ≠ [] → long k = true → (∀ c ∈ l, kls c = k) → cutL l = [l] from fun l k => this _ l rfl k
  intro n
  induction n with
  | zero => intro l hl k h; exact absurd (List.eq_nil_of_length_eq_zero hl) h
  | succ n ih =>
    intro l0 hl0 k hne0 hk hc
    obtain ⟨l, c, rfl⟩ : ∃ l c, l0 = l ++ [c] := by
      rcases List.eq_nil_or_concat l0 with h | ⟨l, c, h⟩
      · exact absurd h hne0
      · exact ⟨l, c, by rw [h, List.concat_eq_append]⟩
    have hln : l.length = n := by simpa using hl0
    unfold cutL
    rw [cutG_snoc]
    rcases List.eq_nil_or_concat l with rfl | ⟨l', d, hd⟩
    · simp [cutG, cstep]
    · have hne : l ≠ [] := by rw [hd]; simp
      have h1 := ih l hln k hne hk (fun x hx => hc x (by simp [hx]))
      have h2 := cutG_last l
      unfold cutL at h1
      generalize cutG l = p at *
      obtain ⟨g, o⟩ := p
      simp only [] at h1 h2
      subst h1; subst h2
      have hgl : l.getLast? = some d := by rw [hd]; simp
      rw [hgl]
      unfold cstep
      have e1 : kls c = k := hc c (by simp)
      have e2 : kls d = k := hc d (by rw [hd]; simp)
      simp [joins, e1, e2, hk]
/-- One byte is one token. -/
theorem cutL_one (c : UInt8) : cutL [c] = [[c]] := by simp [cutL, cutG, cstep]
end Go.Proofs.YtobncidpdodaiaaDoor
