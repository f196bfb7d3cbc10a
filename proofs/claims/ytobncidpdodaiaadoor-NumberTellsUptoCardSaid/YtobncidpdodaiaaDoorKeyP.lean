/- A block as a text, and that unlike blocks have unlike ones: no program in it. -/
import Derived.Test.YtobncidpdodaiaaDoorTree
import Derived.Lib.ItoaNum
namespace Go.Proofs.YtobncidpdodaiaaDoor
open Go
set_option linter.all false
set_option linter.deprecated false
def numB (n : Int) : List UInt8 := Lib.itoa n ++ [59]
def txtB (s : ByteArray) : List UInt8 := Lib.itoa s.size ++ (58 :: s.data.toList)
mutual
def keySp : Sp → List UInt8
  | .mk k s l => numB k ++ (txtB s ++ (numB l.length ++ keySpl l))
def keySpl : List Sp → List UInt8
  | [] => []
  | x :: l => keySp x ++ keySpl l
end
def keySps (l : List Sp) : List UInt8 := numB l.length ++ keySpl l
mutual
def keyB : Bl → List UInt8
  | .mk k n i ls sp l => numB k ++ (numB n ++ (txtB i ++ (numB ls.length ++ (ls.flatMap txtB ++ (keySps sp ++ (numB l.length ++ keyBl l))))))
def keyBl : List Bl → List UInt8
  | [] => []
  | x :: l => keyB x ++ keyBl l
end
theorem digits_ok (u : Nat) : ∀ c ∈ Lib.decDigits u, 48 ≤ c.toNat ∧ c.toNat ≤ 57 := by
  induction u using Nat.strongRecOn with
  | _ u ih =>
    intro c hc
    rw [Lib.decDigits] at hc
    split at hc
    · rw [List.mem_singleton] at hc
      subst hc
      rw [UInt8.toNat_ofNat']
      omega
    · rw [List.mem_append, List.mem_singleton] at hc
      rcases hc with h | h
      · exact ih (u / 10) (by omega) c h
      · subst h
        rw [UInt8.toNat_ofNat']
        omega
/-- What digits tell. -/
def valB (l : List UInt8) : Nat := l.foldl (fun a c => 10 * a + (c.toNat - 48)) 0
theorem valB_digits (u : Nat) : valB (Lib.decDigits u) = u := by
  induction u using Nat.strongRecOn with
  | _ u ih =>
    rw [Lib.decDigits]
    split
    · rename_i h
      simp only [valB, List.foldl_cons, List.foldl_nil, UInt8.toNat_ofNat']
      omega
    · have := ih (u / 10) (by omega)
      unfold valB at this ⊢
      rw [List.foldl_append, this]
      simp only [List.foldl_cons, List.foldl_nil, UInt8.toNat_ofNat']
      omega
theorem itoa_ok (n : Int) : ∀ c ∈ Lib.itoa n, c.toNat = 45 ∨ (48 ≤ c.toNat ∧ c.toNat ≤ 57) := by
  intro c hc
  unfold Lib.itoa at hc
  split at hc
  · rcases List.mem_cons.1 hc with h | h
    · subst h; exact .inl rfl
    · exact .inr (digits_ok _ c h)
  · exact .inr (digits_ok _ c hc)
theorem itoa_inj {n m : Int} (h : Lib.itoa n = Lib.itoa m) : n = m := by
  have hd : ∀ u v : Nat, Lib.decDigits u = Lib.decDigits v → u = v := fun u v e => by rw [← valB_digits u, e, valB_digits]
  have hne : ∀ u v : Nat, 45 :: Lib.decDigits u ≠ Lib.decDigits v := fun u v e => by
    have := digits_ok v 45 (by rw [← e]; simp)
    have h45 : (45 : UInt8).toNat = 45 := rfl
    omega
  unfold Lib.itoa at h
  split at h <;> split at h
  · injection h with _ h
    have := hd _ _ h
    omega
  · exact absurd h (hne _ _)
  · exact absurd h.symm (hne _ _)
  · have := hd _ _ h
    omega
theorem split_sep {c : UInt8} : ∀ {a b r s : List UInt8}, c ∉ a → c ∉ b → a ++ c :: r = b ++ c :: s → a = b ∧ r = s
  | [], [], _, _, _, _, h => by simpa using h
  | [], y :: b, _, _, _, hb, h => by
    simp only [List.nil_append, List.cons_append, List.cons.injEq] at h
    exact absurd (by simp [h.1]) hb
  | x :: a, [], _, _, ha, _, h => by
    simp only [List.nil_append, List.cons_append, List.cons.injEq] at h
    exact absurd (by simp [h.1]) ha
  | x :: a, y :: b, _, _, ha, hb, h => by
    simp only [List.cons_append, List.cons.injEq] at h
    obtain ⟨rfl, h⟩ := h
    obtain ⟨rfl, rfl⟩ := split_sep (fun hc => ha (by simp [hc])) (fun hc => hb (by simp [hc])) h
    exact ⟨rfl, rfl⟩
theorem not59 (n : Int) : (59 : UInt8) ∉ Lib.itoa n := fun h => by
  have := itoa_ok n 59 h
  have e : (59 : UInt8).toNat = 59 := rfl
  omega
theorem not58 (n : Int) : (58 : UInt8) ∉ Lib.itoa n := fun h => by
  have := itoa_ok n 58 h
  have e : (58 : UInt8).toNat = 58 := rfl
  omega
theorem numB_inj {n m : Int} {r s : List UInt8} (h : numB n ++ r = numB m ++ s) : n = m ∧ r = s := by
  unfold numB at h
  rw [List.append_assoc, List.append_assoc] at h
  obtain ⟨h1, h2⟩ := split_sep (not59 n) (not59 m) h
  exact ⟨itoa_inj h1, h2⟩
theorem txtB_inj {x y : ByteArray} {r s : List UInt8} (h : txtB x ++ r = txtB y ++ s) : x = y ∧ r = s := by
  unfold txtB at h
  rw [List.append_assoc, List.append_assoc, List.cons_append, List.cons_append] at h
  obtain ⟨h1, h2⟩ := split_sep (not58 _) (not58 _) h
  have h3 := itoa_inj h1
  have hl : x.data.toList.length = y.data.toList.length := by
    have e1 : x.data.toList.length = x.size := by simp
    have e2 : y.data.toList.length = y.size := by simp
    omega
  obtain ⟨h4, h5⟩ := List.append_inj h2 hl
  exact ⟨ByteArray.ext (Array.toList_inj.1 h4), h5⟩
theorem txts_inj : ∀ {a b : List ByteArray} {r s : List UInt8}, a.length = b.length → a.flatMap txtB ++ r = b.flatMap txtB ++ s → a = b ∧ r = s
  | [], [], _, _, _, h => by simpa using h
  | [], _ :: _, _, _, hl, _ => by simp at hl
  | _ :: _, [], _, _, hl, _ => by simp at hl
  | x :: a, y :: b, _, _, hl, h => by
    rw [List.flatMap_cons, List.flatMap_cons, List.append_assoc, List.append_assoc] at h
    obtain ⟨rfl, g1⟩ := txtB_inj h
    obtain ⟨rfl, rfl⟩ := txts_inj (by simpa using hl) g1
    exact ⟨rfl, rfl⟩
mutual
theorem keySp_inj : ∀ {x y : Sp} {r s : List UInt8}, keySp x ++ r = keySp y ++ s → x = y ∧ r = s
  | .mk k t l, .mk k' t' l', r, s, h => by
    rw [keySp, keySp] at h
    simp only [List.append_assoc] at h
    obtain ⟨rfl, g1⟩ := numB_inj h
    obtain ⟨rfl, g2⟩ := txtB_inj g1
    obtain ⟨hl, g3⟩ := numB_inj g2
    obtain ⟨rfl, rfl⟩ := keySpl_inj (by omega) g3
    exact ⟨rfl, rfl⟩
theorem keySpl_inj : ∀ {a b : List Sp} {r s : List UInt8}, a.length = b.length → keySpl a ++ r = keySpl b ++ s → a = b ∧ r = s
  | [], [], _, _, _, h => by simpa [keySpl] using h
  | [], _ :: _, _, _, hl, _ => by simp at hl
  | _ :: _, [], _, _, hl, _ => by simp at hl
  | x :: a, y :: b, r, s, hl, h => by
    rw [keySpl, keySpl, List.append_assoc, List.append_assoc] at h
    obtain ⟨rfl, g1⟩ := keySp_inj h
    obtain ⟨rfl, rfl⟩ := keySpl_inj (by simpa using hl) g1
    exact ⟨rfl, rfl⟩
end
mutual
theorem keyB_inj : ∀ {x y : Bl} {r s : List UInt8}, keyB x ++ r = keyB y ++ s → x = y ∧ r = s
  | .mk k n i ls sp l, .mk k' n' i' ls' sp' l', r, s, h => by
    rw [keyB, keyB] at h
    simp only [List.append_assoc, keySps] at h
    obtain ⟨rfl, g1⟩ := numB_inj h
    obtain ⟨rfl, g2⟩ := numB_inj g1
    obtain ⟨rfl, g3⟩ := txtB_inj g2
    obtain ⟨h1, g4⟩ := numB_inj g3
    obtain ⟨rfl, g5⟩ := txts_inj (by omega) g4
    obtain ⟨h2, g6⟩ := numB_inj g5
    obtain ⟨rfl, g7⟩ := keySpl_inj (by omega) g6
    obtain ⟨h3, g8⟩ := numB_inj g7
    obtain ⟨rfl, rfl⟩ := keyBl_inj (by omega) g8
    exact ⟨rfl, rfl⟩
theorem keyBl_inj : ∀ {a b : List Bl} {r s : List UInt8}, a.length = b.length → keyBl a ++ r = keyBl b ++ s → a = b ∧ r = s
  | [], [], _, _, _, h => by simpa [keyBl] using h
  | [], _ :: _, _, _, hl, _ => by simp at hl
  | _ :: _, [], _, _, hl, _ => by simp at hl
  | x :: a, y :: b, r, s, hl, h => by
    rw [keyBl, keyBl, List.append_assoc, List.append_assoc] at h
    obtain ⟨rfl, g1⟩ := keyB_inj h
    obtain ⟨rfl, rfl⟩ := keyBl_inj (by simpa using hl) g1
    exact ⟨rfl, rfl⟩
end
theorem key_inj {x y : Bl} (h : keyB x = keyB y) : x = y := (keyB_inj (r := []) (s := []) (by rw [h])).1
end Go.Proofs.YtobncidpdodaiaaDoor
