/- The walk of span.Dest. -/
import Derived.Test.YtlcfijkegdlfcaaGreatDoorReadP
import Derived.Test.YtlcfijkegdlfcaaGreatDoorIdx2
namespace Go.Proofs.YtlcfijkegdlfcaaGreatDoor
open Go.RowKit Go.PlainAid
set_option linter.all false
set_option linter.deprecated false
set_option maxRecDepth 100000
/-- Is a rune none of a place's letters? -/
def offR (x : Nat) : Bool := !(decide (x < 128) && letterB x.toUInt8)
theorem letters_asc : ∀ b ∈ lettersL, b.toNat < 128 := by decide
theorem letter_asc {c : UInt8} (h : letterB c = true) : c.toNat < 128 := letters_asc c (List.contains_iff_mem.1 h)
theorem offR_byte (c : UInt8) : offR c.toNat = !letterB c := by
  unfold offR
  have e : c.toNat.toUInt8 = c := by simp
  rw [e]
  cases h : letterB c
  · simp
  · simp [letter_asc h]
set_option maxHeartbeats 1000000 in
theorem SDest1_calls (x : Nat) (hx : x ≤ 1114111) (w : World) : Calls Tryz.prog 143 #[.int .i32 x] w fun e w' => e = .returned (.bool (offR x)) ∧ Below w.heap.size w w' := by
  have hbl : bl ⟨lettersL.toArray⟩ = lettersL := rfl
  by_cases h : x < 128
  · have hI := Tryz.strings_IndexRune_ascii ⟨lettersL.toArray⟩ (x : Int) w (by omega) (by omega)
    have hc := Lib.contains_iff_indexByte lettersL x.toUInt8
    have hz : ((x : Int)).toNat.toUInt8 = x.toUInt8 := by simp
    rw [hz] at hI
    have ho : offR x = !letterB x.toUInt8 := by unfold offR; simp [h]
    rw [ho]
    have hl : letterB x.toUInt8 = lettersL.contains x.toUInt8 := rfl
    rw [hl, hc]
    change Calls _ _ _ _ fun e w' => e = .returned (.int .i64 (Lib.indexByte lettersL x.toUInt8)) ∧ w' = w at hI
    generalize Lib.indexByte lettersL x.toUInt8 = R at *
    have HI := Lib.hid hI
    clear hI hc hz ho hl hbl
    go_enter Tryz.func143, Tryz.ntmps143
    go_wp2_with fail
    refine HI.out.mono ?_
    rintro e w1 ⟨rfl, rfl⟩
    by_cases hR : (0 : Int) ≤ R
    · have hR2 : ¬ R < 0 := by omega
      go_wp2_with fail
      go_ret
      exact ⟨ret_bool (by simp [hR]), Below.refl _ _⟩
    · have hR2 : R < 0 := by omega
      go_wp2_with fail
      go_ret
      exact ⟨ret_bool (by simp [hR, hR2]), Below.refl _ _⟩
  · have hI := IndexRune_far ⟨lettersL.toArray⟩ (x : Int) w (by omega) (by omega) (by rw [hbl]; exact letters_asc) (by decide)
    have ho : offR x = true := by unfold offR; simp [h]
    rw [ho]
    have HI := Lib.hid hI
    clear hI ho hbl
    go_enter Tryz.func143, Tryz.ntmps143
    go_wp2_with fail
    refine HI.out.mono ?_
    rintro e w1 ⟨rfl, hb⟩
    go_wp2_with fail
    go_ret
    exact ⟨rfl, hb⟩
theorem idx_off (s : ByteArray) : ∀ (f pos : Nat), s.size ≤ pos + f → (0 ≤ Lib.idxFuncFrom offR true s f pos ↔ ((bl s).drop pos).any (fun c => !letterB c) = true)
  | 0, pos, h => by
    rw [List.drop_eq_nil_of_le (by rw [bl_len]; omega)]
    simp [Lib.idxFuncFrom]
  | f + 1, pos, h => by
    by_cases hp : pos < s.size
    · have hx := getE s pos hp
      have hg := get!E s pos hp
      have hd : (bl s).drop pos = s[pos] :: (bl s).drop (pos + 1) := by
        rw [List.drop_eq_getElem_cons (by rw [bl_len]; exact hp)]
        congr 1
      rw [hd, List.any_cons]
      by_cases ha : (s[pos]'hp).toNat < 128
      · have hdec := decode_ascii s pos hp ha
        have ih := idx_off s f (pos + 1) (by omega)
        rw [Lib.idxFuncFrom, if_pos hp, hdec]
        simp only [offR_byte]
        cases hl : letterB s[pos]
        · simp
        · simpa using ih
      · have hdec := (decode_high s pos hp (by omega)).1
        have ho : offR (Utf8.decode s pos).1 = true := by unfold offR; simp [show ¬ (Utf8.decode s pos).1 < 128 by omega]
        have hl : letterB s[pos] = false := by
          cases h : letterB s[pos]
          · rfl
          · exact absurd (letter_asc h) ha
        rw [Lib.idxFuncFrom, if_pos hp, ho, hl]
        simp
    · rw [List.drop_eq_nil_of_le (by rw [bl_len]; omega), Lib.idxFuncFrom_end _ _ _ _ _ hp]
      simp
theorem idx_dest (s : ByteArray) : (!s.toList.isEmpty && !decide (0 ≤ Lib.idxFunc offR true s)) = destL (bl s) := by
  have h := idx_off s s.size 0 (by omega)
  rw [List.drop_zero] at h
  have he : s.toList.isEmpty = (bl s).isEmpty := by rw [Lib.toList_data]; rfl
  have hd : decide (0 ≤ Lib.idxFunc offR true s) = (bl s).any (fun c => !letterB c) := by
    cases hh : (bl s).any (fun c => !letterB c)
    · exact decide_eq_false (fun hc => by have := h.1 hc; rw [hh] at this; cases this)
    · exact decide_eq_true (h.2 hh)
  rw [he, hd]
  unfold destL
  congr 1
  rw [List.all_eq_not_any_not]
set_option maxHeartbeats 1000000 in
theorem Dest_calls (s : ByteArray) (w : World) : Calls Tryz.prog 113 #[.string s] w fun e w' => e = .returned (.bool (destL (bl s))) ∧ Below w.heap.size w w' := by
  have hF := fun W => Tryz.strings_ContainsFunc_grows 143 #[] (fun args w => by kernel_rfl) offR s W (fun W' x hx hb => SDest1_calls x hx W')
  have hid := idx_dest s
  generalize decide (0 ≤ Lib.idxFunc offR true s) = F at *
  generalize destL (bl s) = X at *
  have HF := Lib.hid hF
  have HD := Lib.hid hid
  clear hF hid
  cases he : s.toList.isEmpty with
  | true =>
    rw [he] at HD
    go_enter Tryz.func113, Tryz.ntmps113
    go_wp2_with fail
    go_ret
    exact ⟨ret_bool (by rw [← HD.out]; rfl), Below.refl _ _⟩
  | false =>
    rw [he] at HD
    go_enter Tryz.func113, Tryz.ntmps113
    go_wp2_with fail
    refine (HF.out _).mono ?_
    rintro e w1 ⟨rfl, hb⟩
    go_wp2_with fail
    go_ret
    exact ⟨ret_bool (by rw [← HD.out]; cases F <;> rfl), hb⟩
end Go.Proofs.YtlcfijkegdlfcaaGreatDoor
