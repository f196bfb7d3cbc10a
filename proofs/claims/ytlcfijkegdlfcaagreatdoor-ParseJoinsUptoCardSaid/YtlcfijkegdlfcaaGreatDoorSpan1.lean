/- The walks of spanin.Ticks, is, plain, strip, dest. -/
import Derived.Test.YtlcfijkegdlfcaaGreatDoorKind2
namespace Go.Proofs.YtlcfijkegdlfcaaGreatDoor
open Go.RowKit Go.PlainAid
set_option linter.all false
set_option linter.deprecated false
set_option maxRecDepth 100000
set_option maxHeartbeats 2000000 in
theorem Ticks_calls (s : ByteArray) (k : Nat) (w : World) (hs : s.size ≤ 4294967280) :
    Calls Tryz.prog 183 #[.string s, .int .i64 k] w fun e w' => e = .returned (.int .i64 (runL 96 ((bl s).drop k) : Nat)) ∧ w' = w := by
  by_cases h : k < s.size
  · have hR := fun W => Run_calls (s.extract k s.size) 96 W (by rw [ext_bl, ba_size, List.length_drop, bl_len]; omega)
    rw [ext_bl, bl_ba] at hR
    have hext := ext_bl s k
    generalize runL 96 ((bl s).drop k) = R at *
    generalize ba ((bl s).drop k) = E at *
    have h1 : (k : Int) < s.size := by omega
    have h2 : ¬ (s.size : Int) ≤ k := by omega
    have h3 : decide (s.size ≤ k) = false := decide_eq_false (by omega)
    have HR := Lib.hid hR
    clear hR
    go_enter Tryz.func183, Tryz.ntmps183
    go_wp2_with fail
    refine (HR.out _).mono ?_
    rintro e w1 ⟨rfl, rfl⟩
    go_wp2_with fail
    go_ret
    exact ⟨rfl, rfl⟩
  · have hz : runL 96 ((bl s).drop k) = 0 := by rw [List.drop_eq_nil_of_le (by rw [bl_len]; omega)]; rfl
    rw [hz]
    have h2 : (s.size : Int) ≤ k := by omega
    have h3 : decide (s.size ≤ k) = true := decide_eq_true (by omega)
    go_enter Tryz.func183, Tryz.ntmps183
    go_wp2_with fail
    go_ret
    exact ⟨rfl, rfl⟩
theorem drop_head (s : ByteArray) (k : Nat) (h : k < s.size) : ((bl s).drop k).head? = some ((bl s).getD k 0) := by
  rw [List.head?_drop, List.getD_eq_getElem?_getD, List.getElem?_eq_getElem (by rw [bl_len]; exact h)]; rfl
theorem bt_is (s : ByteArray) (k : Nat) (c : UInt8) (h : k < s.size) : (bt s k == (c.toNat : Int)) = decide (((bl s).drop k).head? = some c) := by
  rw [bt_bl, drop_head s k h]
  generalize (bl s).getD k 0 = x
  by_cases hx : x = c
  · subst hx; simp
  · rw [beq_eq_false_iff_ne.2 (fun e => hx (UInt8.toNat_inj.1 (by exact_mod_cast e)))]
    exact (decide_eq_false (fun e => hx (Option.some.inj e))).symm
set_option maxHeartbeats 2000000 in
theorem is_calls (s : ByteArray) (k : Nat) (c : UInt8) (w : World) (hs : s.size ≤ 4294967280) :
    Calls Tryz.prog 180 #[.agg #[.string s], .int .i64 k, .int .u8 c.toNat] w fun e w' => e = .returned (.bool (decide (((bl s).drop k).head? = some c))) ∧ Below w.heap.size w w' := by
  have hg := get_bt s
  by_cases h : k < s.size
  · have h1 : (k : Int) < s.size := by omega
    have hb := bt_is s k c h
    rw [← hb]
    clear hb
    go_enter Tryz.func180, Tryz.ntmps180
    go_wp2_with fail
    go_ret
    exact ⟨rfl, (Below.refl _ _).alloc (Nat.le_refl _) _⟩
  · have hz : decide (((bl s).drop k).head? = some c) = false := by rw [List.drop_eq_nil_of_le (by rw [bl_len]; omega)]; simp
    rw [hz]
    have h2 : ¬ (k : Int) < s.size := by omega
    go_enter Tryz.func180, Tryz.ntmps180
    go_wp2_with fail
    go_ret
    exact ⟨rfl, (Below.refl _ _).alloc (Nat.le_refl _) _⟩
set_option maxHeartbeats 2000000 in
theorem plain_calls (s : ByteArray) (k : Nat) (w : World) (hs : s.size ≤ 4294967280) :
    Calls Tryz.prog 165 #[.agg #[.string s], .int .i64 k] w fun e w' => e = .returned (.int .i64 (max 1 (runL 96 ((bl s).drop k)) : Nat)) ∧ Below w.heap.size w w' := by
  have HT := Lib.hid (fun W => Ticks_calls s k W hs)
  generalize runL 96 ((bl s).drop k) = R at *
  go_enter Tryz.func165, Tryz.ntmps165
  go_wp2_with fail
  refine (HT.out _).mono ?_
  rintro e w1 ⟨rfl, rfl⟩
  go_wp2_with fail
  go_ret
  exact ⟨ret_int (by omega), (Below.refl _ _).alloc (Nat.le_refl _) _⟩
theorem trimB_all (l : List UInt8) (c : UInt8) : Lib.trimB l c = [] ↔ l.any (· != c) = false := by
  have h1 : ∀ m : List UInt8, (m.dropWhile (· == c) = []) ↔ m.any (· != c) = false := by
    intro m
    induction m with
    | nil => simp
    | cons x t ih =>
      by_cases hx : (x == c) = true
      · rw [List.dropWhile_cons, if_pos hx, List.any_cons, ih]
        simp [bne, hx]
      · rw [List.dropWhile_cons, if_neg hx, List.any_cons]
        simp at hx
        simp [bne, hx]
  have h2 : ∀ m : List UInt8, (m.dropWhile (· == c)).any (· != c) = m.any (· != c) := by
    intro m
    induction m with
    | nil => rfl
    | cons x t ih =>
      by_cases hx : (x == c) = true
      · rw [List.dropWhile_cons, if_pos hx, List.any_cons, ih]
        simp [bne, hx]
      · rw [List.dropWhile_cons, if_neg hx]
  unfold Lib.trimB Lib.trimLeftB Lib.trimRightB
  rw [h1, List.any_reverse, h2, List.any_reverse]
theorem getL_last (s : ByteArray) (h : 0 < s.size) : (bl s).getLast? = some ((bl s).getD (s.size - 1) 0) := by
  rw [List.getLast?_eq_getElem?, bl_len, List.getD_eq_getElem?_getD, List.getElem?_eq_getElem (by rw [bl_len]; omega)]; rfl
theorem mid_bl (s : ByteArray) (a b : Nat) : s.extract a b = ba (((bl s).take b).drop a) := by
  apply bl_inj
  rw [bl_ba]
  unfold bl
  rw [ByteArray.data_extract, Array.toList_extract, List.extract_eq_drop_take, List.drop_take]
set_option maxHeartbeats 2000000 in
theorem strip_calls (s : ByteArray) (w : World) (hs : s.size ≤ 4294967280) :
    Calls Tryz.prog 191 #[.string s] w fun e w' => e = .returned (.string (ba (stripL (bl s)))) ∧ Below w.heap.size w w' := by
  have hT := fun W => Tryz.strings_Trim_one s 32 (by decide) W (by omega)
  have hany := trimB_all (bl s) 32
  have hg := get_bt s
  have hd : stripL (bl s) = if 2 < s.size ∧ (bl s).head? = some 32 ∧ (bl s).getLast? = some 32 ∧ (bl s).any (· != 32) = true then ((bl s).drop 1).dropLast else bl s := by unfold stripL; rw [bl_len]
  by_cases h2 : 2 < s.size
  · have h2z : (2 : Int) < s.size := by omega
    have hb0 := bt_is s 0 32 (by omega)
    rw [List.drop_zero] at hb0
    have hbl : (bt s (s.size - 1) == ((32 : UInt8).toNat : Int)) = decide ((bl s).getLast? = some 32) := by
      rw [bt_is s (s.size - 1) 32 (by omega), getL_last s (by omega), drop_head s (s.size - 1) (by omega)]
    have hw1 : IntKind.i64.wrap ((s.size : Int) - 1) = (s.size : Int) - 1 := IntWalk.i64_in _ (by omega)
    have hext : s.extract 1 (s.size - 1) = ba (((bl s).drop 1).dropLast) := by
      rw [mid_bl]
      congr 1
      rw [List.dropLast_eq_take, List.length_drop, bl_len, List.drop_take]
    have hemp : ∀ t : ByteArray, t.toList.isEmpty = decide (bl t = []) := fun t => by rw [Lib.toList_data]; unfold bl; cases t.data.toList <;> simp
    have hcut : (!(ba (Lib.trimB (bl s) 32)).toList.isEmpty) = (bl s).any (· != 32) := by
      rw [hemp, bl_ba]
      cases hA : (bl s).any (· != 32)
      · simp [hany.2 hA]
      · have : ¬ Lib.trimB (bl s) 32 = [] := fun h => by rw [hany.1 h] at hA; cases hA
        simp [this]
    have h62 : ((32 : UInt8).toNat : Int) = 32 := rfl
    rw [h62] at hb0 hbl
    change ∀ W, Calls _ _ _ W fun e w' => e = .returned (.string (ba (Lib.trimB (bl s) 32))) ∧ (w' = W ∨ w' = W.drew) at hT
    have he0 : (bl s).head? = some 32 ↔ decide ((bl s).head? = some 32) = true := by simp
    have he1 : (bl s).getLast? = some 32 ↔ decide ((bl s).getLast? = some 32) = true := by simp
    generalize decide ((bl s).head? = some 32) = V0 at *
    generalize decide ((bl s).getLast? = some 32) = V1 at *
    generalize (bl s).any (· != 32) = V2 at *
    generalize ba (Lib.trimB (bl s) 32) = TT at *
    have q1 : (1 : Int) ≤ (s.size : Int) - 1 := by omega
    have q2 : (0 : Int) ≤ (s.size : Int) - 1 := by omega
    have q3 : (s.size : Int) - 1 < s.size := by omega
    have q4 : ((s.size : Int) - 1).toNat = s.size - 1 := by omega
    have q5 : (s.size : Int) - 1 ≤ s.size := by omega
    have hpos : (0 : Int) < s.size := by omega
    have hpos2 : 0 < s.size := by omega
    have HT := Lib.hid hT
    have HD := Lib.hid hd
    have HX := Lib.hid hext
    have HE0 := Lib.hid he0
    have HE1 := Lib.hid he1
    clear hT hany hd he0 he1 hemp h62
    cases V0 with
    | false =>
      have hx : ba (stripL (bl s)) = s := by rw [HD.out, if_neg (fun h => by have := HE0.out.1 h.2.1; cases this), ba_bl]
      rw [hx]
      clear hext
      go_enter Tryz.func191, Tryz.ntmps191
      go_wp2
      first
        | (go_ret; exact ⟨rfl, Below.refl _ _⟩)
        | (go_quiet (fail); go_wp2; go_ret; exact ⟨rfl, below_drewN (Below.refl _ _) _⟩)
    | true =>
      cases V1 with
      | false =>
        have hx : ba (stripL (bl s)) = s := by rw [HD.out, if_neg (fun h => by have := HE1.out.1 h.2.2.1; cases this), ba_bl]
        rw [hx]
        clear hext
        go_enter Tryz.func191, Tryz.ntmps191
        go_wp2
        first
          | (go_ret; exact ⟨rfl, Below.refl _ _⟩)
          | (go_quiet (fail); go_wp2; go_ret; exact ⟨rfl, below_drewN (Below.refl _ _) _⟩)
      | true =>
        have hcut2 : TT.toList.isEmpty = !V2 := by rw [← hcut]; simp
        cases V2 with
        | false =>
          have hx : ba (stripL (bl s)) = s := by rw [HD.out, if_neg (fun h => by simp at h), ba_bl]
          rw [hx]
          clear hext hcut
          go_enter Tryz.func191, Tryz.ntmps191
          go_wp2_with fail
          refine (HT.out _).mono ?_
          rintro e w1 ⟨rfl, hw⟩
          have hb : Below w.heap.size w w1 := by
            rcases hw with rfl | rfl
            · exact Below.refl _ _
            · exact Below.drew (Below.refl _ _)
          clear hw
          go_wp2_with fail
          go_ret
          exact ⟨rfl, hb⟩
        | true =>
          have hx : ba (stripL (bl s)) = ba (((bl s).drop 1).dropLast) := by rw [HD.out, if_pos ⟨h2, HE0.out.2 rfl, HE1.out.2 rfl, rfl⟩]
          rw [hx]
          generalize ba (((bl s).drop 1).dropLast) = RR at *
          go_enter Tryz.func191, Tryz.ntmps191
          go_wp2_with fail
          refine (HT.out _).mono ?_
          rintro e w1 ⟨rfl, hw⟩
          have hb : Below w.heap.size w w1 := by
            rcases hw with rfl | rfl
            · exact Below.refl _ _
            · exact Below.drew (Below.refl _ _)
          clear hw
          go_wp2_with fail
          go_ret
          exact ⟨rfl, hb⟩
  · have h2z : ¬ (2 : Int) < s.size := by omega
    have hx : ba (stripL (bl s)) = s := by rw [hd, if_neg (fun h => h2 h.1), ba_bl]
    rw [hx]
    clear hT hany hd
    go_enter Tryz.func191, Tryz.ntmps191
    go_wp2_with fail
    go_ret
    exact ⟨rfl, Below.refl _ _⟩
/-- What dest answers. -/
def DestOf (s : ByteArray) (x : Option (Ln × Ln)) (w : World) (e : Ending) (w' : World) : Prop :=
  ∃ a n, e = .returned (.tuple #[.string a, .int .i64 n, .bool x.isSome]) ∧ (∀ d r, x = some (d, r) → a = ba d ∧ ∃ k : Nat, n = k ∧ k ≤ s.size ∧ (bl s).drop k = r) ∧ Below w.heap.size w w'
theorem tw_step {p : UInt8 → Bool} {l : List UInt8} : ∀ {n : Nat}, n ≤ (l.takeWhile p).length → n < l.length → (n < (l.takeWhile p).length ↔ p (l.getD n 0) = true) := by
  induction l with
  | nil => intro n h h2; simp at h2
  | cons x t ih =>
    intro n h h2
    by_cases hx : p x = true
    · rw [List.takeWhile_cons, if_pos hx, List.length_cons] at h ⊢
      cases n with
      | zero => simp [hx]
      | succ n =>
        have := ih (n := n) (by omega) (by simpa using h2)
        rw [List.getD_cons_succ, ← this]; omega
    · rw [List.takeWhile_cons, if_neg hx] at h ⊢
      have : n = 0 := by simpa using h
      subst this
      simp [hx]
end Go.Proofs.YtlcfijkegdlfcaaGreatDoor
