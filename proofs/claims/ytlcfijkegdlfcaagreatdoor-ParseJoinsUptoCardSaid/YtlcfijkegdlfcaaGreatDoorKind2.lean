/- The walks of kind.Head, Open, Closes, Unquote, Unitem, Inner. -/
import Derived.Test.YtlcfijkegdlfcaaGreatDoorKindW
/- The walk of kind.Of. -/
namespace Go.Proofs.YtlcfijkegdlfcaaGreatDoor
open Go.RowKit Go.PlainAid
set_option linter.all false
set_option linter.deprecated false
set_option maxRecDepth 100000
theorem trim_nil : trimL [] = [] := rfl
set_option maxHeartbeats 8000000 in
theorem Of_calls (s : ByteArray) (w : World) (hs : s.size ≤ 4294967280) (hT : TextB w.heap.size w) :
    Calls Tryz.prog 51 #[.string s] w fun e w' => e = .returned (.int .i64 (kindL (bl s) : Nat)) ∧ Below w.heap.size w w' := by
  have hB := LBlank_calls s w (by omega)
  have hH := fun W => khead_calls s W (by omega)
  have hR := fun W => Run_calls s 45 W (by omega)
  have hO := fun W => kopen_calls s W (by omega)
  have hP := fun W => Tryz.strings_HasPrefix s ⟨#[45, 32]⟩ W
  have hpe : Lib.hasPrefix s.data.toList (⟨#[45, 32]⟩ : ByteArray).data.toList = [45, 32].isPrefixOf (bl s) := rfl
  rw [hpe] at hP
  have hD := fun W (hW : Below w.heap.size w W) => define_calls s W hs (hT.up hW)
  have hdef : kindL (bl s) = if decide (trimL (bl s) = []) = true then 1 else if 0 < headL (bl s) then 2 else if 3 ≤ s.size ∧ runL 45 (bl s) = s.size then 3 else if 0 < openL (bl s) then 4 else if decide ((bl s).head? = some 62) = true then 5 else
    if decide (bl s = [45]) = true ∨ [45, 32].isPrefixOf (bl s) = true then 6 else if (defineL (bl s)).isSome = true then 7 else 8 := by
    simp only [decide_eq_true_eq]
    rw [← bl_len]; rfl
  have hne : decide (trimL (bl s) = []) = false → 0 < s.size := fun h => by
    have h := of_decide_eq_false h
    rw [← bl_len]
    cases hb : bl s with
    | nil => rw [hb] at h; exact absurd trim_nil h
    | cons x t => simp
  have hbt : 0 < s.size → (bt s 0 == 62) = decide ((bl s).head? = some 62) := fun h => by
    rw [bt_bl]
    cases hb : bl s with
    | nil => have := bl_len s; rw [hb] at this; simp at this; omega
    | cons x t =>
      simp only [List.getD_cons_zero, List.head?_cons, Option.some.injEq]
      by_cases hx : x = 62
      · rw [hx]; rfl
      · rw [beq_eq_false_iff_ne.2 (fun e => hx (UInt8.toNat_inj.1 (by exact_mod_cast e)))]
        exact (decide_eq_false hx).symm
  have hdash : (s.toList == (⟨#[45]⟩ : ByteArray).toList) = decide (bl s = [45]) := by
    rw [beq_d]
    exact decide_eq_decide.2 ⟨fun h => by rw [h]; rfl, fun h => bl_inj (h.trans rfl)⟩
  have hg := get_bt s
  clear hpe
  generalize kindL (bl s) = X at *
  generalize decide (trimL (bl s) = []) = VB at *
  generalize decide ((bl s).head? = some 62) = VQ at *
  generalize decide (bl s = [45]) = VI at *
  generalize headL (bl s) = H at *
  generalize openL (bl s) = O at *
  generalize runL 45 (bl s) = R at *
  generalize [45, 32].isPrefixOf (bl s) = VP at *
  generalize hdd : defineL (bl s) = DD at *
  have HB := Lib.hid hB
  have HH := Lib.hid hH
  have HR := Lib.hid hR
  have HO := Lib.hid hO
  have HP := Lib.hid hP
  have HD := Lib.hid hD
  have HX := Lib.hid hdef
  have HBT := Lib.hid hbt
  have hl45 : (⟨#[45]⟩ : ByteArray).toList = [45] := by rw [Lib.toList_data]
  have HDA := Lib.hid hdash
  have HDB := Lib.hid (show (s.toList == [45]) = VI by rw [← hdash, hl45])
  clear hl45
  clear hB hH hR hO hP hD hdef hbt hdash hdd hT
  cases VB with
  | true =>
    have hx : X = 1 := HX.out.trans (by simp [])
    subst hx
    clear HX
    go_enter Tryz.func51, Tryz.ntmps51
    go_wp2_with fail
    refine HB.out.mono ?_
    rintro e w1 ⟨rfl, hb1⟩
    go_wp2_with fail
    go_ret
    exact ⟨rfl, hb1⟩
  | false =>
    have hpos := hne rfl
    have hposz : (0 : Int) < s.size := by omega
    have hbt := HBT.out hpos
    by_cases h2 : 0 < H
    · have h2z : (0 : Int) < H := by omega
      have hx : X = 2 := HX.out.trans (by simp [h2])
      subst hx
      clear HX
      go_enter Tryz.func51, Tryz.ntmps51
      go_wp2_with fail
      refine HB.out.mono ?_
      rintro e w1 ⟨rfl, hb1⟩
      go_wp2_with fail
      refine (HH.out _).mono ?_
      rintro e w2 ⟨rfl, rfl⟩
      go_wp2_with fail
      go_ret
      exact ⟨rfl, hb1⟩
    have h2z : ¬ (0 : Int) < H := by omega
    by_cases h3 : 3 ≤ s.size ∧ R = s.size
    · have h3z : (3 : Int) ≤ s.size := by omega
      have h3e : ((R : Int) == (s.size : Int)) = true := beq_iff_eq.2 (by omega)
      have hx : X = 3 := HX.out.trans (by simp [h2, h3])
      subst hx
      clear HX
      go_enter Tryz.func51, Tryz.ntmps51
      go_wp2_with fail
      refine HB.out.mono ?_
      rintro e w1 ⟨rfl, hb1⟩
      go_wp2_with fail
      refine (HH.out _).mono ?_
      rintro e w2 ⟨rfl, rfl⟩
      go_wp2_with fail
      refine (HR.out _).mono ?_
      rintro e w3 ⟨rfl, rfl⟩
      go_wp2_with fail
      go_ret
      exact ⟨rfl, hb1⟩
    by_cases h3b : 3 ≤ s.size
    · have h3z : (3 : Int) ≤ s.size := by omega
      have h3e : ((R : Int) == (s.size : Int)) = false := beq_eq_false_iff_ne.2 (by omega)
      have h3c : ¬ R = s.size := by omega
      by_cases h4 : 0 < O
      · have h4z : (0 : Int) < O := by omega
        have hx : X = 4 := HX.out.trans (by simp [h2, h3, h4])
        subst hx
        clear HX
        go_enter Tryz.func51, Tryz.ntmps51
        go_wp2_with fail
        refine HB.out.mono ?_
        rintro e w1 ⟨rfl, hb1⟩
        go_wp2_with fail
        refine (HH.out _).mono ?_
        rintro e w2 ⟨rfl, rfl⟩
        go_wp2_with fail
        refine (HR.out _).mono ?_
        rintro e w3 ⟨rfl, rfl⟩
        go_wp2_with fail
        refine (HO.out _).mono ?_
        rintro e w4 ⟨rfl, rfl⟩
        go_wp2_with fail
        go_ret
        exact ⟨rfl, hb1⟩
      have h4z : ¬ (0 : Int) < O := by omega
      cases VQ with
      | true =>
        have hx : X = 5 := HX.out.trans (by simp [h2, h3, h4])
        subst hx
        clear HX
        go_enter Tryz.func51, Tryz.ntmps51
        go_wp2_with fail
        refine HB.out.mono ?_
        rintro e w1 ⟨rfl, hb1⟩
        go_wp2_with fail
        refine (HH.out _).mono ?_
        rintro e w2 ⟨rfl, rfl⟩
        go_wp2_with fail
        refine (HR.out _).mono ?_
        rintro e w3 ⟨rfl, rfl⟩
        go_wp2_with fail
        refine (HO.out _).mono ?_
        rintro e w4 ⟨rfl, rfl⟩
        go_wp2_with fail
        go_ret
        exact ⟨rfl, hb1⟩
      | false =>
        have hda := HDA.out
        have hdb := HDB.out
        have hdc : decide (s.toList = [45]) = VI := by rw [← HDB.out]; by_cases h : s.toList = [45] <;> simp [h]
        cases VI with
        | true =>
          have hx : X = 6 := HX.out.trans (by simp [h2, h3, h4])
          subst hx
          clear HX
          go_enter Tryz.func51, Tryz.ntmps51
          go_wp2_with fail
          refine HB.out.mono ?_
          rintro e w1 ⟨rfl, hb1⟩
          go_wp2_with fail
          refine (HH.out _).mono ?_
          rintro e w2 ⟨rfl, rfl⟩
          go_wp2_with fail
          refine (HR.out _).mono ?_
          rintro e w3 ⟨rfl, rfl⟩
          go_wp2_with fail
          refine (HO.out _).mono ?_
          rintro e w4 ⟨rfl, rfl⟩
          go_wp2_with fail
          go_ret
          exact ⟨rfl, hb1⟩
        | false =>
          cases VP with
          | true =>
            have hx : X = 6 := HX.out.trans (by simp [h2, h3, h4])
            subst hx
            clear HX
            go_enter Tryz.func51, Tryz.ntmps51
            go_wp2_with fail
            refine HB.out.mono ?_
            rintro e w1 ⟨rfl, hb1⟩
            go_wp2_with fail
            refine (HH.out _).mono ?_
            rintro e w2 ⟨rfl, rfl⟩
            go_wp2_with fail
            refine (HR.out _).mono ?_
            rintro e w3 ⟨rfl, rfl⟩
            go_wp2_with fail
            refine (HO.out _).mono ?_
            rintro e w4 ⟨rfl, rfl⟩
            go_wp2_with fail
            refine (HP.out _).mono ?_
            rintro e w5 ⟨rfl, rfl⟩
            go_wp2_with fail
            go_ret
            exact ⟨rfl, hb1⟩
          | false =>
            cases hd : DD.isSome with
            | true =>
              have hx : X = 7 := HX.out.trans (by simp [h2, h3, h4, hd])
              subst hx
              clear HX
              go_enter Tryz.func51, Tryz.ntmps51
              go_wp2_with fail
              refine HB.out.mono ?_
              rintro e w1 ⟨rfl, hb1⟩
              go_wp2_with fail
              refine (HH.out _).mono ?_
              rintro e w2 ⟨rfl, rfl⟩
              go_wp2_with fail
              refine (HR.out _).mono ?_
              rintro e w3 ⟨rfl, rfl⟩
              go_wp2_with fail
              refine (HO.out _).mono ?_
              rintro e w4 ⟨rfl, rfl⟩
              go_wp2_with fail
              refine (HP.out _).mono ?_
              rintro e w5 ⟨rfl, rfl⟩
              go_wp2_with fail
              refine (HD.out _ hb1).mono ?_
              rintro e w6 ⟨a, b, rfl, _, hb6⟩
              go_wp2_with fail
              go_ret
              exact ⟨rfl, below_to hb1 hb1.size hb6⟩
            | false =>
              have hx : X = 8 := HX.out.trans (by simp [h2, h3, h4, hd])
              subst hx
              clear HX
              go_enter Tryz.func51, Tryz.ntmps51
              go_wp2_with fail
              refine HB.out.mono ?_
              rintro e w1 ⟨rfl, hb1⟩
              go_wp2_with fail
              refine (HH.out _).mono ?_
              rintro e w2 ⟨rfl, rfl⟩
              go_wp2_with fail
              refine (HR.out _).mono ?_
              rintro e w3 ⟨rfl, rfl⟩
              go_wp2_with fail
              refine (HO.out _).mono ?_
              rintro e w4 ⟨rfl, rfl⟩
              go_wp2_with fail
              refine (HP.out _).mono ?_
              rintro e w5 ⟨rfl, rfl⟩
              go_wp2_with fail
              refine (HD.out _ hb1).mono ?_
              rintro e w6 ⟨a, b, rfl, _, hb6⟩
              go_wp2_with fail
              go_ret
              exact ⟨rfl, below_to hb1 hb1.size hb6⟩
    · have h3z : ¬ (3 : Int) ≤ s.size := by omega
      by_cases h4 : 0 < O
      · have h4z : (0 : Int) < O := by omega
        have hx : X = 4 := HX.out.trans (by simp [h2, h3, h4])
        subst hx
        clear HX
        go_enter Tryz.func51, Tryz.ntmps51
        go_wp2_with fail
        refine HB.out.mono ?_
        rintro e w1 ⟨rfl, hb1⟩
        go_wp2_with fail
        refine (HH.out _).mono ?_
        rintro e w2 ⟨rfl, rfl⟩
        go_wp2_with fail
        refine (HO.out _).mono ?_
        rintro e w4 ⟨rfl, rfl⟩
        go_wp2_with fail
        go_ret
        exact ⟨rfl, hb1⟩
      have h4z : ¬ (0 : Int) < O := by omega
      cases VQ with
      | true =>
        have hx : X = 5 := HX.out.trans (by simp [h2, h3, h4])
        subst hx
        clear HX
        go_enter Tryz.func51, Tryz.ntmps51
        go_wp2_with fail
        refine HB.out.mono ?_
        rintro e w1 ⟨rfl, hb1⟩
        go_wp2_with fail
        refine (HH.out _).mono ?_
        rintro e w2 ⟨rfl, rfl⟩
        go_wp2_with fail
        refine (HO.out _).mono ?_
        rintro e w4 ⟨rfl, rfl⟩
        go_wp2_with fail
        go_ret
        exact ⟨rfl, hb1⟩
      | false =>
        have hda := HDA.out
        have hdb := HDB.out
        have hdc : decide (s.toList = [45]) = VI := by rw [← HDB.out]; by_cases h : s.toList = [45] <;> simp [h]
        cases VI with
        | true =>
          have hx : X = 6 := HX.out.trans (by simp [h2, h3, h4])
          subst hx
          clear HX
          go_enter Tryz.func51, Tryz.ntmps51
          go_wp2_with fail
          refine HB.out.mono ?_
          rintro e w1 ⟨rfl, hb1⟩
          go_wp2_with fail
          refine (HH.out _).mono ?_
          rintro e w2 ⟨rfl, rfl⟩
          go_wp2_with fail
          refine (HO.out _).mono ?_
          rintro e w4 ⟨rfl, rfl⟩
          go_wp2_with fail
          go_ret
          exact ⟨rfl, hb1⟩
        | false =>
          cases VP with
          | true =>
            have hx : X = 6 := HX.out.trans (by simp [h2, h3, h4])
            subst hx
            clear HX
            go_enter Tryz.func51, Tryz.ntmps51
            go_wp2_with fail
            refine HB.out.mono ?_
            rintro e w1 ⟨rfl, hb1⟩
            go_wp2_with fail
            refine (HH.out _).mono ?_
            rintro e w2 ⟨rfl, rfl⟩
            go_wp2_with fail
            refine (HO.out _).mono ?_
            rintro e w4 ⟨rfl, rfl⟩
            go_wp2_with fail
            refine (HP.out _).mono ?_
            rintro e w5 ⟨rfl, rfl⟩
            go_wp2_with fail
            go_ret
            exact ⟨rfl, hb1⟩
          | false =>
            cases hd : DD.isSome with
            | true =>
              have hx : X = 7 := HX.out.trans (by simp [h2, h3, h4, hd])
              subst hx
              clear HX
              go_enter Tryz.func51, Tryz.ntmps51
              go_wp2_with fail
              refine HB.out.mono ?_
              rintro e w1 ⟨rfl, hb1⟩
              go_wp2_with fail
              refine (HH.out _).mono ?_
              rintro e w2 ⟨rfl, rfl⟩
              go_wp2_with fail
              refine (HO.out _).mono ?_
              rintro e w4 ⟨rfl, rfl⟩
              go_wp2_with fail
              refine (HP.out _).mono ?_
              rintro e w5 ⟨rfl, rfl⟩
              go_wp2_with fail
              refine (HD.out _ hb1).mono ?_
              rintro e w6 ⟨a, b, rfl, _, hb6⟩
              go_wp2_with fail
              go_ret
              exact ⟨rfl, below_to hb1 hb1.size hb6⟩
            | false =>
              have hx : X = 8 := HX.out.trans (by simp [h2, h3, h4, hd])
              subst hx
              clear HX
              go_enter Tryz.func51, Tryz.ntmps51
              go_wp2_with fail
              refine HB.out.mono ?_
              rintro e w1 ⟨rfl, hb1⟩
              go_wp2_with fail
              refine (HH.out _).mono ?_
              rintro e w2 ⟨rfl, rfl⟩
              go_wp2_with fail
              refine (HO.out _).mono ?_
              rintro e w4 ⟨rfl, rfl⟩
              go_wp2_with fail
              refine (HP.out _).mono ?_
              rintro e w5 ⟨rfl, rfl⟩
              go_wp2_with fail
              refine (HD.out _ hb1).mono ?_
              rintro e w6 ⟨a, b, rfl, _, hb6⟩
              go_wp2_with fail
              go_ret
              exact ⟨rfl, below_to hb1 hb1.size hb6⟩
end Go.Proofs.YtlcfijkegdlfcaaGreatDoor
namespace Go.Proofs.YtlcfijkegdlfcaaGreatDoor
open Go.RowKit Go.PlainAid
set_option linter.all false
set_option linter.deprecated false
set_option maxRecDepth 100000
theorem head_le (l : Ln) : headL l ≤ l.length := by
  unfold headL
  split
  · omega
  · exact run_le 35 l
theorem open_le (l : Ln) : openL l ≤ l.length := by
  unfold openL
  split
  · omega
  · exact run_le 96 l
set_option maxHeartbeats 2000000 in
theorem KHead_calls (s : ByteArray) (w : World) (hs : s.size ≤ 4294967280) (hT : TextB w.heap.size w) (hk : kindL (bl s) = 2) :
    Calls Tryz.prog 108 #[.string s] w fun e w' => e = .returned (.tuple #[.int .i64 (headL (bl s) : Nat), .string (ba (trimL ((bl s).drop (headL (bl s)))))]) ∧ Below w.heap.size w w' := by
  have hO := Of_calls s w hs hT
  rw [hk] at hO
  have hH := fun W => khead_calls s W (by omega)
  have hle := head_le (bl s)
  rw [bl_len] at hle
  have hTr := fun W => LTrim_calls (s.extract (headL (bl s)) s.size) W (by rw [ext_bl, ba_size, List.length_drop, bl_len]; omega)
  rw [ext_bl, bl_ba] at hTr
  have hext := ext_bl s (headL (bl s))
  generalize ba (trimL ((bl s).drop (headL (bl s)))) = T at *
  generalize ba ((bl s).drop (headL (bl s))) = E at *
  generalize headL (bl s) = H at *
  have hlz : (H : Int) ≤ s.size := by omega
  have HO := Lib.hid hO
  have HH := Lib.hid hH
  have HTr := Lib.hid hTr
  clear hO hH hTr hT hk
  go_enter Tryz.func108, Tryz.ntmps108
  go_wp2_with fail
  refine HO.out.mono ?_
  rintro e w1 ⟨rfl, hb1⟩
  go_wp2_with fail
  refine (HH.out _).mono ?_
  rintro e w2 ⟨rfl, rfl⟩
  go_wp2_with fail
  refine (HTr.out _).mono ?_
  rintro e w3 ⟨rfl, hb3⟩
  go_wp2_with fail
  go_ret2
  exact ⟨rfl, below_to hb1 hb1.size hb3⟩
set_option maxHeartbeats 2000000 in
theorem KOpen_calls (s : ByteArray) (w : World) (hs : s.size ≤ 4294967280) (hT : TextB w.heap.size w) (hk : kindL (bl s) = 4) :
    Calls Tryz.prog 83 #[.string s] w fun e w' => e = .returned (.tuple #[.int .i64 (openL (bl s) : Nat), .string (ba (trimL ((bl s).drop (openL (bl s)))))]) ∧ Below w.heap.size w w' := by
  have hO := Of_calls s w hs hT
  rw [hk] at hO
  have hH := fun W => kopen_calls s W (by omega)
  have hle := open_le (bl s)
  rw [bl_len] at hle
  have hTr := fun W => LTrim_calls (s.extract (openL (bl s)) s.size) W (by rw [ext_bl, ba_size, List.length_drop, bl_len]; omega)
  rw [ext_bl, bl_ba] at hTr
  have hext := ext_bl s (openL (bl s))
  generalize ba (trimL ((bl s).drop (openL (bl s)))) = T at *
  generalize ba ((bl s).drop (openL (bl s))) = E at *
  generalize openL (bl s) = H at *
  have hlz : (H : Int) ≤ s.size := by omega
  have HO := Lib.hid hO
  have HH := Lib.hid hH
  have HTr := Lib.hid hTr
  clear hO hH hTr hT hk
  go_enter Tryz.func83, Tryz.ntmps83
  go_wp2_with fail
  refine HO.out.mono ?_
  rintro e w1 ⟨rfl, hb1⟩
  go_wp2_with fail
  refine (HH.out _).mono ?_
  rintro e w2 ⟨rfl, rfl⟩
  go_wp2_with fail
  refine (HTr.out _).mono ?_
  rintro e w3 ⟨rfl, hb3⟩
  go_wp2_with fail
  go_ret2
  exact ⟨rfl, below_to hb1 hb1.size hb3⟩
set_option maxHeartbeats 2000000 in
theorem KCloses_calls (s : ByteArray) (n : Nat) (w : World) (hs : s.size ≤ 4294967280) (hn : n ≤ 4294967280) :
    Calls Tryz.prog 84 #[.string s, .int .i64 n] w fun e w' => e = .returned (.bool (closesL n (bl s))) ∧ w' = w := by
  have hR := fun W => Run_calls s 96 W (by omega)
  have hd : closesL n (bl s) = (!(bl s).isEmpty && decide (n ≤ s.size) && runL 96 (bl s) == s.size) := by unfold closesL; rw [bl_len]
  have he : s.toList.isEmpty = (bl s).isEmpty := by rw [Lib.toList_data]; rfl
  generalize closesL n (bl s) = X at *
  generalize (bl s).isEmpty = M at *
  generalize runL 96 (bl s) = R at *
  have HR := Lib.hid hR
  have HD := Lib.hid hd
  clear hR hd
  cases M with
  | true =>
    have hx : X = false := HD.out.trans (by simp)
    subst hx
    go_enter Tryz.func84, Tryz.ntmps84
    go_wp2_with fail
    go_ret
    exact ⟨rfl, rfl⟩
  | false =>
    by_cases hle : n ≤ s.size
    · have hlz : (n : Int) ≤ s.size := by omega
      by_cases hr : R = s.size
      · have hx : X = true := HD.out.trans (by simp [hle, hr])
        have hrz : ((R : Int) == (s.size : Int)) = true := beq_iff_eq.2 (by omega)
        subst hx
        clear hr
        go_enter Tryz.func84, Tryz.ntmps84
        go_wp2_with fail
        refine (HR.out _).mono ?_
        rintro e w1 ⟨rfl, rfl⟩
        go_wp2_with fail
        go_ret
        exact ⟨rfl, rfl⟩
      · have hx : X = false := HD.out.trans (by simp [hr])
        have hrz : ((R : Int) == (s.size : Int)) = false := beq_eq_false_iff_ne.2 (by omega)
        subst hx
        go_enter Tryz.func84, Tryz.ntmps84
        go_wp2_with fail
        refine (HR.out _).mono ?_
        rintro e w1 ⟨rfl, rfl⟩
        go_wp2_with fail
        go_ret
        exact ⟨rfl, rfl⟩
    · have hlz : ¬ (n : Int) ≤ s.size := by omega
      have hx : X = false := HD.out.trans (by simp [hle])
      subst hx
      go_enter Tryz.func84, Tryz.ntmps84
      go_wp2_with fail
      go_ret
      exact ⟨rfl, rfl⟩
theorem trimPre (l : List UInt8) : Lib.trimPrefix l [32] = unspL l := by
  unfold Lib.trimPrefix unspL
  rw [pre_head]
  by_cases h : l.head? = some 32 <;> simp [h]
theorem unmark_pre (s : ByteArray) : (⟨(Lib.trimPrefix (s.extract 1 s.size).data.toList (⟨#[32]⟩ : ByteArray).data.toList).toArray⟩ : ByteArray) = ba (unmarkL (bl s)) := by
  have e1 : (s.extract 1 s.size).data.toList = (bl s).drop 1 := Lib.ext_list s 1
  have e2 : (⟨#[32]⟩ : ByteArray).data.toList = [32] := rfl
  rw [e1, e2, trimPre]
  rfl
theorem kind_pos {s : ByteArray} (h : kindL (bl s) ≠ 1) : 1 ≤ s.size := by
  rw [← bl_len]
  cases hb : bl s with
  | nil => rw [hb] at h; exact absurd rfl h
  | cons x t => simp
set_option maxHeartbeats 2000000 in
theorem KUnquote_calls (s : ByteArray) (w : World) (hs : s.size ≤ 4294967280) (hT : TextB w.heap.size w) (hk : kindL (bl s) = 5) :
    Calls Tryz.prog 103 #[.string s] w fun e w' => e = .returned (.string (ba (unmarkL (bl s)))) ∧ Below w.heap.size w w' := by
  have hO := Of_calls s w hs hT
  have hpos := kind_pos (s := s) (by rw [hk]; decide)
  have hpz : (1 : Int) ≤ s.size := by omega
  rw [hk] at hO
  have hTr := fun W => Tryz.strings_TrimPrefix (s.extract 1 s.size) ⟨#[32]⟩ W
  rw [unmark_pre] at hTr
  generalize ba (unmarkL (bl s)) = T at *
  have HO := Lib.hid hO
  have HTr := Lib.hid hTr
  clear hO hTr hT hk
  go_enter Tryz.func103, Tryz.ntmps103
  go_wp2_with fail
  refine HO.out.mono ?_
  rintro e w1 ⟨rfl, hb1⟩
  go_wp2_with fail
  refine (HTr.out _).mono ?_
  rintro e w2 ⟨rfl, rfl⟩
  go_wp2_with fail
  go_ret
  exact ⟨rfl, hb1⟩
set_option maxHeartbeats 2000000 in
theorem KUnitem_calls (s : ByteArray) (w : World) (hs : s.size ≤ 4294967280) (hT : TextB w.heap.size w) (hk : kindL (bl s) = 6) :
    Calls Tryz.prog 114 #[.string s] w fun e w' => e = .returned (.string (ba (unmarkL (bl s)))) ∧ Below w.heap.size w w' := by
  have hO := Of_calls s w hs hT
  have hpos := kind_pos (s := s) (by rw [hk]; decide)
  have hpz : (1 : Int) ≤ s.size := by omega
  rw [hk] at hO
  have hTr := fun W => Tryz.strings_TrimPrefix (s.extract 1 s.size) ⟨#[32]⟩ W
  rw [unmark_pre] at hTr
  generalize ba (unmarkL (bl s)) = T at *
  have HO := Lib.hid hO
  have HTr := Lib.hid hTr
  clear hO hTr hT hk
  go_enter Tryz.func114, Tryz.ntmps114
  go_wp2_with fail
  refine HO.out.mono ?_
  rintro e w1 ⟨rfl, hb1⟩
  go_wp2_with fail
  refine (HTr.out _).mono ?_
  rintro e w2 ⟨rfl, rfl⟩
  go_wp2_with fail
  go_ret
  exact ⟨rfl, hb1⟩
set_option maxHeartbeats 2000000 in
theorem KInner_calls (s : ByteArray) (w : World) (hs : s.size ≤ 4294967280) :
    Calls Tryz.prog 115 #[.string s] w fun e w' => e = .returned (.tuple #[.string (ba ((innerL (bl s)).getD [])), .bool (innerL (bl s)).isSome]) ∧ Below w.heap.size w w' := by
  have hC := Tryz.strings_CutPrefix s ⟨#[32, 32]⟩ w
  have hB := LBlank_calls s w (by omega)
  have e1 : Lib.hasPrefix s.data.toList (⟨#[32, 32]⟩ : ByteArray).data.toList = [32, 32].isPrefixOf (bl s) := rfl
  have e2 : (⟨(Lib.trimPrefix s.data.toList (⟨#[32, 32]⟩ : ByteArray).data.toList).toArray⟩ : ByteArray) = if [32, 32].isPrefixOf (bl s) = true then ba ((bl s).drop 2) else s := by
    unfold Lib.trimPrefix
    rw [e1]
    cases [32, 32].isPrefixOf (bl s)
    · simp
    · rfl
  rw [e1, e2] at hC
  have hd : innerL (bl s) = if [32, 32].isPrefixOf (bl s) = true then some ((bl s).drop 2) else if decide (trimL (bl s) = []) = true then some [] else none := by
    unfold innerL
    simp only [decide_eq_true_eq]
  clear e1 e2
  generalize innerL (bl s) = X at *
  generalize decide (trimL (bl s) = []) = VB at *
  generalize [32, 32].isPrefixOf (bl s) = VP at *
  have hT : ba ((bl s).drop 2) = ba ((bl s).drop 2) := rfl
  cases VP with
  | true =>
    rw [if_pos rfl] at hC hd
    subst hd
    simp only [Option.getD_some, Option.isSome_some]
    generalize ba ((bl s).drop 2) = T at *
    have HC := Lib.hid hC
    clear hC hB hT
    go_enter Tryz.func115, Tryz.ntmps115
    go_wp2_with fail
    refine HC.out.mono ?_
    rintro e w1 ⟨rfl, rfl⟩
    go_wp2_with fail
    go_ret2
    exact ⟨rfl, Below.refl _ _⟩
  | false =>
    rw [if_neg Bool.false_ne_true] at hC hd
    have HC := Lib.hid hC
    have HB := Lib.hid hB
    clear hC hB hT
    cases VB with
    | true =>
      rw [if_pos rfl] at hd
      subst hd
      go_enter Tryz.func115, Tryz.ntmps115
      go_wp2_with fail
      refine HC.out.mono ?_
      rintro e w1 ⟨rfl, rfl⟩
      go_wp2_with fail
      refine HB.out.mono ?_
      rintro e w2 ⟨rfl, hb⟩
      go_wp2_with fail
      go_ret2
      exact ⟨rfl, hb⟩
    | false =>
      rw [if_neg Bool.false_ne_true] at hd
      subst hd
      go_enter Tryz.func115, Tryz.ntmps115
      go_wp2_with fail
      refine HC.out.mono ?_
      rintro e w1 ⟨rfl, rfl⟩
      go_wp2_with fail
      refine HB.out.mono ?_
      rintro e w2 ⟨rfl, hb⟩
      go_wp2_with fail
      go_ret2
      exact ⟨rfl, hb⟩
end Go.Proofs.YtlcfijkegdlfcaaGreatDoor
