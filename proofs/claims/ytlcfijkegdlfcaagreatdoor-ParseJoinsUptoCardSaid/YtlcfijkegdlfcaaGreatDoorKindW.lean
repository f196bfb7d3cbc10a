/- The walks of kind.head, open, define, Of. -/
import Derived.Test.YtlcfijkegdlfcaaGreatDoorCheck
import Derived.Test.YtlcfijkegdlfcaaGreatDoorDest
namespace Go.Proofs.YtlcfijkegdlfcaaGreatDoor
open Go.RowKit Go.PlainAid
set_option linter.all false
set_option linter.deprecated false
set_option maxRecDepth 100000
theorem at_run (s : ByteArray) (n : Nat) (h : n < s.size) : bt s n = (((bl s).getD n 0).toNat : Int) := bt_bl s n
theorem ext_bl (s : ByteArray) (n : Nat) : s.extract n s.size = ba ((bl s).drop n) := bl_inj (by rw [bl_ba]; exact Lib.ext_list s n)
set_option maxHeartbeats 2000000 in
theorem khead_calls (s : ByteArray) (w : World) (hs : s.size ≤ 1099511627776) :
    Calls Tryz.prog 79 #[.string s] w fun e w' => e = .returned (.int .i64 (headL (bl s) : Nat)) ∧ w' = w := by
  have hR := Run_calls s 35 w hs
  have hle := run_le 35 (bl s)
  rw [bl_len] at hle
  have hdef : headL (bl s) = if 6 < runL 35 (bl s) ∨ (runL 35 (bl s) < s.size ∧ (bl s).getD (runL 35 (bl s)) 0 ≠ 32) then 0 else runL 35 (bl s) := by unfold headL; rw [bl_len]
  have hb := get_bt s
  have hbt := bt_bl s (runL 35 (bl s))
  generalize headL (bl s) = H at *
  generalize runL 35 (bl s) = R at *
  obtain ⟨c, hc⟩ : ∃ c, (bl s).getD R 0 = c := ⟨_, rfl⟩
  rw [hc] at hdef hbt
  have HR := Lib.hid hR
  have HD := Lib.hid hdef
  clear hR hdef hc
  by_cases h6 : 6 < R
  · have h6z : (6 : Int) < R := by omega
    have h0 : H = 0 := HD.out.trans (if_pos (.inl h6))
    subst h0
    go_enter Tryz.func79, Tryz.ntmps79
    go_wp2_with fail
    refine HR.out.mono ?_
    rintro e w1 ⟨rfl, rfl⟩
    go_wp2_with fail
    go_ret
    exact ⟨rfl, rfl⟩
  · have h6z : ¬ (6 : Int) < R := by omega
    by_cases hl : R < s.size
    · have hlz : (R : Int) < s.size := by omega
      by_cases h32 : c = 32
      · have hq : (bt s R == 32) = true := by rw [hbt, h32]; rfl
        have hq2 : (bt s R != 32) = false := by rw [bne, hq]; rfl
        have h0 : H = R := HD.out.trans (if_neg (fun h => by rcases h with h | h; exact h6 h; exact h.2 h32))
        subst h0
        clear hbt
        go_enter Tryz.func79, Tryz.ntmps79
        go_wp2_with fail
        refine HR.out.mono ?_
        rintro e w1 ⟨rfl, rfl⟩
        go_wp2_with fail
        go_ret
        exact ⟨rfl, rfl⟩
      · have hq : (bt s R == 32) = false := beq_eq_false_iff_ne.2 (by rw [hbt]; intro h; exact h32 (UInt8.toNat_inj.1 (by exact_mod_cast h)))
        have hq2 : (bt s R != 32) = true := by rw [bne, hq]; rfl
        have h0 : H = 0 := HD.out.trans (if_pos (.inr ⟨hl, h32⟩))
        subst h0
        clear hbt
        go_enter Tryz.func79, Tryz.ntmps79
        go_wp2_with fail
        refine HR.out.mono ?_
        rintro e w1 ⟨rfl, rfl⟩
        go_wp2_with fail
        go_ret
        exact ⟨rfl, rfl⟩
    · have hlz : ¬ (R : Int) < s.size := by omega
      have h0 : H = R := HD.out.trans (if_neg (fun h => by rcases h with h | h; exact h6 h; exact hl h.1))
      subst h0
      clear hbt
      go_enter Tryz.func79, Tryz.ntmps79
      go_wp2_with fail
      refine HR.out.mono ?_
      rintro e w1 ⟨rfl, rfl⟩
      go_wp2_with fail
      go_ret
      exact ⟨rfl, rfl⟩
set_option maxHeartbeats 2000000 in
theorem kopen_calls (s : ByteArray) (w : World) (hs : s.size ≤ 1099511627776) :
    Calls Tryz.prog 81 #[.string s] w fun e w' => e = .returned (.int .i64 (openL (bl s) : Nat)) ∧ w' = w := by
  have hR := Run_calls s 96 w hs
  have hle := run_le 96 (bl s)
  rw [bl_len] at hle
  have hC := Tryz.strings_Contains_one (s.extract (runL 96 (bl s)) s.size) 96 w
  have hdef : openL (bl s) = if runL 96 (bl s) < 3 ∨ (96 : UInt8) ∈ (bl s).drop (runL 96 (bl s)) then 0 else runL 96 (bl s) := rfl
  have hm : decide (0 ≤ Lib.indexByte (s.extract (runL 96 (bl s)) s.size).data.toList 96) = decide ((96 : UInt8) ∈ (bl s).drop (runL 96 (bl s))) := by
    rw [← Lib.contains_iff_indexByte, ext_bl]
    change (bl (ba _)).contains 96 = _
    rw [bl_ba]
    cases h : ((bl s).drop (runL 96 (bl s))).contains 96
    · exact (decide_eq_false (fun hm => by rw [List.contains_iff_mem.2 hm] at h; cases h)).symm
    · exact (decide_eq_true (List.contains_iff_mem.1 h)).symm
  rw [hm] at hC
  clear hm
  generalize hM : decide ((96 : UInt8) ∈ (bl s).drop (runL 96 (bl s))) = M at *
  have hM2 : (96 : UInt8) ∈ (bl s).drop (runL 96 (bl s)) ↔ M = true := by rw [← hM]; simp
  generalize openL (bl s) = H at *
  generalize runL 96 (bl s) = R at *
  have HR := Lib.hid hR
  have HC := Lib.hid hC
  have HD := Lib.hid hdef
  have HM2 := Lib.hid hM2
  clear hR hC hdef hM hM2
  by_cases h3 : R < 3
  · have h3z : (R : Int) < 3 := by omega
    have h0 : H = 0 := HD.out.trans (if_pos (.inl h3))
    subst h0
    go_enter Tryz.func81, Tryz.ntmps81
    go_wp2_with fail
    refine HR.out.mono ?_
    rintro e w1 ⟨rfl, rfl⟩
    go_wp2_with fail
    go_ret
    exact ⟨rfl, rfl⟩
  · have h3z : ¬ (R : Int) < 3 := by omega
    have hlz : (R : Int) ≤ s.size := by omega
    cases M with
    | true =>
      have h0 : H = 0 := HD.out.trans (if_pos (.inr (HM2.out.2 rfl)))
      subst h0
      go_enter Tryz.func81, Tryz.ntmps81
      go_wp2_with fail
      refine HR.out.mono ?_
      rintro e w1 ⟨rfl, rfl⟩
      go_wp2_with fail
      refine HC.out.mono ?_
      rintro e w2 ⟨rfl, rfl⟩
      go_wp2_with fail
      go_ret
      exact ⟨rfl, rfl⟩
    | false =>
      have h0 : H = R := HD.out.trans (if_neg (fun h => by rcases h with h | h; exact h3 h; exact Bool.false_ne_true (HM2.out.1 h)))
      subst h0
      go_enter Tryz.func81, Tryz.ntmps81
      go_wp2_with fail
      refine HR.out.mono ?_
      rintro e w1 ⟨rfl, rfl⟩
      go_wp2_with fail
      refine HC.out.mono ?_
      rintro e w2 ⟨rfl, rfl⟩
      go_wp2_with fail
      go_ret
      exact ⟨rfl, rfl⟩
/-- What define answers. -/
def DefOf (x : Option (Ln × Ln)) (w : World) (e : Ending) (w' : World) : Prop :=
  ∃ a b, e = .returned (.tuple #[.string a, .string b, .bool x.isSome]) ∧ (∀ l t, x = some (l, t) → a = ba l ∧ b = ba t) ∧ Below w.heap.size w w'
theorem cut_size (s p : List UInt8) : (Lib.cut s p).1.length ≤ s.length ∧ (Lib.cut s p).2.1.length ≤ s.length := by
  unfold Lib.cut
  split
  · simp only [List.length_take, List.length_drop]; omega
  · simp
theorem pre_head (l : List UInt8) (c : UInt8) : Lib.hasPrefix l [c] = decide (l.head? = some c) := by
  unfold Lib.hasPrefix
  cases l with
  | nil => rfl
  | cons x t =>
    simp only [List.isPrefixOf, List.head?_cons, Bool.and_true]
    by_cases h : c = x
    · subst h; simp
    · simp only [Option.some.injEq]
      rw [beq_eq_false_iff_ne.2 h]
      exact (decide_eq_false (fun e => h e.symm)).symm
set_option maxHeartbeats 4000000 in
theorem define_calls (s : ByteArray) (w : World) (hs : s.size ≤ 4294967280) (hT : TextB w.heap.size w) :
    Calls Tryz.prog 82 #[.string s] w (DefOf (defineL (bl s)) w) := by
  obtain ⟨m, hm⟩ := (hT w (Below.refl _ _)).2
  have hC := Tryz.strings_Cut s ⟨#[93, 58, 32]⟩ m w (by omega) hm
  obtain ⟨hz1, hz2⟩ := cut_size (bl s) [93, 58, 32]
  have hdef : defineL (bl s) = if (Lib.cut (bl s) [93, 58, 32]).2.2 = true ∧ (Lib.cut (bl s) [93, 58, 32]).1.head? = some 91 ∧ labelL ((Lib.cut (bl s) [93, 58, 32]).1.drop 1) = true ∧ destL (Lib.cut (bl s) [93, 58, 32]).2.1 = true then some ((Lib.cut (bl s) [93, 58, 32]).1.drop 1, (Lib.cut (bl s) [93, 58, 32]).2.1) else none := rfl
  have hbl : (Lib.cut s.data.toList (⟨#[93, 58, 32]⟩ : ByteArray).data.toList) = Lib.cut (bl s) [93, 58, 32] := rfl
  rw [hbl] at hC
  generalize defineL (bl s) = X at *
  generalize Lib.cut (bl s) [93, 58, 32] = CC at *
  obtain ⟨a, t, ok⟩ := CC
  rw [bl_len] at hz1 hz2
  change Calls _ _ _ _ fun e w' => e = .returned (.tuple #[.string (ba a), .string (ba t), .bool ok]) ∧ ∃ n, w' = w.drewN n at hC
  simp only at hdef hz1 hz2
  have hP := fun W => Tryz.strings_HasPrefix (ba a) ⟨#[91]⟩ W
  have hp2 : Lib.hasPrefix (ba a).data.toList (⟨#[91]⟩ : ByteArray).data.toList = decide (a.head? = some 91) := pre_head a 91
  rw [hp2] at hP
  have hext : (ba a).extract 1 (ba a).size = ba (a.drop 1) := by rw [ext_bl, bl_ba]
  have hL := fun W (hW : Below w.heap.size w W) => Label_calls (ba (a.drop 1)) W (by rw [ba_size, List.length_drop]; omega) (hT.up hW)
  have hD := fun W => Dest_calls (ba t) W
  simp only [bl_ba] at hL hD
  have hsz : (ba a).size = a.length := ba_size a
  generalize hA : ba a = SA at *
  generalize hB : ba (a.drop 1) = SB at *
  generalize hTt : ba t = ST at *
  generalize labelL (a.drop 1) = L at *
  generalize destL t = DD at *
  have hha : a.head? = some 91 → 1 ≤ SA.size := fun h => by rw [hsz]; cases a with | nil => simp at h | cons x y => simp
  have hH : (a.head? = some 91) ↔ decide (a.head? = some 91) = true := by simp
  generalize decide (a.head? = some 91) = H1 at *
  have HC := Lib.hid hC
  have HP := Lib.hid hP
  have HL := Lib.hid hL
  have HD := Lib.hid hD
  have HX := Lib.hid hdef
  have HH := Lib.hid hH
  have HHA := Lib.hid hha
  have HA := Lib.hid hA
  have HB := Lib.hid hB
  have HTt := Lib.hid hTt
  clear hC hP hL hD hdef hH hha hA hB hTt hT hm hp2 hz1 hz2 hsz hbl
  cases ok with
  | false =>
    have hx : X = none := HX.out.trans (if_neg (fun h => by cases h.1))
    subst hx
    go_enter Tryz.func82, Tryz.ntmps82
    go_wp2_with fail
    refine HC.out.mono ?_
    rintro e w1 ⟨rfl, q, rfl⟩
    go_wp2_with fail
    go_ret3
    exact ⟨_, _, rfl, (fun l t h => by cases h), below_drewN (Below.refl _ _) q⟩
  | true =>
    cases H1 with
    | false =>
      have hx : X = none := HX.out.trans (if_neg (fun h => by have := HH.out.1 h.2.1; cases this))
      subst hx
      go_enter Tryz.func82, Tryz.ntmps82
      go_wp2_with fail
      refine HC.out.mono ?_
      rintro e w1 ⟨rfl, q, rfl⟩
      go_wp2_with fail
      refine (HP.out _).mono ?_
      rintro e w2 ⟨rfl, rfl⟩
      go_wp2_with fail
      go_ret3
      exact ⟨_, _, rfl, (fun l t h => by cases h), below_drewN (Below.refl _ _) q⟩
    | true =>
      have hh := HH.out.2 rfl
      have h1 := HHA.out hh
      have h1z : (1 : Int) ≤ SA.size := by omega
      cases L with
      | false =>
        have hx : X = none := HX.out.trans (if_neg (fun h => by cases h.2.2.1))
        subst hx
        clear hh
        go_enter Tryz.func82, Tryz.ntmps82
        go_wp2_with fail
        refine HC.out.mono ?_
        rintro e w1 ⟨rfl, q, rfl⟩
        go_wp2_with fail
        refine (HP.out _).mono ?_
        rintro e w2 ⟨rfl, rfl⟩
        go_wp2_with fail
        have hbq := below_drewN (Below.refl w.heap.size w) q
        refine (HL.out _ hbq).mono ?_
        rintro e w3 ⟨rfl, hb3⟩
        go_wp2_with fail
        go_ret3
        exact ⟨_, _, rfl, (fun l t h => by cases h), below_to hbq hbq.size hb3⟩
      | true =>
        have hx := HX.out
        clear HX HH
        cases DD with
        | true =>
          rw [if_pos ⟨by simp, hh, by simp, by simp⟩] at hx
          subst hx
          clear hh
          go_enter Tryz.func82, Tryz.ntmps82
          go_wp2_with fail
          refine HC.out.mono ?_
          rintro e w1 ⟨rfl, q, rfl⟩
          go_wp2_with fail
          refine (HP.out _).mono ?_
          rintro e w2 ⟨rfl, rfl⟩
          go_wp2_with fail
          have hbq := below_drewN (Below.refl w.heap.size w) q
          refine (HL.out _ hbq).mono ?_
          rintro e w3 ⟨rfl, hb3⟩
          go_wp2_with fail
          refine (HD.out _).mono ?_
          rintro e w4 ⟨rfl, hb4⟩
          go_wp2_with fail
          go_ret3
          have hbz := below_to (below_to hbq hbq.size hb3) (below_to hbq hbq.size hb3).size hb4
          exact ⟨_, _, rfl, (fun l t h => by cases h; exact ⟨HB.out.symm, HTt.out.symm⟩), hbz⟩
        | false =>
          rw [if_neg (fun h => by simp at h)] at hx
          subst hx
          clear hh
          go_enter Tryz.func82, Tryz.ntmps82
          go_wp2_with fail
          refine HC.out.mono ?_
          rintro e w1 ⟨rfl, q, rfl⟩
          go_wp2_with fail
          refine (HP.out _).mono ?_
          rintro e w2 ⟨rfl, rfl⟩
          go_wp2_with fail
          have hbq := below_drewN (Below.refl w.heap.size w) q
          refine (HL.out _ hbq).mono ?_
          rintro e w3 ⟨rfl, hb3⟩
          go_wp2_with fail
          refine (HD.out _).mono ?_
          rintro e w4 ⟨rfl, hb4⟩
          go_wp2_with fail
          go_ret3
          have hbz := below_to (below_to hbq hbq.size hb3) (below_to hbq hbq.size hb3).size hb4
          exact ⟨_, _, rfl, (fun l t h => by cases h), hbz⟩
end Go.Proofs.YtlcfijkegdlfcaaGreatDoor
