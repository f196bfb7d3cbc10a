/- The walks of the document's Check (layer 1), and Fits (layer 12). -/
import Derived.Test.YtlcfijkegdlfcaaGreatDoorKindW
import Derived.Test.YtlcfijkegdlfcaaGreatDoorRdr
import Derived.Deep.DeepCutAuto
/- The walk of the document's Next (layer 1): that it comes, and how far it goes. -/
/- The walks of the document's Check (layer 1) and Longest (layer 2): that they come, and what they leave. -/
namespace Go.Proofs.YtlcfijkegdlfcaaGreatDoor
open Go.RowKit Go.PlainAid
set_option linter.all false
set_option linter.deprecated false
set_option maxRecDepth 100000
set_option maxHeartbeats 1000000 in
theorem more01_calls (c : UInt8) (w : World) : Calls Tryz.prog 73 #[.int .u8 c.toNat] w fun e w' => e = .returned (.bool (decide (128 ≤ c.toNat ∧ c.toNat ≤ 191))) ∧ w' = w := by
  by_cases h1 : 128 ≤ c.toNat
  · have h1z : (128 : Int) ≤ c.toNat := by omega
    by_cases h2 : c.toNat ≤ 191
    · have h2z : (c.toNat : Int) ≤ 191 := by omega
      go_enter Tryz.func73, Tryz.ntmps73
      go_wp2
      go_ret
      exact ⟨ret_bool (by simp [h1, h2]), rfl⟩
    · have h2z : ¬ (c.toNat : Int) ≤ 191 := by omega
      go_enter Tryz.func73, Tryz.ntmps73
      go_wp2
      go_ret
      exact ⟨ret_bool (by simp [h2]), rfl⟩
  · have h1z : ¬ (128 : Int) ≤ c.toNat := by omega
    go_enter Tryz.func73, Tryz.ntmps73
    go_wp2
    go_ret
    exact ⟨ret_bool (by simp [h1]), rfl⟩
/-- A number that comes, and nothing is laid. -/
def Num (p : Int → Prop) (w : World) (e : Ending) (w' : World) : Prop := ∃ z, e = .returned (.int .i64 z) ∧ p z ∧ w' = w
set_option maxHeartbeats 1000000 in
theorem Run02_calls (s : ByteArray) (c : UInt8) (w : World) (hs : s.size ≤ 1099511627776) :
    Calls Tryz.prog 49 #[.string s, .int .u8 c.toNat] w fun e w' => e = .returned (.int .i64 (runL c (bl s) : Nat)) ∧ w' = w := by
  have hb := get_bt s
  have hle := run_le c (bl s)
  rw [bl_len] at hle
  obtain ⟨R, hR⟩ : ∃ R, runL c (bl s) = R := ⟨_, rfl⟩
  have HS := Lib.hid (fun n (h : n ≤ R) (h2 : n < s.size) => hR ▸ run_step (c := c) (s := bl s) (n := n) (hR ▸ h) (by rw [bl_len]; exact h2))
  rw [hR] at hle ⊢
  clear hR
  go_enter Tryz.func49, Tryz.ntmps49
  go_wp2
  go_loopw [5] (fun i wr => ∃ k : Nat, k ≤ R ∧ i = .int .i64 k ∧ wr = w) (fun i _ => s.size - (intOf i).toNat)
  case atStart => exact ⟨0, Nat.zero_le _, by first | rfl | trivial, by first | rfl | trivial⟩
  case round =>
    obtain ⟨k, hk, rfl, rfl⟩ := hrel
    by_cases hlt : k < s.size
    · have hstep := HS.out k hk hlt
      have h1 := bt_bl s k
      by_cases hkR : k < R
      · have h2 := hstep.1 hkR
        have h3 : (bt s k == (c.toNat : Int)) = true := by rw [h1, h2]; simp
        clear hstep h1 h2
        go_wp2
        go_roundw
        case rel => exact ⟨k + 1, by omega, by go_num, trivial⟩
        case measure => simp [intOf]; omega
      · have h3 : (bt s k == (c.toNat : Int)) = false := by
          refine beq_eq_false_iff_ne.2 (fun e => hkR (hstep.2 ?_))
          rw [h1] at e
          exact UInt8.toNat_inj.1 (by exact_mod_cast e)
        obtain rfl : k = R := by omega
        clear hstep h1
        go_wp2
        go_ret
        exact ⟨rfl, rfl⟩
    · obtain rfl : k = R := by omega
      go_wp2
      go_ret
      exact ⟨rfl, rfl⟩
/-- The longest run of a byte. -/
def longL (c : UInt8) : Ln → Nat
  | [] => 0
  | x :: t => max (runL c (x :: t)) (longL c t)
theorem long_zero {c : UInt8} : ∀ {s : Ln}, longL c s = 0 ↔ c ∉ s
  | [] => by simp [longL]
  | x :: t => by
    have ih := long_zero (c := c) (s := t)
    by_cases hx : (x == c) = true
    · have e : x = c := by simpa using hx
      have : 1 ≤ runL c (x :: t) := by simp [runL, hx]
      simp only [longL]
      constructor
      · intro h; omega
      · intro h; exact absurd (by rw [e]; simp) h
    · have hr : runL c (x :: t) = 0 := by simp [runL, hx]
      have hne : ¬ x = c := fun e => hx (by simp [e])
      simp only [longL, hr, Nat.zero_max, ih, List.mem_cons, not_or]
      exact ⟨fun h => ⟨fun e => hne e.symm, h⟩, fun h => h.2⟩
theorem long_le (c : UInt8) : ∀ s : Ln, longL c s ≤ s.length
  | [] => Nat.le_refl _
  | x :: t => by
    have := long_le c t
    have h2 := run_le c (x :: t)
    rw [longL, List.length_cons] at *
    omega
set_option maxHeartbeats 1000000 in
theorem Longest02_calls (s : ByteArray) (c : UInt8) (w : World) (hs : s.size ≤ 4294967280) :
    Calls Tryz.prog 32 #[.string s, .int .u8 c.toNat] w fun e w' => e = .returned (.int .i64 (longL c (bl s) : Nat)) ∧ w' = w := by
  obtain ⟨X, hX⟩ : ∃ X, longL c (bl s) = X := ⟨_, rfl⟩
  rw [hX]
  have HX := Lib.hid hX
  clear hX
  go_enter Tryz.func32, Tryz.ntmps32
  go_wp2
  go_loopw [5, 9] (fun v5 v9 wr => ∃ m i : Nat, v5 = .int .i64 m ∧ v9 = .int .i64 i ∧ i ≤ s.size ∧ max m (longL c ((bl s).drop i)) = X ∧ wr = w) (fun _ v9 _ => s.size - (intOf v9).toNat)
  case atStart => exact ⟨0, 0, rfl, rfl, Nat.zero_le _, by rw [List.drop_zero, Nat.zero_max]; exact HX.out, rfl⟩
  case round =>
    clear HX
    obtain ⟨m, i, rfl, rfl, hi, hx, rfl⟩ := hrel
    by_cases hlt : i < s.size
    · have hltz : (i : Int) < s.size := by omega
      have hd : (bl s).drop i = (bl s)[i]'(by rw [bl_len]; exact hlt) :: (bl s).drop (i + 1) := List.drop_eq_getElem_cons (by rw [bl_len]; exact hlt)
      have hR := Run02_calls (s.extract i s.size) c wr (by rw [← bl_len]; have : bl (s.extract i s.size) = (bl s).drop i := Lib.ext_list s i; rw [this, List.length_drop, bl_len]; omega)
      have he : bl (s.extract i s.size) = (bl s).drop i := Lib.ext_list s i
      rw [he] at hR
      have hxx : max (max m (runL c ((bl s).drop i))) (longL c ((bl s).drop (i + 1))) = X := by
        rw [← hx]
        conv => rhs; rw [hd, longL, ← hd]
        omega
      obtain ⟨R, hRR⟩ : ∃ R, runL c ((bl s).drop i) = R := ⟨_, rfl⟩
      rw [hRR] at hR hxx
      have HR := Lib.hid hR
      have HXX := Lib.hid hxx
      clear hx hd hR hxx he hRR
      go_wp2_with fail
      refine HR.out.mono ?_
      rintro e w1 ⟨rfl, rfl⟩
      go_wp2_with fail
      go_roundw
      case rel => exact ⟨max m R, i + 1, by go_num, by go_num, hlt, HXX.out, by first | rfl | trivial⟩
      case measure => simp [intOf]; omega
    · obtain rfl : i = s.size := by omega
      have hltz : ¬ (s.size : Int) < s.size := by omega
      rw [List.drop_eq_nil_of_le (by rw [bl_len]; exact Nat.le_refl _)] at hx
      have hx0 : m = X := by simpa [longL] using hx
      subst hx0
      clear hx
      go_wp2_with fail
      go_ret
      exact ⟨rfl, rfl⟩
end Go.Proofs.YtlcfijkegdlfcaaGreatDoor
namespace Go.Proofs.YtlcfijkegdlfcaaGreatDoor
open Go.RowKit Go.PlainAid
set_option linter.all false
set_option linter.deprecated false
set_option maxRecDepth 100000
/-- Bytes that go on. -/
def contF (s : ByteArray) (k : Nat) : Nat → Nat → Int → Option Int
  | 0, _, N => some N
  | f + 1, i, N => if 128 ≤ bt s (k + i) ∧ bt s (k + i) ≤ 191 then contF s k f (i + 1) (N * 64 + bt s (k + i) - 128) else none
/-- Not a character. -/
def badF (M : Nat) (N : Int) : Prop := (M = 3 ∧ (N < 2048 ∨ (55296 ≤ N ∧ N ≤ 57343))) ∨ (M = 4 ∧ (N < 65536 ∨ 1114111 < N))
instance (M : Nat) (N : Int) : Decidable (badF M N) := by unfold badF; exact inferInstance
def endF (M : Nat) : Option Int → Int × Nat
  | none => (0, 0)
  | some N => if badF M N then (0, 0) else (N, M)
/-- The character at a place, and how many bytes it has. -/
def nextF (s : ByteArray) (k : Nat) : Int × Nat :=
  if bt s k < 128 then (bt s k, 1) else if bt s k < 194 ∨ 244 < bt s k then (0, 0) else
    if bt s k ≤ 223 then (if s.size < k + 2 then (0, 0) else endF 2 (contF s k (2 - 1) 1 (bt s k - 192)))
    else if bt s k ≤ 239 then (if s.size < k + 3 then (0, 0) else endF 3 (contF s k (3 - 1) 1 (bt s k - 224)))
    else (if s.size < k + 4 then (0, 0) else endF 4 (contF s k (4 - 1) 1 (bt s k - 240)))
set_option maxHeartbeats 8000000 in
theorem Next01_calls (s : ByteArray) (k : Nat) (w : World) (hs : s.size ≤ 1099511627776) (hk : k < s.size) : Calls Tryz.prog 47 #[.string s, .int .i64 k] w fun e w' => e = .returned (.tuple #[.int .i64 (nextF s k).1, .int .i64 ((nextF s k).2 : Nat)]) ∧ w' = w := by
  obtain ⟨X, hX⟩ : ∃ X, nextF s k = X := ⟨_, rfl⟩
  rw [hX]
  have HX := Lib.hid hX.symm
  clear hX
  have hg := get_bt s
  have k0 : ¬ (k : Int) < 0 := by omega
  have k1 : ¬ (s.size : Int) ≤ k := by omega
  have k2 : (k : Int) < s.size := by omega
  obtain ⟨C, hC⟩ : ∃ C, bt s k = C := ⟨_, rfl⟩
  have hCb : 0 ≤ C ∧ C < 256 := by
    have h1 := bt_bl s k
    have h2 := ((bl s).getD k 0).toNat_lt
    omega
  have hw : IntKind.i64.wrap C = C := IntWalk.i64_in _ (by omega)
  by_cases h1 : C < 128
  · have hxx : X = (C, 1) := by rw [HX.out]; unfold nextF; rw [hC, if_pos h1]
    have HXX := Lib.hid hxx
    clear hxx
    go_enter Tryz.func47, Tryz.ntmps47
    go_wp2_with fail
    go_ret2
    exact ⟨by rw [HXX.out]; rfl, by first | rfl | trivial⟩
  by_cases h2 : C < 194 ∨ 244 < C
  · have hz : ((0 : Int) == 0) = true := rfl
    have hxx : X = (0, 0) := by rw [HX.out]; unfold nextF; rw [hC, if_neg h1, if_pos h2]
    have HXX := Lib.hid hxx
    clear hxx
    by_cases h3 : C < 194
    · have c1 : ¬ 194 ≤ C := by omega
      have c3 : ¬ 224 ≤ C := by omega
      have c5 : ¬ 240 ≤ C := by omega
      clear h2
      go_enter Tryz.func47, Tryz.ntmps47
      go_wp2_with fail
      go_ret2
      exact ⟨by rw [HXX.out]; rfl, by first | rfl | trivial⟩
    · have c1 : 194 ≤ C := by omega
      have c2 : ¬ C ≤ 223 := by omega
      have c3 : 224 ≤ C := by omega
      have c4 : ¬ C ≤ 239 := by omega
      have c5 : 240 ≤ C := by omega
      have c6 : ¬ C ≤ 244 := by omega
      clear h2
      go_enter Tryz.func47, Tryz.ntmps47
      go_wp2_with fail
      go_ret2
      exact ⟨by rw [HXX.out]; rfl, by first | rfl | trivial⟩
  rcases (show (194 ≤ C ∧ C ≤ 223) ∨ (224 ≤ C ∧ C ≤ 239) ∨ (240 ≤ C ∧ C ≤ 244) by omega) with hr | hr | hr
  · -- many: 2
    have c0 : ¬ C < 128 := by omega
    have c1 :  (194 ≤ C) := by omega
    have c2 :  (C ≤ 223) := by omega
    have c3 : ¬ (224 ≤ C) := by omega
    have c4 :  (C ≤ 239) := by omega
    have c5 : ¬ (240 ≤ C) := by omega
    have c6 :  (C ≤ 244) := by omega
    have cw : IntKind.i64.wrap (C - 192) = C - 192 := IntWalk.i64_in _ (by omega)
    have kw : IntKind.i64.wrap ((k : Int) + 2) = (k : Int) + 2 := IntWalk.i64_in _ (by omega)
    by_cases hsz : (s.size : Int) < (k : Int) + 2
    · have hxx : X = (0, 0) := by
        rw [HX.out]; unfold nextF
        rw [hC, if_neg h1, if_neg h2, if_pos (by omega), if_pos (by omega)]
      have HXX := Lib.hid hxx
      clear hxx
      go_enter Tryz.func47, Tryz.ntmps47
      go_wp2_with fail
      go_ret2
      exact ⟨by rw [HXX.out]; rfl, by first | rfl | trivial⟩
    · have hsz2 : k + 2 ≤ s.size := by omega
      obtain ⟨R, hR⟩ : ∃ R, contF s k (2 - 1) 1 (C - 192) = R := ⟨_, rfl⟩
      have hxx : X = endF 2 R := by
        rw [HX.out]; unfold nextF
        rw [hC, if_neg h1, if_neg h2, if_pos (by omega), if_neg (by omega)]
        rw [hR]
      have HXX := Lib.hid hxx
      have HR := Lib.hid hR
      clear hxx hR
      go_enter Tryz.func47, Tryz.ntmps47
      go_wp2_with fail
      go_loopw [8, 9] (fun v8 v9 wr => ∃ (N : Int) (i : Nat), v8 = .int .i64 N ∧ v9 = .int .i64 i ∧ 1 ≤ i ∧ i ≤ 2 ∧ 0 ≤ N ∧ ((i = 1 ∧ N < 32) ∨ (i = 2 ∧ N < 2048)) ∧ contF s k (2 - i) i N = R ∧ wr = w) (fun _ v9 _ => 2 - (intOf v9).toNat)
      case atStart => exact ⟨C - 192, 1, rfl, rfl, Nat.le_refl _, by omega, by omega, by omega, HR.out, by first | rfl | trivial⟩
      case round =>
        obtain ⟨N, i, rfl, rfl, hi1, hi2, hN1, hN2, hcf, rfl⟩ := hrel
        have HCF := Lib.hid hcf
        clear hcf HR
        by_cases hlt : i < 2
        · have hltz : (i : Int) < 2 := by omega
          obtain ⟨KI, hKI⟩ : ∃ KI, KI = k + i := ⟨_, rfl⟩
          have w1 : IntKind.i64.wrap ((k : Int) + i) = (KI : Int) := by rw [IntWalk.i64_in _ (by omega)]; omega
          have q1 : (KI : Int) < s.size := by omega
          have q2 : KI < s.size := by omega
          have HM := Lib.hid (by rw [bt_bl]; exact more01_calls _ wr : Calls Tryz.prog 73 #[.int .u8 (bt s KI)] wr fun e w' => e = .returned (.bool (decide (128 ≤ ((bl s).getD KI 0).toNat ∧ ((bl s).getD KI 0).toNat ≤ 191))) ∧ w' = wr)
          have hbk := bt_bl s KI
          have hlt8 := ((bl s).getD KI 0).toNat_lt
          obtain ⟨V, hV⟩ : ∃ V, ((bl s).getD KI 0).toNat = V := ⟨_, rfl⟩
          rw [hV] at HM hbk hlt8
          rw [hbk] at HM
          have w2 : IntKind.i64.wrap (V : Int) = (V : Int) := IntWalk.i64_in _ (by omega)
          clear hV
          have hcs : contF s k (2 - i) i N = if 128 ≤ (V : Int) ∧ (V : Int) ≤ 191 then contF s k (2 - (i + 1)) (i + 1) (N * 64 + V - 128) else none := by
            obtain ⟨f, hf⟩ : ∃ f, 2 - i = f + 1 := ⟨2 - i - 1, by omega⟩
            have hf2 : 2 - (i + 1) = f := by omega
            rw [hf, hf2, contF, ← hKI, hbk]
          rw [HCF.out] at hcs
          have HCS := Lib.hid hcs
          clear hcs
          by_cases hmo : 128 ≤ V ∧ V ≤ 191
          · rw [decide_eq_true hmo] at HM
            obtain ⟨N1, hN1e⟩ : ∃ N1, N * 64 + V - 128 = N1 := ⟨_, rfl⟩
            have w3 : IntKind.i64.wrap (N * 64) = N * 64 := IntWalk.i64_in _ (by omega)
            have w4 : IntKind.i64.wrap (N * 64 + V) = N * 64 + V := IntWalk.i64_in _ (by omega)
            have w5 : IntKind.i64.wrap (N * 64 + V - 128) = N1 := by rw [IntWalk.i64_in _ (by omega)]; exact hN1e
            have hb : 0 ≤ N1 ∧ N1 < N * 64 + 64 := by omega
            have hcs := HCS.out
            rw [if_pos (by omega), hN1e] at hcs
            have HB := Lib.hid (And.intro hb (And.intro hN2 hcs))
            clear hcs
            clear hKI hmo hN1e hb hN2 hlt8
            go_wp2_with fail
            refine HM.out.mono ?_
            rintro e w9 ⟨rfl, rfl⟩
            go_wp2_with fail
            go_roundw
            case rel =>
              have hb := HB.out.1
              have hN2 := HB.out.2.1
              exact ⟨N1, i + 1, rfl, by go_num, by omega, by omega, hb.1, by omega, HB.out.2.2.symm, by first | rfl | trivial⟩
            case measure => simp [intOf]; omega
          · rw [decide_eq_false hmo] at HM
            have hr0 : R = none := HCS.out.trans (if_neg (by omega))
            have hx0 : X = (0, 0) := by rw [HXX.out, hr0]; rfl
            have HX0 := Lib.hid hx0
            clear hr0 hx0
            clear hKI hmo hN2 hlt8
            go_wp2_with fail
            refine HM.out.mono ?_
            rintro e w9 ⟨rfl, rfl⟩
            go_wp2_with fail
            go_ret2
            exact ⟨by rw [HX0.out]; rfl, by first | rfl | trivial⟩
        · obtain rfl : i = 2 := by omega
          have hltz : ¬ ((2 : Nat) : Int) < 2 := by omega
          have hr0 : R = some N := by rw [← HCF.out]; rfl
          have hx0 : X = if badF 2 N then (0, 0) else (N, 2) := by rw [HXX.out, hr0]; rfl
          have HX0 := Lib.hid hx0
          clear hr0 hx0
          go_wp2_with fail
          go_ret2
          first | exact ⟨by rw [HX0.out, if_neg (by unfold badF; omega)]; rfl, by first | rfl | trivial⟩ | exact ⟨by rw [HX0.out, if_pos (by unfold badF; omega)]; rfl, by first | rfl | trivial⟩
  · -- many: 3
    have c0 : ¬ C < 128 := by omega
    have c1 :  (194 ≤ C) := by omega
    have c2 : ¬ (C ≤ 223) := by omega
    have c3 :  (224 ≤ C) := by omega
    have c4 :  (C ≤ 239) := by omega
    have c5 : ¬ (240 ≤ C) := by omega
    have c6 :  (C ≤ 244) := by omega
    have cw : IntKind.i64.wrap (C - 224) = C - 224 := IntWalk.i64_in _ (by omega)
    have kw : IntKind.i64.wrap ((k : Int) + 3) = (k : Int) + 3 := IntWalk.i64_in _ (by omega)
    by_cases hsz : (s.size : Int) < (k : Int) + 3
    · have hxx : X = (0, 0) := by
        rw [HX.out]; unfold nextF
        rw [hC, if_neg h1, if_neg h2, if_neg (by omega), if_pos (by omega), if_pos (by omega)]
      have HXX := Lib.hid hxx
      clear hxx
      go_enter Tryz.func47, Tryz.ntmps47
      go_wp2_with fail
      go_ret2
      exact ⟨by rw [HXX.out]; rfl, by first | rfl | trivial⟩
    · have hsz2 : k + 3 ≤ s.size := by omega
      obtain ⟨R, hR⟩ : ∃ R, contF s k (3 - 1) 1 (C - 224) = R := ⟨_, rfl⟩
      have hxx : X = endF 3 R := by
        rw [HX.out]; unfold nextF
        rw [hC, if_neg h1, if_neg h2, if_neg (by omega), if_pos (by omega), if_neg (by omega)]
        rw [hR]
      have HXX := Lib.hid hxx
      have HR := Lib.hid hR
      clear hxx hR
      go_enter Tryz.func47, Tryz.ntmps47
      go_wp2_with fail
      go_loopw [8, 9] (fun v8 v9 wr => ∃ (N : Int) (i : Nat), v8 = .int .i64 N ∧ v9 = .int .i64 i ∧ 1 ≤ i ∧ i ≤ 3 ∧ 0 ≤ N ∧ ((i = 1 ∧ N < 16) ∨ (i = 2 ∧ N < 1024) ∨ (i = 3 ∧ N < 65536)) ∧ contF s k (3 - i) i N = R ∧ wr = w) (fun _ v9 _ => 3 - (intOf v9).toNat)
      case atStart => exact ⟨C - 224, 1, rfl, rfl, Nat.le_refl _, by omega, by omega, by omega, HR.out, by first | rfl | trivial⟩
      case round =>
        obtain ⟨N, i, rfl, rfl, hi1, hi2, hN1, hN2, hcf, rfl⟩ := hrel
        have HCF := Lib.hid hcf
        clear hcf HR
        by_cases hlt : i < 3
        · have hltz : (i : Int) < 3 := by omega
          obtain ⟨KI, hKI⟩ : ∃ KI, KI = k + i := ⟨_, rfl⟩
          have w1 : IntKind.i64.wrap ((k : Int) + i) = (KI : Int) := by rw [IntWalk.i64_in _ (by omega)]; omega
          have q1 : (KI : Int) < s.size := by omega
          have q2 : KI < s.size := by omega
          have HM := Lib.hid (by rw [bt_bl]; exact more01_calls _ wr : Calls Tryz.prog 73 #[.int .u8 (bt s KI)] wr fun e w' => e = .returned (.bool (decide (128 ≤ ((bl s).getD KI 0).toNat ∧ ((bl s).getD KI 0).toNat ≤ 191))) ∧ w' = wr)
          have hbk := bt_bl s KI
          have hlt8 := ((bl s).getD KI 0).toNat_lt
          obtain ⟨V, hV⟩ : ∃ V, ((bl s).getD KI 0).toNat = V := ⟨_, rfl⟩
          rw [hV] at HM hbk hlt8
          rw [hbk] at HM
          have w2 : IntKind.i64.wrap (V : Int) = (V : Int) := IntWalk.i64_in _ (by omega)
          clear hV
          have hcs : contF s k (3 - i) i N = if 128 ≤ (V : Int) ∧ (V : Int) ≤ 191 then contF s k (3 - (i + 1)) (i + 1) (N * 64 + V - 128) else none := by
            obtain ⟨f, hf⟩ : ∃ f, 3 - i = f + 1 := ⟨3 - i - 1, by omega⟩
            have hf2 : 3 - (i + 1) = f := by omega
            rw [hf, hf2, contF, ← hKI, hbk]
          rw [HCF.out] at hcs
          have HCS := Lib.hid hcs
          clear hcs
          by_cases hmo : 128 ≤ V ∧ V ≤ 191
          · rw [decide_eq_true hmo] at HM
            obtain ⟨N1, hN1e⟩ : ∃ N1, N * 64 + V - 128 = N1 := ⟨_, rfl⟩
            have w3 : IntKind.i64.wrap (N * 64) = N * 64 := IntWalk.i64_in _ (by omega)
            have w4 : IntKind.i64.wrap (N * 64 + V) = N * 64 + V := IntWalk.i64_in _ (by omega)
            have w5 : IntKind.i64.wrap (N * 64 + V - 128) = N1 := by rw [IntWalk.i64_in _ (by omega)]; exact hN1e
            have hb : 0 ≤ N1 ∧ N1 < N * 64 + 64 := by omega
            have hcs := HCS.out
            rw [if_pos (by omega), hN1e] at hcs
            have HB := Lib.hid (And.intro hb (And.intro hN2 hcs))
            clear hcs
            clear hKI hmo hN1e hb hN2 hlt8
            go_wp2_with fail
            refine HM.out.mono ?_
            rintro e w9 ⟨rfl, rfl⟩
            go_wp2_with fail
            go_roundw
            case rel =>
              have hb := HB.out.1
              have hN2 := HB.out.2.1
              exact ⟨N1, i + 1, rfl, by go_num, by omega, by omega, hb.1, by omega, HB.out.2.2.symm, by first | rfl | trivial⟩
            case measure => simp [intOf]; omega
          · rw [decide_eq_false hmo] at HM
            have hr0 : R = none := HCS.out.trans (if_neg (by omega))
            have hx0 : X = (0, 0) := by rw [HXX.out, hr0]; rfl
            have HX0 := Lib.hid hx0
            clear hr0 hx0
            clear hKI hmo hN2 hlt8
            go_wp2_with fail
            refine HM.out.mono ?_
            rintro e w9 ⟨rfl, rfl⟩
            go_wp2_with fail
            go_ret2
            exact ⟨by rw [HX0.out]; rfl, by first | rfl | trivial⟩
        · obtain rfl : i = 3 := by omega
          have hltz : ¬ ((3 : Nat) : Int) < 3 := by omega
          have hr0 : R = some N := by rw [← HCF.out]; rfl
          have hx0 : X = if badF 3 N then (0, 0) else (N, 3) := by rw [HXX.out, hr0]; rfl
          have HX0 := Lib.hid hx0
          clear hr0 hx0
          by_cases n1 : N < 2048
          · go_wp2_with fail
            go_ret2
            first | exact ⟨by rw [HX0.out, if_neg (by unfold badF; omega)]; rfl, by first | rfl | trivial⟩ | exact ⟨by rw [HX0.out, if_pos (by unfold badF; omega)]; rfl, by first | rfl | trivial⟩
          · by_cases n2 : 55296 ≤ N
            · by_cases n3 : N ≤ 57343
              · go_wp2_with fail
                go_ret2
                first | exact ⟨by rw [HX0.out, if_neg (by unfold badF; omega)]; rfl, by first | rfl | trivial⟩ | exact ⟨by rw [HX0.out, if_pos (by unfold badF; omega)]; rfl, by first | rfl | trivial⟩
              · go_wp2_with fail
                go_ret2
                first | exact ⟨by rw [HX0.out, if_neg (by unfold badF; omega)]; rfl, by first | rfl | trivial⟩ | exact ⟨by rw [HX0.out, if_pos (by unfold badF; omega)]; rfl, by first | rfl | trivial⟩
            · go_wp2_with fail
              go_ret2
              first | exact ⟨by rw [HX0.out, if_neg (by unfold badF; omega)]; rfl, by first | rfl | trivial⟩ | exact ⟨by rw [HX0.out, if_pos (by unfold badF; omega)]; rfl, by first | rfl | trivial⟩
  · -- many: 4
    have c0 : ¬ C < 128 := by omega
    have c1 :  (194 ≤ C) := by omega
    have c2 : ¬ (C ≤ 223) := by omega
    have c3 :  (224 ≤ C) := by omega
    have c4 : ¬ (C ≤ 239) := by omega
    have c5 :  (240 ≤ C) := by omega
    have c6 :  (C ≤ 244) := by omega
    have cw : IntKind.i64.wrap (C - 240) = C - 240 := IntWalk.i64_in _ (by omega)
    have kw : IntKind.i64.wrap ((k : Int) + 4) = (k : Int) + 4 := IntWalk.i64_in _ (by omega)
    by_cases hsz : (s.size : Int) < (k : Int) + 4
    · have hxx : X = (0, 0) := by
        rw [HX.out]; unfold nextF
        rw [hC, if_neg h1, if_neg h2, if_neg (by omega), if_neg (by omega), if_pos (by omega)]
      have HXX := Lib.hid hxx
      clear hxx
      go_enter Tryz.func47, Tryz.ntmps47
      go_wp2_with fail
      go_ret2
      exact ⟨by rw [HXX.out]; rfl, by first | rfl | trivial⟩
    · have hsz2 : k + 4 ≤ s.size := by omega
      obtain ⟨R, hR⟩ : ∃ R, contF s k (4 - 1) 1 (C - 240) = R := ⟨_, rfl⟩
      have hxx : X = endF 4 R := by
        rw [HX.out]; unfold nextF
        rw [hC, if_neg h1, if_neg h2, if_neg (by omega), if_neg (by omega), if_neg (by omega)]
        rw [hR]
      have HXX := Lib.hid hxx
      have HR := Lib.hid hR
      clear hxx hR
      go_enter Tryz.func47, Tryz.ntmps47
      go_wp2_with fail
      go_loopw [8, 9] (fun v8 v9 wr => ∃ (N : Int) (i : Nat), v8 = .int .i64 N ∧ v9 = .int .i64 i ∧ 1 ≤ i ∧ i ≤ 4 ∧ 0 ≤ N ∧ ((i = 1 ∧ N < 8) ∨ (i = 2 ∧ N < 512) ∨ (i = 3 ∧ N < 32768) ∨ (i = 4 ∧ N < 2097152)) ∧ contF s k (4 - i) i N = R ∧ wr = w) (fun _ v9 _ => 4 - (intOf v9).toNat)
      case atStart => exact ⟨C - 240, 1, rfl, rfl, Nat.le_refl _, by omega, by omega, by omega, HR.out, by first | rfl | trivial⟩
      case round =>
        obtain ⟨N, i, rfl, rfl, hi1, hi2, hN1, hN2, hcf, rfl⟩ := hrel
        have HCF := Lib.hid hcf
        clear hcf HR
        by_cases hlt : i < 4
        · have hltz : (i : Int) < 4 := by omega
          obtain ⟨KI, hKI⟩ : ∃ KI, KI = k + i := ⟨_, rfl⟩
          have w1 : IntKind.i64.wrap ((k : Int) + i) = (KI : Int) := by rw [IntWalk.i64_in _ (by omega)]; omega
          have q1 : (KI : Int) < s.size := by omega
          have q2 : KI < s.size := by omega
          have HM := Lib.hid (by rw [bt_bl]; exact more01_calls _ wr : Calls Tryz.prog 73 #[.int .u8 (bt s KI)] wr fun e w' => e = .returned (.bool (decide (128 ≤ ((bl s).getD KI 0).toNat ∧ ((bl s).getD KI 0).toNat ≤ 191))) ∧ w' = wr)
          have hbk := bt_bl s KI
          have hlt8 := ((bl s).getD KI 0).toNat_lt
          obtain ⟨V, hV⟩ : ∃ V, ((bl s).getD KI 0).toNat = V := ⟨_, rfl⟩
          rw [hV] at HM hbk hlt8
          rw [hbk] at HM
          have w2 : IntKind.i64.wrap (V : Int) = (V : Int) := IntWalk.i64_in _ (by omega)
          clear hV
          have hcs : contF s k (4 - i) i N = if 128 ≤ (V : Int) ∧ (V : Int) ≤ 191 then contF s k (4 - (i + 1)) (i + 1) (N * 64 + V - 128) else none := by
            obtain ⟨f, hf⟩ : ∃ f, 4 - i = f + 1 := ⟨4 - i - 1, by omega⟩
            have hf2 : 4 - (i + 1) = f := by omega
            rw [hf, hf2, contF, ← hKI, hbk]
          rw [HCF.out] at hcs
          have HCS := Lib.hid hcs
          clear hcs
          by_cases hmo : 128 ≤ V ∧ V ≤ 191
          · rw [decide_eq_true hmo] at HM
            obtain ⟨N1, hN1e⟩ : ∃ N1, N * 64 + V - 128 = N1 := ⟨_, rfl⟩
            have w3 : IntKind.i64.wrap (N * 64) = N * 64 := IntWalk.i64_in _ (by omega)
            have w4 : IntKind.i64.wrap (N * 64 + V) = N * 64 + V := IntWalk.i64_in _ (by omega)
            have w5 : IntKind.i64.wrap (N * 64 + V - 128) = N1 := by rw [IntWalk.i64_in _ (by omega)]; exact hN1e
            have hb : 0 ≤ N1 ∧ N1 < N * 64 + 64 := by omega
            have hcs := HCS.out
            rw [if_pos (by omega), hN1e] at hcs
            have HB := Lib.hid (And.intro hb (And.intro hN2 hcs))
            clear hcs
            clear hKI hmo hN1e hb hN2 hlt8
            go_wp2_with fail
            refine HM.out.mono ?_
            rintro e w9 ⟨rfl, rfl⟩
            go_wp2_with fail
            go_roundw
            case rel =>
              have hb := HB.out.1
              have hN2 := HB.out.2.1
              exact ⟨N1, i + 1, rfl, by go_num, by omega, by omega, hb.1, by omega, HB.out.2.2.symm, by first | rfl | trivial⟩
            case measure => simp [intOf]; omega
          · rw [decide_eq_false hmo] at HM
            have hr0 : R = none := HCS.out.trans (if_neg (by omega))
            have hx0 : X = (0, 0) := by rw [HXX.out, hr0]; rfl
            have HX0 := Lib.hid hx0
            clear hr0 hx0
            clear hKI hmo hN2 hlt8
            go_wp2_with fail
            refine HM.out.mono ?_
            rintro e w9 ⟨rfl, rfl⟩
            go_wp2_with fail
            go_ret2
            exact ⟨by rw [HX0.out]; rfl, by first | rfl | trivial⟩
        · obtain rfl : i = 4 := by omega
          have hltz : ¬ ((4 : Nat) : Int) < 4 := by omega
          have hr0 : R = some N := by rw [← HCF.out]; rfl
          have hx0 : X = if badF 4 N then (0, 0) else (N, 4) := by rw [HXX.out, hr0]; rfl
          have HX0 := Lib.hid hx0
          clear hr0 hx0
          by_cases n1 : N < 65536
          · go_wp2_with fail
            go_ret2
            first | exact ⟨by rw [HX0.out, if_neg (by unfold badF; omega)]; rfl, by first | rfl | trivial⟩ | exact ⟨by rw [HX0.out, if_pos (by unfold badF; omega)]; rfl, by first | rfl | trivial⟩
          · by_cases n2 : 1114111 < N
            · go_wp2_with fail
              go_ret2
              first | exact ⟨by rw [HX0.out, if_neg (by unfold badF; omega)]; rfl, by first | rfl | trivial⟩ | exact ⟨by rw [HX0.out, if_pos (by unfold badF; omega)]; rfl, by first | rfl | trivial⟩
            · go_wp2_with fail
              go_ret2
              first | exact ⟨by rw [HX0.out, if_neg (by unfold badF; omega)]; rfl, by first | rfl | trivial⟩ | exact ⟨by rw [HX0.out, if_pos (by unfold badF; omega)]; rfl, by first | rfl | trivial⟩
end Go.Proofs.YtlcfijkegdlfcaaGreatDoor
namespace Go.Proofs.YtlcfijkegdlfcaaGreatDoor
open Go.RowKit Go.PlainAid
set_option linter.all false
set_option linter.deprecated false
set_option maxRecDepth 100000
theorem drewN_add (w : World) (a b : Nat) : (w.drewN a).drewN b = w.drewN (a + b) := by simp [World.drewN, Nat.add_assoc]
/-- From a place on: is something no character? -/
def walkF (s : ByteArray) : Nat → Nat → Nat
  | 0, _ => 0
  | f + 1, k => if s.size ≤ k then 0 else if (nextF s k).2 = 0 then 2 else walkF s f (k + (nextF s k).2)
def check01F (s : ByteArray) : Nat := if 1048576 < s.size then 4 else if (0 : UInt8) ∈ bl s then 3 else walkF s (s.size + 1) 0
theorem nextF_le (s : ByteArray) (k : Nat) : (nextF s k).2 ≤ 4 := by
  have he : ∀ M R, M ≤ 4 → (endF M R).2 ≤ 4 := fun M R h => by
    cases R with
    | none => exact Nat.zero_le _
    | some N => unfold endF; simp only; split <;> simp <;> omega
  unfold nextF
  split
  · exact (by decide : 1 ≤ 4)
  · split
    · exact Nat.zero_le _
    · split
      · split
        · exact Nat.zero_le _
        · exact he _ _ (by omega)
      · split
        · split
          · exact Nat.zero_le _
          · exact he _ _ (by omega)
        · split
          · exact Nat.zero_le _
          · exact he _ _ (by omega)
set_option maxHeartbeats 4000000 in
theorem Check01_calls (s : ByteArray) (w : World) (hs : s.size ≤ 1099511627776) : Calls Tryz.prog 28 #[.string s] w fun e w' => e = .returned (.int .i64 (check01F s : Nat)) ∧ w' = w := by
  have hg := get_bt s
  obtain ⟨X, hX⟩ : ∃ X, check01F s = X := ⟨_, rfl⟩
  rw [hX]
  have hd : X = if 1048576 < s.size then 4 else if (0 : UInt8) ∈ bl s then 3 else walkF s (s.size + 1) 0 := hX.symm
  have HD := Lib.hid hd
  clear hX hd
  by_cases h1 : 1048576 < s.size
  · have h1z : (1048576 : Int) < s.size := by omega
    have hx : X = 4 := HD.out.trans (if_pos h1)
    subst hx
    clear HD h1
    go_enter Tryz.func28, Tryz.ntmps28
    go_wp2
    go_ret
    exact ⟨rfl, rfl⟩
  · have h1z : ¬ (1048576 : Int) < s.size := by omega
    have HD2 := Lib.hid (HD.out.trans (if_neg h1))
    clear HD
    go_enter Tryz.func28, Tryz.ntmps28
    go_wp2
    go_loopw [3] (fun v3 wr => ∃ i : Nat, v3 = .int .i64 i ∧ i ≤ s.size ∧ (∀ x ∈ (bl s).take i, x ≠ 0) ∧ wr = w) (fun v3 _ => s.size - (intOf v3).toNat)
    case atStart => exact ⟨0, rfl, Nat.zero_le _, by simp, by first | rfl | trivial⟩
    case round =>
      obtain ⟨i, rfl, hi, hall, rfl⟩ := hrel
      have HA := Lib.hid hall
      clear hall
      by_cases hlt : i < s.size
      · have hltz : (i : Int) < s.size := by omega
        have hb := bt_bl s i
        have hgd : (bl s).getD i 0 = (bl s)[i]'(by rw [bl_len]; exact hlt) := by rw [List.getD_eq_getElem?_getD, List.getElem?_eq_getElem (by rw [bl_len]; exact hlt)]; rfl
        by_cases hz : (bl s)[i]'(by rw [bl_len]; exact hlt) = 0
        · have hbz : (bt s i == 0) = true := by rw [hb, hgd, hz]; rfl
          have hx : X = 3 := HD2.out.trans (if_pos (by rw [← hz]; exact List.getElem_mem _))
          have HX := Lib.hid hx
          clear hb hgd hz hx
          go_wp2
          go_ret
          exact ⟨by rw [HX.out]; rfl, rfl⟩
        · have hbz : (bt s i == 0) = false := beq_eq_false_iff_ne.2 (fun e => hz (by rw [hb, hgd] at e; exact UInt8.toNat_inj.1 (by exact_mod_cast e)))
          have hall2 : ∀ x ∈ (bl s).take (i + 1), x ≠ 0 := fun x hx => by
            rw [List.take_succ_eq_append_getElem (by rw [bl_len]; exact hlt)] at hx
            rcases List.mem_append.1 hx with hx | hx
            · exact HA.out x hx
            · rw [List.mem_singleton] at hx; rw [hx]; exact hz
          have HA2 := Lib.hid hall2
          clear hb hgd hz hall2
          go_wp2
          go_roundw
          case rel => exact ⟨i + 1, by go_num, hlt, HA2.out, by first | rfl | trivial⟩
          case measure => simp [intOf]; omega
      · obtain rfl : i = s.size := by omega
        have hltz : ¬ (s.size : Int) < s.size := by omega
        have hno : (0 : UInt8) ∉ bl s := fun h => HA.out 0 (by rw [List.take_of_length_le (by rw [bl_len]; exact Nat.le_refl _)]; exact h) rfl
        have HD3 := Lib.hid (HD2.out.trans (if_neg hno))
        clear hno HA HD2
        go_wp2
        go_loopw [4] (fun v4 wx => ∃ k f : Nat, v4 = .int .i64 k ∧ k ≤ s.size + 4 ∧ s.size < k + f ∧ walkF s f k = X ∧ wx = wr) (fun v4 _ => s.size + 5 - (intOf v4).toNat)
        case atStart => exact ⟨0, s.size + 1, rfl, Nat.zero_le _, by omega, HD3.out.symm, by first | rfl | trivial⟩
        case round =>
          clear HD3
          obtain ⟨k, f, rfl, hk, hf, hw, rfl⟩ := hrel
          by_cases hlt2 : k < s.size
          · have hlt2z : (k : Int) < s.size := by omega
            obtain ⟨g, rfl⟩ : ∃ g, f = g + 1 := ⟨f - 1, by omega⟩
            rw [walkF, if_neg (by omega)] at hw
            have hN := fun W => Next01_calls s k W hs hlt2
            have hle := nextF_le s k
            obtain ⟨Y, hY⟩ : ∃ Y, nextF s k = Y := ⟨_, rfl⟩
            rw [hY] at hw hN hle
            obtain ⟨z, m⟩ := Y
            simp only at hw hN hle
            have HN := Lib.hid hN
            have HW := Lib.hid hw
            clear hw hN hY
            by_cases hm : m = 0
            · have hmz : ((m : Int) == 0) = true := by rw [hm]; rfl
              have hx : X = 2 := by rw [← HW.out, if_pos hm]
              have HX := Lib.hid hx
              clear hx hm
              go_wp2_with fail
              refine (HN.out _).mono ?_
              rintro e w1 ⟨rfl, rfl⟩
              go_wp2_with fail
              go_ret
              exact ⟨by rw [HX.out]; rfl, rfl⟩
            · have hmz : ((m : Int) == 0) = false := beq_eq_false_iff_ne.2 (by omega)
              have w1 : IntKind.i64.wrap ((k : Int) + m) = ((k + m : Nat) : Int) := by rw [IntWalk.i64_in _ (by omega)]; omega
              have HW2 := Lib.hid ((if_neg hm).symm.trans HW.out)
              have hm1 : 1 ≤ m := by omega
              clear hm HW
              go_wp2_with fail
              refine (HN.out _).mono ?_
              rintro e w9 ⟨rfl, rfl⟩
              go_wp2_with fail
              go_roundw
              case rel => exact ⟨k + m, g, by first | rfl | go_num, by omega, by omega, HW2.out, by first | rfl | trivial⟩
              case measure => simp [intOf]; omega
          · have hlt2z : ¬ (k : Int) < s.size := by omega
            have hx : X = 0 := by
              rw [← hw]
              cases f with
              | zero => rfl
              | succ f => rw [walkF, if_pos (by omega)]
            have HX := Lib.hid hx
            clear hx hw
            go_wp2_with fail
            go_ret
            exact ⟨by rw [HX.out]; rfl, rfl⟩
/-- A line of a text. -/
def okF (s : ByteArray) : Bool := decide (check01F s = 0 ∧ longL 10 (bl s) + longL 13 (bl s) = 0)
/-- Lines of a text, few enough. -/
def fitsF (l : List ByteArray) (most : Nat) : Bool := l.all okF && decide (sumS l ≤ most)
set_option maxHeartbeats 8000000 in
theorem Fits12_calls {ok : Nat → Prop} (A : Option Addr) (n c most : Nat) (l : List ByteArray) (w : World) (h : Rd ok w (.slice A n c) (l.map D.str)) (hsum : sumS l ≤ 4294967280) (hmo : most ≤ 4294967280) :
    Calls Tryz.prog 16 #[.slice A n c, .int .i64 most] w fun e w' => e = .returned (.bool (fitsF l most)) ∧ ∃ q, w' = w.drewN q := by
  have hlen := (rd_strs h).1
  have hnb : n ≤ 4294967280 := by have := sumS_len l; omega
  have hdef : fitsF l most = (l.all okF && decide (sumS l ≤ most)) := rfl
  obtain ⟨X, hX⟩ : ∃ X, fitsF l most = X := ⟨_, rfl⟩
  rw [hX] at hdef ⊢
  have HD := Lib.hid hdef
  have H := Lib.hid h
  have HLN := Lib.hid hlen
  have HS := Lib.hid hsum
  clear hX hdef h hlen hsum
  go_enter Tryz.func16, Tryz.ntmps16
  go_wp2
  go_loopw [5, 9] (fun v5 v9 wr => ∃ (m i q : Nat), v5 = .int .i64 m ∧ v9 = .int .i64 i ∧ i ≤ n ∧ m = sumS (l.take i) ∧ (l.take i).all okF = true ∧ wr = w.drewN q) (fun _ v9 _ => n - (intOf v9).toNat)
  case atStart => exact ⟨0, 0, 0, rfl, rfl, Nat.zero_le _, rfl, by simp, by first | rfl | trivial⟩
  case round =>
    obtain ⟨m, i, q, rfl, rfl, hi, hm, hall, hwr⟩ := hrel
    have hrd : Rd ok wr (.slice A n c) (l.map D.str) := by rw [hwr]; exact H.out.drewN q
    have HRD := Lib.hid hrd
    have HWR := Lib.hid hwr
    clear hwr hrd
    have hms := sumS_take l i
    have hmb : m ≤ 4294967280 := by have := HS.out; omega
    have HM := Lib.hid (And.intro hm hall)
    clear hm hall hms
    by_cases hlt : i < n
    · have hltz : (i : Int) < n := by omega
      have hil : i < l.length := by have := HLN.out; omega
      obtain ⟨g, o, rfl, _, _, hcells⟩ := Rd.strs HRD.out (by omega)
      have hc := hcells i hil
      have he : l.getD i ByteArray.empty = l[i] := by simp [hil]
      rw [he] at hc
      have htk : l.take (i + 1) = l.take i ++ [l[i]] := List.take_succ_eq_append_getElem hil
      have hmem := sumS_mem (List.getElem_mem hil)
      obtain ⟨S, hS⟩ : ∃ S, l[i] = S := ⟨_, rfl⟩
      rw [hS] at hc htk hmem
      have hSz : S.size ≤ 4294967280 := by have := HS.out; omega
      have HC := fun k => (Check01_calls S (wr.drewN k) (by omega)).mono (R' := fun e w' => e = .returned (.int .i64 (check01F S : Nat)) ∧ ∃ m, w' = (wr.drewN k).drewN m) (fun e w' h => ⟨h.1, 0, h.2⟩)
      have HL : ∀ k, Calls Tryz.prog 32 #[.string S, .int .u8 10] (wr.drewN k) fun e w' => e = .returned (.int .i64 (longL 10 (bl S) : Nat)) ∧ ∃ m, w' = (wr.drewN k).drewN m := fun k => (Longest02_calls S 10 (wr.drewN k) hSz).mono (R' := fun e w' => e = .returned (.int .i64 (longL 10 (bl S) : Nat)) ∧ ∃ m, w' = (wr.drewN k).drewN m) (fun e w' h => ⟨h.1, 0, h.2⟩)
      have HL2 : ∀ k, Calls Tryz.prog 32 #[.string S, .int .u8 13] (wr.drewN k) fun e w' => e = .returned (.int .i64 (longL 13 (bl S) : Nat)) ∧ ∃ m, w' = (wr.drewN k).drewN m := fun k => (Longest02_calls S 13 (wr.drewN k) hSz).mono (R' := fun e w' => e = .returned (.int .i64 (longL 13 (bl S) : Nat)) ∧ ∃ m, w' = (wr.drewN k).drewN m) (fun e w' h => ⟨h.1, 0, h.2⟩)
      have hll := long_le 10 (bl S)
      have hll2 := long_le 13 (bl S)
      rw [bl_len] at hll hll2
      have hok : okF S = decide (check01F S = 0 ∧ longL 10 (bl S) + longL 13 (bl S) = 0) := rfl
      obtain ⟨z, hz⟩ : ∃ z, check01F S = z := ⟨_, rfl⟩
      obtain ⟨a, ha⟩ : ∃ a, longL 10 (bl S) = a := ⟨_, rfl⟩
      obtain ⟨b, hb⟩ : ∃ b, longL 13 (bl S) = b := ⟨_, rfl⟩
      rw [hz] at HC hok
      rw [ha] at HL hok hll
      rw [hb] at HL2 hok hll2
      have HCC := Lib.hid HC
      have HLL := Lib.hid HL
      have HLL2 := Lib.hid HL2
      have HOK := Lib.hid hok
      have HTK := Lib.hid htk
      have HSS := Lib.hid hS
      have w1 : IntKind.i64.wrap ((m : Int) + 1) = (m : Int) + 1 := IntWalk.i64_in _ (by omega)
      have w2 : IntKind.i64.wrap ((m : Int) + 1 + S.size) = ((m + 1 + S.size : Nat) : Int) := by rw [IntWalk.i64_in _ (by omega)]; omega
      have w3 : IntKind.i64.wrap ((a : Int) + b) = (a : Int) + b := IntWalk.i64_in _ (by omega)
      clear HC HL HL2 hok hz ha hb htk hcells he hmem hS
      by_cases hz0 : z = 0
      · have hzz : ((z : Int) != 0) = false := by rw [hz0]; rfl
        by_cases hab : a + b = 0
        · have habz : ¬ (0 : Int) < (a : Int) + b := by omega
          have ho : okF S = true := by rw [HOK.out]; exact decide_eq_true ⟨hz0, hab⟩
          have HO := Lib.hid ho
          clear ho hz0 hab
          go_wp2
          go_quiet (first | (go_at_call 28; go_must (exact Calls.quiet_of (HCC.out _))) | (go_at_call 32; with_reducible refine Calls.quiet_of (HLL.out _)) | (go_at_call 32; with_reducible refine Calls.quiet_of (HLL2.out _)))
          go_wp2
          go_roundw
          case rel =>
            refine ⟨m + 1 + S.size, i + 1, q + nq, by first | rfl | go_num, by go_num, hlt, ?_, ?_, by rw [HWR.out, drewN_add]⟩
            · rw [HTK.out, sumS_app, ← HM.out.1, sumS, sumS]; omega
            · rw [HTK.out, List.all_append, HM.out.2]; simp [HO.out]
          case measure => simp [intOf]; omega
        · have habz : (0 : Int) < (a : Int) + b := by omega
          have ho : okF S = false := by rw [HOK.out]; exact decide_eq_false (fun h => hab h.2)
          have HO := Lib.hid ho
          clear ho hz0 hab
          go_wp2
          go_quiet (first | (go_at_call 28; go_must (exact Calls.quiet_of (HCC.out _))) | (go_at_call 32; with_reducible refine Calls.quiet_of (HLL.out _)) | (go_at_call 32; with_reducible refine Calls.quiet_of (HLL2.out _)))
          go_wp2
          go_ret
          refine ⟨?_, q + nq, by rw [HWR.out, drewN_add]⟩
          rw [HD.out]
          have hno : l.all okF = false := by
            rw [← List.take_append_drop (i + 1) l, List.all_append, HTK.out, List.all_append]
            simp [HO.out]
          rw [hno]; rfl
      · have hzz : ((z : Int) != 0) = true := bne_iff_ne.2 (by omega)
        have ho : okF S = false := by rw [HOK.out]; exact decide_eq_false (fun h => hz0 h.1)
        have HO := Lib.hid ho
        clear ho hz0
        go_wp2
        go_quiet (first | (go_at_call 28; go_must (exact Calls.quiet_of (HCC.out _))))
        go_wp2
        go_ret
        refine ⟨?_, q + nq, by rw [HWR.out, drewN_add]⟩
        rw [HD.out]
        have hno : l.all okF = false := by
          rw [← List.take_append_drop (i + 1) l, List.all_append, HTK.out, List.all_append]
          simp [HO.out]
        rw [hno]; rfl
    · obtain rfl : i = n := by omega
      have hltz : ¬ (i : Int) < i := by omega
      go_wp2
      go_ret
      refine ⟨?_, q, HWR.out⟩
      rw [HD.out]
      have hm := HM.out
      rw [List.take_of_length_le (by have := HLN.out; omega)] at hm
      rw [hm.2, Bool.true_and, ← hm.1]
      exact ret_bool (by simp)
end Go.Proofs.YtlcfijkegdlfcaaGreatDoor
