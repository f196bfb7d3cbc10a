/- The walk of the law WordsFar. -/
import Derived.Test.YtnoloihdcmgbaaaAwake17
import Derived.Test.YtnoloihdcmgbaaaTxt
namespace Go.Proofs.Ytnoloihdcmgbaaa
open Go.RowKit Go.PlainAid
set_option linter.all false
set_option linter.deprecated false
def abc : ByteArray := ⟨#[97, 98, 99, 100, 101, 102, 103, 104, 105, 106, 107, 108, 109, 110, 111, 112]⟩
theorem abc_at : ∀ i : Nat, i < 16 → (abc.extract i (i + 1)).data.toList = [UInt8.ofNat (97 + i)] := by decide +kernel
def wsL (N : Nat) : List (List UInt8) := (List.range N).map fun i => [UInt8.ofNat (97 + i)]
def uO : List UInt8 := [111, 117, 114, 115]
def uT : List UInt8 := [116, 104, 101, 105, 114, 115]
theorem wsL_facts : ∀ N : Nat, N < 12 → (∀ w ∈ wsL N, Word w) ∧ uO ∉ wsL N ∧ uT ∉ wsL N := by unfold Word; decide +kernel
theorem wsL_word : Word uO ∧ Word uT := by unfold Word; decide +kernel
theorem take_snoc {l : List (List UInt8)} {k : Nat} {x : List UInt8} (h : l[k]? = some x) : txt (l.take (k + 1)) = txt (l.take k) ++ (if k = 0 then [] else [32]) ++ x := by
  obtain ⟨h1, rfl⟩ := List.getElem?_eq_some_iff.1 h
  rw [List.take_succ_eq_append_getElem h1, txt_snoc]
  have : (l.take k = []) ↔ k = 0 := by
    constructor
    · intro e; have := congrArg List.length e; rw [List.length_take, List.length_nil] at this; omega
    · intro e; subst e; rfl
  simp only [this]
theorem cat_step {B sep e : ByteArray} {L : List (List UInt8)} {k : Nat} {x : List UInt8} (hB : B.data.toList = txt (L.take k)) (hx : L[k]? = some x) (hs : sep.data.toList = if k = 0 then [] else [32]) (he : e.data.toList = x) : (B ++ sep ++ e).data.toList = txt (L.take (k + 1)) := by
  rw [take_snoc hx, ByteArray.data_append, ByteArray.data_append, Array.toList_append, Array.toList_append, hB, hs, he]
theorem cat_le {B sep e : ByteArray} {k : Nat} (hB : B.size ≤ 8 * k) (hs : sep.size ≤ 1) (he : e.size ≤ 7) : (B ++ sep ++ e).size ≤ 8 * (k + 1) := by
  rw [ByteArray.size_append, ByteArray.size_append]
  omega
set_option maxRecDepth 100000 in
set_option maxHeartbeats 1000000 in
theorem wordsFar_walk (m a b : Int) (w : World) (wm : (Lit.int .u8 m).wf = true) (wa : (Lit.int .u8 a).wf = true) (wb : (Lit.int .u8 b).wf = true) (_ : 1 + 1 + 1 ≤ 1048576) :
    Calls Try.prog 3 #[.int .u8 m, .int .u8 a, .int .u8 b] w fun e w' => e = .returned (.bool true) ∧ Below w.heap.size w w' := by
  have hm : 0 ≤ m ∧ m ≤ 255 := by simpa [Lit.wf, IntKind.min, IntKind.max, IntKind.signed, IntKind.bits] using wm
  have ha : 0 ≤ a ∧ a ≤ 255 := by simpa [Lit.wf, IntKind.min, IntKind.max, IntKind.signed, IntKind.bits] using wa
  have hb : 0 ≤ b ∧ b ≤ 255 := by simpa [Lit.wf, IntKind.min, IntKind.max, IntKind.signed, IntKind.bits] using wb
  obtain ⟨N, hN⟩ : ∃ N : Nat, 3 + m % 9 = N := ⟨(3 + m % 9).toNat, by omega⟩
  have hN1 : 3 ≤ N ∧ N ≤ 11 := by omega
  have hx0 : 0 ≤ a % N := Int.emod_nonneg _ (by omega)
  have hx1 : a % N < N := Int.emod_lt_of_pos _ (by omega)
  have hy0 : 0 ≤ b % N := Int.emod_nonneg _ (by omega)
  have hy1 : b % N < N := Int.emod_lt_of_pos _ (by omega)
  obtain ⟨X, hX⟩ : ∃ X : Nat, a % N = X := ⟨(a % N).toNat, by omega⟩
  obtain ⟨Y, hY⟩ : ∃ Y : Nat, b % N = Y := ⟨(b % N).toNat, by omega⟩
  have hXN : X < N := by omega
  have hYN : Y < N := by omega
  have hXt : a.tmod N = X := by rw [Int.tmod_eq_emod_of_nonneg (by omega), hX]
  have hYt : b.tmod N = Y := by rw [Int.tmod_eq_emod_of_nonneg (by omega), hY]
  have hN0 : ¬ ((N : Int) = 0) := by omega
  clear hx0 hx1 hy0 hy1
  by_cases hXY : X = Y
  · have hz : ((X : Int) == (Y : Int)) = true := by simp [hXY]
    clear hXY
    go_enter Try.func3, Try.ntmps3
    go_wp2_with (go_at_call 7; go_must (refine (awake_calls _).mono ?_); rintro e w1 ⟨rfl, hb1⟩)
    go_quiet (fail)
    go_wp2
    go_ret
    exact ⟨rfl, below_drewN hb1 _⟩
  have hz : ((X : Int) == (Y : Int)) = false := beq_eq_false_iff_ne.2 (by omega)
  go_enter Try.func3, Try.ntmps3
  go_wp2_with (go_at_call 7; go_must (refine (awake_calls _).mono ?_); rintro e w1 ⟨rfl, hb1⟩)
  go_quiet (fail)
  clear hX hY hXt hYt hN
  go_wp2
  go_loopw [10, 11, 12, 13, 40] (fun v10 v11 v12 v13 vi wr => ∃ (k : Nat) (B O T Z : ByteArray), k ≤ N ∧ vi = .int .i64 k ∧ v10 = .string B ∧ v11 = .string O ∧ v12 = .string T ∧ v13 = .string Z ∧
      B.data.toList = txt ((wsL N).take k) ∧ O.data.toList = txt (((wsL N).set X uO).take k) ∧ T.data.toList = txt (((wsL N).set Y uT).take k) ∧ Z.data.toList = txt ((((wsL N).set X uO).set Y uT).take k) ∧ Below w.heap.size w wr ∧ B.size ≤ 8 * k ∧ O.size ≤ 8 * k ∧ T.size ≤ 8 * k ∧ Z.size ≤ 8 * k)
    (fun _ _ _ _ vi _ => N - (intOf vi).toNat)
  case atStart => exact ⟨0, _, _, _, _, Nat.zero_le _, rfl, rfl, rfl, rfl, rfl, rfl, rfl, rfl, rfl, below_drewN hb1 _, Nat.le_refl _, Nat.le_refl _, Nat.le_refl _, Nat.le_refl _⟩
  case round =>
    obtain ⟨k, B, O, T, Z, hk, rfl, rfl, rfl, rfl, rfl, tB, tO, tT, tZ, hB, sB, sO, sT, sZ⟩ := hrel
    clear hb1
    by_cases hlt : k < N
    · have hk16 : (k : Int) + 1 ≤ 16 := by omega
      have hkN : (k : Int) < N := by omega
      have g0 : (wsL N)[k]? = some [UInt8.ofNat (97 + k)] := by unfold wsL; rw [List.getElem?_map, List.getElem?_range hlt]; rfl
      have hl : (wsL N).length = N := by simp [wsL]
      obtain ⟨wk, hwk⟩ : ∃ wk, (⟨#[97, 98, 99, 100, 101, 102, 103, 104, 105, 106, 107, 108, 109, 110, 111, 112]⟩ : ByteArray).extract k (k + 1) = wk := ⟨_, rfl⟩
      have hw : wk.data.toList = [UInt8.ofNat (97 + k)] := by rw [← hwk]; exact abc_at k (by omega)
      have hws : wk.size = 1 := by have := congrArg List.length hw; simpa using this
      have TB := Lib.hid tB
      have TO := Lib.hid tO
      have TT := Lib.hid tT
      have TZ := Lib.hid tZ
      have G0 := Lib.hid g0
      have HW := Lib.hid hw
      have HL := Lib.hid hl
      clear tB tO tT tZ g0 hw hl
      have gO : ((wsL N).set X uO)[k]? = some (if X = k then uO else [UInt8.ofNat (97 + k)]) := by
        rw [List.getElem?_set, HL.out, G0.out]
        split
        · first | rfl | rw [if_pos (by omega)]
        · rfl
      have gT : ((wsL N).set Y uT)[k]? = some (if Y = k then uT else [UInt8.ofNat (97 + k)]) := by
        rw [List.getElem?_set, HL.out, G0.out]
        split
        · first | rfl | rw [if_pos (by omega)]
        · rfl
      have gZ : (((wsL N).set X uO).set Y uT)[k]? = some (if Y = k then uT else if X = k then uO else [UInt8.ofNat (97 + k)]) := by
        rw [List.getElem?_set, List.length_set, HL.out, gO]
        split
        · first | rfl | rw [if_pos (by omega)]
        · rfl
      by_cases h0 : k = 0
      · have hz0 : ((k : Int) == 0) = true := by simp [h0]
        by_cases hx : X = k
        · have hzX : ((k : Int) == (X : Int)) = true := by simp [hx]
          have hzY : ((k : Int) == (Y : Int)) = false := beq_eq_false_iff_ne.2 (by omega)
          rw [if_pos hx] at gO
          rw [if_neg (by omega), if_pos hx] at gZ
          rw [if_neg (by omega)] at gT
          clear hx
          have GO := Lib.hid gO
          have GT := Lib.hid gT
          have GZ := Lib.hid gZ
          have H0 := Lib.hid h0
          clear gO gT gZ h0
          go_wp2
          have h0 := H0.out
          have hs := (if_pos h0 : (if k = 0 then ([] : List UInt8) else [32]) = _).symm
          go_roundw
          case rel => exact ⟨k + 1, _, _, _, _, by omega, by go_num, rfl, rfl, rfl, rfl, cat_step TB.out G0.out hs HW.out, cat_step TO.out GO.out hs rfl, cat_step TT.out GT.out hs HW.out, cat_step TZ.out GZ.out hs rfl, (by first | exact hB | exact below_drewN hB _), cat_le sB (by decide) (by first | decide | omega), cat_le sO (by decide) (by first | decide | omega), cat_le sT (by decide) (by first | decide | omega), cat_le sZ (by decide) (by first | decide | omega)⟩
          case measure => simp [intOf]; omega
        · have hzX : ((k : Int) == (X : Int)) = false := beq_eq_false_iff_ne.2 (by omega)
          rw [if_neg hx] at gO gZ
          by_cases hy : Y = k
          · have hzY : ((k : Int) == (Y : Int)) = true := by simp [hy]
            rw [if_pos hy] at gT gZ
            clear hx hy
            have GO := Lib.hid gO
            have GT := Lib.hid gT
            have GZ := Lib.hid gZ
            have H0 := Lib.hid h0
            clear gO gT gZ h0
            go_wp2
            have h0 := H0.out
            have hs := (if_pos h0 : (if k = 0 then ([] : List UInt8) else [32]) = _).symm
            go_roundw
            case rel => exact ⟨k + 1, _, _, _, _, by omega, by go_num, rfl, rfl, rfl, rfl, cat_step TB.out G0.out hs HW.out, cat_step TO.out GO.out hs HW.out, cat_step TT.out GT.out hs rfl, cat_step TZ.out GZ.out hs rfl, (by first | exact hB | exact below_drewN hB _), cat_le sB (by decide) (by first | decide | omega), cat_le sO (by decide) (by first | decide | omega), cat_le sT (by decide) (by first | decide | omega), cat_le sZ (by decide) (by first | decide | omega)⟩
            case measure => simp [intOf]; omega
          · have hzY : ((k : Int) == (Y : Int)) = false := beq_eq_false_iff_ne.2 (by omega)
            rw [if_neg hy] at gT gZ
            clear hx hy
            have GO := Lib.hid gO
            have GT := Lib.hid gT
            have GZ := Lib.hid gZ
            have H0 := Lib.hid h0
            clear gO gT gZ h0
            go_wp2
            have h0 := H0.out
            have hs := (if_pos h0 : (if k = 0 then ([] : List UInt8) else [32]) = _).symm
            go_roundw
            case rel => exact ⟨k + 1, _, _, _, _, by omega, by go_num, rfl, rfl, rfl, rfl, cat_step TB.out G0.out hs HW.out, cat_step TO.out GO.out hs HW.out, cat_step TT.out GT.out hs HW.out, cat_step TZ.out GZ.out hs HW.out, (by first | exact hB | exact below_drewN hB _), cat_le sB (by decide) (by first | decide | omega), cat_le sO (by decide) (by first | decide | omega), cat_le sT (by decide) (by first | decide | omega), cat_le sZ (by decide) (by first | decide | omega)⟩
            case measure => simp [intOf]; omega
      · have hz0 : ((k : Int) == 0) = false := beq_eq_false_iff_ne.2 (by omega)
        by_cases hx : X = k
        · have hzX : ((k : Int) == (X : Int)) = true := by simp [hx]
          have hzY : ((k : Int) == (Y : Int)) = false := beq_eq_false_iff_ne.2 (by omega)
          rw [if_pos hx] at gO
          rw [if_neg (by omega), if_pos hx] at gZ
          rw [if_neg (by omega)] at gT
          clear hx
          have GO := Lib.hid gO
          have GT := Lib.hid gT
          have GZ := Lib.hid gZ
          have H0 := Lib.hid h0
          clear gO gT gZ h0
          go_wp2
          have h0 := H0.out
          have hs := (if_neg h0 : (if k = 0 then ([] : List UInt8) else [32]) = _).symm
          go_roundw
          case rel => exact ⟨k + 1, _, _, _, _, by omega, by go_num, rfl, rfl, rfl, rfl, cat_step TB.out G0.out hs HW.out, cat_step TO.out GO.out hs rfl, cat_step TT.out GT.out hs HW.out, cat_step TZ.out GZ.out hs rfl, (by first | exact hB | exact below_drewN hB _), cat_le sB (by decide) (by first | decide | omega), cat_le sO (by decide) (by first | decide | omega), cat_le sT (by decide) (by first | decide | omega), cat_le sZ (by decide) (by first | decide | omega)⟩
          case measure => simp [intOf]; omega
        · have hzX : ((k : Int) == (X : Int)) = false := beq_eq_false_iff_ne.2 (by omega)
          rw [if_neg hx] at gO gZ
          by_cases hy : Y = k
          · have hzY : ((k : Int) == (Y : Int)) = true := by simp [hy]
            rw [if_pos hy] at gT gZ
            clear hx hy
            have GO := Lib.hid gO
            have GT := Lib.hid gT
            have GZ := Lib.hid gZ
            have H0 := Lib.hid h0
            clear gO gT gZ h0
            go_wp2
            have h0 := H0.out
            have hs := (if_neg h0 : (if k = 0 then ([] : List UInt8) else [32]) = _).symm
            go_roundw
            case rel => exact ⟨k + 1, _, _, _, _, by omega, by go_num, rfl, rfl, rfl, rfl, cat_step TB.out G0.out hs HW.out, cat_step TO.out GO.out hs HW.out, cat_step TT.out GT.out hs rfl, cat_step TZ.out GZ.out hs rfl, (by first | exact hB | exact below_drewN hB _), cat_le sB (by decide) (by first | decide | omega), cat_le sO (by decide) (by first | decide | omega), cat_le sT (by decide) (by first | decide | omega), cat_le sZ (by decide) (by first | decide | omega)⟩
            case measure => simp [intOf]; omega
          · have hzY : ((k : Int) == (Y : Int)) = false := beq_eq_false_iff_ne.2 (by omega)
            rw [if_neg hy] at gT gZ
            clear hx hy
            have GO := Lib.hid gO
            have GT := Lib.hid gT
            have GZ := Lib.hid gZ
            have H0 := Lib.hid h0
            clear gO gT gZ h0
            go_wp2
            have h0 := H0.out
            have hs := (if_neg h0 : (if k = 0 then ([] : List UInt8) else [32]) = _).symm
            go_roundw
            case rel => exact ⟨k + 1, _, _, _, _, by omega, by go_num, rfl, rfl, rfl, rfl, cat_step TB.out G0.out hs HW.out, cat_step TO.out GO.out hs HW.out, cat_step TT.out GT.out hs HW.out, cat_step TZ.out GZ.out hs HW.out, (by first | exact hB | exact below_drewN hB _), cat_le sB (by decide) (by first | decide | omega), cat_le sO (by decide) (by first | decide | omega), cat_le sT (by decide) (by first | decide | omega), cat_le sZ (by decide) (by first | decide | omega)⟩
            case measure => simp [intOf]; omega
    · have hke : k = N := by omega
      have hl : (wsL N).length = N := by simp [wsL]
      obtain ⟨f1, f2, f3⟩ := wsL_facts N (by omega)
      rw [hke] at tB tO tT tZ
      rw [List.take_of_length_le (by omega)] at tB
      rw [List.take_of_length_le (by simp; omega)] at tO tT tZ
      obtain ⟨q1, q2⟩ := far_text f1 wsL_word.1 wsL_word.2 f2 f3 (by omega) (by omega) hXY tB tO tT
      have q3 : catB ((textL B O T).getD []) = Z := ba_inj (q2.trans tZ.symm)
      have hT := fun W => WText_calls B O T W (by omega) (by omega) (by omega)
      rw [q1, q3] at hT
      have HT := Lib.hid hT
      clear hT q1 q2 q3 tB tO tT tZ f1 f2 f3 hl
      go_wp2_with (go_at_call 8; go_must (refine (HT.out _).mono ?_); rintro e w5 ⟨rfl, hb5⟩)
      go_ret
      exact ⟨rfl, below_to hB hB.size hb5⟩
end Go.Proofs.Ytnoloihdcmgbaaa
