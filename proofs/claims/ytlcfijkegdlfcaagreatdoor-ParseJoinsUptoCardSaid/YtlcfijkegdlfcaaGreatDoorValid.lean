/- The walk of utf8.Valid. -/
import Derived.Test.YtlcfijkegdlfcaaGreatDoorProg
import Derived.Test.YtlcfijkegdlfcaaGreatDoorBl
import Derived.Lib.ValidAsc
import Derived.Lib.Endian
import Derived.Lib.EndianBits
import Derived.Shelf.Unicode.DecodeSlow
import Derived.PlainAid
import Derived.WalkSpells
import Derived.Deep.Draws
import Derived.Deep.QuietTactic
import Derived.Deep.DeepBigQuietO
import Derived.Deep.LoopGhost
import Derived.Deep.DeepMust
import Derived.Deep.DeepCutAuto
/- The walk of utf8.word at bytes. -/
namespace Go.Proofs.YtlcfijkegdlfcaaGreatDoor
open Go.RowKit Go.PlainAid
set_option linter.all false
set_option linter.deprecated false
set_option maxRecDepth 100000
set_option maxHeartbeats 4000000 in
theorem word_calls (b o n c : Nat) (x0 x1 x2 x3 x4 x5 x6 x7 : UInt8) (w : World) (hn : 8 ≤ n)
    (c0 : w.cell? ⟨b, o, none⟩ = some (.int .u8 x0.toNat)) (c1 : w.cell? ⟨b, o + 1, none⟩ = some (.int .u8 x1.toNat)) (c2 : w.cell? ⟨b, o + 2, none⟩ = some (.int .u8 x2.toNat)) (c3 : w.cell? ⟨b, o + 3, none⟩ = some (.int .u8 x3.toNat))
    (c4 : w.cell? ⟨b, o + 4, none⟩ = some (.int .u8 x4.toNat)) (c5 : w.cell? ⟨b, o + 5, none⟩ = some (.int .u8 x5.toNat)) (c6 : w.cell? ⟨b, o + 6, none⟩ = some (.int .u8 x6.toNat)) (c7 : w.cell? ⟨b, o + 7, none⟩ = some (.int .u8 x7.toNat)) :
    Calls Tryz.prog 67 #[.slice (some ⟨b, o, none⟩) n c] w fun e w' => e = .returned (.int .u64 (Lib.leNat [x0, x1, x2, x3, x4, x5, x6, x7])) ∧ ∃ q, w' = w.drewN q := by
  have h0 : x0.toNat < 256 := x0.toNat_lt
  have h1 : x1.toNat < 256 := x1.toNat_lt
  have h2 : x2.toNat < 256 := x2.toNat_lt
  have h3 : x3.toNat < 256 := x3.toNat_lt
  have h4 : x4.toNat < 256 := x4.toNat_lt
  have h5 : x5.toNat < 256 := x5.toNat_lt
  have h6 : x6.toNat < 256 := x6.toNat_lt
  have h7 : x7.toNat < 256 := x7.toNat_lt
  have hv : ((Lib.leNat [x0, x1, x2, x3, x4, x5, x6, x7] : Nat) : Int) = (x0.toNat : Int) + (x1.toNat : Int) * 256 + (x2.toNat : Int) * 65536 + (x3.toNat : Int) * 16777216 + (x4.toNat : Int) * 4294967296 + (x5.toNat : Int) * 1099511627776 + (x6.toNat : Int) * 281474976710656 + (x7.toNat : Int) * 72057594037927936 := by
    simp only [Lib.leNat]
    push_cast
    omega
  have q0 : (0 : Int) < n := by omega
  have q1 : (1 : Int) < n := by omega
  have q2 : (2 : Int) < n := by omega
  have q3 : (3 : Int) < n := by omega
  have q4 : (4 : Int) < n := by omega
  have q5 : (5 : Int) < n := by omega
  have q6 : (6 : Int) < n := by omega
  have q7 : (7 : Int) < n := by omega
  have p0 : 0 < n := by omega
  have p1 : 1 < n := by omega
  have p2 : 2 < n := by omega
  have p3 : 3 < n := by omega
  have p4 : 4 < n := by omega
  have p5 : 5 < n := by omega
  have p6 : 6 < n := by omega
  have p7 : 7 < n := by omega
  have mixed : Tryz.prog.follows Departure.mixedOrders = true := by kernel_rfl
  go_enter Tryz.func67, Tryz.ntmps67
  go_wp2
  go_quiet_o (fail)
  go_wp2
  go_ret
  refine ⟨?_, _, rfl⟩
  simp (disch := omega) only [u64_wrap_id, u64_or8, u64_or16, u64_or24, u64_or32, u64_or40, u64_or48, u64_or56]
  rw [hv]
  rfl
end Go.Proofs.YtlcfijkegdlfcaaGreatDoor
namespace Go.Proofs.YtlcfijkegdlfcaaGreatDoor
open Go.RowKit Go.PlainAid
set_option linter.all false
set_option linter.deprecated false
set_option maxRecDepth 1000000
/-- Bytes lie from a place on. -/
def BytesAt (w : World) (b o : Nat) (l : List UInt8) : Prop := ∀ i, i < l.length → w.cell? ⟨b, o + i, none⟩ = some (.int .u8 (l.getD i 0).toNat)
theorem BytesAt.drop {w : World} {b o : Nat} {l : List UInt8} (h : BytesAt w b o l) (k : Nat) : BytesAt w b (o + k) (l.drop k) := fun i hi => by
  rw [List.length_drop] at hi
  have := h (k + i) (by omega)
  rw [Nat.add_assoc, this]
  simp [List.getElem?_drop]
theorem BytesAt.heap {w W : World} {b o : Nat} {l : List UInt8} (h : BytesAt w b o l) (e : W.heap = w.heap) : BytesAt W b o l := fun i hi => by
  have := h i hi
  rw [← this]; unfold World.cell?; rw [e]
theorem BytesAt.below {w W : World} {B b o : Nat} {l : List UInt8} (h : BytesAt w b o l) (hb : Below B w W) (hB : b < B) : BytesAt W b o l := fun i hi => (hb.cell (p := ⟨b, o + i, none⟩) hB).trans (h i hi)
/-- The number that the first eight bytes spell. -/
def wd (l : List UInt8) : Nat := Lib.leNat (l.take 8)
theorem wd_lt (l : List UInt8) : wd l < 18446744073709551616 := by
  unfold wd
  refine Nat.lt_of_lt_of_le (Lib.leNat_lt _) ?_
  have h : (l.take 8).length ≤ 8 := by rw [List.length_take]; omega
  exact Nat.pow_le_pow_right (by decide) h
theorem wd_mask {l : List UInt8} (h : 8 ≤ l.length) (h0 : wd l &&& 9259542123273814144 = 0) : ∀ x ∈ l.take 8, x.toNat < 128 := by
  have h8 : (l.take 8).length = 8 := by rw [List.length_take]; omega
  have := Lib.leNat_mask (l.take 8)
  rw [h8, Lib.maskN8] at this
  exact this.1 h0
theorem wordL_calls (b o n c : Nat) (l : List UInt8) (w : World) (hl : 8 ≤ l.length) (hn : 8 ≤ n) (hc : BytesAt w b o l) :
    Calls Tryz.prog 67 #[.slice (some ⟨b, o, none⟩) n c] w fun e w' => e = .returned (.int .u64 (wd l)) ∧ ∃ q, w' = w.drewN q := by
  have e : wd l = Lib.leNat [l.getD 0 0, l.getD 1 0, l.getD 2 0, l.getD 3 0, l.getD 4 0, l.getD 5 0, l.getD 6 0, l.getD 7 0] := by
    unfold wd
    match l, hl with
    | a0 :: a1 :: a2 :: a3 :: a4 :: a5 :: a6 :: a7 :: r, _ => rfl
  rw [e]
  exact word_calls b o n c _ _ _ _ _ _ _ _ w hn (by simpa using hc 0 (by omega)) (hc 1 (by omega)) (hc 2 (by omega)) (hc 3 (by omega)) (hc 4 (by omega)) (hc 5 (by omega)) (hc 6 (by omega)) (hc 7 (by omega))
theorem asc_or {A B : List UInt8} {k : Nat} {l : List UInt8} (h1 : ∀ x ∈ l.take k, x.toNat < 128) (h2 : ∀ x ∈ (l.drop k).take 8, x.toNat < 128) : ∀ x ∈ l.take (k + 8), x.toNat < 128 := by
  rw [List.take_add]
  intro x hx
  rcases List.mem_append.1 hx with h | h
  · exact h1 x h
  · exact h2 x h
theorem and7 : ∀ X : Fin 256, bits .and .u8 ((X.val : Nat) : Int) 7 = ((X.val % 8 : Nat) : Int) := by decide
set_option maxHeartbeats 16000000 in
theorem Valid_calls (A0 : Option Addr) (b o n c : Nat) (l : List UInt8) (w : World) (hl : l.length = n) (hn : n ≤ 1099511627776) (hcap : n ≤ c) (hA : 0 < n → A0 = some ⟨b, o, none⟩ ∧ b < w.heap.size ∧ BytesAt w b o l) (hT : ∀ W, Below w.heap.size w W → Lib.Utf8Tabs 0 1 W) :
    Calls Tryz.prog 44 #[.slice A0 n c] w fun e w' => e = .returned (.bool (Lib.validD l)) ∧ Below w.heap.size w w' := by
  have mixed : Tryz.prog.follows Departure.mixedOrders = true := by kernel_rfl
  obtain ⟨ANS, hANS⟩ : ∃ ANS, Lib.validD l = ANS := ⟨_, rfl⟩
  rw [hANS]
  have HA := Lib.hid hA
  have HL := Lib.hid hl
  have HANS := Lib.hid hANS
  have HT := Lib.hid hT
  clear hA hANS hT hl
  go_enter Tryz.func44, Tryz.ntmps44
  go_wp2
  go_loopw [0] (fun s0 wx => Below w.heap.size w wx ∧ ∃ (A : Option Addr) (L : List UInt8) (N : Nat), s0 = .slice A N N ∧ Lib.validD L = ANS ∧ L.length = N ∧ N ≤ n ∧ (0 < N → ∃ O, A = some ⟨b, O, none⟩ ∧ b < w.heap.size ∧ BytesAt w b O L)) (fun s0 _ => sliceLen s0)
  case atStart => exact ⟨Below.refl _ _, A0, l, n, rfl, HANS.out, HL.out, Nat.le_refl _, fun h => ⟨o, (HA.out h).1, (HA.out h).2⟩⟩
  case round =>
    clear HA HL HANS
    obtain ⟨hbw, A, L, N, rfl, hv, hLN, hNn, hA⟩ := hrel
    by_cases h0 : 0 < N
    · obtain ⟨O, rfl, hbl, hBA⟩ := hA h0
      have h0z : (0 : Int) < N := by omega
      have hBr := hBA.below hbw hbl
      obtain ⟨x0, hx0⟩ : ∃ x0, L.getD 0 0 = x0 := ⟨_, rfl⟩
      have hc0 := hBr 0 (by omega)
      rw [hx0, Nat.add_zero] at hc0
      have hx0lt : x0.toNat < 256 := x0.toNat_lt
      have HBR := Lib.hid hBr
      have HBA := Lib.hid hBA
      clear hA hBr hBA
      by_cases hasc : x0.toNat < 128
      · as_aux_lemma =>
          have hascz : (x0.toNat : Int) < 128 := by omega
          obtain ⟨N1, rfl⟩ : ∃ N1, N = N1 + 1 := ⟨N - 1, by omega⟩
          have v1 : Lib.validD (L.drop 1) = ANS := by
            rw [← hv]
            refine (Lib.validD_ascii 1 L (fun x hx => ?_)).symm
            obtain ⟨y, t, rfl⟩ : ∃ y t, L = y :: t := by cases L with | nil => simp at hLN | cons y t => exact ⟨y, t, rfl⟩
            simp at hx hx0
            rw [hx, hx0]; exact hasc
          have hl1 : (L.drop 1).length = N1 := by rw [List.length_drop, hLN]; omega
          have hb1 := HBA.out.drop 1
          obtain ⟨L1, hL1⟩ : ∃ L1, L.drop 1 = L1 := ⟨_, rfl⟩
          rw [hL1] at v1 hl1 hb1
          clear hL1 hv HBR HBA hx0 hLN
          have HB1 := Lib.hid hb1
          have V1 := Lib.hid v1
          have HL1 := Lib.hid hl1
          clear hb1 v1 hl1
          by_cases hN1 : N1 = 0
          · subst hN1
            go_wp2_with fail
            go_roundw
            case rel => exact ⟨hbw, _, L1, 0, rfl, V1.out, HL1.out, Nat.zero_le _, fun h => absurd h (Nat.lt_irrefl _)⟩
            case measure => simp [sliceLen]
          by_cases c8 : 8 < N1
          · have c8z : (8 : Int) < N1 := by omega
            obtain ⟨A1, hA1⟩ : ∃ A1, wd L1 = A1 := ⟨_, rfl⟩
            have lA1 : A1 < 18446744073709551616 := hA1 ▸ wd_lt L1
            have CW1 := Lib.hid (fun W (hW : W.heap = wr.heap) => hA1 ▸ wordL_calls b (O + 1) N1 N1 L1 W (by rw [HL1.out]; omega) (by omega) ((HB1.out.below hbw hbl).heap hW))
            have kA1 := fun h => wd_mask (l := L1) (by rw [HL1.out]; omega) h
            rw [hA1] at kA1
            have hand1 : bits .and .u64 (A1 : Int) 9259542123273814144 = ((A1 &&& 9259542123273814144 : Nat) : Int) := u64_and_nat A1 9259542123273814144 lA1 (by omega)
            obtain ⟨Z1, hZ1⟩ : ∃ Z1, A1 &&& 9259542123273814144 = Z1 := ⟨_, rfl⟩
            rw [hZ1] at hand1 kA1
            have KA1 := Lib.hid kA1
            clear hA1 hZ1 kA1
            by_cases hz1 : Z1 = 0
            · have hz1b : ((Z1 : Int) == 0) = true := by simp [hz1]
              obtain ⟨N2, rfl⟩ : ∃ N2, N1 = N2 + 8 := ⟨N1 - 8, by omega⟩
              have V2 : Hid (Lib.validD (L1.drop 8) = ANS) := Lib.hid (by rw [← V1.out]; exact (Lib.validD_ascii 8 L1 (KA1.out hz1)).symm)
              have HL2 : Hid ((L1.drop 8).length = N2) := Lib.hid (by rw [List.length_drop, HL1.out]; omega)
              have HB2 := Lib.hid (HB1.out.drop 8)
              obtain ⟨L2, hL2⟩ : ∃ L2, L1.drop 8 = L2 := ⟨_, rfl⟩
              rw [hL2] at V2 HL2 HB2
              clear hL2 KA1 HB1 V1
              go_wp2_with (go_at_call 67; go_must (refine (CW1.out _ rfl).mono ?_; rintro e W1 ⟨rfl, q1, rfl⟩))
              clear HL1
              have hb1 : Below w.heap.size w (wr.drewN q1) := below_drewN hbw q1
              generalize wr.drewN q1 = wq at hb1 ⊢
              clear CW1 hbw hand1 lA1
              by_cases c16 : 16 < N2
              · obtain ⟨M2, e8⟩ : ∃ M2, N2 - 8 = M2 := ⟨_, rfl⟩
                have c16z : (16 : Int) < N2 := by omega
                have s8z : (8 : Int) ≤ N2 := by omega
                have n8 : ¬ N2 = 8 := by omega
                generalize O + 1 + 8 = P2 at *
                obtain ⟨A2, hA2⟩ : ∃ A2, wd L2 = A2 := ⟨_, rfl⟩
                obtain ⟨A3, hA3⟩ : ∃ A3, wd (L2.drop 8) = A3 := ⟨_, rfl⟩
                have lA2 : A2 < 18446744073709551616 := hA2 ▸ wd_lt _
                have lA3 : A3 < 18446744073709551616 := hA3 ▸ wd_lt _
                have CW2 := Lib.hid (fun q => hA2 ▸ wordL_calls b P2 N2 N2 L2 (wq.drewN q) (by rw [HL2.out]; omega) (by omega) ((HB2.out.below hb1 hbl).heap rfl))
                have CW3 := Lib.hid (fun q => hA3 ▸ wordL_calls b (P2 + 8) M2 M2 (L2.drop 8) (wq.drewN q) (by rw [List.length_drop, HL2.out]; omega) (by omega) (((HB2.out.drop 8).below hb1 hbl).heap rfl))
                have hor2 : bits .or .u64 (A2 : Int) (A3 : Int) = ((A2 ||| A3 : Nat) : Int) := u64_or_nat A2 A3 lA2 lA3
                have lor2 : A2 ||| A3 < 18446744073709551616 := Nat.or_lt_two_pow (n := 64) lA2 lA3
                have hand2 : bits .and .u64 ((A2 ||| A3 : Nat) : Int) 9259542123273814144 = (((A2 ||| A3) &&& 9259542123273814144 : Nat) : Int) := u64_and_nat _ 9259542123273814144 lor2 (by omega)
                have k2 : (A2 ||| A3) &&& 9259542123273814144 = 0 → ∀ x ∈ L2.take 16, x.toNat < 128 := fun h0' => by
                  obtain ⟨e1, e2⟩ := (Lib.or_mask A2 A3 _).1 h0'
                  exact asc_or (A := []) (B := []) (k := 8) (wd_mask (by rw [HL2.out]; omega) (by rw [hA2]; exact e1)) (wd_mask (by rw [List.length_drop, HL2.out]; omega) (by rw [hA3]; exact e2))
                obtain ⟨O2, hO2⟩ : ∃ O2, A2 ||| A3 = O2 := ⟨_, rfl⟩
                rw [hO2] at hor2 hand2 k2
                obtain ⟨Z2, hZ2⟩ : ∃ Z2, O2 &&& 9259542123273814144 = Z2 := ⟨_, rfl⟩
                rw [hZ2] at hand2 k2
                have K2 := Lib.hid k2
                clear k2 lor2 hO2 hZ2 hA2 hA3 lA2 lA3
                by_cases hz2 : Z2 = 0
                · as_aux_lemma =>
                    have hz2b : ((Z2 : Int) == 0) = true := by simp [hz2]
                    have g8 : decide ((16 : Int) < N2) = true := decide_eq_true c16z
                    obtain ⟨N4, e16⟩ : ∃ N4, N2 - 16 = N4 := ⟨_, rfl⟩
                    have V4 : Hid (Lib.validD (L2.drop 16) = ANS) := Lib.hid (by rw [← V2.out]; exact (Lib.validD_ascii 16 L2 (K2.out hz2)).symm)
                    have HL4 : Hid ((L2.drop 16).length = N4) := Lib.hid (by rw [List.length_drop, HL2.out]; omega)
                    have HB4 := Lib.hid (HB2.out.drop 16)
                    obtain ⟨L4, hL4⟩ : ∃ L4, L2.drop 16 = L4 := ⟨_, rfl⟩
                    rw [hL4] at V4 HL4 HB4
                    have n16 : ¬ N2 = 16 := by omega
                    have s16z : (16 : Int) ≤ N2 := by omega
                    have E16 := Lib.hid e16
                    clear hL4 K2
                    go_big_quiet_o (first | (go_at_call 67; with_reducible refine Calls.quiet_of (CW2.out _)) | (go_at_call 67; with_reducible refine Calls.quiet_of (CW3.out _)))
                    clear CW2 CW3 HB2 V2
                    have hb2 : Below w.heap.size w (wq.drewN nq) := below_drewN hb1 nq
                    generalize wq.drewN nq = wq2 at hb2 ⊢
                    clear hb1
                    go_wp2_with fail
                    go_loopw [0] (fun s0 wx => Below w.heap.size w wx ∧ ∃ (A : Option Addr) (U : List UInt8) (M : Nat), s0 = .slice A M M ∧ Lib.validD U = ANS ∧ U.length = M ∧ M ≤ N4 ∧ (0 < M → ∃ O, A = some ⟨b, O, none⟩ ∧ b < w.heap.size ∧ BytesAt w b O U)) (fun s0 _ => sliceLen s0)
                    case atStart => exact ⟨hb2, _, L4, N4, rfl, V4.out, HL4.out, Nat.le_refl _, fun _ => ⟨_, rfl, hbl, HB4.out⟩⟩
                    case round =>
                      clear HB4 V4 HL4 hb2 hor2 hand2 hz2b g8 n16 s16z c16z s8z n8 e8
                      obtain ⟨hbu, A4, U, M, rfl, vu, hUM, hM4, hA4⟩ := hrel
                      have hM9 : M < N2 + 8 + 1 := by have := E16.out; omega
                      clear e16
                      by_cases c32 : 32 < M
                      · obtain ⟨R, rfl, _, hBU⟩ := hA4 (by omega)
                        have c32z : (32 : Int) < M := by omega
                        have g32 : decide ((32 : Int) < M) = true := decide_eq_true c32z
                        have s8u : (8 : Int) ≤ M := by omega
                        have s16u : (16 : Int) ≤ M := by omega
                        have s24u : (24 : Int) ≤ M := by omega
                        have s32u : (32 : Int) ≤ M := by omega
                        have n8u : ¬ M = 8 := by omega
                        have n16u : ¬ M = 16 := by omega
                        have n24u : ¬ M = 24 := by omega
                        have n32u : ¬ M = 32 := by omega
                        obtain ⟨M8, e8⟩ : ∃ M8, M - 8 = M8 := ⟨_, rfl⟩
                        obtain ⟨M16, e16⟩ : ∃ M16, M - 16 = M16 := ⟨_, rfl⟩
                        obtain ⟨M24, e24⟩ : ∃ M24, M - 24 = M24 := ⟨_, rfl⟩
                        obtain ⟨M32, e32⟩ : ∃ M32, M - 32 = M32 := ⟨_, rfl⟩
                        have hBr := hBU.below hbu hbl
                        obtain ⟨B0, hB0⟩ : ∃ B0, wd U = B0 := ⟨_, rfl⟩
                        obtain ⟨B1, hB1⟩ : ∃ B1, wd (U.drop 8) = B1 := ⟨_, rfl⟩
                        obtain ⟨B2, hB2⟩ : ∃ B2, wd (U.drop 16) = B2 := ⟨_, rfl⟩
                        obtain ⟨B3, hB3⟩ : ∃ B3, wd (U.drop 24) = B3 := ⟨_, rfl⟩
                        have lB0 : B0 < 18446744073709551616 := hB0 ▸ wd_lt _
                        have lB1 : B1 < 18446744073709551616 := hB1 ▸ wd_lt _
                        have lB2 : B2 < 18446744073709551616 := hB2 ▸ wd_lt _
                        have lB3 : B3 < 18446744073709551616 := hB3 ▸ wd_lt _
                        have CB0 := Lib.hid (fun q => hB0 ▸ wordL_calls b R M M U (wr.drewN q) (by omega) (by omega) (hBr.heap rfl))
                        have CB1 := Lib.hid (fun q => hB1 ▸ wordL_calls b (R + 8) M8 M8 (U.drop 8) (wr.drewN q) (by rw [List.length_drop]; omega) (by omega) ((hBr.drop 8).heap rfl))
                        have CB2 := Lib.hid (fun q => hB2 ▸ wordL_calls b (R + 16) M16 M16 (U.drop 16) (wr.drewN q) (by rw [List.length_drop]; omega) (by omega) ((hBr.drop 16).heap rfl))
                        have CB3 := Lib.hid (fun q => hB3 ▸ wordL_calls b (R + 24) M24 M24 (U.drop 24) (wr.drewN q) (by rw [List.length_drop]; omega) (by omega) ((hBr.drop 24).heap rfl))
                        have ho1 : bits .or .u64 (B0 : Int) (B1 : Int) = ((B0 ||| B1 : Nat) : Int) := u64_or_nat B0 B1 lB0 lB1
                        have ho2 : bits .or .u64 (B2 : Int) (B3 : Int) = ((B2 ||| B3 : Nat) : Int) := u64_or_nat B2 B3 lB2 lB3
                        have lo1 : B0 ||| B1 < 18446744073709551616 := Nat.or_lt_two_pow (n := 64) lB0 lB1
                        have lo2 : B2 ||| B3 < 18446744073709551616 := Nat.or_lt_two_pow (n := 64) lB2 lB3
                        have ho3 : bits .or .u64 ((B0 ||| B1 : Nat) : Int) ((B2 ||| B3 : Nat) : Int) = (((B0 ||| B1) ||| (B2 ||| B3) : Nat) : Int) := u64_or_nat _ _ lo1 lo2
                        have lo3 : (B0 ||| B1) ||| (B2 ||| B3) < 18446744073709551616 := Nat.or_lt_two_pow (n := 64) lo1 lo2
                        have hand3 : bits .and .u64 (((B0 ||| B1) ||| (B2 ||| B3) : Nat) : Int) 9259542123273814144 = ((((B0 ||| B1) ||| (B2 ||| B3)) &&& 9259542123273814144 : Nat) : Int) := u64_and_nat _ 9259542123273814144 lo3 (by omega)
                        have k3 : ((B0 ||| B1) ||| (B2 ||| B3)) &&& 9259542123273814144 = 0 → ∀ x ∈ U.take 32, x.toNat < 128 := fun h0' => by
                          obtain ⟨e01, e23⟩ := (Lib.or_mask _ _ _).1 h0'
                          obtain ⟨f0, f1⟩ := (Lib.or_mask _ _ _).1 e01
                          obtain ⟨f2, f3⟩ := (Lib.or_mask _ _ _).1 e23
                          have s8 := wd_mask (l := U) (by omega) (by rw [hB0]; exact f0)
                          have s16 := asc_or (A := []) (B := []) s8 (wd_mask (l := U.drop 8) (by rw [List.length_drop]; omega) (by rw [hB1]; exact f1))
                          have s24 := asc_or (A := []) (B := []) s16 (wd_mask (l := U.drop 16) (by rw [List.length_drop]; omega) (by rw [hB2]; exact f2))
                          exact asc_or (A := []) (B := []) s24 (wd_mask (l := U.drop 24) (by rw [List.length_drop]; omega) (by rw [hB3]; exact f3))
                        obtain ⟨P1, hP1⟩ : ∃ P1, B0 ||| B1 = P1 := ⟨_, rfl⟩
                        obtain ⟨P3, hP3⟩ : ∃ P3, B2 ||| B3 = P3 := ⟨_, rfl⟩
                        rw [hP1, hP3] at ho3 hand3 k3
                        rw [hP1] at ho1
                        rw [hP3] at ho2
                        obtain ⟨P4, hP4⟩ : ∃ P4, P1 ||| P3 = P4 := ⟨_, rfl⟩
                        rw [hP4] at ho3 hand3 k3
                        obtain ⟨Z3, hZ3⟩ : ∃ Z3, P4 &&& 9259542123273814144 = Z3 := ⟨_, rfl⟩
                        rw [hZ3] at hand3 k3
                        have K3 := Lib.hid k3
                        have VU := Lib.hid vu
                        have HUM := Lib.hid hUM
                        have HBU := Lib.hid hBU
                        have EM := Lib.hid e32
                        clear hB0 hB1 hB2 hB3 lB0 lB1 lB2 lB3 lo1 lo2 lo3 hP1 hP3 hP4 hZ3 k3 vu hUM hBU hBr hA4
                        by_cases hz3 : Z3 = 0
                        · have hz3b : ((Z3 : Int) == 0) = true := by simp [hz3]
                          go_wp2_with fail
                          go_big_quiet_o (first | (go_at_call 67; with_reducible refine Calls.quiet_of (CB0.out _)) | (go_at_call 67; with_reducible refine Calls.quiet_of (CB1.out _)) | (go_at_call 67; with_reducible refine Calls.quiet_of (CB2.out _)) | (go_at_call 67; with_reducible refine Calls.quiet_of (CB3.out _)))
                          go_wp2_with fail
                          go_roundw
                          case rel => exact ⟨below_drewN hbu nq, _, U.drop 32, M32, rfl, by rw [← VU.out]; exact (Lib.validD_ascii 32 U (K3.out hz3)).symm, by rw [List.length_drop, HUM.out]; exact EM.out, by omega, fun _ => ⟨_, rfl, hbl, HBU.out.drop 32⟩⟩
                          case measure => simp [sliceLen]; omega
                        · have hz3b : ((Z3 : Int) == 0) = false := by simp; omega
                          go_wp2_with fail
                          go_big_quiet_o (first | (go_at_call 67; with_reducible refine Calls.quiet_of (CB0.out _)) | (go_at_call 67; with_reducible refine Calls.quiet_of (CB1.out _)) | (go_at_call 67; with_reducible refine Calls.quiet_of (CB2.out _)) | (go_at_call 67; with_reducible refine Calls.quiet_of (CB3.out _)))
                          go_wp2_with fail
                          go_roundw
                          case rel => exact ⟨below_drewN hbu nq, _, U, M, rfl, VU.out, HUM.out, by omega, fun _ => ⟨_, rfl, hbl, HBU.out⟩⟩
                          case measure => simp [sliceLen]; omega
                      · have c32z : ¬ (32 : Int) < M := by omega
                        have c32b : decide ((32 : Int) < M) = false := decide_eq_false c32z
                        go_wp2_with fail
                        go_big_quiet_o (fail)
                        go_wp2_with fail
                        go_roundw
                        case rel => exact ⟨below_drewN hbu nq, _, U, M, rfl, vu, hUM, by omega, hA4⟩
                        case measure => simp [sliceLen]; omega
                · have hz2b : ((Z2 : Int) == 0) = false := by simp; omega
                  have g8 : decide ((16 : Int) < N2) = true := decide_eq_true c16z
                  go_big_quiet_o (first | (go_at_call 67; with_reducible refine Calls.quiet_of (CW2.out _)) | (go_at_call 67; with_reducible refine Calls.quiet_of (CW3.out _)))
                  go_wp2
                  go_roundw
                  case rel => exact ⟨below_drewN hb1 nq, _, L2, N2, rfl, V2.out, HL2.out, by omega, fun _ => ⟨P2, rfl, hbl, HB2.out⟩⟩
                  case measure => simp [sliceLen]; omega
              · have c16z : ¬ (16 : Int) < N2 := by omega
                have c16b : decide ((16 : Int) < N2) = false := decide_eq_false c16z
                go_big_quiet_o (fail)
                go_wp2
                go_roundw
                case rel => exact ⟨below_drewN hb1 nq, _, L2, N2, rfl, V2.out, HL2.out, by omega, fun _ => ⟨O + 1 + 8, rfl, hbl, HB2.out⟩⟩
                case measure => simp [sliceLen]; omega
            · have hz1b : ((Z1 : Int) == 0) = false := by simp; omega
              go_wp2_with (go_at_call 67; go_must (refine (CW1.out _ rfl).mono ?_; rintro e W1 ⟨rfl, q1, rfl⟩))
              go_roundw
              case rel => exact ⟨below_drewN hbw q1, _, L1, N1, rfl, V1.out, HL1.out, by omega, fun _ => ⟨O + 1, rfl, hbl, HB1.out⟩⟩
              case measure => simp [sliceLen]
          · have c8z : ¬ (8 : Int) < N1 := by omega
            go_wp2_with fail
            go_roundw
            case rel => exact ⟨hbw, _, L1, N1, rfl, V1.out, HL1.out, by omega, fun _ => ⟨O + 1, rfl, hbl, HB1.out⟩⟩
            case measure => simp [sliceLen]
      · as_aux_lemma =>
          have hge : 128 ≤ x0.toNat := by omega
          have hascz : ¬ ((x0.toNat : Int) < 128) := by omega
          have hTr := HT.out wr hbw
          obtain ⟨x1, hx1⟩ : ∃ x1, L.getD 1 0 = x1 := ⟨_, rfl⟩
          obtain ⟨x2, hx2⟩ : ∃ x2, L.getD 2 0 = x2 := ⟨_, rfl⟩
          obtain ⟨x3, hx3⟩ : ∃ x3, L.getD 3 0 = x3 := ⟨_, rfl⟩
          have l1 := x1.toNat_lt; have l2 := x2.toNat_lt; have l3 := x3.toNat_lt
          have hne : L ≠ [] := fun h => by rw [h] at hLN; simp at hLN; omega
          have hlead := Lib.validD_lead L hne (by rw [hx0]; exact hge)
          rw [hx0, hx1, hx2, hx3, hLN, hv] at hlead
          have hx1' := Lib.hid hx1; have hx2' := Lib.hid hx2; have hx3' := Lib.hid hx3; have hLN' := Lib.hid hLN
          have hf0 := hTr.1 x0.toNat hx0lt
          have hXlt : Lib.firstT x0.toNat < 256 := by rcases Lib.firstT_cases x0.toNat with h | h | h | h | h | h | h | h | h <;> omega
          obtain ⟨X, hX⟩ : ∃ X, Lib.firstT x0.toNat = X := ⟨_, rfl⟩
          rw [hX] at hf0 hXlt hlead
          have h7 := and7 ⟨X, hXlt⟩
          simp only at h7
          have ha0 : wr.cell? ⟨1, X / 16 * 2, none⟩ = some (.int .u8 (Lib.accLo (X / 16))) := by rw [Nat.mul_comm]; exact (hTr.2 (X / 16) (by omega)).1
          have ha1 : wr.cell? ⟨1, X / 16 * 2 + 1, none⟩ = some (.int .u8 (Lib.accHi (X / 16))) := by rw [Nat.mul_comm]; exact (hTr.2 (X / 16) (by omega)).2
          obtain ⟨LO, hLO⟩ : ∃ LO, Lib.accLo (X / 16) = LO := ⟨_, rfl⟩
          obtain ⟨HI, hHI⟩ : ∃ HI, Lib.accHi (X / 16) = HI := ⟨_, rfl⟩
          rw [hLO] at ha0 hlead
          rw [hHI] at ha1 hlead
          obtain ⟨SZ, hSZ⟩ : ∃ SZ, X % 8 = SZ := ⟨_, rfl⟩
          rw [hSZ] at hlead
          have hbne : ¬ b = wr.heap.size := by have := hbw.size; omega
          clear hTr hX hv hLO hHI hne hx0 hx1 hx2 hx3 hLN
          by_cases s2 : SZ = 2
          · as_aux_lemma =>
              subst s2
              have hSZz : (X : Int) % 8 = 2 := by omega
              simp only [Lib.checkN, Nat.reduceEqDiff, if_true, if_false] at hlead
              have HLEAD := Lib.hid hlead
              clear hlead
              go_upto_region 18 with fail
              go_cut [103] from 85 to 103 (fun c wx => c = .bool (decide (N < 2 ∨ x1.toNat < LO ∨ HI < x1.toNat)) ∧ Below w.heap.size w wx)
              case first =>
                by_cases q0 : N < 2
                · have q0z : (N : Int) < 2 := by omega
                  go_big_quiet_o (fail)
                  go_wp2
                  go_meet
                  exact ⟨congrArg Value.bool (decide_eq_true (p := N < 2 ∨ x1.toNat < LO ∨ HI < x1.toNat) (by omega)).symm, below_drewN (hbw.alloc hbw.size _) _⟩
                · have q0z : ¬ ((N : Int) < 2) := by omega
                  have hz1 : (1 : Int) < N := by omega
                  have hp1 : 1 < N := by omega
                  have d1 := HBR.out 1 (by rw [hLN'.out]; omega)
                  rw [hx1'.out] at d1
                  have d1A := (World.cell?_alloc_old wr (.cells #[.int .u8 LO, .int .u8 HI] 95) ⟨b, O + 1, none⟩ hbne).trans d1
                  by_cases q1 : x1.toNat < LO
                  · have q1z : (x1.toNat : Int) < (LO : Int) := by omega
                    go_big_quiet_o (fail)
                    go_wp2
                    go_meet
                    exact ⟨congrArg Value.bool (decide_eq_true (p := N < 2 ∨ x1.toNat < LO ∨ HI < x1.toNat) (by omega)).symm, below_drewN (hbw.alloc hbw.size _) _⟩
                  · have q1z : ¬ ((x1.toNat : Int) < (LO : Int)) := by omega
                    by_cases q2 : HI < x1.toNat
                    · have q2z : (HI : Int) < (x1.toNat : Int) := by omega
                      go_big_quiet_o (fail)
                      go_wp2
                      go_meet
                      exact ⟨congrArg Value.bool (decide_eq_true (p := N < 2 ∨ x1.toNat < LO ∨ HI < x1.toNat) (by omega)).symm, below_drewN (hbw.alloc hbw.size _) _⟩
                    · have q2z : ¬ ((HI : Int) < (x1.toNat : Int)) := by omega
                      go_big_quiet_o (fail)
                      go_wp2
                      go_meet
                      exact ⟨congrArg Value.bool (decide_eq_false (p := N < 2 ∨ x1.toNat < LO ∨ HI < x1.toNat) (by omega)).symm, below_drewN (hbw.alloc hbw.size _) _⟩
              case rest =>
                obtain ⟨rfl, hbc⟩ := hcut
                by_cases hb : N < 2 ∨ x1.toNat < LO ∨ HI < x1.toNat
                · have hbd : decide (N < 2 ∨ x1.toNat < LO ∨ HI < x1.toNat) = true := decide_eq_true hb
                  have hl2 := HLEAD.out
                  rw [if_pos hb] at hl2
                  have HL2 := Lib.hid hl2
                  clear hl2
                  go_wp2
                  all_goals (go_ret; exact ⟨ret_bool HL2.out.symm, hbc⟩)
                · have hbd : decide (N < 2 ∨ x1.toNat < LO ∨ HI < x1.toNat) = false := decide_eq_false hb
                  have hl2 := HLEAD.out
                  rw [if_neg hb] at hl2
                  have HL2 := Lib.hid hl2
                  have hk2 : (2 : Int) ≤ N := by omega
                  clear hl2
                  by_cases hNk : N = 2
                  · subst hNk
                    go_wp2
                    go_roundw
                    case rel => exact ⟨hbc, _, L.drop 2, 0, rfl, HL2.out.symm, by rw [List.length_drop, hLN'.out], Nat.zero_le _, fun h => absurd h (Nat.lt_irrefl _)⟩
                    case measure => simp [sliceLen]
                  · obtain ⟨M, eM⟩ : ∃ M, N - 2 = M := ⟨_, rfl⟩
                    have EM := Lib.hid eM
                    go_wp2
                    go_roundw
                    case rel => exact ⟨hbc, _, L.drop 2, M, rfl, HL2.out.symm, by rw [List.length_drop, hLN'.out]; exact EM.out, by have := EM.out; omega, fun _ => ⟨_, rfl, hbl, HBA.out.drop 2⟩⟩
                    case measure => have := EM.out; simp [sliceLen]; omega
          by_cases s3 : SZ = 3
          · as_aux_lemma =>
              subst s3
              have hSZz : (X : Int) % 8 = 3 := by omega
              simp only [Lib.checkN, Nat.reduceEqDiff, if_true, if_false] at hlead
              have HLEAD := Lib.hid hlead
              clear hlead
              go_upto_region 22 with fail
              go_cut [138] from 108 to 138 (fun c wx => c = .bool (decide (N < 3 ∨ x1.toNat < LO ∨ HI < x1.toNat ∨ x2.toNat < 128 ∨ 191 < x2.toNat)) ∧ Below w.heap.size w wx)
              case first =>
                by_cases q0 : N < 3
                · have q0z : (N : Int) < 3 := by omega
                  go_big_quiet_o (fail)
                  go_wp2
                  go_meet
                  exact ⟨congrArg Value.bool (decide_eq_true (p := N < 3 ∨ x1.toNat < LO ∨ HI < x1.toNat ∨ x2.toNat < 128 ∨ 191 < x2.toNat) (by omega)).symm, below_drewN (hbw.alloc hbw.size _) _⟩
                · have q0z : ¬ ((N : Int) < 3) := by omega
                  have hz1 : (1 : Int) < N := by omega
                  have hp1 : 1 < N := by omega
                  have d1 := HBR.out 1 (by rw [hLN'.out]; omega)
                  rw [hx1'.out] at d1
                  have d1A := (World.cell?_alloc_old wr (.cells #[.int .u8 LO, .int .u8 HI] 95) ⟨b, O + 1, none⟩ hbne).trans d1
                  have hz2 : (2 : Int) < N := by omega
                  have hp2 : 2 < N := by omega
                  have d2 := HBR.out 2 (by rw [hLN'.out]; omega)
                  rw [hx2'.out] at d2
                  have d2A := (World.cell?_alloc_old wr (.cells #[.int .u8 LO, .int .u8 HI] 95) ⟨b, O + 2, none⟩ hbne).trans d2
                  by_cases q1 : x1.toNat < LO
                  · have q1z : (x1.toNat : Int) < (LO : Int) := by omega
                    go_big_quiet_o (fail)
                    go_wp2
                    go_meet
                    exact ⟨congrArg Value.bool (decide_eq_true (p := N < 3 ∨ x1.toNat < LO ∨ HI < x1.toNat ∨ x2.toNat < 128 ∨ 191 < x2.toNat) (by omega)).symm, below_drewN (hbw.alloc hbw.size _) _⟩
                  · have q1z : ¬ ((x1.toNat : Int) < (LO : Int)) := by omega
                    by_cases q2 : HI < x1.toNat
                    · have q2z : (HI : Int) < (x1.toNat : Int) := by omega
                      go_big_quiet_o (fail)
                      go_wp2
                      go_meet
                      exact ⟨congrArg Value.bool (decide_eq_true (p := N < 3 ∨ x1.toNat < LO ∨ HI < x1.toNat ∨ x2.toNat < 128 ∨ 191 < x2.toNat) (by omega)).symm, below_drewN (hbw.alloc hbw.size _) _⟩
                    · have q2z : ¬ ((HI : Int) < (x1.toNat : Int)) := by omega
                      by_cases q3 : x2.toNat < 128
                      · have q3z : (x2.toNat : Int) < 128 := by omega
                        go_big_quiet_o (fail)
                        go_wp2
                        go_meet
                        exact ⟨congrArg Value.bool (decide_eq_true (p := N < 3 ∨ x1.toNat < LO ∨ HI < x1.toNat ∨ x2.toNat < 128 ∨ 191 < x2.toNat) (by omega)).symm, below_drewN (hbw.alloc hbw.size _) _⟩
                      · have q3z : ¬ ((x2.toNat : Int) < 128) := by omega
                        by_cases q4 : 191 < x2.toNat
                        · have q4z : (191 : Int) < (x2.toNat : Int) := by omega
                          go_big_quiet_o (fail)
                          go_wp2
                          go_meet
                          exact ⟨congrArg Value.bool (decide_eq_true (p := N < 3 ∨ x1.toNat < LO ∨ HI < x1.toNat ∨ x2.toNat < 128 ∨ 191 < x2.toNat) (by omega)).symm, below_drewN (hbw.alloc hbw.size _) _⟩
                        · have q4z : ¬ ((191 : Int) < (x2.toNat : Int)) := by omega
                          go_big_quiet_o (fail)
                          go_wp2
                          go_meet
                          exact ⟨congrArg Value.bool (decide_eq_false (p := N < 3 ∨ x1.toNat < LO ∨ HI < x1.toNat ∨ x2.toNat < 128 ∨ 191 < x2.toNat) (by omega)).symm, below_drewN (hbw.alloc hbw.size _) _⟩
              case rest =>
                obtain ⟨rfl, hbc⟩ := hcut
                by_cases hb : N < 3 ∨ x1.toNat < LO ∨ HI < x1.toNat ∨ x2.toNat < 128 ∨ 191 < x2.toNat
                · have hbd : decide (N < 3 ∨ x1.toNat < LO ∨ HI < x1.toNat ∨ x2.toNat < 128 ∨ 191 < x2.toNat) = true := decide_eq_true hb
                  have hl2 := HLEAD.out
                  rw [if_pos hb] at hl2
                  have HL2 := Lib.hid hl2
                  clear hl2
                  go_wp2
                  all_goals (go_ret; exact ⟨ret_bool HL2.out.symm, hbc⟩)
                · have hbd : decide (N < 3 ∨ x1.toNat < LO ∨ HI < x1.toNat ∨ x2.toNat < 128 ∨ 191 < x2.toNat) = false := decide_eq_false hb
                  have hl2 := HLEAD.out
                  rw [if_neg hb] at hl2
                  have HL2 := Lib.hid hl2
                  have hk2 : (3 : Int) ≤ N := by omega
                  clear hl2
                  by_cases hNk : N = 3
                  · subst hNk
                    go_wp2
                    go_roundw
                    case rel => exact ⟨hbc, _, L.drop 3, 0, rfl, HL2.out.symm, by rw [List.length_drop, hLN'.out], Nat.zero_le _, fun h => absurd h (Nat.lt_irrefl _)⟩
                    case measure => simp [sliceLen]
                  · obtain ⟨M, eM⟩ : ∃ M, N - 3 = M := ⟨_, rfl⟩
                    have EM := Lib.hid eM
                    go_wp2
                    go_roundw
                    case rel => exact ⟨hbc, _, L.drop 3, M, rfl, HL2.out.symm, by rw [List.length_drop, hLN'.out]; exact EM.out, by have := EM.out; omega, fun _ => ⟨_, rfl, hbl, HBA.out.drop 3⟩⟩
                    case measure => have := EM.out; simp [sliceLen]; omega
          by_cases s4 : SZ = 4
          · as_aux_lemma =>
              subst s4
              have hSZz : (X : Int) % 8 = 4 := by omega
              simp only [Lib.checkN, Nat.reduceEqDiff, if_true, if_false] at hlead
              have HLEAD := Lib.hid hlead
              clear hlead
              go_upto_region 26 with fail
              go_cut [185] from 143 to 185 (fun c wx => c = .bool (decide (N < 4 ∨ x1.toNat < LO ∨ HI < x1.toNat ∨ x2.toNat < 128 ∨ 191 < x2.toNat ∨ x3.toNat < 128 ∨ 191 < x3.toNat)) ∧ Below w.heap.size w wx)
              case first =>
                by_cases q0 : N < 4
                · have q0z : (N : Int) < 4 := by omega
                  go_big_quiet_o (fail)
                  go_wp2
                  go_meet
                  exact ⟨congrArg Value.bool (decide_eq_true (p := N < 4 ∨ x1.toNat < LO ∨ HI < x1.toNat ∨ x2.toNat < 128 ∨ 191 < x2.toNat ∨ x3.toNat < 128 ∨ 191 < x3.toNat) (by omega)).symm, below_drewN (hbw.alloc hbw.size _) _⟩
                · have q0z : ¬ ((N : Int) < 4) := by omega
                  have hz1 : (1 : Int) < N := by omega
                  have hp1 : 1 < N := by omega
                  have d1 := HBR.out 1 (by rw [hLN'.out]; omega)
                  rw [hx1'.out] at d1
                  have d1A := (World.cell?_alloc_old wr (.cells #[.int .u8 LO, .int .u8 HI] 95) ⟨b, O + 1, none⟩ hbne).trans d1
                  have hz2 : (2 : Int) < N := by omega
                  have hp2 : 2 < N := by omega
                  have d2 := HBR.out 2 (by rw [hLN'.out]; omega)
                  rw [hx2'.out] at d2
                  have d2A := (World.cell?_alloc_old wr (.cells #[.int .u8 LO, .int .u8 HI] 95) ⟨b, O + 2, none⟩ hbne).trans d2
                  have hz3 : (3 : Int) < N := by omega
                  have hp3 : 3 < N := by omega
                  have d3 := HBR.out 3 (by rw [hLN'.out]; omega)
                  rw [hx3'.out] at d3
                  have d3A := (World.cell?_alloc_old wr (.cells #[.int .u8 LO, .int .u8 HI] 95) ⟨b, O + 3, none⟩ hbne).trans d3
                  by_cases q1 : x1.toNat < LO
                  · have q1z : (x1.toNat : Int) < (LO : Int) := by omega
                    go_big_quiet_o (fail)
                    go_wp2
                    go_meet
                    exact ⟨congrArg Value.bool (decide_eq_true (p := N < 4 ∨ x1.toNat < LO ∨ HI < x1.toNat ∨ x2.toNat < 128 ∨ 191 < x2.toNat ∨ x3.toNat < 128 ∨ 191 < x3.toNat) (by omega)).symm, below_drewN (hbw.alloc hbw.size _) _⟩
                  · have q1z : ¬ ((x1.toNat : Int) < (LO : Int)) := by omega
                    by_cases q2 : HI < x1.toNat
                    · have q2z : (HI : Int) < (x1.toNat : Int) := by omega
                      go_big_quiet_o (fail)
                      go_wp2
                      go_meet
                      exact ⟨congrArg Value.bool (decide_eq_true (p := N < 4 ∨ x1.toNat < LO ∨ HI < x1.toNat ∨ x2.toNat < 128 ∨ 191 < x2.toNat ∨ x3.toNat < 128 ∨ 191 < x3.toNat) (by omega)).symm, below_drewN (hbw.alloc hbw.size _) _⟩
                    · have q2z : ¬ ((HI : Int) < (x1.toNat : Int)) := by omega
                      by_cases q3 : x2.toNat < 128
                      · have q3z : (x2.toNat : Int) < 128 := by omega
                        go_big_quiet_o (fail)
                        go_wp2
                        go_meet
                        exact ⟨congrArg Value.bool (decide_eq_true (p := N < 4 ∨ x1.toNat < LO ∨ HI < x1.toNat ∨ x2.toNat < 128 ∨ 191 < x2.toNat ∨ x3.toNat < 128 ∨ 191 < x3.toNat) (by omega)).symm, below_drewN (hbw.alloc hbw.size _) _⟩
                      · have q3z : ¬ ((x2.toNat : Int) < 128) := by omega
                        by_cases q4 : 191 < x2.toNat
                        · have q4z : (191 : Int) < (x2.toNat : Int) := by omega
                          go_big_quiet_o (fail)
                          go_wp2
                          go_meet
                          exact ⟨congrArg Value.bool (decide_eq_true (p := N < 4 ∨ x1.toNat < LO ∨ HI < x1.toNat ∨ x2.toNat < 128 ∨ 191 < x2.toNat ∨ x3.toNat < 128 ∨ 191 < x3.toNat) (by omega)).symm, below_drewN (hbw.alloc hbw.size _) _⟩
                        · have q4z : ¬ ((191 : Int) < (x2.toNat : Int)) := by omega
                          by_cases q5 : x3.toNat < 128
                          · have q5z : (x3.toNat : Int) < 128 := by omega
                            go_big_quiet_o (fail)
                            go_wp2
                            go_meet
                            exact ⟨congrArg Value.bool (decide_eq_true (p := N < 4 ∨ x1.toNat < LO ∨ HI < x1.toNat ∨ x2.toNat < 128 ∨ 191 < x2.toNat ∨ x3.toNat < 128 ∨ 191 < x3.toNat) (by omega)).symm, below_drewN (hbw.alloc hbw.size _) _⟩
                          · have q5z : ¬ ((x3.toNat : Int) < 128) := by omega
                            by_cases q6 : 191 < x3.toNat
                            · have q6z : (191 : Int) < (x3.toNat : Int) := by omega
                              go_big_quiet_o (fail)
                              go_wp2
                              go_meet
                              exact ⟨congrArg Value.bool (decide_eq_true (p := N < 4 ∨ x1.toNat < LO ∨ HI < x1.toNat ∨ x2.toNat < 128 ∨ 191 < x2.toNat ∨ x3.toNat < 128 ∨ 191 < x3.toNat) (by omega)).symm, below_drewN (hbw.alloc hbw.size _) _⟩
                            · have q6z : ¬ ((191 : Int) < (x3.toNat : Int)) := by omega
                              go_big_quiet_o (fail)
                              go_wp2
                              go_meet
                              exact ⟨congrArg Value.bool (decide_eq_false (p := N < 4 ∨ x1.toNat < LO ∨ HI < x1.toNat ∨ x2.toNat < 128 ∨ 191 < x2.toNat ∨ x3.toNat < 128 ∨ 191 < x3.toNat) (by omega)).symm, below_drewN (hbw.alloc hbw.size _) _⟩
              case rest =>
                obtain ⟨rfl, hbc⟩ := hcut
                by_cases hb : N < 4 ∨ x1.toNat < LO ∨ HI < x1.toNat ∨ x2.toNat < 128 ∨ 191 < x2.toNat ∨ x3.toNat < 128 ∨ 191 < x3.toNat
                · have hbd : decide (N < 4 ∨ x1.toNat < LO ∨ HI < x1.toNat ∨ x2.toNat < 128 ∨ 191 < x2.toNat ∨ x3.toNat < 128 ∨ 191 < x3.toNat) = true := decide_eq_true hb
                  have hl2 := HLEAD.out
                  rw [if_pos hb] at hl2
                  have HL2 := Lib.hid hl2
                  clear hl2
                  go_wp2
                  all_goals (go_ret; exact ⟨ret_bool HL2.out.symm, hbc⟩)
                · have hbd : decide (N < 4 ∨ x1.toNat < LO ∨ HI < x1.toNat ∨ x2.toNat < 128 ∨ 191 < x2.toNat ∨ x3.toNat < 128 ∨ 191 < x3.toNat) = false := decide_eq_false hb
                  have hl2 := HLEAD.out
                  rw [if_neg hb] at hl2
                  have HL2 := Lib.hid hl2
                  have hk2 : (4 : Int) ≤ N := by omega
                  clear hl2
                  by_cases hNk : N = 4
                  · subst hNk
                    go_wp2
                    go_roundw
                    case rel => exact ⟨hbc, _, L.drop 4, 0, rfl, HL2.out.symm, by rw [List.length_drop, hLN'.out], Nat.zero_le _, fun h => absurd h (Nat.lt_irrefl _)⟩
                    case measure => simp [sliceLen]
                  · obtain ⟨M, eM⟩ : ∃ M, N - 4 = M := ⟨_, rfl⟩
                    have EM := Lib.hid eM
                    go_wp2
                    go_roundw
                    case rel => exact ⟨hbc, _, L.drop 4, M, rfl, HL2.out.symm, by rw [List.length_drop, hLN'.out]; exact EM.out, by have := EM.out; omega, fun _ => ⟨_, rfl, hbl, HBA.out.drop 4⟩⟩
                    case measure => have := EM.out; simp [sliceLen]; omega
          have hs2 : ((SZ : Int) == 2) = false := beq_eq_false_iff_ne.2 (by omega)
          have hs3 : ((SZ : Int) == 3) = false := beq_eq_false_iff_ne.2 (by omega)
          have hs4 : ((SZ : Int) == 4) = false := beq_eq_false_iff_ne.2 (by omega)
          have e2 : (X : Int) % 8 = SZ := by omega
          have hl0 : ANS = false := by rw [hlead]; simp [Lib.checkN, s2, s3, s4]
          have HL0 := Lib.hid hl0
          clear hlead hl0
          go_wp2_with fail
          go_ret
          exact ⟨ret_bool HL0.out.symm, hbw.alloc hbw.size _⟩
    · go_wp2
      go_ret
      have hL0 : L = [] := List.eq_nil_of_length_eq_zero (by omega)
      subst hL0
      exact ⟨by rw [← hv]; rfl, hbw⟩
end Go.Proofs.YtlcfijkegdlfcaaGreatDoor
