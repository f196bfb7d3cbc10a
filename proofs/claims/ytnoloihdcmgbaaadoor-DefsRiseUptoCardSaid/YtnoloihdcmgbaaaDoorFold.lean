/- The walk of utf.Fold. -/
import Derived.Test.YtnoloihdcmgbaaaDoorGap
import Derived.Test.YtnoloihdcmgbaaaDoorShelf
import Derived.Test.YtnoloihdcmgbaaaDoorMany
import Derived.Test.YtnoloihdcmgbaaaDoorBytes
namespace Go.Proofs.YtnoloihdcmgbaaaDoor
open Go.RowKit Go.PlainAid
set_option linter.all false
set_option linter.deprecated false
set_option maxRecDepth 100000
/-- A text without spaces and breaks at its ends. -/
def trimG (s : List UInt8) : List UInt8 := Lib.trimS s [9, 10, 13, 32]
theorem Trim_calls (s : ByteArray) (w : World) (hs : s.size ≤ 1099511627776) :
    Calls Tryd.prog 55 #[.string s, .string ⟨#[9, 10, 13, 32]⟩] w fun e w' => e = .returned (.string ⟨(trimG s.data.toList).toArray⟩) ∧ Below w.heap.size w w' :=
  Any.strings_Trim_ascii Tryd.trimS (fun w => by kernel_rfl) (by kernel_rfl) s ⟨#[9, 10, 13, 32]⟩ w (by omega) (by decide) (fun j b hb => by
    have : b ∈ [9, 10, 13, 32] := List.mem_of_getElem? hb
    simp at this
    rcases this with rfl | rfl | rfl | rfl <;> decide)
theorem trimG_head (s : List UInt8) : ∀ c, (trimG s).head? = some c → gapB c = false := by
  intro c h
  unfold trimG Lib.trimS Lib.trimLeftS at h
  have h1 : ([9, 10, 13, 32] : List UInt8).contains c = false := by
    have := List.head?_dropWhile_not (p := fun x => ([9, 10, 13, 32] : List UInt8).contains x) (Lib.trimRightS s [9, 10, 13, 32])
    rw [h] at this
    simpa using this
  cases hg : gapB c with
  | false => rfl
  | true =>
    unfold gapB at hg
    rw [gapI_iff] at hg
    exfalso
    have h2 : c = 9 ∨ c = 10 ∨ c = 13 ∨ c = 32 := by
      rcases hg with h | h | h | h
      · exact .inl (UInt8.toNat_inj.1 (by simpa using (by omega : c.toNat = 9)))
      · exact .inr (.inl (UInt8.toNat_inj.1 (by simpa using (by omega : c.toNat = 10))))
      · exact .inr (.inr (.inl (UInt8.toNat_inj.1 (by simpa using (by omega : c.toNat = 13)))))
      · exact .inr (.inr (.inr (UInt8.toNat_inj.1 (by simpa using (by omega : c.toNat = 32)))))
    rcases h2 with rfl | rfl | rfl | rfl <;> simp at h1
/-- The first bytes, folded. -/
def foldTo (b : List UInt8) : Nat → List UInt8
  | 0 => []
  | k + 1 => if gapB (b.getD k 0) = true then (if gapB (b.getD (k - 1) 0) = true then foldTo b k else foldTo b k ++ [32]) else foldTo b k ++ [lowB (b.getD k 0)]
theorem foldTo_len (b : List UInt8) : ∀ k, (foldTo b k).length ≤ k
  | 0 => by simp [foldTo]
  | k + 1 => by
    have := foldTo_len b k
    rw [foldTo]
    split
    · split
      · omega
      · simp; omega
    · simp; omega
/-- A text by which labels are compared. -/
def foldS (s : ByteArray) : ByteArray := ⟨(foldTo (trimG s.data.toList) (trimG s.data.toList).length).toArray⟩
theorem infoByte : (Tryd.prog.info? 5).map (fun i => (i.zero, i.size, i.bytes)) = some (some (.int .u8 0), 1, 1) := by kernel_rfl
theorem trimG_len (s : List UInt8) : (trimG s).length ≤ s.length := by
  unfold trimG Lib.trimS Lib.trimLeftS Lib.trimRightS
  have h1 := (List.dropWhile_sublist (fun x => ([9, 10, 13, 32] : List UInt8).contains x) (l := ((s.reverse.dropWhile fun x => ([9, 10, 13, 32] : List UInt8).contains x).reverse))).length_le
  have h2 := (List.dropWhile_sublist (fun x => ([9, 10, 13, 32] : List UInt8).contains x) (l := s.reverse)).length_le
  simp only [List.length_reverse] at *
  omega
set_option maxHeartbeats 1000000 in
theorem Fold_calls (s : ByteArray) (w : World) (hs : s.size ≤ 4194304) :
    Calls Tryd.prog 32 #[.string s] w fun e w' => e = .returned (.string (foldS s)) ∧ Below w.heap.size w w' := by
  have ht := Trim_calls s w (by omega)
  have hh := trimG_head s.data.toList
  have hl := trimG_len s.data.toList
  have hdef : foldS s = ⟨(foldTo (trimG s.data.toList) (trimG s.data.toList).length).toArray⟩ := rfl
  have hsl : s.data.toList.length = s.size := by simp
  obtain ⟨i0, hi, hz0, hz1, hz2⟩ := info_parts infoByte
  generalize trimG s.data.toList = b at *
  have hconv := fun W => conv_str (P := Tryd.prog) Tryd.underlying9 Tryd.underlying83 Tryd.underlying5 ⟨b.toArray⟩ W
  have hsz : (ByteArray.mk b.toArray).size = b.length := by simp [ByteArray.size]
  rw [hsz] at hconv
  have HT := Lib.hid ht
  have HH := Lib.hid hh
  have HD := Lib.hid hdef
  clear ht hh hdef hsz
  go_enter Tryd.func32, Tryd.ntmps32
  go_wp2_with (first
    | (go_at_call 55; go_must (refine (HT.out).mono ?_); rintro e w1 ⟨rfl, hb1⟩)
    | (at_make; go_must (refine wpList_make_own _ rfl _ _ 83 rfl _ 5 i0 _ 1 Tryd.underlying83 hi hz0 hz1 .i64 .i64 _ b.length rfl rfl rfl (by rw [hz2]; omega) (by simp only [maxLen]; omega) (Nat.le_refl _) ?_); intro w3 hown3 hgr3))
  have hbw := bytesW_below w1 5 ⟨b.toArray⟩
  have hs2 : w1.heap.size < (bytesW w1 5 ⟨b.toArray⟩).heap.size := by rw [bytesW_size]; omega
  have hcell := fun j (hj : j < b.length) => bytesW_cell w1 5 b hj
  have hb3 : Below (bytesW w1 5 ⟨b.toArray⟩).heap.size (bytesW w1 5 ⟨b.toArray⟩) w3 := (Below.refl _ _).grown hgr3 (Nat.le_refl _) (fun k hk => by cases hk)
  clear hgr3 hconv
  generalize grownCap w1 b.length 0 5 = cap at *
  generalize bytesW w1 5 ⟨b.toArray⟩ = w2 at *
  have h2 := below_to hb1 hb1.size hbw
  have HC := Lib.hid hcell
  clear hcell
  go_loopw [4, 15] (fun vo vi wr => ∃ k : Nat, k ≤ b.length ∧ vi = .int .i64 k ∧ wr.ownsRow w2.heap.size 5 1 vo (foldTo b k).length ((foldTo b k).map byteV) ∧ Below w2.heap.size w2 wr) (fun _ vi _ => b.length - (intOf vi).toNat)
  case atStart => exact ⟨0, Nat.zero_le _, rfl, hown3, hb3⟩
  case round =>
    obtain ⟨k, hk, rfl, hor, hB⟩ := hrel
    clear hown3 hb3
    by_cases hlt : k < b.length
    · have hfl := foldTo_len b k
      have hd0 : b.getD k 0 = b[k] := by simp [hlt]
      have hstep : foldTo b (k + 1) = if gapB (b.getD k 0) = true then (if gapB (b.getD (k - 1) 0) = true then foldTo b k else foldTo b k ++ [32]) else foldTo b k ++ [lowB (b.getD k 0)] := rfl
      rw [hd0] at hstep
      have hck := below_at' hB (by omega) (HC.out k hlt)
      unfold byteV at hck
      have hlc := (b[k]).toNat_lt
      cases hg : gapB b[k] with
      | false =>
        rw [hg, if_neg (by simp)] at hstep
        have hg' : gapI (b[k].toNat : Int) = false := hg
        have HS := Lib.hid hstep
        clear hstep hg hd0
        generalize b[k] = c at *
        go_wp2_with (first
          | (go_at_call 56; go_must (refine (utfgap_calls _ _ (by omega) (by omega)).mono ?_); rintro e w' ⟨rfl, rfl⟩)
          | (go_at_call 57; go_must (refine (utflower_calls c _).mono ?_); rintro e w' ⟨rfl, rfl⟩)
          | (at_builtin; go_must (refine app_one (w0 := w2) w2.heap.size rfl _ _ 83 5 rfl Tryd.underlying83 infoByte rfl (by decide) (by decide) [byteV (lowB c)] rfl rfl rfl (by simp [Value.oneCell', byteV]) (by exact hor) hB hB.size (by omega) ?_); intro v' w4 hown' hbe' _ _))
        go_roundw
        case rel => exact ⟨k + 1, by omega, by go_num, by rw [HS.out, List.map_append, List.length_append]; exact hown', hbe'⟩
        case measure => simp [intOf]; omega
      | true =>
        have hk0 : 0 < k := by
          rcases Nat.eq_zero_or_pos k with h | h
          · subst h
            have := HH.out b[0] (by rw [List.head?_eq_getElem?, List.getElem?_eq_getElem hlt])
            rw [this] at hg
            cases hg
          · exact h
        obtain ⟨m, rfl⟩ : ∃ m, k = m + 1 := ⟨k - 1, by omega⟩
        have hm : m < b.length := by omega
        have hd1 : b.getD (m + 1 - 1) 0 = b[m] := by simp [hm]
        rw [hg, if_pos rfl, hd1] at hstep
        have hcm := below_at' hB (by omega) (HC.out m hm)
        unfold byteV at hcm
        have hlm := (b[m]).toNat_lt
        have hg' : gapI (b[m + 1].toNat : Int) = true := hg
        clear hg hd0 hd1 hk0
        have es : ((m + 1 : Nat) : Int) - 1 = m := by omega
        cases hgm : gapB b[m] with
        | true =>
          rw [hgm, if_pos rfl] at hstep
          have hg'' : gapI (b[m].toNat : Int) = true := hgm
          have HS := Lib.hid hstep
          clear hstep hgm
          generalize b[m + 1] = c at *
          generalize b[m] = d at *
          go_wp2_with (first
            | (go_at_call 56; go_must (refine (utfgap_calls _ _ (by omega) (by omega)).mono ?_); rintro e w' ⟨rfl, rfl⟩))
          go_roundw
          case rel => exact ⟨m + 1 + 1, by omega, by go_num, by rw [HS.out]; exact hor, hB⟩
          case measure => simp [intOf]; omega
        | false =>
          rw [hgm, if_neg (by simp)] at hstep
          have hg'' : gapI (b[m].toNat : Int) = false := hgm
          have HS := Lib.hid hstep
          clear hstep hgm
          generalize b[m + 1] = c at *
          generalize b[m] = d at *
          go_wp2_with (first
            | (go_at_call 56; go_must (refine (utfgap_calls _ _ (by omega) (by omega)).mono ?_); rintro e w' ⟨rfl, rfl⟩)
            | (at_builtin; go_must (refine app_one (w0 := w2) w2.heap.size rfl _ _ 83 5 rfl Tryd.underlying83 infoByte rfl (by decide) (by decide) [byteV 32] rfl rfl rfl (by simp [Value.oneCell', byteV]) (by exact hor) hB hB.size (by omega) ?_); intro v' w4 hown' hbe' _ _))
          go_roundw
          case rel => exact ⟨m + 1 + 1, by omega, by go_num, by rw [HS.out, List.map_append, List.length_append]; exact hown', hbe'⟩
          case measure => simp [intOf]; omega
    · have hke : k = b.length := by omega
      rw [hke] at hor
      have hcb := conv_back (P := Tryd.prog) Tryd.underlying83 Tryd.underlying5 Tryd.underlying9 hor
      clear hke hor
      go_wp2
      go_ret
      exact ⟨ret_str HD.out.symm, h2.trans (hB.mono h2.size)⟩
end Go.Proofs.YtnoloihdcmgbaaaDoor
