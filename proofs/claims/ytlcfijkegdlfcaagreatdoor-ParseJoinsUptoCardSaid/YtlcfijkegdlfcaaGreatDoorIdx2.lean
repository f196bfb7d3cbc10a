/- The walks of strings.IndexAny, ContainsAny at ASCII chars, whatever the text. -/
import Derived.Test.YtlcfijkegdlfcaaGreatDoorProg
import Derived.Test.YtlcfijkegdlfcaaGreatDoorBl
import Derived.Test.YtlcfijkegdlfcaaGreatDoorShelf
import Derived.Test.YtlcfijkegdlfcaaGreatDoorKit2
import Derived.Lib.OthersKept
import Derived.Lib.DecodeN
import Derived.Laws.Runes
import Derived.Laws.RangeAny
import Derived.WalkSmall
import Derived.WalkMore
import Derived.PlainAid
import Derived.WalkSpells
import Derived.Deep.DeepBigQuietO
/- The walks of strings.IndexRune at a rune from 128 on, IndexAny, ContainsAny, at whatever text. -/
namespace Go.Proofs.YtlcfijkegdlfcaaGreatDoor
open Go.RowKit Go.PlainAid
set_option linter.all false
set_option linter.deprecated false
set_option maxRecDepth 100000
theorem getE (s : ByteArray) (i : Nat) (h : i < s.size) : (bl s)[i]? = some (s[i]'h) := by
  unfold bl
  rw [List.getElem?_eq_getElem (by rw [Array.length_toList]; exact h)]
  rfl
theorem get!E (s : ByteArray) (i : Nat) (h : i < s.size) : (bl s)[i]? = some (s.get! i) := by
  rw [getE s i h]
  congr 1
  show s[i] = s.data[i]!
  rw [getElem!_pos s.data i h]; rfl
theorem bt_in (s : ByteArray) (i : Nat) (h : i < s.size) : bt s i = ((s[i]'h).toNat : Int) := (get_bt s i h).symm
theorem width_pos (s : ByteArray) (pos : Nat) (h : pos < s.size) : 1 ≤ (Utf8.decode s pos).2 := by
  by_cases ha : (s[pos]'h).toNat < 128
  · rw [decode_ascii s pos h ha]; exact Nat.le_refl _
  · exact (decode_high s pos h (by omega)).2
/-- The bytes of a rune that isn't ASCII are none. -/
theorem wide_high (s : ByteArray) (i : Nat) (h : i < s.size) (hb : 128 ≤ (s.get! i).toNat) : ∀ d, d < (Utf8.decode s i).2 → i + d < s.size ∧ 128 ≤ (s.get! (i + d)).toNat := by
  rw [Lib.decode_at]
  unfold Lib.decodeN
  intro d hd
  rw [if_neg (by omega)] at hd
  have key : d = 0 ∨ d = 1 ∨ d = 2 ∨ d = 3 := by
    repeat' split at hd
    all_goals (simp only at hd; omega)
  rcases key with rfl | rfl | rfl | rfl
  · exact ⟨h, hb⟩
  all_goals
    repeat' split at hd
    all_goals (first | (simp only at hd; omega) | (exfalso; simp only at hd; omega))
theorem indexByte_not (c : UInt8) : ∀ l : List UInt8, c ∉ l → Lib.indexByte l c = -1
  | [], _ => rfl
  | x :: l, h => by
    have h1 : (x == c) = false := by simp at h ⊢; exact fun e => h.1 e.symm
    have h2 := indexByte_not c l (fun hm => h (List.mem_cons_of_mem _ hm))
    simp [Lib.indexByte, h1, h2]
theorem idx_none (t : ByteArray) (z : Int) (w : World) (c : UInt8) (hz : z = (c.toNat : Int)) (h : c ∉ bl t) :
    Calls Tryz.prog 99 #[.string t, .int .u8 z] w fun e w' => e = .returned (.int .i64 (-1)) ∧ ∃ q, w' = w.drewN q := by
  subst hz
  refine (Tryz.strings_IndexByte t (c.toNat : Int) w).mono ?_
  rintro e w' ⟨rfl, rfl⟩
  refine ⟨?_, 0, rfl⟩
  have e : ((c.toNat : Int)).toNat.toUInt8 = c := by simp
  rw [e]
  exact ret_int (indexByte_not c _ h)
set_option maxHeartbeats 4000000 in
theorem IndexRune_far (t : ByteArray) (r : Int) (w : World) (h0 : 128 ≤ r) (h1 : r ≤ 2147483647) (ht : ∀ b ∈ bl t, b.toNat < 128) (hs : t.size ≤ 1099511627776) :
    Calls Tryz.prog 68 #[.string t, .int .i32 r] w fun e w' => e = .returned (.int .i64 (-1)) ∧ Below w.heap.size w w' := by
  have n1 : ¬ r < 128 := by omega
  have HT := Lib.hid ht
  clear ht
  by_cases he : r = 65533
  · subst he
    go_enter Tryz.func68, Tryz.ntmps68
    go_wp2_with fail
    go_loopw [5] (fun _ wr => ∃ pos, wr.heap[w.heap.size]? = some (.stringIter t pos) ∧ Below w.heap.size w wr) (fun _ wr => t.size - wr.iterPos w.heap.size)
    case atStart => exact ⟨0, by have := World.iter_heap w t 0; simpa using this, (Below.refl _ w).alloc (Nat.le_refl _) _⟩
    case round =>
      obtain ⟨pos, hit, hbw⟩ := hrel
      by_cases hp : pos < t.size
      · have ha : (t[pos]'hp).toNat < 128 := HT.out _ (List.mem_of_getElem? (getE t pos hp))
        have hnx : ∀ ty, (Instr.next (.pointer (some ⟨w.heap.size, 0, none⟩)) true ty).run Tryz.prog wr = _ := fun ty => Lib.run_next_ascii_at wr w.heap.size t pos ty hit hp ha
        have hit2 := Lib.iterAt_heap wr w.heap.size t pos (pos + 1) hit
        have hbw2 := Lib.below_iterAt hbw (k := w.heap.size) (Nat.le_refl _) t (pos + 1)
        have hne : (((t[pos]'hp).toNat : Int) == 65533) = false := beq_eq_false_iff_ne.2 (by omega)
        generalize (t[pos]'hp).toNat = x at *
        go_wp2_with fail
        go_roundw
        case rel => exact ⟨pos + 1, hit2, hbw2⟩
        case measure =>
          simp only [World.iterPos, hit2, hit]
          omega
      · have hnx : ∀ ty, (Instr.next (.pointer (some ⟨w.heap.size, 0, none⟩)) true ty).run Tryz.prog wr = _ := fun ty => Lib.run_next_end_at wr w.heap.size t pos ty hit hp
        go_wp2_with fail
        go_ret
        exact ⟨rfl, hbw⟩
  · have hne : (r == 65533) = false := beq_eq_false_iff_ne.2 he
    have HV := Lib.hid (Tryz.utf8_ValidRune r w)
    cases hv : Lib.validRune r with
    | false =>
      rw [hv] at HV
      clear HT
      go_enter Tryz.func68, Tryz.ntmps68
      go_wp2_with fail
      refine HV.out.mono ?_
      rintro e w1 ⟨rfl, rfl⟩
      go_wp2_with fail
      go_ret
      exact ⟨rfl, Below.refl _ _⟩
    | true =>
      have hvu : Utf8.valid r = true := by
        rw [validRune_eq]
        unfold validRune
        unfold Lib.validRune at hv
        simpa using hv
      rw [hv] at HV
      obtain ⟨e1, e2, e3⟩ := encode_facts r hvu h0
      have hget := get_bt (Utf8.encode r)
      have hgt := get_bt t
      have hlast := e3 (by omega)
      have hbl : bt (Utf8.encode r) ((Utf8.encode r).size - 1) = (((Utf8.encode r)[(Utf8.encode r).size - 1]'(by omega)).toNat : Int) := by rw [← hget]
      obtain ⟨c, hc⟩ : ∃ c, (Utf8.encode r)[(Utf8.encode r).size - 1]'(by omega) = c := ⟨_, rfl⟩
      rw [hc] at hlast hbl
      have hcv : IntKind.i64.wrap (((Utf8.encode r).size : Int) - 1) = (((Utf8.encode r).size - 1 : Nat) : Int) := by rw [IntWalk.i64_in _ (by omega)]; omega
      obtain ⟨E, hE⟩ : ∃ E, Utf8.encode r = E := ⟨_, rfl⟩
      obtain ⟨m, hm⟩ : ∃ m, E.size - 1 = m := ⟨_, rfl⟩
      rw [hE] at hget hbl hcv e1 e2
      rw [hm] at hbl hcv
      have hmE : m + 1 = E.size := by omega
      have hconv : ∀ W, (convert 21 9 (.int .i32 r)).run Tryz.prog W = .ok (.string E) W := fun W => by
        rw [run_convert_int_string W 21 9 .i32 r (by kernel_rfl) Tryz.underlying9, hE]
      by_cases hlt : m < t.size
      · have hbt : bt t m < 128 := by
          rw [bt_in t m hlt]
          have := HT.out _ (List.mem_of_getElem? (getE t m hlt))
          omega
        have hmis : (bt t m == bt E m) = false := beq_eq_false_iff_ne.2 (by rw [hbl]; omega)
        go_enter Tryz.func68, Tryz.ntmps68
        go_wp2_with fail
        refine HV.out.mono ?_
        rintro e w1 ⟨rfl, rfl⟩
        go_wp2_with fail
        go_step3
        go_wp2_with fail
        go_loopw [9] (fun v wr => v = .int .i64 m ∧ wr = w1) (fun _ _ => 0)
        case atStart => exact ⟨by first | rfl | trivial, by first | rfl | trivial⟩
        case round =>
          obtain ⟨rfl, rfl⟩ := hrel
          have q1 : (m : Int) < t.size := by omega
          have q2 : (m : Int) < E.size := by omega
          have p2 : m < E.size := by omega
          have hmis2 : (bt t m != bt E m) = true := by rw [bne, hmis]; rfl
          have q3 : IntKind.i64.wrap ((m : Int) + 1) = (m : Int) + 1 := IntWalk.i64_in _ (by omega)
          have q4 : ((m : Int) + 1).toNat = m + 1 := by omega
          have q5 : (0 : Int) ≤ (m : Int) + 1 := by omega
          have q6 : (m : Int) + 1 ≤ t.size := by omega
          clear hmis hbt hE hconv
          go_wp2
          go_step3
          go_wp2
          go_quiet (fail)
          have hbd := below_drewN (Below.refl wr.heap.size wr) nq
          generalize wr.drewN nq = wd at *
          have HI := Lib.hid (fun q => idx_none (t.extract E.size t.size) (c.toNat : Int) (wd.drewN q) c rfl (fun h => by have := HT.out _ (mem_extract h); omega))
          go_wp2
          go_quiet (first | (go_at_call 99; go_must (exact Calls.quiet_of (HI.out _))))
          go_wp2_with fail
          rw [Exit.noGoto_ret]
          go_wp2
          (try rw [Exit.noGoto_ret])
          go_ret
          exact ⟨rfl, below_drewN hbd _⟩
      · go_enter Tryz.func68, Tryz.ntmps68
        go_wp2_with fail
        refine HV.out.mono ?_
        rintro e w1 ⟨rfl, rfl⟩
        go_wp2_with fail
        go_step3
        go_wp2_with fail
        go_loopw [9] (fun v wr => v = .int .i64 m ∧ wr = w1) (fun _ _ => 0)
        case atStart => exact ⟨by first | rfl | trivial, by first | rfl | trivial⟩
        case round =>
          obtain ⟨rfl, rfl⟩ := hrel
          go_wp2_with fail
          rw [Exit.noGoto_ret]
          go_ret
          exact ⟨rfl, Below.refl _ _⟩
end Go.Proofs.YtlcfijkegdlfcaaGreatDoor
namespace Go.Proofs.YtlcfijkegdlfcaaGreatDoor
open Go.RowKit Go.PlainAid
set_option linter.all false
set_option linter.deprecated false
set_option maxRecDepth 100000
theorem NoAny.wide {s : ByteArray} {chars : List UInt8} {i : Nat} (h : Lib.NoAny (bl s) chars i) (hi : i < s.size) (hb : 128 ≤ (s.get! i).toNat) (hc : ∀ b ∈ chars, b.toNat < 128) : Lib.NoAny (bl s) chars (i + (Utf8.decode s i).2) := by
  intro j x hj hx
  by_cases h1 : j < i
  · exact h j x h1 hx
  · obtain ⟨d, rfl⟩ : ∃ d, j = i + d := ⟨j - i, by omega⟩
    obtain ⟨h2, h3⟩ := wide_high s i hi hb d (by omega)
    rw [get!E s (i + d) h2] at hx
    injection hx with hx
    rw [← hx]
    cases hcon : chars.contains (s.get! (i + d)) with
    | false => rfl
    | true =>
      have := hc _ (List.contains_iff_mem.1 hcon)
      omega
theorem chars_asc {c : ByteArray} (h : ∀ b ∈ bl c, b.toNat < 128) : ∀ (j : Nat) b, c.data.toList[j]? = some b → b.toNat < 128 := fun j b hb => h b (List.mem_of_getElem? hb)
set_option maxHeartbeats 4000000 in
theorem IndexAny_short (s chars : ByteArray) (w : World) (h2 : 2 ≤ chars.size) (h2' : chars.size ≤ 1000) (h8 : s.size ≤ 8) (hc : ∀ b ∈ bl chars, b.toNat < 128) :
    Calls Tryz.prog 45 #[.string s, .string chars] w fun e w' => e = .returned (.int .i64 (Lib.indexAny (bl s) (bl chars))) ∧ Below w.heap.size w w' := by
  have HC := Lib.hid hc
  clear hc
  have hemp : chars.toList.isEmpty = false := by
    rw [Lib.toList_data]
    cases h : chars.data.toList with
    | nil => have := Lib.size_eq chars; rw [h, List.length_nil] at this; omega
    | cons _ _ => rfl
  have hn1 : ((chars.size : Int) == 1) = false := beq_eq_false_iff_ne.2 (by omega)
  have h8z : decide ((8 : Int) < (s.size : Int)) = false := decide_eq_false (by omega)
  have HU := Lib.hid (Tryz.strings_shouldUseASCIISet (s.size : Int) w)
  rw [h8z] at HU
  go_enter Tryz.func45, Tryz.ntmps45
  go_wp2_with fail
  refine HU.out.mono ?_
  rintro e w1 ⟨rfl, rfl⟩
  clear HU
  go_wp2_with fail
  go_loopw [9] (fun _ wr => ∃ pos, wr.heap[w1.heap.size]? = some (.stringIter s pos) ∧ Lib.NoAny (bl s) (bl chars) pos ∧ Below w1.heap.size w1 wr) (fun _ wr => s.size - wr.iterPos w1.heap.size)
  case atStart => exact ⟨0, by have := World.iter_heap w1 s 0; simpa using this, Lib.NoAny.zero _ _, (Below.refl _ w1).alloc (Nat.le_refl _) _⟩
  case round =>
    obtain ⟨pos, hit, hno, hbw⟩ := hrel
    have HN := Lib.hid hno
    clear hno
    by_cases hp : pos < s.size
    · have hw1 := width_pos s pos hp
      have hit2 := Lib.iterAt_heap wr w1.heap.size s pos (pos + (Utf8.decode s pos).2) hit
      have hbw2 := Lib.below_iterAt hbw (k := w1.heap.size) (Nat.le_refl _) s (pos + (Utf8.decode s pos).2)
      have hszr : w1.heap.size < (wr.iterAt w1.heap.size s (pos + (Utf8.decode s pos).2)).heap.size := (Array.getElem?_eq_some_iff.1 hit2).1
      have hnx : ∀ ty, (Instr.next (.pointer (some ⟨w1.heap.size, 0, none⟩)) true ty).run Tryz.prog wr = _ := fun ty => Lib.run_next_any_at wr w1.heap.size s pos ty hit hp
      have hip : wr.iterPos w1.heap.size = pos := iterPos_of hit
      by_cases ha : (s[pos]'hp).toNat < 128
      · have hd := decode_ascii s pos hp ha
        rw [hd] at hnx hit2 hbw2 hszr
        have hx := getE s pos hp
        obtain ⟨x, hxe⟩ : ∃ x, s[pos]'hp = x := ⟨_, rfl⟩
        rw [hxe] at hnx ha hx
        have hback : ((x.toNat : Int)).toNat.toUInt8 = x := by simp
        have HR := Lib.hid (fun W => Tryz.strings_IndexRune_ascii chars (x.toNat : Int) W (by omega) (by omega))
        rw [hback] at HR
        have hcon := Lib.contains_iff_indexByte (bl chars) x
        have HX := Lib.hid hx
        have HH := Lib.hid hit2
        clear hx hd hxe hw1 hit2
        cases hin : (bl chars).contains x with
        | false =>
          rw [hin] at hcon
          have hlt : ¬ (0 : Int) ≤ Lib.indexByte chars.data.toList x := of_decide_eq_false hcon.symm
          have HIN := Lib.hid hin
          clear hcon hin
          generalize Lib.indexByte chars.data.toList x = R at *
          generalize wr.iterAt w1.heap.size s (pos + 1) = wi at *
          go_wp2_with fail
          refine (HR.out _).mono ?_
          rintro e w2 ⟨rfl, rfl⟩
          go_wp2_with fail
          go_roundw
          case rel => exact ⟨pos + 1, HH.out, HN.out.succ HX.out HIN.out, hbw2⟩
          case measure =>
            rw [iterPos_of HH.out, hip]; omega
        | true =>
          rw [hin] at hcon
          have hlt : (0 : Int) ≤ Lib.indexByte chars.data.toList x := of_decide_eq_true hcon.symm
          have HIN := Lib.hid hin
          clear hcon hin
          generalize Lib.indexByte chars.data.toList x = R at *
          generalize wr.iterAt w1.heap.size s (pos + 1) = wi at *
          go_wp2_with fail
          refine (HR.out _).mono ?_
          rintro e w2 ⟨rfl, rfl⟩
          go_wp2_with fail
          go_ret
          exact ⟨ret_int (Lib.indexAny_hit HN.out HX.out HIN.out).symm, hbw2⟩
      · have hg : (s.get! pos).toNat = (s[pos]'hp).toNat := by
          have h1 := getE s pos hp
          rw [get!E s pos hp] at h1
          injection h1 with h1; rw [h1]
        have hnw := NoAny.wide HN.out hp (by omega) HC.out
        have hd := decode_high s pos hp (by omega)
        have hdl := decode_le s pos
        have HNW := Lib.hid hnw
        have HH := Lib.hid hit2
        clear hit2 hnw hg
        have HR := Lib.hid (fun W => IndexRune_far chars ((Utf8.decode s pos).1 : Int) W (by omega) (by omega) HC.out (by omega))
        generalize Utf8.decode s pos = RK at *
        obtain ⟨R, K⟩ := RK
        dsimp only at hnx hbw2 hszr HH HNW HR hw1 ⊢
        have HD := Lib.hid hd
        clear hd hdl
        generalize wr.iterAt w1.heap.size s (pos + K) = wi at *
        go_wp2_with fail
        refine (HR.out _).mono ?_
        rintro e w2 ⟨rfl, hb2⟩
        go_wp2_with fail
        go_roundw
        case rel => exact ⟨pos + K, (hb2.block _ hszr).trans HH.out, HNW.out, below_to hbw2 hbw2.size hb2⟩
        case measure =>
          rw [iterPos_of ((hb2.block _ hszr).trans HH.out), hip]; omega
    · have hnx : ∀ ty, (Instr.next (.pointer (some ⟨w1.heap.size, 0, none⟩)) true ty).run Tryz.prog wr = _ := fun ty => Lib.run_next_end_at wr w1.heap.size s pos ty hit hp
      go_wp2_with fail
      go_ret
      refine ⟨ret_int (Lib.indexAny_none ?_).symm, hbw⟩
      intro j b hj hb
      exact HN.out j b (by rw [bl_len] at hj; omega) hb
theorem IndexAny_calls (s chars : ByteArray) (w : World) (h2 : 2 ≤ chars.size) (h2' : chars.size ≤ 1000) (hs : s.size < 4294967281) (hc : ∀ b ∈ bl chars, b.toNat < 128) :
    Calls Tryz.prog 45 #[.string s, .string chars] w fun e w' => e = .returned (.int .i64 (Lib.indexAny (bl s) (bl chars))) ∧ Below w.heap.size w w' := by
  by_cases h8 : s.size ≤ 8
  · exact IndexAny_short s chars w h2 h2' h8 hc
  · refine (Tryz.strings_IndexAny_long (fun w => by kernel_rfl) s chars w h2 (by omega) hs (by omega) (chars_asc hc)).mono fun e w' ⟨h1, h2⟩ => ⟨h1, ?_⟩
    rw [h2]
    exact ((Below.refl _ _).alloc (Nat.le_refl _) _).alloc (by simp) _
/-- Is any of these bytes there? -/
theorem indexAny_any (chars : List UInt8) : ∀ s : List UInt8, decide (0 ≤ Lib.indexAny s chars) = s.any (chars.contains ·)
  | [] => rfl
  | b :: l => by
    have ih := indexAny_any chars l
    have hge := Lib.indexAny_ge chars l
    have hdef : Lib.indexAny (b :: l) chars = if chars.contains b then 0 else if Lib.indexAny l chars == -1 then -1 else Lib.indexAny l chars + 1 := rfl
    rw [List.any_cons, ← ih, hdef]
    generalize Lib.indexAny l chars = R at *
    cases h : chars.contains b
    · by_cases hl : R = -1
      · subst hl; simp
      · have e : (R == -1) = false := beq_eq_false_iff_ne.2 hl
        rw [e]
        have h1 : (0 : Int) ≤ R := by omega
        have h2 : (0 : Int) ≤ R + 1 := by omega
        simp [h1, h2]
    · simp
set_option maxHeartbeats 1000000 in
theorem ContainsAny_calls (s chars : ByteArray) (w : World) (h2 : 2 ≤ chars.size) (h2' : chars.size ≤ 1000) (hs : s.size < 4294967281) (hc : ∀ b ∈ bl chars, b.toNat < 128) :
    Calls Tryz.prog 141 #[.string s, .string chars] w fun e w' => e = .returned (.bool ((bl s).any ((bl chars).contains ·))) ∧ Below w.heap.size w w' := by
  have HI := Lib.hid (IndexAny_calls s chars w h2 h2' hs hc)
  have he := indexAny_any (bl chars) (bl s)
  rw [← he]
  clear he hc
  generalize Lib.indexAny (bl s) (bl chars) = R at *
  go_enter Tryz.func141, Tryz.ntmps141
  go_wp2_with fail
  refine HI.out.mono ?_
  rintro e w1 ⟨rfl, hb⟩
  go_wp2_with fail
  all_goals (go_ret; exact ⟨ret_bool (by first | rfl | (simp_all; done)), hb⟩)
end Go.Proofs.YtlcfijkegdlfcaaGreatDoor
