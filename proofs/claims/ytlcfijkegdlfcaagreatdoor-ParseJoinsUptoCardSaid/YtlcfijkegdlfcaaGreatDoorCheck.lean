/- The walks of utf.Check, tree.line, tree.Label. -/
import Derived.Test.YtlcfijkegdlfcaaGreatDoorValid
import Derived.Test.YtlcfijkegdlfcaaGreatDoorIdx2
import Derived.Test.YtlcfijkegdlfcaaGreatDoorLineW
import Derived.Test.YtlcfijkegdlfcaaGreatDoorBytes
namespace Go.Proofs.YtlcfijkegdlfcaaGreatDoor
open Go.RowKit Go.PlainAid
set_option linter.all false
set_option linter.deprecated false
set_option maxRecDepth 100000
/-- The library's tables lie as they were laid, whatever is done from block B on. -/
def TextB (B : Nat) (w : World) : Prop := ∀ W, Below B w W → Lib.Utf8Tabs 0 1 W ∧ ∃ m, W.cell? ⟨2, 0, none⟩ = some (.int .i64 m)
theorem TextB.step {B : Nat} {w w1 : World} (h : TextB B w) (hb : Below B w w1) : TextB B w1 := fun W hW => h W (hb.trans hW)
theorem TextB.up {w w1 : World} (h : TextB w.heap.size w) (hb : Below w.heap.size w w1) : TextB w1.heap.size w1 := fun W hW => h W (below_to hb hb.size hW)
theorem zero_in (l : List UInt8) : decide (0 ≤ Lib.indexByte l 0) = decide ((0 : UInt8) ∈ l) := by
  rw [← Lib.contains_iff_indexByte]
  cases h : l.contains 0
  · exact (decide_eq_false (fun hm => by rw [List.contains_iff_mem.2 hm] at h; cases h)).symm
  · exact (decide_eq_true (List.contains_iff_mem.1 h)).symm
set_option maxHeartbeats 4000000 in
theorem Check_calls (b o n c : Nat) (l : List UInt8) (w : World) (hl : l.length = n) (hn : n ≤ 1099511627776) (hcap : n ≤ c) (hb : b < w.heap.size) (hc : BytesAt w b o l) (hT : TextB w.heap.size w) :
    Calls Tryz.prog 26 #[.slice (some ⟨b, o, none⟩) n c] w fun e w' => e = .returned (.int .i64 (checkL l : Nat)) ∧ Below w.heap.size w w' := by
  have hI := Tryz.bytes_IndexByte b o n c (l.map fun x => (x.toNat : Int)) 0 w (by rw [List.length_map]; exact hl) (fun i hi => by
    rw [hc i (by omega)]
    simp [List.getD_eq_getElem?_getD, List.getElem?_map, hl ▸ hi])
  have hbo : Lib.bytesOf (l.map fun x => (x.toNat : Int)) = l := by
    unfold Lib.bytesOf
    rw [List.map_map]
    conv => rhs; rw [← List.map_id l]
    exact List.map_congr_left (fun x _ => by simp)
  rw [hbo] at hI
  have hz : ((0 : Int)).toNat.toUInt8 = 0 := rfl
  rw [hz] at hI
  have hzi := zero_in l
  have hV := Valid_calls (some ⟨b, o, none⟩) b o n c l w hl hn hcap (fun _ => ⟨rfl, hb, hc⟩) (fun W hW => (hT W hW).1)
  have hdef : checkL l = if 1048576 < n then 4 else if (0 : UInt8) ∈ l then 3 else if Lib.validD l = true then 0 else 2 := by unfold checkL; rw [hl]
  generalize Lib.indexByte l 0 = Z at *
  generalize Lib.validD l = V at *
  generalize checkL l = R at *
  have HI := Lib.hid hI
  have HV := Lib.hid hV
  have HD := Lib.hid hdef
  clear hI hV hdef hc hT hbo
  by_cases h1 : 1048576 < n
  · have h1z : (1048576 : Int) < n := by omega
    have h2 := HD.out
    rw [if_pos h1] at h2
    subst h2
    go_enter Tryz.func26, Tryz.ntmps26
    go_wp2_with fail
    go_ret
    exact ⟨rfl, Below.refl _ _⟩
  · have h1z : ¬ (1048576 : Int) < n := by omega
    have h2 := HD.out
    rw [if_neg h1] at h2
    by_cases hz0 : (0 : UInt8) ∈ l
    · rw [if_pos hz0] at h2
      have hZ : (0 : Int) ≤ Z := of_decide_eq_true (hzi.trans (decide_eq_true hz0))
      subst h2
      clear hzi hz0
      go_enter Tryz.func26, Tryz.ntmps26
      go_wp2_with fail
      refine HI.out.mono ?_
      rintro e w1 ⟨rfl, rfl⟩
      go_wp2_with fail
      go_ret
      exact ⟨rfl, Below.refl _ _⟩
    · rw [if_neg hz0] at h2
      have hZ : ¬ (0 : Int) ≤ Z := of_decide_eq_false (hzi.trans (decide_eq_false hz0))
      clear hzi hz0
      have H2 := Lib.hid h2
      clear h2
      cases V with
      | true =>
        have h3 : R = 0 := H2.out.trans (if_pos rfl)
        subst h3
        go_enter Tryz.func26, Tryz.ntmps26
        go_wp2_with fail
        refine HI.out.mono ?_
        rintro e w1 ⟨rfl, rfl⟩
        go_wp2_with fail
        refine HV.out.mono ?_
        rintro e w2 ⟨rfl, hb2⟩
        go_wp2_with fail
        go_ret
        exact ⟨rfl, hb2⟩
      | false =>
        have h3 : R = 2 := H2.out.trans (if_neg Bool.false_ne_true)
        subst h3
        go_enter Tryz.func26, Tryz.ntmps26
        go_wp2_with fail
        refine HI.out.mono ?_
        rintro e w1 ⟨rfl, rfl⟩
        go_wp2_with fail
        refine HV.out.mono ?_
        rintro e w2 ⟨rfl, hb2⟩
        go_wp2_with fail
        go_ret
        exact ⟨rfl, hb2⟩
theorem bytesW_at (w : World) (s : ByteArray) : BytesAt (bytesW w 5 s) w.heap.size 0 (bl s) := fun i hi => by
  have h := bytesW_cell w 5 (bl s) hi
  have e : (⟨(bl s).toArray⟩ : ByteArray) = s := ba_bl s
  rw [e] at h
  rw [Nat.zero_add, h]
  simp [byteV, List.getD_eq_getElem?_getD, hi]
set_option maxHeartbeats 4000000 in
theorem line_calls (s : ByteArray) (w : World) (hs : s.size ≤ 4294967280) (hT : TextB w.heap.size w) :
    Calls Tryz.prog 129 #[.string s] w fun e w' => e = .returned (.bool (lineL (bl s))) ∧ Below w.heap.size w w' := by
  have hconv := fun W => conv_str (P := Tryz.prog) Tryz.underlying9 Tryz.underlying47 Tryz.underlying5 s W
  have hbw := bytesW_below w 5 s
  have hsz := bytesW_size w 5 s
  have hC := Check_calls w.heap.size 0 s.size (grownCap w s.size 0 5) (bl s) (bytesW w 5 s) (bl_len s) (by omega) (grownCap_ge _ _ _ _) (by rw [hsz]; omega) (bytesW_at w s) (hT.up hbw)
  have hA := fun W => ContainsAny_calls s ⟨#[13, 10]⟩ W (by decide) (by decide) (by omega) (by decide)
  have hd : lineL (bl s) = (checkL (bl s) == 0 && !(bl s).any (([13, 10] : List UInt8).contains ·)) := rfl
  have hbl : bl ⟨#[13, 10]⟩ = [13, 10] := rfl
  rw [hbl] at hA
  rw [hd]
  generalize (bl s).any (([13, 10] : List UInt8).contains ·) = K at *
  generalize checkL (bl s) = R at *
  have HC := Lib.hid hC
  have HA := Lib.hid hA
  clear hC hA hd hT
  go_enter Tryz.func129, Tryz.ntmps129
  go_wp2_with fail
  generalize bytesW w 5 s = W at *
  refine HC.out.mono ?_
  rintro e w1 ⟨rfl, hb1⟩
  by_cases h0 : R = 0
  · subst h0
    go_wp2_with fail
    refine (HA.out _).mono ?_
    rintro e w2 ⟨rfl, hb2⟩
    go_wp2_with fail
    go_ret
    exact ⟨ret_bool (by cases K <;> rfl), below_to (below_to hbw hbw.size hb1) (below_to hbw hbw.size hb1).size hb2⟩
  · have h1 : ((R : Int) == 0) = false := beq_eq_false_iff_ne.2 (by omega)
    have h2 : (R == 0) = false := beq_eq_false_iff_ne.2 h0
    go_wp2_with fail
    go_ret
    exact ⟨ret_bool (by rw [h2]; rfl), below_to hbw hbw.size hb1⟩
theorem lineL_size {s : Ln} (h : lineL s = true) : s.length ≤ 1048576 := by
  unfold lineL checkL at h
  by_cases h1 : 1048576 < s.length
  · rw [if_pos h1] at h; simp at h
  · omega
set_option maxHeartbeats 4000000 in
theorem Label_calls (s : ByteArray) (w : World) (hs : s.size ≤ 4294967280) (hT : TextB w.heap.size w) :
    Calls Tryz.prog 112 #[.string s] w fun e w' => e = .returned (.bool (labelL (bl s))) ∧ Below w.heap.size w w' := by
  have hL := line_calls s w hs hT
  have hTr := fun W => LTrim_calls s W (by omega)
  have hA := fun W => ContainsAny_calls s ⟨#[91, 93, 92]⟩ W (by decide) (by decide) (by omega) (by decide)
  have hbl : bl ⟨#[91, 93, 92]⟩ = [91, 93, 92] := rfl
  rw [hbl] at hA
  have hd : labelL (bl s) = (!(bl s).isEmpty && lineL (bl s) && trimL (bl s) == bl s && !(bl s).any (([91, 93, 92] : List UInt8).contains ·)) := rfl
  have he := empty_d s
  have he2 : (s = ByteArray.empty) ↔ (bl s).isEmpty = true := by
    rw [List.isEmpty_iff]
    exact ⟨fun h => by rw [h]; rfl, fun h => bl_inj (h.trans (by rfl))⟩
  have heq := beq_d (ba (trimL (bl s))) s
  have he3 : (ba (trimL (bl s)) = s) ↔ (trimL (bl s) == bl s) = true := by
    rw [beq_iff_eq]
    exact ⟨fun h => by rw [← bl_ba (trimL (bl s)), h], fun h => by rw [h, ba_bl]⟩
  generalize (bl s).any (([91, 93, 92] : List UInt8).contains ·) = K at *
  generalize lineL (bl s) = R at *
  generalize ba (trimL (bl s)) = T at *
  generalize (trimL (bl s) == bl s) = E at *
  generalize (bl s).isEmpty = M at *
  generalize labelL (bl s) = X at *
  have HL := Lib.hid hL
  have HA := Lib.hid hA
  have HTr := Lib.hid hTr
  have HD := Lib.hid hd
  clear hL hA hTr hd hbl hT
  cases M with
  | true =>
    have he4 : s.toList.isEmpty = true := he.trans (decide_eq_true (he2.2 rfl))
    clear he heq
    go_enter Tryz.func112, Tryz.ntmps112
    go_wp2_with fail
    go_ret
    exact ⟨ret_bool (by rw [HD.out]; rfl), Below.refl _ _⟩
  | false =>
    have he4 : s.toList.isEmpty = false := he.trans (decide_eq_false (fun h => by have := he2.1 h; cases this))
    clear he he2
    cases R with
    | false =>
      clear heq
      go_enter Tryz.func112, Tryz.ntmps112
      go_wp2_with fail
      refine HL.out.mono ?_
      rintro e w1 ⟨rfl, hb1⟩
      go_wp2_with fail
      go_ret
      exact ⟨ret_bool (by rw [HD.out]; rfl), hb1⟩
    | true =>
      cases E with
      | false =>
        have heq2 : (T.toList == s.toList) = false := heq.trans (decide_eq_false (fun h => by have := he3.1 h; cases this))
        clear heq he3
        go_enter Tryz.func112, Tryz.ntmps112
        go_wp2_with fail
        refine HL.out.mono ?_
        rintro e w1 ⟨rfl, hb1⟩
        go_wp2_with fail
        refine (HTr.out _).mono ?_
        rintro e w2 ⟨rfl, hb2⟩
        go_wp2_with fail
        go_ret
        exact ⟨ret_bool (by rw [HD.out]; rfl), below_to hb1 hb1.size hb2⟩
      | true =>
        have heq2 : (T.toList == s.toList) = true := heq.trans (decide_eq_true (he3.2 rfl))
        clear heq he3
        go_enter Tryz.func112, Tryz.ntmps112
        go_wp2_with fail
        refine HL.out.mono ?_
        rintro e w1 ⟨rfl, hb1⟩
        go_wp2_with fail
        refine (HTr.out _).mono ?_
        rintro e w2 ⟨rfl, hb2⟩
        go_wp2_with fail
        refine (HA.out _).mono ?_
        rintro e w3 ⟨rfl, hb3⟩
        go_wp2_with fail
        go_ret
        exact ⟨ret_bool (by rw [HD.out]; cases K <;> rfl), below_to (below_to hb1 hb1.size hb2) (below_to hb1 hb1.size hb2).size hb3⟩
end Go.Proofs.YtlcfijkegdlfcaaGreatDoor
