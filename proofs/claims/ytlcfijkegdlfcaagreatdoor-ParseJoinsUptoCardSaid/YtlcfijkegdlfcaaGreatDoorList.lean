/- The walk of the reader's list. -/
import Derived.Test.YtlcfijkegdlfcaaGreatDoorBlk
import Derived.Deep.RegionHeld3
import Derived.Deep.DeepCutAuto
/- The walk of the reader's para. -/
namespace Go.Proofs.YtlcfijkegdlfcaaGreatDoor
open Go.RowKit Go.PlainAid
set_option linter.all false
set_option linter.deprecated false
set_option maxRecDepth 100000
set_option maxHeartbeats 8000000 in
theorem para_calls (b B n c k d : Nat) (A : Option Addr) (ls : List ByteArray) (w : World) (h : Rds w b B A n c ls k d) :
    Calls Tryz.prog 76 #[.pointer (some ⟨b, 0, none⟩)] w (BlkTo w b B A n c ls d (paraB (((ls.map bl).drop k).takeWhile fun x => kindL x == 8)) (((ls.map bl).drop k).dropWhile fun x => kindL x == 8)) := by
  have H := Lib.hid h
  have hrunk := fun i hi => run_kind h (z := 8) (i := i) (by decide) hi
  have hbA := (Below.refl w.heap.size w).alloc (Nat.le_refl _) (.cells #[.int .i64 0, .int .i64 0, .string ⟨#[]⟩, .slice none 0 0, .slice none 0 0, .slice none 0 0] 36)
  have hzA := heap_alloc_new w (.cells #[.int .i64 0, .int .i64 0, .string ⟨#[]⟩, .slice none 0 0, .slice none 0 0, .slice none 0 0] 36)
  have hsA := World.size_alloc w (.cells #[.int .i64 0, .int .i64 0, .string ⟨#[]⟩, .slice none 0 0, .slice none 0 0, .slice none 0 0] 36)
  go_enter Tryz.func76, Tryz.ntmps76
  go_wp2_with fail
  generalize w.alloc (.cells #[.int .i64 0, .int .i64 0, .string ⟨#[]⟩, .slice none 0 0, .slice none 0 0, .slice none 0 0] 36) = W0 at *
  have hRU := run_calls b B n c k d 8 A ls W0 (h.below hbA) (by decide)
  have hle := runK_le 8 ((ls.map bl).drop k)
  rw [List.length_drop, List.length_map, h.len] at hle
  have hk := h.hk
  have hnm := h.hn
  have htot := h.tot
  obtain ⟨R, hR⟩ : ∃ R, runK 8 ((ls.map bl).drop k) = R := ⟨_, rfl⟩
  have HRR := Lib.hid hR
  rw [hR] at hRU hrunk hle
  have HRU := Lib.hid hRU
  have HRK := Lib.hid hrunk
  clear hRU hrunk hR h
  refine HRU.out.mono ?_
  rintro e w1 ⟨A1, c1, rfl, hv1, hr1, hg1⟩
  have hz1 := (hg1.block w.heap.size (by omega) (fun e => by injection e with e; have := H.out.lt; omega)).trans hzA
  have hs1 : w.heap.size + 1 ≤ w1.heap.size := by have := hg1.size; omega
  have hgw := mv_trans (mv_below hbA b) hg1
  have HW := Lib.hid (And.intro hr1 (And.intro hz1 (And.intro hgw hs1)))
  have hlen1 := (rd_strs hv1).1
  have HV := Lib.hid hv1
  clear hr1 hz1 hg1 hgw hv1 hzA hsA hbA HRU W0
  go_wp2_with fail
  go_loopw [9, 3] (fun vi vr wr => ∃ i m cr : Nat, ∃ Ar, vi = .int .i64 i ∧ vr = .slice Ar m cr ∧ m = i ∧ i ≤ R ∧ wr.ownsRow w1.heap.size 9 1 (.slice Ar m cr) i ((((ls.drop k).take R).take i).map fun s => Value.string (ba (trimL (bl s)))) ∧ Below w1.heap.size w1 wr) (fun vi _ _ => R - (intOf vi).toNat)
  case atStart => exact ⟨0, 0, 0, none, rfl, rfl, rfl, Nat.zero_le _, World.ownsRow_nil _ _ _ _, Below.refl _ _⟩
  case round =>
    obtain ⟨i, m, cr, Ar, rfl, rfl, hm, hi, hown, hbw⟩ := hrel
    have HM := Lib.hid hm
    have HO := Lib.hid hown
    have HB := Lib.hid hbw
    clear hm hown hbw
    by_cases hlt : i < R
    · have hltz : (i : Int) < R := by omega
      obtain ⟨hkd, hsz⟩ := HRK.out i hlt
      obtain ⟨g, o, rfl, _, hgl, hcells⟩ := Rd.strs HV.out (by omega)
      have hc := hcells i (by omega)
      rw [rows_at hlt] at hc
      have hcw := below_at' HB.out hgl hc
      have hrow : ((ls.drop k).take R).take (i + 1) = ((ls.drop k).take R).take i ++ [lnAt ls (k + i)] := by
        rw [List.take_succ_eq_append_getElem (by omega)]
        congr 2
        rw [← rows_at hlt (ls := ls) (k := k), List.getD_eq_getElem?_getD, List.getElem?_eq_getElem (by omega)]; rfl
      have HROW := Lib.hid hrow
      have HKD := Lib.hid hkd
      have HSZ := Lib.hid hsz
      clear hcells hc hrow hkd hsz
      obtain ⟨S, hS⟩ : ∃ S, lnAt ls (k + i) = S := ⟨_, rfl⟩
      rw [hS] at hcw HROW HKD HSZ
      clear hS
      have HT := Lib.hid (HW.out.1.below HB.out).tab
      have htab : TextB wr.heap.size wr := fun W hW => (HW.out.1.tab) W (below_to HB.out HB.out.size hW)
      have HC := Lib.hid (LTrim_calls S wr (by have := HSZ.out; omega) : Calls Tryz.prog 105 #[.string S] wr fun e w' => e = .returned (.string (ba (trimL (bl S)))) ∧ Below wr.heap.size wr w')
      clear HT htab
      obtain ⟨T, hT⟩ : ∃ T, ba (trimL (bl S)) = T := ⟨_, rfl⟩
      rw [hT] at HC
      have HTT := Lib.hid hT
      clear hT
      go_wp2_with fail
      refine HC.out.mono ?_
      rintro e w2 ⟨rfl, hb2⟩
      have hb2w := below_to HB.out HB.out.size hb2
      have ho2 := own_same HO.out (fun g hg => hb2.block g (HO.out.lt g hg).2)
      have hs2 : w1.heap.size ≤ w2.heap.size := hb2w.size
      have hm := HM.out
      subst hm
      have HO2 := Lib.hid ho2
      have hi16 : (m + 1) * 16 ≤ 140737488355328 := by omega
      clear ho2 hb2 HO HC hcw
      go_wp2_with (at_builtin; go_must (refine app_one (w0 := w2) w1.heap.size rfl _ _ 31 9 rfl Tryz.underlying31 infoStrP rfl (by decide) (by decide) [.string T] rfl rfl rfl (by simp [Value.oneCell']) (by exact HO2.out) (Below.refl _ _) hs2 hi16 ?_); intro v' w7 hown' hbe' hgr hat; obtain ⟨A', c', hv'⟩ := own_slice hown'; subst hv')
      go_roundw
      case rel =>
        refine ⟨m + 1, _, c', A', by go_num, rfl, rfl, hlt, ?_, hb2w.trans hbe'⟩
        rw [HROW.out, List.map_append, ← HTT.out] at *
        exact hown'
      case measure => simp [intOf]; omega
    · obtain rfl : i = R := by omega
      have hltz : ¬ (i : Int) < i := by omega
      have htk : ((ls.drop k).take i).take i = (ls.drop k).take i := by rw [List.take_of_length_le (by rw [List.length_take]; exact Nat.min_le_left _ _)]
      have hm := HM.out
      subst hm
      have ho := HO.out
      rw [htk] at ho
      have HO1 := Lib.hid ho
      clear ho HO
      have hrd : Rd (w1.heap.size ≤ ·) wr (.slice Ar m cr) ((((ls.drop k).take m).map fun s => ba (trimL (bl s))).map D.str) := by
        have ho := HO1.out
        have e : ((ls.drop k).take m).map (fun s => Value.string (ba (trimL (bl s)))) = (((ls.drop k).take m).map fun s => ba (trimL (bl s))).map Value.string := by rw [List.map_map]; rfl
        rw [e] at ho
        exact Rd.own_strs ho (fun q hq => own_ge ho q hq)
      obtain ⟨XS, hXS⟩ : ∃ XS, (((ls.drop k).take m).map fun s => ba (trimL (bl s))) = XS := ⟨_, rfl⟩
      rw [hXS] at hrd
      have hxl : XS.length = m := (rd_strs hrd).1
      have hcap := (rd_strs hrd).2
      have hsum : sumS XS ≤ 4294967280 := by
        rw [← hXS]
        have h1 := sumS_map (f := fun s => ba (trimL (bl s))) (fun s => ba_le trimL_le s) ((ls.drop k).take m)
        have h2 := sumS_take (ls.drop k) m
        have h3 := sumS_drop ls k
        omega
      have hjl := joinL_le XS
      have hJ : Calls Tryz.prog 107 #[.slice Ar m cr, .string ⟨#[10]⟩] wr fun e w' => e = .returned (.string (ba (joinL (XS.map bl)))) ∧ Below wr.heap.size wr w' := by
        rcases Nat.eq_zero_or_pos m with h0 | h0
        · subst h0
          have hx0 : XS = [] := List.eq_nil_of_length_eq_zero hxl
          subst hx0
          exact (Tryz.strings_Join_none _ _ _ _).mono fun e w' ⟨h1, h2⟩ => ⟨h1, by rw [h2]; exact Below.refl _ _⟩
        · obtain ⟨g, o, rfl, _, hgl, hcells⟩ := Rd.strs hrd (by omega)
          have := Tryz.strings_Join g o cr XS ⟨#[10]⟩ wr (fun j x hx => by
            obtain ⟨hj, hx⟩ := List.getElem?_eq_some_iff.1 hx
            have h9 := hcells j hj
            rw [List.getD_eq_getElem?_getD, List.getElem?_eq_getElem hj] at h9
            rw [h9, ← hx]; rfl) hgl (by omega) (by omega) (by
              have e9 : Lib.join (XS.map (·.data.toList)) (⟨#[10]⟩ : ByteArray).data.toList = joinL (XS.map bl) := rfl
              rw [e9]; omega)
          rw [hxl] at this
          exact this
      have hpl : (ba (joinL (XS.map bl))).size ≤ 4294967280 := by rw [ba_size]; omega
      have hP := fun W => IParse_calls (ba (joinL (XS.map bl))) W hpl
      rw [bl_ba] at hP
      have hpb : paraB (((ls.map bl).drop k).takeWhile fun x => kindL x == 8) = .mk 1 0 (ba []) [] (spansL (joinL (XS.map bl))) [] := by
        rw [← runK_take, HRR.out]
        unfold paraB
        rw [← hXS, ← List.map_drop, ← List.map_take, List.map_map, List.map_map]
        congr 3
        try exact List.map_congr_left (fun s _ => by simp [bl_ba])
      have HPB := Lib.hid hpb
      generalize ba (joinL (XS.map bl)) = TX at *
      generalize spansL (joinL (XS.map bl)) = SP at *
      have HJ := Lib.hid hJ
      have HP := Lib.hid hP
      clear hJ hP hpb hsum hjl hpl hrd hXS hxl hcap
      go_wp2_with fail
      refine HJ.out.mono ?_
      rintro e w2 ⟨rfl, hb2⟩
      have hb2w := below_to HB.out HB.out.size hb2
      clear HJ hb2
      go_wp2_with fail
      refine (HP.out _).mono ?_
      rintro e w3 ⟨A3, n3, c3, cells3, rfl, hnn, hnn2, hown3, hb3⟩
      clear hnn hnn2
      obtain ⟨hr1, hz1, hg1, hs1⟩ := HW.out
      have hb3w := below_to hb2w hb2w.size hb3
      have hr3 := hr1.below hb3w
      have hz := (hb3w.block w.heap.size (by omega)).trans hz1
      have hg3 := mv_trans hg1 (mv_below hb3w b)
      have hs2 := hb2w.size
      have HW3 := Lib.hid (And.intro hr3 (And.intro hg3 (hown3.rd.mono (fun j hj _ => Nat.le_trans (Nat.le_trans hs1 hs2) hj))))
      clear HP hb3 hb3w hr3 hg3 hown3 hr1 hz1 hg1 hb2w
      go_wp2_with (refine wpList_store_mid rfl _ _ _ rfl w.heap.size 0 #[.int .i64 1, .int .i64 0, .string ⟨#[]⟩, .slice none 0 0, .slice A3 n3 c3, .slice none 0 0] rfl rfl (show (w3).there w.heap.size 0 6 from there_of_row hz) (by kernel_rfl) (by simp [Value.oneCell']) ?_; have hrow2 := setCells_whole [.int .i64 1, .int .i64 0, .string ⟨#[]⟩, .slice none 0 0, .slice A3 n3 c3, .slice none 0 0] hz rfl; generalize hw9 : World.setCells _ w.heap.size 0 _ = w9 at hrow2 ⊢; have HW9 := Lib.hid hw9; clear hw9)
      (try simp only [Exit.inBlock, Exit.then])
      refine bodyPost_ret (results_cell1 rfl _ _ w.heap.size _ _ _ _ rfl hrow2 Tryz.underlying36 rfl (by kernel_rfl)) rfl ?_
      rw [← HW9.out, HPB.out]
      refine blk_fin (.mk 1 0 (ba []) [] SP []) _ H.out HW3.out.1.r HW3.out.1.hk HW3.out.2.1 (Rd.nil _ _) HW3.out.2.2 (Rd.nil _ _) ?_
      rw [← runK_drop, HRR.out, List.drop_drop]
end Go.Proofs.YtlcfijkegdlfcaaGreatDoor
/- The walks of the reader's inner, and quote. -/
namespace Go.Proofs.YtlcfijkegdlfcaaGreatDoor
open Go.RowKit Go.PlainAid
set_option linter.all false
set_option linter.deprecated false
set_option maxRecDepth 100000
/-- What all answers: blocks, or that it is too deep. -/
def AllOf (x : Option (List Bl)) (U : Nat) (e : Ending) (w' : World) : Prop :=
  ∃ A n c, e = .returned (.tuple #[.slice A n c, .int .i64 (if x.isSome then 0 else 5)]) ∧ ∀ bs, x = some bs → Rd (U ≤ ·) w' (.slice A n c) (dBls bs)
/-- The reading of lines that lie so deep. -/
def AllAt (d : Nat) (IN : List Ln → Option (List Bl)) : Prop :=
  ∀ w b B n c A ls, Rds w b B A n c ls 0 d → Calls Tryz.prog 33 #[.pointer (some ⟨b, 0, none⟩)] w fun e w' => AllOf (IN (ls.map bl)) w.heap.size e w' ∧ w.grownBy w' (some b)
/-- What block answers: a block, and what the reader has before it then. -/
def BlkE (w : World) (b B : Nat) (A : Option Addr) (n c : Nat) (ls : List ByteArray) (d : Nat) (x : Option Bl) (rest : List Ln) (e : Ending) (w' : World) : Prop :=
  ∃ (z lv : Int) (i : ByteArray) (A1 A2 A3 : Option Addr) (n1 n2 n3 c1 c2 c3 k' : Nat), e = .returned (.tuple #[.agg #[.int .i64 z, .int .i64 lv, .string i, .slice A1 n1 c1, .slice A2 n2 c2, .slice A3 n3 c3], .int .i64 (if x.isSome then 0 else 5)]) ∧
    (∀ y, x = some y → z = y.kind ∧ lv = y.level ∧ i = y.info ∧ Rd (w.heap.size ≤ ·) w' (.slice A1 n1 c1) (y.lines.map D.str) ∧ Rd (w.heap.size ≤ ·) w' (.slice A2 n2 c2) (dSps y.spans) ∧ Rd (w.heap.size ≤ ·) w' (.slice A3 n3 c3) (dBls y.kids)) ∧
    Rds w' b B A n c ls k' d ∧ (ls.map bl).drop k' = rest ∧ w.grownBy w' (some b)
theorem blkE_fin {w W : World} {b B n c k k' d : Nat} {A : Option Addr} {ls : List ByteArray} {rest : List Ln} (x : Option Bl) (cs : List Value) {z lv : Int} {i : ByteArray} {A1 A2 A3 : Option Addr} {n1 n2 n3 c1 c2 c3 : Nat} (H : Rds w b B A n c ls k d) (hr : Rdr W b (.slice A n c) k' d) (hk' : k' ≤ n)
    (hg : w.grownBy W (some b)) (hx : ∀ y, x = some y → z = y.kind ∧ lv = y.level ∧ i = y.info ∧ Rd (w.heap.size + 1 ≤ ·) W (.slice A1 n1 c1) (y.lines.map D.str) ∧ Rd (w.heap.size + 1 ≤ ·) W (.slice A2 n2 c2) (dSps y.spans) ∧ Rd (w.heap.size + 1 ≤ ·) W (.slice A3 n3 c3) (dBls y.kids)) (hrest : (ls.map bl).drop k' = rest) :
    BlkE w b B A n c ls d x rest (.returned (.tuple #[.agg #[.int .i64 z, .int .i64 lv, .string i, .slice A1 n1 c1, .slice A2 n2 c2, .slice A3 n3 c3], .int .i64 (if x.isSome then 0 else 5)])) (W.setCells w.heap.size 0 cs) := by
  have hb2 := setCells_below (Nat.le_refl w.heap.size) cs 0 _ (Below.refl w.heap.size W)
  have hfin := mv_low hg hb2
  have hr2 : Rdr (W.setCells w.heap.size 0 cs) b (.slice A n c) k' d := (hb2.block b H.lt).trans hr
  refine ⟨z, lv, i, A1, A2, A3, n1, n2, n3, c1, c2, c3, k', rfl, fun y hy => ?_, H.to hfin hr2 hk', hrest, hfin⟩
  obtain ⟨h1, h2, h3, r1, r2, r3⟩ := hx y hy
  exact ⟨h1, h2, h3, (rd_off r1 (Nat.lt_succ_self _)).mono (fun j hj _ => Nat.le_of_succ_le hj), (rd_off r2 (Nat.lt_succ_self _)).mono (fun j hj _ => Nat.le_of_succ_le hj), (rd_off r3 (Nat.lt_succ_self _)).mono (fun j hj _ => Nat.le_of_succ_le hj)⟩
set_option maxHeartbeats 4000000 in
theorem inner_calls (b B n c k d m : Nat) (A : Option Addr) (ls : List ByteArray) (w : World) (h : Rds w b B A n c ls k d) (hd : d + m ≤ 1000) (A1 : Option Addr) (n1 c1 : Nat) (l1 : List ByteArray) (hl : Rd (fun _ => True) w (.slice A1 n1 c1) (l1.map D.str)) (ht : sumS l1 ≤ 4294967280) (IN : List Ln → Option (List Bl)) (hIN : AllAt (d + m) IN) :
    Calls Tryz.prog 104 #[.pointer (some ⟨b, 0, none⟩), .slice A1 n1 c1, .int .i64 m] w fun e w' => AllOf (IN (l1.map bl)) w.heap.size e w' ∧ Below w.heap.size w w' := by
  obtain ⟨_, _, c2, _, hbl⟩ := h.r.facts
  obtain ⟨DM, hDM⟩ : ∃ DM, DM = d + m := ⟨_, rfl⟩
  have k1 : IntKind.i64.wrap ((d : Int) + m) = (DM : Int) := by rw [IntWalk.i64_in _ (by omega)]; omega
  rw [← hDM] at hIN
  have hbA := (Below.refl w.heap.size w).alloc (Nat.le_refl _) (.cells #[.slice A1 n1 c1, .int .i64 0, .int .i64 DM] 59)
  have hgA := heap_alloc_new w (.cells #[.slice A1 n1 c1, .int .i64 0, .int .i64 DM] 59)
  have hr : Rds (w.alloc (.cells #[.slice A1 n1 c1, .int .i64 0, .int .i64 DM] 59)) w.heap.size w.heap.size A1 n1 c1 l1 0 DM :=
    ⟨hgA, hl.step (fun j _ hj => hbA.block j hj) (fun j _ hj => Nat.ne_of_lt hj), ht, Nat.zero_le _, h.tab.step hbA, Nat.le_refl _⟩
  have HI := Lib.hid (hIN _ _ _ _ _ _ _ hr)
  have HBA := Lib.hid hbA
  obtain ⟨X, hX⟩ : ∃ X, IN (l1.map bl) = X := ⟨_, rfl⟩
  rw [hX] at HI ⊢
  clear hDM hr hbA hgA hl h hIN hX
  go_enter Tryz.func104, Tryz.ntmps104
  go_wp2_with fail
  refine HI.out.mono ?_
  rintro e w1 ⟨⟨A2, n2, c2, rfl, hx⟩, hg1⟩
  have HXX := Lib.hid hx
  have HG := Lib.hid hg1
  clear hx hg1 HI
  obtain ⟨ER, hER⟩ : ∃ ER : Int, (if X.isSome = true then 0 else 5) = ER := ⟨_, rfl⟩
  rw [hER]
  have HER := Lib.hid hER
  clear hER
  go_wp2_with fail
  go_ret2
  have hlt : w.heap.size < (w.alloc (.cells #[.slice A1 n1 c1, .int .i64 0, .int .i64 DM] 59)).heap.size := by simp
  refine ⟨⟨A2, n2, c2, by rw [HER.out]; rfl, fun bs hb => (HXX.out bs hb).mono (fun j hj _ => Nat.le_trans (Nat.le_of_lt hlt) hj)⟩, HBA.out.trans (mv_to HG.out (Nat.le_refl _) hlt)⟩
set_option maxHeartbeats 8000000 in
theorem quote_calls (b B n c k d : Nat) (A : Option Addr) (ls : List ByteArray) (w : World) (h : Rds w b B A n c ls k d) (hd : d + 1 ≤ 1000) (IN : List Ln → Option (List Bl)) (hIN : AllAt (d + 1) IN) :
    Calls Tryz.prog 74 #[.pointer (some ⟨b, 0, none⟩)] w (BlkE w b B A n c ls d ((IN ((((ls.map bl).drop k).takeWhile fun x => kindL x == 5).map unmarkL)).map quoteB) (((ls.map bl).drop k).dropWhile fun x => kindL x == 5)) := by
  have H := Lib.hid h
  have hrunk := fun i hi => run_kind h (z := 5) (i := i) (by decide) hi
  have hbA := (Below.refl w.heap.size w).alloc (Nat.le_refl _) (.cells #[.int .i64 0, .int .i64 0, .string ⟨#[]⟩, .slice none 0 0, .slice none 0 0, .slice none 0 0] 36)
  have hzA := heap_alloc_new w (.cells #[.int .i64 0, .int .i64 0, .string ⟨#[]⟩, .slice none 0 0, .slice none 0 0, .slice none 0 0] 36)
  have hsA := World.size_alloc w (.cells #[.int .i64 0, .int .i64 0, .string ⟨#[]⟩, .slice none 0 0, .slice none 0 0, .slice none 0 0] 36)
  go_enter Tryz.func74, Tryz.ntmps74
  go_wp2_with fail
  generalize w.alloc (.cells #[.int .i64 0, .int .i64 0, .string ⟨#[]⟩, .slice none 0 0, .slice none 0 0, .slice none 0 0] 36) = W0 at *
  have hRU := run_calls b B n c k d 5 A ls W0 (h.below hbA) (by decide)
  have hle := runK_le 5 ((ls.map bl).drop k)
  rw [List.length_drop, List.length_map, h.len] at hle
  have hk := h.hk
  have hnm := h.hn
  have htot := h.tot
  obtain ⟨R, hR⟩ : ∃ R, runK 5 ((ls.map bl).drop k) = R := ⟨_, rfl⟩
  have HRR := Lib.hid hR
  rw [hR] at hRU hrunk hle
  have HRU := Lib.hid hRU
  have HRK := Lib.hid hrunk
  clear hRU hrunk hR h
  refine HRU.out.mono ?_
  rintro e w1 ⟨A1, c1, rfl, hv1, hr1, hg1⟩
  have hz1 := (hg1.block w.heap.size (by omega) (fun e => by injection e with e; have := H.out.lt; omega)).trans hzA
  have hs1 : w.heap.size + 1 ≤ w1.heap.size := by have := hg1.size; omega
  have hgw := mv_trans (mv_below hbA b) hg1
  have HW := Lib.hid (And.intro hr1 (And.intro hz1 (And.intro hgw hs1)))
  have hlen1 := (rd_strs hv1).1
  have HV := Lib.hid hv1
  clear hr1 hz1 hg1 hgw hv1 hzA hsA hbA HRU W0
  go_wp2_with fail
  go_loopw [12, 4] (fun vi vr wr => ∃ i m cr : Nat, ∃ Ar, vi = .int .i64 i ∧ vr = .slice Ar m cr ∧ m = i ∧ i ≤ R ∧ wr.ownsRow w1.heap.size 9 1 (.slice Ar m cr) i ((((ls.drop k).take R).take i).map fun s => Value.string (ba (unmarkL (bl s)))) ∧ Below w1.heap.size w1 wr) (fun vi _ _ => R - (intOf vi).toNat)
  case atStart => exact ⟨0, 0, 0, none, rfl, rfl, rfl, Nat.zero_le _, World.ownsRow_nil _ _ _ _, Below.refl _ _⟩
  case round =>
    obtain ⟨i, m, cr, Ar, rfl, rfl, hm, hi, hown, hbw⟩ := hrel
    have HM := Lib.hid hm
    have HO := Lib.hid hown
    have HB := Lib.hid hbw
    clear hm hown hbw
    by_cases hlt : i < R
    · have hltz : (i : Int) < R := by omega
      obtain ⟨hkd, hsz⟩ := HRK.out i hlt
      obtain ⟨g, o, rfl, _, hgl, hcells⟩ := Rd.strs HV.out (by omega)
      have hc := hcells i (by omega)
      rw [rows_at hlt] at hc
      have hcw := below_at' HB.out hgl hc
      have hrow : ((ls.drop k).take R).take (i + 1) = ((ls.drop k).take R).take i ++ [lnAt ls (k + i)] := by
        rw [List.take_succ_eq_append_getElem (by omega)]
        congr 2
        rw [← rows_at hlt (ls := ls) (k := k), List.getD_eq_getElem?_getD, List.getElem?_eq_getElem (by omega)]; rfl
      have HROW := Lib.hid hrow
      have HKD := Lib.hid hkd
      have HSZ := Lib.hid hsz
      clear hcells hc hrow hkd hsz
      obtain ⟨S, hS⟩ : ∃ S, lnAt ls (k + i) = S := ⟨_, rfl⟩
      rw [hS] at hcw HROW HKD HSZ
      clear hS
      have HT := Lib.hid (HW.out.1.below HB.out).tab
      have htab : TextB wr.heap.size wr := fun W hW => (HW.out.1.tab) W (below_to HB.out HB.out.size hW)
      have HC := Lib.hid (KUnquote_calls S wr HSZ.out htab HKD.out : Calls Tryz.prog 103 #[.string S] wr fun e w' => e = .returned (.string (ba (unmarkL (bl S)))) ∧ Below wr.heap.size wr w')
      clear HT htab
      obtain ⟨T, hT⟩ : ∃ T, ba (unmarkL (bl S)) = T := ⟨_, rfl⟩
      rw [hT] at HC
      have HTT := Lib.hid hT
      clear hT
      go_wp2_with fail
      refine HC.out.mono ?_
      rintro e w2 ⟨rfl, hb2⟩
      have hb2w := below_to HB.out HB.out.size hb2
      have ho2 := own_same HO.out (fun g hg => hb2.block g (HO.out.lt g hg).2)
      have hs2 : w1.heap.size ≤ w2.heap.size := hb2w.size
      have hm := HM.out
      subst hm
      have HO2 := Lib.hid ho2
      have hi16 : (m + 1) * 16 ≤ 140737488355328 := by omega
      clear ho2 hb2 HO HC hcw
      go_wp2_with (at_builtin; go_must (refine app_one (w0 := w2) w1.heap.size rfl _ _ 31 9 rfl Tryz.underlying31 infoStrP rfl (by decide) (by decide) [.string T] rfl rfl rfl (by simp [Value.oneCell']) (by exact HO2.out) (Below.refl _ _) hs2 hi16 ?_); intro v' w7 hown' hbe' hgr hat; obtain ⟨A', c', hv'⟩ := own_slice hown'; subst hv')
      go_roundw
      case rel =>
        refine ⟨m + 1, _, c', A', by go_num, rfl, rfl, hlt, ?_, hb2w.trans hbe'⟩
        rw [HROW.out, List.map_append, ← HTT.out] at *
        exact hown'
      case measure => simp [intOf]; omega
    · obtain rfl : i = R := by omega
      have hltz : ¬ (i : Int) < i := by omega
      have htk : ((ls.drop k).take i).take i = (ls.drop k).take i := by rw [List.take_of_length_le (by rw [List.length_take]; exact Nat.min_le_left _ _)]
      have hm := HM.out
      subst hm
      have ho := HO.out
      rw [htk] at ho
      have HO1 := Lib.hid ho
      clear ho HO
      have hrd : Rd (w1.heap.size ≤ ·) wr (.slice Ar m cr) ((((ls.drop k).take m).map fun s => ba (unmarkL (bl s))).map D.str) := by
        have ho := HO1.out
        have e : ((ls.drop k).take m).map (fun s => Value.string (ba (unmarkL (bl s)))) = (((ls.drop k).take m).map fun s => ba (unmarkL (bl s))).map Value.string := by rw [List.map_map]; rfl
        rw [e] at ho
        exact Rd.own_strs ho (fun q hq => own_ge ho q hq)
      have hxq : (((ls.drop k).take m).map fun s => ba (unmarkL (bl s))).map bl = (((ls.map bl).drop k).takeWhile fun x => kindL x == 5).map unmarkL := by
        rw [← runK_take, HRR.out, ← List.map_drop, ← List.map_take, List.map_map, List.map_map]
        exact List.map_congr_left (fun s _ => by simp [bl_ba])
      obtain ⟨XS, hXS⟩ : ∃ XS, (((ls.drop k).take m).map fun s => ba (unmarkL (bl s))) = XS := ⟨_, rfl⟩
      rw [hXS] at hrd hxq
      have hsum : sumS XS ≤ 4294967280 := by
        rw [← hXS]
        have h1 := sumS_map (f := fun s => ba (unmarkL (bl s))) (fun s => ba_le unmarkL_le s) ((ls.drop k).take m)
        have h2 := sumS_take (ls.drop k) m
        have h3 := sumS_drop ls k
        omega
      have hI := fun W (hW : Below wr.heap.size wr W) => inner_calls b B n c (k + m) d 1 A ls W ((HW.out.1.below HB.out).below hW) hd Ar m cr XS ((hrd.below hW).mono (fun _ _ _ => trivial)) hsum IN hIN
      rw [hxq] at hI
      have HI := Lib.hid (hI wr (Below.refl _ _))
      obtain ⟨X, hX⟩ : ∃ X, IN ((((ls.map bl).drop k).takeWhile fun x => kindL x == 5).map unmarkL) = X := ⟨_, rfl⟩
      rw [hX] at HI
      have HXX := Lib.hid hX
      clear hI hX hxq hXS hsum hrd
      go_wp2_with fail
      refine HI.out.mono ?_
      rintro e w2 ⟨⟨A3, n3, c3, rfl, hx⟩, hb2⟩
      have hb2w := below_to HB.out HB.out.size hb2
      obtain ⟨hr1, hz1, hg1, hs1⟩ := HW.out
      have hr2 := hr1.below hb2w
      have hz := (hb2w.block w.heap.size (by omega)).trans hz1
      have hg2 := mv_trans hg1 (mv_below hb2w b)
      have hs2 := HB.out.size
      have HW3 := Lib.hid (And.intro hr2 (And.intro hg2 (fun bs (hbs : X = some bs) => (hx bs hbs).mono (fun j hj _ => Nat.le_trans (Nat.le_trans hs1 hs2) hj))))
      clear HI hb2 hb2w hr2 hg2 hx hr1 hz1 hg1
      obtain ⟨ER, hER⟩ : ∃ ER : Int, (if X.isSome = true then 0 else 5) = ER := ⟨_, rfl⟩
      rw [hER]
      have HER := Lib.hid hER
      clear hER
      go_wp2_with (refine wpList_store_mid rfl _ _ _ rfl w.heap.size 0 #[.int .i64 5, .int .i64 0, .string ⟨#[]⟩, .slice none 0 0, .slice none 0 0, .slice A3 n3 c3] rfl rfl (show (w2).there w.heap.size 0 6 from there_of_row hz) (by kernel_rfl) (by simp [Value.oneCell']) ?_; have hrow2 := setCells_whole [.int .i64 5, .int .i64 0, .string ⟨#[]⟩, .slice none 0 0, .slice none 0 0, .slice A3 n3 c3] hz rfl; generalize hw9 : World.setCells _ w.heap.size 0 _ = w9 at hrow2 ⊢; have HW9 := Lib.hid hw9; clear hw9)
      (try simp only [Exit.inBlock, Exit.then])
      refine bodyPost_ret (results_cell2 rfl _ _ w.heap.size _ _ _ _ rfl hrow2 Tryz.underlying36 rfl (by kernel_rfl)) rfl ?_
      rw [← HW9.out, HXX.out]
      have hsm : (X.map quoteB).isSome = X.isSome := by simp
      have hh := blkE_fin (rest := (ls.map bl).drop (k + m)) (X.map quoteB) [.int .i64 5, .int .i64 0, .string ⟨#[]⟩, .slice none 0 0, .slice none 0 0, .slice A3 n3 c3] (z := 5) (lv := 0) (i := ⟨#[]⟩) (A1 := none) (n1 := 0) (c1 := 0) (A2 := none) (n2 := 0) (c2 := 0) (A3 := A3) (n3 := n3) (c3 := c3) H.out HW3.out.1.r HW3.out.1.hk HW3.out.2.1 (fun y hy => by
        obtain ⟨bs, hbs, rfl⟩ := Option.map_eq_some_iff.1 hy
        exact ⟨rfl, rfl, rfl, Rd.nil _ _, Rd.nil _ _, HW3.out.2.2 bs hbs⟩) rfl
      rw [hsm, HER.out] at hh
      have hrest : (ls.map bl).drop (k + m) = ((ls.map bl).drop k).dropWhile fun x => kindL x == 5 := by rw [← runK_drop, HRR.out, List.drop_drop]
      rw [hrest] at hh
      exact hh
end Go.Proofs.YtlcfijkegdlfcaaGreatDoor
/- The walk of the reader's item. -/
namespace Go.Proofs.YtlcfijkegdlfcaaGreatDoor
open Go.RowKit Go.PlainAid
set_option linter.all false
set_option linter.deprecated false
set_option maxRecDepth 100000
theorem own_cap {w : World} {base e size n : Nat} {A : Option Addr} {m c : Nat} {xs : List Value} (h : w.ownsRow base e size (.slice A m c) n xs) : m = n ∧ n ≤ c ∧ (0 < n → ∃ g, A = some ⟨g, 0, none⟩) := by
  rcases h.2 with ⟨hv, h0⟩ | ⟨g, cap, cur, hv, _, _, hc, _⟩
  · obtain ⟨_, h1, h2⟩ := Value.slice.inj hv
    exact ⟨by omega, by omega, fun h => by omega⟩
  · obtain ⟨h0, h1, h2⟩ := Value.slice.inj hv
    exact ⟨h1, by omega, fun _ => ⟨g, h0⟩⟩
/-- What item answers. -/
def ItemTo (w : World) (b B : Nat) (A : Option Addr) (n c : Nat) (ls : List ByteArray) (k d : Nat) (x : List Ln × List Ln) (e : Ending) (w' : World) : Prop :=
  ∃ (A' : Option Addr) (n' c' k' : Nat), e = .returned (.slice A' n' c') ∧ Rd (w.heap.size ≤ ·) w' (.slice A' n' c') ((x.1.map ba).map D.str) ∧ Rds w' b B A n c ls k' d ∧ (ls.map bl).drop k' = x.2 ∧ k < k' ∧ w.grownBy w' (some b)
theorem item_fin {w W : World} {b B n c k d K1 i q b1 m cr Q1 Q5 : Nat} {A Ar : Option Addr} {ls : List ByteArray} {S0 T0 : ByteArray} (H : Rds w b B A n c ls k d) (hK1 : k + 1 = K1) (hT0 : ba (unmarkL (bl S0)) = T0) (hi : i ≤ n - K1) (hkn : K1 ≤ n)
    (hq : q = (stripB (((ls.map bl).drop K1).take i)).length) (hQ1 : Q1 = 1 + q) (hQ5 : Q5 = K1 + q) (hall : ∀ x ∈ ((ls.map bl).drop K1).take i, (innerL x).isSome = true) (hend : ∀ (h : i < ((ls.map bl).drop K1).length), (innerL ((ls.map bl).drop K1)[i]).isSome = false)
    (hown : W.ownsRow b1 9 1 (.slice Ar m cr) (i + 1) (.string T0 :: ((ls.drop K1).take i).map fun s => Value.string (ba (innD (bl s))))) (hb1 : w.heap.size ≤ b1) (hbw : Below w.heap.size w W) :
    ItemTo w b B A n c ls k d (itemG (bl S0) ((ls.map bl).drop K1)) (.returned (.slice Ar Q1 cr)) (W.setCell ⟨b, 1, none⟩ (.int .i64 (Q5 : Nat))) := by
  have hqi : q ≤ i := by
    have h1 := stripB_le (((ls.map bl).drop K1).take i)
    rw [List.length_take] at h1; omega
  have hrr := (H.below hbw).set (m := Q5) (by omega)
  obtain ⟨hm, hc, hg⟩ := own_cap hown
  obtain ⟨g, rfl⟩ := hg (by omega)
  subst hm
  have ho := own_set (p := ⟨b, 1, none⟩) (x := .int .i64 (Q5 : Nat)) hown (fun q hq => by have := own_ge hown q hq; have := H.lt; show q ≠ b; omega)
  have e : (Value.string T0 :: ((ls.drop K1).take i).map fun s => Value.string (ba (innD (bl s)))) = (T0 :: ((ls.drop K1).take i).map fun s => ba (innD (bl s))).map Value.string := by rw [List.map_cons, List.map_map]; rfl
  rw [e] at ho
  have hrd : Rd (w.heap.size ≤ ·) _ _ _ := Rd.own_strs ho (fun q hq => Nat.le_trans hb1 (own_ge ho q hq))
  have hcut := hrd.cut (k := 1) (fun d hd => by obtain ⟨x, _, rfl⟩ := List.mem_map.1 hd; rfl) (a := 0) (b := Q1) (Nat.zero_le _) (by omega)
  rw [if_neg (by omega), List.drop_zero, ← List.map_take] at hcut
  have hga : (some ⟨g, 0, none⟩ : Option Addr).map (fun x => x.add (0 * 1)) = some ⟨g, 0, none⟩ := by simp [Addr.add]
  rw [hga, Nat.sub_zero, Nat.sub_zero] at hcut
  have htw := tw_here (t := (ls.map bl).drop K1) (p := fun x => (innerL x).isSome) (i := i) hall hend
  have hsq : itemSeq ((ls.map bl).drop K1) = ((ls.map bl).drop K1).take q := by
    rw [itemSeq_strip, htw.1, ← stripB_take, ← hq, List.take_take, Nat.min_eq_left hqi]
  have hlen : (((ls.map bl).drop K1).take q).length = q := by
    rw [List.length_take, List.length_drop, List.length_map, H.len]; omega
  refine ⟨some ⟨g, 0, none⟩, Q1, cr, Q5, rfl, ?_, hrr, ?_, by omega, mv_trans (mv_below hbw b) mv_set⟩
  · have e2 : (itemG (bl S0) ((ls.map bl).drop K1)).1.map ba = (T0 :: ((ls.drop K1).take i).map fun s => ba (innD (bl s))).take Q1 := by
      rw [itemG_eq, hsq, hQ1, Nat.add_comm 1 q, List.take_succ_cons, ← List.map_take, List.take_take, Nat.min_eq_left hqi]
      simp only [List.map_cons, hT0, ← List.map_drop, ← List.map_take, List.map_map]
      rfl
    rw [e2]
    exact hcut
  · rw [itemG_eq, hsq, hlen, hQ5, List.drop_drop]
set_option maxHeartbeats 8000000 in
theorem item_calls (b B n c k d : Nat) (A : Option Addr) (ls : List ByteArray) (w : World) (h : Rds w b B A n c ls k d) (hk : k < n) (h6 : kindL (bl (lnAt ls k)) = 6) :
    Calls Tryz.prog 85 #[.pointer (some ⟨b, 0, none⟩)] w (ItemTo w b B A n c ls k d (itemG (bl (lnAt ls k)) ((ls.map bl).drop (k + 1)))) := by
  have H := Lib.hid h
  obtain ⟨g, o, rfl, hx1⟩ := h.at hk
  clear hx1
  obtain ⟨hc, hs, _, _⟩ := h.cell hk
  obtain ⟨c0, c1, _, _, hbl⟩ := h.r.facts
  have hnm := h.hn
  have hcap := (rd_strs h.l).2
  obtain ⟨K1, hK1⟩ : ∃ K1, k + 1 = K1 := ⟨_, rfl⟩
  rw [hK1]
  have hK1z : (k : Int) + 1 = K1 := by omega
  have k1 : IntKind.i64.wrap ((k : Int) + 1) = (K1 : Int) := by rw [IntWalk.i64_in _ (by omega)]; omega
  have hK1n : K1 ≤ n := by omega
  have z1 : (K1 : Int) ≤ n := by omega
  have hkz : (k : Int) < n := by omega
  have HK1 := Lib.hid hK1
  obtain ⟨S0, hS0⟩ : ∃ S0, lnAt ls k = S0 := ⟨_, rfl⟩
  rw [hS0] at hc hs h6 ⊢
  have hU := fun W (hW : Below w.heap.size w W) => KUnitem_calls S0 W hs (h.tab.up hW) h6
  obtain ⟨T0, hT0⟩ : ∃ T0, ba (unmarkL (bl S0)) = T0 := ⟨_, rfl⟩
  rw [hT0] at hU
  have HT0 := Lib.hid hT0
  have HU := Lib.hid hU
  clear hK1 hK1z hU h6 hs hS0 hT0 h
  go_enter Tryz.func85, Tryz.ntmps85
  go_wp2_with fail
  go_still_tail 10, (by kernel_rfl)
  change wpList _ _ _ _ _ w.drew
  have hbd : Below w.heap.size w w.drew := Below.drew (Below.refl _ _)
  have HBD := Lib.hid hbd
  clear c0 c1 hbd hc
  generalize w.drew = wd at *
  go_wp2_with fail
  refine (HU.out wd HBD.out).mono ?_
  rintro e w1 ⟨rfl, hb1⟩
  have hb1 := below_to HBD.out HBD.out.size hb1
  have hbA := (Below.refl w1.heap.size w1).alloc (Nat.le_refl _) (.cells #[.string T0] 9)
  have hlit := World.ownsRow_lit (base := w1.heap.size) (e := 9) (size := 1) w1 #[.string T0] 1 (Nat.le_refl _) (by decide) rfl
  have hr2 := (H.out.below hb1).below hbA
  have hb2 := below_to hb1 hb1.size hbA
  have hsA := World.size_alloc w1 (.cells #[.string T0] 9)
  have hw1 := hb1.size
  clear hb1 hbA HU HBD
  go_wp2_with fail
  generalize w1.alloc (.cells #[.string T0] 9) = W2 at *
  obtain ⟨c0, c1, _, _, _⟩ := hr2.r.facts
  have HW2 := Lib.hid (And.intro hr2 (And.intro hb2 hlit))
  clear hr2 hb2 hlit
  generalize w1.heap.size = b1 at *
  go_quiet (fail)
  obtain ⟨wq, hwq⟩ : ∃ wq, wq = W2.drewN nq := ⟨_, rfl⟩
  rw [← hwq]
  have hbq : Below W2.heap.size W2 wq := by rw [hwq]; exact below_drewN (Below.refl _ _) _
  have hrq := HW2.out.1.below hbq
  have hb2 := below_to HW2.out.2.1 HW2.out.2.1.size hbq
  have hlit := own_same HW2.out.2.2 (fun g hg => hbq.block g (HW2.out.2.2.lt g hg).2)
  have hsq : b1 + 1 ≤ wq.heap.size := by have := hbq.size; omega
  clear hwq HW2 hbq c0 c1
  obtain ⟨c0, c1, _, _, _⟩ := hrq.r.facts
  have HWQ := Lib.hid (And.intro hrq (And.intro hb2 (And.intro hlit hsq)))
  clear hrq hb2 hlit hsq hsA
  obtain ⟨N1, hN1⟩ : ∃ N1, N1 = n - K1 := ⟨_, rfl⟩
  have HN1 := Lib.hid hN1
  clear hN1
  have hlq := Rd.below (H.out.l.mono (ok' := fun j => j < w.heap.size) (fun j _ hj => hj)) HWQ.out.2.1
  have HLQ := Lib.hid hlq
  clear hlq
  go_upto_region 3 with (fail)
  go_cut [36, 37, 38] (fun v36 v37 v38 wx => ∃ A' c', v36 = .slice A' N1 c' ∧ v37 = .int .i64 N1 ∧ v38 = .int .i64 0 ∧ Below wq.heap.size wq wx ∧ Rd (· < w.heap.size) wx (.slice A' N1 c') ((ls.drop K1).map D.str))
  case first =>
    by_cases hck : c = K1
    · subst hck
      go_wp2
      go_quiet (fail)
      go_wp2
      go_meet
      case rel =>
        have hcut := (HLQ.out.drewN nq).cut (k := 1) (fun d hd => by obtain ⟨x, _, rfl⟩ := List.mem_map.1 hd; rfl) (a := c) (b := n) (by omega) (by omega)
        rw [if_pos rfl, Nat.sub_self, ← List.map_take, ← List.map_drop, List.take_of_length_le (by rw [H.out.len]; exact Nat.le_refl _), ← HN1.out] at hcut
        have h0 : N1 = 0 := by have := HN1.out; omega
        exact ⟨some ⟨g, o, none⟩, 0, by rw [h0], by rw [h0]; first | rfl | go_num, rfl, below_drewN (Below.refl _ _) _, hcut⟩
    · go_wp2
      go_quiet (fail)
      go_wp2
      go_meet
      case rel =>
        have hcut := (HLQ.out.drewN nq).cut (k := 1) (fun d hd => by obtain ⟨x, _, rfl⟩ := List.mem_map.1 hd; rfl) (a := K1) (b := n) (by omega) (by omega)
        rw [if_neg hck, Nat.mul_one, ← List.map_take, ← List.map_drop, List.take_of_length_le (by rw [H.out.len]; exact Nat.le_refl _), ← HN1.out] at hcut
        exact ⟨(some ⟨g, o, none⟩ : Option Addr).map (fun x => x.add K1), c - K1, by rw [HN1.out]; simp only [Option.map_some, Addr.add]; (try (split <;> first | rfl | simp_all)), by have e := HN1.out; subst e; first | rfl | go_num, rfl, below_drewN (Below.refl _ _) _, hcut⟩
  case rest =>
    obtain ⟨A', c', rfl, rfl, rfl, hbx, hv⟩ := hcut
    obtain ⟨hrq, hb2, hlit, hsq⟩ := HWQ.out
    have hlx := own_same hlit (fun g hg => hbx.block g (hlit.lt g hg).2)
    have hb3 := below_to hb2 hb2.size hbx
    have hsx : b1 + 1 ≤ wc.heap.size := Nat.le_trans hsq hbx.size
    have hlenv := (rd_strs hv).1
    have HLV := Lib.hid hlenv
    clear hlenv
    have HX := Lib.hid (And.intro hb3 (And.intro hlx hsx))
    have HV := Lib.hid hv
    clear hrq hb2 hlit hsq hlx hb3 hsx hv hbx HWQ HLQ c0 c1
    go_wp2_with fail
    go_loopw [38, 3, 4, 5] (fun v38 v3 v4 v5 wr => ∃ i q m cr Q1 Q5 : Nat, ∃ Ar, v38 = .int .i64 i ∧ v3 = .slice Ar m cr ∧ v4 = .int .i64 Q1 ∧ v5 = .int .i64 Q5 ∧ (m = i + 1 ∧ Q1 = 1 + q ∧ Q5 = K1 + q) ∧ i ≤ N1 ∧ q = (stripB (((ls.map bl).drop K1).take i)).length ∧
        (∀ x ∈ ((ls.map bl).drop K1).take i, (innerL x).isSome = true) ∧ wr.ownsRow b1 9 1 (.slice Ar m cr) (i + 1) (.string T0 :: ((ls.drop K1).take i).map fun s => Value.string (ba (innD (bl s)))) ∧ Below b1 wc wr ∧ b1 ≤ wr.heap.size) (fun v38 _ _ _ _ => N1 - (intOf v38).toNat)
    case atStart => exact ⟨0, 0, 1, 1, 1, K1, some ⟨b1, 0, none⟩, rfl, rfl, rfl, rfl, ⟨rfl, rfl, rfl⟩, Nat.zero_le _, by simp [stripB], by simp, by simpa using HX.out.2.1, Below.refl _ _, by have := HX.out.2.2; omega⟩
    case round =>
      obtain ⟨i, q, m, cr, Q1, Q5, Ar, rfl, rfl, rfl, rfl, hm, hi, hq, hall, hown, hbr, hsr⟩ := hrel
      have hbw : Below w.heap.size w wr := HX.out.1.trans (hbr.mono hw1)
      have hrr := H.out.below hbw
      have hqi : q ≤ i := by
        have h1 := stripB_le (((ls.map bl).drop K1).take i)
        rw [List.length_take] at h1; omega
      have hcapr := (own_cap hown).2.1
      obtain ⟨hm1, hm2, hm3⟩ := hm
      subst hm1
      have hQc : Q1 ≤ cr := by omega
      have HM := Lib.hid (And.intro hm2 (And.intro hm3 (And.intro hq hall)))
      clear hrr hm2 hm3 hq hall
      by_cases hlt : i < N1
      · have hltz : (i : Int) < N1 := by omega
        obtain ⟨g', o', rfl, hgw, hgl, hcells⟩ := Rd.strs HV.out (by have := HLV.out; omega)
        have hc := hcells i (by have := HLV.out; omega)
        have hce : (ls.drop K1).getD i ByteArray.empty = lnAt ls (K1 + i) := by unfold lnAt; rw [List.getD_eq_getElem?_getD, List.getD_eq_getElem?_getD, List.getElem?_drop]
        rw [hce] at hc
        have hcw := (hbr.block _ (Nat.lt_of_lt_of_le hgw hw1))
        have hcc : wr.cell? ⟨g', o' + i, none⟩ = some (.string (lnAt ls (K1 + i))) := (World.cell?_of_block (a := ⟨g', o' + i, none⟩) hcw).trans hc
        obtain ⟨g2, o2, hgo, _, _, hsz, hdr⟩ := H.out.at (i := K1 + i) (by have := HN1.out; omega)
        change (lnAt ls (K1 + i)).size ≤ _ at hsz
        have hdr : ((ls.map bl).drop K1).drop i = bl (lnAt ls (K1 + i)) :: (ls.map bl).drop (K1 + i + 1) := by rw [List.drop_drop]; exact hdr
        have hdl : (ls.drop K1).take (i + 1) = (ls.drop K1).take i ++ [lnAt ls (K1 + i)] := by
          have h9 : i < (ls.drop K1).length := by rw [List.length_drop, H.out.len]; have := HN1.out; omega
          rw [List.take_succ_eq_append_getElem h9]
          congr 2
          rw [← hce, List.getD_eq_getElem?_getD, List.getElem?_eq_getElem h9]; rfl
        obtain ⟨S, hS⟩ : ∃ S, lnAt ls (K1 + i) = S := ⟨_, rfl⟩
        rw [hS] at hcc hsz hdr hdl
        have hin := KInner_calls S wr hsz
        obtain ⟨X, hX⟩ : ∃ X, innerL (bl S) = X := ⟨_, rfl⟩
        rw [hX] at hin
        have HIN := Lib.hid hin
        have HXX := Lib.hid hX
        have HSZ := Lib.hid hsz
        have HDR := Lib.hid hdr
        have HDL := Lib.hid hdl
        clear hin hX hsz hdr hdl hS hc hce hcells hcw hgo hgl
        obtain ⟨IV, hIV⟩ : ∃ IV, ba (X.getD []) = IV := ⟨_, rfl⟩
        rw [hIV] at HIN
        obtain ⟨OK, hOK⟩ : ∃ OK, X.isSome = OK := ⟨_, rfl⟩
        rw [hOK] at HIN
        have HIV := Lib.hid hIV
        have HOK := Lib.hid hOK
        clear hIV hOK
        go_wp2_with fail
        refine HIN.out.mono ?_
        rintro e w2 ⟨rfl, hb2⟩
        have hbw2 := below_to hbw hbw.size hb2
        have hbr2 := below_to hbr hsr hb2
        have ho2 := own_same hown (fun g hg => hb2.block g (hown.lt g hg).2)
        have hs2 : b1 ≤ w2.heap.size := Nat.le_trans hsr hb2.size
        have HO2 := Lib.hid ho2
        have HB2 := Lib.hid (And.intro hbw2 hbr2)
        have hrr2 := H.out.below hbw2
        obtain ⟨c0, c1, _, f1, hbb⟩ := hrr2.r.facts
        clear hb2 hbw2 hbr2 ho2 hbw hbr hown HIN hcc hrr2
        have hg0 : 0 < cr := by omega
        have hQcz : (Q1 : Int) ≤ cr := by omega
        have HSO := Lib.hid HXX.out
        cases OK with
        | false =>
          have hne : (innerL (bl S)).isSome = false := by rw [HXX.out]; exact HOK.out
          go_wp2_with fail
          go_ret
          exact item_fin H.out HK1.out HT0.out (by have := HN1.out; omega) hK1n HM.out.2.2.1 HM.out.1 HM.out.2.1 HM.out.2.2.2 (fun h => by
            have h9 := HDR.out
            rw [List.drop_eq_getElem_cons h] at h9
            rw [(List.cons.inj h9).1]; exact hne) HO2.out hw1 HB2.out.1
        | true =>
          have hso : (innerL (bl S)).isSome = true := by rw [HXX.out]; exact HOK.out
          have hivv : ba (innD (bl S)) = IV := by unfold innD; rw [HXX.out]; exact HIV.out
          have HSV := Lib.hid (And.intro hso hivv)
          have hi16 : (i + 1 + 1) * 16 ≤ 140737488355328 := by have := HN1.out; omega
          clear hso hivv hg0 hQcz hcapr hQc
          go_wp2_with (at_builtin; go_must (refine app_one (w0 := w2) b1 rfl _ _ 31 9 rfl Tryz.underlying31 infoStrP rfl (by decide) (by decide) [.string IV] rfl rfl rfl (by simp [Value.oneCell']) (by exact HO2.out) (Below.refl _ _) hs2 hi16 ?_); intro v' w7 hown' hbe' hgr hat; obtain ⟨A7, c7, hv'⟩ := own_slice hown'; subst hv')
          have hbw7 := HB2.out.1.trans (hbe'.mono hw1)
          have hbr7 := HB2.out.2.trans hbe'
          have hs7 : b1 ≤ w7.heap.size := Nat.le_trans hs2 hbe'.size
          have hrr7 := H.out.below hbw7
          have hO := Of_calls S w7 HSZ.out hrr7.tab
          obtain ⟨KD, hKD⟩ : ∃ KD, kindL (bl S) = KD := ⟨_, rfl⟩
          rw [hKD] at hO
          have HKD := Lib.hid hKD
          have HOO := Lib.hid hO
          have HO7 := Lib.hid hown'
          have HB7 := Lib.hid (And.intro hbw7 (And.intro hbr7 hs7))
          clear hO hKD hown' hbe' hgr hat hbw7 hbr7 hrr7 HO2 HB2 hs2 c0 c1 f1 hbb
          refine HOO.out.mono ?_
          rintro e w8 ⟨rfl, hb8⟩
          obtain ⟨hbw7, hbr7, hs7⟩ := HB7.out
          have hbw8 := below_to hbw7 hbw7.size hb8
          have hbr8 := below_to hbr7 hs7 hb8
          have hs8 : b1 ≤ w8.heap.size := Nat.le_trans hs7 hb8.size
          have ho8 := own_same HO7.out (fun g hg => hb8.block g (HO7.out.lt g hg).2)
          have hrr8 := H.out.below hbw8
          obtain ⟨c0, c1, _, f1, hbb⟩ := hrr8.r.facts
          have HP := Lib.hid (And.intro hbw8 (And.intro hbr8 (And.intro hs8 ho8)))
          clear hbw7 hbr7 hs7 hbw8 hbr8 hs8 ho8 hrr8 hb8 HB7 HO7 HOO
          have hNM : i + 1 ≤ N1 := hlt
          have htk : ((ls.map bl).drop K1).take (i + 1) = ((ls.map bl).drop K1).take i ++ [bl S] := by
            rw [← List.map_drop, ← List.map_take, HDL.out, List.map_append, List.map_take]; rfl
          have hall2 : ∀ x ∈ ((ls.map bl).drop K1).take (i + 1), (innerL x).isSome = true := by
            rw [htk]
            intro x hx
            rcases List.mem_append.1 hx with hx | hx
            · exact HM.out.2.2.2 x hx
            · rw [List.mem_singleton] at hx
              rw [hx]; exact HSV.out.1
          have hcells2 : (Value.string T0 :: ((ls.drop K1).take (i + 1)).map fun s => Value.string (ba (innD (bl s)))) = (Value.string T0 :: ((ls.drop K1).take i).map fun s => Value.string (ba (innD (bl s)))) ++ [.string IV] := by
            rw [HDL.out, List.map_append, List.cons_append, ← HSV.out.2]; rfl
          have hsn := stripB_snoc (((ls.map bl).drop K1).take i) (bl S)
          rw [← htk, HKD.out] at hsn
          have HT := Lib.hid (And.intro hall2 (And.intro hcells2 hsn))
          clear hall2 hcells2 hsn htk
          by_cases hk1 : KD = 1
          · have hkz1 : ((KD : Int) != 1) = false := by rw [hk1]; rfl
            have hsn := HT.out.2.2
            rw [if_pos hk1] at hsn
            have HSN := Lib.hid hsn
            clear hsn hk1
            go_wp2_with fail
            go_roundw
            case rel =>
              refine ⟨i + 1, q, _, c7, Q1, Q5, A7, by go_num, rfl, rfl, rfl, ⟨rfl, HM.out.1, HM.out.2.1⟩, hNM, by rw [HSN.out]; exact HM.out.2.2.1, HT.out.1, ?_, HP.out.2.1, HP.out.2.2.1⟩
              rw [HT.out.2.1]
              exact HP.out.2.2.2
            case measure => simp [intOf]; omega
          · have hkz1 : ((KD : Int) != 1) = true := bne_iff_ne.2 (by omega)
            have hsn := HT.out.2.2
            rw [if_neg hk1] at hsn
            have hkb : KD ≠ 1 := hk1
            have HSN := Lib.hid hsn
            have hk1k : k + 1 = K1 := HK1.out
            have w1z : IntKind.i64.wrap ((k : Int) + i) = ((k + i : Nat) : Int) := by rw [IntWalk.i64_in _ (by have := HN1.out; omega)]; omega
            obtain ⟨Q6, hQ6⟩ : ∃ Q6, Q6 = k + i + 2 := ⟨_, rfl⟩
            have w2z : IntKind.i64.wrap ((k : Int) + i + 2) = (Q6 : Int) := by rw [IntWalk.i64_in _ (by have := HN1.out; omega)]; omega
            have HQ6 := Lib.hid hQ6
            have w1y : IntKind.i64.wrap ((k : Int) + i) = (k : Int) + i := by rw [w1z]; omega
            clear hsn hk1 hkb hQ6 hk1k w1z
            go_wp2_with fail
            go_quiet (fail)
            go_wp2_with fail
            go_roundw
            case rel =>
              have hbq : Below w8.heap.size w8 (w8.drewN nq) := below_drewN (Below.refl _ _) _
              have e6 := HQ6.out
              have e1 := HK1.out
              have hlen : (((ls.map bl).drop K1).take (i + 1)).length = i + 1 := by
                rw [List.length_take, List.length_drop, List.length_map, H.out.len]; have := HN1.out; omega
              have hlen2 : (((ls.map bl).drop K1).take i ++ [bl S]).length = i + 1 := by
                rw [List.length_append, List.length_take, List.length_drop, List.length_map, H.out.len]; have := HN1.out; simp; omega
              refine ⟨i + 1, i + 1, _, c7, i + 2, Q6, A7, by go_num, rfl, by go_num, rfl, ⟨rfl, by omega, by omega⟩, hNM, by rw [HSN.out, hlen], HT.out.1, ?_, HP.out.2.1.trans (hbq.mono HP.out.2.2.1), HP.out.2.2.1⟩
              rw [HT.out.2.1]
              exact own_same HP.out.2.2.2 (fun g hg => rfl)
            case measure => simp [intOf]; omega
      · have hie : i = N1 := by omega
        subst hie
        have hltz : ¬ (i : Int) < i := by omega
        have hrr := H.out.below hbw
        obtain ⟨c0, c1, _, f1, hbb⟩ := hrr.r.facts
        have HP := Lib.hid (And.intro hbw hown)
        have hg0 : 0 < cr := by omega
        have hQcz : (Q1 : Int) ≤ cr := by omega
        clear hbw hown hbr hrr
        go_wp2_with fail
        go_ret
        exact item_fin H.out HK1.out HT0.out (by have := HN1.out; omega) hK1n HM.out.2.2.1 HM.out.1 HM.out.2.1 HM.out.2.2.2 (fun h => by
          rw [List.length_drop, List.length_map, H.out.len] at h
          have := HN1.out; omega) HP.out.2 hw1 HP.out.1
end Go.Proofs.YtlcfijkegdlfcaaGreatDoor
/- The walk of the reader's items. -/
namespace Go.Proofs.YtlcfijkegdlfcaaGreatDoor
open Go.RowKit Go.PlainAid
set_option linter.all false
set_option linter.deprecated false
set_option maxRecDepth 100000
theorem infoStrsP : (Tryz.prog.info? 31).map (fun i => (i.zero, i.size, i.bytes)) = some (some (.slice none 0 0), 1, 24) := by kernel_rfl
/-- Lines as a datum. -/
def slD (l : List Ln) : D := .sl ((l.map ba).map D.str)
def itemsN (s : Ln) (t : List Ln) : List (List Ln) × List Ln := itemsG t.length s t
theorem itemsN_step (s : Ln) (t : List Ln) : itemsN s t = if hereL (dropBlank (itemG s t).2) = 6 then
    ((itemG s t).1 :: (itemsN ((dropBlank (itemG s t).2).headD []) ((dropBlank (itemG s t).2).drop 1)).1, (itemsN ((dropBlank (itemG s t).2).headD []) ((dropBlank (itemG s t).2).drop 1)).2)
    else ([(itemG s t).1], (itemG s t).2) := by
  unfold itemsN
  have h1 := drop_le (itemG s t).2
  have h2 := itemG_le s t
  rw [itemsG_fuel t.length (t.length + 1) s t (Nat.le_refl _) (Nat.le_succ _), itemsG]
  have hc : ((dropBlank (itemG s t).2).head?.any (fun x => kindL x == 6) = true) ↔ hereL (dropBlank (itemG s t).2) = 6 := by
    cases dropBlank (itemG s t).2 with
    | nil => simp [hereL]
    | cons a r => simp [hereL]
  by_cases h : hereL (dropBlank (itemG s t).2) = 6
  · rw [if_pos (hc.2 h), if_pos h]
    rw [itemsG_fuel t.length ((dropBlank (itemG s t).2).drop 1).length _ _ (by simp only [List.length_drop]; omega) (Nat.le_refl _)]
  · rw [if_neg (fun h' => h (hc.1 h')), if_neg h]
/-- What items answers. -/
def ItemsTo (w : World) (b B : Nat) (A : Option Addr) (n c : Nat) (ls : List ByteArray) (d : Nat) (x : List (List Ln) × List Ln) (e : Ending) (w' : World) : Prop :=
  ∃ (A' : Option Addr) (n' c' k' : Nat), e = .returned (.slice A' n' c') ∧ Rd (w.heap.size ≤ ·) w' (.slice A' n' c') (x.1.map slD) ∧ Rds w' b B A n c ls k' d ∧ (ls.map bl).drop k' = x.2 ∧ x.1.length ≤ n ∧ w.grownBy w' (some b)
set_option maxHeartbeats 8000000 in
theorem items_calls (b B n c k d : Nat) (A : Option Addr) (ls : List ByteArray) (w : World) (h : Rds w b B A n c ls k d) (hk : k < n) (h6 : kindL (bl (lnAt ls k)) = 6) :
    Calls Tryz.prog 53 #[.pointer (some ⟨b, 0, none⟩)] w (ItemsTo w b B A n c ls d (itemsN (bl (lnAt ls k)) ((ls.map bl).drop (k + 1)))) := by
  obtain ⟨X, hX⟩ : ∃ X, itemsN (bl (lnAt ls k)) ((ls.map bl).drop (k + 1)) = X := ⟨_, rfl⟩
  rw [hX]
  have H := Lib.hid h
  have HX := Lib.hid hX
  have HK := Lib.hid (And.intro hk h6)
  have hnm := h.hn
  have hbl := h.lt
  clear hX h hk h6
  go_enter Tryz.func53, Tryz.ntmps53
  go_wp2_with fail
  go_loopw [3] (fun v3 wr => ∃ (j m c3 : Nat) (A3 : Option Addr) (out : List (List Ln)) (cells : List Value), v3 = .slice A3 m c3 ∧ m = out.length ∧ j < n ∧ kindL (bl (lnAt ls j)) = 6 ∧ out.length ≤ j ∧ OwnC w.heap.size 31 1 wr (.slice A3 m c3) (out.map slD) cells ∧ Rds wr b B A n c ls j d ∧ w.grownBy wr (some b) ∧
      (out ++ (itemsN (bl (lnAt ls j)) ((ls.map bl).drop (j + 1))).1, (itemsN (bl (lnAt ls j)) ((ls.map bl).drop (j + 1))).2) = X)
    (fun _ wr => n - (match wr.cell? ⟨b, 1, none⟩ with | some v => (intOf v).toNat | none => 0))
  case atStart => exact ⟨k, 0, 0, none, [], [], rfl, rfl, HK.out.1, HK.out.2, Nat.zero_le _, OwnC.nil _ _ _ _, H.out, World.grownBy.refl _ _, HX.out⟩
  case round =>
    clear HX HK
    obtain ⟨j, m, c3, A3, out, cells, rfl, hm, hj, h6, hoj, hown, hr, hg, hx⟩ := hrel
    have HI := Lib.hid (item_calls b B n c j d A ls wr hr hj h6)
    have hst := itemsN_step (bl (lnAt ls j)) ((ls.map bl).drop (j + 1))
    obtain ⟨G, hG⟩ : ∃ G, itemG (bl (lnAt ls j)) ((ls.map bl).drop (j + 1)) = G := ⟨_, rfl⟩
    rw [hG] at HI hst
    have hmz := hr.r.facts.2.1
    have HO := Lib.hid hown
    have HR := Lib.hid (And.intro hr (And.intro hg (And.intro hm (And.intro hmz (And.intro hx hst)))))
    have hm16 : (m + 1) * 24 ≤ 140737488355328 := by omega
    clear hown hr hg hm hmz hx hst hG h6
    go_wp2_with fail
    refine HI.out.mono ?_
    rintro e w2 ⟨A', n', c', j', rfl, hrd, hr2, hdr, hjj, hg2⟩
    obtain ⟨hr, hg, hm, hmz, hx, hst⟩ := HR.out
    have ho2 := HO.out.kept (w' := w2) (fun q hq hlt => hg2.block q hlt (fun e => by injection e with e; omega))
    have hoff := HO.out.off (d := slD G.1) hg.size (Nat.le_refl _) hrd
    have hg2w := mv_trans hg hg2
    have hown2 : w2.ownsRow w.heap.size 31 1 (.slice A3 m c3) m cells := by
      have := ho2.1
      rw [List.length_map, ← hm] at this
      exact this
    have HO2 := Lib.hid (And.intro ho2 hoff)
    have HOW := Lib.hid hown2
    have HG2 := Lib.hid (And.intro hg2w (And.intro hr2 (And.intro hdr hm)))
    have hs2 : w.heap.size ≤ w2.heap.size := hg2w.size
    have HST := Lib.hid (And.intro hx (And.intro hst (And.intro hmz hjj)))
    clear hr hg hm hmz hx hst ho2 hoff hg2w hown2 hr2 hdr hrd hg2 HI HO HR
    go_wp2_with (at_builtin; go_must (refine app_one (w0 := w2) w.heap.size rfl _ _ 77 31 rfl Tryz.underlying77 infoStrsP rfl (by decide) (by decide) [.slice A' n' c'] rfl rfl rfl (by simp [Value.oneCell']) (by exact HOW.out) (Below.refl _ _) hs2 hm16 ?_); intro v' w7 hown' hbe' hgr hat; obtain ⟨A7, c7, hv'⟩ := own_slice hown'; subst hv'; have hr7 : Rdr w7 b (.slice A n c) j' d := (hbe'.block b hbl).trans HG2.out.2.1.r; obtain ⟨d0, d1, _, _, _⟩ := Rdr.facts hr7)
    have hg7 := mv_low HG2.out.1 hbe'
    have hrr7 := H.out.to hg7 hr7 HG2.out.2.1.hk
    have hO7 : OwnC w.heap.size 31 1 w7 (.slice A7 (m + 1) c7) ((out ++ [G.1]).map slD) (cells ++ [.slice A' n' c']) := by
      rw [List.map_append]
      exact HO2.out.1.snoc (d := slD G.1) HO2.out.2 (by rw [List.length_map, ← HG2.out.2.2.2]; exact hown') hgr hat
    have HRU := Lib.hid (run_calls b B n c j' d 1 A ls w7 hrr7 (by decide))
    have hrk := runK_drop 1 ((ls.map bl).drop j')
    rw [List.drop_drop] at hrk
    have hdb : ((ls.map bl).drop j').dropWhile (fun x => kindL x == 1) = dropBlank G.2 := by rw [HG2.out.2.2.1]; rfl
    rw [hdb] at hrk
    obtain ⟨R, hR⟩ : ∃ R, runK 1 ((ls.map bl).drop j') = R := ⟨_, rfl⟩
    rw [hR] at HRU hrk
    have HRK := Lib.hid hrk
    have H7 := Lib.hid (And.intro hg7 (And.intro hrr7 hO7))
    have HDR := Lib.hid HG2.out.2.2.1
    have hm2 := HG2.out.2.2.2
    have HM2 := Lib.hid hm2
    clear hg7 hrr7 hO7 hown' hbe' hgr hat hr7 HO2 HOW HG2 hs2 hrk hdb hR d0 d1 hm2
    refine HRU.out.mono ?_
    rintro e w8 ⟨A8, c8, rfl, hv8, hr8, hg8⟩
    have HH := Lib.hid (here_calls b B n c (j' + R) d A ls w8 hr8)
    have hg8w := mv_trans H7.out.1 hg8
    have hO8 := H7.out.2.2.kept (w' := w8) (fun q hq hlt => hg8.block q hlt (fun e => by injection e with e; omega))
    rw [HRK.out] at HH
    have H8 := Lib.hid (And.intro hr8 (And.intro hg8w hO8))
    clear hr8 hg8w hO8 hg8 HRU hv8
    obtain ⟨KK, hKK⟩ : ∃ KK, hereL (dropBlank G.2) = KK := ⟨_, rfl⟩
    rw [hKK] at HH
    have HKK := Lib.hid hKK
    clear hKK
    go_wp2_with fail
    refine HH.out.mono ?_
    rintro e w9 ⟨rfl, hb9⟩
    have hr9 := H8.out.1.below hb9
    have hg9 := mv_trans H8.out.2.1 (mv_below hb9 b)
    have hO9 := H8.out.2.2.below hb9
    obtain ⟨d0, d1, _, f1, hbb⟩ := hr9.r.facts
    have H9 := Lib.hid (And.intro hr9 (And.intro hg9 hO9))
    clear hr9 hg9 hO9 H8 hb9 HH
    by_cases h6 : KK = 6
    · have hkz : ((KK : Int) != 6) = false := by rw [h6]; rfl
      have hst := HST.out.2.1
      rw [HKK.out, if_pos h6] at hst
      have HS2 := Lib.hid hst
      have h6h := HKK.out
      rw [h6, ← HRK.out] at h6h
      have hjn : j' + R < n := by
        by_cases hlt : j' + R < n
        · exact hlt
        · rw [hereL_end H.out.len (by omega)] at h6h
          cases h6h
      have hcell := H9.out.1.at hjn
      obtain ⟨_, _, _, _, _, _, hdd⟩ := hcell
      change _ = bl (lnAt ls (j' + R)) :: _ at hdd
      rw [hdd] at h6h
      have HDD := Lib.hid hdd
      have H6H := Lib.hid h6h
      clear hst h6 h6h hdd
      go_wp2_with fail
      go_roundw
      case rel =>
        have hd9 := HRK.out
        rw [HDD.out] at hd9
        refine ⟨j' + R, m + 1, c7, A7, out ++ [G.1], _, rfl, by rw [List.length_append, ← HM2.out]; rfl, hjn, H6H.out, ?_, H9.out.2.2, H9.out.1, H9.out.2.1, ?_⟩
        · have := HST.out.2.2.2
          rw [List.length_append]; simp only [List.length_singleton]; omega
        · have hs2 := HS2.out
          rw [← hd9] at hs2
          simp only [List.headD_cons, List.drop_succ_cons, List.drop_zero] at hs2
          rw [← HST.out.1, hs2]
          simp
      case measure =>
        rw [HST.out.2.2.1, d1]
        simp only [intOf, Int.toNat_natCast]
        have := HST.out.2.2.2
        omega
    · have hkz : ((KK : Int) != 6) = true := bne_iff_ne.2 (by omega)
      have hst := HST.out.2.1
      rw [HKK.out, if_neg h6] at hst
      have HS2 := Lib.hid hst
      have hjn := H7.out.2.1.hk
      have HJN := Lib.hid hjn
      clear hst h6 hjn
      go_wp2_with fail
      go_ret
      have hO := H9.out.2.2.kept (w' := w9.setCell ⟨b, 1, none⟩ (.int .i64 j')) (fun q hq hlt => Below.heap_setCell w9 ⟨b, 1, none⟩ _ q (by show q ≠ b; omega))
      have hx := HST.out.1
      rw [HS2.out] at hx
      refine ⟨A7, m + 1, c7, j', rfl, ?_, H9.out.1.set HJN.out, ?_, ?_, mv_trans H9.out.2.1 mv_set⟩
      · rw [← hx]; exact hO.rd
      · rw [← hx]; exact HDR.out
      · rw [← hx]
        rw [List.length_append]
        simp only [List.length_singleton]
        omega
end Go.Proofs.YtlcfijkegdlfcaaGreatDoor
namespace Go.Proofs.YtlcfijkegdlfcaaGreatDoor
open Go.RowKit Go.PlainAid
set_option linter.all false
set_option linter.deprecated false
set_option maxRecDepth 100000
theorem infoBlP : (Tryz.prog.info? 36).map (fun i => (i.zero, i.size, i.bytes)) = some (some (.agg #[.int .i64 0, .int .i64 0, .string ByteArray.empty, .slice none 0 0, .slice none 0 0, .slice none 0 0]), 6, 104) := by kernel_rfl
/-- How long lines are. -/
def sumL : List Ln → Nat
  | [] => 0
  | s :: l => s.length + 1 + sumL l
theorem sumL_ba : ∀ l : List Ln, sumS (l.map ba) = sumL l
  | [] => rfl
  | s :: l => by rw [List.map_cons, sumS, sumL, ba_size, sumL_ba l]
theorem sumL_bl : ∀ l : List ByteArray, sumL (l.map bl) = sumS l
  | [] => rfl
  | s :: l => by rw [List.map_cons, sumS, sumL, bl_len, sumL_bl l]
theorem sumL_app : ∀ a b : List Ln, sumL (a ++ b) = sumL a + sumL b
  | [], b => by simp [sumL]
  | s :: a, b => by rw [List.cons_append, sumL, sumL, sumL_app a b]; omega
theorem sumL_sub {a b : List Ln} (h : a.Sublist b) : sumL a ≤ sumL b := by
  induction h with
  | slnil => exact Nat.le_refl _
  | cons x _ ih => rw [sumL]; omega
  | cons_cons x _ ih => rw [sumL, sumL]; omega
theorem sumL_map {f : Ln → Ln} (hf : ∀ s, (f s).length ≤ s.length) : ∀ l : List Ln, sumL (l.map f) ≤ sumL l
  | [] => Nat.le_refl _
  | s :: l => by have := sumL_map hf l; have := hf s; rw [List.map_cons, sumL, sumL]; omega
theorem innD_le (s : Ln) : (innD s).length ≤ s.length := by
  unfold innD innerL
  split
  · simp
  · split <;> simp
theorem items_sum : ∀ (f : Nat) (s : Ln) (t : List Ln), ∀ x ∈ (itemsG f s t).1, sumL x ≤ sumL (s :: t)
  | f, s, t => by
    have hp : (itemSeq t).Sublist t := by
      rw [itemSeq_strip]
      exact (stripB_pre _).sublist.trans (List.takeWhile_sublist _)
    have hi : sumL (itemG s t).1 ≤ sumL (s :: t) := by
      rw [itemG_eq, sumL, sumL]
      have h1 := sumL_map innD_le (itemSeq t)
      have h2 := sumL_sub hp
      have h3 := unmarkL_le s
      omega
    cases f with
    | zero =>
      intro x hx
      rw [itemsG] at hx
      simp at hx
      rw [hx]; exact hi
    | succ f =>
      intro x hx
      rw [itemsG] at hx
      split at hx
      · rename_i hcond
        rcases List.mem_cons.1 hx with hx | hx
        · rw [hx]; exact hi
        · have h1 := items_sum f _ _ x hx
          refine Nat.le_trans h1 ?_
          have hr : (dropBlank (itemG s t).2).Sublist t := (List.dropWhile_sublist _).trans (by rw [itemG_eq]; exact List.drop_sublist _ _)
          cases hd : dropBlank (itemG s t).2 with
          | nil => rw [hd] at hcond; simp at hcond
          | cons a r =>
            rw [hd] at hr
            have := sumL_sub hr
            simp only [List.headD_cons, List.drop_succ_cons, List.drop_zero]
            rw [sumL] at this ⊢
            rw [sumL]
            omega
      · simp at hx
        rw [hx]; exact hi
theorem mapM_more {α β : Type} {f : α → Option β} {l : List α} {i : Nat} {out : List β} {y : β} (h : (l.take i).mapM f = some out) (hi : i < l.length) (hy : f l[i] = some y) : (l.take (i + 1)).mapM f = some (out ++ [y]) := by
  rw [List.take_succ_eq_append_getElem hi, List.mapM_append, h]
  simp [hy]
theorem mapM_fail {α β : Type} {f : α → Option β} {l : List α} {i : Nat} {out : List β} (h : (l.take i).mapM f = some out) (hi : i < l.length) (hy : f l[i] = none) : l.mapM f = none := by
  have e : l = l.take i ++ (l[i] :: l.drop (i + 1)) := by rw [List.getElem_cons_drop, List.take_append_drop]
  rw [e, List.mapM_append, h, List.mapM_cons, hy]
  rfl
set_option maxHeartbeats 8000000 in
theorem list_calls (b B n c k d : Nat) (A : Option Addr) (ls : List ByteArray) (w : World) (h : Rds w b B A n c ls k d) (hk : k < n) (h6 : kindL (bl (lnAt ls k)) = 6) (hd : d + 2 ≤ 1000) (IN : List Ln → Option (List Bl)) (hIN : AllAt (d + 2) IN) :
    Calls Tryz.prog 75 #[.pointer (some ⟨b, 0, none⟩)] w (BlkE w b B A n c ls d (((itemsN (bl (lnAt ls k)) ((ls.map bl).drop (k + 1))).1.mapM IN).map listB) (itemsN (bl (lnAt ls k)) ((ls.map bl).drop (k + 1))).2) := by
  have H := Lib.hid h
  have hbl := h.lt
  have hnm := h.hn
  have hsx : ∀ x ∈ (itemsN (bl (lnAt ls k)) ((ls.map bl).drop (k + 1))).1, sumS (x.map ba) ≤ 4294967280 := fun x hx => by
    have h1 := items_sum _ _ _ x hx
    obtain ⟨g, o, _, _, _, _, hd⟩ := h.at hk
    change _ = bl (lnAt ls k) :: _ at hd
    rw [← hd, ← List.map_drop, sumL_bl] at h1
    rw [sumL_ba]
    have h2 := sumS_drop ls k
    have h3 := h.tot
    omega
  have hbA := (Below.refl w.heap.size w).alloc (Nat.le_refl _) (.cells #[.int .i64 0, .int .i64 0, .string ⟨#[]⟩, .slice none 0 0, .slice none 0 0, .slice none 0 0] 36)
  have hzA := heap_alloc_new w (.cells #[.int .i64 0, .int .i64 0, .string ⟨#[]⟩, .slice none 0 0, .slice none 0 0, .slice none 0 0] 36)
  have hsA := World.size_alloc w (.cells #[.int .i64 0, .int .i64 0, .string ⟨#[]⟩, .slice none 0 0, .slice none 0 0, .slice none 0 0] 36)
  obtain ⟨W1, hW1⟩ : ∃ W1, w.alloc (.cells #[.int .i64 0, .int .i64 0, .string ⟨#[]⟩, .slice none 0 0, .slice none 0 0, .slice none 0 0] 36) = W1 := ⟨_, rfl⟩
  rw [hW1] at hbA hzA hsA
  have hbB := (Below.refl W1.heap.size W1).alloc (Nat.le_refl _) (.cells #[.int .i64 6, .int .i64 0, .string ⟨#[]⟩, .slice none 0 0, .slice none 0 0, .slice none 0 0] 36)
  have hzB := heap_alloc_new W1 (.cells #[.int .i64 6, .int .i64 0, .string ⟨#[]⟩, .slice none 0 0, .slice none 0 0, .slice none 0 0] 36)
  have hsB := World.size_alloc W1 (.cells #[.int .i64 6, .int .i64 0, .string ⟨#[]⟩, .slice none 0 0, .slice none 0 0, .slice none 0 0] 36)
  rw [hsA] at hzB hsB
  have hz2 := (hbB.block w.heap.size (by omega)).trans hzA
  have hb2 := below_to hbA hbA.size hbB
  rw [← hW1] at hz2 hb2 hzB hsB
  obtain ⟨X, hX⟩ : ∃ X, itemsN (bl (lnAt ls k)) ((ls.map bl).drop (k + 1)) = X := ⟨_, rfl⟩
  have hI := fun W (hW : Below w.heap.size w W) => items_calls b B n c k d A ls W (h.below hW) hk h6
  rw [hX] at hI hsx ⊢
  have HI := Lib.hid hI
  have HSX := Lib.hid hsx
  have HIN := Lib.hid hIN
  have HW := Lib.hid (And.intro hb2 (And.intro hz2 (And.intro hzB hsB)))
  clear hI hsx hX hIN hb2 hz2 hzB hsB hbB hbA hzA hsA hW1 h h6 hk
  go_enter Tryz.func75, Tryz.ntmps75
  go_wp2_with fail
  obtain ⟨hb2, hz2, hzB, hsB⟩ := HW.out
  generalize (w.alloc (.cells #[.int .i64 0, .int .i64 0, .string ⟨#[]⟩, .slice none 0 0, .slice none 0 0, .slice none 0 0] 36)).alloc (.cells #[.int .i64 6, .int .i64 0, .string ⟨#[]⟩, .slice none 0 0, .slice none 0 0, .slice none 0 0] 36) = W0 at *
  refine (HI.out W0 hb2).mono ?_
  rintro e w1 ⟨A1, n1, c1, k', rfl, hv1, hr1, hdr1, hxn, hg1⟩
  have hz1 := (hg1.block w.heap.size (by omega) (fun e => by injection e with e; omega)).trans hz2
  have hx1 := (hg1.block (w.heap.size + 1) (by omega) (fun e => by injection e with e; omega)).trans hzB
  have hs1 : w.heap.size + 2 ≤ w1.heap.size := by have := hg1.size; omega
  have hg1w := mv_trans (mv_below hb2 b) hg1
  have hv1 : Rd (w.heap.size + 2 ≤ ·) w1 (.slice A1 n1 c1) (X.1.map slD) := hv1.mono (fun j hj _ => by omega)
  have hlen1 := (rd_cap hv1).1
  rw [List.length_map] at hlen1
  have HV := Lib.hid hv1
  have H1 := Lib.hid (And.intro hr1 (And.intro hdr1 (And.intro hz1 (And.intro hg1w hxn))))
  have HLN := Lib.hid hlen1
  have HX1 := Lib.hid hx1
  clear hv1 hr1 hdr1 hz1 hx1 hg1 hg1w hb2 hz2 hzB hsB HW HI hxn hlen1
  go_wp2_with fail
  go_loopw [13] (fun vi wr => ∃ (i m cr : Nat) (Ar : Option Addr) (out : List (List Bl)) (cells : List Value), vi = .int .i64 i ∧ i ≤ n1 ∧ m = i ∧ m = out.length ∧ wr.heap[w.heap.size + 1]? = some (.cells #[.int .i64 6, .int .i64 0, .string ⟨#[]⟩, .slice none 0 0, .slice none 0 0, .slice Ar m cr] 36 (0, 0)) ∧
      (X.1.take i).mapM IN = some out ∧ OwnC w1.heap.size 36 6 wr (.slice Ar m cr) (dBls (out.map itemB)) cells ∧ w1.grownBy wr (some (w.heap.size + 1))) (fun vi _ => n1 - (intOf vi).toNat)
  case atStart => exact ⟨0, 0, 0, none, [], [], rfl, Nat.zero_le _, rfl, rfl, HX1.out, rfl, OwnC.nil _ _ _ _, World.grownBy.refl _ _⟩
  case round =>
    clear HX1
    obtain ⟨i, m, cr, Ar, out, cells, rfl, hi, hmi, hmo, hx, hmap, hown, hg⟩ := hrel
    have hmi := hmi.symm
    subst hmi
    have hgw : w.grownBy wr (some b) := ⟨hg.os.trans H1.out.2.2.2.1.os, hg.tape.trans H1.out.2.2.2.1.tape, hg.output.trans H1.out.2.2.2.1.output, Nat.le_trans H1.out.2.2.2.1.size hg.size, fun q hq hne => (hg.block q (by omega) (fun e => by injection e with e; omega)).trans (H1.out.2.2.2.1.block q hq hne)⟩
    have hrb : Rdr wr b (.slice A n c) k' d := (hg.block b (by omega) (fun e => by injection e with e; omega)).trans H1.out.1.r
    have hrr : Rds wr b B A n c ls k' d := H.out.to hgw hrb H1.out.1.hk
    have hzr : wr.heap[w.heap.size]? = some (.cells #[.int .i64 0, .int .i64 0, .string ⟨#[]⟩, .slice none 0 0, .slice none 0 0, .slice none 0 0] 36 (0, 0)) := (hg.block w.heap.size (by omega) (fun e => by injection e with e; omega)).trans H1.out.2.2.1
    have hsr : w.heap.size + 2 ≤ wr.heap.size := Nat.le_trans hs1 hg.size
    have hs1r : w1.heap.size ≤ wr.heap.size := hg.size
    have HM := Lib.hid (And.intro hmo (And.intro hmap hown))
    have HWR := Lib.hid (And.intro hgw (And.intro hrr hzr))
    have HXR := Lib.hid hx
    have HGR := Lib.hid hg
    by_cases hlt : i < n1
    · have hltz : (i : Int) < n1 := by omega
      have hix : i < X.1.length := by have := HLN.out; omega
      obtain ⟨g, o, cc, cs, hsl, hgok, hgl, hrep, hcel⟩ := Rd.get HV.out (k := 1) (i := i) (fun d hd => by obtain ⟨x, _, rfl⟩ := List.mem_map.1 hd; rfl) (by rw [List.length_map]; exact hix)
      obtain ⟨hA1, hn1, hc1⟩ := Value.slice.inj hsl
      subst hA1
      subst hc1
      clear hn1
      rw [List.getElem_map] at hrep
      obtain ⟨v, rfl, hvr⟩ := rep_sl hrep
      have hc0 := hcel 0 v rfl
      rw [Nat.add_zero, Nat.mul_one] at hc0
      have hcw : wr.cell? ⟨g, o + i, none⟩ = some v := (World.cell?_of_block (a := ⟨g, o + i, none⟩) (hg.block g hgl (fun e => by injection e with e; have hgk : w.heap.size + 2 ≤ g := hgok; omega))).trans hc0
      have hvw : Rd (fun _ => True) wr v ((X.1[i].map ba).map D.str) := hvr.step (fun q hq hlt => hg.block q hlt (fun e => by injection e with e; have hgk : w.heap.size + 2 ≤ q := hq; omega)) (fun _ _ _ => trivial)
      obtain ⟨Ai, ci, hvf, hx1, hx2⟩ := hvw.form
      subst hvf
      clear hx1 hx2
      rw [List.length_map, List.length_map] at hcw hvw
      have hI := inner_calls b B n c k' d 2 A ls wr hrr hd Ai _ ci (X.1[i].map ba) hvw (HSX.out _ (List.getElem_mem hix)) IN HIN.out
      have hbb : (X.1[i].map ba).map bl = X.1[i] := by
        rw [List.map_map]
        conv => rhs; rw [← List.map_id X.1[i]]
        exact List.map_congr_left (fun s _ => by simp [bl_ba])
      rw [hbb] at hI
      obtain ⟨Y, hY⟩ : ∃ Y, IN X.1[i] = Y := ⟨_, rfl⟩
      rw [hY] at hI
      have HII := Lib.hid hI
      have HY := Lib.hid (And.intro hY hix)
      obtain ⟨ER, hER⟩ : ∃ ER : Int, (if Y.isSome = true then 0 else 5) = ER := ⟨_, rfl⟩
      have HER := Lib.hid hER
      generalize X.1[i].length = ni at *
      clear hmo hmap hown hgw hrb hrr hzr hx hg hrep hvr hc0 hcel hvw hI hbb hY hER hsl hgok
      go_wp2_with fail
      refine HII.out.mono ?_
      rintro e w2 ⟨⟨A2, n2, c2, rfl, hy⟩, hb2⟩
      rw [HER.out]
      have hg2 := mv_trans HWR.out.1 (mv_below hb2 b)
      have hr2 := HWR.out.2.1.below hb2
      have hz2 := (hb2.block w.heap.size (by omega)).trans HWR.out.2.2
      have hx2 := (hb2.block (w.heap.size + 1) (by omega)).trans HXR.out
      have ho2 := HM.out.2.2.below hb2
      have hs2 : w.heap.size + 2 ≤ w2.heap.size := Nat.le_trans hsr hb2.size
      have hs12 : w1.heap.size ≤ w2.heap.size := Nat.le_trans hs1r hb2.size
      have hgr2 := mv_trans HGR.out (mv_below hb2 (w.heap.size + 1))
      have HYY := Lib.hid hy
      have HOFF := Lib.hid (fun d news (hx : Rep (wr.heap.size ≤ ·) w2 d news) => HM.out.2.2.off (d := d) (news := news) hs1r (Nat.le_refl _) hx)
      have H2 := Lib.hid (And.intro hg2 (And.intro hr2 (And.intro ho2 hgr2)))
      have hmo2 := HM.out.1
      have HMO := Lib.hid hmo2
      clear hg2 hr2 ho2 hgr2 hy hb2 HII HWR HGR hcw hmo2
      cases Y with
      | none =>
        have he5 : ER = 5 := HER.out.symm
        subst he5
        have hz := hz2
        obtain ⟨x0, x1, x2, x3, x4, x5⟩ := six hx2
        clear hz2
        go_wp2_with (refine wpList_store_mid rfl _ _ _ rfl w.heap.size 0 #[.int .i64 6, .int .i64 0, .string ⟨#[]⟩, .slice none 0 0, .slice none 0 0, .slice Ar i cr] rfl rfl (show (w2).there w.heap.size 0 6 from there_of_row hz) (by kernel_rfl) (by simp [Value.oneCell']) ?_; have hrow2 := setCells_whole [.int .i64 6, .int .i64 0, .string ⟨#[]⟩, .slice none 0 0, .slice none 0 0, .slice Ar i cr] hz rfl; generalize hw9 : World.setCells _ w.heap.size 0 _ = w9 at hrow2 ⊢; have HW9 := Lib.hid hw9; clear hw9)
        (try simp only [Exit.inBlock, Exit.then])
        refine bodyPost_ret (results_cell2 rfl _ _ w.heap.size _ _ _ _ rfl hrow2 Tryz.underlying36 rfl (by kernel_rfl)) rfl ?_
        rw [← HW9.out]
        have hno : X.1.mapM IN = none := mapM_fail HM.out.2.1 HY.out.2 HY.out.1
        rw [hno]
        exact blkE_fin (rest := X.2) (none : Option Bl) [.int .i64 6, .int .i64 0, .string ⟨#[]⟩, .slice none 0 0, .slice none 0 0, .slice Ar i cr] H.out H2.out.2.1.r H2.out.2.1.hk H2.out.1 (fun y hy => by cases hy) H1.out.2.1
      | some kids =>
        have he5 : ER = 0 := HER.out.symm
        subst he5
        obtain ⟨_, _, _, _, _, x5⟩ := six hx2
        have f5 := (row_facts hx2 5 rfl).2
        have hown2 := H2.out.2.2.1.1
        rw [dBls_len, List.length_map, ← HMO.out] at hown2
        have HOW := Lib.hid hown2
        have hi104 : (i + 1) * 104 ≤ 140737488355328 := by have := H1.out.2.2.2.2; have := HLN.out; omega
        have HX2 := Lib.hid hx2
        clear hown2 hx2
        go_wp2_with (at_builtin; go_must (refine app_one (w0 := w2) w1.heap.size rfl _ _ 23 36 rfl Tryz.underlying23 infoBlP rfl (by decide) (by decide) [.int .i64 7, .int .i64 0, .string ⟨#[]⟩, .slice none 0 0, .slice none 0 0, .slice A2 n2 c2] rfl rfl rfl (by simp [Value.oneCell']) (by exact HOW.out) (Below.refl _ _) hs12 hi104 ?_); intro v' w7 hown' hbe' hgr hat; obtain ⟨A7, c7, hv'⟩ := own_slice hown'; subst hv'; have hx7 := (hbe'.block (w.heap.size + 1) (by omega)).trans HX2.out; have x5 := (row_facts hx7 5 rfl).1; have f5 := (row_facts hx7 5 rfl).2)
        go_roundw
        case rel =>
          have hset := mv_set (w := w7) (b := w.heap.size + 1) (i := 5) (v := .slice A7 (i + 1) c7)
          have hx9 := heap_setCell_same w7 (w.heap.size + 1) 5 _ _ (.slice A7 (i + 1) c7) hx7
          have hO7 : OwnC w1.heap.size 36 6 w7 (.slice A7 (i + 1) c7) (dBls ((out ++ [kids]).map itemB)) (cells ++ [.int .i64 7, .int .i64 0, .string ⟨#[]⟩, .slice none 0 0, .slice none 0 0, .slice A2 n2 c2]) := by
            rw [List.map_append, dBls_app]
            have hd1 : dBls ([kids].map itemB) = [dBl (itemB kids)] := by simp [dBls]
            rw [hd1]
            refine H2.out.2.2.1.snoc (d := dBl (itemB kids)) (HOFF.out _ _ ?_) ?_ hgr hat
            · exact rep_block (x := itemB kids) (Rd.nil _ _) (Rd.nil _ _) (HYY.out kids rfl)
            · rw [dBls_len, List.length_map, ← HMO.out]; exact hown'
          have hO9 := hO7.kept (w' := w7.setCell ⟨w.heap.size + 1, 5, none⟩ (.slice A7 (i + 1) c7)) (fun q hq _ => Below.heap_setCell w7 ⟨w.heap.size + 1, 5, none⟩ _ q (by show q ≠ w.heap.size + 1; omega))
          have hg7 : w1.grownBy w7 (some (w.heap.size + 1)) := mv_low H2.out.2.2.2 hbe'
          refine ⟨i + 1, i + 1, c7, A7, out ++ [kids], _, by go_num, hlt, rfl, by rw [List.length_append, ← HMO.out]; rfl, hx9, mapM_more HM.out.2.1 HY.out.2 HY.out.1, hO9, mv_trans hg7 hset⟩
        case measure => simp [intOf]; omega
    · obtain rfl : i = n1 := by omega
      have hltz : ¬ (i : Int) < i := by omega
      have hz := hzr
      obtain ⟨x0, x1, x2, x3, x4, x5⟩ := six hx
      clear hmo hmap hown hgw hrb hrr hzr hx hg
      go_wp2_with (refine wpList_store_mid rfl _ _ _ rfl w.heap.size 0 #[.int .i64 6, .int .i64 0, .string ⟨#[]⟩, .slice none 0 0, .slice none 0 0, .slice Ar i cr] rfl rfl (show (wr).there w.heap.size 0 6 from there_of_row hz) (by kernel_rfl) (by simp [Value.oneCell']) ?_; have hrow2 := setCells_whole [.int .i64 6, .int .i64 0, .string ⟨#[]⟩, .slice none 0 0, .slice none 0 0, .slice Ar i cr] hz rfl; generalize hw9 : World.setCells _ w.heap.size 0 _ = w9 at hrow2 ⊢; have HW9 := Lib.hid hw9; clear hw9)
      (try simp only [Exit.inBlock, Exit.then])
      refine bodyPost_ret (results_cell2 rfl _ _ w.heap.size _ _ _ _ rfl hrow2 Tryz.underlying36 rfl (by kernel_rfl)) rfl ?_
      rw [← HW9.out]
      have hall := HM.out.2.1
      rw [List.take_of_length_le (by have := HLN.out; omega)] at hall
      rw [hall]
      exact blkE_fin (rest := X.2) (some (listB out)) [.int .i64 6, .int .i64 0, .string ⟨#[]⟩, .slice none 0 0, .slice none 0 0, .slice Ar i cr] H.out HWR.out.2.1.r HWR.out.2.1.hk HWR.out.1 (fun y hy => by
        injection hy with hy
        subst hy
        exact ⟨rfl, rfl, rfl, Rd.nil _ _, Rd.nil _ _, HM.out.2.2.rd.mono (fun j hj _ => by have h9 : w1.heap.size ≤ j := hj; omega)⟩) H1.out.2.1
end Go.Proofs.YtlcfijkegdlfcaaGreatDoor
