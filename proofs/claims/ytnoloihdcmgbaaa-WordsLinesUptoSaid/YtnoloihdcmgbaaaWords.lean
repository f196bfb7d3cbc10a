/- The walk of words.Lines. -/
import Derived.Test.YtnoloihdcmgbaaaWords0
import Derived.Deep.RegionHeld3
namespace Go.Proofs.Ytnoloihdcmgbaaa
open Go.RowKit Go.PlainAid Go.Maps
set_option linter.all false
set_option linter.deprecated false

theorem infoStrss : (Try.prog.info? 26).map (fun i => (i.zero, i.size, i.bytes)) = some (some (.slice none 0 0), 1, 24) := by kernel_rfl
theorem lawI : Keyed Try.prog 3 := int_keyed Try.underlying3
theorem zeroS (w : World) : (zeroValue 9).run Try.prog w = .ok (.string ByteArray.empty) w := by kernel_rfl

set_option maxRecDepth 100000 in
set_option maxHeartbeats 2000000 in
theorem WLines_calls (vb vo vt : Value) (b o t : List ByteArray) (w : World) (hnb : b.length ≤ 262143) (hno : o.length ≤ 262143) (hnt : t.length ≤ 262143) (hsz : ∀ s ∈ b ++ o ++ t, s.size ≤ maxLen)
    (hB : Rd (· < w.heap.size) w vb (b.map D.str)) (hO : Rd (· < w.heap.size) w vo (o.map D.str)) (hT : Rd (· < w.heap.size) w vt (t.map D.str)) :
    Calls Try.prog 10 #[vb, vo, vt] w fun e w' => ∃ v, e = .returned (.tuple #[v, .bool (mergeL b o t).isSome]) ∧ w'.ownsRow w.heap.size 9 1 v ((mergeL b o t).getD []).length (((mergeL b o t).getD []).map Value.string) ∧ Below w.heap.size w w' := by
  have hmm := @run_makeMap Try.prog
  obtain ⟨A, cb, rfl, hcb, _⟩ := hB.form
  obtain ⟨O, co, rfl, hco, _⟩ := hO.form
  obtain ⟨T, ct, rfl, hct, _⟩ := hT.form
  simp only [List.length_map] at *
  obtain ⟨all, hall⟩ : ∃ all, all = b ++ o ++ t := ⟨_, rfl⟩
  have hfl : [b, o, t].flatten = all := by simp [hall]
  have hlen : all.length = b.length + o.length + t.length := by simp [hall]; omega
  have mb : ∀ s ∈ b, s ∈ all := fun s h => by simp [hall, h]
  have mo : ∀ s ∈ o, s ∈ all := fun s h => by simp [hall, h]
  have mt : ∀ s ∈ t, s ∈ all := fun s h => by simp [hall, h]
  rw [← hall] at hsz
  have hlit : ∀ tt, Rd (· < (w.alloc (.cells #[.slice A b.length cb, .slice O o.length co, .slice T t.length ct] tt)).heap.size) (w.alloc (.cells #[.slice A b.length cb, .slice O o.length co, .slice T t.length ct] tt)) (.slice (some ⟨w.heap.size, 0, none⟩) 3 3) (dss [b, o, t]) := fun tt =>
    Rd.lit (t := tt) (ds := dss [b, o, t]) (cs := [.slice A b.length cb, .slice O o.length co, .slice T t.length ct]) (RepAll.cons' hB (RepAll.cons' hO (RepAll.cons' hT RepAll.nil'))) (by simp [dss])
  have hids := fun tt => Ids_calls _ [b, o, t] _ (hlit tt) (by simp) (by rw [hfl]; omega)
  rw [hfl] at hids
  have hmm' := merge_nums mb mo mt
  have hmem : ∀ m, mergeL b o t = some m → (∀ s ∈ m, s ∈ all) ∧ m.length ≤ o.length + t.length := fun m h => ⟨fun s hs => (mergeL_mem h hs).elim (mo s) (mt s), mergeL_len h⟩
  generalize mergeL b o t = M at *
  have HB := Lib.hid hB
  have HO := Lib.hid hO
  have HT := Lib.hid hT
  have HI := Lib.hid hids
  have HMM := Lib.hid hmm'
  have HLT := Lib.hid (hlit 26)
  have HFL := Lib.hid hfl
  have HZ := Lib.hid hsz
  have MM := Lib.hid (show (∀ s ∈ b, s ∈ all) ∧ (∀ s ∈ o, s ∈ all) ∧ (∀ s ∈ t, s ∈ all) from ⟨mb, mo, mt⟩)
  clear hB hO hT hids hfl hall mb mo mt hmm' hlit hsz
  go_enter Try.func10, Try.ntmps10
  go_wp2_with (first
    | (go_at_call 19; go_must (refine (HI.out _).mono ?_); rintro e w1 ⟨v1, rfl, hr1, hb1⟩))
  clear HI
  rw [ids_nums] at hr1
  obtain ⟨g, go, gc, u0, u1, u2, rfl, hgc, ⟨hg0, hg1⟩, hgl, hc0, hc1, hc2, r0, r1, r2⟩ := hr1.three
  have hb0 : Below w.heap.size w w1 := ((Below.refl _ _).alloc (Nat.le_refl _) _).trans (hb1.mono (by simp))
  have hM := fun (W : World) (hW : W.heap = w1.heap) => Merge_calls u0 u1 u2 (nums all b) (nums all o) (nums all t) W (by simp [nums]; omega) (by simp [nums]; omega) (by simp [nums]; omega)
    (r0.at_heap hW fun k hk => hk.2) (r1.at_heap hW fun k hk => hk.2) (r2.at_heap hW fun k hk => hk.2)
  rw [HMM.out, Option.isSome_map] at hM
  obtain ⟨ok, hok⟩ : ∃ ok, ok = M.isSome := ⟨_, rfl⟩
  rw [← hok] at hM
  have HOK := Lib.hid hok
  clear hok
  have HM := Lib.hid hM
  have R0 := Lib.hid (show Rd _ w1 u0 _ ∧ Rd _ w1 u1 _ ∧ Rd _ w1 u2 _ from ⟨r0, r1, r2⟩)
  obtain ⟨A0, k0, rfl, _⟩ := r0.form
  obtain ⟨A1, k1, rfl, _⟩ := r1.form
  obtain ⟨A2, k2, rfl, _⟩ := r2.form
  simp only [List.length_map, nums] at *
  have HR1 := Lib.hid hr1
  have HB1 := Lib.hid hb1
  clear hM hr1 hb1 r0 r1 r2
  go_region_held3 (fun w' => w'.cell? ⟨g, go, none⟩ = some (.slice A0 b.length k0) ∧ w'.cell? ⟨g, go + 1, none⟩ = some (.slice A1 o.length k1) ∧ w'.cell? ⟨g, go + 2, none⟩ = some (.slice A2 t.length k2))
    (first | go_keep | exact ⟨below_at' hb2 (by exact hgl) (by exact hc0), below_at' hb2 (by exact hgl) (by exact hc1), below_at' hb2 (by exact hgl) (by exact hc2)⟩)
    (first | (go_at_call 20; refine Calls.mono (HM.out _ (by rfl)) ?_; rintro e w2 ⟨v2, rfl, hr2, hb2⟩))
  have hs2 : w1.heap.size ≤ w2.heap.size := hb2.size
  have hb3 : Below w1.heap.size w1 w2 := ⟨hb2.os, hb2.tape, hb2.output, hb2.size, hb2.block⟩
  have hb4 : Below w.heap.size w w2 := hb0.trans (hb3.mono hb0.size)
  have HR2 := Lib.hid (show w2.ownsRow w1.heap.size 3 1 v2 _ _ from hr2)
  clear hr2 hb2
  cases M with
  | none =>
    have hok := HOK.out
    clear HOK
    rw [Option.isSome_none] at hok
    subst hok
    go_wp2
    go_ret2
    exact ⟨_, rfl, World.ownsRow_nil _ _ _ _, hb4⟩
  | some m =>
    have hok := HOK.out
    clear HOK
    rw [Option.isSome_some] at hok
    subst hok
    obtain ⟨hmem2, hml⟩ := hmem m rfl
    clear hmem
    have HME := Lib.hid hmem2
    have hrow : w2.ownsRow w1.heap.size 3 1 v2 m.length ((m.map fun s => (idOf all s : Int)).map (Value.int .i64)) := by have := HR2.out; simpa [nums] using this
    obtain ⟨V2, c2, rfl⟩ := own_slice hrow
    have HROW := Lib.hid hrow
    clear hmem2 hrow HM HR2 HMM
    have hb5 : Below w2.heap.size w2 (w2.alloc (.map #[] 0)) := (Below.refl _ _).alloc (Nat.le_refl _) _
    have hmade : (w2.alloc (.map #[] 0)).ownsMap Try.prog 3 (plainElem (H := Unit) Try.prog 9) w2.heap.size 0 (.map []) := World.ownsMap_made _ _ _ _
    have hfb : [b, o, t].flatten.length = b.length + o.length + t.length := by simp; omega
    go_wp2
    go_loopw [44] (fun vi wr => ∃ i : Nat, i ≤ 3 ∧ vi = .int .i64 i ∧ ∃ D : DataW Unit, wr.ownsMap Try.prog 3 (plainElem Try.prog 9) w2.heap.size (tfl [b, o, t] i).length D ∧ Says all (tfl [b, o, t] i) D ∧ Below w2.heap.size w2 wr)
      (fun vi _ => 3 - (intOf vi).toNat)
    case atStart => exact ⟨0, Nat.zero_le _, rfl, .map [], hmade, ⟨⟨_, rfl⟩, fun s hs => by simp [tfl] at hs⟩, hb5⟩
    case round =>
      obtain ⟨i, hi, rfl, D0, hmap, hsay, hB⟩ := hrel
      clear hmade hb5
      rename World => wo
      have hBo := hb4.trans (hB.mono hb4.size)
      have hB1o := hb3.trans (hB.mono hs2)
      have hB1a := HB1.out.trans (hB1o.mono HB1.out.size)
      by_cases hlt : i < 3
      · have hltz : (i : Int) < 3 := by omega
        obtain ⟨bi, oi, ci, ui, hvi, hoki, hli, hci, rui⟩ := HR1.out.isl_at (i := i) (by simpa using hlt)
        obtain ⟨e1, _, e3⟩ := Value.slice.inj hvi
        injection e1 with e1
        injection e1 with e1 e2
        subst e1; subst e2; subst e3
        obtain ⟨bs, os, cs, us, hvs, hoks, hls, hcs, rus⟩ := HLT.out.sl_at (i := i) (by simpa using hlt)
        obtain ⟨e1, _, _⟩ := Value.slice.inj hvs
        injection e1 with e1
        injection e1 with e1 e2
        subst e1; subst e2
        have hci' := below_at' hB1o hli hci
        rw [Nat.zero_add] at hcs
        obtain ⟨hts, htl⟩ := tfl_succ [b, o, t] (i := i) (by simpa using hlt)
        rw [hfb] at htl
        have hin : ∀ s ∈ [b, o, t][i], s ∈ all := fun s hs => by rw [← HFL.out]; exact List.mem_flatten.2 ⟨_, List.getElem_mem _, hs⟩
        have hin0 : ∀ s ∈ tfl [b, o, t] i, s ∈ all := fun s hs => by
          rw [← HFL.out]
          obtain ⟨l, hl, hs⟩ := List.mem_flatten.1 hs
          exact List.mem_flatten.2 ⟨l, List.mem_of_mem_take hl, hs⟩
        rw [List.getElem_map] at rui
        generalize [b, o, t][i] = ss at *
        generalize tfl [b, o, t] i = T0 at *
        obtain ⟨Ai, ki, rfl, _⟩ := rui.form
        obtain ⟨As, ks, rfl, _⟩ := rus.form
        simp only [List.length_map, nums] at *
        have HUI := Lib.hid rui
        have HUS := Lib.hid rus
        have HTS := Lib.hid hts
        have HIN := Lib.hid hin
        have HIN0 := Lib.hid hin0
        clear rui rus hts hin hin0 hvi hvs
        go_wp2
        go_loopw [51] (fun vk wx => ∃ k : Nat, k ≤ ss.length ∧ vk = .int .i64 k ∧ ∃ D : DataW Unit, wx.ownsMap Try.prog 3 (plainElem Try.prog 9) w2.heap.size (T0.length + k) D ∧ Says all (T0 ++ ss.take k) D ∧ Below w2.heap.size w2 wx)
          (fun vk _ => ss.length - (intOf vk).toNat)
        case atStart => exact ⟨0, Nat.zero_le _, rfl, D0, hmap, by simpa using hsay, hB⟩
        case round =>
          obtain ⟨k, hk, rfl, D, hmp, hsy, hBx⟩ := hrel
          clear hmap hsay
          by_cases hlk : k < ss.length
          · have hB1x := hb3.trans (hBx.mono hs2)
            have hB1b := HB1.out.trans (hB1x.mono HB1.out.size)
            have hcs' := below_at' hB1b hls hcs
            obtain ⟨b1, o1, rfl, _, hb1l, hcl1⟩ := HUI.out.ints (by simpa using (show 0 < ss.length by omega))
            obtain ⟨b2, o2, rfl, _, hb2l, hcl2⟩ := HUS.out.strs (by omega)
            have hd1 := below_at' hB1x hb1l (hcl1 k (by simpa using hlk))
            have hd2 := below_at' hB1b hb2l (hcl2 k hlk)
            have hg1 : (ss.map fun s => (idOf all s : Int)).getD k 0 = (idOf all ss[k] : Nat) := by simp [hlk]
            have hg2 : ss.getD k ByteArray.empty = ss[k] := by simp [hlk]
            rw [hg1] at hd1
            rw [hg2] at hd2
            have hsm : ss[k] ∈ all := HIN.out _ (List.getElem_mem hlk)
            have hsz := HZ.out _ hsm
            have hidl := idOf_lt hsm
            have htk : ss.take (k + 1) = ss.take k ++ [ss[k]] := by rw [List.take_succ_eq_append_getElem hlk]
            have hput := hsy.put (fun s hs => (List.mem_append.1 hs).elim (HIN0.out s) (fun h => HIN.out s (List.mem_of_mem_take h))) hsm
            rw [List.append_assoc, ← htk] at hput
            have HPUT := Lib.hid hput
            clear hcl1 hcl2 hg1 hg2 htk hput hsy hci hcs hsm
            generalize ss[k] = s at *
            generalize idOf all s = q at *
            go_wp2_with (at_mapUpdate; go_must (refine wpList_mapUpdate_own _ rfl _ _ _ 42 rfl 3 9 lawI Try.underlying42 _ w2.heap.size _ _ rfl hmp (by unfold maxLen; omega) _ _ _ rfl rfl (keyOf_int_mk Try.underlying3 (WalkArith.wf_i64 (by omega))) _ [] (plainElem_string Try.underlying9 hsz) ?_); intro w6 hmp6 hgr6)
            go_wp2
            go_roundw
            case rel => exact ⟨k + 1, by omega, by go_num, _, hmp6, HPUT.out, hBx.grown hgr6 hBx.size (fun j hj => by cases hj; exact Nat.le_refl _)⟩
            case measure => simp [intOf]; omega
          · have hke : k = ss.length := by omega
            rw [hke, List.take_length, ← HTS.out] at hsy
            rw [hke, ← List.length_append, ← HTS.out] at hmp
            have HSY := Lib.hid hsy
            have HMP := Lib.hid hmp
            clear hsy hmp
            go_wp2
            go_roundw
            case rel => exact ⟨i + 1, by omega, by go_num, D, HMP.out, HSY.out, hBx⟩
            case measure => simp [intOf]; omega
      · have hie : i = 3 := by omega
        have hT : tfl [b, o, t] i = all := by rw [hie, ← HFL.out]; rfl
        rw [hT] at hmap hsay
        have HSAY := Lib.hid hsay
        have hm2 := fun (W : World) (hW : Below wo.heap.size wo W) => map_below hmap hW
        have HM2 := Lib.hid hm2
        clear hmap hsay hm2 hT
        go_wp2
        go_loopw [17, 69] (fun vs vj wr => ∃ j : Nat, j ≤ m.length ∧ vj = .int .i64 j ∧ wr.ownsRow wo.heap.size 9 1 vs j ((m.take j).map Value.string) ∧ Below wo.heap.size wo wr)
          (fun _ vj _ => m.length - (intOf vj).toNat)
        case atStart => exact ⟨0, Nat.zero_le _, rfl, World.ownsRow_nil _ _ _ _, Below.refl _ _⟩
        case round =>
          obtain ⟨j, hj, rfl, hor, hBz⟩ := hrel
          by_cases hlj : j < m.length
          · obtain ⟨gm, cm, hv, hg1', hg2'⟩ := HROW.out.form (by omega)
            obtain ⟨e1, _, e3⟩ := Value.slice.inj hv
            subst e1; subst e3
            have hcell : w2.cell? ⟨gm, j, none⟩ = some (.int .i64 (idOf all m[j] : Nat)) := by rw [HROW.out.cellAt j (by omega)]; simp [hlj]
            have hcell' := below_at' (hB.trans (hBz.mono hB.size)) hg2' hcell
            have hsm : m[j] ∈ all := HME.out _ (List.getElem_mem hlj)
            have hidl := idOf_lt hsm
            have hat0 := HSAY.out.2 _ hsm
            have htk : m.take (j + 1) = m.take j ++ [m[j]] := by rw [List.take_succ_eq_append_getElem hlj]
            have hmap := HM2.out _ hBz
            have HTK := Lib.hid htk
            have HAT := Lib.hid hat0
            clear hcell hsm hat0 htk
            generalize m[j] = s at *
            generalize idOf all s = q at *
            go_wp2_with (first
              | (at_lookup; go_must (refine wpList_lookup_own_str _ rfl _ _ 42 rfl 3 9 lawI Try.underlying42 Try.underlying9 (zeroS _) w2.heap.size _ _ rfl hmap _ _ rfl (keyOf_int_mk Try.underlying3 (WalkArith.wf_i64 (by omega))) ?_); intro c hat)
              | (at_builtin; go_must (refine app_one (w0 := wo) wo.heap.size rfl _ _ 26 9 rfl Try.underlying26 infoStr rfl (by decide) (by decide) [.string c] rfl rfl rfl (by simp [Value.oneCell']) (by exact hor) hBz hBz.size (by omega) ?_); intro v' w7 hown' hbe' _ _))
            have hcs : c = s := str_of_list ((HAT.out).symm.trans hat)
            subst hcs
            go_wp2
            go_roundw
            case rel => exact ⟨v', _, .int .i64 ((j : Int) + 1), ⟨j + 1, by omega, by go_num, by rw [← List.map_take, HTK.out, List.map_append]; exact hown'⟩, rfl, rfl, rfl⟩
            case measure => simp [intOf]; omega
          · have hje : j = m.length := by omega
            rw [hje, List.take_length] at hor
            have HOR := Lib.hid hor
            clear hor
            go_wp2
            go_ret2
            exact ⟨_, rfl, own_lower HOR.out hBo.size, hBo.trans (hBz.mono hBo.size)⟩
end Go.Proofs.Ytnoloihdcmgbaaa
