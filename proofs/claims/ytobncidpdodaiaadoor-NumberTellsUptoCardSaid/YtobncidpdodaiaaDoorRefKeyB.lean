/- The walk of the document's Key (layer 15). -/
import Derived.Test.YtobncidpdodaiaaDoorRefKey
import Derived.Test.YtobncidpdodaiaaDoorLit
import Derived.Test.YtobncidpdodaiaaDoorTexts
import Derived.Deep.DeepCutAuto
namespace Go.Proofs.YtobncidpdodaiaaDoor
open Go.RowKit Go.PlainAid
set_option linter.all false
set_option linter.deprecated false
set_option maxRecDepth 100000
set_option maxHeartbeats 8000000 in
theorem Key15_calls : ∀ (N : Nat) (k n : Int) (inf : ByteArray) (ls : List ByteArray) (sp : List Sp) (l : List Bl) (_ : (dBl (.mk k n inf ls sp l)).bulk < N) (_ : N ≤ 1048577) (_ : (Bl.mk k n inf ls sp l).wf) (A1 : Option Addr) (c1 : Nat) (A2 : Option Addr) (c2 : Nat) (A3 : Option Addr) (c3 : Nat) (B : Nat) (w : World)
    (_ : Rd (· < B) w (.slice A1 ls.length c1) (ls.map D.str)) (_ : Rd (· < B) w (.slice A2 sp.length c2) (dSps sp)) (_ : Rd (· < B) w (.slice A3 l.length c3) (dBls l)) (_ : B ≤ w.heap.size),
    Calls Tryd.prog 26 #[.agg #[.int .i64 k, .int .i64 n, .string inf, .slice A1 ls.length c1, .slice A2 sp.length c2, .slice A3 l.length c3]] w (Text ⟨(keyB (.mk k n inf ls sp l)).toArray⟩ w) := by
  intro N
  induction N with
  | zero => intro _ _ _ _ _ _ h; exact absurd h (Nat.not_lt_zero _)
  | succ N ih =>
    have IH := Lib.hid ih
    clear ih
    intro k n inf ls sp l hN hN2 hwf A1 c1 A2 c2 A3 c3 B w hR1 hR2 hR3 hB
    rw [bulk_bl] at hN
    rw [Bl.wf] at hwf
    obtain ⟨hk, hn, hsp, hlw⟩ := hwf
    have hll : l.length ≤ D.bulks (dBls l) := by have := D.len_bulks (dBls l); rwa [dBls_len] at this
    have hls : ls.length ≤ D.bulks (ls.map D.str) := by have := D.len_bulks (ls.map D.str); rwa [List.length_map] at this
    have hbw : Below w.heap.size w (w.alloc (.cells #[.int .i64 k, .int .i64 n, .string inf, .slice A1 ls.length c1, .slice A2 sp.length c2, .slice A3 l.length c3] 26)) := below_alloc (Below.refl _ _) (Nat.le_refl _) _
    have hgx := World.alloc_heap_new w (.cells #[.int .i64 k, .int .i64 n, .string inf, .slice A1 ls.length c1, .slice A2 sp.length c2, .slice A3 l.length c3] 26)
    have h1 := itoa_len k hk
    have h2 := itoa_len n hn
    have h3 := txtB_len (s := inf) (by omega)
    have h4 := itoa_len ls.length (wfI_nat (by omega))
    have h5 := itoa_len l.length (wfI_nat (by omega))
    have h6 : (keySps sp).length ≤ 1073741824 := by
      have h61 := keySpl_len sp hsp (by omega)
      have h62 := numB_len (wfI_nat (n := sp.length) (by have := D.len_bulks (dSps sp); rw [dSps_len] at this; omega))
      unfold keySps
      rw [List.length_append]; omega
    have HX := Lib.hid (fun W (hW : Below (w.alloc (.cells #[.int .i64 k, .int .i64 n, .string inf, .slice A1 ls.length c1, .slice A2 sp.length c2, .slice A3 l.length c3] 26)).heap.size _ W) => six ((hW.block w.heap.size (by simp)).trans hgx))
    have cK := Lib.hid (fun W => Digits_calls k hk W)
    have cN := Lib.hid (fun W => Digits_calls n hn W)
    have cI := Lib.hid (fun W => text15_calls inf (by omega) W)
    have cL := Lib.hid (fun W => Digits_calls ls.length (wfI_nat (by omega)) W)
    have cM := Lib.hid (fun W => Digits_calls l.length (wfI_nat (by omega)) W)
    have cS := Lib.hid (fun W (hW : Below (w.alloc (.cells #[.int .i64 k, .int .i64 n, .string inf, .slice A1 ls.length c1, .slice A2 sp.length c2, .slice A3 l.length c3] 26)).heap.size (w.alloc (.cells #[.int .i64 k, .int .i64 n, .string inf, .slice A1 ls.length c1, .slice A2 sp.length c2, .slice A3 l.length c3] 26)) W) => spans15_calls _ sp (Nat.lt_succ_self _) (by omega) hsp B _ W (hR2.step (fun k hk _ => (below_to hbw hbw.size hW).block k (by omega)) (fun _ h _ => h)) (by have := hbw.size; have := hW.size; omega))
    have HR1 := Lib.hid hR1
    have HR3 := Lib.hid hR3
    have HBW := Lib.hid hbw
    have HLW := Lib.hid ((Bls.wf_iff l).1 hlw)
    have hx1 : (⟨(Lib.itoa k).toArray⟩ ++ ⟨#[59]⟩ ++ ⟨(Lib.itoa n).toArray⟩ ++ ⟨#[59]⟩ ++ ⟨(txtB inf).toArray⟩ ++ ⟨(Lib.itoa ls.length).toArray⟩ ++ ⟨#[59]⟩ : ByteArray) = ⟨(numB k ++ (numB n ++ (txtB inf ++ (numB ls.length ++ (ls.take 0).flatMap txtB)))).toArray⟩ := by
      apply ByteArray.ext
      simp [numB, List.append_assoc]
    have HX1 := Lib.hid hx1
    have g1 : (ByteArray.mk (Lib.itoa k).toArray).size ≤ 64 := h1
    have g2 : (ByteArray.mk (Lib.itoa n).toArray).size ≤ 64 := h2
    have g3 : (ByteArray.mk (txtB inf).toArray).size ≤ 1073741824 := by rw [ba_size]; omega
    have g4 : (ByteArray.mk (Lib.itoa ls.length).toArray).size ≤ 64 := h4
    generalize (⟨(Lib.itoa k).toArray⟩ : ByteArray) = S1 at *
    generalize (⟨(Lib.itoa n).toArray⟩ : ByteArray) = S2 at *
    generalize (⟨(txtB inf).toArray⟩ : ByteArray) = S3 at *
    generalize (⟨(Lib.itoa ls.length).toArray⟩ : ByteArray) = S4 at *
    have z1 : ¬ 9223372036854775807 < S1.size + 1 := by omega
    have z2 : ¬ 9223372036854775807 < S1.size + 1 + S2.size := by omega
    have z3 : ¬ 9223372036854775807 < S1.size + 1 + S2.size + 1 := by omega
    have z4 : ¬ 9223372036854775807 < S1.size + 1 + S2.size + 1 + S3.size := by omega
    have z5 : ¬ 9223372036854775807 < S1.size + 1 + S2.size + 1 + S3.size + S4.size := by omega
    have z6 : ¬ 9223372036854775807 < S1.size + 1 + S2.size + 1 + S3.size + S4.size + 1 := by omega
    obtain ⟨f0, f1, f2, f3, f4, f5⟩ := HX.out _ (Below.refl _ _)
    clear hR1 hR2 hR3 hbw hgx hx1 hlw
    go_enter Tryd.func26, Tryd.ntmps26
    go_upto_region 1 with (fail)
    generalize hW1 : w.alloc (.cells #[.int .i64 k, .int .i64 n, .string inf, .slice A1 ls.length c1, .slice A2 sp.length c2, .slice A3 l.length c3] 26) = W1 at *
    clear hW1
    have hlx : w.heap.size < W1.heap.size := World.block_lt_of_cell? W1 _ f0
    go_region_held3 (fun w' => w'.cell? ⟨w.heap.size, 0, none⟩ = some (.int .i64 k) ∧ w'.cell? ⟨w.heap.size, 1, none⟩ = some (.int .i64 n) ∧ w'.cell? ⟨w.heap.size, 2, none⟩ = some (.string inf) ∧ w'.cell? ⟨w.heap.size, 3, none⟩ = some (.slice A1 ls.length c1))
      (first | go_keep | exact ⟨below_at' hbq hlx f0, below_at' hbq hlx f1, below_at' hbq hlx f2, below_at' hbq hlx f3⟩)
      (first
        | (go_at_call 43; (with_reducible refine (cK.out _).mono ?_); rintro e w' ⟨rfl, hbq'⟩; have hbq := (Below.drew (Below.refl W1.heap.size W1)).trans hbq')
        | (go_at_call 43; (with_reducible refine (cN.out _).mono ?_); rintro e w' ⟨rfl, hbq'⟩; have hbq := below_to hbq hbq.size hbq')
        | (go_at_call 44; (with_reducible refine (cI.out _).mono ?_); rintro e w' ⟨rfl, hbq'⟩; have hbq := below_to hbq hbq.size hbq')
        | (go_at_call 43; (with_reducible refine (cL.out _).mono ?_); rintro e w' ⟨rfl, hbq'⟩; have hbq := below_to hbq hbq.size hbq'))
    obtain ⟨d0, d1, d2, d3, d4, d5⟩ := HX.out _ hbq
    clear f0 f1 f2 f3 f4 f5
    go_wp2_with fail
    go_loopw [3, 28] (fun vs vi wr => ∃ i : Nat, i ≤ ls.length ∧ vi = .int .i64 i ∧ vs = .string ⟨(numB k ++ (numB n ++ (txtB inf ++ (numB ls.length ++ (ls.take i).flatMap txtB)))).toArray⟩ ∧ Below W1.heap.size W1 wr) (fun _ vi _ => ls.length - (intOf vi).toNat)
    case atStart => exact ⟨0, Nat.zero_le _, rfl, by rw [← HX1.out], hbq⟩
    case round =>
      clear hbq d0 d1 d2 d3 d4 d5 z1 z2 z3 z4 z5 z6
      obtain ⟨i, hi, rfl, rfl, hbr⟩ := hrel
      obtain ⟨d0, d1, d2, d3, d4, d5⟩ := HX.out _ hbr
      have hbwr := HBW.out.trans (hbr.mono (by omega))
      by_cases hlt : i < ls.length
      · have hRr : Rd (· < B) wr (.slice A1 ls.length c1) (ls.map D.str) := HR1.out.step (fun k hk _ => hbwr.block k (by omega)) (fun _ h _ => h)
        obtain ⟨bb, o, rfl, _, _, hcell⟩ := hRr.str_cell hlt
        have hbt := bulksT_take hlt
        have htx := txts_len (ls.take i) (by omega)
        have htk : (ls.take (i + 1)).flatMap txtB = (ls.take i).flatMap txtB ++ txtB ls[i] := by rw [List.take_succ_eq_append_getElem hlt, List.flatMap_append]; simp
        have hT := txtB_len (s := ls[i]) (by omega)
        generalize ls[i] = s at *
        have hct := text15_calls s (by omega) wr
        have hnx : (⟨(numB k ++ (numB n ++ (txtB inf ++ (numB ls.length ++ (ls.take (i + 1)).flatMap txtB)))).toArray⟩ : ByteArray) = ⟨(numB k ++ (numB n ++ (txtB inf ++ (numB ls.length ++ (ls.take i).flatMap txtB)))).toArray⟩ ++ ⟨(txtB s).toArray⟩ := by
          rw [htk]; apply ByteArray.ext; simp [List.append_assoc]
        have q1 : (ByteArray.mk (numB k ++ (numB n ++ (txtB inf ++ (numB ls.length ++ (ls.take i).flatMap txtB)))).toArray).size ≤ 1073741824 := by
          have e1 := numB_len hk
          have e2 := numB_len hn
          have e3 := numB_len (wfI_nat (n := ls.length) (by omega))
          rw [ba_size]; simp only [List.length_append]; omega
        have q2 : (ByteArray.mk (txtB s).toArray).size ≤ 1073741824 := by rw [ba_size]; omega
        generalize (⟨(numB k ++ (numB n ++ (txtB inf ++ (numB ls.length ++ (ls.take i).flatMap txtB)))).toArray⟩ : ByteArray) = P at *
        generalize (⟨(txtB s).toArray⟩ : ByteArray) = T at *
        have z1 : ¬ 9223372036854775807 < P.size + T.size := by omega
        have HCT := Lib.hid hct
        have HNX := Lib.hid hnx
        clear hct hnx htk hRr htx hbt
        go_wp2_with fail
        refine HCT.out.mono ?_
        rintro e w7 ⟨rfl, hb7⟩
        go_wp2_with fail
        go_roundw
        case rel => exact ⟨i + 1, by omega, by go_num, by rw [HNX.out], below_to hbr hbr.size hb7⟩
        case measure => simp [intOf]; omega
      · have hie : i = ls.length := by omega
        rw [hie, List.take_length]
        clear hie hlt hi
        have g5 : (ByteArray.mk (Lib.itoa l.length).toArray).size ≤ 64 := h5
        have g6 : (ByteArray.mk (keySps sp).toArray).size ≤ 1073741824 := h6
        have htx := txts_len ls (by omega)
        have q1 : (ByteArray.mk (numB k ++ (numB n ++ (txtB inf ++ (numB ls.length ++ ls.flatMap txtB)))).toArray).size ≤ 1073741824 := by
          have e1 := numB_len hk
          have e2 := numB_len hn
          have e3 := numB_len (wfI_nat (n := ls.length) (by omega))
          rw [ba_size]; simp only [List.length_append]; omega
        have hx2 : (⟨(numB k ++ (numB n ++ (txtB inf ++ (numB ls.length ++ ls.flatMap txtB)))).toArray⟩ ++ ⟨(keySps sp).toArray⟩ ++ ⟨(Lib.itoa l.length).toArray⟩ ++ ⟨#[59]⟩ : ByteArray) = ⟨(numB k ++ (numB n ++ (txtB inf ++ (numB ls.length ++ (ls.flatMap txtB ++ (keySps sp ++ (numB l.length ++ keyBl (l.take 0)))))))).toArray⟩ := by
          apply ByteArray.ext
          simp [numB, keyBl, List.append_assoc]
        have HX2 := Lib.hid hx2
        generalize (⟨(numB k ++ (numB n ++ (txtB inf ++ (numB ls.length ++ ls.flatMap txtB)))).toArray⟩ : ByteArray) = P at *
        generalize (⟨(keySps sp).toArray⟩ : ByteArray) = S5 at *
        generalize (⟨(Lib.itoa l.length).toArray⟩ : ByteArray) = S6 at *
        have z1 : ¬ 9223372036854775807 < P.size + S5.size := by omega
        have z2 : ¬ 9223372036854775807 < P.size + S5.size + S6.size := by omega
        have z3 : ¬ 9223372036854775807 < P.size + S5.size + S6.size + 1 := by omega
        have hlr : w.heap.size < wr.heap.size := Nat.lt_of_lt_of_le hlx hbr.size
        clear hx2
        go_wp2_with fail
        go_region_held3 (fun w' => w'.cell? ⟨w.heap.size, 4, none⟩ = some (.slice A2 sp.length c2) ∧ w'.cell? ⟨w.heap.size, 5, none⟩ = some (.slice A3 l.length c3))
          (first | go_keep | exact ⟨below_at' hbq hlr d4, below_at' hbq hlr d5⟩)
          (first
            | (go_at_call 45; (with_reducible refine (cS.out _ (Below.drew hbr)).mono ?_); rintro e w' ⟨rfl, hbq'⟩; have hbq := (Below.drew (Below.refl wr.heap.size wr)).trans hbq')
            | (go_at_call 43; (with_reducible refine (cM.out _).mono ?_); rintro e w' ⟨rfl, hbq'⟩; have hbq := below_to hbq hbq.size hbq'))
        have hbr2 := below_to hbr hbr.size hbq
        clear d0 d1 d2 d3 d4 d5
        obtain ⟨d0, d1, d2, d3, d4, d5⟩ := HX.out _ hbr2
        go_wp2_with fail
        go_loopw [3, 54] (fun vs vi wx => ∃ i : Nat, i ≤ l.length ∧ vi = .int .i64 i ∧ vs = .string ⟨(numB k ++ (numB n ++ (txtB inf ++ (numB ls.length ++ (ls.flatMap txtB ++ (keySps sp ++ (numB l.length ++ keyBl (l.take i)))))))).toArray⟩ ∧ Below W1.heap.size W1 wx) (fun _ vi _ => l.length - (intOf vi).toNat)
        case atStart => exact ⟨0, Nat.zero_le _, rfl, by rw [← HX2.out], hbr2⟩
        case round =>
          clear hbq d0 d1 d2 d3 d4 d5 z1 z2 z3 hbr hbwr hbr2 hlr
          obtain ⟨i, hi, rfl, rfl, hbr⟩ := hrel
          obtain ⟨d0, d1, d2, d3, d4, d5⟩ := HX.out _ hbr
          have hbwr := HBW.out.trans (hbr.mono (by omega))
          by_cases hlt : i < l.length
          · have hRr : Rd (· < B) wr (.slice A3 l.length c3) (dBls l) := HR3.out.step (fun k hk _ => hbwr.block k (by omega)) (fun _ h _ => h)
            obtain ⟨bb, o, u, v, y, rfl, _, _, e0, e1, e2, e3, e4, e5, k1, k2, k3⟩ := hRr.bl_at hlt
            have hbt := bulksB_take hlt
            have hxw := HLW.out _ (List.getElem_mem hlt)
            have htk : keyBl (l.take (i + 1)) = keyBl (l.take i) ++ keyB l[i] := by rw [List.take_succ_eq_append_getElem hlt, keyBl_append, keyBl, keyBl, List.append_nil]
            have hkt := keyBl_len (l.take i) ((Bls.wf_iff _).2 (fun y hy => HLW.out y (List.mem_of_mem_take hy))) (by omega)
            have hkx := keyB_len l[i] hxw (by omega)
            generalize l[i] = x at *
            obtain ⟨K, Nn, I, LS, SP, L⟩ := x
            simp only [Bl.kind, Bl.level, Bl.info, Bl.lines, Bl.spans, Bl.kids] at e0 e1 e2 e3 e4 e5 k1 k2 k3
            obtain ⟨T1, t1, rfl, _, _⟩ := k1.form
            obtain ⟨T2, t2, rfl, _, _⟩ := k2.form
            obtain ⟨T3, t3, rfl, _, _⟩ := k3.form
            simp only [dSps_len, dBls_len, List.length_map] at e3 e4 e5 k1 k2 k3
            have hct := IH.out K Nn I LS SP L (by omega) (by omega) hxw T1 t1 T2 t2 T3 t3 B wr k1 k2 k3 (by have := hbwr.size; omega)
            have hnx : (⟨(numB k ++ (numB n ++ (txtB inf ++ (numB ls.length ++ (ls.flatMap txtB ++ (keySps sp ++ (numB l.length ++ keyBl (l.take (i + 1))))))))).toArray⟩ : ByteArray) = ⟨(numB k ++ (numB n ++ (txtB inf ++ (numB ls.length ++ (ls.flatMap txtB ++ (keySps sp ++ (numB l.length ++ keyBl (l.take i)))))))).toArray⟩ ++ ⟨(keyB (.mk K Nn I LS SP L)).toArray⟩ := by
              rw [htk]; apply ByteArray.ext; simp [List.append_assoc]
            have q1' : (ByteArray.mk (numB k ++ (numB n ++ (txtB inf ++ (numB ls.length ++ (ls.flatMap txtB ++ (keySps sp ++ (numB l.length ++ keyBl (l.take i)))))))).toArray).size ≤ 4294967296 := by
              have e1 := numB_len hk
              have e2 := numB_len hn
              have e3 := numB_len (wfI_nat (n := ls.length) (by omega))
              have e4 := numB_len (wfI_nat (n := l.length) (by omega))
              rw [ba_size]; simp only [List.length_append]; omega
            have q2' : (ByteArray.mk (keyB (.mk K Nn I LS SP L)).toArray).size ≤ 4294967296 := by rw [ba_size]; omega
            generalize (⟨(numB k ++ (numB n ++ (txtB inf ++ (numB ls.length ++ (ls.flatMap txtB ++ (keySps sp ++ (numB l.length ++ keyBl (l.take i)))))))).toArray⟩ : ByteArray) = P2 at *
            generalize (⟨(keyB (.mk K Nn I LS SP L)).toArray⟩ : ByteArray) = T at *
            have z1 : ¬ 9223372036854775807 < P2.size + T.size := by omega
            have HCT := Lib.hid hct
            have HNX := Lib.hid hnx
            clear hct hnx htk hRr hkt hkx hbt k1 k2 k3
            go_wp2_with fail
            refine HCT.out.mono ?_
            rintro e w7 ⟨rfl, hb7⟩
            go_wp2_with fail
            go_roundw
            case rel => exact ⟨i + 1, by omega, by go_num, by rw [HNX.out], below_to hbr hbr.size hb7⟩
            case measure => simp [intOf]; omega
          · have hie : i = l.length := by omega
            have hfin : (⟨(numB k ++ (numB n ++ (txtB inf ++ (numB ls.length ++ (ls.flatMap txtB ++ (keySps sp ++ (numB l.length ++ keyBl (l.take i)))))))).toArray⟩ : ByteArray) = ⟨(keyB (.mk k n inf ls sp l)).toArray⟩ := by rw [hie, List.take_length]; rfl
            rw [hfin]
            clear hie hfin
            go_wp2_with fail
            go_ret
            exact ⟨rfl, hbwr⟩
end Go.Proofs.YtobncidpdodaiaaDoor
