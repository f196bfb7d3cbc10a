/- The walks of number's writer on blocks; Key. -/
import Derived.Test.YtobncidpdodaiaaDoorKeyS
import Derived.Test.YtobncidpdodaiaaDoorTexts
namespace Go.Proofs.YtobncidpdodaiaaDoor
open Go.RowKit Go.PlainAid
set_option linter.all false
set_option linter.deprecated false
set_option maxRecDepth 100000
theorem bulk_bl (k n : Int) (i : ByteArray) (ls : List ByteArray) (sp : List Sp) (l : List Bl) : (dBl (.mk k n i ls sp l)).bulk = i.size + D.bulks (ls.map D.str) + D.bulks (dSps sp) + D.bulks (dBls l) + 7 := by simp only [dBl, D.bulk, D.bulks]; omega
theorem txts_len : ∀ (ls : List ByteArray), D.bulks (ls.map D.str) ≤ 4398046511104 → (ls.flatMap txtB).length ≤ 200 * D.bulks (ls.map D.str)
  | [], _ => by simp
  | s :: ls, h => by
    rw [List.map_cons, D.bulks, D.bulk] at h ⊢
    rw [List.flatMap_cons, List.length_append]
    have h1 := txtB_len (s := s) (by omega)
    have h2 := txts_len ls (by omega)
    omega
mutual
theorem keyB_len : ∀ (x : Bl), x.wf → (dBl x).bulk ≤ 4398046511104 → (keyB x).length ≤ 200 * (dBl x).bulk
  | .mk k n i ls sp l, hw, hb => by
    rw [bulk_bl] at hb ⊢
    rw [Bl.wf] at hw
    have h1 := numB_len hw.1
    have h2 := numB_len hw.2.1
    have h3 := txtB_len (s := i) (by omega)
    have e1 : ls.length ≤ D.bulks (ls.map D.str) := by have := D.len_bulks (ls.map D.str); rwa [List.length_map] at this
    have h4 := numB_len (wfI_nat (n := ls.length) (by omega))
    have h5 := txts_len ls (by omega)
    have e2 : sp.length ≤ D.bulks (dSps sp) := by have := D.len_bulks (dSps sp); rwa [dSps_len] at this
    have h6 := numB_len (wfI_nat (n := sp.length) (by omega))
    have h7 := keySpl_len sp hw.2.2.1 (by omega)
    have e3 : l.length ≤ D.bulks (dBls l) := by have := D.len_bulks (dBls l); rwa [dBls_len] at this
    have h8 := numB_len (wfI_nat (n := l.length) (by omega))
    have h9 := keyBl_len l hw.2.2.2 (by omega)
    rw [keyB, keySps]
    simp only [List.length_append]
    omega
theorem keyBl_len : ∀ (l : List Bl), Bls.wf l → D.bulks (dBls l) ≤ 4398046511104 → (keyBl l).length ≤ 200 * D.bulks (dBls l)
  | [], _, _ => by simp [keyBl]
  | x :: l, hw, hb => by
    rw [dBls, D.bulks] at hb ⊢
    rw [Bls.wf] at hw
    have h1 := keyB_len x hw.1 (by omega)
    have h2 := keyBl_len l hw.2 (by omega)
    rw [keyBl, List.length_append]
    omega
end
theorem keyBl_append : ∀ a b : List Bl, keyBl (a ++ b) = keyBl a ++ keyBl b
  | [], b => rfl
  | x :: a, b => by rw [List.cons_append, keyBl, keyBl, keyBl_append a b, List.append_assoc]
theorem bulksB_take {l : List Bl} {i : Nat} (hi : i < l.length) : D.bulks (dBls (l.take i)) + (dBl l[i]).bulk ≤ D.bulks (dBls l) := by
  have e : l = l.take i ++ (l[i] :: l.drop (i + 1)) := by rw [List.getElem_cons_drop, List.take_append_drop]
  conv => rhs; rw [e, dBls_map, List.map_append, D.bulks_append, List.map_cons, D.bulks]
  rw [dBls_map]
  omega
theorem bulksT_take {l : List ByteArray} {i : Nat} (hi : i < l.length) : D.bulks ((l.take i).map D.str) + (l[i].size + 1) ≤ D.bulks (l.map D.str) := by
  have e : l = l.take i ++ (l[i] :: l.drop (i + 1)) := by rw [List.getElem_cons_drop, List.take_append_drop]
  conv => rhs; rw [e, List.map_append, D.bulks_append, List.map_cons, D.bulks, D.bulk]
  omega
/-- What a writer has done since some world, and what it holds. -/
structure Wr (B b : Nat) (w : World) (P : List UInt8) (w' : World) : Prop where
  at' : WrAt B b P w'
  below : Below B w w'
  oth : Oth b w w'
theorem Wr.then {B b : Nat} {w w1 w2 : World} {P Q : List UInt8} (h : Wr B b w P w1) (h1 : WrAt B b Q w2) (h2 : Below B w1 w2) (h3 : Oth b w1 w2) : Wr B b w Q w2 := ⟨h1, h.below.trans h2, h.oth.trans h3⟩
theorem Wr.alloc {B b : Nat} {w w1 : World} {P : List UInt8} (h : Wr B b w P w1) (hB : B ≤ w.heap.size) (o : Obj) : Wr B b w P (w1.alloc o) :=
  ⟨h.at'.below (below_alloc (Below.refl _ _) (Nat.le_refl _) o), below_alloc h.below (Nat.le_trans hB h.below.size) o, h.oth.alloc o⟩
set_option maxHeartbeats 10000000 in
theorem wblock_calls (B b : Nat) : ∀ (N : Nat) (k n : Int) (inf : ByteArray) (ls : List ByteArray) (sp : List Sp) (l : List Bl) (_ : (dBl (.mk k n inf ls sp l)).bulk < N) (_ : N ≤ 1048577) (_ : (Bl.mk k n inf ls sp l).wf) (A1 : Option Addr) (c1 : Nat) (A2 : Option Addr) (c2 : Nat) (A3 : Option Addr) (c3 : Nat) (pre : List UInt8) (w : World)
    (_ : Rd (· < B) w (.slice A1 ls.length c1) (ls.map D.str)) (_ : Rd (· < B) w (.slice A2 sp.length c2) (dSps sp)) (_ : Rd (· < B) w (.slice A3 l.length c3) (dBls l)) (_ : WrAt B b pre w) (_ : PowB B w) (_ : B ≤ w.heap.size) (_ : pre.length + 200 * (dBl (.mk k n inf ls sp l)).bulk ≤ 4398046511104),
    Calls Tryd.prog 29 #[.pointer (some ⟨b, 0, none⟩), .agg #[.int .i64 k, .int .i64 n, .string inf, .slice A1 ls.length c1, .slice A2 sp.length c2, .slice A3 l.length c3]] w fun e w' => e = .returned (.tuple #[]) ∧ Wr B b w (pre ++ keyB (.mk k n inf ls sp l)) w' := by
  intro N
  induction N with
  | zero => intro _ _ _ _ _ _ h; exact absurd h (Nat.not_lt_zero _)
  | succ N ih =>
    have IH := Lib.hid ih
    clear ih
    intro k n inf ls sp l hN hN2 hwf A1 c1 A2 c2 A3 c3 pre w hR1 hR2 hR3 hW hP hB hlen
    have hkey : pre ++ keyB (.mk k n inf ls sp l) = (pre ++ numB k ++ numB n ++ txtB inf ++ numB ls.length ++ ls.flatMap txtB ++ keySps sp ++ numB l.length) ++ keyBl l := by rw [keyB]; simp only [List.append_assoc]
    rw [hkey]
    rw [bulk_bl] at hN hlen
    rw [Bl.wf] at hwf
    obtain ⟨hw1, hw2, hw3, hw4⟩ := hwf
    have n1 := numB_len hw1
    have n2 := numB_len hw2
    have n3 := txtB_len (s := inf) (by omega)
    have e1 : ls.length ≤ D.bulks (ls.map D.str) := by have := D.len_bulks (ls.map D.str); rwa [List.length_map] at this
    have n4 := numB_len (wfI_nat (n := ls.length) (by omega))
    have n5 := txts_len ls (by omega)
    have e2 : sp.length ≤ D.bulks (dSps sp) := by have := D.len_bulks (dSps sp); rwa [dSps_len] at this
    have n6 := numB_len (wfI_nat (n := sp.length) (by omega))
    have n7 := keySpl_len sp hw3 (by omega)
    have e3 : l.length ≤ D.bulks (dBls l) := by have := D.len_bulks (dBls l); rwa [dBls_len] at this
    have n8 := numB_len (wfI_nat (n := l.length) (by omega))
    have hbl := hW.lt
    have hbox := World.alloc_heap_new w (.cells #[.int .i64 k, .int .i64 n, .string inf, .slice A1 ls.length c1, .slice A2 sp.length c2, .slice A3 l.length c3] 26)
    have V0 : Wr B b w pre (w.alloc (.cells #[.int .i64 k, .int .i64 n, .string inf, .slice A1 ls.length c1, .slice A2 sp.length c2, .slice A3 l.length c3] 26)) := Wr.alloc ⟨hW, Below.refl _ _, Lib.OthersKept.refl _ _ _⟩ hB _
    have hne : w.heap.size ≠ b := by omega
    have hin : ∀ (X : World) (Q : List UInt8), Wr B b (w.alloc (.cells #[.int .i64 k, .int .i64 n, .string inf, .slice A1 ls.length c1, .slice A2 sp.length c2, .slice A3 l.length c3] 26)) Q X → X.cell? ⟨w.heap.size, 0, none⟩ = some (.int .i64 k) ∧ X.cell? ⟨w.heap.size, 1, none⟩ = some (.int .i64 n) ∧ X.cell? ⟨w.heap.size, 2, none⟩ = some (.string inf) ∧ X.cell? ⟨w.heap.size, 3, none⟩ = some (.slice A1 ls.length c1) ∧ X.cell? ⟨w.heap.size, 4, none⟩ = some (.slice A2 sp.length c2) ∧ X.cell? ⟨w.heap.size, 5, none⟩ = some (.slice A3 l.length c3) := fun X Q h => by
      have hb := box_kept h.oth hbox hne (by decide)
      exact ⟨(row_facts hb 0 rfl).1, (row_facts hb 1 rfl).1, (row_facts hb 2 rfl).1, (row_facts hb 3 rfl).1, (row_facts hb 4 rfl).1, (row_facts hb 5 rfl).1⟩
    have hsz0 : w.heap.size < (w.alloc (.cells #[.int .i64 k, .int .i64 n, .string inf, .slice A1 ls.length c1, .slice A2 sp.length c2, .slice A3 l.length c3] 26)).heap.size := by simp
    have U0 : Wr B b (w.alloc (.cells #[.int .i64 k, .int .i64 n, .string inf, .slice A1 ls.length c1, .slice A2 sp.length c2, .slice A3 l.length c3] 26)) pre (w.alloc (.cells #[.int .i64 k, .int .i64 n, .string inf, .slice A1 ls.length c1, .slice A2 sp.length c2, .slice A3 l.length c3] 26)) := ⟨V0.at', Below.refl _ _, Lib.OthersKept.refl _ _ _⟩
    have HP := Lib.hid (hP.step V0.below)
    have HR1 := Lib.hid (hR1.step (ok' := (· < B)) (fun k hk _ => V0.below.block k hk) (fun _ h _ => h))
    have HR2 := Lib.hid (hR2.step (ok' := (· < B)) (fun k hk _ => V0.below.block k hk) (fun _ h _ => h))
    have HR3 := Lib.hid (hR3.step (ok' := (· < B)) (fun k hk _ => V0.below.block k hk) (fun _ h _ => h))
    have HIN := Lib.hid hin
    have HV := Lib.hid V0
    have HU := Lib.hid U0
    clear hR1 hR2 hR3 hP hin V0 U0 hbox hW hkey
    go_enter Tryd.func29, Tryd.ntmps29
    have U0 := HU
    have z0 := U0.out.below.size
    obtain ⟨x0, x1, x2, x3, x4, x5⟩ := HIN.out _ _ U0.out
    go_wp2_with fail
    refine (wnumber_calls B b pre k _ U0.out.at' hw1 (HP.out.step U0.out.below) (by omega) (by omega)).mono ?_
    rintro e w1 ⟨rfl, h1, b1, ok1⟩
    have U1 := Lib.hid (U0.out.then h1 b1 ok1)
    have z1 := U1.out.below.size
    clear h1 b1 ok1 x0 x1 x2 x3 x4 x5
    obtain ⟨x0, x1, x2, x3, x4, x5⟩ := HIN.out _ _ U1.out
    go_wp2_with fail
    refine (wnumber_calls B b (pre ++ numB k) n _ U1.out.at' hw2 (HP.out.step U1.out.below) (by omega) (by simp only [List.length_append]; omega)).mono ?_
    rintro e w2 ⟨rfl, h2, b2, ok2⟩
    have U2 := Lib.hid (U1.out.then h2 b2 ok2)
    have z2 := U2.out.below.size
    clear h2 b2 ok2 x0 x1 x2 x3 x4 x5
    obtain ⟨x0, x1, x2, x3, x4, x5⟩ := HIN.out _ _ U2.out
    go_wp2_with fail
    refine (wtext_calls B b (pre ++ numB k ++ numB n) inf _ U2.out.at' (by omega) (HP.out.step U2.out.below) (by omega) (by simp only [List.length_append]; omega)).mono ?_
    rintro e w3 ⟨rfl, h3, b3, ok3⟩
    have U3 := Lib.hid (U2.out.then h3 b3 ok3)
    have z3 := U3.out.below.size
    clear h3 b3 ok3 x0 x1 x2 x3 x4 x5
    obtain ⟨x0, x1, x2, x3, x4, x5⟩ := HIN.out _ _ U3.out
    go_wp2_with fail
    refine (wnumber_calls B b (pre ++ numB k ++ numB n ++ txtB inf) ls.length _ U3.out.at' (wfI_nat (by omega)) (HP.out.step U3.out.below) (by omega) (by simp only [List.length_append]; omega)).mono ?_
    rintro e w4 ⟨rfl, h4, b4, ok4⟩
    have U4 := Lib.hid (U3.out.then h4 b4 ok4)
    have z4 := U4.out.below.size
    clear h4 b4 ok4 x0 x1 x2 x3 x4 x5
    obtain ⟨x0, x1, x2, x3, x4, x5⟩ := HIN.out _ _ U4.out
    go_wp2_with fail
    go_loopw [28] (fun vi wr => ∃ i : Nat, i ≤ ls.length ∧ vi = .int .i64 i ∧ Hid (Wr B b (w.alloc (.cells #[.int .i64 k, .int .i64 n, .string inf, .slice A1 ls.length c1, .slice A2 sp.length c2, .slice A3 l.length c3] 26)) ((pre ++ numB k ++ numB n ++ txtB inf ++ numB ls.length) ++ (ls.take i).flatMap txtB) wr)) (fun vi _ => ls.length - (intOf vi).toNat)
    case atStart => exact ⟨0, Nat.zero_le _, rfl, Lib.hid (by simpa using U4.out)⟩
    case round =>
      clear x0 x1 x2 x3 x4 x5 z1 z2 z3 z4
      obtain ⟨i, hi, rfl, U5⟩ := hrel
      have z5 := U5.out.below.size
      by_cases hlt : i < ls.length
      · have hRr := HR1.out.step (ok' := (· < B)) (fun k hk _ => U5.out.below.block k hk) (fun _ h _ => h)
        obtain ⟨bb, o, rfl, _, _, y0⟩ := hRr.str_cell hlt
        have hbt := bulksT_take hlt
        have htk : (ls.take (i + 1)).flatMap txtB = (ls.take i).flatMap txtB ++ txtB ls[i] := by rw [List.take_succ_eq_append_getElem hlt, List.flatMap_append, List.flatMap_singleton]
        have hkt := txts_len (ls.take i) (by omega)
        generalize ls[i] = s at *
        have HTK := Lib.hid htk
        have HT6 := Lib.hid (wtext_calls B b ((pre ++ numB k ++ numB n ++ txtB inf ++ numB ls.length) ++ (ls.take i).flatMap txtB) s _ U5.out.at' (by omega) (HP.out.step U5.out.below) (by omega) (by simp only [List.length_append]; omega))
        clear htk hRr
        go_wp2_with fail
        refine HT6.out.mono ?_
        rintro e w6 ⟨rfl, h6, b6, ok6⟩
        go_wp2_with fail
        go_roundw
        case rel => exact ⟨i + 1, by omega, by go_num, Lib.hid (by rw [HTK.out, ← List.append_assoc]; exact U5.out.then h6 b6 ok6)⟩
        case measure => simp [intOf]; omega
      · have hie : i = ls.length := by omega
        rw [hie, List.take_length] at U5
        clear hie
        obtain ⟨x0, x1, x2, x3, x4, x5⟩ := HIN.out _ _ U5.out
        have hR2r := HR2.out.step (ok' := (· < B)) (fun k hk _ => U5.out.below.block k hk) (fun _ h _ => h)
        have HS6 := Lib.hid (wspans_calls B b (D.bulks (dSps sp) + 1) sp (by omega) (by omega) hw3 _ ((pre ++ numB k ++ numB n ++ txtB inf ++ numB ls.length) ++ ls.flatMap txtB) _ hR2r U5.out.at' (HP.out.step U5.out.below) (by omega) (by simp only [List.length_append]; omega))
        clear hR2r
        go_wp2_with fail
        refine HS6.out.mono ?_
        rintro e w6 ⟨rfl, h6, b6, ok6⟩
        have U6 := Lib.hid (U5.out.then h6 b6 ok6)
        have z6 := U6.out.below.size
        clear h6 b6 ok6 x0 x1 x2 x3 x4 x5
        obtain ⟨x0, x1, x2, x3, x4, x5⟩ := HIN.out _ _ U6.out
        have n9 : (keySps sp).length ≤ 65 + 200 * D.bulks (dSps sp) := by unfold keySps; rw [List.length_append]; omega
        have HN7 := Lib.hid (wnumber_calls B b ((pre ++ numB k ++ numB n ++ txtB inf ++ numB ls.length) ++ ls.flatMap txtB ++ keySps sp) l.length _ U6.out.at' (wfI_nat (by omega)) (HP.out.step U6.out.below) (by omega) (by simp only [List.length_append]; omega))
        go_wp2_with fail
        refine HN7.out.mono ?_
        rintro e w7 ⟨rfl, h7, b7, ok7⟩
        have U7 := Lib.hid (U6.out.then h7 b7 ok7)
        have z7 := U7.out.below.size
        clear h7 b7 ok7 x0 x1 x2 x3 x4 x5
        obtain ⟨x0, x1, x2, x3, x4, x5⟩ := HIN.out _ _ U7.out
        go_wp2_with fail
        go_loopw [48] (fun vi wr => ∃ j : Nat, j ≤ l.length ∧ vi = .int .i64 j ∧ Hid (Wr B b (w.alloc (.cells #[.int .i64 k, .int .i64 n, .string inf, .slice A1 ls.length c1, .slice A2 sp.length c2, .slice A3 l.length c3] 26)) (((pre ++ numB k ++ numB n ++ txtB inf ++ numB ls.length) ++ ls.flatMap txtB ++ keySps sp ++ numB l.length) ++ keyBl (l.take j)) wr)) (fun vi _ => l.length - (intOf vi).toNat)
        case atStart => exact ⟨0, Nat.zero_le _, rfl, Lib.hid (by simpa [keyBl] using U7.out)⟩
        case round =>
          clear x0 x1 x2 x3 x4 x5
          obtain ⟨j, hj, rfl, U8⟩ := hrel
          have z8 := U8.out.below.size
          by_cases hlj : j < l.length
          · have hB0 : B ≤ (w.alloc (.cells #[.int .i64 k, .int .i64 n, .string inf, .slice A1 ls.length c1, .slice A2 sp.length c2, .slice A3 l.length c3] 26)).heap.size := by omega
            have hRr := HR3.out.step (ok' := (· < B)) (fun k hk _ => U8.out.below.block k hk) (fun _ h _ => h)
            obtain ⟨bb, o, u, v, y, rfl, hbb, hbl2, d0, d1, d2, d3, d4, d5, k1, k2, k3⟩ := hRr.bl_at hlj
            have hbt := bulksB_take hlj
            have hxw := (Bls.wf_iff l).1 hw4 _ (List.getElem_mem hlj)
            have htk : keyBl (l.take (j + 1)) = keyBl (l.take j) ++ keyB l[j] := by rw [List.take_succ_eq_append_getElem hlj, keyBl_append, keyBl, keyBl, List.append_nil]
            have hkt := keyBl_len (l.take j) ((Bls.wf_iff _).2 (fun y hy => (Bls.wf_iff l).1 hw4 y (List.mem_of_mem_take hy))) (by omega)
            have hbp := D.bulk_pos (dBl l[j])
            generalize l[j] = x at *
            obtain ⟨K, Nn, I, LS, SP, L⟩ := x
            simp only [Bl.kind, Bl.level, Bl.info, Bl.lines, Bl.spans, Bl.kids] at d0 d1 d2 d3 d4 d5 k1 k2 k3
            obtain ⟨T1, t1, rfl, _, _⟩ := k1.form
            obtain ⟨T2, t2, rfl, _, _⟩ := k2.form
            obtain ⟨T3, t3, rfl, _, _⟩ := k3.form
            rw [List.length_map] at *
            rw [dSps_len] at *
            rw [dBls_len] at *
            have UA := Lib.hid (U8.out.alloc hB0 (.cells #[.int .i64 K, .int .i64 Nn, .string I, .slice T1 LS.length t1, .slice T2 SP.length t2, .slice T3 L.length t3] 26))
            have hup : ∀ k, k < B → _ := fun k hk => UA.out.below.block k hk
            have hdn : ∀ k, k < B → _ := fun k hk => U8.out.below.block k hk
            have HQ := Lib.hid htk
            have HI := Lib.hid (IH.out K Nn I LS SP L (by omega) (by omega) hxw T1 t1 T2 t2 T3 t3 ((pre ++ numB k ++ numB n ++ txtB inf ++ numB ls.length ++ ls.flatMap txtB ++ keySps sp ++ numB l.length) ++ keyBl (l.take j)) _
              (k1.step (fun k hk _ => (hup k hk).trans (hdn k hk).symm) (fun _ h _ => h)) (k2.step (fun k hk _ => (hup k hk).trans (hdn k hk).symm) (fun _ h _ => h)) (k3.step (fun k hk _ => (hup k hk).trans (hdn k hk).symm) (fun _ h _ => h))
              UA.out.at' (HP.out.step UA.out.below) (Nat.le_trans hB0 UA.out.below.size) (by simp only [List.length_append]; omega))
            clear htk hup hdn k1 k2 k3 hRr
            go_wp2_with fail
            refine HI.out.mono ?_
            rintro e w9 ⟨rfl, h9⟩
            go_wp2_with fail
            go_roundw
            case rel => exact ⟨j + 1, by omega, by go_num, Lib.hid (by rw [HQ.out, ← List.append_assoc]; exact UA.out.then h9.at' h9.below h9.oth)⟩
            case measure => simp [intOf]; omega
          · have hje : j = l.length := by omega
            rw [hje, List.take_length] at U8
            clear hje
            go_wp2_with fail
            go_end0
            exact ⟨rfl, HV.out.then U8.out.at' U8.out.below U8.out.oth⟩
end Go.Proofs.YtobncidpdodaiaaDoor
