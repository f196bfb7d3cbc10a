/- The walks of number's writer on spans and blocks; Key. -/
import Derived.Test.YtobncidpdodaiaaDoorKeyW
import Derived.Test.YtobncidpdodaiaaDoorTree
namespace Go.Proofs.YtobncidpdodaiaaDoor
open Go.RowKit Go.PlainAid
set_option linter.all false
set_option linter.deprecated false
set_option maxRecDepth 100000
theorem numB_len {n : Int} (h : wfI n) : (numB n).length ≤ 65 := by unfold numB; have := itoa_len n h; rw [List.length_append, List.length_singleton]; omega
theorem txtB_len {s : ByteArray} (h : s.size ≤ 4398046511104) : (txtB s).length ≤ 65 + s.size := by
  unfold txtB
  have := itoa_len s.size ⟨by omega, by omega⟩
  have e : s.data.toList.length = s.size := by simp
  rw [List.length_append, List.length_cons, e]; omega
theorem wfI_nat {n : Nat} (h : n ≤ 4398046511104) : wfI (n : Int) := ⟨by omega, by omega⟩
theorem bulk_sp (k : Int) (s : ByteArray) (l : List Sp) : (dSp (.mk k s l)).bulk = s.size + D.bulks (dSps l) + 4 := by simp only [dSp, D.bulk, D.bulks]; omega
mutual
theorem keySp_len : ∀ (x : Sp), x.wf → (dSp x).bulk ≤ 4398046511104 → (keySp x).length ≤ 200 * (dSp x).bulk
  | .mk k s l, hw, hb => by
    rw [bulk_sp] at hb ⊢
    rw [Sp.wf] at hw
    have h1 := numB_len hw.1
    have h2 := txtB_len (s := s) (by omega)
    have h3 := keySpl_len l hw.2 (by omega)
    have hl : l.length ≤ D.bulks (dSps l) := by have := D.len_bulks (dSps l); rwa [dSps_len] at this
    have h4 := numB_len (wfI_nat (n := l.length) (by omega))
    rw [keySp]
    simp only [List.length_append]
    omega
theorem keySpl_len : ∀ (l : List Sp), Sps.wf l → D.bulks (dSps l) ≤ 4398046511104 → (keySpl l).length ≤ 200 * D.bulks (dSps l)
  | [], _, _ => by simp [keySpl]
  | x :: l, hw, hb => by
    rw [dSps, D.bulks] at hb ⊢
    rw [Sps.wf] at hw
    have h1 := keySp_len x hw.1 (by omega)
    have h2 := keySpl_len l hw.2 (by omega)
    rw [keySpl, List.length_append]
    omega
end
theorem keySpl_append : ∀ a b : List Sp, keySpl (a ++ b) = keySpl a ++ keySpl b
  | [], b => rfl
  | x :: a, b => by rw [List.cons_append, keySpl, keySpl, keySpl_append a b, List.append_assoc]
theorem WrAt.lt {B b : Nat} {l : List UInt8} {w : World} (h : WrAt B b l w) : b < w.heap.size ∧ B ≤ b := by
  rcases h with h | h
  · exact ⟨h.lt, h.1⟩
  · exact ⟨h.lt, h.1⟩
/-- A box of the walk's own stands behind the writer's calls. -/
theorem box_kept {b k : Nat} {w w' : World} {cs : Array Value} {t : TypeId} (h : Oth b w w') (hk : w.heap[k]? = some (.cells cs t (0, 0))) (hb : k ≠ b) (ht : t ≠ 5) : w'.heap[k]? = some (.cells cs t (0, 0)) := by
  exact h k _ hk (fun e => hb (by injection e)) (fun c fz e => ht (by injection e with _ e2 _))
theorem bulks_take {l : List Sp} {i : Nat} (hi : i < l.length) : D.bulks (dSps (l.take i)) + (dSp l[i]).bulk ≤ D.bulks (dSps l) := by
  have e : l = l.take i ++ (l[i] :: l.drop (i + 1)) := by rw [List.getElem_cons_drop, List.take_append_drop]
  conv => rhs; rw [e, dSps_map, List.map_append, D.bulks_append, List.map_cons, D.bulks]
  rw [dSps_map]
  omega
set_option maxHeartbeats 4000000 in
theorem wspans_calls (B b : Nat) : ∀ (N : Nat) (l : List Sp) (_ : D.bulks (dSps l) < N) (_ : N ≤ 1048577) (_ : Sps.wf l) (v : Value) (pre : List UInt8) (w : World) (_ : Rd (· < B) w v (dSps l)) (_ : WrAt B b pre w) (_ : PowB B w) (_ : B ≤ w.heap.size) (_ : pre.length + 65 + 200 * D.bulks (dSps l) ≤ 4398046511104),
    Calls Tryd.prog 48 #[.pointer (some ⟨b, 0, none⟩), v] w fun e w' => e = .returned (.tuple #[]) ∧ WrAt B b (pre ++ keySps l) w' ∧ Below B w w' ∧ Oth b w w' := by
  intro N
  induction N with
  | zero => intro l h; exact absurd h (Nat.not_lt_zero _)
  | succ N ih =>
    have IH := Lib.hid ih
    clear ih
    intro l hN hN2 hwf v pre w hR hW hP hB hlen
    obtain ⟨A, c, rfl, hc, hmx⟩ := hR.form
    rw [dSps_len] at *
    have hll : l.length ≤ 1048576 := by have := D.len_bulks (dSps l); rw [dSps_len] at this; omega
    have hnl := numB_len (wfI_nat (n := l.length) (by omega))
    have hws := (Sps.wf_iff l).1 hwf
    have HR := Lib.hid hR
    have HWS := Lib.hid hws
    have HP := Lib.hid hP
    have hnum := wnumber_calls B b pre l.length w hW (wfI_nat (by omega)) hP hB (by omega)
    have HN := Lib.hid hnum
    have hbl := hW.lt
    clear hR hws hP hnum hW
    go_enter Tryd.func48, Tryd.ntmps48
    go_wp2_with fail
    refine HN.out.mono ?_
    rintro e w1 ⟨rfl, hW1, hb1, ok1⟩
    go_wp2_with fail
    go_loopw [12] (fun vi wr => ∃ i : Nat, i ≤ l.length ∧ vi = .int .i64 i ∧ Hid (WrAt B b (pre ++ (numB l.length ++ keySpl (l.take i))) wr) ∧ Below B w wr ∧ Hid (Oth b w wr)) (fun vi _ => l.length - (intOf vi).toNat)
    case atStart => exact ⟨0, Nat.zero_le _, rfl, Lib.hid (by simpa [keySpl] using hW1), hb1, Lib.hid ok1⟩
    case round =>
      clear hW1 hb1 ok1
      obtain ⟨i, hi, rfl, hWr, hbr, okr⟩ := hrel
      by_cases hlt : i < l.length
      · have hRr : Rd (· < B) wr (.slice A l.length c) (dSps l) := HR.out.step (fun k hk _ => hbr.block k hk) (fun _ h _ => h)
        obtain ⟨bb, o, u, rfl, hbb, hbl2, c0, c1, c2, hk⟩ := hRr.sp_at hlt
        have hbt := bulks_take hlt
        have hxw := HWS.out _ (List.getElem_mem hlt)
        have htk : keySpl (l.take (i + 1)) = keySpl (l.take i) ++ keySp l[i] := by rw [List.take_succ_eq_append_getElem hlt, keySpl_append, keySpl, keySpl, List.append_nil]
        have hkt := keySpl_len (l.take i) ((Sps.wf_iff _).2 (fun y hy => HWS.out y (List.mem_of_mem_take hy))) (by omega)
        generalize l[i] = x at *
        obtain ⟨K, s, L⟩ := x
        rw [bulk_sp] at hbt
        rw [Sp.wf] at hxw
        simp only [Sp.kind, Sp.s, Sp.kids] at c0 c1 c2 hk
        have hbr2 := hbr.size
        have hnk := numB_len hxw.1
        have htl := txtB_len (s := s) (by omega)
        obtain ⟨T, tc, rfl, _, _⟩ := hk.form
        rw [dSps_len] at *
        have hbox := World.alloc_heap_new wr (.cells #[.int .i64 K, .string s, .slice T L.length tc] 69)
        have hal := below_alloc (Below.refl wr.heap.size wr) (Nat.le_refl _) (.cells #[.int .i64 K, .string s, .slice T L.length tc] 69)
        have hbr0 := hbr.trans (hal.mono (by omega))
        have ok0 := okr.out.alloc (.cells #[.int .i64 K, .string s, .slice T L.length tc] 69)
        have hWr0 := hWr.out.below hal
        have hsz0 := hal.size
        have hpl : (pre ++ (numB l.length ++ keySpl (l.take i))).length + 200 * (s.size + D.bulks (dSps L) + 4) ≤ 4398046511104 := by simp only [List.length_append]; omega
        have HTK := Lib.hid htk
        have hnx : pre ++ (numB l.length ++ keySpl (l.take (i + 1))) = ((pre ++ (numB l.length ++ keySpl (l.take i))) ++ numB K ++ txtB s) ++ keySps L := by rw [htk, keySp, keySps]; simp only [List.append_assoc]
        have HNX := Lib.hid hnx
        clear hnx
        generalize pre ++ (numB l.length ++ keySpl (l.take i)) = P at *
        have HN1 := Lib.hid (wnumber_calls B b P K _ hWr0 hxw.1 (HP.out.step hbr0) (by omega) (by omega))
        have HO0 := Lib.hid ok0
        have HBX := Lib.hid hbox
        have HK := Lib.hid hk
        clear hWr0 hWr htk ok0 hbox hal okr hk hRr
        have hne : wr.heap.size ≠ b := by omega
        go_wp2_with fail
        refine HN1.out.mono ?_
        rintro e w2 ⟨rfl, h2, b2, ok2⟩
        have box2 := box_kept ok2 HBX.out hne (by decide)
        have hbr2' := hbr0.trans b2
        have y1 := (row_facts box2 1 rfl).1
        have hsz2 := b2.size
        have HT2 := Lib.hid (wtext_calls B b (P ++ numB K) s w2 h2 (by omega) (HP.out.step hbr2') (by omega) (by simp only [List.length_append]; omega))
        have HB2 := Lib.hid box2
        have HO2 := Lib.hid (HO0.out.trans ok2)
        clear h2 box2 ok2
        go_wp2_with fail
        refine HT2.out.mono ?_
        rintro e w3 ⟨rfl, h3, b3, ok3⟩
        have box3 := box_kept ok3 HB2.out hne (by decide)
        have hbr3' := hbr2'.trans b3
        have y2 := (row_facts box3 2 rfl).1
        have hsz3 := b3.size
        have hkr : Rd (· < B) w3 (.slice T L.length tc) (dSps L) := HK.out.step (fun k hk _ => (hbr3'.block k hk).trans (hbr.block k hk).symm) (fun _ h _ => h)
        have HI3 := Lib.hid (IH.out L (by omega) (by omega) hxw.2 _ (P ++ numB K ++ txtB s) w3 hkr h3 (HP.out.step hbr3') (by omega) (by simp only [List.length_append]; omega))
        have HO3 := Lib.hid (HO2.out.trans ok3)
        clear h3 box3 ok3 hkr y1
        go_wp2_with fail
        refine HI3.out.mono ?_
        rintro e w4 ⟨rfl, h4, b4, ok4⟩
        go_wp2_with fail
        go_roundw
        case rel => exact ⟨i + 1, by omega, by go_num, Lib.hid (by rw [HNX.out]; exact h4), hbr3'.trans b4, Lib.hid (HO3.out.trans ok4)⟩
        case measure => simp [intOf]; omega
      · have hie : i = l.length := by omega
        rw [hie, List.take_length] at hWr
        clear hie
        go_wp2_with fail
        go_end0
        exact ⟨rfl, by unfold keySps; exact hWr.out, hbr, okr.out⟩
end Go.Proofs.YtobncidpdodaiaaDoor
