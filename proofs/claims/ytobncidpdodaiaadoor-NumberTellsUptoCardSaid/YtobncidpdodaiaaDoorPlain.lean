/- The walk of span.Plain. -/
import Derived.Test.YtobncidpdodaiaaDoorBuild
import Derived.Test.YtobncidpdodaiaaDoorTree
import Derived.Test.YtobncidpdodaiaaDoorTill
import Derived.Test.YtobncidpdodaiaaDoorPlainP
namespace Go.Proofs.YtobncidpdodaiaaDoor
open Go.RowKit Go.PlainAid
set_option linter.all false
set_option linter.deprecated false
set_option maxRecDepth 100000
/-- A builder that holds these bytes. -/
def BdAt (B b : Nat) (l : List UInt8) (w : World) : Prop := Lib.IsBuilder 54 5 B b (Lib.byteCells l) w
theorem bcells_append (a b : List UInt8) : Lib.byteCells (a ++ b) = Lib.byteCells a ++ Lib.byteCells b := by unfold Lib.byteCells; rw [List.map_append]
theorem bd_below0 {T e : TypeId} {B b : Nat} {p : Value} {bs : List Value} {w w' : World} (h : Lib.BuilderAt T e B b p bs w) (hb : Below w.heap.size w w') : Lib.BuilderAt T e B b p bs w' := by
  have hlt := h.lt
  obtain ⟨hB, v, hbk, hown, hne⟩ := h
  exact ⟨hB, v, (hb.block b hlt).trans hbk, own_same hown (fun g hv => hb.block g (hown.lt g hv).2), hne⟩
theorem BdAt.below {B b : Nat} {l : List UInt8} {w w' : World} (h : BdAt B b l w) (hb : Below w.heap.size w w') : BdAt B b l w' := by
  rcases h with h | h
  · exact .inl (bd_below0 h hb)
  · exact .inr (bd_below0 h hb)
theorem bd_fresh {B : Nat} {w : World} (hB : B ≤ w.heap.size) : BdAt B w.heap.size [] (w.alloc (.cells #[.pointer none, .slice none 0 0] 54)) :=
  .inl ⟨hB, .slice none 0 0, World.alloc_heap_new w _, World.ownsRow_nil _ _ _ _, by simp [Value.ownBlock]⟩
/-- WriteString. -/
theorem bdS_calls (B b : Nat) (l : List UInt8) (s : ByteArray) (w : World) (h : BdAt B b l w) (hlen : l.length + s.size ≤ 4398046511104) (hBw : B ≤ w.heap.size) :
    Calls Tryd.prog 62 #[.pointer (some ⟨b, 0, none⟩), .string s] w fun e w' => e = .returned (.tuple #[.int .i64 s.size, .nilIface]) ∧ BdAt B b (l ++ s.data.toList) w' ∧ Below B w w' ∧ Oth b w w' := by
  refine (WrS_calls (.inl rfl) B b _ s w h (by rw [Lib.byteCells_length]; omega) hBw).mono ?_
  rintro e w' ⟨rfl, h1, h2, h3⟩
  refine ⟨rfl, .inr ?_, h2, h3⟩
  rwa [bcells_append, ← Lib.strCells_eq]
theorem BdAt.lt {B b : Nat} {l : List UInt8} {w : World} (h : BdAt B b l w) : b < w.heap.size ∧ B ≤ b := by
  rcases h with h | h
  · exact ⟨h.lt, h.1⟩
  · exact ⟨h.lt, h.1⟩
set_option maxHeartbeats 2000000 in
theorem BString_empty {T : TypeId} (B b : Nat) (p : Value) (w : World) (h : Lib.BuilderAt T 5 B b p [] w) :
    Calls Tryd.prog 30 #[.pointer (some ⟨b, 0, none⟩)] w fun e w' => e = .returned (.string ⟨#[]⟩) ∧ Below B w w' := by
  obtain ⟨hB, v, hbk, hown, hne⟩ := h
  have hlt : b < w.heap.size := (Array.getElem?_eq_some_iff.1 hbk).1
  have mixed : Tryd.prog.follows Departure.mixedOrders = true := by kernel_rfl
  have hd : w.drew.heap[b]? = some (.cells #[p, v] T (0, 0)) := hbk
  have c1 : w.drew.cell? ⟨b, 1, none⟩ = some v := by rw [Lib.cell_of_heap hd]; rfl
  have c2 : ∀ o, (w.drew.alloc o).cell? ⟨b, 1, none⟩ = some v := fun o => (World.cell?_of_block (a := ⟨b, 1, none⟩) (Below.heap_alloc w.drew o _ hlt)).trans c1
  have c3 : ∀ o, (w.alloc o).drew.cell? ⟨b, 1, none⟩ = some v := c2
  have hUS := fun (q : Option Addr) (W : World) => Lib.run_unsafeString_none (P := Tryd.prog) W 75 3 9 q
  have hbd : Below B w w.drew := Below.drew (Below.refl B w)
  rcases hown.2 with ⟨rfl, _⟩ | ⟨g, cap, cur, rfl, hbg, hg, hnc, _, _, _⟩
  · have hSD := fun (W : World) => Lib.run_unsafeSliceData_nil (P := Tryd.prog) W #[52] 75 0 0
    clear hown hd hbk hne
    go_enter Tryd.func30, Tryd.ntmps30
    go_wp2
    go_region_o
    all_goals (go_wp2; go_ret; exact ⟨rfl, hbd⟩)
  · by_cases h0 : cap = 0
    · subst h0
      have hSD := Lib.run_unsafeSliceData_zero (P := Tryd.prog) w.drew #[52] 75 5 Tryd.underlying75 ⟨g, 0, none⟩ 0 (5, cur.size) (by have hg' : w.drew.heap[g]? = some (.cells cur 5 (0, 0)) := hg; simp [World.shape?, hg'])
      have hba := hbd.alloc (Nat.le_trans hB (Nat.le_of_lt hlt)) (.view ⟨g, 0, none⟩ 5)
      clear hown hd hbk hne hg
      simp only [List.length_nil] at *
      go_enter Tryd.func30, Tryd.ntmps30
      go_wp2
      go_region_o
      all_goals (go_wp2; go_ret; exact ⟨rfl, hba⟩)
    · have hSD := fun (W : World) => Lib.run_unsafeSliceData_row (P := Tryd.prog) W #[52] 75 ⟨g, 0, none⟩ 0 cap h0
      clear hown hd hbk hne hg
      simp only [List.length_nil] at *
      go_enter Tryd.func30, Tryd.ntmps30
      go_wp2
      go_region_o
      all_goals (go_wp2; go_ret; exact ⟨rfl, hbd⟩)
theorem bd_string (B b : Nat) (l : List UInt8) (w : World) (h : BdAt B b l w) : Calls Tryd.prog 30 #[.pointer (some ⟨b, 0, none⟩)] w fun e w' => e = .returned (.string ⟨l.toArray⟩) ∧ Below B w w' := by
  by_cases h0 : l = []
  · subst h0
    rcases h with h | h
    · exact BString_empty _ _ _ w h
    · exact BString_empty _ _ _ w h
  · rcases h with h | h
    · exact BString_calls _ _ _ l w h h0
    · exact BString_calls _ _ _ l w h h0
/-- A box of the walk's own stands behind the builder's calls. -/
theorem box_kept' {b k : Nat} {w w' : World} {cs : Array Value} {t : TypeId} (h : Oth b w w') (hk : w.heap[k]? = some (.cells cs t (0, 0))) (hb : k ≠ b) (ht : t ≠ 5) : w'.heap[k]? = some (.cells cs t (0, 0)) := by
  exact h k _ hk (fun e => hb (by injection e)) (fun c fz e => ht (by injection e with _ e2 _))
set_option maxHeartbeats 4000000 in
theorem Plain_calls : ∀ (N : Nat) (l : List Sp) (_ : D.bulks (dSps l) < N) (_ : N ≤ 4194304) (v : Value) (w : World) (_ : Rd (· < w.heap.size) w v (dSps l)),
    Calls Tryd.prog 41 #[v] w fun e w' => e = .returned (.string (plainS l)) ∧ Below w.heap.size w w' := by
  intro N
  induction N with
  | zero => intro l h; exact absurd h (Nat.not_lt_zero _)
  | succ N ih =>
    have IH := Lib.hid ih
    clear ih
    intro l hN hN2 v w hR
    obtain ⟨A, c, rfl, hc, hmx⟩ := hR.form
    rw [dSps_len] at *
    have HR := Lib.hid hR
    clear hR
    have hfr := bd_fresh (Nat.le_refl w.heap.size)
    have hbw : Below w.heap.size w (w.alloc (.cells #[.pointer none, .slice none 0 0] 54)) := below_alloc (Below.refl _ _) (Nat.le_refl _) _
    have HFR := Lib.hid hfr
    clear hfr
    go_enter Tryd.func41, Tryd.ntmps41
    go_wp2_with fail
    go_loopw [8] (fun vi wr => ∃ i : Nat, i ≤ l.length ∧ vi = .int .i64 i ∧ Hid (BdAt w.heap.size w.heap.size (plainSps (l.take i)) wr) ∧ Below w.heap.size w wr) (fun vi _ => l.length - (intOf vi).toNat)
    case atStart => exact ⟨0, Nat.zero_le _, rfl, Lib.hid (by simpa [plainSps] using HFR.out), hbw⟩
    case round =>
      clear hbw HFR
      obtain ⟨i, hi, rfl, hW, hbr⟩ := hrel
      have hsz := hbr.size
      by_cases hlt : i < l.length
      · have hRr := HR.out.step (ok' := (· < w.heap.size)) (fun k hk _ => hbr.block k hk) (fun _ h _ => h)
        obtain ⟨bb, o, u, rfl, hbb, hbl2, c0, c1, c2, hk⟩ := hRr.sp_at hlt
        have hbt : (dSp l[i]).bulk ≤ D.bulks (dSps l) := by rw [dSps_map]; exact D.bulk_mem (List.mem_map.2 ⟨_, List.getElem_mem hlt, rfl⟩)
        have htk := plainSps_take hlt
        have hle : (plainSps (l.take i)).length ≤ 4194304 := by
          have h1 := plainSps_len l
          have h2 : plainSps l = plainSps (l.take i) ++ plainSps (l.drop i) := by rw [← plainSps_append, List.take_append_drop]
          have h3 := congrArg List.length h2
          rw [List.length_append] at h3
          omega
        generalize l[i] = x at *
        obtain ⟨K, s, L⟩ := x
        rw [bulk_sp'] at hbt
        rw [plainSp] at htk
        simp only [Sp.kind, Sp.s, Sp.kids] at c0 c1 c2 hk
        obtain ⟨T, tc, rfl, _, _⟩ := hk.form
        rw [dSps_len] at *
        have hps := plainS_size L
        have hal := below_alloc (Below.refl wr.heap.size wr) (Nat.le_refl _) (.cells #[.int .i64 K, .string s, .slice T L.length tc] 69)
        have hW0 := hW.out.below hal
        have hbr0 := hbr.trans (hal.mono hsz)
        have hbox := World.alloc_heap_new wr (.cells #[.int .i64 K, .string s, .slice T L.length tc] 69)
        have hlw := hW.out.lt.1
        have hne : wr.heap.size ≠ w.heap.size := by omega
        have HTK := Lib.hid htk
        clear hW hRr htk
        by_cases hkk : K = 1 ∨ K = 2
        · rw [if_pos hkk] at HTK
          have HS1 := Lib.hid (bdS_calls _ _ _ s _ hW0 (by omega) hbr0.size)
          have HBX := Lib.hid hbox
          have HK := Lib.hid hk
          clear hW0 hbox hal hk
          rcases hkk with rfl | rfl
          · go_wp2_with fail
            refine HS1.out.mono ?_
            rintro e w2 ⟨rfl, h2, b2, ok2⟩
            have box2 := box_kept' ok2 HBX.out hne (by decide)
            have hbr2 := hbr0.trans b2
            have y2 := (row_facts box2 2 rfl).1
            have hkr : Rd (· < w2.heap.size) w2 (.slice T L.length tc) (dSps L) := HK.out.step (fun k hk _ => (hbr2.block k hk).trans (hbr.block k hk).symm) (fun k hk _ => Nat.lt_of_lt_of_le hk hbr2.size)
            clear box2 ok2
            have HP3 := Lib.hid (IH.out L (by omega) (by omega) _ w2 hkr)
            have HB2 := Lib.hid h2
            clear h2 hkr
            go_wp2_with fail
            refine HP3.out.mono ?_
            rintro e w3 ⟨rfl, b3⟩
            have hbr3 := hbr2.trans (b3.mono (by have := hbr2.size; omega))
            have HS3 := Lib.hid (bdS_calls _ _ _ (plainS L) w3 (HB2.out.below b3) (by first | omega | (simp only [List.length_append, Array.length_toList, ByteArray.size_data]; omega)) (hbr3.size))
            clear HB2
            go_wp2_with fail
            refine HS3.out.mono ?_
            rintro e w4 ⟨rfl, h4, b4, ok4⟩
            have h5 : Hid (BdAt w.heap.size w.heap.size (plainSps (l.take (i + 1))) w4) := Lib.hid (by rw [HTK.out]; simpa [plainS, List.append_assoc] using h4)
            clear h4 HTK
            go_wp2_with fail
            go_roundw
            case rel => exact ⟨i + 1, by omega, by go_num, h5, hbr3.trans b4⟩
            case measure => simp [intOf]; omega
          · go_wp2_with fail
            refine HS1.out.mono ?_
            rintro e w2 ⟨rfl, h2, b2, ok2⟩
            have box2 := box_kept' ok2 HBX.out hne (by decide)
            have hbr2 := hbr0.trans b2
            have y2 := (row_facts box2 2 rfl).1
            have hkr : Rd (· < w2.heap.size) w2 (.slice T L.length tc) (dSps L) := HK.out.step (fun k hk _ => (hbr2.block k hk).trans (hbr.block k hk).symm) (fun k hk _ => Nat.lt_of_lt_of_le hk hbr2.size)
            clear box2 ok2
            have HP3 := Lib.hid (IH.out L (by omega) (by omega) _ w2 hkr)
            have HB2 := Lib.hid h2
            clear h2 hkr
            go_wp2_with fail
            refine HP3.out.mono ?_
            rintro e w3 ⟨rfl, b3⟩
            have hbr3 := hbr2.trans (b3.mono (by have := hbr2.size; omega))
            have HS3 := Lib.hid (bdS_calls _ _ _ (plainS L) w3 (HB2.out.below b3) (by first | omega | (simp only [List.length_append, Array.length_toList, ByteArray.size_data]; omega)) (hbr3.size))
            clear HB2
            go_wp2_with fail
            refine HS3.out.mono ?_
            rintro e w4 ⟨rfl, h4, b4, ok4⟩
            have h5 : Hid (BdAt w.heap.size w.heap.size (plainSps (l.take (i + 1))) w4) := Lib.hid (by rw [HTK.out]; simpa [plainS, List.append_assoc] using h4)
            clear h4 HTK
            go_wp2_with fail
            go_roundw
            case rel => exact ⟨i + 1, by omega, by go_num, h5, hbr3.trans b4⟩
            case measure => simp [intOf]; omega
        · rw [if_neg hkk, List.nil_append] at HTK
          have k1 : (K == 1) = false := beq_eq_false_iff_ne.2 (fun e => hkk (.inl e))
          have k2 : (K == 2) = false := beq_eq_false_iff_ne.2 (fun e => hkk (.inr e))
          obtain ⟨w2, hw2⟩ : ∃ w2, w2 = wr.alloc (.cells #[.int .i64 K, .string s, .slice T L.length tc] 69) := ⟨_, rfl⟩
          have h2 := hW0
          have hbr2 := hbr0
          have hkr : Rd (· < (wr.alloc (.cells #[.int .i64 K, .string s, .slice T L.length tc] 69)).heap.size) (wr.alloc (.cells #[.int .i64 K, .string s, .slice T L.length tc] 69)) (.slice T L.length tc) (dSps L) := hk.step (fun k hk _ => (hbr0.block k hk).trans (hbr.block k hk).symm) (fun k hk _ => Nat.lt_of_lt_of_le hk hbr0.size)
          clear hkk hw2 hW0 hbox hal hk hbr0
          have HP3 := Lib.hid (IH.out L (by omega) (by omega) _ _ hkr)
          have HB2 := Lib.hid h2
          clear h2 hkr
          go_wp2_with fail
          refine HP3.out.mono ?_
          rintro e w3 ⟨rfl, b3⟩
          have hbr3 := hbr2.trans (b3.mono (by have := hbr2.size; omega))
          have HS3 := Lib.hid (bdS_calls _ _ _ (plainS L) w3 (HB2.out.below b3) (by first | omega | (simp only [List.length_append, Array.length_toList, ByteArray.size_data]; omega)) (hbr3.size))
          clear HB2
          go_wp2_with fail
          refine HS3.out.mono ?_
          rintro e w4 ⟨rfl, h4, b4, ok4⟩
          have h5 : Hid (BdAt w.heap.size w.heap.size (plainSps (l.take (i + 1))) w4) := Lib.hid (by rw [HTK.out]; simpa [plainS, List.append_assoc] using h4)
          clear h4 HTK
          go_wp2_with fail
          go_roundw
          case rel => exact ⟨i + 1, by omega, by go_num, h5, hbr3.trans b4⟩
          case measure => simp [intOf]; omega
      · have hie : i = l.length := by omega
        rw [hie, List.take_length] at hW
        have HS := Lib.hid (bd_string _ _ _ wr hW.out)
        clear hie hW
        go_wp2_with fail
        refine HS.out.mono ?_
        rintro e w1 ⟨rfl, hb1⟩
        go_wp2_with fail
        go_ret
        exact ⟨rfl, hbr.trans hb1⟩
end Go.Proofs.YtobncidpdodaiaaDoor
