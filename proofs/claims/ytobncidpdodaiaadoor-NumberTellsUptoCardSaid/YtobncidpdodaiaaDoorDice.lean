/- The walks of lcs.Length, lcs.Dice. -/
import Derived.Test.YtobncidpdodaiaaDoorLcs
import Derived.Test.YtobncidpdodaiaaDoorNumP
namespace Go.Proofs.YtobncidpdodaiaaDoor
open Go.RowKit Go.PlainAid
set_option linter.all false
set_option linter.deprecated false
set_option maxRecDepth 100000
theorem tab_at (za zb : List Int) : ∀ j, 0 ≤ j → j < za.length * zb.length → (tab za zb)[j]? = some (tabAt za zb j) := fun j _ hj => by
  unfold tab
  rw [List.getElem?_map, List.getElem?_range hj]; rfl
set_option maxHeartbeats 1000000 in
theorem Length_calls (va vb : Value) (za zb : List Int) (w : World) (hA : Rd (· < w.heap.size) w va (za.map (D.int .i64))) (hB : Rd (· < w.heap.size) w vb (zb.map (D.int .i64))) (la : za.length ≤ 1048575) (lb : zb.length ≤ 1048575) :
    Calls Tryd.prog 42 #[va, vb] w fun e w' => e = .returned (.int .i64 (lcsL za zb : Nat)) ∧ Below w.heap.size w w' := by
  obtain ⟨A, ca, rfl, hca, _⟩ := hA.form
  obtain ⟨B, cb, rfl, hcb, _⟩ := hB.form
  simp only [List.length_map] at *
  by_cases h0 : za.length = 0 ∨ zb.length = 0
  · have hz : lcsL za zb = 0 := by
      rcases h0 with h | h
      · rw [List.eq_nil_of_length_eq_zero h]; rfl
      · rw [List.eq_nil_of_length_eq_zero h, lcsL_nil]
    rw [hz]
    have HR := Lib.hid (reckon_empty A B za.length ca zb.length cb w h0 la lb)
    have H0 := Lib.hid h0
    clear hz h0 hA hB
    go_enter Tryd.func42, Tryd.ntmps42
    go_wp2_with fail
    refine HR.out.mono ?_
    rintro e w1 ⟨t, g, rfl, hg, hgt, hT, hb⟩
    have f0 := (row_facts hT 0 rfl).1
    have f1 := (row_facts hT 1 rfl).1
    have HA := Lib.hid (at_out t 0 0 za.length zb.length ca cb A B w1 (by omega) (by omega) f0 f1 (by have := H0.out; omega))
    go_wp2_with fail
    refine HA.out.mono ?_
    rintro e w2 ⟨rfl, rfl⟩
    go_wp2_with fail
    go_ret
    exact ⟨rfl, hb⟩
  · obtain ⟨ba, oa, rfl, hba, hbal, ha⟩ := hA.ints (by omega)
    obtain ⟨bb, ob, rfl, hbb, hbbl, hb⟩ := hB.ints (by omega)
    have HR := Lib.hid (reckon_calls ba oa ca bb ob cb za zb w la lb (by omega) (by omega) hbal hbbl ha hb)
    clear ha hb hA hB h0
    go_enter Tryd.func42, Tryd.ntmps42
    go_wp2_with fail
    refine HR.out.mono ?_
    rintro e w1 ⟨t, g, rfl, hg, hgt, hT, hown, hbe⟩
    have f0 := (row_facts hT 0 rfl).1
    have f1 := (row_facts hT 1 rfl).1
    have f2 := (row_facts hT 2 rfl).1
    have HA := Lib.hid (at_any t ca cb (za.length * zb.length) g 0 w.heap.size 0 0 _ _ za zb (tab za zb) w1 (by omega) (by omega) (by omega) (by omega) (by omega) (by omega) f0 f1 f2 hown (tab_at za zb) (by omega))
    have he : atL za zb (0 : Int).toNat (0 : Int).toNat = (lcsL za zb : Nat) := by simp [atL]
    rw [he] at HA
    clear he hT hown f0 f1 f2
    go_wp2_with fail
    refine HA.out.mono ?_
    rintro e w2 ⟨rfl, q, rfl⟩
    go_wp2_with fail
    go_ret
    exact ⟨rfl, below_drewN hbe q⟩
set_option maxHeartbeats 1000000 in
theorem Dice_calls (va vb : Value) (za zb : List Int) (w : World) (hA : Rd (· < w.heap.size) w va (za.map (D.int .i64))) (hB : Rd (· < w.heap.size) w vb (zb.map (D.int .i64))) (la : za.length ≤ 1048575) (lb : zb.length ≤ 1048575) :
    Calls Tryd.prog 22 #[va, vb] w fun e w' => e = .returned (.int .i64 (dice za zb)) ∧ Below w.heap.size w w' := by
  obtain ⟨A, ca, rfl, hca, _⟩ := hA.form
  obtain ⟨B, cb, rfl, hcb, _⟩ := hB.form
  have HL := Lib.hid (Length_calls _ _ za zb w hA hB la lb)
  simp only [List.length_map] at *
  have hd : dice za zb = if za.length + zb.length = 0 then 1000 else ((2000 * lcsL za zb / (za.length + zb.length) : Nat) : Int) := rfl
  have hle := (lcsL_le za zb).1
  generalize lcsL za zb = L at *
  by_cases h0 : za.length + zb.length = 0
  · rw [if_pos h0] at hd
    rw [hd]
    have hz : ((za.length : Int) + (zb.length : Int) == 0) = true := by simp; omega
    clear hd hA hB h0 HL
    go_enter Tryd.func22, Tryd.ntmps22
    go_wp2_with fail
    go_ret
    exact ⟨rfl, Below.refl _ _⟩
  · rw [if_neg h0] at hd
    have hz : ((za.length : Int) + (zb.length : Int) == 0) = false := beq_eq_false_iff_ne.2 (by omega)
    have hp : (0 : Int) < (za.length : Int) + (zb.length : Int) := by omega
    have HD := Lib.hid hd
    clear hd hA hB h0
    go_enter Tryd.func22, Tryd.ntmps22
    go_wp2_with fail
    refine HL.out.mono ?_
    rintro e w1 ⟨rfl, hb⟩
    go_wp2_with fail
    go_ret
    exact ⟨ret_int (by rw [HD.out]; simp), hb⟩
end Go.Proofs.YtobncidpdodaiaaDoor
