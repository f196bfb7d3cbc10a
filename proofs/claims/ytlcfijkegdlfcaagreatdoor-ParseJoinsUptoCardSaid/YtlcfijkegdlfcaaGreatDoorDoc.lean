/- The walks of parse.Document, and of the statements' awake (layer 12). -/
import Derived.Test.YtlcfijkegdlfcaaGreatDoorAll
import Derived.Test.YtlcfijkegdlfcaaGreatDoorSplit
namespace Go.Proofs.YtlcfijkegdlfcaaGreatDoor
open Go.RowKit Go.PlainAid
set_option linter.all false
set_option linter.deprecated false
set_option maxRecDepth 100000
theorem split_sum : ∀ (f : Nat) (s : Ln), sumL (splitG f s) ≤ s.length + 1
  | 0, s => by simp [splitG, sumL]
  | f + 1, s => by
    by_cases h : s = []
    · subst h; rw [splitG_nil]; simp [sumL]
    · have hl := congrArg List.length (List.takeWhile_append_dropWhile (p := inL) (l := s))
      rw [List.length_append] at hl
      rw [splitG_step f s h]
      by_cases h1 : s.dropWhile inL = []
      · rw [if_pos h1]; simp [sumL]
      · rw [if_neg h1]
        have h0 : 0 < (s.dropWhile inL).length := List.length_pos_iff.2 h1
        have i1 := split_sum f ((s.dropWhile inL).drop 1)
        have i2 := split_sum f ((s.dropWhile inL).drop 2)
        rw [List.length_drop] at i1 i2
        split
        · rw [sumL]
          rename_i hp
          have := (List.isPrefixOf_iff_prefix.1 hp).length_le
          simp only [List.length_cons, List.length_nil] at this
          omega
        · rw [sumL]; omega
/-- What Document answers. -/
def DocOf (x : Except Nat (List Bl)) (U : Nat) (e : Ending) (w' : World) : Prop :=
  ∃ A n c, e = .returned (.tuple #[.slice A n c, .int .i64 (match x with | .error k => (k : Int) | .ok _ => 0)]) ∧ ∀ bs, x = .ok bs → Rd (U ≤ ·) w' (.slice A n c) (dBls bs)
set_option maxHeartbeats 4000000 in
theorem PDoc_calls (s : ByteArray) (w : World) (hs : s.size ≤ 4294967280) (hT : TextB w.heap.size w) :
    Calls Tryz.prog 13 #[.string s] w fun e w' => DocOf (docG (bl s)) w.heap.size e w' ∧ Below w.heap.size w w' := by
  have hconv := fun W => conv_str (P := Tryz.prog) Tryz.underlying9 Tryz.underlying47 Tryz.underlying5 s W
  have hbw := bytesW_below w 5 s
  have hsz := bytesW_size w 5 s
  have hC := Check_calls w.heap.size 0 s.size (grownCap w s.size 0 5) (bl s) (bytesW w 5 s) (bl_len s) (by omega) (grownCap_ge _ _ _ _) (by rw [hsz]; omega) (bytesW_at w s) (hT.up hbw)
  have hS := fun W => LSplit_calls s W hs
  have hL := fun (A : Option Addr) (n c : Nat) W (hl : Rd (fun _ => True) W (.slice A n c) (((splitL (bl s)).map ba).map D.str)) (hh : checkL (bl s) = 0) (hW : Below w.heap.size w W) => PLines_calls A n c ((splitL (bl s)).map ba) W hl (by
    rw [sumL_ba]
    have := split_sum (bl s).length (bl s)
    unfold checkL at hh
    have h9 : ¬ 1048576 < (bl s).length := fun h => by rw [if_pos h] at hh; cases hh
    unfold splitL
    omega) (hT.up hW)
  have hbb : ((splitL (bl s)).map ba).map bl = splitL (bl s) := by
    rw [List.map_map]
    conv => rhs; rw [← List.map_id (splitL (bl s))]
    exact List.map_congr_left (fun s _ => by simp [bl_ba])
  rw [hbb] at hL
  have hd : docG (bl s) = if checkL (bl s) ≠ 0 then .error (checkL (bl s)) else match linesG (splitL (bl s)) with | none => .error 5 | some l => .ok l := rfl
  obtain ⟨R, hR⟩ : ∃ R, checkL (bl s) = R := ⟨_, rfl⟩
  obtain ⟨Y, hY⟩ : ∃ Y, linesG (splitL (bl s)) = Y := ⟨_, rfl⟩
  obtain ⟨E, hE⟩ : ∃ E, endG (bl s) = E := ⟨_, rfl⟩
  rw [hR] at hC hL
  rw [hR, hY] at hd
  rw [hY] at hL
  rw [hE] at hS
  obtain ⟨X, hX⟩ : ∃ X, docG (bl s) = X := ⟨_, rfl⟩
  rw [hX] at hd ⊢
  have HD := Lib.hid hd
  have HC := Lib.hid hC
  have HS := Lib.hid hS
  have HL := Lib.hid hL
  have HBW := Lib.hid hbw
  clear hd hC hS hL hT hbb hR hY hE hX hbw
  by_cases h0 : R = 0
  · subst h0
    have hd := HD.out
    rw [if_neg (by simp)] at hd
    have HDD := Lib.hid hd
    clear hd
    go_enter Tryz.func13, Tryz.ntmps13
    go_wp2_with fail
    generalize bytesW w 5 s = W at *
    refine HC.out.mono ?_
    rintro e w1 ⟨rfl, hb1⟩
    have hb1w := below_to HBW.out HBW.out.size hb1
    clear HC hb1
    go_wp2_with fail
    refine (HS.out _).mono ?_
    rintro e w2 ⟨A2, n2, c2, rfl, hrd, hb2⟩
    have hb2w := below_to hb1w hb1w.size hb2
    have hl := HL.out A2 n2 c2 w2 (hrd.mono (fun _ _ _ => trivial)) (by first | rfl | trivial) hb2w
    have HLL := Lib.hid hl
    clear HS hb2 hrd hl
    go_wp2_with fail
    refine HLL.out.mono ?_
    rintro e w3 ⟨⟨A3, n3, c3, rfl, hx⟩, hb3⟩
    have hs2 := Nat.le_trans hb2w.size (Nat.le_refl _)
    have H3 := Lib.hid (And.intro hx (below_to hb2w hb2w.size hb3))
    obtain ⟨ER, hER⟩ : ∃ ER : Int, (if Y.isSome = true then 0 else 5) = ER := ⟨_, rfl⟩
    rw [hER]
    have HER := Lib.hid hER
    clear hER hx hb3
    go_wp2_with fail
    go_ret2
    refine ⟨⟨A3, n3, c3, ?_, fun bs hb => ?_⟩, H3.out.2⟩
    · rw [HDD.out, ← HER.out]
      cases Y <;> rfl
    · rw [HDD.out] at hb
      cases Y with
      | none => cases hb
      | some l =>
        injection hb with hb
        subst hb
        exact (H3.out.1 l rfl).mono (fun j hj _ => Nat.le_trans hs2 hj)
  · have h1 : ((R : Int) != 0) = true := bne_iff_ne.2 (by omega)
    have hd := HD.out
    rw [if_pos h0] at hd
    subst hd
    clear h0
    go_enter Tryz.func13, Tryz.ntmps13
    go_wp2_with fail
    generalize bytesW w 5 s = W at *
    refine HC.out.mono ?_
    rintro e w1 ⟨rfl, hb1⟩
    have hb1w := below_to HBW.out HBW.out.size hb1
    clear HC hb1
    go_wp2_with fail
    go_ret2
    exact ⟨⟨none, 0, 0, rfl, fun bs hb => by cases hb⟩, hb1w⟩
/-- The text of awake. -/
def awakeL : Ln := [35, 32, 97, 10, 10, 45, 32, 98, 10]
theorem awake_doc : ∃ x y, docG awakeL = .ok [x, y] ∧ x.kind = 2 ∧ y.kind = 6 := by
  have h1 : checkL awakeL = 0 := by decide
  have h2 : splitL awakeL = [[35, 32, 97], [], [45, 32, 98]] := by decide
  have h3 : ∃ x y, linesG [[35, 32, 97], [], [45, 32, 98]] = some [x, y] ∧ x.kind = 2 ∧ y.kind = 6 := ⟨_, _, by rfl, by rfl, by rfl⟩
  obtain ⟨x, y, h3, h4, h5⟩ := h3
  refine ⟨x, y, ?_, h4, h5⟩
  unfold docG
  rw [if_neg (by rw [h1]; simp), h2, h3]
set_option maxHeartbeats 4000000 in
theorem awake12_calls (w : World) (hT : TextB w.heap.size w) : Calls Tryz.prog 12 #[] w fun e w' => e = .returned (.bool true) ∧ Below w.heap.size w w' := by
  have hD := PDoc_calls ⟨#[35, 32, 97, 10, 10, 45, 32, 98, 10]⟩ w (by decide) hT
  obtain ⟨x, y, hd, hx, hy⟩ := awake_doc
  have e : bl ⟨#[35, 32, 97, 10, 10, 45, 32, 98, 10]⟩ = awakeL := rfl
  rw [e, hd] at hD
  have HD := Lib.hid hD
  clear hD hd hT
  go_enter Tryz.func12, Tryz.ntmps12
  go_wp2_with fail
  refine HD.out.mono ?_
  rintro e w1 ⟨⟨A, n, c, rfl, hb⟩, hb1⟩
  have hrd := hb _ rfl
  obtain ⟨hl, _⟩ := rd_bls hrd
  have hn : n = 2 := hl.symm
  subst hn
  obtain ⟨g, o, u0, v0, y0, rfl, _, _, k0, _⟩ := hrd.bl_at (i := 0) (by simp)
  obtain ⟨g', o', u1, v1, y1, hA, _, _, k1, _⟩ := hrd.bl_at (i := 1) (by simp)
  injection hA with hA
  injection hA with h1 h2
  subst h1
  subst h2
  simp only [List.getElem_cons_zero, List.getElem_cons_succ, hx, hy, Nat.zero_mul, Nat.one_mul, Nat.add_zero] at k0 k1
  clear hb hrd hl
  go_wp2_with fail
  go_ret
  exact ⟨rfl, hb1⟩
end Go.Proofs.YtlcfijkegdlfcaaGreatDoor
