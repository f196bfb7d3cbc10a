/- The walks of the document's Size of spans and of blocks: they answer a number, whichever. -/
import Derived.Test.YtobncidpdodaiaaDoorProg
import Derived.Test.YtobncidpdodaiaaDoorTree
import Derived.Deep.RegionHeld3
import Derived.PlainAid
import Derived.WalkSpells
namespace Go.Proofs.YtobncidpdodaiaaDoor
open Go.RowKit Go.PlainAid
set_option linter.all false
set_option linter.deprecated false
set_option maxRecDepth 100000
theorem sps_kids {l : List Sp} {x : Sp} (h : x ∈ l) : D.bulks (dSps x.kids) < D.bulks (dSps l) := by
  have h1 : (dSp x).bulk ≤ D.bulks (dSps l) := by rw [dSps_map]; exact D.bulk_mem (List.mem_map.2 ⟨x, h, rfl⟩)
  obtain ⟨k, s, ks⟩ := x
  simp only [dSp, D.bulk, D.bulks, Sp.kids] at *
  omega
theorem bls_kids {l : List Bl} {x : Bl} (h : x ∈ l) : D.bulks (dBls x.kids) < D.bulks (dBls l) := by
  have h1 : (dBl x).bulk ≤ D.bulks (dBls l) := by rw [dBls_map]; exact D.bulk_mem (List.mem_map.2 ⟨x, h, rfl⟩)
  obtain ⟨k, n, i, ls, sp, ks⟩ := x
  simp only [dBl, D.bulk, D.bulks, Bl.kids] at *
  omega
set_option maxHeartbeats 1000000 in
theorem spend07_calls : ∀ (N : Nat) (l : List Sp) (_ : D.bulks (dSps l) ≤ N) (v : Value) (deep left : Int) (w : World) (_ : Rd (· < w.heap.size) w v (dSps l)),
    Calls Tryd.prog 69 #[v, .int .i64 deep, .int .i64 left] w fun e w' => (∃ n, e = .returned (.int .i64 n)) ∧ ∃ q, w' = w.drewN q := by
  intro N
  induction N with
  | zero =>
    intro l hl v deep left w hR
    have h0 : l = [] := by
      have := D.len_bulks (dSps l)
      rw [dSps_len] at this
      exact List.eq_nil_of_length_eq_zero (by omega)
    subst h0
    obtain ⟨A, c, rfl, _⟩ := hR.form
    go_enter Tryd.func69, Tryd.ntmps69
    go_wp2
    go_rounds 1
    go_ret
    exact ⟨⟨_, rfl⟩, 0, rfl⟩
  | succ N ih =>
    intro l hl v deep left w hR
    obtain ⟨A, c, rfl, hc, hmx⟩ := hR.form
    rw [dSps_len] at *
    have HR := Lib.hid hR
    have HL := Lib.hid hl
    clear hR hl
    go_enter Tryd.func69, Tryd.ntmps69
    go_wp2
    go_loopw [7, 11] (fun vn vi wr => ∃ (i : Nat) (n : Int), i ≤ l.length ∧ vi = .int .i64 i ∧ vn = .int .i64 n ∧ ∃ q, wr = w.drewN q) (fun _ vi _ => l.length - (intOf vi).toNat)
    case atStart => exact ⟨0, 0, Nat.zero_le _, rfl, rfl, 0, rfl⟩
    case round =>
      obtain ⟨i, n, hi, rfl, rfl, q, rfl⟩ := hrel
      by_cases hlt : i < l.length
      · obtain ⟨b, o, u, rfl, _, hbl, c0, c1, c2, hk⟩ := HR.out.sp_at hlt
        have hkb := sps_kids (List.getElem_mem hlt)
        generalize l[i] = x at *
        obtain ⟨K, k, rfl, _⟩ := hk.form
        rw [dSps_len] at *
        have hrec := fun (d f : Int) (q' : Nat) => ih x.kids (by have := HL.out; omega) _ d f (w.drewN q') (hk.drewN q')
        have HREC := Lib.hid hrec
        clear hrec hk hkb
        by_cases hd : deep = 0
        · have hd' : (deep == 0) = true := by simp [hd]
          clear hd
          go_wp2
          go_ret
          exact ⟨⟨_, rfl⟩, _, rfl⟩
        · have hd' : (deep == 0) = false := beq_eq_false_iff_ne.2 hd
          by_cases hn : left ≤ n
          · go_wp2
            go_ret
            exact ⟨⟨_, rfl⟩, _, rfl⟩
          · go_wp2_with (go_at_call 69; go_must (refine (HREC.out _ _ _).mono ?_); rintro e w' ⟨⟨m, rfl⟩, nq, rfl⟩)
            go_roundw
            case rel => exact ⟨i + 1, _, by omega, by go_num, rfl, _, by first | rfl | rw [World.drewN_drewN]⟩
            case measure => simp [intOf]; omega
      · go_wp2
        go_ret
        exact ⟨⟨_, rfl⟩, _, rfl⟩
theorem Size07_calls (l : List Sp) (v : Value) (deep : Int) (w : World) (h : Rd (· < w.heap.size) w v (dSps l)) :
    Calls Tryd.prog 52 #[v, .int .i64 deep] w fun e w' => (∃ n, e = .returned (.int .i64 n)) ∧ ∃ q, w' = w.drewN q := by
  have hs := spend07_calls _ l (Nat.le_refl _) v deep 5000 w h
  go_enter Tryd.func52, Tryd.ntmps52
  go_wp2_with (go_at_call 69; go_must (refine hs.mono ?_); rintro e w' ⟨⟨m, rfl⟩, nq, rfl⟩)
  go_ret
  exact ⟨⟨_, rfl⟩, _, rfl⟩
set_option maxHeartbeats 2000000 in
theorem spend10_calls : ∀ (N : Nat) (l : List Bl) (_ : D.bulks (dBls l) ≤ N) (v : Value) (deep left : Int) (w : World) (_ : Rd (· < w.heap.size) w v (dBls l)),
    Calls Tryd.prog 33 #[v, .int .i64 deep, .int .i64 left] w fun e w' => (∃ n, e = .returned (.int .i64 n)) ∧ ∃ q, w' = w.drewN q := by
  intro N
  induction N with
  | zero =>
    intro l hl v deep left w hR
    have h0 : l = [] := by
      have := D.len_bulks (dBls l)
      rw [dBls_len] at this
      exact List.eq_nil_of_length_eq_zero (by omega)
    subst h0
    obtain ⟨A, c, rfl, _⟩ := hR.form
    go_enter Tryd.func33, Tryd.ntmps33
    go_wp2
    go_rounds 1
    go_ret
    exact ⟨⟨_, rfl⟩, 0, rfl⟩
  | succ N ih =>
    intro l hl v deep left w hR
    obtain ⟨A, c, rfl, hc, hmx⟩ := hR.form
    rw [dBls_len] at *
    have HR := Lib.hid hR
    have HL := Lib.hid hl
    clear hR hl
    go_enter Tryd.func33, Tryd.ntmps33
    go_wp2
    go_loopw [7, 12] (fun vn vi wr => ∃ (i : Nat) (n : Int), i ≤ l.length ∧ vi = .int .i64 i ∧ vn = .int .i64 n ∧ ∃ q, wr = w.drewN q) (fun _ vi _ => l.length - (intOf vi).toNat)
    case atStart => exact ⟨0, 0, Nat.zero_le _, rfl, rfl, 0, rfl⟩
    case round =>
      obtain ⟨i, n, hi, rfl, rfl, q, rfl⟩ := hrel
      by_cases hlt : i < l.length
      · obtain ⟨b, o, u, v, y, rfl, _, hbl, c0, c1, c2, c3, c4, c5, hk1, hk2, hk3⟩ := HR.out.bl_at hlt
        have hkb := bls_kids (List.getElem_mem hlt)
        generalize l[i] = x at *
        obtain ⟨K, k, rfl, hkl, _⟩ := hk1.form
        obtain ⟨S, s, rfl, hsl, _⟩ := hk2.form
        obtain ⟨T, t, rfl, htl, _⟩ := hk3.form
        rw [dSps_len] at *
        rw [dBls_len] at *
        rw [List.length_map] at *
        have hrec := fun (d f : Int) (q' : Nat) => ih x.kids (by have := HL.out; omega) _ d f (w.drewN q') (hk3.drewN q')
        have hsz := fun (d : Int) (q' : Nat) => Size07_calls x.spans _ d (w.drewN q') (hk2.drewN q')
        have HREC := Lib.hid hrec
        have HSZ := Lib.hid hsz
        have HK1 := Lib.hid hk1
        clear hrec hk1 hk2 hk3 hkb hsz
        by_cases hd : deep = 0
        · have hd' : (deep == 0) = true := by simp [hd]
          clear hd
          go_wp2
          go_ret
          exact ⟨⟨_, rfl⟩, _, rfl⟩
        · have hd' : (deep == 0) = false := beq_eq_false_iff_ne.2 hd
          by_cases hn : left ≤ n
          · go_wp2
            go_ret
            exact ⟨⟨_, rfl⟩, _, rfl⟩
          · go_wp2
            go_region_held3 (fun w' => w'.cell? ⟨b, o + i * 6 + 2, none⟩ = some (.string x.info) ∧ w'.cell? ⟨b, o + i * 6 + 4, none⟩ = some (.slice S x.spans.length s)) (go_keep)
              (first | (go_at_call 52; refine (HSZ.out _ _).mono ?_; rintro e w' ⟨⟨m, rfl⟩, nq, rfl⟩))
            go_wp2
            go_loopw [7, 46] (fun vn vk wx => ∃ (j : Nat) (n : Int), j ≤ x.lines.length ∧ vk = .int .i64 j ∧ vn = .int .i64 n ∧ ∃ q, wx = w.drewN q) (fun _ vk _ => x.lines.length - (intOf vk).toNat)
            case atStart => exact ⟨0, _, Nat.zero_le _, rfl, rfl, _, by first | rfl | rw [World.drewN_drewN]⟩
            case round =>
              obtain ⟨j, n2, hj, rfl, rfl, q2, rfl⟩ := hrel
              by_cases hlj : j < x.lines.length
              · obtain ⟨bs, os, hK, _, hbs, hcs⟩ := HK1.out.strs (by omega)
                subst hK
                have hcs' := hcs j hlj
                generalize x.lines.getD j ByteArray.empty = z at *
                go_wp2
                go_roundw
                case rel => exact ⟨j + 1, _, by omega, by go_num, rfl, _, by first | rfl | rw [World.drewN_drewN]⟩
                case measure => simp [intOf]; omega
              · go_wp2_with (go_at_call 33; go_must (refine (HREC.out _ _ _).mono ?_); rintro e w' ⟨⟨m2, rfl⟩, nq, rfl⟩)
                go_roundw
                case rel => exact ⟨i + 1, _, by omega, by go_num, rfl, _, by first | rfl | rw [World.drewN_drewN]⟩
                case measure => simp [intOf]; omega
      · go_wp2
        go_ret
        exact ⟨⟨_, rfl⟩, _, rfl⟩
theorem Size10_calls (l : List Bl) (v : Value) (deep : Int) (w : World) (h : Rd (· < w.heap.size) w v (dBls l)) :
    Calls Tryd.prog 18 #[v, .int .i64 deep] w fun e w' => (∃ n, e = .returned (.int .i64 n)) ∧ ∃ q, w' = w.drewN q := by
  have hs := spend10_calls _ l (Nat.le_refl _) v deep 5000 w h
  go_enter Tryd.func18, Tryd.ntmps18
  go_wp2_with (go_at_call 33; go_must (refine hs.mono ?_); rintro e w' ⟨⟨m, rfl⟩, nq, rfl⟩)
  go_ret
  exact ⟨⟨_, rfl⟩, _, rfl⟩
end Go.Proofs.YtobncidpdodaiaaDoor
