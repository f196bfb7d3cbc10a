/- The walk of the document's Alike (layer 15). -/
import Derived.Test.YtobncidpdodaiaaDoorDice
import Derived.StillTailTactics
import Derived.Test.YtobncidpdodaiaaDoorParts
import Derived.Test.YtobncidpdodaiaaDoorRefCutP
import Derived.Test.YtobncidpdodaiaaDoorRefPlain
import Derived.Test.YtobncidpdodaiaaDoorRefKeyL
import Derived.Test.YtobncidpdodaiaaDoorRefIdsP
import Derived.Test.YtobncidpdodaiaaDoorAlike
import Derived.Test.YtobncidpdodaiaaDoorSameB
/- The walks of the document's table, Length, Dice (layer 4). -/
namespace Go.Proofs.YtobncidpdodaiaaDoor
open Go.RowKit Go.PlainAid
set_option linter.all false
set_option linter.deprecated false
set_option maxRecDepth 100000
/-- The rows of a table from a place on: what each holds. -/
def TabF (za zb : List Int) (W : World) (base tb j0 : Nat) (vs : List Value) : Prop :=
  ∀ j, j0 ≤ j → j ≤ za.length → ∃ g c, vs[j]? = some (.slice (some ⟨g, 0, none⟩) (zb.length + 1) c) ∧ base ≤ g ∧ g ≠ tb ∧ g < W.heap.size ∧ ∀ k, k ≤ zb.length → W.cell? ⟨g, k, none⟩ = some (.int .i64 (atL za zb j k))
theorem TabF.step {za zb : List Int} {W W' : World} {base tb j0 : Nat} {vs : List Value} (h : TabF za zb W base tb j0 vs) (hs : W.heap.size ≤ W'.heap.size) (hk : ∀ g, g ≠ tb → g < W.heap.size → W'.heap[g]? = W.heap[g]?) : TabF za zb W' base tb j0 vs := by
  intro j h1 h2
  obtain ⟨g, c, e, b1, b2, b3, hc⟩ := h j h1 h2
  exact ⟨g, c, e, b1, b2, Nat.lt_of_lt_of_le b3 hs, fun k hk' => (World.cell?_of_block (a := ⟨g, k, none⟩) (hk g b2 b3)).trans (hc k hk')⟩
theorem TabF.next {za zb : List Int} {W : World} {base tb q : Nat} {vs : List Value} {g c : Nat} {v : Value} (h : TabF za zb W base tb (q + 1) vs) (hq : q < vs.length) (hv : v = .slice (some ⟨g, 0, none⟩) (zb.length + 1) c) (b1 : base ≤ g) (b2 : g ≠ tb) (b3 : g < W.heap.size)
    (hc : ∀ k, k ≤ zb.length → W.cell? ⟨g, k, none⟩ = some (.int .i64 (atL za zb q k))) : TabF za zb W base tb q (vs.set q v) := by
  intro j h1 h2
  by_cases hj : q = j
  · subst hj; exact ⟨g, c, by rw [List.getElem?_set_self hq, hv], b1, b2, b3, hc⟩
  · obtain ⟨g', c', e, r⟩ := h j (by omega) h2
    exact ⟨g', c', by rw [List.getElem?_set_ne hj]; exact e, r⟩
/-- A table comes. -/
def TabOf (za zb : List Int) (w : World) (e : Ending) (w' : World) : Prop :=
  ∃ tb vs, e = .returned (.slice (some ⟨tb, 0, none⟩) (za.length + 1) (za.length + 1)) ∧ w'.ownsRow w.heap.size 37 1 (.slice (some ⟨tb, 0, none⟩) (za.length + 1) (za.length + 1)) (za.length + 1) vs ∧ TabF za zb w' w.heap.size tb 0 vs ∧ Below w.heap.size w w'
theorem rep_zero (N k : Nat) (h : k < N) : (List.replicate N (0 : Int))[k]? = some 0 := by rw [List.getElem?_replicate, if_pos h]
theorem set_row {za zb hs : List Int} {q r m : Nat} {v : Int} (hm : m = zb.length) (hl : hs.length = m + 1) (hr : r < m) (hf : ∀ k, r + 1 ≤ k → k ≤ m → hs[k]? = some (atL za zb q k)) (hv : v = atL za zb q r) :
    ∀ k, r ≤ k → k ≤ m → (hs.set r v)[k]? = some (atL za zb q k) := by
  intro k h1 h2
  by_cases hj : r = k
  · subst hj; rw [List.getElem?_set_self (by omega), hv]
  · rw [List.getElem?_set_ne hj]; exact hf k (by omega) h2
set_option maxHeartbeats 4000000 in
theorem table04_calls (va vb : Value) (za zb : List Int) (w : World) (hA : Rd (· < w.heap.size) w va (za.map (D.int .i64))) (hB : Rd (· < w.heap.size) w vb (zb.map (D.int .i64))) (la : za.length ≤ 1048575) (lb : zb.length ≤ 1048575) :
    Calls Tryd.prog 68 #[va, vb] w (TabOf za zb w) := by
  obtain ⟨A, ca, rfl, hca, _⟩ := hA.form
  obtain ⟨B, cb, rfl, hcb, _⟩ := hB.form
  simp only [List.length_map] at *
  have HA := Lib.hid hA
  have HB := Lib.hid hB
  clear hA hB
  have hn : za.length ≤ 1048575 := la
  obtain ⟨i0, hi, hz0, hz1, hz2⟩ := info_parts infoInt
  obtain ⟨i1, hi1, hz3, hz4, hz5⟩ := info_parts infoInts
  obtain ⟨N, hN⟩ : ∃ N, za.length + 1 = N := ⟨_, rfl⟩
  obtain ⟨M, hM⟩ : ∃ M, zb.length + 1 = M := ⟨_, rfl⟩
  have c1 : IntKind.i64.wrap ((za.length : Int) + 1) = (N : Int) := by rw [← hN, IntWalk.i64_in _ (by omega)]; rfl
  have c2 : IntKind.i64.wrap ((zb.length : Int) + 1) = (M : Int) := by rw [← hM, IntWalk.i64_in _ (by omega)]; rfl
  have HN := Lib.hid hN
  have HM := Lib.hid hM
  clear hN hM
  have hNb : N ≤ 1048576 := by have := HN.out; omega
  have hMb : M ≤ 1048576 := by have := HM.out; omega
  go_enter Tryd.func68, Tryd.ntmps68
  go_wp2_with (at_make; go_must (refine wpList_make_full _ rfl _ _ 33 rfl w.heap.size 37 i1 _ 1 Tryd.underlying33 hi1 hz3 hz4 .i64 .i64 _ _ N rfl rfl rfl rfl (by rw [hz5]; omega) (by simp only [maxLen]; omega) (Nat.le_refl _) ?_); intro w1 hown hgr)
  have hB1 : Below w.heap.size w w1 := (Below.refl _ _).grown hgr (Nat.le_refl _) (fun k hk => by cases hk)
  have hlt1 : w.heap.size < w1.heap.size := by have := (hown.lt _ rfl).2; omega
  obtain ⟨vs0, hvs0⟩ : ∃ vs0, (madeCells (Value.slice none 0 0).cells (N * 1)).toList = vs0 := ⟨_, rfl⟩
  rw [hvs0] at hown
  clear hgr hvs0
  have hgn : ∀ W : World, w.heap.size < W.heap.size → ¬ w.heap.size = W.heap.size := fun W h => by omega
  go_wp2_with fail
  go_loopw [6] (fun v6 wr => ∃ (q : Nat) (vs : List Value), v6 = .int .i64 ((q : Int) - 1) ∧ q ≤ N ∧ wr.ownsRow w.heap.size 37 1 (.slice (some ⟨w.heap.size, 0, none⟩) N N) N vs ∧ TabF za zb wr w.heap.size w.heap.size q vs ∧ Below w.heap.size w wr ∧ w.heap.size < wr.heap.size) (fun v6 _ => (intOf v6 + 1).toNat)
  case atStart => exact ⟨N, vs0, by have := HN.out; congr 1; omega, Nat.le_refl _, hown, fun j h1 h2 => absurd h2 (by have := HN.out; omega), hB1, hlt1⟩
  case round =>
    clear hown hB1 hlt1
    obtain ⟨m, vs, rfl, hm, hor, hf, hBr, hszr⟩ := hrel
    rcases m with _ | q
    · go_wp2_with fail
      go_ret
      have e := HN.out
      refine ⟨w.heap.size, vs, ?_, by rw [e]; exact hor, hf, hBr⟩
      rw [e]; rfl
    · have es : ((q + 1 : Nat) : Int) - 1 = q := by omega
      rw [es]
      have hvl : vs.length = N := by have := hor.1; simpa using this
      have hcq : ∃ u, wr.cell? ⟨w.heap.size, q, none⟩ = some u := ⟨_, by rw [hor.cellAt q (by omega), List.getElem?_eq_getElem (by omega)]⟩
      obtain ⟨u0, hcq⟩ := hcq
      have hfq : wr.frozen? ⟨w.heap.size, q, none⟩ = false := hor.frozenAt q
      have HF := Lib.hid hf
      have HVL := Lib.hid hvl
      have hqN : (q : Int) < N := by omega
      have hqN2 : q < N := by omega
      have hq0 : (0 : Int) ≤ q := by omega
      clear hf hvl es
      go_wp2_with (at_make; go_must (refine wpList_make_full _ rfl _ _ 37 rfl wr.heap.size 3 i0 _ 1 Tryd.underlying37 hi hz0 hz1 .i64 .i64 _ _ M rfl rfl rfl rfl (by rw [hz2]; omega) (by simp only [maxLen]; omega) (Nat.le_refl _) ?_); intro w2 hown2 hgr2; have hB2 : Below wr.heap.size wr w2 := (Below.refl _ _).grown hgr2 (Nat.le_refl _) (fun k hk => by cases hk); have hor2 := own_at hor (hB2.block _ hszr); have hcq2 := below_at' hB2 hszr hcq; have hfq2 : w2.frozen? ⟨w.heap.size, q, none⟩ = false := hor2.frozenAt q)
      have hne : ¬ wr.heap.size = w.heap.size := by omega
      have hB23 := below_to hBr hBr.size hB2
      obtain ⟨v0, hv0⟩ : ∃ v0, Value.slice (some ⟨wr.heap.size, 0, none⟩) M M = v0 := ⟨_, rfl⟩
      have hst := World.ownsRow.stored (w := w2) (by exact hor2) q v0
      have hown3 : (w2.setCell ⟨w.heap.size, q, none⟩ v0).ownsRow wr.heap.size 3 1 (.slice (some ⟨wr.heap.size, 0, none⟩) M M) M (madeCells (Value.int .i64 0).cells (M * 1)).toList := own_at hown2 (Below.heap_setCell _ _ _ _ hne)
      have hB3 : Below w.heap.size w (w2.setCell ⟨w.heap.size, q, none⟩ v0) := hB23.setCell (Nat.le_refl _) _
      have hK3 : ∀ g, g ≠ w.heap.size → g < wr.heap.size → (w2.setCell ⟨w.heap.size, q, none⟩ v0).heap[g]? = wr.heap[g]? := fun g h1 h2 => (Below.heap_setCell _ _ _ _ h1).trans (hB2.block g h2)
      have hsz3 : wr.heap.size < (w2.setCell ⟨w.heap.size, q, none⟩ v0).heap.size := by have := (hown2.lt _ rfl).2; simpa using this
      have hmk : (madeCells (Value.int .i64 0).cells (M * 1)).toList = (List.replicate M (0 : Int)).map (Value.int .i64) := by rw [made_one rfl, List.map_replicate]
      rw [hmk] at hown3
      rw [hv0]
      obtain ⟨wo, rfl⟩ : ∃ wo, wo = wr := ⟨_, rfl⟩
      have H3 := Lib.hid hst.1
      have HK3 := Lib.hid hK3
      have HV0 := Lib.hid hv0
      generalize w2.setCell ⟨w.heap.size, q, none⟩ v0 = W3 at *
      clear hst hK3 hv0 hown2 hgr2 hB2 hor2 hcq2 hfq2 hcq hfq hor hB23 hmk
      go_loopw [7] (fun v7 wx => ∃ (p : Nat) (hs : List Int), v7 = .int .i64 ((p : Int) - 1) ∧ p ≤ zb.length ∧ wx.ownsRow wo.heap.size 3 1 (.slice (some ⟨wo.heap.size, 0, none⟩) M M) M (hs.map (Value.int .i64)) ∧ (∀ k, (p ≤ k ∨ q = za.length) → k ≤ zb.length → hs[k]? = some (atL za zb q k)) ∧ Below wo.heap.size W3 wx) (fun v7 _ => (intOf v7 + 1).toNat)
      case atStart => exact ⟨zb.length, _, by first | rfl | trivial, Nat.le_refl _, hown3, fun k h1 h2 => by rw [rep_zero M k (by have := HM.out; omega), atL_edge (by omega)], Below.refl _ _⟩
      case round =>
        clear hown3
        obtain ⟨p, hs, rfl, hp, hor, hf, hBx⟩ := hrel
        have hbase : Below w.heap.size w wr := hB3.trans (hBx.mono hBr.size)
        have hszr2 : wo.heap.size < wr.heap.size := Nat.lt_of_lt_of_le hsz3 hBx.size
        have hort := own_at H3.out (hBx.block _ hszr)
        have hKx : ∀ g, g ≠ w.heap.size → g < wo.heap.size → wr.heap[g]? = wo.heap[g]? := fun g h1 h2 => (hBx.block g h2).trans (HK3.out g h1 h2)
        have hlen : hs.length = M := by have := hor.1; simpa using this
        have HLEN := Lib.hid hlen
        have HFR := Lib.hid hf
        clear hf hlen
        by_cases hex : p = 0 ∨ q = za.length
        · have hq1 : (fun k => k ≤ zb.length → wr.cell? ⟨wo.heap.size, k, none⟩ = some (.int .i64 (atL za zb q k))) = fun _ => True := by
            funext k
            apply propext
            refine ⟨fun _ => trivial, fun _ hk => ?_⟩
            rw [hor.cellAt k (by have := HM.out; omega), List.getElem?_map, HFR.out k (by omega) hk]; rfl
          have hall : ∀ k, k ≤ zb.length → wr.cell? ⟨wo.heap.size, k, none⟩ = some (.int .i64 (atL za zb q k)) := fun k => by rw [congrFun hq1 k]; trivial
          have hnew : TabF za zb wr w.heap.size w.heap.size q (vs.set q v0) := TabF.next (HF.out.step (Nat.le_trans (Nat.le_of_lt hsz3) hBx.size) hKx) (by rw [HVL.out]; exact hqN2) (by rw [← HV0.out, HM.out]) hBr.size hne hszr2 hall
          have HNEW := Lib.hid hnew
          clear hq1 hall hnew
          have hw1 : IntKind.i64.wrap ((q : Int) - 1) = (q : Int) - 1 := IntWalk.i64_in _ (by omega)
          rcases Nat.eq_zero_or_pos p with h0 | h0
          · subst h0
            go_wp2_with fail
            go_roundw
            case rel => exact ⟨q, _, rfl, by omega, hort, HNEW.out, hbase, Nat.lt_trans hszr hszr2⟩
            case measure => simp [intOf]
          · have hp1 : (0 : Int) ≤ (p : Int) - 1 := by omega
            have hnl : ¬ (q : Int) < za.length := by omega
            clear hex
            go_wp2_with fail
            go_roundw
            case rel => exact ⟨q, _, rfl, by omega, hort, HNEW.out, hbase, Nat.lt_trans hszr hszr2⟩
            case measure => simp [intOf]
        · obtain ⟨r, rfl⟩ : ∃ r, p = r + 1 := ⟨p - 1, by omega⟩
          have hqa : q < za.length := by have := HN.out; omega
          have hrb : r < zb.length := by omega
          have HFR2 : Hid (∀ k, r + 1 ≤ k → k ≤ zb.length → hs[k]? = some (atL za zb q k)) := Lib.hid (fun k h1 h2 => HFR.out k (.inl h1) h2)
          obtain ⟨ba, oa, rfl, _, hbal, ha⟩ := (HA.out.lt_below hbase).ints (by omega)
          obtain ⟨bb, ob, rfl, _, hbbl, hb⟩ := (HB.out.lt_below hbase).ints (by omega)
          have hca' := ha q hqa
          have hcb' := hb r hrb
          have hx : za.getD q 0 = za[q] := by simp [hqa]
          have hy : zb.getD r 0 = zb[r] := by simp [hrb]
          rw [hx] at hca'
          rw [hy] at hcb'
          have hstep := lcsL_at za zb hqa hrb
          generalize za[q] = x at *
          generalize zb[r] = y at *
          obtain ⟨g', c', e', b1, b2, b3, hc'⟩ := HF.out (q + 1) (Nat.le_refl _) (by omega)
          have t0 : wr.cell? ⟨w.heap.size, q, none⟩ = some (.slice (some ⟨wo.heap.size, 0, none⟩) M M) := by
            rw [hort.cellAt q (by omega), List.getElem?_set_self (by rw [HVL.out]; omega), HV0.out]
          have t1 : wr.cell? ⟨w.heap.size, q + 1, none⟩ = some (.slice (some ⟨g', 0, none⟩) M c') := by
            rw [hort.cellAt (q + 1) (by have := HN.out; omega), List.getElem?_set_ne (by omega), e', HM.out]
          have hg' : ∀ k, k ≤ zb.length → wr.cell? ⟨g', k, none⟩ = some (.int .i64 (atL za zb (q + 1) k)) := fun k hk => (World.cell?_of_block (a := ⟨g', k, none⟩) (hKx g' b2 b3)).trans (hc' k hk)
          have u0 := hg' r (by omega)
          have u1 := hg' (r + 1) (by omega)
          have v1 : wr.cell? ⟨wo.heap.size, r + 1, none⟩ = some (.int .i64 (atL za zb q (r + 1))) := by
            rw [hor.cellAt (r + 1) (by have := HM.out; omega), List.getElem?_map, HFR2.out (r + 1) (Nat.le_refl _) (by omega)]; rfl
          have hcr : ∃ v, wr.cell? ⟨wo.heap.size, r, none⟩ = some v := ⟨_, by rw [hor.cellAt r (by have := HM.out; omega), List.getElem?_map, List.getElem?_eq_getElem (by rw [HLEN.out]; have := HM.out; omega)]; rfl⟩
          obtain ⟨v0', hcr⟩ := hcr
          have hfr : wr.frozen? ⟨wo.heap.size, r, none⟩ = false := hor.frozenAt r
          have z1 := atL_bd za zb (q + 1) (r + 1)
          have z2 := atL_bd za zb (q + 1) r
          have z3 := atL_bd za zb q (r + 1)
          have hv1 : (x == y) = true → IntKind.i64.wrap (atL za zb (q + 1) (r + 1) + 1) = atL za zb q r := fun hxy => by
            rw [IntWalk.i64_in _ (by omega)]
            unfold atL
            rw [hstep, if_pos (beq_iff_eq.1 hxy)]
            simp
          have hv2 : (x == y) = false → max (atL za zb (q + 1) r) (atL za zb q (r + 1)) = atL za zb q r := fun hxy => by
            unfold atL
            rw [hstep, if_neg (beq_eq_false_iff_ne.1 hxy)]
            omega
          generalize hR : atL za zb q r = R at *
          generalize atL za zb (q + 1) (r + 1) = D1 at *
          generalize atL za zb (q + 1) r = D2 at *
          generalize atL za zb q (r + 1) = D3 at *
          have HV1 := Lib.hid hv1
          have HV2 := Lib.hid hv2
          have HRR := Lib.hid hR
          clear hv1 hv2 hstep hg' hx hy ha hb hR hex z1 z2 z3 e' hc' hp
          have es : ((r + 1 : Nat) : Int) - 1 = r := by omega
          rw [es]
          clear es
          have w1 : IntKind.i64.wrap ((q : Int) + 1) = (q : Int) + 1 := IntWalk.i64_in _ (by omega)
          have w2' : IntKind.i64.wrap ((r : Int) + 1) = (r : Int) + 1 := IntWalk.i64_in _ (by omega)
          have w3 : ((q : Int) + 1).toNat = q + 1 := by omega
          have w4 : ((r : Int) + 1).toNat = r + 1 := by omega
          have i1 : (q : Int) < za.length := by omega
          have i2 : (r : Int) < zb.length := by omega
          have i3 : (q : Int) + 1 < N := by have := HN.out; omega
          have i4 : (r : Int) + 1 < M := by have := HM.out; omega
          have i5 : (r : Int) < M := by omega
          have i6 : (0 : Int) ≤ (q : Int) + 1 := by omega
          have i7 : (0 : Int) ≤ (r : Int) + 1 := by omega
          have i8 : (0 : Int) ≤ r := by omega
          have hlt4 : (r : Int) < zb.length := by omega
          cases hxy : x == y with
          | true =>
            have hv := HV1.out hxy
            clear HV1 HV2
            go_wp2
            go_quiet (fail)
            go_wp2_with fail
            obtain ⟨wd, hwd⟩ : ∃ wd, wr.drewN nq = wd := ⟨_, rfl⟩
            have T0 : wd.cell? ⟨w.heap.size, q, none⟩ = some (.slice (some ⟨wo.heap.size, 0, none⟩) M M) := by rw [← hwd]; exact t0
            have T1 : wd.cell? ⟨w.heap.size, q + 1, none⟩ = some (.slice (some ⟨g', 0, none⟩) M c') := by rw [← hwd]; exact t1
            have U0 : wd.cell? ⟨g', r, none⟩ = some (.int .i64 D2) := by rw [← hwd]; exact u0
            have U1 : wd.cell? ⟨g', r + 1, none⟩ = some (.int .i64 D1) := by rw [← hwd]; exact u1
            have V1 : wd.cell? ⟨wo.heap.size, r + 1, none⟩ = some (.int .i64 D3) := by rw [← hwd]; exact v1
            have CR : wd.cell? ⟨wo.heap.size, r, none⟩ = some v0' := by rw [← hwd]; exact hcr
            have FR : wd.frozen? ⟨wo.heap.size, r, none⟩ = false := by rw [← hwd]; exact hfr
            have ORD : wd.ownsRow wo.heap.size 3 1 (.slice (some ⟨wo.heap.size, 0, none⟩) M M) M (hs.map (Value.int .i64)) := by rw [← hwd]; exact hor
            have BD : Below wo.heap.size W3 wd := by rw [← hwd]; exact below_drewN hBx nq
            rw [hwd]
            have HO := Lib.hid ORD
            have HBD := Lib.hid BD
            clear hwd t0 t1 u0 u1 v1 hcr hfr hor hBx hbase hort hKx ORD BD
            go_still_tail 16, (by kernel_rfl)
            change wpList _ _ _ _ _ wd.drew
            have CR2 : wd.drew.cell? ⟨wo.heap.size, r, none⟩ = some v0' := CR
            have FR2 : wd.drew.frozen? ⟨wo.heap.size, r, none⟩ = false := FR
            have HO2 := Lib.hid (show wd.drew.ownsRow wo.heap.size 3 1 (.slice (some ⟨wo.heap.size, 0, none⟩) M M) M (hs.map (Value.int .i64)) from HO.out)
            have HBD2 := Lib.hid (Below.drew HBD.out)
            generalize wd.drew = we at *
            clear T0 T1 U0 U1 V1 CR FR HO HBD
            go_wp2_with fail
            go_roundw
            case rel => exact ⟨r, hs.set r R, rfl, by omega, by rw [List.map_set]; exact (World.ownsRow.stored (w := we) (by exact HO2.out) r _).1, fun k h1 h2 => set_row (m := zb.length) rfl (by rw [HLEN.out]; exact HM.out.symm) hrb HFR2.out HRR.out.symm k (by omega) h2, HBD2.out.setCell (Nat.le_refl _) _⟩
            case measure => simp [intOf]
          | false =>
            have hv := HV2.out hxy
            clear HV1 HV2
            go_wp2
            go_quiet (fail)
            go_wp2_with fail
            obtain ⟨wd, hwd⟩ : ∃ wd, wr.drewN nq = wd := ⟨_, rfl⟩
            have T0 : wd.cell? ⟨w.heap.size, q, none⟩ = some (.slice (some ⟨wo.heap.size, 0, none⟩) M M) := by rw [← hwd]; exact t0
            have T1 : wd.cell? ⟨w.heap.size, q + 1, none⟩ = some (.slice (some ⟨g', 0, none⟩) M c') := by rw [← hwd]; exact t1
            have U0 : wd.cell? ⟨g', r, none⟩ = some (.int .i64 D2) := by rw [← hwd]; exact u0
            have U1 : wd.cell? ⟨g', r + 1, none⟩ = some (.int .i64 D1) := by rw [← hwd]; exact u1
            have V1 : wd.cell? ⟨wo.heap.size, r + 1, none⟩ = some (.int .i64 D3) := by rw [← hwd]; exact v1
            have CR : wd.cell? ⟨wo.heap.size, r, none⟩ = some v0' := by rw [← hwd]; exact hcr
            have FR : wd.frozen? ⟨wo.heap.size, r, none⟩ = false := by rw [← hwd]; exact hfr
            have ORD : wd.ownsRow wo.heap.size 3 1 (.slice (some ⟨wo.heap.size, 0, none⟩) M M) M (hs.map (Value.int .i64)) := by rw [← hwd]; exact hor
            have BD : Below wo.heap.size W3 wd := by rw [← hwd]; exact below_drewN hBx nq
            rw [hwd]
            have HO := Lib.hid ORD
            have HBD := Lib.hid BD
            clear hwd t0 t1 u0 u1 v1 hcr hfr hor hBx hbase hort hKx ORD BD
            go_still_tail 23, (by kernel_rfl)
            change wpList _ _ _ _ _ wd.drew
            have CR2 : wd.drew.cell? ⟨wo.heap.size, r, none⟩ = some v0' := CR
            have FR2 : wd.drew.frozen? ⟨wo.heap.size, r, none⟩ = false := FR
            have HO2 := Lib.hid (show wd.drew.ownsRow wo.heap.size 3 1 (.slice (some ⟨wo.heap.size, 0, none⟩) M M) M (hs.map (Value.int .i64)) from HO.out)
            have HBD2 := Lib.hid (Below.drew HBD.out)
            generalize wd.drew = we at *
            clear T0 T1 U0 U1 V1 CR FR HO HBD
            go_wp2_with fail
            go_roundw
            case rel => exact ⟨r, hs.set r R, rfl, by omega, by rw [List.map_set]; exact (World.ownsRow.stored (w := we) (by exact HO2.out) r _).1, fun k h1 h2 => set_row (m := zb.length) rfl (by rw [HLEN.out]; exact HM.out.symm) hrb HFR2.out HRR.out.symm k (by omega) h2, HBD2.out.setCell (Nat.le_refl _) _⟩
            case measure => simp [intOf]
theorem atL_00 (za zb : List Int) : atL za zb 0 0 = (lcsL za zb : Nat) := by simp [atL]
set_option maxHeartbeats 1000000 in
theorem Length04_calls (va vb : Value) (za zb : List Int) (w : World) (hA : Rd (· < w.heap.size) w va (za.map (D.int .i64))) (hB : Rd (· < w.heap.size) w vb (zb.map (D.int .i64))) (la : za.length ≤ 1048575) (lb : zb.length ≤ 1048575) :
    Calls Tryd.prog 51 #[va, vb] w fun e w' => e = .returned (.int .i64 (lcsL za zb : Nat)) ∧ Below w.heap.size w w' := by
  have HT := Lib.hid (table04_calls va vb za zb w hA hB la lb)
  clear hA hB
  go_enter Tryd.func51, Tryd.ntmps51
  go_wp2_with fail
  refine HT.out.mono ?_
  rintro e w1 ⟨tb, vs, rfl, hown, hf, hb⟩
  obtain ⟨g, c, e0, b1, b2, b3, hc⟩ := hf 0 (Nat.le_refl _) (Nat.zero_le _)
  have t0 : w1.cell? ⟨tb, 0, none⟩ = some (.slice (some ⟨g, 0, none⟩) (zb.length + 1) c) := by rw [hown.cellAt 0 (by omega), e0]
  have t1 := hc 0 (Nat.zero_le _)
  rw [atL_00] at t1
  have p1 : (0 : Int) < (za.length : Int) + 1 := by omega
  have p2 : (0 : Int) < (zb.length : Int) + 1 := by omega
  have p3 : 0 < za.length + 1 := by omega
  have p4 : 0 < zb.length + 1 := by omega
  clear hown hf hc e0
  go_wp2_with fail
  go_ret
  exact ⟨rfl, hb⟩
set_option maxHeartbeats 1000000 in
theorem Dice04_calls (va vb : Value) (za zb : List Int) (w : World) (hA : Rd (· < w.heap.size) w va (za.map (D.int .i64))) (hB : Rd (· < w.heap.size) w vb (zb.map (D.int .i64))) (la : za.length ≤ 1048575) (lb : zb.length ≤ 1048575) :
    Calls Tryd.prog 32 #[va, vb] w fun e w' => e = .returned (.int .i64 (dice za zb)) ∧ Below w.heap.size w w' := by
  obtain ⟨A, ca, rfl, hca, _⟩ := hA.form
  obtain ⟨B, cb, rfl, hcb, _⟩ := hB.form
  have HL := Lib.hid (Length04_calls _ _ za zb w hA hB la lb)
  simp only [List.length_map] at *
  have hd : dice za zb = if za.length + zb.length = 0 then 1000 else ((2000 * lcsL za zb / (za.length + zb.length) : Nat) : Int) := rfl
  have hle := (lcsL_le za zb).1
  generalize lcsL za zb = L at *
  by_cases h0 : za.length + zb.length = 0
  · rw [if_pos h0] at hd
    rw [hd]
    have hz : ((za.length : Int) + (zb.length : Int) == 0) = true := by simp; omega
    clear hd hA hB h0 HL
    go_enter Tryd.func32, Tryd.ntmps32
    go_wp2_with fail
    go_ret
    exact ⟨rfl, Below.refl _ _⟩
  · rw [if_neg h0] at hd
    have hz : ((za.length : Int) + (zb.length : Int) == 0) = false := beq_eq_false_iff_ne.2 (by omega)
    have hp : (0 : Int) < (za.length : Int) + (zb.length : Int) := by omega
    have HD := Lib.hid hd
    clear hd hA hB h0
    go_enter Tryd.func32, Tryd.ntmps32
    go_wp2_with fail
    refine HL.out.mono ?_
    rintro e w1 ⟨rfl, hb⟩
    go_wp2_with fail
    go_ret
    exact ⟨ret_int (by rw [HD.out]; simp), hb⟩
end Go.Proofs.YtobncidpdodaiaaDoor
/- The walk of the document's parts (layer 15). -/
namespace Go.Proofs.YtobncidpdodaiaaDoor
open Go.RowKit Go.PlainAid
set_option linter.all false
set_option linter.deprecated false
set_option maxRecDepth 100000
set_option maxHeartbeats 4000000 in
theorem parts15_calls (k n : Int) (inf : ByteArray) (ls : List ByteArray) (sp : List Sp) (l : List Bl) (hb : (dBl (.mk k n inf ls sp l)).bulk ≤ 1048583) (hwf : (Bl.mk k n inf ls sp l).wf) (A1 : Option Addr) (c1 : Nat) (A2 : Option Addr) (c2 : Nat) (A3 : Option Addr) (c3 : Nat) (w : World)
    (hR1 : Rd (· < w.heap.size) w (.slice A1 ls.length c1) (ls.map D.str)) (hR2 : Rd (· < w.heap.size) w (.slice A2 sp.length c2) (dSps sp)) (hR3 : Rd (· < w.heap.size) w (.slice A3 l.length c3) (dBls l)) :
    Calls Tryd.prog 31 #[.agg #[.int .i64 k, .int .i64 n, .string inf, .slice A1 ls.length c1, .slice A2 sp.length c2, .slice A3 l.length c3]] w (PartsOf (partsB (.mk k n inf ls sp l)) w) := by
  have hbw : Below w.heap.size w (w.alloc (.cells #[.int .i64 k, .int .i64 n, .string inf, .slice A1 ls.length c1, .slice A2 sp.length c2, .slice A3 l.length c3] 26)) := below_alloc (Below.refl _ _) (Nat.le_refl _) _
  have hpb := partsB_len (.mk k n inf ls sp l)
  have hdef : partsB (.mk k n inf ls sp l) = if k = 1 ∨ k = 2 then cut (plainS sp) else if k = 4 then ls else if k = 5 ∨ k = 6 ∨ k = 7 then l.map keyS else if k = 8 then inf :: ls else [] := rfl
  rw [bulk_bl'] at hb hpb
  rw [Bl.wf] at hwf
  generalize partsB (.mk k n inf ls sp l) = PP at *
  by_cases h1 : k = 1 ∨ k = 2
  · rw [if_pos h1] at hdef
    have HP1 := Lib.hid (Plain07_calls (D.bulks (dSps sp) + 1) sp (by omega) (by omega) _ _ (hR2.lt_below hbw))
    have HC := Lib.hid (fun W => RefCut_calls (plainS sp) W (by have := plainS_size sp; omega))
    simp only [refCut_eq, ← hdef] at HC
    clear hdef hR1 hR2 hR3 hwf
    rcases h1 with rfl | rfl
    all_goals
      go_enter Tryd.func31, Tryd.ntmps31
      go_wp2_with fail
      refine HP1.out.mono ?_
      rintro e w1 ⟨rfl, rfl⟩
      have hb2 := hbw
      go_wp2_with fail
      refine (HC.out _).mono ?_
      rintro e w2 ⟨v, rfl, hown, hb3⟩
      have hr := rd_row hown rfl (Below.refl _ _)
      have HR := Lib.hid hr
      clear hown hr
      go_wp2_with fail
      go_ret
      exact ⟨_, rfl, HR.out, below_to hb2 hb2.size hb3⟩
  rw [if_neg h1] at hdef
  have n1 : (k == 1) = false := beq_eq_false_iff_ne.2 (fun e => h1 (.inl e))
  have n2 : (k == 2) = false := beq_eq_false_iff_ne.2 (fun e => h1 (.inr e))
  by_cases h4 : k = 4
  · rw [if_pos h4] at hdef
    have HR := Lib.hid (hR1.lt_below hbw)
    rw [← hdef] at HR
    clear hR1 hR2 hR3 hwf
    subst h4
    have HD := Lib.hid hdef
    clear hdef n1 n2 h1
    go_enter Tryd.func31, Tryd.ntmps31
    go_wp2_with fail
    go_ret
    exact ⟨_, rfl, by have := HR.out; rw [HD.out] at this ⊢; exact this, hbw⟩
  rw [if_neg h4] at hdef
  have n4 : (k == 4) = false := beq_eq_false_iff_ne.2 h4
  by_cases h5 : k = 5 ∨ k = 6 ∨ k = 7
  · rw [if_pos h5] at hdef
    have HK := Lib.hid (Keys15_calls _ l _ (hR3.lt_below hbw) (by omega) hwf.2.2.2)
    rw [← hdef] at HK
    have hll : PP.length = l.length := by rw [hdef, List.length_map]
    have HLL := Lib.hid hll
    clear hdef hR1 hR2 hR3 hwf n1 n2 n4 h1 h4 hll
    rcases h5 with rfl | rfl | rfl
    all_goals
      go_enter Tryd.func31, Tryd.ntmps31
      go_wp2_with fail
      refine HK.out.mono ?_
      rintro e w1 ⟨v, rfl, hown, hb1⟩
      have hr := rd_row hown HLL.out (Below.refl _ _)
      have HR := Lib.hid hr
      clear hown hr
      go_wp2_with fail
      go_ret
      exact ⟨_, rfl, HR.out, below_to hbw hbw.size hb1⟩
  rw [if_neg h5] at hdef
  have n5 : (k == 5) = false := beq_eq_false_iff_ne.2 (fun e => h5 (.inl e))
  have n6 : (k == 6) = false := beq_eq_false_iff_ne.2 (fun e => h5 (.inr (.inl e)))
  have n7 : (k == 7) = false := beq_eq_false_iff_ne.2 (fun e => h5 (.inr (.inr e)))
  by_cases h8 : k = 8
  · rw [if_pos h8] at hdef
    subst h8
    have hll : (inf :: ls).length = ls.length + 1 := rfl
    have hls := strs_len ls
    have h63 : ls.length + 1 ≤ 1048583 := by omega
    have HD := Lib.hid hdef
    have HR := Lib.hid hR1
    have hnil : A1 = none → c1 = 0 := fun e => by subst e; exact hR1.nocap
    have hs1 : Below w.heap.size w ((w.alloc (.cells #[.int .i64 8, .int .i64 n, .string inf, .slice A1 ls.length c1, .slice A2 sp.length c2, .slice A3 l.length c3] 26)).alloc (.cells #[.string inf] 9)) := below_alloc hbw hbw.size _
    have pl := World.ownsRow_lit (base := w.heap.size) (e := 9) (size := 1) (w.alloc (.cells #[.int .i64 8, .int .i64 n, .string inf, .slice A1 ls.length c1, .slice A2 sp.length c2, .slice A3 l.length c3] 26)) #[.string inf] 1 hbw.size (by unfold maxLen; omega) rfl
    rw [World.size_alloc] at pl
    obtain ⟨m1, m2, m3⟩ := str_news hR1 (fun k hk _ => hs1.block k hk)
    have HM := Lib.hid m3
    have HS := Lib.hid hs1
    have PL := Lib.hid pl
    clear hdef hR1 hR2 hR3 hwf hbw n1 n2 n4 n5 n6 n7 h1 h4 h5 hll hpb hb hls hnil m3 hs1 pl
    go_enter Tryd.func31, Tryd.ntmps31
    go_wp2_with (at_builtin; go_must (refine app_many w.heap.size rfl _ _ 22 9 rfl Tryd.underlying22 infoStr rfl (by decide) (by decide) (ls.map Value.string) rfl rfl m1 (by simp [Value.oneCell']) m2 HM.out (by exact PL.out) HS.out.size (by omega) ?_); intro v' w4 hown' hb4)
    have hown2 : w4.ownsRow w.heap.size 9 1 v' (inf :: ls).length ((inf :: ls).map Value.string) := by
      have e : (inf :: ls).length = 1 + ls.length := by rw [List.length_cons, Nat.add_comm]
      rw [e]; exact hown'
    have hr := rd_row hown2 rfl (Below.refl _ _)
    have HRR := Lib.hid hr
    have hbz := HS.out.trans (hb4.mono (by have := HS.out.size; omega))
    clear hown' hown2 hr
    go_ret
    exact ⟨_, rfl, by rw [HD.out]; exact HRR.out, hbz⟩
  · rw [if_neg h8] at hdef
    have n8 : (k == 8) = false := beq_eq_false_iff_ne.2 h8
    have HD := Lib.hid hdef
    clear hdef hR1 hR2 hR3 hwf h1 h4 h5 h8
    go_enter Tryd.func31, Tryd.ntmps31
    go_wp2_with fail
    go_ret
    exact ⟨_, rfl, by rw [HD.out]; exact Rd.nil _ _, hbw⟩
end Go.Proofs.YtobncidpdodaiaaDoor
namespace Go.Proofs.YtobncidpdodaiaaDoor
open Go.RowKit Go.PlainAid
set_option linter.all false
set_option linter.deprecated false
set_option maxRecDepth 100000
set_option maxHeartbeats 8000000 in
theorem Alike15_calls (k n k' n' : Int) (s s' : ByteArray) (ls ls' : List ByteArray) (sp sp' : List Sp) (l l' : List Bl) (hb : (dBl (.mk k n s ls sp l)).bulk ≤ 1048583) (hb' : (dBl (.mk k' n' s' ls' sp' l')).bulk ≤ 1048583)
    (hpp : ¬ eqBl (.mk k n s ls sp l) (.mk k' n' s' ls' sp' l') = true → (partsB (.mk k n s ls sp l)).length + (partsB (.mk k' n' s' ls' sp' l')).length ≤ 1048575) (hwf : (Bl.mk k n s ls sp l).wf) (hwf' : (Bl.mk k' n' s' ls' sp' l').wf)
    (A1 A2 A3 A1' A2' A3' : Option Addr) (c1 c2 c3 c1' c2' c3' : Nat) (w : World)
    (hR1 : Rd (· < w.heap.size) w (.slice A1 ls.length c1) (ls.map D.str)) (hR2 : Rd (· < w.heap.size) w (.slice A2 sp.length c2) (dSps sp)) (hR3 : Rd (· < w.heap.size) w (.slice A3 l.length c3) (dBls l))
    (hR1' : Rd (· < w.heap.size) w (.slice A1' ls'.length c1') (ls'.map D.str)) (hR2' : Rd (· < w.heap.size) w (.slice A2' sp'.length c2') (dSps sp')) (hR3' : Rd (· < w.heap.size) w (.slice A3' l'.length c3') (dBls l')) :
    Calls Tryd.prog 17 #[.agg #[.int .i64 k, .int .i64 n, .string s, .slice A1 ls.length c1, .slice A2 sp.length c2, .slice A3 l.length c3], .agg #[.int .i64 k', .int .i64 n', .string s', .slice A1' ls'.length c1', .slice A2' sp'.length c2', .slice A3' l'.length c3']] w
      (Tells (alikeB (.mk k n s ls sp l) (.mk k' n' s' ls' sp' l')) w) := by
  have hbw : Below w.heap.size w ((w.alloc (.cells #[.int .i64 k, .int .i64 n, .string s, .slice A1 ls.length c1, .slice A2 sp.length c2, .slice A3 l.length c3] 26)).alloc (.cells #[.int .i64 k', .int .i64 n', .string s', .slice A1' ls'.length c1', .slice A2' sp'.length c2', .slice A3' l'.length c3'] 26)) := below_alloc (below_alloc (Below.refl _ _) (Nat.le_refl _) _) (by simp) _
  have hgx := two_old w (.cells #[.int .i64 k, .int .i64 n, .string s, .slice A1 ls.length c1, .slice A2 sp.length c2, .slice A3 l.length c3] 26) (.cells #[.int .i64 k', .int .i64 n', .string s', .slice A1' ls'.length c1', .slice A2' sp'.length c2', .slice A3' l'.length c3'] 26)
  have hgy := two_new w (.cells #[.int .i64 k, .int .i64 n, .string s, .slice A1 ls.length c1, .slice A2 sp.length c2, .slice A3 l.length c3] 26) (.cells #[.int .i64 k', .int .i64 n', .string s', .slice A1' ls'.length c1', .slice A2' sp'.length c2', .slice A3' l'.length c3'] 26)
  have hsz : ((w.alloc (.cells #[.int .i64 k, .int .i64 n, .string s, .slice A1 ls.length c1, .slice A2 sp.length c2, .slice A3 l.length c3] 26)).alloc (.cells #[.int .i64 k', .int .i64 n', .string s', .slice A1' ls'.length c1', .slice A2' sp'.length c2', .slice A3' l'.length c3'] 26)).heap.size = w.heap.size + 1 + 1 := by simp
  have hx := Rd.lit' (t := 26) (ds := [dBl (.mk k n s ls sp l)]) (cs := [.int .i64 k, .int .i64 n, .string s, .slice A1 ls.length c1, .slice A2 sp.length c2, .slice A3 l.length c3]) (RepAll.single (rep_bl_mk (hR1.lt_below hbw) (hR2.lt_below hbw) (hR3.lt_below hbw))) (by simp) rfl
  have hb3 := below_to hbw hbw.size (below_alloc (Below.refl _ _) (Nat.le_refl _) (.cells #[.int .i64 k, .int .i64 n, .string s, .slice A1 ls.length c1, .slice A2 sp.length c2, .slice A3 l.length c3] 26))
  have hy := Rd.lit' (t := 26) (ds := [dBl (.mk k' n' s' ls' sp' l')]) (cs := [.int .i64 k', .int .i64 n', .string s', .slice A1' ls'.length c1', .slice A2' sp'.length c2', .slice A3' l'.length c3']) (RepAll.single (rep_bl_mk (hR1'.lt_below hb3) (hR2'.lt_below hb3) (hR3'.lt_below hb3))) (by simp) rfl
  have hxy := hx.lt_below (below_alloc (Below.refl _ _) (Nat.le_refl _) (.cells #[.int .i64 k', .int .i64 n', .string s', .slice A1' ls'.length c1', .slice A2' sp'.length c2', .slice A3' l'.length c3'] 26))
  have hb4 := below_to hb3 hb3.size (below_alloc (Below.refl _ _) (Nat.le_refl _) (.cells #[.int .i64 k', .int .i64 n', .string s', .slice A1' ls'.length c1', .slice A2' sp'.length c2', .slice A3' l'.length c3'] 26))
  have hS := RSame10_calls _ [.mk k n s ls sp l] [.mk k' n' s' ls' sp' l'] (Nat.lt_succ_self _) _ _ _ _ hxy hy (Nat.le_refl _)
  simp only [World.size_alloc, List.length_singleton] at hS
  have heq : eqBls [.mk k n s ls sp l] [.mk k' n' s' ls' sp' l'] = eqBl (.mk k n s ls sp l) (.mk k' n' s' ls' sp' l') := by simp [eqBls]
  rw [heq] at hS
  have HS := Lib.hid hS
  have HGX := Lib.hid hgx
  have HGY := Lib.hid hgy
  have hadef : alikeB (.mk k n s ls sp l) (.mk k' n' s' ls' sp' l') = if eqBl (.mk k n s ls sp l) (.mk k' n' s' ls' sp' l') = true then 1000 else if k = k' then min 999 (dice (idsOf (partsB (.mk k n s ls sp l) ++ partsB (.mk k' n' s' ls' sp' l')) (partsB (.mk k n s ls sp l))) (idsOf (partsB (.mk k n s ls sp l) ++ partsB (.mk k' n' s' ls' sp' l')) (partsB (.mk k' n' s' ls' sp' l')))) else 0 := rfl
  have px := fun W (hW : Below w.heap.size w W) => parts15_calls k n s ls sp l hb hwf A1 c1 A2 c2 A3 c3 W (hR1.lt_below hW) (hR2.lt_below hW) (hR3.lt_below hW)
  have py := fun W (hW : Below w.heap.size w W) => parts15_calls k' n' s' ls' sp' l' hb' hwf' A1' c1' A2' c2' A3' c3' W (hR1'.lt_below hW) (hR2'.lt_below hW) (hR3'.lt_below hW)
  generalize partsB (.mk k n s ls sp l) = PX at *
  generalize partsB (.mk k' n' s' ls' sp' l') = PY at *
  generalize alikeB (.mk k n s ls sp l) (.mk k' n' s' ls' sp' l') = AB at *
  generalize eqBl (.mk k n s ls sp l) (.mk k' n' s' ls' sp' l') = EB at *
  have HPP := Lib.hid hpp
  have HPX := Lib.hid px
  have HPY := Lib.hid py
  have HB4 := Lib.hid hb4
  have HSZ := Lib.hid hsz
  have HAD := Lib.hid hadef
  clear px py hpp hadef hS heq hxy hx hy hgx hgy hR1 hR2 hR3 hR1' hR2' hR3' hb3 hbw hwf hwf' hb4 hsz hb hb'
  go_enter Tryd.func17, Tryd.ntmps17
  go_wp2_with fail
  refine HS.out.mono ?_
  rintro e w1 ⟨rfl, hb1⟩
  have hbw1 := HB4.out.trans (hb1.mono (by omega))
  cases hEB : EB with
  | true =>
    have HD := Lib.hid (HAD.out.trans (if_pos hEB))
    clear HPP
    subst hEB
    go_wp2_with fail
    go_ret
    exact ⟨ret_int HD.out.symm, hbw1⟩
  | false =>
    have HAD2 := Lib.hid (HAD.out.trans (if_neg (by rw [hEB]; exact Bool.false_ne_true)))
    clear HAD HS
    have hpp := HPP.out (by rw [hEB]; exact Bool.false_ne_true)
    clear HPP
    subst hEB
    have bgx := (hb1.block w.heap.size (by omega)).trans ((below_alloc (below_alloc (Below.refl _ _) (Nat.le_refl _) (.cells #[.int .i64 k, .int .i64 n, .string s, .slice A1 ls.length c1, .slice A2 sp.length c2, .slice A3 l.length c3] 26)) (by simp) (.cells #[.int .i64 k', .int .i64 n', .string s', .slice A1' ls'.length c1', .slice A2' sp'.length c2', .slice A3' l'.length c3'] 26)).block w.heap.size (by simp; try omega))
    have bgx := bgx.trans HGX.out
    have bgy := (hb1.block (w.heap.size + 1) (by omega)).trans ((below_alloc (below_alloc (Below.refl _ _) (Nat.le_refl _) (.cells #[.int .i64 k, .int .i64 n, .string s, .slice A1 ls.length c1, .slice A2 sp.length c2, .slice A3 l.length c3] 26)) (by simp) (.cells #[.int .i64 k', .int .i64 n', .string s', .slice A1' ls'.length c1', .slice A2' sp'.length c2', .slice A3' l'.length c3'] 26)).block (w.heap.size + 1) (by simp))
    have bgy := bgy.trans HGY.out
    have lx : w.heap.size < w1.heap.size := (Array.getElem?_eq_some_iff.1 bgx).1
    have ly : w.heap.size + 1 < w1.heap.size := (Array.getElem?_eq_some_iff.1 bgy).1
    have f0 := (row_facts bgx 0 rfl).1
    have f1 := (row_facts bgx 1 rfl).1
    have f2 := (row_facts bgx 2 rfl).1
    have f3 := (row_facts bgx 3 rfl).1
    have f4 := (row_facts bgx 4 rfl).1
    have f5 := (row_facts bgx 5 rfl).1
    have g0 := (row_facts bgy 0 rfl).1
    have g1 := (row_facts bgy 1 rfl).1
    have g2 := (row_facts bgy 2 rfl).1
    have g3 := (row_facts bgy 3 rfl).1
    have g4 := (row_facts bgy 4 rfl).1
    have g5 := (row_facts bgy 5 rfl).1
    clear bgx bgy hb1 HB4 HSZ HGX HGY
    by_cases hk : k = k'
    · have HD := Lib.hid (HAD2.out.trans (if_pos hk))
      have bk : (k != k') = false := by rw [hk]; simp
      subst hk
      clear HAD2
      go_upto_region 5 with (fail)
      go_cut [5, 6] (fun s5 s6 wx => ∃ V c V' c', s5 = .slice V PX.length c ∧ s6 = .slice V' PY.length c' ∧ Rd (· < wx.heap.size) wx (.slice V PX.length c) (PX.map D.str) ∧ Rd (· < wx.heap.size) wx (.slice V' PY.length c') (PY.map D.str) ∧ Below w1.heap.size w1 wx)
      case first =>
        refine wp_region_till 4 (fun w' => w'.cell? ⟨w.heap.size, 0, none⟩ = some (.int .i64 k) ∧ w'.cell? ⟨w.heap.size, 1, none⟩ = some (.int .i64 n) ∧ w'.cell? ⟨w.heap.size, 2, none⟩ = some (.string s) ∧ w'.cell? ⟨w.heap.size, 3, none⟩ = some (.slice A1 ls.length c1) ∧ w'.cell? ⟨w.heap.size, 4, none⟩ = some (.slice A2 sp.length c2) ∧ w'.cell? ⟨w.heap.size, 5, none⟩ = some (.slice A3 l.length c3) ∧
          w'.cell? ⟨w.heap.size + 1, 0, none⟩ = some (.int .i64 k) ∧ w'.cell? ⟨w.heap.size + 1, 1, none⟩ = some (.int .i64 n') ∧ w'.cell? ⟨w.heap.size + 1, 2, none⟩ = some (.string s') ∧ w'.cell? ⟨w.heap.size + 1, 3, none⟩ = some (.slice A1' ls'.length c1') ∧ w'.cell? ⟨w.heap.size + 1, 4, none⟩ = some (.slice A2' sp'.length c2') ∧ w'.cell? ⟨w.heap.size + 1, 5, none⟩ = some (.slice A3' l'.length c3')) (by kernel_rfl) ⟨f0, f1, f2, f3, f4, f5, g0, g1, g2, g3, g4, g5⟩ (fun hT => ?_)
        refine wpAnyT_load (i := 0) (v := ?_) 40 rfl (by kernel_rfl) (fun _ _ _ h => h) (Or.inl ⟨by rfl, ?_⟩) hT (fun hT => ?_)
        rotate_left
        · intro w hS; (try dsimp only at hS); go_split_ands; go_simp; try with_reducible rfl
        try simp only [Act.put, List.setIfInBounds_toArray, List.set_cons_zero, List.set_cons_succ]
        refine wpAnyT_load (i := 2) (v := ?_) 40 rfl (by kernel_rfl) (fun _ _ _ h => h) (Or.inl ⟨by rfl, ?_⟩) hT (fun hT => ?_)
        rotate_left
        · intro w hS; (try dsimp only at hS); go_split_ands; go_simp; try with_reducible rfl
        try simp only [Act.put, List.setIfInBounds_toArray, List.set_cons_zero, List.set_cons_succ]
        refine wpAnyT_ready (rs := [1]) (by kernel_rfl) (by simp) ?_
        refine ReadyT.cons rfl (fun K hK => ?_) ReadyT.nil
        · go_simp
          refine (HPX.out _ (below_to hbw1 hbw1.size (Below.drew (Below.refl _ _)))).mono ?_
          rintro e w2 ⟨v2, rfl, r2, b2⟩
          have hb2 : Below w1.heap.size w1 w2 := (Below.drew (Below.refl _ _)).trans b2
          obtain ⟨V2, t2, rfl, _, _⟩ := r2.form
          rw [List.length_map] at r2 ⊢
          refine hK.out _ _ (fun _ => ⟨below_at' hb2 lx f0, below_at' hb2 lx f1, below_at' hb2 lx f2, below_at' hb2 lx f3, below_at' hb2 lx f4, below_at' hb2 lx f5, below_at' hb2 ly g0, below_at' hb2 ly g1, below_at' hb2 ly g2, below_at' hb2 ly g3, below_at' hb2 ly g4, below_at' hb2 ly g5⟩) (fun hT => ?_)
          clear hK K
          try simp only [Act.put, List.setIfInBounds_toArray, List.set_cons_zero, List.set_cons_succ]
          refine wpAnyT_ready (rs := [3]) (by kernel_rfl) (by simp) ?_
          refine ReadyT.cons rfl (fun K hK => ?_) ReadyT.nil
          go_simp
          refine (HPY.out _ (below_to hbw1 hbw1.size hb2)).mono ?_
          rintro e w3 ⟨v3, rfl, r3, b3⟩
          have hb3 : Below w1.heap.size w1 w3 := below_to hb2 hb2.size b3
          obtain ⟨V3, t3, rfl, _, _⟩ := r3.form
          rw [List.length_map] at r3 ⊢
          refine hK.out _ _ (fun _ => ⟨below_at' hb3 lx f0, below_at' hb3 lx f1, below_at' hb3 lx f2, below_at' hb3 lx f3, below_at' hb3 lx f4, below_at' hb3 lx f5, below_at' hb3 ly g0, below_at' hb3 ly g1, below_at' hb3 ly g2, below_at' hb3 ly g3, below_at' hb3 ly g4, below_at' hb3 ly g5⟩) (fun hT => ?_)
          clear hK K
          try simp only [Act.put, List.setIfInBounds_toArray, List.set_cons_zero, List.set_cons_succ]
          have R2 := Lib.hid (r2.lt_below b3)
          have R3 := Lib.hid r3
          clear r2 r3
          refine wpAnyT_ready (rs := [4]) (by kernel_rfl) (by simp) ?_
          refine ReadyT.cons rfl (fun K hK => ?_) ReadyT.nil
          go_simp
          refine hK.out _ _ (fun h => by simp at h) (fun hT => ?_)
          clear hK K
          try simp only [Act.put, List.setIfInBounds_toArray, List.set_cons_zero, List.set_cons_succ]
          refine wpAnyT_ready (rs := [5]) (by kernel_rfl) (by simp) ?_
          refine ReadyT.cons rfl (fun K hK => ?_) ReadyT.nil
          go_simp
          refine hK.out _ _ (fun h => by simp at h) (fun hT => ?_)
          clear hK K
          try simp only [Act.put, List.setIfInBounds_toArray, List.set_cons_zero, List.set_cons_succ]
          refine wpAnyT_done (by kernel_rfl) ?_ _
          go_wp2
          go_meet
          case rel => exact ⟨_, _, _, _, rfl, rfl, R2.out, R3.out, hb3⟩
      case rest =>
        obtain ⟨V, c, V', c', rfl, rfl, r5, r6, hb5⟩ := hcut
        have hI1 := RefIds_calls _ _ PX PY wc r5 r6 (by omega) (by omega)
        have e1 : (PX.map fun s => ((atP (allL PX PY) s : Nat) : Int)) = idsOf (PX ++ PY) PX := by
          unfold idsOf
          exact List.map_congr_left (fun s hs => by rw [atP_idOf (all := PX ++ PY) (fun x => by rw [List.mem_append]) (List.mem_append_left _ hs)])
        have e2 : (PY.map fun s => ((atP (allL PY PX) s : Nat) : Int)) = idsOf (PX ++ PY) PY := by
          unfold idsOf
          exact List.map_congr_left (fun s hs => by rw [atP_idOf (all := PX ++ PY) (fun x => by rw [List.mem_append]; exact Or.comm) (List.mem_append_right _ hs)])
        rw [e1] at hI1
        have HI2 := Lib.hid (fun W (hW : Below wc.heap.size wc W) => e2 ▸ RefIds_calls _ _ PY PX W (r6.lt_below hW) (r5.lt_below hW) (by omega) (by omega))
        have HI1 := Lib.hid hI1
        have hbz := below_to hbw1 hbw1.size hb5
        have l1 := idsOf_len (PX ++ PY) PX
        have l2 := idsOf_len (PX ++ PY) PY
        generalize idsOf (PX ++ PY) PX = ZX at *
        generalize idsOf (PX ++ PY) PY = ZY at *
        have HD2 := Lib.hid HD.out
        have L1 := Lib.hid l1
        have L2 := Lib.hid l2
        clear r5 r6 hI1 e1 e2 f0 f1 f2 f3 f4 f5 g0 g1 g2 g3 g4 g5 HPX HPY HD l1 l2 hb5
        go_wp2_with fail
        refine HI1.out.mono ?_
        rintro e w5 ⟨v5, rfl, q5, b5⟩
        go_wp2_with fail
        refine (HI2.out _ b5).mono ?_
        rintro e w6 ⟨v6, rfl, q6, b6⟩
        have HDC := Lib.hid (Dice04_calls _ _ ZX ZY w6 (q5.lt_below b6) q6 (by rw [L1.out]; omega) (by rw [L2.out]; omega))
        have hbd := below_to (below_to hbz hbz.size b5) (below_to hbz hbz.size b5).size b6
        clear q5 q6
        go_wp2_with fail
        refine HDC.out.mono ?_
        rintro e w9 ⟨rfl, hb9⟩
        go_wp2_with fail
        go_ret
        refine ⟨ret_int ?_, below_to hbd hbd.size hb9⟩
        rw [HD2.out]
    · have HD := Lib.hid (HAD2.out.trans (if_neg hk))
      have bk : (k != k') = true := bne_iff_ne.2 hk
      clear HAD2
      go_wp2_with fail
      go_ret
      exact ⟨ret_int HD.out.symm, hbw1⟩
end Go.Proofs.YtobncidpdodaiaaDoor
