/- The walk of token.Ids. -/
import Derived.Test.YtobncidpdodaiaaDoorIds2
import Derived.Test.YtobncidpdodaiaaDoorLcs
import Derived.Test.YtobncidpdodaiaaDoorTill
namespace Go.Proofs.YtobncidpdodaiaaDoor
open Go.RowKit Go.PlainAid
set_option linter.unusedVariables false
set_option linter.unusedSimpArgs false

/-- The numbers of some texts, as a datum. -/
def idsD (all : List ByteArray) (l : List ByteArray) : D := .sl (l.map fun s => D.int .i64 (idOf all s : Nat))

theorem set_next {l : List Value} {i m : Nat} {z x : Value} (h : l.length = i) (hi : i < m) : (l ++ List.replicate (m - i) z).set i x = (l ++ [x]) ++ List.replicate (m - (i + 1)) z ∧ (l ++ List.replicate (m - i) z)[i]? = some z := by
  obtain ⟨k, hk⟩ : ∃ k, m - i = k + 1 := ⟨m - i - 1, by omega⟩
  have hk' : m - (i + 1) = k := by omega
  rw [hk, hk', List.replicate_succ]
  subst h
  constructor
  · rw [List.set_append_right _ _ (Nat.le_refl _)]; simp
  · rw [List.getElem?_append_right (Nat.le_refl _)]; simp

/-- The numbers of the first lists. -/
def idsT (lss : List (List ByteArray)) (j : Nat) : List D := (lss.take j).map (idsD lss.flatten)

set_option maxRecDepth 100000 in
set_option maxHeartbeats 2000000 in
theorem Ids_calls (v : Value) (lss : List (List ByteArray)) (w : World) (hR : Rd (· < w.heap.size) w v (dss lss)) (hn : lss.length ≤ 1048575) (hT : lss.flatten.length ≤ 1048575) :
    Calls Tryd.prog 20 #[v] w fun e w' => ∃ v', e = .returned v' ∧ Rd (fun k => w.heap.size ≤ k ∧ k < w'.heap.size) w' v' (lss.map (idsD lss.flatten)) ∧ Below w.heap.size w w' := by
  obtain ⟨A, c, rfl, hc, _⟩ := hR.form
  simp only [dss, List.length_map] at hc
  have hl : (dss lss).length = lss.length := by simp [dss]
  rw [hl]
  have hcc := ConcatS_calls _ lss w hR (by omega) (by omega)
  rw [hl] at hcc
  obtain ⟨hu1, hu2, hu3⟩ := uniq_spec lss.flatten
  have HR := Lib.hid hR
  have HCC := Lib.hid hcc
  clear hR hcc hu1 hu2
  go_enter Tryd.func20, Tryd.ntmps20
  go_wp2_with (first
    | (go_at_call 36; go_must (refine HCC.out.mono ?_); rintro e w1 ⟨v1, rfl, hr1, hb1⟩; rw [enc_str] at hr1)
    | (go_at_call 37; go_must (refine (SortS_calls w.heap.size v1 (lss.flatten.map (·.data.toList)) _ (by rw [List.length_map]; omega) (by rw [List.length_map]; exact hr1)).mono ?_); rintro e w2 ⟨rfl, hr2, hg2⟩)
    | (go_at_call 38; go_must (refine (CompactS_calls w.heap.size v1 ((lss.flatten.map (·.data.toList)).mergeSort fun x y => decide (x ≤ y)) _ (by rw [List.length_mergeSort, List.length_map]; omega) (by rw [List.length_mergeSort]; exact hr2)).mono ?_); rintro e w3 ⟨v3, rfl, hr3, hg3⟩))
  change w3.ownsRow w.heap.size 9 1 v3 (uniq lss.flatten).length ((uniq lss.flatten).map encStr) at hr3
  have hb3 : Below w.heap.size w w3 := ((hb1.grown hg2 hb1.size (fun k hk => own_ge hr1 k hk)).grown hg3 (Nat.le_trans hb1.size hg2.size) (fun k hk => own_ge hr1 k hk))
  clear hr1 hr2 hg2 hg3 hb1
  have HU := Lib.hid hr3
  have HB3 := Lib.hid hb3
  have hs3 := hb3.size
  clear hr3 hb3
  have hun : (uniq lss.flatten).length ≤ 1048575 := by omega
  obtain ⟨i0, hi, hz0, hz1, hz2⟩ := info_parts infoInt
  go_loopw [4, 18] (fun vo vi wr => ∃ (j : Nat) (vals : List Value), j ≤ lss.length ∧ vi = .int .i64 j ∧ wr.ownsRow w3.heap.size 37 1 vo j vals ∧ RepAll (fun k => w3.heap.size ≤ k ∧ vo.ownBlock ≠ some k) wr (idsT lss j) vals ∧ Below w3.heap.size w3 wr)
    (fun _ vi _ => lss.length - (intOf vi).toNat)
  case atStart => exact ⟨0, [], Nat.zero_le _, rfl, World.ownsRow_nil _ _ _ _, by simp [RepAll, idsT], Below.refl _ _⟩
  case round =>
    obtain ⟨j, vals, hj, rfl, hor, hrep, hB⟩ := hrel
    rename World => wo
    have hB4 := below_to HB3.out hs3 hB
    by_cases hlt : j < lss.length
    · obtain ⟨b, o, c', u, hv, hb, hbl, hcell0, hRu⟩ := HR.out.sl_at hlt
      obtain ⟨hA, _, _⟩ := Value.slice.inj hv
      subst hA
      obtain ⟨A', c'', rfl, hc'', _⟩ := hRu.form
      obtain ⟨hf, hsum⟩ := flat_take lss hlt
      have hcell := below_at' hB4 hb hcell0
      rw [List.length_map] at hcell hc''
      have hmem : ∀ s ∈ lss[j], s ∈ lss.flatten := fun s hs => List.mem_flatten.2 ⟨_, List.getElem_mem hlt, hs⟩
      have hsn : lss.take (j + 1) = lss.take j ++ [lss[j]] := by rw [List.take_succ_eq_append_getElem hlt]
      have HRU := Lib.hid hRu
      have HSN := Lib.hid hsn
      have HREP := Lib.hid hrep
      clear hf hRu hv hcell0 hsn hrep
      generalize lss[j] = ss at *
      generalize hmm : ss.length = m at hcell hc'' hsum
      have HM := Lib.hid hmm
      have hwr := hB.size
      go_wp2_with (at_make; go_must (refine wpList_make_full _ rfl _ _ 37 rfl wo.heap.size 3 i0 _ 1 Tryd.underlying37 hi hz0 hz1 .i64 .i64 _ _ m rfl rfl rfl rfl (by rw [hz2]; omega) (by simp only [maxLen]; omega) (Nat.le_refl _) ?_); intro w4 hown hgr)
      rw [made_one rfl] at hown
      have hB5 : Below wo.heap.size wo w4 := (Below.refl _ _).grown hgr (Nat.le_refl _) (fun k hk => by cases hk)
      clear hgr
      go_loopw [27] (fun vi wx => ∃ i : Nat, i ≤ m ∧ vi = .int .i64 i ∧ wx.ownsRow wo.heap.size 3 1 (.slice (some ⟨wo.heap.size, 0, none⟩) m m) m (((ss.take i).map fun s => (idOf lss.flatten s : Int)).map (Value.int .i64) ++ List.replicate (m - i) (Value.int .i64 0)) ∧ Below wo.heap.size wo wx)
        (fun vi _ => m - (intOf vi).toNat)
      case atStart => exact ⟨0, Nat.zero_le _, rfl, by simpa using hown, hB5⟩
      case round =>
        obtain ⟨i, hi2, rfl, hix, hBx⟩ := hrel
        clear hown hB5
        by_cases hlt2 : i < m
        · have hBw := below_to hB4 hB4.size hBx
          have hi3 : i < ss.length := by rw [HM.out]; exact hlt2
          obtain ⟨bs, os, hbs, _, _, hcs⟩ := (HRU.out).strs (by omega)
          subst hbs
          have hcs' := below_at' hBw (by assumption) (hcs i hi3)
          have hgd : ss.getD i ByteArray.empty = ss[i] := by simp [hi3]
          have hsn2 : ss.take (i + 1) = ss.take i ++ [ss[i]] := by rw [List.take_succ_eq_append_getElem hi3]
          rw [hgd] at hcs'
          have hU2 : wr.ownsRow w.heap.size 9 1 v3 (uniq lss.flatten).length ((uniq lss.flatten).map encStr) := own_same HU.out (fun g' hv => (hBx.block g' (Nat.lt_of_lt_of_le (HU.out.lt g' hv).2 hwr)).trans (hB.block g' (HU.out.lt g' hv).2))
          have hli : (((ss.take i).map fun s => (idOf lss.flatten s : Int)).map (Value.int .i64)).length = i := by simp; omega
          obtain ⟨hsx, hgx⟩ := set_next (z := .int .i64 0) (x := .int .i64 (idOf lss.flatten ss[i] : Nat)) hli hlt2
          have hcq : ∃ v, wr.cell? ⟨wo.heap.size, i, none⟩ = some v := ⟨.int .i64 0, by rw [hix.cellAt i (by omega)]; exact hgx⟩
          obtain ⟨vq, hcq⟩ := hcq
          have hfq : wr.frozen? ⟨wo.heap.size, i, none⟩ = false := hix.frozenAt i
          have hset := (hix.stored i (.int .i64 (idOf lss.flatten ss[i] : Nat))).1
          rw [hsx] at hset
          have HSET := Lib.hid hset
          have HS2 := Lib.hid hsn2
          have HU2 := Lib.hid hU2
          have HIX := Lib.hid hix
          clear hset hsn2 hU2 hix hcs hgd hsx hgx hli
          generalize ss[i] = s at *
          go_wp2_with (go_at_call 39; go_must (refine (SearchS_calls w.heap.size v3 lss.flatten s _ (by omega) HU2.out).mono ?_); rintro e w5 ⟨⟨bb, rfl⟩, q, rfl⟩)
          go_roundw
          case rel => exact ⟨i + 1, by omega, by go_num, by rw [HS2.out, List.map_append, List.map_append]; exact HSET.out, (below_drewN hBx q).setCell (Nat.le_refl _) _⟩
          case measure => simp [intOf]; omega
        · have him : i = m := by omega
          have htk : ss.take i = ss := List.take_of_length_le (by rw [HM.out]; omega)
          rw [htk, him, Nat.sub_self, List.replicate_zero, List.append_nil] at hix
          have hor2 : wr.ownsRow w3.heap.size 37 1 u4 j vals := own_same hor (fun g' hv => hBx.block g' (hor.lt g' hv).2)
          have hne : ∀ g', u4.ownBlock = some g' → g' < wo.heap.size := fun g' hv => (hor.lt g' hv).2
          have hlw := (hix.lt _ rfl).2
          have HIX := Lib.hid hix
          have HOR := Lib.hid hor
          clear hix htk hor
          go_wp2_with (at_builtin; go_must (refine app_one (w0 := w3) w3.heap.size rfl _ _ 33 37 rfl Tryd.underlying33 infoInts rfl (by decide) (by decide) [.slice (some ⟨wo.heap.size, 0, none⟩) m m] rfl rfl rfl (by simp [Value.oneCell']) (by exact hor2) (hB.trans (hBx.mono (by omega))) (by have := hBx.size; omega) (by omega) ?_); intro v' w6 hown' hbe' hg6 hv6)
          change v'.ownBlock = u4.ownBlock ∨ _ at hv6
          change wr.grownBy w6 u4.ownBlock at hg6
          have hown6 := own_same (w' := w6) HIX.out (fun g' hv => hg6.block g' (HIX.out.lt g' hv).2 (fun e => by
            have h1 := (HIX.out.lt g' hv).1
            have h2 := hne g' e.symm
            omega))
          have hfresh : ∀ k, k < wr.heap.size → u4.ownBlock ≠ some k → v'.ownBlock ≠ some k := fun k hk hn e => by
            rcases hv6 with h6 | ⟨b6, h6, h7⟩
            · rw [h6] at e; exact hn e
            · rw [h6] at e; injection e with e; omega
          have hone : Rep (fun k => w3.heap.size ≤ k ∧ v'.ownBlock ≠ some k) w6 (idsD lss.flatten ss) [.slice (some ⟨wo.heap.size, 0, none⟩) m m] := by
            have hri : RepAll (fun k => w3.heap.size ≤ k ∧ v'.ownBlock ≠ some k) w6 (ss.map fun s => D.int .i64 (idOf lss.flatten s : Nat)) ((ss.map fun s => (idOf lss.flatten s : Int)).map (Value.int .i64)) := by
              have := RepAll.ints (fun k => w3.heap.size ≤ k ∧ v'.ownBlock ≠ some k) w6 .i64 (ss.map fun s => (idOf lss.flatten s : Int))
              rwa [List.map_map] at this
            exact Rd.of_own hown6 (by rw [List.length_map]; exact HM.out) hri (fun k hk => by
              injection hk with hk
              subst hk
              exact ⟨hwr, hfresh _ hlw (fun e => Nat.lt_irrefl _ (hne _ e))⟩)
          have hold := HREP.out.step (ok' := fun k => w3.heap.size ≤ k ∧ v'.ownBlock ≠ some k) (w1 := w6) (fun k hk hlt => (hg6.block k (Nat.lt_of_lt_of_le hlt hBx.size) (fun e => hk.2 e.symm)).trans (hBx.block k hlt)) (fun k hk hlt => ⟨hk.1, hfresh k (Nat.lt_of_lt_of_le hlt hBx.size) hk.2⟩)
          have hrep6 : RepAll (fun k => w3.heap.size ≤ k ∧ v'.ownBlock ≠ some k) w6 (idsT lss (j + 1)) (vals ++ [.slice (some ⟨wo.heap.size, 0, none⟩) m m]) := by
            unfold idsT
            rw [HSN.out, List.map_append]
            exact RepAll.append hold (RepAll.single hone)
          have HR6 := Lib.hid hrep6
          clear hrep6 hold hone hfresh hown6
          go_roundw
          case rel => exact ⟨v', _, _, _, _, .int .i64 ((j : Int) + 1), ⟨j + 1, by omega, by go_num, vals ++ [.slice (some ⟨wo.heap.size, 0, none⟩) m m], hown', HR6.out⟩, rfl, rfl, rfl, rfl, rfl, rfl⟩
          case measure => simp [intOf]; omega
    · go_wp2
      have hje : j = lss.length := by omega
      unfold idsT at hrep
      rw [hje, List.take_length] at hrep
      rw [hje] at hor
      have hfin : Rd (fun k => w.heap.size ≤ k ∧ k < wo.heap.size) wo u4 (lss.map (idsD lss.flatten)) := Rd.of_own hor (by simp) (hrep.step (fun _ _ _ => rfl) (fun k hk hlt => ⟨by omega, hlt⟩)) (fun k hk => ⟨by have := (hor.lt k hk).1; omega, (hor.lt k hk).2⟩)
      have HF := Lib.hid hfin
      clear hfin hrep hor
      go_ret
      exact ⟨_, rfl, HF.out, hB4⟩
end Go.Proofs.YtobncidpdodaiaaDoor
