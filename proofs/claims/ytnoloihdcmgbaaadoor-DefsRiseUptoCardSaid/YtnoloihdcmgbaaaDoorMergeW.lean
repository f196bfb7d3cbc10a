/- The walks of slices.Concat at entries, of a table's at, of defs.Merge. -/
import Derived.Test.YtnoloihdcmgbaaaDoorMergeD
import Derived.Test.YtnoloihdcmgbaaaDoorMany
namespace Go.Proofs.YtnoloihdcmgbaaaDoor
open Go.RowKit Go.PlainAid Go.Maps Go.Sort
set_option linter.all false
set_option linter.deprecated false
theorem growE_calls (n : Nat) (w : World) (hn : n ≤ 1099511627776) :
    Calls Tryd.prog 58 #[.slice none 0 0, .int .i64 n] w fun e w' => ∃ v, e = .returned v ∧ w'.ownsRow w.heap.size 35 2 v 0 [] ∧ Below w.heap.size w w' := by
  obtain ⟨i0, hi, hz0, hz1, hz2⟩ := info_parts infoEntry
  rcases Nat.eq_zero_or_pos n with rfl | h0
  · refine (Any8.slices_Grow_room Tryd.growE none 0 0 0 w (Nat.le_refl _) (by omega) (by omega) (Nat.le_refl _)).mono ?_
    rintro e w' ⟨rfl, rfl⟩
    exact ⟨_, rfl, World.ownsRow_nil _ _ _ _, Below.refl _ _⟩
  · refine (Any8.slices_Grow_grow Tryd.growE i0 _ hi hz0 (by rw [hz1]; omega) none 0 0 n [] w (Nat.le_refl _) (by omega) (by rw [hz2]; omega) (by omega) (by simp) (fun _ => rfl) (fun _ h => by cases h)).mono ?_
    rintro e w' ⟨rfl, rfl⟩
    refine ⟨_, rfl, ⟨rfl, .inr ⟨w.heap.size, _, _, rfl, Nat.le_refl _, World.alloc_heap_new w.drew _, Nat.zero_le _, grownCap_le_maxLen _ _ _ _ (by unfold maxLen; omega), ?_, by simp⟩⟩, (below_drewN (Below.refl _ _) 1).alloc (Nat.le_refl _) _⟩
    have hc : (Value.agg #[.string ByteArray.empty, .string ByteArray.empty]).cells.size = 2 := rfl
    have := grownCap_ge w n 0 (Tryd.growE_ren.t 25)
    simp [Builtin.zeroCells, hc]
    omega
/-- Lists of entries. -/
def dess (lss : List (List (Bs × Bs))) : List D := lss.map fun l => D.sl (l.map dE)
theorem Rd.esl_at {ok : Nat → Prop} {w : World} {v : Value} {lss : List (List (Bs × Bs))} (h : Rd ok w v (dess lss)) {i : Nat} (hi : i < lss.length) :
    ∃ b o c u, v = .slice (some ⟨b, o, none⟩) lss.length c ∧ ok b ∧ b < w.heap.size ∧ w.cell? ⟨b, o + i, none⟩ = some u ∧ Rd ok w u (lss[i].map dE) := by
  obtain ⟨b, o, c, cs, hv, hb, hlt, hr, hc⟩ := h.get (k := 1) (i := i) (fun d hd => by unfold dess at hd; obtain ⟨x, _, rfl⟩ := List.mem_map.1 hd; rfl) (by simpa [dess] using hi)
  simp only [dess, List.getElem_map, List.length_map] at hr hv
  have hr' := hr
  rw [Rep] at hr'
  obtain ⟨A, cc, rfl, _⟩ := hr'
  exact ⟨b, o, c, _, hv, hb, hlt, by have := hc 0 _ rfl; simpa using this, hr⟩
def elen (lss : List (List (Bs × Bs))) : Nat := lss.flatten.length
def efl (lss : List (List (Bs × Bs))) (j : Nat) : List (Bs × Bs) := (lss.take j).flatten
theorem eflat_take (lss : List (List (Bs × Bs))) {i : Nat} (hi : i < lss.length) : (lss.take (i + 1)).flatten = (lss.take i).flatten ++ lss[i] ∧ (lss.take i).flatten.length + lss[i].length ≤ lss.flatten.length := by
  have h1 : (lss.take (i + 1)).flatten = (lss.take i).flatten ++ lss[i] := by rw [List.take_succ_eq_append_getElem hi, List.flatten_append]; simp
  refine ⟨h1, ?_⟩
  have h2 : lss.flatten = (lss.take (i + 1)).flatten ++ (lss.drop (i + 1)).flatten := by rw [← List.flatten_append, List.take_append_drop]
  rw [h2, h1, List.length_append, List.length_append]
  omega
theorem repall_E_inv {ok : Nat → Prop} {w : World} : ∀ {es : List (Bs × Bs)} {cs : List Value}, RepAll ok w (es.map dE) cs → cs = es.flatMap cellsE
  | [], cs, h => by rw [List.map_nil, RepAll] at h; rw [h]; rfl
  | p :: es, cs, h => by
    rw [List.map_cons, RepAll] at h
    obtain ⟨c0, c1, rfl, h0, h1⟩ := h
    rw [List.flatMap_cons, repall_E_inv h1]
    congr 1
    rw [dE, Rep] at h0
    simp only [RepAll] at h0
    obtain ⟨a0, r0, rfl, e0, a1, r1, rfl, e1, rfl⟩ := h0
    rw [rep_str e0, rep_str e1]
    rfl
theorem dE_sz (l : List (Bs × Bs)) : ∀ d ∈ l.map dE, d.sz = 2 := fun d hd => by obtain ⟨x, _, rfl⟩ := List.mem_map.1 hd; simp [dE, D.sz, D.szs]
set_option maxRecDepth 100000 in
set_option maxHeartbeats 2000000 in
theorem ConcatE_calls (v : Value) (lss : List (List (Bs × Bs))) (w : World) (hR : Rd (· < w.heap.size) w v (dess lss)) (hn : lss.length ≤ 1048576) (hT : lss.flatten.length ≤ 1099511627776) :
    Calls Tryd.prog 35 #[v] w fun e w' => ∃ v', e = .returned v' ∧ w'.ownsRow w.heap.size 35 2 v' lss.flatten.length (lss.flatten.flatMap cellsE) ∧ Below w.heap.size w w' := by
  obtain ⟨A, c, rfl, hc, _⟩ := hR.form
  simp only [dess, List.length_map] at hc
  have hl : (dess lss).length = lss.length := by simp [dess]
  rw [hl]
  have HR := Lib.hid hR
  clear hR
  go_enter Tryd.func35, Tryd.ntmps35
  go_wp2
  go_loopw [3, 11] (fun vs vi wr => ∃ i : Nat, i ≤ lss.length ∧ vs = .int .i64 (elen (lss.take i) : Nat) ∧ vi = .int .i64 i ∧ w = wr)
    (fun _ vi _ => lss.length - (intOf vi).toNat)
  case atStart => exact ⟨0, Nat.zero_le _, rfl, rfl, rfl⟩
  case round =>
    obtain ⟨i, hi, rfl, rfl, rfl⟩ := hrel
    by_cases hlt : i < lss.length
    · obtain ⟨b, o, c', u, hv, hb, hbl, hcell, hRu⟩ := HR.out.esl_at hlt
      obtain ⟨hA, _, hC⟩ := Value.slice.inj hv
      subst hA; subst hC
      obtain ⟨A', c'', rfl, hc'', _⟩ := hRu.form
      obtain ⟨hf, hsum⟩ := eflat_take lss hlt
      have hfl : elen (lss.take (i + 1)) = elen (lss.take i) + lss[i].length := by unfold elen; rw [hf, List.length_append]
      change elen (lss.take i) + lss[i].length ≤ _ at hsum
      rw [List.length_map] at hcell hc''
      generalize lss[i].length = m at *
      generalize elen (lss.take i) = S0 at *
      have HF := Lib.hid hfl
      clear hfl hf hRu hv
      have e1 : IntKind.i64.wrap ((S0 : Int) + (m : Int)) = ((S0 + m : Nat) : Int) := by rw [IntWalk.i64_in _ (by omega)]; simp
      go_wp2
      go_roundw
      case rel => exact ⟨i + 1, by omega, by rw [HF.out]; go_num, by go_num, trivial⟩
      case measure => simp [intOf]; omega
    · have hie : i = lss.length := by omega
      have hS : elen (lss.take i) = lss.flatten.length := by unfold elen; rw [hie, List.take_length]
      have hS' : elen (lss.take i) ≤ 1099511627776 := by omega
      generalize elen (lss.take i) = S0 at *
      have HS := Lib.hid hS
      clear hS
      go_wp2_with (go_at_call 58; go_must (refine (growE_calls S0 _ hS').mono ?_); rintro e w1 ⟨v1, rfl, hrow1, hb1⟩)
      clear hS'
      go_loopw [6, 27] (fun vs vi wr => ∃ j : Nat, j ≤ lss.length ∧ vi = .int .i64 j ∧ wr.ownsRow w.heap.size 35 2 vs (efl lss j).length ((efl lss j).flatMap cellsE) ∧ Below w.heap.size w wr)
        (fun _ vi _ => lss.length - (intOf vi).toNat)
      case atStart => exact ⟨0, Nat.zero_le _, rfl, by simpa [efl] using hrow1, hb1⟩
      case round =>
        obtain ⟨j, hj, rfl, hrow, hB⟩ := hrel
        clear hrow1 hb1
        by_cases hlt2 : j < lss.length
        · obtain ⟨b, o, c', u, hv, hb, hbl, hcell0, hRu⟩ := HR.out.esl_at hlt2
          obtain ⟨hA, _, hC⟩ := Value.slice.inj hv
          subst hA; subst hC
          obtain ⟨A', c'', rfl, hc'', _⟩ := hRu.form
          obtain ⟨hf, hsum⟩ := eflat_take lss hlt2
          change efl lss (j + 1) = efl lss j ++ _ at hf
          change (efl lss j).length + _ ≤ _ at hsum
          obtain ⟨cells, rC, n1, n2, n4, n3'⟩ := hRu.cells (dE_sz _)
          obtain rfl := repall_E_inv rC
          have n3 : 0 < (lss[j].map dE).length → ∃ k o, A' = some ⟨k, o, none⟩ ∧ ∀ q u, (lss[j].flatMap cellsE)[q]? = some u → wr.cell? ⟨k, o + q, none⟩ = some u := fun h0 => by
            obtain ⟨k, o2, e1, _, e3, e4⟩ := n3' h0
            exact ⟨k, o2, e1, fun q u hu => below_at' hB e3 (e4 q u hu)⟩
          have hcell := below_at' hB hb hcell0
          rw [List.length_map] at hcell hc'' n1 n3
          have HF := Lib.hid hf
          have N1 := Lib.hid n1
          clear hf hRu hv hcell0 n1 n3' rC
          generalize lss[j] = ss at *
          generalize hmm : ss.length = m at hcell hc'' n3 hsum N1
          go_wp2_with (at_builtin; go_must (refine app_many w.heap.size rfl _ _ 31 35 rfl Tryd.underlying31 infoEntry rfl (by decide) (by decide) (ss.flatMap cellsE) rfl rfl N1.out n4 n2 n3 hrow hB.size (by omega) ?_); intro v' w4 hown' hb4)
          go_roundw
          case rel =>
            exact ⟨j + 1, by omega, by go_num, by rw [HF.out, List.length_append, List.flatMap_append, hmm]; exact hown', hB.trans hb4⟩
          case measure => simp [intOf]; omega
        · have hje : j = lss.length := by omega
          have hfl : efl lss lss.length = lss.flatten := by unfold efl; rw [List.take_length]
          rw [hje, hfl] at hrow
          clear hfl
          have HROW := Lib.hid hrow
          clear hrow
          go_wp2
          go_ret
          exact ⟨_, rfl, HROW.out, hB⟩
theorem map_at {H : Type} {P : Program} {k : TypeId} {R : Value → Option (DataW H × List MemPlace)} {w w' : World} {b n : Nat} {D : DataW H} (h : w.ownsMap P k R b n D) (e : w'.heap[b]? = w.heap[b]?) : w'.ownsMap P k R b n D := by
  obtain ⟨es, clock, h0, F, hs, hD⟩ := h
  exact ⟨es, clock, e.trans h0, F, hs, hD⟩
theorem tat_calls (b n : Nat) (ds : List (Bs × Bs)) (D : DataW Unit) (k : ByteArray) (w : World) (hown : OwnT w b n D) (hT : Tab ds D) (hk : k.size ≤ maxLen) :
    Calls Tryd.prog 38 #[.map (some b), .string k] w fun e w' => e = .returned (.agg #[.string ⟨((find ds k.data.toList).getD []).toArray⟩, .bool (find ds k.data.toList).isSome]) ∧ Below w.heap.size w w' := by
  have h1 := hT.has k.data.toList
  go_enter Tryd.func38, Tryd.ntmps38
  go_wp2_with (at_lookup; go_must (refine wpList_lookup_own_ok_str _ rfl _ _ 58 rfl 9 9 lawS Tryd.underlying58 Tryd.underlying9 (zeroStr _) b n D rfl (by exact hown.alloc _) _ _ rfl (WideMaps.keyOf_string_mk Tryd.underlying9 hk) ?_); intro c hat)
  have hc : c = ⟨((find ds k.data.toList).getD []).toArray⟩ := by
    cases hfd : find ds k.data.toList with
    | none =>
      have h2 := (hT.none hfd _).symm.trans hat
      injection h2 with h2
      injection h2 with h2
      exact ByteArray.ext (Array.toList_inj.1 h2.symm)
    | some fv =>
      have h2 := (hT.at' _ _ hfd).symm.trans hat
      injection h2 with h2
      injection h2 with h2
      exact ByteArray.ext (Array.toList_inj.1 h2.symm)
  subst hc
  exact bodyPost_ret (v := .agg #[.string ⟨((find ds k.data.toList).getD []).toArray⟩, .bool (find ds k.data.toList).isSome]) (by simp [results, Tryd.results38, go_sem]) rfl ⟨rfl, below_alloc (Below.refl _ _) (Nat.le_refl _) _⟩
theorem eq_place (w : World) (x y : Option Bs) : (Op.equal 69 (.agg #[.string ⟨(x.getD []).toArray⟩, .bool x.isSome]) (.agg #[.string ⟨(y.getD []).toArray⟩, .bool y.isSome])).run Tryd.prog w = .ok (decide (x = y)) w := by
  unfold Op.equal Op.maxDepth
  rw [run_equalIn_struct w 9999 69 _ _ (by kernel_rfl) (by kernel_rfl)]
  simp [Op.eqFields, go_sem]
  cases x <;> cases y <;> simp
  split <;> simp_all
theorem outD_snoc (ks : List Bs) (k : Bs) (b o t : List (Bs × Bs)) : outD (ks ++ [k]) b o t = outD ks b o t ++ (((winO (find b k) (find o k) (find t k)).join).map fun v => (k, v)).toList := by
  unfold outD
  rw [List.filterMap_append]
  rw [List.filterMap_cons]
  cases h : (winO (find b k) (find o k) (find t k)).join with
  | none => rfl
  | some v => rfl
theorem clashD_snoc (ks : List Bs) (k : Bs) (b o t : List (Bs × Bs)) : clashD (ks ++ [k]) b o t = clashD ks b o t ++ if (winO (find b k) (find o k) (find t k)).isNone = true then [k] else [] := by
  unfold clashD
  rw [List.filter_append]
  congr 1
  by_cases h : (winO (find b k) (find o k) (find t k)).isNone = true
  · rw [if_pos h]; simp [h]
  · rw [if_neg h]; simp [h]
end Go.Proofs.YtnoloihdcmgbaaaDoor
