/- The walks of slices.Concat at texts, token.Ids. -/
import Derived.Test.YtobncidpdodaiaaDoorMany
import Derived.Test.YtobncidpdodaiaaDoorTok
import Derived.Test.YtobncidpdodaiaaDoorShelf
import Derived.Test.YtobncidpdodaiaaDoorBridge
import Derived.Shelf.Spec.SlicesGrow
namespace Go.Proofs.YtobncidpdodaiaaDoor
open Go.RowKit Go.PlainAid
set_option linter.unusedVariables false
theorem infoStr : (Tryd.prog.info? 9).map (fun i => (i.zero, i.size, i.bytes)) = some (some (.string ByteArray.empty), 1, 16) := by kernel_rfl
theorem infoStrs : (Tryd.prog.info? 22).map (fun i => (i.zero, i.size, i.bytes)) = some (some (.slice none 0 0), 1, 24) := by kernel_rfl
theorem infoInts : (Tryd.prog.info? 37).map (fun i => (i.zero, i.size, i.bytes)) = some (some (.slice none 0 0), 1, 24) := by kernel_rfl

theorem growS_calls (n : Nat) (w : World) (hn : n ≤ 8796093022208) :
    Calls Tryd.prog 55 #[.slice none 0 0, .int .i64 n] w fun e w' => ∃ v, e = .returned v ∧ w'.ownsRow w.heap.size 9 1 v 0 [] ∧ Below w.heap.size w w' := by
  obtain ⟨i0, hi, hz0, hz1, hz2⟩ := info_parts infoStr
  rcases Nat.eq_zero_or_pos n with rfl | h0
  · refine (Any8.slices_Grow_room Tryd.growS none 0 0 0 w (Nat.le_refl _) (by omega) (by omega) (Nat.le_refl _)).mono ?_
    rintro e w' ⟨rfl, rfl⟩
    exact ⟨_, rfl, World.ownsRow_nil _ _ _ _, Below.refl _ _⟩
  · refine (Any8.slices_Grow_grow Tryd.growS i0 _ hi hz0 (by rw [hz1]; omega) none 0 0 n [] w (Nat.le_refl _) (by omega) (by rw [hz2]; omega) (by omega) (by simp) (fun _ => rfl) (fun _ h => by cases h)).mono ?_
    rintro e w' ⟨rfl, rfl⟩
    refine ⟨_, rfl, ⟨rfl, .inr ⟨w.heap.size, _, _, rfl, Nat.le_refl _, World.alloc_heap_new w.drew _, Nat.zero_le _, grownCap_le_maxLen _ _ _ _ (by unfold maxLen; omega), ?_, by simp⟩⟩, (below_drewN (Below.refl _ _) 1).alloc (Nat.le_refl _) _⟩
    have hc : (Value.string ByteArray.empty).cells.size = 1 := rfl
    have := grownCap_ge w n 0 (Tryd.growS_ren.t 25)
    simp [Builtin.zeroCells, hc]
    omega

/-- Lists of texts. -/
def dss (lss : List (List ByteArray)) : List D := lss.map fun l => D.sl (l.map D.str)
theorem Rd.sl_at {ok : Nat → Prop} {w : World} {v : Value} {lss : List (List ByteArray)} (h : Rd ok w v (dss lss)) {i : Nat} (hi : i < lss.length) :
    ∃ b o c u, v = .slice (some ⟨b, o, none⟩) lss.length c ∧ ok b ∧ b < w.heap.size ∧ w.cell? ⟨b, o + i, none⟩ = some u ∧ Rd ok w u (lss[i].map D.str) := by
  obtain ⟨b, o, c, cs, hv, hb, hlt, hr, hc⟩ := h.get (k := 1) (i := i) (fun d hd => by unfold dss at hd; obtain ⟨x, _, rfl⟩ := List.mem_map.1 hd; rfl) (by simpa [dss] using hi)
  simp only [dss, List.getElem_map, List.length_map] at hr hv
  have hr' := hr
  rw [Rep] at hr'
  obtain ⟨A, cc, rfl, _⟩ := hr'
  exact ⟨b, o, c, _, hv, hb, hlt, by have := hc 0 _ rfl; simpa using this, hr⟩

/-- How many there are in some lists. -/
def tlen {α : Type} (lss : List (List α)) : Nat := lss.flatten.length
/-- The first of some lists, one behind the other. -/
def tfl {α : Type} (lss : List (List α)) (j : Nat) : List α := (lss.take j).flatten
theorem flat_take {α : Type} (lss : List (List α)) {i : Nat} (hi : i < lss.length) : (lss.take (i + 1)).flatten = (lss.take i).flatten ++ lss[i] ∧ (lss.take i).flatten.length + lss[i].length ≤ lss.flatten.length := by
  have h1 : (lss.take (i + 1)).flatten = (lss.take i).flatten ++ lss[i] := by rw [List.take_succ_eq_append_getElem hi, List.flatten_append]; simp
  refine ⟨h1, ?_⟩
  have h2 : lss.flatten = (lss.take (i + 1)).flatten ++ (lss.drop (i + 1)).flatten := by rw [← List.flatten_append, List.take_append_drop]
  rw [h2, h1, List.length_append, List.length_append]
  omega
theorem str_news {ok : Nat → Prop} {w W : World} {A : Option Addr} {n c : Nat} {ss : List ByteArray} (hr : Rd ok w (.slice A n c) (ss.map D.str)) (hW : ∀ k, ok k → k < w.heap.size → W.heap[k]? = w.heap[k]?) :
    (ss.map Value.string).length = n * 1 ∧ (A = none → c = 0) ∧ (0 < n → ∃ k o, A = some ⟨k, o, none⟩ ∧ ∀ j u, (ss.map Value.string)[j]? = some u → W.cell? ⟨k, o + j, none⟩ = some u) := by
  have hc : Rd ok W (.slice A n c) (ss.map D.str) := hr.step hW (fun _ h _ => h)
  have hl := (rd_strs hc).1
  refine ⟨by rw [List.length_map, hl, Nat.mul_one], fun e => by subst e; exact hc.nocap, fun h0 => ?_⟩
  obtain ⟨k, o, hA, _, _, hcell⟩ := hc.strs (by omega)
  refine ⟨k, o, hA, fun j u hj => ?_⟩
  rw [List.getElem?_map] at hj
  have hlt : j < ss.length := by
    rcases Nat.lt_or_ge j ss.length with h | h
    · exact h
    · rw [List.getElem?_eq_none h] at hj; cases hj
  rw [hcell j hlt]
  rw [List.getElem?_eq_getElem hlt] at hj
  simpa [hlt] using hj

set_option maxRecDepth 100000 in
set_option maxHeartbeats 2000000 in
theorem ConcatS_calls (v : Value) (lss : List (List ByteArray)) (w : World) (hR : Rd (· < w.heap.size) w v (dss lss)) (hn : lss.length ≤ 1048576) (hT : lss.flatten.length ≤ 8796093022208) :
    Calls Tryd.prog 36 #[v] w fun e w' => ∃ v', e = .returned v' ∧ w'.ownsRow w.heap.size 9 1 v' lss.flatten.length (lss.flatten.map Value.string) ∧ Below w.heap.size w w' := by
  obtain ⟨A, c, rfl, hc, _⟩ := hR.form
  simp only [dss, List.length_map] at hc
  have hl : (dss lss).length = lss.length := by simp [dss]
  rw [hl]
  have HR := Lib.hid hR
  clear hR
  go_enter Tryd.func36, Tryd.ntmps36
  go_wp2
  go_loopw [3, 11] (fun vs vi wr => ∃ i : Nat, i ≤ lss.length ∧ vs = .int .i64 (tlen (lss.take i) : Nat) ∧ vi = .int .i64 i ∧ w = wr)
    (fun _ vi _ => lss.length - (intOf vi).toNat)
  case atStart => exact ⟨0, Nat.zero_le _, rfl, rfl, rfl⟩
  case round =>
    obtain ⟨i, hi, rfl, rfl, rfl⟩ := hrel
    by_cases hlt : i < lss.length
    · obtain ⟨b, o, c', u, hv, hb, hbl, hcell, hRu⟩ := HR.out.sl_at hlt
      obtain ⟨hA, _, _⟩ := Value.slice.inj hv
      subst hA
      obtain ⟨A', c'', rfl, hc'', _⟩ := hRu.form
      obtain ⟨hf, hsum⟩ := flat_take lss hlt
      have hfl : tlen (lss.take (i + 1)) = tlen (lss.take i) + lss[i].length := by unfold tlen; rw [hf, List.length_append]
      change tlen (lss.take i) + lss[i].length ≤ _ at hsum
      rw [List.length_map] at hcell hc''
      generalize lss[i].length = m at *
      generalize tlen (lss.take i) = S0 at *
      have HF := Lib.hid hfl
      clear hfl hf hRu hv
      have e1 : IntKind.i64.wrap ((S0 : Int) + (m : Int)) = ((S0 + m : Nat) : Int) := by rw [IntWalk.i64_in _ (by omega)]; simp
      go_wp2
      go_roundw
      case rel => exact ⟨i + 1, by omega, by rw [HF.out]; go_num, by go_num, trivial⟩
      case measure => simp [intOf]; omega
    · have hie : i = lss.length := by omega
      have hS : tlen (lss.take i) = lss.flatten.length := by unfold tlen; rw [hie, List.take_length]
      have hS' : tlen (lss.take i) ≤ 8796093022208 := by omega
      generalize tlen (lss.take i) = S0 at *
      have HS := Lib.hid hS
      clear hS
      go_wp2_with (go_at_call 55; go_must (refine (growS_calls S0 _ hS').mono ?_); rintro e w1 ⟨v1, rfl, hrow1, hb1⟩)
      clear hS'
      go_loopw [6, 27] (fun vs vi wr => ∃ j : Nat, j ≤ lss.length ∧ vi = .int .i64 j ∧ wr.ownsRow w.heap.size 9 1 vs (tfl lss j).length ((tfl lss j).map Value.string) ∧ Below w.heap.size w wr)
        (fun _ vi _ => lss.length - (intOf vi).toNat)
      case atStart => exact ⟨0, Nat.zero_le _, rfl, by simpa [tfl] using hrow1, hb1⟩
      case round =>
        obtain ⟨j, hj, rfl, hrow, hB⟩ := hrel
        clear hrow1 hb1
        by_cases hlt2 : j < lss.length
        · obtain ⟨b, o, c', u, hv, hb, hbl, hcell0, hRu⟩ := HR.out.sl_at hlt2
          obtain ⟨hA, _, _⟩ := Value.slice.inj hv
          subst hA
          obtain ⟨A', c'', rfl, hc'', _⟩ := hRu.form
          obtain ⟨hf, hsum⟩ := flat_take lss hlt2
          change tfl lss (j + 1) = tfl lss j ++ _ at hf
          change (tfl lss j).length + _ ≤ _ at hsum
          obtain ⟨n1, n2, n3⟩ := str_news (W := wr) hRu (fun k hk _ => hB.block k hk)
          have hcell := below_at' hB hb hcell0
          rw [List.length_map] at hcell hc'' n1 n3
          have HF := Lib.hid hf
          have N1 := Lib.hid n1
          clear hf hRu hv hcell0 n1
          generalize lss[j] = ss at *
          have hm : ss.length = ss.length := rfl
          generalize hmm : ss.length = m at hcell hc'' n3 hsum
          go_wp2_with (at_builtin; go_must (refine app_many w.heap.size rfl _ _ 22 9 rfl Tryd.underlying22 infoStr rfl (by decide) (by decide) (ss.map Value.string) rfl rfl (by rw [List.length_map, hmm, Nat.mul_one]) (by simp [Value.oneCell']) n2 n3 hrow hB.size (by omega) ?_); intro v' w4 hown' hb4)
          go_roundw
          case rel =>
            refine ⟨v', _, .int .i64 ((j : Int) + 1), ⟨j + 1, by omega, by go_num, ?_, hB.trans hb4⟩, rfl, rfl, rfl⟩
            rw [HF.out, List.length_append, List.map_append, hmm]
            exact hown'
          case measure => simp [intOf]; omega
        · have hje : j = lss.length := by omega
          have hfl : tfl lss lss.length = lss.flatten := by unfold tfl; rw [List.take_length]
          rw [hje, hfl] at hrow
          clear hfl
          have HROW := Lib.hid hrow
          clear hrow
          go_wp2
          go_ret
          exact ⟨_, rfl, HROW.out, hB⟩
end Go.Proofs.YtobncidpdodaiaaDoor
