/- The walks of defs: a table's list, tableOf, Of, Find, at. -/
import Derived.Test.YtnoloihdcmgbaaaDoorSorted
namespace Go.Proofs.YtnoloihdcmgbaaaDoor
open Go.RowKit Go.PlainAid Go.Maps Go.Sort
set_option linter.all false
set_option linter.deprecated false
set_option maxRecDepth 100000
def cellsE (p : Bs × Bs) : List Value := [.string ⟨p.1.toArray⟩, .string ⟨p.2.toArray⟩]
/-- A table as a list: its labels rise. -/
def listOf (ds : List (Bs × Bs)) : List (Bs × Bs) := (uniqL (ds.map (·.1))).map fun k => (k, (find ds k).getD [])
theorem listOf_len (ds : List (Bs × Bs)) : (listOf ds).length ≤ ds.length := by
  have := (uniqL_spec (ds.map (·.1))).2.2
  unfold listOf
  simpa using this
theorem infoEntry : (Tryd.prog.info? 35).map (fun i => (i.zero, i.size, i.bytes)) = some (some (.agg #[.string ByteArray.empty, .string ByteArray.empty]), 2, 32) := by kernel_rfl
set_option maxHeartbeats 1000000 in
theorem tlist_calls (b n : Nat) (ds : List (Bs × Bs)) (D0 : DataW Unit) (w : World) (hown : OwnT w b n D0) (hT : Tab ds D0) (hn : n ≤ 8796093022208) (hd : ds.length ≤ 4194304) (hz : ∀ p ∈ ds, p.1.length ≤ maxLen) :
    Calls Tryd.prog 34 #[.map (some b)] w fun e w' => ∃ v, e = .returned v ∧ w'.ownsRow w.heap.size 35 2 v (listOf ds).length ((listOf ds).flatMap cellsE) ∧ Below w.heap.size w w' := by
  have hs := Sorted_calls b n ds D0 w hown hT hn
  obtain ⟨hu1, hu2, hu3⟩ := uniqL_spec (ds.map (·.1))
  have hlo : listOf ds = (uniqL (ds.map (·.1))).map fun k => (k, (find ds k).getD []) := rfl
  have hfd : ∀ k ∈ uniqL (ds.map (·.1)), ∃ v, find ds k = some v := fun k hk => by
    have := find_isSome.2 ((hu2 k).1 hk)
    exact Option.isSome_iff_exists.1 this
  have hkl : ∀ k ∈ uniqL (ds.map (·.1)), k.length ≤ maxLen := fun k hk => by
    obtain ⟨p, hp, rfl⟩ := List.mem_map.1 ((hu2 k).1 hk)
    exact hz p hp
  rw [List.length_map] at hu3
  generalize uniqL (ds.map (·.1)) = ks at *
  have HO := Lib.hid hown
  have HT := Lib.hid hT
  have HS := Lib.hid hs
  have HF := Lib.hid hfd
  have HK := Lib.hid hkl
  have HLO := Lib.hid hlo
  clear hown hT hs hfd hkl hlo hu1 hu2 hz
  go_enter Tryd.func34, Tryd.ntmps34
  go_wp2_with (first
    | (go_at_call 37; go_must (refine (Keys_calls b _).mono ?_); rintro e w1 ⟨rfl, rfl⟩)
    | (go_at_call 36; go_must (refine (HS.out).mono ?_); rintro e w2 ⟨v2, rfl, hrow, hb2⟩; obtain ⟨V2, c2, rfl⟩ := own_slice hrow))
  have hr2 := Lib.hid hrow
  clear hrow
  go_loopw [3, 10] (fun vo vi wr => ∃ i : Nat, i ≤ ks.length ∧ vi = .int .i64 i ∧ wr.ownsRow w2.heap.size 35 2 vo i ((ks.take i).flatMap fun k => cellsE (k, (find ds k).getD [])) ∧ Below w2.heap.size w2 wr) (fun _ vi _ => ks.length - (intOf vi).toNat)
  case atStart => exact ⟨0, Nat.zero_le _, rfl, World.ownsRow_nil _ _ _ _, Below.refl _ _⟩
  case round =>
    obtain ⟨i, hi, rfl, hor, hB⟩ := hrel
    by_cases hlt : i < ks.length
    · obtain ⟨g, cap, hv, hg1, hg2⟩ := hr2.out.form (by omega)
      obtain ⟨e1, _, e3⟩ := Value.slice.inj hv
      subst e1; subst e3
      have hcell : w2.cell? ⟨g, i, none⟩ = some (encStr ks[i]) := by rw [hr2.out.cellAt i (by omega)]; simp [hlt]
      have hcell' := below_at' hB hg2 hcell
      have hkm := List.getElem_mem hlt
      obtain ⟨fv, hfv⟩ := HF.out _ hkm
      have hat0 := HT.out.at' _ _ hfv
      have hkz := HK.out _ hkm
      have htk : ks.take (i + 1) = ks.take i ++ [ks[i]] := by rw [List.take_succ_eq_append_getElem hlt]
      have hmap := map_below (map_below HO.out hb2) hB
      have HTK := Lib.hid htk
      have HAT := Lib.hid hat0
      have HFV := Lib.hid hfv
      clear hcell hat0 htk hkm hv
      generalize ks[i] = k at *
      unfold encStr at hcell'
      have hks : (ByteArray.mk k.toArray).size ≤ maxLen := by simpa [ByteArray.size] using hkz
      go_wp2_with (first
        | (at_lookup; go_must (refine wpList_lookup_own_str _ rfl _ _ 58 rfl 9 9 lawS Tryd.underlying58 Tryd.underlying9 (zeroStr _) b _ _ rfl hmap _ _ rfl (WideMaps.keyOf_string_mk Tryd.underlying9 hks) ?_); intro c hat)
        | (at_builtin; go_must (refine app_one (w0 := w2) w2.heap.size rfl _ _ 31 35 rfl Tryd.underlying31 infoEntry rfl (by decide) (by decide) [.string ⟨k.toArray⟩, .string c] rfl rfl rfl (by simp [Value.oneCell']) (by exact hor) hB hB.size (by omega) ?_); intro v' w7 hown' hbe' _ _))
      have hcs : c = ⟨fv.toArray⟩ := by
        have h1 := (HAT.out).symm.trans hat
        injection h1 with h1
        injection h1 with h1
        exact ByteArray.ext (Array.toList_inj.1 h1.symm)
      subst hcs
      go_wp2
      go_roundw
      case rel => exact ⟨i + 1, by omega, by go_num, by rw [HTK.out, List.flatMap_append, List.flatMap_singleton, HFV.out]; exact hown', hbe'⟩
      case measure => simp [intOf]; omega
    · have hie : i = ks.length := by omega
      rw [hie, List.take_length] at hor
      have HOR := Lib.hid hor
      clear hor
      go_wp2
      go_ret
      refine ⟨_, rfl, ?_, hb2.trans (hB.mono hb2.size)⟩
      have := HOR.out
      rw [HLO.out, List.flatMap_map, List.length_map]
      exact own_lower this hb2.size
/-- An entry as a datum. -/
def dE (p : Bs × Bs) : D := .st [.str ⟨p.1.toArray⟩, .str ⟨p.2.toArray⟩]
theorem repall_E (ok : Nat → Prop) (w : World) : ∀ es : List (Bs × Bs), RepAll ok w (es.map dE) (es.flatMap cellsE)
  | [] => by simp [RepAll]
  | p :: es => by
    rw [List.map_cons, List.flatMap_cons, RepAll]
    refine ⟨cellsE p, es.flatMap cellsE, rfl, ?_, repall_E ok w es⟩
    rw [dE, Rep]
    simp only [RepAll]
    exact ⟨[_], [_], rfl, by rw [Rep], [_], [], rfl, by rw [Rep], rfl⟩
theorem rd_E {w0 w1 : World} {base n : Nat} {v : Value} {es : List (Bs × Bs)} (h : w0.ownsRow base 35 2 v n (es.flatMap cellsE)) (hn : es.length = n) (hb : Below w0.heap.size w0 w1) : Rd (· < w1.heap.size) w1 v (es.map dE) :=
  (Rd.of_own (ok := (· < _)) h (by simpa using hn) (repall_E _ _ _) (fun k hk => (h.lt k hk).2)).step (fun k hk _ => hb.block k hk) (fun k hk _ => Nat.lt_of_lt_of_le hk hb.size)
theorem Rd.e_at {ok : Nat → Prop} {w : World} {A : Option Addr} {n c : Nat} {l : List (Bs × Bs)} (h : Rd ok w (.slice A n c) (l.map dE)) {i : Nat} (hi : i < l.length) :
    ∃ b o, A = some ⟨b, o, none⟩ ∧ ok b ∧ b < w.heap.size ∧ w.cell? ⟨b, o + i * 2, none⟩ = some (.string ⟨l[i].1.toArray⟩) ∧ w.cell? ⟨b, o + i * 2 + 1, none⟩ = some (.string ⟨l[i].2.toArray⟩) := by
  obtain ⟨b, o, c', cs, hv, hb, hlt, hr, hc⟩ := h.get (k := 2) (i := i) (fun d hd => by obtain ⟨x, _, rfl⟩ := List.mem_map.1 hd; simp [dE, D.sz, D.szs]) (by simpa using hi)
  simp only [List.getElem_map, dE] at hr
  rw [Rep] at hr
  simp only [RepAll] at hr
  obtain ⟨c0, r0, rfl, h0, c1, r1, rfl, h1, rfl⟩ := hr
  rw [rep_str h0, rep_str h1] at hc
  injection hv with hA _ _
  exact ⟨b, o, hA, hb, hlt, by simpa [Nat.add_assoc] using hc 0 _ rfl, by simpa [Nat.add_assoc] using hc 1 _ rfl⟩
theorem rd_es {ok : Nat → Prop} {w : World} {A : Option Addr} {n c : Nat} {l : List (Bs × Bs)} (h : Rd ok w (.slice A n c) (l.map dE)) : l.length = n ∧ n ≤ c := by
  have := rd_cap h; rwa [List.length_map] at this
theorem below_of_grown {w w1 w2 : World} {b : Nat} (h : Below b w w1) (hg : w1.grownBy w2 (some b)) (hb : b ≤ w1.heap.size) : Below b w w2 := h.grown hg hb (fun k hk => by cases hk; exact Nat.le_refl _)
set_option maxHeartbeats 1000000 in
theorem tableOf_calls (v : Value) (es : List (Bs × Bs)) (w : World) (hR : Rd (· < w.heap.size) w v (es.map dE)) (hn : es.length ≤ 4194304) (hz : ∀ p ∈ es, p.1.length ≤ maxLen ∧ p.2.length ≤ maxLen) :
    Calls Tryd.prog 31 #[v] w fun e w' => e = .returned (.map (some w.heap.size)) ∧ ∃ D', OwnT w' w.heap.size es.length D' ∧ Tab es D' ∧ Below w.heap.size w w' := by
  have hmm := @run_makeMap Tryd.prog
  obtain ⟨A, c, rfl, hc, _⟩ := hR.form
  rw [List.length_map] at *
  have hmade : OwnT (w.alloc (.map #[] 0)) w.heap.size 0 (.map []) := World.ownsMap_made _ _ _ _
  have hb0 : Below w.heap.size w (w.alloc (.map #[] 0)) := (Below.refl _ _).alloc (Nat.le_refl _) _
  have HR := Lib.hid hR
  have HZ := Lib.hid hz
  clear hR hz
  go_enter Tryd.func31, Tryd.ntmps31
  go_wp2
  go_loopw [9] (fun vi wr => ∃ i : Nat, i ≤ es.length ∧ vi = .int .i64 i ∧ ∃ D', OwnT wr w.heap.size i D' ∧ Tab (es.take i) D' ∧ Below w.heap.size w wr) (fun vi _ => es.length - (intOf vi).toNat)
  case atStart => exact ⟨0, Nat.zero_le _, rfl, _, hmade, Tab.nil, hb0⟩
  case round =>
    obtain ⟨i, hi, rfl, D1, hown, hT, hB⟩ := hrel
    clear hmade hb0
    by_cases hlt : i < es.length
    · obtain ⟨bb, o, rfl, hokb, hbl2, c0', c1'⟩ := HR.out.e_at hlt
      have c0 := below_at' hB hbl2 c0'
      have c1 := below_at' hB hbl2 c1'
      have hzz := HZ.out es[i] (List.getElem_mem hlt)
      have htk : es.take (i + 1) = es.take i ++ [es[i]] := by rw [List.take_succ_eq_append_getElem hlt]
      clear c0' c1'
      generalize es[i] = p at *
      obtain ⟨pk, pv⟩ := p
      simp only [] at c0 c1 hzz
      have hadd := fun (W : World) (h1 : OwnT W w.heap.size i D1) => tadd_calls w.heap.size i (es.take i) D1 ⟨pk.toArray⟩ ⟨pv.toArray⟩ W h1 hT (by unfold maxLen; omega) (by simpa [ByteArray.size] using hzz.1) (by simpa [ByteArray.size] using hzz.2)
      have HA := Lib.hid hadd
      have HTK := Lib.hid htk
      clear hadd htk hT hzz
      go_wp2_with (first
        | (go_at_call 39; go_must (refine (HA.out _ (by first | exact hown | exact hown.alloc _)).mono ?_); rintro e w3 ⟨rfl, D3, hown3, hT3, hg3⟩))
      have hs := hB.size
      go_roundw
      case rel => exact ⟨i + 1, by omega, by go_num, D3, hown3, by rw [HTK.out]; exact hT3, (by first | exact below_of_grown hB hg3 hs | exact below_of_grown (below_alloc hB hs _) hg3 (by simp; omega))⟩
      case measure => simp [intOf]; omega
    · have hie : i = es.length := by omega
      rw [hie] at hown
      rw [hie, List.take_length] at hT
      have HT := Lib.hid hT
      clear hT
      go_wp2
      go_ret
      exact ⟨rfl, D1, hown, HT.out, hB⟩
theorem find_some_mem {ds : List (Bs × Bs)} {k v : Bs} (h : find ds k = some v) : (k, v) ∈ ds := by
  unfold find at h
  cases hf : ds.find? (fun p => p.1 == k) with
  | none => rw [hf] at h; cases h
  | some p =>
    rw [hf] at h
    injection h with h
    have h1 := List.mem_of_find?_eq_some hf
    have h2 := List.find?_some hf
    simp only [beq_iff_eq] at h2
    obtain ⟨a, b⟩ := p
    simp only [] at h2 h
    subst h2; subst h
    exact h1
theorem defs_sizes : ∀ (N : Nat) (l : List Bl), D.bulks (dBls l) ≤ N → ∀ p ∈ defsL l, p.1.length ≤ D.bulks (dBls l) ∧ p.2.length ≤ D.bulks (dBls l) := by
  intro N
  induction N with
  | zero =>
    intro l hl p hp
    have := D.len_bulks (dBls l)
    rw [dBls_len] at this
    have h0 : l = [] := List.eq_nil_of_length_eq_zero (by omega)
    subst h0; simp [defsL] at hp
  | succ N ih =>
    intro l hl p hp
    obtain ⟨x, hx, hp⟩ : ∃ x ∈ l, p ∈ defsB x := by
      have : ∀ l : List Bl, p ∈ defsL l → ∃ x ∈ l, p ∈ defsB x := by
        intro l
        induction l with
        | nil => intro h; simp [defsL] at h
        | cons y l ihl =>
          intro h
          rw [defsL, List.mem_append] at h
          rcases h with h | h
          · exact ⟨y, by simp, h⟩
          · obtain ⟨x, hx, hp⟩ := ihl h; exact ⟨x, by simp [hx], hp⟩
      exact this l hp
    obtain ⟨h1, h2, h3⟩ := bls_kids2 hx
    rw [defsB_eq, List.mem_append] at hp
    rcases hp with hp | hp
    · split at hp
      · rw [List.mem_singleton] at hp
        subst hp
        have h4 := foldS_size x.info
        have h5 : (foldS x.info).data.toList.length = (foldS x.info).size := by simp
        refine ⟨by simp only []; omega, ?_⟩
        cases hls : x.lines with
        | nil => simp
        | cons s r =>
          have := h3 s (by rw [hls]; simp)
          have h6 : s.data.toList.length = s.size := by simp
          simp only [List.headD_cons]
          omega
      · cases hp
    · have := ih x.kids (by omega) p hp
      omega
set_option maxHeartbeats 1000000 in
theorem Of_calls (v : Value) (l : List Bl) (w : World) (hR : Rd (· < w.heap.size) w v (dBls l)) (hl : D.bulks (dBls l) ≤ 4194304) :
    Calls Tryd.prog 15 #[v] w fun e w' => ∃ v', e = .returned v' ∧ w'.ownsRow w.heap.size 35 2 v' (listOf (defsL l)).length ((listOf (defsL l)).flatMap cellsE) ∧ Below w.heap.size w w' := by
  have hmm := @run_makeMap Tryd.prog
  obtain ⟨A, c, rfl, hc, _⟩ := hR.form
  rw [dBls_len] at *
  have hmade : OwnT (w.alloc (.map #[] 0)) w.heap.size 0 (.map []) := World.ownsMap_made _ _ _ _
  have hb0 : Below w.heap.size w (w.alloc (.map #[] 0)) := (Below.refl _ _).alloc (Nat.le_refl _) _
  have hle := defsL_le _ l (Nat.le_refl _)
  have hsz := defs_sizes _ l (Nat.le_refl _)
  have hof := tof_calls w.heap.size w.heap.size (Nat.le_refl _) _ l hl (Nat.le_refl _) _ 0 [] (.map []) (w.alloc (.map #[] 0)) (hR.step (fun k hk _ => Below.heap_alloc w _ k hk) (fun _ h _ => h)) hmade Tab.nil (by omega)
  rw [Nat.zero_add, List.nil_append] at hof
  have HOF := Lib.hid hof
  have HSZ := Lib.hid hsz
  clear hof hmade hR hsz
  go_enter Tryd.func15, Tryd.ntmps15
  go_wp2_with (first
    | (go_at_call 33; go_must (refine (HOF.out).mono ?_); rintro e w3 ⟨rfl, D3, hown3, hT3, hg3⟩; have hb3 := below_of_grown hb0 hg3 (by simp))
    | (go_at_call 34; go_must (refine (tlist_calls w.heap.size _ _ D3 _ hown3 hT3 (by omega) (by omega) (fun p hp => by have := (HSZ.out p hp).1; unfold maxLen; omega)).mono ?_); rintro e w4 ⟨v4, rfl, hr4, hb4⟩))
  go_ret
  exact ⟨_, rfl, own_lower hr4 hb3.size, below_to hb3 hb3.size hb4⟩
set_option maxHeartbeats 1000000 in
theorem Find_calls (v : Value) (es : List (Bs × Bs)) (label : ByteArray) (w : World) (hR : Rd (· < w.heap.size) w v (es.map dE)) (hn : es.length ≤ 4194304) (hz : ∀ p ∈ es, p.1.length ≤ maxLen ∧ p.2.length ≤ maxLen) (hl : label.size ≤ 4194304) :
    Calls Tryd.prog 14 #[v, .string label] w fun e w' => e = .returned (.tuple #[.string ⟨((find es (foldS label).data.toList).getD []).toArray⟩, .bool (find es (foldS label).data.toList).isSome]) ∧ Below w.heap.size w w' := by
  have ht := tableOf_calls v es w hR hn hz
  have hf := fun W => Fold_calls label W hl
  have hfs := foldS_size label
  have HT := Lib.hid ht
  have HF := Lib.hid hf
  clear ht hf hR hz
  generalize foldS label = k at *
  have hkz : k.size ≤ maxLen := by unfold maxLen; omega
  go_enter Tryd.func14, Tryd.ntmps14
  go_wp2_with (first
    | (go_at_call 31; go_must (refine (HT.out).mono ?_); rintro e w1 ⟨rfl, D1, hown1, hT1, hb1⟩)
    | (go_at_call 32; go_must (refine (HF.out _).mono ?_); rintro e w2 ⟨rfl, hb2⟩; have hown2 := map_below hown1 hb2)
    | (at_lookup; go_must (refine wpList_lookup_own_ok_str _ rfl _ _ 58 rfl 9 9 lawS Tryd.underlying58 Tryd.underlying9 (zeroStr _) w.heap.size _ _ rfl hown2 _ _ rfl (WideMaps.keyOf_string_mk Tryd.underlying9 hkz) ?_); intro c hat))
  go_ret2
  have h1 := hT1.has k.data.toList
  refine ⟨?_, below_to hb1 hb1.size hb2⟩
  rw [h1]
  cases hfd : find es k.data.toList with
  | none =>
    have h2 := (hT1.none hfd _).symm.trans hat
    injection h2 with h2
    injection h2 with h2
    have : c = ⟨#[]⟩ := ByteArray.ext (Array.toList_inj.1 h2.symm)
    rw [this]
    rfl
  | some fv =>
    have h2 := (hT1.at' _ _ hfd).symm.trans hat
    injection h2 with h2
    injection h2 with h2
    have : c = ⟨fv.toArray⟩ := ByteArray.ext (Array.toList_inj.1 h2.symm)
    rw [this]
    rfl
end Go.Proofs.YtnoloihdcmgbaaaDoor
