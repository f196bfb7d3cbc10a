/- The walk of number.Ids. -/
import Derived.Test.YtobncidpdodaiaaDoorKeyL
import Derived.Test.YtobncidpdodaiaaDoorIds3
import Derived.Test.YtobncidpdodaiaaDoorTexts
namespace Go.Proofs.YtobncidpdodaiaaDoor
open Go.RowKit Go.PlainAid
set_option linter.all false
set_option linter.deprecated false
set_option maxRecDepth 100000
/-- Lists of blocks. -/
def dbss (lss : List (List Bl)) : List D := lss.map fun l => D.sl (dBls l)
theorem Rd.bls_at {ok : Nat → Prop} {w : World} {v : Value} {lss : List (List Bl)} (h : Rd ok w v (dbss lss)) {i : Nat} (hi : i < lss.length) :
    ∃ b o c u, v = .slice (some ⟨b, o, none⟩) lss.length c ∧ ok b ∧ b < w.heap.size ∧ w.cell? ⟨b, o + i, none⟩ = some u ∧ Rd ok w u (dBls lss[i]) := by
  obtain ⟨b, o, c, cs, hv, hb, hlt, hr, hc⟩ := h.get (k := 1) (i := i) (fun d hd => by unfold dbss at hd; obtain ⟨x, _, rfl⟩ := List.mem_map.1 hd; rfl) (by simpa [dbss] using hi)
  simp only [dbss, List.getElem_map, List.length_map] at hr hv
  have hr' := hr
  rw [Rep] at hr'
  obtain ⟨A, cc, rfl, _⟩ := hr'
  exact ⟨b, o, c, _, hv, hb, hlt, by have := hc 0 _ rfl; simpa using this, hr⟩
theorem infoStrsN : (Tryd.prog.info? 22).map (fun i => (i.zero, i.size, i.bytes)) = some (some (.slice none 0 0), 1, 24) := by kernel_rfl
/-- The keys of some lists of blocks. -/
def keyss (lss : List (List Bl)) : List (List ByteArray) := lss.map fun l => l.map keyS
set_option maxHeartbeats 2000000 in
theorem NIds_calls (v : Value) (lss : List (List Bl)) (w : World) (hR : Rd (· < w.heap.size) w v (dbss lss)) (hn : lss.length ≤ 1048575) (hb : ∀ l ∈ lss, D.bulks (dBls l) ≤ 1048576 ∧ Bls.wf l) (hT : (keyss lss).flatten.length ≤ 1048575) (hP : PowB w.heap.size w) :
    Calls Tryd.prog 12 #[v] w fun e w' => ∃ v', e = .returned v' ∧ Rd (fun k => w.heap.size ≤ k ∧ k < w'.heap.size) w' v' ((keyss lss).map (idsD (keyss lss).flatten)) ∧ Below w.heap.size w w' := by
  obtain ⟨A, c, rfl, hc, _⟩ := hR.form
  simp only [dbss, List.length_map] at hc
  have hl : (dbss lss).length = lss.length := by simp [dbss]
  rw [hl]
  clear hl
  have HR := Lib.hid hR
  have HP := Lib.hid hP
  have HB := Lib.hid hb
  clear hR hP hb
  go_enter Tryd.func12, Tryd.ntmps12
  go_wp2_with fail
  go_loopw [3, 8] (fun vo vi wr => ∃ i : Nat, i ≤ lss.length ∧ vi = .int .i64 i ∧ (∃ cells, wr.ownsRow w.heap.size 22 1 vo i cells ∧ Hid (RepAll (fun k => k < wr.heap.size ∧ vo.ownBlock ≠ some k) wr (dss (keyss (lss.take i))) cells)) ∧ Below w.heap.size w wr) (fun _ vi _ => lss.length - (intOf vi).toNat)
  case atStart => exact ⟨0, Nat.zero_le _, rfl, ⟨[], World.ownsRow_nil _ _ _ _, Lib.hid (by simp [dss, keyss, RepAll])⟩, Below.refl _ _⟩
  case round =>
    obtain ⟨i, hi, rfl, ⟨cells, hor, hra⟩, hB⟩ := hrel
    by_cases hlt : i < lss.length
    · have hRr := HR.out.lt_below hB
      obtain ⟨b, o, c', u, hv, hbk, hbl, hcell, hRu⟩ := hRr.bls_at hlt
      obtain ⟨hA, hn1, hC⟩ := Value.slice.inj hv
      subst hA; subst hC
      clear hn1 hv
      have hbw := HB.out _ (List.getElem_mem hlt)
      have htk : keyss (lss.take (i + 1)) = keyss (lss.take i) ++ [lss[i].map keyS] := by unfold keyss; rw [List.take_succ_eq_append_getElem hlt, List.map_append]; rfl
      generalize lss[i] = l at *
      have HTK := Lib.hid htk
      have HK := Lib.hid (keys_calls u l wr hRu hbw.1 hbw.2 (fun W hW => HP.out W (below_to hB hB.size hW)))
      clear htk hRu hRr
      go_wp2_with fail
      refine HK.out.mono ?_
      rintro e w1 ⟨v1, rfl, r1, b1⟩
      obtain ⟨V1, c1, rfl⟩ := own_slice r1
      have hB1 := below_to hB hB.size b1
      have hor1 := own_same (w' := w1) hor (fun g hv => b1.block g (hor.lt g hv).2)
      have hrd1 := Rd.of_own (ok := fun k => wr.heap.size ≤ k ∧ k < w1.heap.size) r1 (by simp) (RepAll.strs _ _ _) (fun k hk => r1.lt k hk)
      have hown1 : ∀ k, wr.heap.size ≤ k → u3.ownBlock ≠ some k := fun k hk e => by have := (hor.lt k e).2; omega
      have hra1 : RepAll (fun k => k < w1.heap.size ∧ u3.ownBlock ≠ some k) w1 (dss (keyss (lss.take i)) ++ [D.sl ((l.map keyS).map D.str)]) (cells ++ [.slice V1 l.length c1]) :=
        RepAll.append (hra.out.step (fun k hk _ => b1.block k hk.1) (fun k hk _ => ⟨Nat.lt_of_lt_of_le hk.1 b1.size, hk.2⟩)) (RepAll.single (Rep.step (fun _ _ _ => rfl) (fun k hk _ => ⟨hk.2, hown1 k hk.1⟩) hrd1))
      have hdd : dss (keyss (lss.take i)) ++ [D.sl ((l.map keyS).map D.str)] = dss (keyss (lss.take (i + 1))) := by rw [HTK.out]; simp [dss]
      rw [hdd] at hra1
      have HRA := Lib.hid hra1
      clear r1 hor hra hra1 hrd1 hown1 hdd
      go_wp2_with (at_builtin; go_must (refine app_one (w0 := w1) w.heap.size rfl _ _ 47 22 rfl Tryd.underlying47 infoStrsN rfl (by decide) (by decide) [.slice V1 l.length c1] rfl rfl rfl (by simp [Value.oneCell']) (by exact hor1) (Below.refl _ _) hB1.size (by omega) ?_); intro v' w7 hown' hbe' hgr hat)
      have hnew : RepAll (fun k => k < w7.heap.size ∧ v'.ownBlock ≠ some k) w7 (dss (keyss (lss.take (i + 1)))) (cells ++ [.slice V1 l.length c1]) :=
        HRA.out.step (fun k hk _ => hgr.block k hk.1 (fun e => hk.2 e.symm)) (fun k hk _ => ⟨Nat.lt_of_lt_of_le hk.1 hgr.size, fun e => by
          rcases hat with h | ⟨g, h, hg⟩
          · exact hk.2 (h ▸ e)
          · rw [h] at e; injection e with e; omega⟩)
      go_roundw
      case rel => exact ⟨i + 1, by omega, by go_num, ⟨_, hown', Lib.hid hnew⟩, hB1.trans hbe'⟩
      case measure => simp [intOf]; omega
    · have hie : i = lss.length := by omega
      rw [hie, List.take_length] at hra
      rw [hie] at hor
      obtain ⟨VO, cO, rfl⟩ := own_slice hor
      have hlk : (dss (keyss lss)).length = lss.length := by simp [dss, keyss]
      have hrd : Rd (· < wr.heap.size) wr (.slice VO lss.length cO) (dss (keyss lss)) := Rd.of_own hor hlk (hra.out.step (fun _ _ _ => rfl) (fun k hk _ => hk.1)) (fun k hk => (hor.lt k hk).2)
      have HI := Lib.hid (Ids_calls _ (keyss lss) wr hrd (by simpa [keyss] using hn) hT)
      clear hie hra hor hrd hlk
      go_wp2_with fail
      refine HI.out.mono ?_
      rintro e w9 ⟨v9, rfl, r9, b9⟩
      have hs := hB.size
      have R9 := Lib.hid (r9.mono (ok' := fun k => w.heap.size ≤ k ∧ k < w9.heap.size) (fun k hk _ => ⟨by omega, hk.2⟩))
      clear r9
      go_wp2_with fail
      go_ret
      exact ⟨_, rfl, R9.out, below_to hB hs b9⟩
end Go.Proofs.YtobncidpdodaiaaDoor
