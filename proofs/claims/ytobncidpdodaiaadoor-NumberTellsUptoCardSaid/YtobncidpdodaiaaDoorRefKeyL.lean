/- The walk of the document's Keys (layer 15). -/
import Derived.Test.YtobncidpdodaiaaDoorRefKeyB
import Derived.Test.YtobncidpdodaiaaDoorKeyL
namespace Go.Proofs.YtobncidpdodaiaaDoor
open Go.RowKit Go.PlainAid
set_option linter.all false
set_option linter.deprecated false
set_option maxRecDepth 100000
set_option maxHeartbeats 2000000 in
theorem Keys15_calls (v : Value) (l : List Bl) (w : World) (hR : Rd (· < w.heap.size) w v (dBls l)) (hb : D.bulks (dBls l) ≤ 1048576) (hwf : Bls.wf l) :
    Calls Tryd.prog 13 #[v] w fun e w' => ∃ v', e = .returned v' ∧ w'.ownsRow w.heap.size 9 1 v' l.length ((l.map keyS).map Value.string) ∧ Below w.heap.size w w' := by
  obtain ⟨A, c, rfl, hc, _⟩ := hR.form
  rw [dBls_len] at *
  have hll : l.length ≤ 1048576 := by have := D.len_bulks (dBls l); rw [dBls_len] at this; omega
  have HR := Lib.hid hR
  have HW := Lib.hid ((Bls.wf_iff l).1 hwf)
  clear hR hwf
  go_enter Tryd.func13, Tryd.ntmps13
  go_wp2_with fail
  go_loopw [3, 7] (fun vo vi wr => ∃ i : Nat, i ≤ l.length ∧ vi = .int .i64 i ∧ wr.ownsRow w.heap.size 9 1 vo i (((l.take i).map keyS).map Value.string) ∧ Below w.heap.size w wr) (fun _ vi _ => l.length - (intOf vi).toNat)
  case atStart => exact ⟨0, Nat.zero_le _, rfl, World.ownsRow_nil _ _ _ _, Below.refl _ _⟩
  case round =>
    obtain ⟨i, hi, rfl, hor, hB⟩ := hrel
    by_cases hlt : i < l.length
    · have hRr := HR.out.lt_below hB
      obtain ⟨bb, o, u, v, y, rfl, hbb, hbl2, d0, d1, d2, d3, d4, d5, k1, k2, k3⟩ := hRr.bl_at hlt
      have hbt := bulksB_take hlt
      have hxw := HW.out _ (List.getElem_mem hlt)
      have htk : (l.take (i + 1)).map keyS = (l.take i).map keyS ++ [keyS l[i]] := by rw [List.take_succ_eq_append_getElem hlt, List.map_append]; rfl
      generalize l[i] = x at *
      obtain ⟨K, Nn, I, LS, SP, L⟩ := x
      simp only [Bl.kind, Bl.level, Bl.info, Bl.lines, Bl.spans, Bl.kids] at d0 d1 d2 d3 d4 d5 k1 k2 k3
      obtain ⟨T1, t1, rfl, _, _⟩ := k1.form
      obtain ⟨T2, t2, rfl, _, _⟩ := k2.form
      obtain ⟨T3, t3, rfl, _, _⟩ := k3.form
      rw [List.length_map] at *
      rw [dSps_len] at *
      rw [dBls_len] at *
      have HTK := Lib.hid htk
      have HI := Lib.hid (Key15_calls _ K Nn I LS SP L (Nat.lt_succ_self _) (by omega) hxw T1 t1 T2 t2 T3 t3 wr.heap.size wr k1 k2 k3 (Nat.le_refl _))
      clear htk k1 k2 k3 hRr
      go_wp2_with fail
      refine HI.out.mono ?_
      rintro e w9 ⟨rfl, b9⟩
      have hor3 := own_same (w' := w9) hor (fun g hv => b9.block g (hor.lt g hv).2)
      have hB3 := below_to hB hB.size b9
      go_wp2_with (at_builtin; go_must (refine app_one (w0 := w) w.heap.size rfl _ _ 22 9 rfl Tryd.underlying22 infoStrK rfl (by decide) (by decide) [.string ⟨(keyB (.mk K Nn I LS SP L)).toArray⟩] rfl rfl rfl (by simp [Value.oneCell']) (by exact hor3) hB3 hB3.size (by omega) ?_); intro v' w7 hown' hbe' _ _)
      go_roundw
      case rel => exact ⟨i + 1, by omega, by go_num, by rw [HTK.out, List.map_append]; exact hown', hbe'⟩
      case measure => simp [intOf]; omega
    · have hie : i = l.length := by omega
      rw [hie, List.take_length] at hor
      have HOR := Lib.hid hor
      clear hor
      go_wp2_with fail
      go_ret
      exact ⟨_, rfl, HOR.out, hB⟩
end Go.Proofs.YtobncidpdodaiaaDoor
