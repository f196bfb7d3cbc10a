/- The walks of few, awake (layer 15's statements). -/
import Derived.Test.YtobncidpdodaiaaDoorAlike
import Derived.Test.YtobncidpdodaiaaDoorSize
namespace Go.Proofs.YtobncidpdodaiaaDoor
open Go.RowKit Go.PlainAid
set_option linter.all false
set_option linter.deprecated false
set_option maxRecDepth 100000
/-- Whether blocks are of a size that is looked at. -/
def FewRes (l : List Bl) (w : World) (e : Ending) (w' : World) : Prop := ∃ b : Bool, e = .returned (.bool b) ∧ (b = true → l.length ≤ 20) ∧ Below w.heap.size w w'
theorem few15_calls (l : List Bl) (v : Value) (w : World) (h : Rd (· < w.heap.size) w v (dBls l)) : Calls Tryd.prog 9 #[v] w (FewRes l w) := by
  obtain ⟨A, c, rfl, hc, hm⟩ := h.form
  have HS := Lib.hid (Size10_calls l _ 40 w h)
  rw [dBls_len] at *
  by_cases h20 : l.length ≤ 20
  · have t : decide (l.length ≤ 20) = true := decide_eq_true h20
    have t' : (l.length : Int) ≤ 20 := by omega
    have H20 := Lib.hid h20
    clear h20 h
    go_enter Tryd.func9, Tryd.ntmps9
    go_wp2_with fail
    refine HS.out.mono ?_
    rintro e w1 ⟨⟨n, rfl⟩, q, rfl⟩
    by_cases hn : n < 800
    · go_wp2_with fail
      go_ret
      exact ⟨_, rfl, fun _ => H20.out, below_drewN (Below.refl _ _) q⟩
    · go_wp2_with fail
      go_ret
      exact ⟨_, rfl, fun _ => H20.out, below_drewN (Below.refl _ _) q⟩
  · have t' : ¬ (l.length : Int) ≤ 20 := by omega
    clear h20 h HS
    go_enter Tryd.func9, Tryd.ntmps9
    go_wp2_with fail
    go_ret
    exact ⟨_, rfl, fun h => by simp at h, Below.refl _ _⟩
theorem key_rule : (⟨(keyB (.mk 3 0 ⟨#[]⟩ [] [] [])).toArray⟩ : ByteArray) = ⟨#[51, 59, 48, 59, 48, 58, 48, 59, 48, 59, 48, 59]⟩ := by decide +kernel
theorem alikeB_self (x : Bl) : alikeB x x = 1000 := by
  unfold alikeB
  rw [if_pos ((eqBl_iff x x).2 rfl)]
set_option maxHeartbeats 1000000 in
theorem awake15_calls (w : World) (hP : PowB w.heap.size w) : Calls Tryd.prog 8 #[] w fun e w' => e = .returned (.bool true) ∧ Below w.heap.size w w' := by
  have hK := Key_calls 3 0 ⟨#[]⟩ [] [] [] (by decide +kernel) (by simp [Bl.wf, wfI, Sps.wf, Bls.wf]) none 0 none 0 none 0 w (Rd.nil _ _) (Rd.nil _ _) (Rd.nil _ _) hP
  rw [key_rule] at hK
  simp only [List.length_nil] at hK
  have hA := fun W (hW : Below w.heap.size w W) => Alike_calls 0 0 0 0 ⟨#[]⟩ ⟨#[]⟩ [] [] [] [] [] [] (by decide +kernel) (by decide +kernel) (fun h => absurd ((eqBl_iff _ _).2 rfl) h) (by simp [Bl.wf, wfI, Sps.wf, Bls.wf]) (by simp [Bl.wf, wfI, Sps.wf, Bls.wf]) none none none none none none 0 0 0 0 0 0 W (Rd.nil _ _) (Rd.nil _ _) (Rd.nil _ _) (Rd.nil _ _) (Rd.nil _ _) (Rd.nil _ _) (fun W' h => hP W' (below_to hW hW.size h))
  simp only [alikeB_self, List.length_nil] at hA
  have HK := Lib.hid hK
  have HA := Lib.hid hA
  have bq := beq_t (rfl : (⟨#[51, 59, 48, 59, 48, 58, 48, 59, 48, 59, 48, 59]⟩ : ByteArray) = _)
  clear hK hA hP
  go_enter Tryd.func8, Tryd.ntmps8
  go_wp2_with fail
  refine HK.out.mono ?_
  rintro e w1 ⟨rfl, hb1⟩
  go_wp2_with fail
  refine (HA.out w1 hb1).mono ?_
  rintro e w2 ⟨rfl, hb2⟩
  go_wp2_with fail
  go_ret
  exact ⟨rfl, below_to hb1 hb1.size hb2⟩
end Go.Proofs.YtobncidpdodaiaaDoor
