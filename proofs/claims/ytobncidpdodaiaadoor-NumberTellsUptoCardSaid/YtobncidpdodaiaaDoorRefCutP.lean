/- The document's tokens are the program's: no program in it. -/
import Derived.Test.YtobncidpdodaiaaDoorRefCut
import Derived.Test.YtobncidpdodaiaaDoorCutP
namespace Go.Proofs.YtobncidpdodaiaaDoor
open Go Go.PlainAid
set_option linter.all false
set_option linter.deprecated false
theorem cls_long (c : Int) : (cls c < 3) ↔ long (cls c) = true := by
  unfold long cls
  (repeat' split) <;> simp
theorem refG_cutG (s : ByteArray) : ∀ i, i ≤ s.size → (refG s i).1.map (·.data.toList) = (cutG (s.data.toList.take i)).1 ∧ (∀ d, (s.data.toList.take i).getLast? = some d → (refG s i).2 = kls d) ∧ ((refG s i).1 = [] ↔ i = 0)
  | 0, _ => ⟨by simp [refG, cutG], by simp, by simp [refG]⟩
  | i + 1, hi => by
    obtain ⟨h1, h2, h3⟩ := refG_cutG s i (by omega)
    have hlt : i < s.data.toList.length := by
      have : s.data.toList.length = s.size := by simp
      omega
    have hc := bytes_get s (i := i) (by omega)
    have hk : cls (bt s i) = kls (s[i]'(by omega)) := by unfold kls; rw [get_bt s i (by omega)]
    have htk : s.data.toList.take (i + 1) = s.data.toList.take i ++ [s[i]'(by omega)] := by
      rw [List.take_succ_eq_append_getElem hlt]
      congr 2
    have hex : (s.extract i (i + 1)).data.toList = [s[i]'(by omega)] := by
      rw [extract_list, htk, List.drop_append_of_le_length (by simp; omega), List.drop_of_length_le (by simp; omega)]; rfl
    have hlast := cutG_last (s.data.toList.take i)
    rw [htk, cutG_snoc]
    generalize hcc : s[i]'(by omega) = c at *
    have hcond : ((refG s i).1 ≠ [] ∧ cls (bt s i) = (refG s i).2 ∧ cls (bt s i) < 3) ↔ (cutG (s.data.toList.take i)).2.any (fun d => joins d c) = true := by
      rw [hlast]
      cases hg : (s.data.toList.take i).getLast? with
      | none =>
        have h0 : s.data.toList.take i = [] := List.getLast?_eq_none_iff.1 hg
        have : i = 0 := by
          have := congrArg List.length h0
          rw [List.length_take, List.length_nil] at this
          omega
        simp [h3.2 this]
      | some d =>
        have hi0 : i ≠ 0 := fun e => by subst e; simp at hg
        have e2 := h2 d hg
        rw [hk, e2]
        simp only [Option.any_some, joins, Bool.and_eq_true, beq_iff_eq]
        constructor
        · rintro ⟨_, h, h'⟩
          exact ⟨h, by rw [← h]; exact (cls_long _).1 h'⟩
        · rintro ⟨h, h'⟩
          exact ⟨fun e => hi0 (h3.1 e), h, by rw [h]; exact (cls_long _).2 h'⟩
    rw [refG_succ]
    by_cases hj : (refG s i).1 ≠ [] ∧ cls (bt s i) = (refG s i).2 ∧ cls (bt s i) < 3
    · rw [if_pos hj]
      unfold cstep
      rw [if_pos (hcond.1 hj)]
      refine ⟨?_, fun d hd => ?_, by simp⟩
      · simp only [List.map_append, List.map_cons, List.map_nil]
        rw [List.map_dropLast, h1]
        congr 2
        rw [ByteArray.data_append, Array.toList_append, hex]
        congr 1
        rw [← h1, List.getLastD_eq_getLast?, List.getLastD_eq_getLast?, List.getLast?_map]
        cases (refG s i).1.getLast? <;> rfl
      · rw [List.getLast?_append] at hd
        simp at hd
        rw [hk, hd]
    · rw [if_neg hj]
      unfold cstep
      rw [if_neg (fun e => hj (hcond.2 e))]
      refine ⟨?_, fun d hd => ?_, by simp⟩
      · rw [List.map_append, h1, List.map_cons, List.map_nil, hex]
      · rw [List.getLast?_append] at hd
        simp at hd
        rw [hk, hd]
theorem refCut_eq (s : ByteArray) : (refG s s.size).1 = cut s := by
  have h1 := (refG_cutG s s.size (Nat.le_refl _)).1
  have h2 := cut_list s
  have e : s.data.toList.take s.size = s.data.toList := List.take_of_length_le (by simp)
  rw [e] at h1
  have h3 : (refG s s.size).1.map (·.data.toList) = (cut s).map (·.data.toList) := h1.trans h2.symm
  exact List.map_inj_right (fun x y h => ByteArray.ext (Array.toList_inj.1 h)) |>.1 h3
end Go.Proofs.YtobncidpdodaiaaDoor
