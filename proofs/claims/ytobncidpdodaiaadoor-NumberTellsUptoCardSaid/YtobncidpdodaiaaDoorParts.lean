/- The walk of number's parts. -/
import Derived.Test.YtobncidpdodaiaaDoorPlain
import Derived.Test.YtobncidpdodaiaaDoorNIds
namespace Go.Proofs.YtobncidpdodaiaaDoor
open Go.RowKit Go.PlainAid
set_option linter.all false
set_option linter.deprecated false
set_option maxRecDepth 100000
/-- What a block is made of, as texts. -/
def partsB (b : Bl) : List ByteArray :=
  if b.kind = 1 ∨ b.kind = 2 then cut (plainS b.spans) else if b.kind = 4 then b.lines else if b.kind = 5 ∨ b.kind = 6 ∨ b.kind = 7 then b.kids.map keyS else if b.kind = 8 then b.info :: b.lines else []
theorem bulk_bl' (k n : Int) (i : ByteArray) (ls : List ByteArray) (sp : List Sp) (l : List Bl) : (dBl (.mk k n i ls sp l)).bulk = i.size + D.bulks (ls.map D.str) + D.bulks (dSps sp) + D.bulks (dBls l) + 7 := by simp only [dBl, D.bulk, D.bulks]; omega
theorem cut_len (s : ByteArray) : (cut s).length ≤ s.size := (cutTo_len s s.size).1
theorem strs_len (ls : List ByteArray) : ls.length ≤ D.bulks (ls.map D.str) := by have := D.len_bulks (ls.map D.str); rwa [List.length_map] at this
theorem partsB_len (b : Bl) : (partsB b).length + 6 ≤ (dBl b).bulk := by
  obtain ⟨k, n, i, ls, sp, l⟩ := b
  rw [bulk_bl']
  have h1 := cut_len (plainS sp)
  have h2 := plainS_size sp
  have h3 := strs_len ls
  have h4 : l.length ≤ D.bulks (dBls l) := by have := D.len_bulks (dBls l); rwa [dBls_len] at this
  have hdef : partsB (.mk k n i ls sp l) = if k = 1 ∨ k = 2 then cut (plainS sp) else if k = 4 then ls else if k = 5 ∨ k = 6 ∨ k = 7 then l.map keyS else if k = 8 then i :: ls else [] := rfl
  rw [hdef]
  by_cases h1 : k = 1 ∨ k = 2
  · rw [if_pos h1]; omega
  rw [if_neg h1]
  by_cases h4 : k = 4
  · rw [if_pos h4]; omega
  rw [if_neg h4]
  by_cases h5 : k = 5 ∨ k = 6 ∨ k = 7
  · rw [if_pos h5, List.length_map]; omega
  rw [if_neg h5]
  by_cases h8 : k = 8
  · rw [if_pos h8, List.length_cons]; omega
  · rw [if_neg h8, List.length_nil]; omega
/-- The parts come. -/
def PartsOf (l : List ByteArray) (w : World) (e : Ending) (w' : World) : Prop := ∃ v, e = .returned v ∧ Rd (· < w'.heap.size) w' v (l.map D.str) ∧ Below w.heap.size w w'
set_option maxHeartbeats 4000000 in
theorem parts_calls (k n : Int) (inf : ByteArray) (ls : List ByteArray) (sp : List Sp) (l : List Bl) (hb : (dBl (.mk k n inf ls sp l)).bulk ≤ 1048583) (hwf : (Bl.mk k n inf ls sp l).wf) (A1 : Option Addr) (c1 : Nat) (A2 : Option Addr) (c2 : Nat) (A3 : Option Addr) (c3 : Nat) (w : World)
    (hR1 : Rd (· < w.heap.size) w (.slice A1 ls.length c1) (ls.map D.str)) (hR2 : Rd (· < w.heap.size) w (.slice A2 sp.length c2) (dSps sp)) (hR3 : Rd (· < w.heap.size) w (.slice A3 l.length c3) (dBls l)) (hP : PowB w.heap.size w) :
    Calls Tryd.prog 21 #[.agg #[.int .i64 k, .int .i64 n, .string inf, .slice A1 ls.length c1, .slice A2 sp.length c2, .slice A3 l.length c3]] w (PartsOf (partsB (.mk k n inf ls sp l)) w) := by
  have hbw : Below w.heap.size w (w.alloc (.cells #[.int .i64 k, .int .i64 n, .string inf, .slice A1 ls.length c1, .slice A2 sp.length c2, .slice A3 l.length c3] 26)) := below_alloc (Below.refl _ _) (Nat.le_refl _) _
  have hpb := partsB_len (.mk k n inf ls sp l)
  have hdef : partsB (.mk k n inf ls sp l) = if k = 1 ∨ k = 2 then cut (plainS sp) else if k = 4 then ls else if k = 5 ∨ k = 6 ∨ k = 7 then l.map keyS else if k = 8 then inf :: ls else [] := rfl
  rw [bulk_bl'] at hb hpb
  rw [Bl.wf] at hwf
  generalize partsB (.mk k n inf ls sp l) = PP at *
  by_cases h1 : k = 1 ∨ k = 2
  · rw [if_pos h1] at hdef
    have HP1 := Lib.hid (Plain_calls (D.bulks (dSps sp) + 1) sp (by omega) (by omega) _ _ (hR2.lt_below hbw))
    have HC := Lib.hid (fun W => cut_calls (plainS sp) W (by have := plainS_size sp; omega))
    rw [← hdef] at HC
    clear hdef hR1 hR2 hR3 hP hwf
    rcases h1 with rfl | rfl
    all_goals
      go_enter Tryd.func21, Tryd.ntmps21
      go_wp2_with fail
      refine HP1.out.mono ?_
      rintro e w1 ⟨rfl, hb1⟩
      have hb2 := below_to hbw hbw.size hb1
      go_wp2_with fail
      refine (HC.out w1).mono ?_
      rintro e w2 ⟨v, rfl, hown, hb3⟩
      have hr := rd_row hown rfl (Below.refl _ _)
      have HR := Lib.hid hr
      clear hown hr
      go_wp2_with fail
      go_ret
      exact ⟨_, rfl, HR.out, below_to hb2 hb2.size hb3⟩
  rw [if_neg h1] at hdef
  have n1 : (k == 1) = false := beq_eq_false_iff_ne.2 (fun e => h1 (.inl e))
  have n2 : (k == 2) = false := beq_eq_false_iff_ne.2 (fun e => h1 (.inr e))
  by_cases h4 : k = 4
  · rw [if_pos h4] at hdef
    have HR := Lib.hid (hR1.lt_below hbw)
    rw [← hdef] at HR
    clear hR1 hR2 hR3 hP hwf
    subst h4
    have HD := Lib.hid hdef
    clear hdef n1 n2 h1
    go_enter Tryd.func21, Tryd.ntmps21
    go_wp2_with fail
    go_ret
    exact ⟨_, rfl, by have := HR.out; rw [HD.out] at this ⊢; exact this, hbw⟩
  rw [if_neg h4] at hdef
  have n4 : (k == 4) = false := beq_eq_false_iff_ne.2 h4
  by_cases h5 : k = 5 ∨ k = 6 ∨ k = 7
  · rw [if_pos h5] at hdef
    have HK := Lib.hid (keys_calls _ l _ (hR3.lt_below hbw) (by omega) hwf.2.2.2 (fun W hW => hP W (hbw.trans (hW.mono hbw.size))))
    rw [← hdef] at HK
    have hll : PP.length = l.length := by rw [hdef, List.length_map]
    have HLL := Lib.hid hll
    clear hdef hR1 hR2 hR3 hP hwf n1 n2 n4 h1 h4 hll
    rcases h5 with rfl | rfl | rfl
    all_goals
      go_enter Tryd.func21, Tryd.ntmps21
      go_wp2_with fail
      refine HK.out.mono ?_
      rintro e w1 ⟨v, rfl, hown, hb1⟩
      have hr := rd_row hown HLL.out (Below.refl _ _)
      have HR := Lib.hid hr
      clear hown hr
      go_wp2_with fail
      go_ret
      exact ⟨_, rfl, HR.out, below_to hbw hbw.size hb1⟩
  rw [if_neg h5] at hdef
  have n5 : (k == 5) = false := beq_eq_false_iff_ne.2 (fun e => h5 (.inl e))
  have n6 : (k == 6) = false := beq_eq_false_iff_ne.2 (fun e => h5 (.inr (.inl e)))
  have n7 : (k == 7) = false := beq_eq_false_iff_ne.2 (fun e => h5 (.inr (.inr e)))
  by_cases h8 : k = 8
  · rw [if_pos h8] at hdef
    subst h8
    have hll : (inf :: ls).length = ls.length + 1 := rfl
    have hls := strs_len ls
    have h63 : ls.length + 1 ≤ 1048583 := by omega
    have HD := Lib.hid hdef
    have HR := Lib.hid hR1
    have hnil : A1 = none → c1 = 0 := fun e => by subst e; exact hR1.nocap
    have hs1 : Below w.heap.size w ((w.alloc (.cells #[.int .i64 8, .int .i64 n, .string inf, .slice A1 ls.length c1, .slice A2 sp.length c2, .slice A3 l.length c3] 26)).alloc (.cells #[.string inf] 9)) := below_alloc hbw hbw.size _
    have pl := World.ownsRow_lit (base := w.heap.size) (e := 9) (size := 1) (w.alloc (.cells #[.int .i64 8, .int .i64 n, .string inf, .slice A1 ls.length c1, .slice A2 sp.length c2, .slice A3 l.length c3] 26)) #[.string inf] 1 hbw.size (by unfold maxLen; omega) rfl
    rw [World.size_alloc] at pl
    obtain ⟨m1, m2, m3⟩ := str_news hR1 (fun k hk _ => hs1.block k hk)
    have HM := Lib.hid m3
    have HS := Lib.hid hs1
    have PL := Lib.hid pl
    clear hdef hR1 hR2 hR3 hP hwf hbw n1 n2 n4 n5 n6 n7 h1 h4 h5 hll hpb hb hls hnil m3 hs1 pl
    go_enter Tryd.func21, Tryd.ntmps21
    go_wp2_with (at_builtin; go_must (refine app_many w.heap.size rfl _ _ 22 9 rfl Tryd.underlying22 infoStr rfl (by decide) (by decide) (ls.map Value.string) rfl rfl m1 (by simp [Value.oneCell']) m2 HM.out (by exact PL.out) HS.out.size (by omega) ?_); intro v' w4 hown' hb4)
    have hown2 : w4.ownsRow w.heap.size 9 1 v' (inf :: ls).length ((inf :: ls).map Value.string) := by
      have e : (inf :: ls).length = 1 + ls.length := by rw [List.length_cons, Nat.add_comm]
      rw [e]; exact hown'
    have hr := rd_row hown2 rfl (Below.refl _ _)
    have HRR := Lib.hid hr
    have hbz := HS.out.trans (hb4.mono (by have := HS.out.size; omega))
    clear hown' hown2 hr
    go_ret
    exact ⟨_, rfl, by rw [HD.out]; exact HRR.out, hbz⟩
  · rw [if_neg h8] at hdef
    have n8 : (k == 8) = false := beq_eq_false_iff_ne.2 h8
    have HD := Lib.hid hdef
    clear hdef hR1 hR2 hR3 hP hwf h1 h4 h5 h8
    go_enter Tryd.func21, Tryd.ntmps21
    go_wp2_with fail
    go_ret
    exact ⟨_, rfl, by rw [HD.out]; exact Rd.nil _ _, hbw⟩
end Go.Proofs.YtobncidpdodaiaaDoor
