/- The walks of number's Key, keys. -/
import Derived.Test.YtobncidpdodaiaaDoorKeyB
namespace Go.Proofs.YtobncidpdodaiaaDoor
open Go.RowKit Go.PlainAid
set_option linter.all false
set_option linter.deprecated false
set_option maxRecDepth 100000
theorem keyB_ne (x : Bl) : keyB x ≠ [] := by
  obtain ⟨k, n, i, ls, sp, l⟩ := x
  rw [keyB, numB]
  simp
theorem wr_fresh {B : Nat} {w : World} (hB : B ≤ w.heap.size) : WrAt B w.heap.size [] (w.alloc (.cells #[.pointer none, .slice none 0 0] 56)) :=
  .inl ⟨hB, .slice none 0 0, World.alloc_heap_new w _, World.ownsRow_nil _ _ _ _, by simp [Value.ownBlock]⟩
set_option maxHeartbeats 2000000 in
theorem Key_calls (k n : Int) (inf : ByteArray) (ls : List ByteArray) (sp : List Sp) (l : List Bl) (hb : (dBl (.mk k n inf ls sp l)).bulk ≤ 1048576) (hwf : (Bl.mk k n inf ls sp l).wf) (A1 : Option Addr) (c1 : Nat) (A2 : Option Addr) (c2 : Nat) (A3 : Option Addr) (c3 : Nat) (w : World)
    (hR1 : Rd (· < w.heap.size) w (.slice A1 ls.length c1) (ls.map D.str)) (hR2 : Rd (· < w.heap.size) w (.slice A2 sp.length c2) (dSps sp)) (hR3 : Rd (· < w.heap.size) w (.slice A3 l.length c3) (dBls l)) (hP : PowB w.heap.size w) :
    Calls Tryd.prog 16 #[.agg #[.int .i64 k, .int .i64 n, .string inf, .slice A1 ls.length c1, .slice A2 sp.length c2, .slice A3 l.length c3]] w fun e w' => e = .returned (.string ⟨(keyB (.mk k n inf ls sp l)).toArray⟩) ∧ Below w.heap.size w w' := by
  have HR1 := Lib.hid hR1
  have HR2 := Lib.hid hR2
  have HR3 := Lib.hid hR3
  have HP := Lib.hid hP
  clear hR1 hR2 hR3 hP
  have hs1 : (w.alloc (.cells #[.int .i64 k, .int .i64 n, .string inf, .slice A1 ls.length c1, .slice A2 sp.length c2, .slice A3 l.length c3] 26)).heap.size = w.heap.size + 1 := by simp
  have hfr : WrAt w.heap.size (w.alloc (.cells #[.int .i64 k, .int .i64 n, .string inf, .slice A1 ls.length c1, .slice A2 sp.length c2, .slice A3 l.length c3] 26)).heap.size [] ((w.alloc (.cells #[.int .i64 k, .int .i64 n, .string inf, .slice A1 ls.length c1, .slice A2 sp.length c2, .slice A3 l.length c3] 26)).alloc (.cells #[.pointer none, .slice none 0 0] 56)) := wr_fresh (by omega)
  rw [hs1] at hfr
  have hbw : Below w.heap.size w ((w.alloc (.cells #[.int .i64 k, .int .i64 n, .string inf, .slice A1 ls.length c1, .slice A2 sp.length c2, .slice A3 l.length c3] 26)).alloc (.cells #[.pointer none, .slice none 0 0] 56)) := below_alloc (below_alloc (Below.refl _ _) (Nat.le_refl _) _) (by omega) _
  have hcl := wblock_calls w.heap.size (w.heap.size + 1) 1048577 k n inf ls sp l (by omega) (by omega) hwf A1 c1 A2 c2 A3 c3 [] ((w.alloc (.cells #[.int .i64 k, .int .i64 n, .string inf, .slice A1 ls.length c1, .slice A2 sp.length c2, .slice A3 l.length c3] 26)).alloc (.cells #[.pointer none, .slice none 0 0] 56)) (HR1.out.step (fun k hk _ => hbw.block k hk) (fun _ h _ => h)) (HR2.out.step (fun k hk _ => hbw.block k hk) (fun _ h _ => h)) (HR3.out.step (fun k hk _ => hbw.block k hk) (fun _ h _ => h)) hfr (HP.out.step hbw) hbw.size (by simp only [List.length_nil]; omega)
  rw [List.nil_append] at hcl
  have HCL := Lib.hid hcl
  have hne := keyB_ne (.mk k n inf ls sp l)
  generalize keyB (.mk k n inf ls sp l) = KK at *
  clear hcl hfr hs1
  go_enter Tryd.func16, Tryd.ntmps16
  go_wp2_with fail
  refine HCL.out.mono ?_
  rintro e w1 ⟨rfl, h1⟩
  have hb1 := hbw.trans h1.below
  have hst : Calls Tryd.prog 30 #[.pointer (some ⟨w.heap.size + 1, 0, none⟩)] w1 fun e w' => e = .returned (.string ⟨KK.toArray⟩) ∧ Below w.heap.size w1 w' := by
    rcases h1.at' with h | h
    · exact BString_calls _ _ _ KK w1 h hne
    · exact BString_calls _ _ _ KK w1 h hne
  go_wp2_with fail
  refine hst.mono ?_
  rintro e w2 ⟨rfl, hb2⟩
  go_wp2_with fail
  go_ret
  exact ⟨rfl, hb1.trans hb2⟩
end Go.Proofs.YtobncidpdodaiaaDoor
