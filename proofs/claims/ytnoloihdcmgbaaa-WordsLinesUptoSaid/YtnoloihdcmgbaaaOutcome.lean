/- The walks of weave: Range.of, outcome. -/
import Derived.Test.YtnoloihdcmgbaaaNext
import Derived.Test.YtnoloihdcmgbaaaShelf
namespace Go.Proofs.Ytnoloihdcmgbaaa
open Go.RowKit Go.PlainAid
set_option linter.unusedVariables false

/-- A' is where a cut of A begins. -/
def CutOf (A : Option Addr) (n c a b : Nat) (A' : Option Addr) : Prop := A' = if c = a then A else A.map (·.add a)
theorem CutOf.rd {ok : Nat → Prop} {w : World} {A A' : Option Addr} {n c a b : Nat} {zs : List Int} (h : CutOf A n c a b A') (hr : Rd ok w (.slice A n c) (zs.map (D.int .i64))) (hab : a ≤ b) (hb : b ≤ n) :
    Rd ok w (.slice A' (b - a) (c - a)) (((zs.take b).drop a).map (D.int .i64)) := by
  have := hr.cut (k := 1) (fun d hd => by obtain ⟨x, _, rfl⟩ := List.mem_map.1 hd; rfl) hab hb
  rw [Nat.mul_one] at this
  rw [h, List.map_drop, List.map_take]
  exact this
set_option maxRecDepth 100000 in
set_option maxHeartbeats 1000000 in
theorem of_calls (a b : Int) (n c : Nat) (A : Option Addr) (w : World) (ha : 0 ≤ a) (hab : a ≤ b) (hb : b ≤ n) (hn : n ≤ c) :
    Calls Try.prog 33 #[.agg #[.int .i64 a, .int .i64 b], .slice A n c] w fun e w' => ∃ A', e = .returned (.slice A' (b.toNat - a.toNat) (c - a.toNat)) ∧ CutOf A n c a.toNat b.toNat A' ∧ Below w.heap.size w w' := by
  obtain ⟨a, rfl⟩ := Int.eq_ofNat_of_zero_le ha
  obtain ⟨b, rfl⟩ := Int.eq_ofNat_of_zero_le (Int.le_trans ha hab)
  simp only [Int.toNat_natCast]
  have h2 : (b : Int) ≤ c := by omega
  have h3 : a ≤ b := by omega
  unfold CutOf
  by_cases h : c = a
  · subst h
    go_enter Try.func33, Try.ntmps33
    go_wp2
    go_ret
    exact ⟨A, by simp, by simp, (Below.refl _ _).alloc (Nat.le_refl _) _⟩
  · go_enter Try.func33, Try.ntmps33
    go_wp2
    go_ret
    exact ⟨_, rfl, by simp, (Below.refl _ _).alloc (Nat.le_refl _) _⟩

/-- slices.Equal of what is read. -/
theorem equal_calls {ok : Nat → Prop} (va vb : Value) (za zb : List Int) (w : World) (hA : Rd ok w va (za.map (D.int .i64))) (hB : Rd ok w vb (zb.map (D.int .i64))) :
    Calls Try.prog 72 #[va, vb] w fun e w' => e = .returned (.bool (za == zb)) ∧ ∃ q, w' = w.drewN q := by
  obtain ⟨A, ca, rfl, hca, hxa⟩ := hA.form
  obtain ⟨B, cb, rfl, hcb, hxb⟩ := hB.form
  simp only [List.length_map] at *
  by_cases hl : za.length = zb.length
  · by_cases h0 : za.length = 0
    · have e1 : za = [] := List.eq_nil_of_length_eq_zero h0
      have e2 : zb = [] := List.eq_nil_of_length_eq_zero (by omega)
      subst e1; subst e2
      refine (Try.slices_Equal_int_empty A B ca 0 cb w (by omega)).mono ?_
      rintro e w' ⟨rfl, rfl⟩
      exact ⟨rfl, 0, rfl⟩
    · obtain ⟨ba, oa, rfl, _, _, ha⟩ := hA.ints (by omega)
      obtain ⟨bb, ob, rfl, _, _, hb⟩ := hB.ints (by omega)
      refine (Try.slices_Equal_int ba oa za.length ca bb ob zb.length cb za zb w (Nat.le_refl _) (Nat.le_refl _) hxa hxb ha hb).mono ?_
      rintro e w' ⟨rfl, hq⟩
      exact ⟨by rw [List.take_length, List.take_length], hq⟩
  · refine (Try.slices_Equal_int_lens A B _ ca _ cb w hl).mono ?_
    rintro e w' ⟨rfl, rfl⟩
    exact ⟨by rw [show (za == zb) = false from beq_eq_false_iff_ne.2 (fun e => hl (by rw [e]))], 0, rfl⟩
end Go.Proofs.Ytnoloihdcmgbaaa
