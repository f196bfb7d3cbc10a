/- The walks of number's writer: what it writes of a block is its key. -/
import Derived.Test.YtobncidpdodaiaaDoorBuild
import Derived.Test.YtobncidpdodaiaaDoorShelf
import Derived.Test.YtobncidpdodaiaaDoorKeyP
import Derived.Test.YtobncidpdodaiaaDoorBridge
import Derived.Test.YtobncidpdodaiaaDoorTill
import Derived.Lib.AppendIntMem
namespace Go.Proofs.YtobncidpdodaiaaDoor
open Go.RowKit Go.PlainAid
set_option linter.all false
set_option linter.deprecated false
set_option maxRecDepth 100000
/-- The table of the powers of ten lies as it was laid. -/
abbrev Pow10 (w : World) : Prop := Lib.TabIs Tryd.prog w "internal/strconv.uint64pow10" .u64 Lib.pow10Tab
/-- .. whatever is done from block B on. -/
def PowB (B : Nat) (w : World) : Prop := ∀ W, Below B w W → Pow10 W
theorem PowB.step {B : Nat} {w w1 : World} (h : PowB B w) (hb : Below B w w1) : PowB B w1 := fun W hW => h W (hb.trans hW)
/-- A writer that holds these bytes. -/
def WrAt (B b : Nat) (l : List UInt8) (w : World) : Prop := Lib.IsBuilder 56 5 B b (Lib.byteCells l) w
theorem byteCells_append (a b : List UInt8) : Lib.byteCells (a ++ b) = Lib.byteCells a ++ Lib.byteCells b := by unfold Lib.byteCells; rw [List.map_append]
theorem builder_below {T e : TypeId} {B b : Nat} {p : Value} {bs : List Value} {w w' : World} (h : Lib.BuilderAt T e B b p bs w) (hb : Below w.heap.size w w') : Lib.BuilderAt T e B b p bs w' := by
  have hlt := h.lt
  obtain ⟨hB, v, hbk, hown, hne⟩ := h
  exact ⟨hB, v, (hb.block b hlt).trans hbk, own_same hown (fun g hv => hb.block g (hown.lt g hv).2), hne⟩
theorem WrAt.below {B b : Nat} {l : List UInt8} {w w' : World} (h : WrAt B b l w) (hb : Below w.heap.size w w') : WrAt B b l w' := by
  rcases h with h | h
  · exact .inl (builder_below h hb)
  · exact .inr (builder_below h hb)
theorem WrAt.used {B b : Nat} {l : List UInt8} {w : World} (h : Lib.BuilderAt 56 5 B b (.pointer (some ⟨b, 0, none⟩)) (Lib.byteCells l) w) : WrAt B b l w := .inr h
theorem nDigits_le : ∀ (k u : Nat), 1 ≤ k → u < 10 ^ k → Lib.nDigits u ≤ k
  | 0, _, h, _ => absurd h (by omega)
  | k + 1, u, _, hu => by
    by_cases h : u < 10
    · rw [Lib.nDigits_small h]; omega
    · rw [Lib.nDigits_big h]
      rw [Nat.pow_succ] at hu
      have hk : 1 ≤ k := by
        rcases Nat.eq_zero_or_pos k with h0 | h0
        · subst h0; simp at hu; omega
        · exact h0
      have := nDigits_le k (u / 10) hk (by omega)
      omega
theorem itoa_len (n : Int) (h : wfI n) : (Lib.itoa n).length ≤ 64 := by
  have hp : (18446744073709551616 : Nat) < 10 ^ 63 := by decide
  have h1 := h.1
  have h2 := h.2
  unfold Lib.itoa
  split
  · have := nDigits_le 63 n.natAbs (by omega) (by omega)
    rw [List.length_cons, Lib.decDigits_length]
    omega
  · have := nDigits_le 63 n.toNat (by omega) (by omega)
    rw [Lib.decDigits_length]
    omega
theorem kdrew {B : Nat} {a w : World} (h : Below B a w) : Below B a w.drew := ⟨h.os, h.tape, h.output, h.size, h.block⟩
theorem itoa_calls (n : Int) (h0 : wfI n) (w : World) (hT : Pow10 w) : Calls Tryd.prog 65 #[.int .i64 n] w fun e w' => e = .returned (.string ⟨(Lib.itoa n).toArray⟩) ∧ Below w.heap.size w w' := by
  refine (Any.strconv_Itoa Tryd.itoaS n h0.1 h0.2 w hT).mono ?_
  rintro e w' ⟨rfl, k, os, rfl⟩
  exact ⟨rfl, Lib.below_grow _ _ (Nat.le_refl _) _ _⟩
set_option maxHeartbeats 1000000 in
theorem wnumber_calls (B b : Nat) (l : List UInt8) (n : Int) (w : World) (h : WrAt B b l w) (hn : wfI n) (hP : PowB B w) (hB : B ≤ w.heap.size) (hl : l.length ≤ 4398046511104) :
    Calls Tryd.prog 46 #[.pointer (some ⟨b, 0, none⟩), .int .i64 n] w fun e w' => e = .returned (.tuple #[]) ∧ WrAt B b (l ++ numB n) w' ∧ Below B w w' ∧ Oth b w w' := by
  have hi := fun W (hW : Below B w W) => itoa_calls n hn W (hP W hW)
  have hil := itoa_len n hn
  go_enter Tryd.func46, Tryd.ntmps46
  go_wp2_with fail
  refine wp_region_till 5 (fun _ => True) (by kernel_rfl) trivial (fun hT => ?_)
  refine wpAnyT_take (i := 0) (v := ?_) rfl (by kernel_rfl) (fun _ _ _ h => h) (Or.inl ⟨by rfl, ?_⟩) hT (fun hT => ?_)
  rotate_left
  · intro w _; go_simp; try with_reducible rfl
  try simp only [Act.put, List.setIfInBounds_toArray, List.set_cons_zero, List.set_cons_succ]
  refine wpAnyT_take (i := 1) (v := ?_) rfl (by kernel_rfl) (fun _ _ _ h => h) (Or.inl ⟨by rfl, ?_⟩) hT (fun hT => ?_)
  rotate_left
  · intro w _; go_simp; try with_reducible rfl
  try simp only [Act.put, List.setIfInBounds_toArray, List.set_cons_zero, List.set_cons_succ]
  refine wpAnyT_take (i := 2) (v := ?_) rfl (by kernel_rfl) (fun _ _ _ h => h) (Or.inl ⟨by rfl, ?_⟩) hT (fun hT => ?_)
  rotate_left
  · intro w _; go_simp; try with_reducible rfl
  try simp only [Act.put, List.setIfInBounds_toArray, List.set_cons_zero, List.set_cons_succ]
  refine wpAnyT_take (i := 3) (v := ?_) rfl (by kernel_rfl) (fun _ _ _ h => h) (Or.inl ⟨by rfl, ?_⟩) hT (fun hT => ?_)
  rotate_left
  · intro w _; go_simp; try with_reducible rfl
  try simp only [Act.put, List.setIfInBounds_toArray, List.set_cons_zero, List.set_cons_succ]
  refine wpAnyT_ready (rs := [4]) (by kernel_rfl) (by simp) ?_
  refine ReadyT.cons rfl (fun K hK => ?_) ReadyT.nil
  go_simp
  have hwd := kdrew (Below.refl w.heap.size w)
  refine (hi _ (hwd.mono hB)).mono ?_
  rintro e w1 ⟨rfl, hb1'⟩
  have hb1 : Below w.heap.size w w1 := hwd.trans hb1'
  refine hK.out _ _ (fun _ => trivial) (fun hT => ?_)
  clear hK K
  try simp only [Act.put, List.setIfInBounds_toArray, List.set_cons_zero, List.set_cons_succ]
  refine wpAnyT_ready (rs := [5]) (by kernel_rfl) (by simp) ?_
  refine ReadyT.cons rfl (fun K hK => ?_) ReadyT.nil
  go_simp
  refine (WrS_calls (.inr rfl) B b _ ⟨(Lib.itoa n).toArray⟩ w1 (h.below hb1) (by rw [Lib.byteCells_length]; have e : (ByteArray.mk (Lib.itoa n).toArray).size = (Lib.itoa n).length := rfl; omega) (Nat.le_trans hB hb1.size)).mono ?_
  rintro e w2 ⟨rfl, h2, hb2, ok2⟩
  refine hK.out _ _ (fun h => by simp at h) (fun hT => ?_)
  clear hK K
  try simp only [Act.put, List.setIfInBounds_toArray, List.set_cons_zero, List.set_cons_succ]
  refine wpAnyT_done (by kernel_rfl) ?_ _
  rw [Lib.strCells_toArray, ← byteCells_append] at h2
  have hB2 := Nat.le_trans hB (Nat.le_trans hb1.size hb2.size)
  go_wp2_with fail
  refine (WrB_calls (.inr rfl) B b _ 59 w2 (.inr h2) (by rw [Lib.byteCells_length, List.length_append]; omega) hB2).mono ?_
  rintro e w3 ⟨rfl, h3, hb3, ok3⟩
  have h4 : WrAt B b (l ++ numB n) w3 := .inr (by
    have e : Lib.byteCells (l ++ Lib.itoa n) ++ [Value.int .u8 59] = Lib.byteCells (l ++ numB n) := by
      unfold numB
      rw [← List.append_assoc, byteCells_append (l ++ Lib.itoa n) [59]]; rfl
    rw [← e]; exact h3)
  go_wp2_with fail
  go_end0
  exact ⟨rfl, h4, (hb1.mono hB).trans (hb2.trans hb3), (oth_below (Lib.OthersKept.refl _ _ _) hb1).trans (ok2.trans ok3)⟩
set_option maxHeartbeats 1000000 in
theorem wtext_calls (B b : Nat) (l : List UInt8) (s : ByteArray) (w : World) (h : WrAt B b l w) (hs : s.size ≤ 4398046511104) (hP : PowB B w) (hB : B ≤ w.heap.size) (hl : l.length ≤ 4398046511104) :
    Calls Tryd.prog 47 #[.pointer (some ⟨b, 0, none⟩), .string s] w fun e w' => e = .returned (.tuple #[]) ∧ WrAt B b (l ++ txtB s) w' ∧ Below B w w' ∧ Oth b w w' := by
  have hn : wfI (s.size : Int) := ⟨by omega, by omega⟩
  have hi := fun W (hW : Below B w W) => itoa_calls s.size hn W (hP W hW)
  have hil := itoa_len s.size hn
  clear hn
  go_enter Tryd.func47, Tryd.ntmps47
  go_wp2_with fail
  refine wp_region_till 6 (fun _ => True) (by kernel_rfl) trivial (fun hT => ?_)
  refine wpAnyT_take (i := 0) (v := ?_) rfl (by kernel_rfl) (fun _ _ _ h => h) (Or.inl ⟨by rfl, ?_⟩) hT (fun hT => ?_)
  rotate_left
  · intro w _; go_simp; try with_reducible rfl
  try simp only [Act.put, List.setIfInBounds_toArray, List.set_cons_zero, List.set_cons_succ]
  refine wpAnyT_take (i := 1) (v := ?_) rfl (by kernel_rfl) (fun _ _ _ h => h) (Or.inl ⟨by rfl, ?_⟩) hT (fun hT => ?_)
  rotate_left
  · intro w _; go_simp; try with_reducible rfl
  try simp only [Act.put, List.setIfInBounds_toArray, List.set_cons_zero, List.set_cons_succ]
  refine wpAnyT_take (i := 2) (v := ?_) rfl (by kernel_rfl) (fun _ _ _ h => h) (Or.inl ⟨by rfl, ?_⟩) hT (fun hT => ?_)
  rotate_left
  · intro w _; go_simp; try with_reducible rfl
  try simp only [Act.put, List.setIfInBounds_toArray, List.set_cons_zero, List.set_cons_succ]
  refine wpAnyT_take (i := 3) (v := ?_) rfl (by kernel_rfl) (fun _ _ _ h => h) (Or.inl ⟨by rfl, ?_⟩) hT (fun hT => ?_)
  rotate_left
  · intro w _; go_simp; try with_reducible rfl
  try simp only [Act.put, List.setIfInBounds_toArray, List.set_cons_zero, List.set_cons_succ]
  refine wpAnyT_take (i := 4) (v := ?_) rfl (by kernel_rfl) (fun _ _ _ h => h) (Or.inl ⟨by rfl, ?_⟩) hT (fun hT => ?_)
  rotate_left
  · intro w _; go_simp; try with_reducible rfl
  try simp only [Act.put, List.setIfInBounds_toArray, List.set_cons_zero, List.set_cons_succ]
  refine wpAnyT_ready (rs := [5]) (by kernel_rfl) (by simp) ?_
  refine ReadyT.cons rfl (fun K hK => ?_) ReadyT.nil
  go_simp
  have hwd := kdrew (Below.refl w.heap.size w)
  refine (hi _ (hwd.mono hB)).mono ?_
  rintro e w1 ⟨rfl, hb1'⟩
  have hb1 : Below w.heap.size w w1 := hwd.trans hb1'
  refine hK.out _ _ (fun _ => trivial) (fun hT => ?_)
  clear hK K
  try simp only [Act.put, List.setIfInBounds_toArray, List.set_cons_zero, List.set_cons_succ]
  refine wpAnyT_ready (rs := [6]) (by kernel_rfl) (by simp) ?_
  refine ReadyT.cons rfl (fun K hK => ?_) ReadyT.nil
  go_simp
  refine (WrS_calls (.inr rfl) B b _ ⟨(Lib.itoa s.size).toArray⟩ w1 (h.below hb1) (by rw [Lib.byteCells_length]; have e : (ByteArray.mk (Lib.itoa s.size).toArray).size = (Lib.itoa s.size).length := rfl; omega) (Nat.le_trans hB hb1.size)).mono ?_
  rintro e w2 ⟨rfl, h2, hb2, ok2⟩
  refine hK.out _ _ (fun h => by simp at h) (fun hT => ?_)
  clear hK K
  try simp only [Act.put, List.setIfInBounds_toArray, List.set_cons_zero, List.set_cons_succ]
  refine wpAnyT_done (by kernel_rfl) ?_ _
  rw [Lib.strCells_toArray, ← byteCells_append] at h2
  have hB2 := Nat.le_trans hB (Nat.le_trans hb1.size hb2.size)
  go_wp2_with fail
  refine (WrB_calls (.inr rfl) B b _ 58 w2 (.inr h2) (by rw [Lib.byteCells_length, List.length_append]; omega) hB2).mono ?_
  rintro e w3 ⟨rfl, h3, hb3, ok3⟩
  have e3 : Lib.byteCells (l ++ Lib.itoa s.size) ++ [Value.int .u8 58] = Lib.byteCells ((l ++ Lib.itoa s.size) ++ [58]) := by rw [byteCells_append _ [58]]; rfl
  rw [e3] at h3
  clear e3
  go_wp2_with fail
  refine (WrS_calls (.inr rfl) B b _ s w3 (.inr h3) (by rw [Lib.byteCells_length]; simp only [List.length_append, List.length_singleton]; omega) (Nat.le_trans hB2 hb3.size)).mono ?_
  rintro e w4 ⟨rfl, h4, hb4, ok4⟩
  have h5 : WrAt B b (l ++ txtB s) w4 := .inr (by
    have e : Lib.byteCells ((l ++ Lib.itoa s.size) ++ [58]) ++ Lib.strCells s = Lib.byteCells (l ++ txtB s) := by
      rw [Lib.strCells_eq, ← byteCells_append]
      unfold txtB
      simp [List.append_assoc]
    rw [← e]; exact h4)
  go_wp2_with fail
  go_end0
  exact ⟨rfl, h5, (hb1.mono hB).trans (hb2.trans (hb3.trans hb4)), (oth_below (Lib.OthersKept.refl _ _ _) hb1).trans (ok2.trans (ok3.trans ok4))⟩
end Go.Proofs.YtobncidpdodaiaaDoor
