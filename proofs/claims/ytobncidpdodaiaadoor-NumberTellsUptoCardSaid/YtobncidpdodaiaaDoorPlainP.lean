/- What spans read: as bytes. No program in it. -/
import Derived.Test.YtobncidpdodaiaaDoorTree
namespace Go.Proofs.YtobncidpdodaiaaDoor
open Go
set_option linter.all false
set_option linter.deprecated false
mutual
def plainSp : Sp → List UInt8
  | .mk k s l => (if k = 1 ∨ k = 2 then s.data.toList else []) ++ plainSps l
def plainSps : List Sp → List UInt8
  | [] => []
  | x :: l => plainSp x ++ plainSps l
end
theorem bulk_sp' (k : Int) (s : ByteArray) (l : List Sp) : (dSp (.mk k s l)).bulk = s.size + D.bulks (dSps l) + 4 := by simp only [dSp, D.bulk, D.bulks]; omega
mutual
theorem plainSp_len : ∀ x : Sp, (plainSp x).length ≤ (dSp x).bulk
  | .mk k s l => by
    have := plainSps_len l
    rw [plainSp, bulk_sp', List.length_append]
    split
    · simp; omega
    · simp; omega
theorem plainSps_len : ∀ l : List Sp, (plainSps l).length ≤ D.bulks (dSps l)
  | [] => by simp [plainSps]
  | x :: l => by
    have h1 := plainSp_len x
    have h2 := plainSps_len l
    rw [plainSps, dSps, D.bulks, List.length_append]
    omega
end
theorem plainSps_append : ∀ a b : List Sp, plainSps (a ++ b) = plainSps a ++ plainSps b
  | [], b => rfl
  | x :: a, b => by rw [List.cons_append, plainSps, plainSps, plainSps_append a b, List.append_assoc]
theorem plainSps_take {l : List Sp} {i : Nat} (hi : i < l.length) : plainSps (l.take (i + 1)) = plainSps (l.take i) ++ plainSp l[i] := by
  rw [List.take_succ_eq_append_getElem hi, plainSps_append, plainSps, plainSps, List.append_nil]
/-- What spans read. -/
def plainS (l : List Sp) : ByteArray := ⟨(plainSps l).toArray⟩
theorem plainS_size (l : List Sp) : (plainS l).size ≤ D.bulks (dSps l) := by
  have := plainSps_len l
  have e : (plainS l).size = (plainSps l).length := rfl
  omega
end Go.Proofs.YtobncidpdodaiaaDoor
