/- Are spans, blocks the same? As Bool functions. No program in it. -/
import Derived.Test.YtlcfijkegdlfcaaGreatDoorTree
namespace Go.Proofs.YtlcfijkegdlfcaaGreatDoor
open Go
set_option linter.all false
mutual
def eqSp : Sp → Sp → Bool
  | .mk k s l, .mk k' s' l' => decide (k = k') && (decide (s = s') && eqSps l l')
def eqSps : List Sp → List Sp → Bool
  | [], [] => true
  | x :: a, y :: b => eqSp x y && eqSps a b
  | _, _ => false
end
mutual
theorem eqSp_iff : ∀ (x y : Sp), eqSp x y = true ↔ x = y
  | .mk k s l, .mk k' s' l' => by
    rw [eqSp, Bool.and_eq_true, Bool.and_eq_true, decide_eq_true_eq, decide_eq_true_eq, eqSps_iff l l']
    constructor
    · rintro ⟨rfl, rfl, rfl⟩; rfl
    · intro h; injection h with h1 h2 h3; exact ⟨h1, h2, h3⟩
theorem eqSps_iff : ∀ (a b : List Sp), eqSps a b = true ↔ a = b
  | [], [] => by simp [eqSps]
  | [], _ :: _ => by simp [eqSps]
  | _ :: _, [] => by simp [eqSps]
  | x :: a, y :: b => by rw [eqSps, Bool.and_eq_true, eqSp_iff x y, eqSps_iff a b, List.cons.injEq]
end
mutual
def eqBl : Bl → Bl → Bool
  | .mk k n i ls sp l, .mk k' n' i' ls' sp' l' => decide (k = k') && (decide (n = n') && (decide (i = i') && (decide (ls = ls') && (eqSps sp sp' && eqBls l l'))))
def eqBls : List Bl → List Bl → Bool
  | [], [] => true
  | x :: a, y :: b => eqBl x y && eqBls a b
  | _, _ => false
end
mutual
theorem eqBl_iff : ∀ (x y : Bl), eqBl x y = true ↔ x = y
  | .mk k n i ls sp l, .mk k' n' i' ls' sp' l' => by
    rw [eqBl]
    simp only [Bool.and_eq_true, decide_eq_true_eq]
    rw [eqSps_iff, eqBls_iff l l']
    constructor
    · rintro ⟨rfl, rfl, rfl, rfl, rfl, rfl⟩; rfl
    · intro h; injection h with h1 h2 h3 h4 h5 h6; exact ⟨h1, h2, h3, h4, h5, h6⟩
theorem eqBls_iff : ∀ (a b : List Bl), eqBls a b = true ↔ a = b
  | [], [] => by simp [eqBls]
  | [], _ :: _ => by simp [eqBls]
  | _ :: _, [] => by simp [eqBls]
  | x :: a, y :: b => by rw [eqBls, Bool.and_eq_true, eqBl_iff x y, eqBls_iff a b, List.cons.injEq]
end
theorem eqSps_len {a b : List Sp} (h : a.length ≠ b.length) : eqSps a b = false := Bool.eq_false_iff.2 (fun e => h (by rw [(eqSps_iff a b).1 e]))
theorem eqBls_len {a b : List Bl} (h : a.length ≠ b.length) : eqBls a b = false := Bool.eq_false_iff.2 (fun e => h (by rw [(eqBls_iff a b).1 e]))
/-- The same so far, and at a place. -/
theorem eqSps_at {a b : List Sp} {i : Nat} (h : eqSps (a.take i) (b.take i) = true) (ha : i < a.length) (hb : i < b.length) : eqSps (a.take (i + 1)) (b.take (i + 1)) = eqSp a[i] b[i] := by
  have e1 := List.take_succ_eq_append_getElem ha
  have e2 := List.take_succ_eq_append_getElem hb
  rw [Bool.eq_iff_iff, eqSps_iff, eqSp_iff, e1, e2, (eqSps_iff _ _).1 h, List.append_right_inj]
  exact ⟨fun h => by injection h, fun h => by rw [h]⟩
theorem eqBls_at {a b : List Bl} {i : Nat} (h : eqBls (a.take i) (b.take i) = true) (ha : i < a.length) (hb : i < b.length) : eqBls (a.take (i + 1)) (b.take (i + 1)) = eqBl a[i] b[i] := by
  have e1 := List.take_succ_eq_append_getElem ha
  have e2 := List.take_succ_eq_append_getElem hb
  rw [Bool.eq_iff_iff, eqBls_iff, eqBl_iff, e1, e2, (eqBls_iff _ _).1 h, List.append_right_inj]
  exact ⟨fun h => by injection h, fun h => by rw [h]⟩
theorem eqSps_no {a b : List Sp} {i : Nat} (h : eqSps (a.take (i + 1)) (b.take (i + 1)) = false) : eqSps a b = false := Bool.eq_false_iff.2 (fun e => by
  rw [(eqSps_iff a b).1 e, (eqSps_iff _ _).2 rfl] at h
  cases h)
theorem eqBls_no {a b : List Bl} {i : Nat} (h : eqBls (a.take (i + 1)) (b.take (i + 1)) = false) : eqBls a b = false := Bool.eq_false_iff.2 (fun e => by
  rw [(eqBls_iff a b).1 e, (eqBls_iff _ _).2 rfl] at h
  cases h)
end Go.Proofs.YtlcfijkegdlfcaaGreatDoor
