/- What two lists have in common, in order: plain functions, no program in sight. -/
import Derived.PlainAid
namespace Go.Proofs.YtobncidpdodaiaaDoor
variable {α : Type} [DecidableEq α]

def lcsRow (x : α) (f : List α → Nat) : List α → Nat
  | [] => 0
  | y :: b => if x = y then f b + 1 else max (f (y :: b)) (lcsRow x f b)
/-- The most that two lists have in common. -/
def lcsL : List α → List α → Nat
  | [], _ => 0
  | x :: a, b => lcsRow x (lcsL a) b
theorem lcsL_nil (a : List α) : lcsL a [] = 0 := by cases a <;> rfl
theorem lcsL_nil' (b : List α) : lcsL [] b = 0 := rfl
theorem lcsL_cons (x : α) (a : List α) (y : α) (b : List α) : lcsL (x :: a) (y :: b) = if x = y then lcsL a b + 1 else max (lcsL a (y :: b)) (lcsL (x :: a) b) := rfl
theorem lcsL_le (a b : List α) : lcsL a b ≤ a.length ∧ lcsL a b ≤ b.length := by
  induction a generalizing b with
  | nil => simp [lcsL]
  | cons x a ih =>
    induction b with
    | nil => simp [lcsL_nil]
    | cons y b ihb =>
      rw [lcsL_cons]
      have h1 := ih b; have h2 := ih (y :: b)
      simp only [List.length_cons] at *
      split <;> omega

def prsRow (x : α) (a : List α) (f : Nat → Nat → List α → List (Nat × Nat)) (i : Nat) : Nat → List α → List (Nat × Nat)
  | _, [] => []
  | k, y :: b => if x = y then (i, k) :: f (i + 1) (k + 1) b else if lcsL (x :: a) b ≤ lcsL a (y :: b) then f (i + 1) k (y :: b) else prsRow x a f i (k + 1) b
/-- Where both lists have the same, from the places i, k on. -/
def prs : List α → Nat → Nat → List α → List (Nat × Nat)
  | [], _, _, _ => []
  | x :: a, i, k, b => prsRow x a (prs a) i k b
theorem prs_nil (a : List α) (i k : Nat) : prs a i k [] = [] := by cases a <;> rfl
theorem prs_nil' (i k : Nat) (b : List α) : prs [] i k b = [] := rfl
theorem prs_cons (x : α) (a : List α) (i k : Nat) (y : α) (b : List α) : prs (x :: a) i k (y :: b) =
    if x = y then (i, k) :: prs a (i + 1) (k + 1) b else if lcsL (x :: a) b ≤ lcsL a (y :: b) then prs a (i + 1) k (y :: b) else prs (x :: a) i (k + 1) b := rfl
/-- The pairs of two lists. -/
def pairs (a b : List α) : List (Nat × Nat) := prs a 0 0 b
/-- The pairs from the places i, k on: how the next one comes. -/
theorem prs_at (a b : List α) {i k : Nat} (hi : i < a.length) (hk : k < b.length) : prs (a.drop i) i k (b.drop k) =
    if a[i] = b[k] then (i, k) :: prs (a.drop (i + 1)) (i + 1) (k + 1) (b.drop (k + 1))
    else if lcsL (a.drop i) (b.drop (k + 1)) ≤ lcsL (a.drop (i + 1)) (b.drop k) then prs (a.drop (i + 1)) (i + 1) k (b.drop k) else prs (a.drop i) i (k + 1) (b.drop (k + 1)) := by
  rw [List.drop_eq_getElem_cons hi, List.drop_eq_getElem_cons hk, prs_cons]
theorem lcsL_at (a b : List α) {i k : Nat} (hi : i < a.length) (hk : k < b.length) : lcsL (a.drop i) (b.drop k) =
    if a[i] = b[k] then lcsL (a.drop (i + 1)) (b.drop (k + 1)) + 1 else max (lcsL (a.drop (i + 1)) (b.drop k)) (lcsL (a.drop i) (b.drop (k + 1))) := by
  rw [List.drop_eq_getElem_cons hi, List.drop_eq_getElem_cons hk, lcsL_cons]
theorem prs_bounds (a : List α) : ∀ (i k : Nat) (b : List α), ∀ p ∈ prs a i k b, i ≤ p.1 ∧ p.1 < i + a.length ∧ k ≤ p.2 ∧ p.2 < k + b.length := by
  induction a with
  | nil => intro i k b p hp; simp [prs] at hp
  | cons x a ih =>
    intro i k b
    induction b generalizing k with
    | nil => intro p hp; simp [prs_nil] at hp
    | cons y b ihb =>
      intro p hp
      rw [prs_cons] at hp
      simp only [List.length_cons]
      split at hp
      · rcases List.mem_cons.1 hp with rfl | hp
        · simp only []; omega
        · have := ih (i + 1) (k + 1) b p hp; omega
      · split at hp
        · have := ih (i + 1) k (y :: b) p hp; simp only [List.length_cons] at this; omega
        · have := ihb (k + 1) p hp; simp only [List.length_cons] at this; omega
theorem prs_len (a : List α) : ∀ (i k : Nat) (b : List α), (prs a i k b).length ≤ a.length := by
  induction a with
  | nil => intro i k b; simp [prs]
  | cons x a ih =>
    intro i k b
    induction b generalizing k with
    | nil => simp [prs_nil]
    | cons y b ihb =>
      rw [prs_cons]
      split
      · simp only [List.length_cons]; have := ih (i + 1) (k + 1) b; omega
      · split
        · have := ih (i + 1) k (y :: b); simp only [List.length_cons]; omega
        · exact ihb (k + 1)
end Go.Proofs.YtobncidpdodaiaaDoor
