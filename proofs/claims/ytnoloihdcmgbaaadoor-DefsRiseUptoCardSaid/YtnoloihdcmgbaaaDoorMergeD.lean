/- What comes of three tables: no program in it. -/
import Derived.Test.YtnoloihdcmgbaaaDoorRowsB
namespace Go.Proofs.YtnoloihdcmgbaaaDoor
open Go.RowKit Go.PlainAid Go.Maps Go.Sort
set_option linter.all false
set_option linter.deprecated false
/-- Rising lists with the same members are the same. -/
theorem rise_ext : ∀ {a b : List Bs}, a.Pairwise (· < ·) → b.Pairwise (· < ·) → (∀ x, x ∈ a ↔ x ∈ b) → a = b
  | [], [], _, _, _ => rfl
  | [], y :: b, _, _, h => absurd ((h y).2 (by simp)) (by simp)
  | x :: a, [], _, _, h => absurd ((h x).1 (by simp)) (by simp)
  | x :: a, y :: b, ha, hb, h => by
    obtain ⟨ha1, ha2⟩ := List.pairwise_cons.1 ha
    obtain ⟨hb1, hb2⟩ := List.pairwise_cons.1 hb
    have irr : ∀ z : Bs, ¬ z < z := fun z => List.lt_irrefl z
    have e : x = y := by
      rcases List.mem_cons.1 ((h x).1 (by simp)) with e | hx
      · exact e
      · rcases List.mem_cons.1 ((h y).2 (by simp)) with e | hy
        · exact e.symm
        · exact absurd (List.lt_trans (ha1 y hy) (hb1 x hx)) (irr x)
    subst e
    rw [rise_ext ha2 hb2 (fun z => ⟨fun hz => ?_, fun hz => ?_⟩)]
    · rcases List.mem_cons.1 ((h z).1 (by simp [hz])) with e | h'
      · subst e; exact absurd (ha1 z hz) (irr z)
      · exact h'
    · rcases List.mem_cons.1 ((h z).2 (by simp [hz])) with e | h'
      · subst e; exact absurd (hb1 z hz) (irr z)
      · exact h'
theorem uniqL_ext {a b : List Bs} (h : ∀ x, x ∈ a ↔ x ∈ b) : uniqL a = uniqL b :=
  rise_ext (uniqL_spec a).1 (uniqL_spec b).1 (fun x => by rw [(uniqL_spec a).2.1, (uniqL_spec b).2.1, h])
theorem listOf_ext {a b : List (Bs × Bs)} (h : ∀ k, find a k = find b k) : listOf a = listOf b := by
  have hu : uniqL (a.map (·.1)) = uniqL (b.map (·.1)) := uniqL_ext (fun x => by rw [← find_isSome, ← find_isSome, h])
  have hf : (fun k => (k, (find a k).getD [])) = fun k => (k, (find b k).getD []) := funext (fun k => by rw [h])
  unfold listOf
  rw [hu, hf]
theorem listOf_twice (ds : List (Bs × Bs)) : listOf (listOf ds) = listOf ds := listOf_ext (fun k => find_listOf ds k)
theorem listOf_rises (ds : List (Bs × Bs)) : ((listOf ds).map (·.1)).Pairwise (· < ·) := by
  unfold listOf
  rw [List.map_map]
  have : ((fun x : Bs × Bs => x.1) ∘ fun k => (k, (find ds k).getD [])) = id := rfl
  rw [this, List.map_id]
  exact (uniqL_spec _).1
theorem listOf_find2 {ds : List (Bs × Bs)} {p : Bs × Bs} (hp : p ∈ listOf ds) : find ds p.1 = some p.2 := by
  unfold listOf at hp
  obtain ⟨k, hk, rfl⟩ := List.mem_map.1 hp
  obtain ⟨v, hv⟩ := Option.isSome_iff_exists.1 (find_isSome.2 (((uniqL_spec _).2.1 k).1 hk))
  simp [hv]
/-- Who wins: none is a clash. -/
def winO (x y z : Option Bs) : Option (Option Bs) := if z = x then some y else if y = x ∨ y = z then some z else none
theorem winO_swap (x y z : Option Bs) : winO x y z = winO x z y := by
  unfold winO
  by_cases h1 : z = x
  · subst h1
    by_cases h2 : y = z
    · subst h2; simp
    · simp [h2]
  · by_cases h2 : y = x
    · subst h2; simp [h1]
    · by_cases h3 : y = z
      · subst h3; simp [h1]
      · have : ¬ z = y := fun e => h3 e.symm
        simp [h1, h2, h3, this]
theorem winO_left (x y : Option Bs) : winO x y x = some y := by simp [winO]
theorem winO_right (x z : Option Bs) : winO x x z = some z := by
  unfold winO
  by_cases h : z = x
  · subst h; simp
  · simp [h]
theorem winO_some {x y z : Option Bs} {v : Bs} (h : (winO x y z).join = some v) : y = some v ∨ z = some v := by
  unfold winO at h
  split at h
  · exact .inl (by simpa using h)
  · split at h
    · exact .inr (by simpa using h)
    · simp at h
def labelsD (b o t : List (Bs × Bs)) : List Bs := uniqL ((b ++ o ++ t).map (·.1))
/-- What comes of some labels. -/
def outD (ks : List Bs) (b o t : List (Bs × Bs)) : List (Bs × Bs) := ks.filterMap fun k => ((winO (find b k) (find o k) (find t k)).join).map fun v => (k, v)
def clashD (ks : List Bs) (b o t : List (Bs × Bs)) : List Bs := ks.filter fun k => (winO (find b k) (find o k) (find t k)).isNone
theorem find_outD (b o t : List (Bs × Bs)) (k : Bs) : ∀ ks : List Bs, find (outD ks b o t) k = if k ∈ ks then (winO (find b k) (find o k) (find t k)).join else none
  | [] => by simp [outD, find_nil]
  | x :: ks => by
    have ih := find_outD b o t k ks
    unfold outD at ih ⊢
    rw [List.filterMap_cons]
    by_cases e : x = k
    · subst e
      cases h : (winO (find b x) (find o x) (find t x)).join with
      | none =>
        simp only [Option.map_none]
        rw [ih, h]
        simp
      | some v =>
        simp only [Option.map_some]
        rw [find_cons]
        simp
    · have e' : ¬ k = x := fun h => e h.symm
      cases h : (winO (find b x) (find o x) (find t x)).join with
      | none =>
        simp only [Option.map_none]
        rw [ih]
        simp [e']
      | some v =>
        simp only [Option.map_some]
        rw [find_cons, if_neg e, ih]
        simp [e']
theorem mem_labelsD {b o t : List (Bs × Bs)} {k : Bs} : k ∈ labelsD b o t ↔ (find b k).isSome = true ∨ (find o k).isSome = true ∨ (find t k).isSome = true := by
  unfold labelsD
  rw [(uniqL_spec _).2.1, List.map_append, List.map_append, List.mem_append, List.mem_append, find_isSome, find_isSome, find_isSome, or_assoc]
theorem find_merge (b o t : List (Bs × Bs)) (k : Bs) : find (outD (labelsD b o t) b o t) k = (winO (find b k) (find o k) (find t k)).join := by
  rw [find_outD]
  split
  · rfl
  · rename_i h
    rw [mem_labelsD] at h
    simp only [not_or, Bool.not_eq_true, Option.isSome_eq_false_iff, Option.isNone_iff_eq_none] at h
    rw [h.1, h.2.1, h.2.2]
    rfl
/-- What comes of three lists, and clashes. -/
def mergeD (b o t : List (Bs × Bs)) : List (Bs × Bs) := listOf (outD (labelsD b o t) b o t)
def clashes (b o t : List (Bs × Bs)) : List Bs := clashD (labelsD b o t) b o t
theorem find_mergeD (b o t : List (Bs × Bs)) (k : Bs) : find (mergeD b o t) k = (winO (find b k) (find o k) (find t k)).join := by
  unfold mergeD; rw [find_listOf, find_merge]
theorem mergeD_find {b o t : List (Bs × Bs)} {p : Bs × Bs} (hp : p ∈ mergeD b o t) : find o p.1 = some p.2 ∨ find t p.1 = some p.2 := by
  have h := listOf_find2 hp
  rw [find_merge] at h
  exact winO_some h
theorem mergeD_left (b o : List (Bs × Bs)) : mergeD b o b = listOf o := by
  unfold mergeD
  exact listOf_ext (fun k => by rw [find_merge, winO_left]; rfl)
theorem mergeD_right (b t : List (Bs × Bs)) : mergeD b b t = listOf t := by
  unfold mergeD
  exact listOf_ext (fun k => by rw [find_merge, winO_right]; rfl)
theorem mergeD_swap (b o t : List (Bs × Bs)) : mergeD b o t = mergeD b t o := by
  unfold mergeD
  exact listOf_ext (fun k => by rw [find_merge, find_merge, winO_swap])
theorem clashes_left (b o : List (Bs × Bs)) : clashes b o b = [] := by
  unfold clashes clashD
  rw [List.filter_eq_nil_iff]
  intro k _
  simp [winO_left]
theorem clashes_right (b t : List (Bs × Bs)) : clashes b b t = [] := by
  unfold clashes clashD
  rw [List.filter_eq_nil_iff]
  intro k _
  simp [winO_right]
theorem clashes_swap (b o t : List (Bs × Bs)) : clashes b o t = clashes b t o := by
  unfold clashes
  rw [show labelsD b o t = labelsD b t o from uniqL_ext (fun x => by simp only [List.map_append, List.mem_append]; constructor <;> (rintro ((h | h) | h) <;> simp [h]))]
  unfold clashD
  congr 1
  funext k
  rw [winO_swap]
theorem clashes_rise (b o t : List (Bs × Bs)) : (clashes b o t).Pairwise (· < ·) := by
  unfold clashes clashD labelsD
  exact (uniqL_spec _).1.sublist List.filter_sublist
theorem clashes_none {b o t : List (Bs × Bs)} {k : Bs} (h : k ∈ clashes b o t) : find (mergeD b o t) k = none := by
  unfold clashes clashD at h
  have := (List.mem_filter.1 h).2
  rw [Option.isNone_iff_eq_none] at this
  rw [find_mergeD, this]
  rfl
theorem clashes_label {b o t : List (Bs × Bs)} {k : Bs} (h : k ∈ clashes b o t) : k ∈ (b ++ o ++ t).map (·.1) := by
  unfold clashes clashD labelsD at h
  exact ((uniqL_spec _).2.1 k).1 (List.mem_filter.1 h).1
theorem out_clash_len (b o t : List (Bs × Bs)) : ∀ ks : List Bs, (outD ks b o t).length + (clashD ks b o t).length ≤ ks.length
  | [] => by simp [outD, clashD]
  | k :: ks => by
    have ih := out_clash_len b o t ks
    unfold outD clashD at ih ⊢
    rw [List.filterMap_cons, List.filter_cons]
    cases h : winO (find b k) (find o k) (find t k) with
    | none => simp; omega
    | some r =>
      cases r with
      | none => simp; omega
      | some v => simp; omega
theorem merge_len (b o t : List (Bs × Bs)) : (mergeD b o t).length + (clashes b o t).length ≤ b.length + o.length + t.length := by
  have h1 := out_clash_len b o t (labelsD b o t)
  have h2 := listOf_len (outD (labelsD b o t) b o t)
  have h3 := (uniqL_spec ((b ++ o ++ t).map (·.1))).2.2
  unfold mergeD clashes
  unfold labelsD at h1 h2 ⊢
  simp only [List.length_map, List.length_append] at h3
  omega
end Go.Proofs.YtnoloihdcmgbaaaDoor
