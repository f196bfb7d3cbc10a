/- The document's numbers of texts are the program's: no program in it. -/
import Derived.Test.YtobncidpdodaiaaDoorRefIds
import Derived.Test.YtobncidpdodaiaaDoorNumP
import Derived.Sort.Walk0
namespace Go.Proofs.YtobncidpdodaiaaDoor
open Go Go.Sort
set_option linter.all false
set_option linter.deprecated false
abbrev byt (x : ByteArray) : List UInt8 := x.data.toList
theorem byt_inj {x y : ByteArray} (h : byt x = byt y) : x = y := ByteArray.ext (Array.toList_inj.1 h)
theorem lessB (x y : ByteArray) : Op.bytesLess x.toList y.toList = decide (byt x < byt y) := by
  rw [bytesLess_eq, ByteArray.toList_eq, ByteArray.toList_eq]
theorem atP_eq (l : List ByteArray) (s : ByteArray) : atP l s = (l.takeWhile fun x => decide (byt x < byt s)).length := by
  unfold atP
  simp only [lessB]
/-- They rise. -/
def Rises (l : List ByteArray) : Prop := l.Pairwise fun x y => byt x < byt y
theorem atP_rise {s : ByteArray} : ∀ {l : List ByteArray} {k : Nat}, Rises l → l[k]? = some s → atP l s = k
  | [], k, _, h => by simp at h
  | x :: l, 0, _, h => by
    simp at h
    subst h
    rw [atP_eq, List.takeWhile_cons, if_neg (by simp [List.lt_irrefl])]; rfl
  | x :: l, k + 1, hs, h => by
    unfold Rises at hs
    rw [List.pairwise_cons] at hs
    have h' : l[k]? = some s := by simpa using h
    have hx : byt x < byt s := hs.1 s (List.mem_of_getElem? h')
    have := atP_rise hs.2 h'
    rw [atP_eq] at this ⊢
    rw [List.takeWhile_cons, if_pos (by simpa using hx), List.length_cons, this]
theorem mem_tw {α : Type} {p : α → Bool} : ∀ {l : List α} {x : α}, x ∈ l.takeWhile p → p x = true
  | [], _, h => by cases h
  | y :: l, x, h => by
    rw [List.takeWhile_cons] at h
    split at h
    · rcases List.mem_cons.1 h with rfl | h
      · assumption
      · exact mem_tw h
    · cases h
theorem putL_rise {l : List ByteArray} (hs : Rises l) (s : ByteArray) : Rises (putL l s) ∧ ∀ x, x ∈ putL l s ↔ x ∈ l ∨ x = s := by
  unfold putL
  by_cases h : l[atP l s]? = some s
  · rw [if_pos h]
    refine ⟨hs, fun x => ⟨.inl, fun hx => ?_⟩⟩
    rcases hx with hx | rfl
    · exact hx
    · exact List.mem_of_getElem? h
  · rw [if_neg h]
    have e := List.takeWhile_append_dropWhile (p := fun x => decide (byt x < byt s)) (l := l)
    have h1 : (l.takeWhile (fun x => decide (byt x < byt s)) ++ l.dropWhile (fun x => decide (byt x < byt s))).take (l.takeWhile (fun x => decide (byt x < byt s))).length = l.takeWhile (fun x => decide (byt x < byt s)) := List.take_left ..
    have h2 : (l.takeWhile (fun x => decide (byt x < byt s)) ++ l.dropWhile (fun x => decide (byt x < byt s))).drop (l.takeWhile (fun x => decide (byt x < byt s))).length = l.dropWhile (fun x => decide (byt x < byt s)) := List.drop_left ..
    have h3 : (l.takeWhile (fun x => decide (byt x < byt s)) ++ l.dropWhile (fun x => decide (byt x < byt s)))[(l.takeWhile (fun x => decide (byt x < byt s))).length]? = (l.dropWhile (fun x => decide (byt x < byt s))).head? := by
      rw [List.getElem?_append_right (Nat.le_refl _), Nat.sub_self, List.head?_eq_getElem?]
    rw [e] at h1 h2 h3
    rw [atP_eq] at h ⊢
    rw [h3] at h
    rw [h1, h2]
    have htw : ∀ x ∈ l.takeWhile (fun x => decide (byt x < byt s)), byt x < byt s := fun x hx => by
      have := mem_tw hx
      simpa using this
    have hl : Rises (l.takeWhile (fun x => decide (byt x < byt s)) ++ l.dropWhile (fun x => decide (byt x < byt s))) := by rw [e]; exact hs
    have hhd := List.head?_dropWhile_not (p := fun x => decide (byt x < byt s)) l
    have hmem : ∀ x, x ∈ l ↔ x ∈ l.takeWhile (fun x => decide (byt x < byt s)) ∨ x ∈ l.dropWhile (fun x => decide (byt x < byt s)) := fun x => by rw [← List.mem_append, e]
    generalize l.takeWhile (fun x => decide (byt x < byt s)) = T at *
    generalize l.dropWhile (fun x => decide (byt x < byt s)) = W at *
    unfold Rises at hl ⊢
    rw [List.pairwise_append] at hl
    have hW : ∀ y ∈ W, byt s < byt y := by
      cases W with
      | nil => intro y hy; cases hy
      | cons z W =>
        simp only [List.head?_cons, decide_eq_false_iff_not] at hhd h
        have hz : byt s < byt z := lt_of_le_ne (List.not_lt.1 hhd) (fun e => h (by rw [byt_inj e]))
        intro y hy
        rcases List.mem_cons.1 hy with rfl | hy
        · exact hz
        · exact List.lt_trans hz ((List.pairwise_cons.1 hl.2.1).1 y hy)
    refine ⟨List.pairwise_append.2 ⟨hl.1, List.pairwise_cons.2 ⟨hW, hl.2.1⟩, fun x hx y hy => ?_⟩, fun x => ?_⟩
    · rcases List.mem_cons.1 hy with rfl | hy
      · exact htw x hx
      · exact hl.2.2 x hx y hy
    · rw [hmem, List.mem_append, List.mem_cons]
      constructor
      · rintro (h | rfl | h)
        · exact .inl (.inl h)
        · exact .inr rfl
        · exact .inl (.inr h)
      · rintro ((h | h) | rfl)
        · exact .inl h
        · exact .inr (.inr h)
        · exact .inr (.inl rfl)
theorem putsL_rise : ∀ (a l : List ByteArray), Rises l → Rises (putsL a l) ∧ ∀ x, x ∈ putsL a l ↔ x ∈ l ∨ x ∈ a
  | [], l, h => ⟨h, fun x => by simp [putsL]⟩
  | s :: a, l, h => by
    obtain ⟨h1, h2⟩ := putL_rise h s
    obtain ⟨h3, h4⟩ := putsL_rise a (putL l s) h1
    refine ⟨h3, fun x => ?_⟩
    have : putsL (s :: a) l = putsL a (putL l s) := rfl
    rw [this, h4, h2, List.mem_cons, or_assoc]
theorem allL_rise (a b : List ByteArray) : Rises (allL a b) ∧ ∀ x, x ∈ allL a b ↔ x ∈ a ∨ x ∈ b := by
  unfold allL
  obtain ⟨h1, h2⟩ := putsL_rise a [] List.Pairwise.nil
  obtain ⟨h3, h4⟩ := putsL_rise b _ h1
  exact ⟨h3, fun x => by rw [h4, h2]; simp⟩
/-- The document's number is the program's. -/
theorem atP_idOf {a b : List ByteArray} {all : List ByteArray} (h : ∀ x, x ∈ all ↔ x ∈ a ∨ x ∈ b) {s : ByteArray} (hs : s ∈ all) : atP (allL a b) s = idOf all s := by
  obtain ⟨h1, h2⟩ := allL_rise a b
  have hu : uniq all = (allL a b).map byt := by
    refine rise_same (uniq_spec all).1 (List.pairwise_map.2 h1) (fun x => ?_)
    rw [uniq_mem, List.mem_map]
    constructor
    · rintro ⟨t, ht, rfl⟩; exact ⟨t, (h2 t).2 ((h t).1 ht), rfl⟩
    · rintro ⟨t, ht, rfl⟩; exact ⟨t, (h t).2 ((h2 t).1 ht), rfl⟩
  have hk := idOf_spec hs
  rw [hu, List.getElem?_map] at hk
  obtain ⟨t, ht, e⟩ := Option.map_eq_some_iff.1 hk
  rw [byt_inj e] at ht
  exact atP_rise h1 ht
end Go.Proofs.YtobncidpdodaiaaDoor
