/- The walk of the reader's run. -/
import Derived.Test.YtlcfijkegdlfcaaGreatDoorReadP
import Derived.Test.YtlcfijkegdlfcaaGreatDoorRdr
/- Pure: an item's lines, one by one. No program in it. -/
/- Pure: the blocks of lines, a Rule with Blank lines about it, and other lines. No program in it. -/
namespace Go.Proofs.YtlcfijkegdlfcaaGreatDoor
set_option linter.all false
set_option linter.deprecated false
section
variable {in1 in2 : List Ln → Option (List Bl)}
theorem tw_run {α : Type} {p : α → Bool} {x : α} {X : List α} (hx : p x = false) : ∀ t : List α, (t ++ x :: X).takeWhile p = t.takeWhile p ∧ (t ++ x :: X).dropWhile p = t.dropWhile p ++ x :: X
  | [] => by simp [hx]
  | a :: t => by
    have ih := tw_run (X := X) hx t
    cases h : p a
    · simp [h]
    · simp [h, ih.1, ih.2]
theorem tw_stop {α : Type} {p : α → Bool} {X : List α} : ∀ t : List α, t.dropWhile p ≠ [] → (t ++ X).takeWhile p = t.takeWhile p ∧ (t ++ X).dropWhile p = t.dropWhile p ++ X
  | [], h => absurd rfl h
  | a :: t, h => by
    cases ha : p a
    · simp [ha]
    · have ih := tw_stop (X := X) t (by simpa [ha] using h)
      simp [ha, ih.1, ih.2]
theorem tw_all {α : Type} {p : α → Bool} {X : List α} : ∀ t : List α, t.dropWhile p = [] → (t ++ X).takeWhile p = t ++ X.takeWhile p ∧ (t ++ X).dropWhile p = X.dropWhile p ∧ t.takeWhile p = t
  | [], h => by simp
  | a :: t, h => by
    cases ha : p a
    · simp [ha] at h
    · have ih := tw_all (X := X) t (by simpa [ha] using h)
      simp [ha, ih.1, ih.2.1, ih.2.2]
theorem seq_le (t : List Ln) : (itemSeq t).length ≤ t.length := by
  unfold itemSeq
  have h1 := (List.dropWhile_sublist (fun x => kindL x == 1) (l := (t.takeWhile fun x => (innerL x).isSome).reverse)).length_le
  have h2 := (List.takeWhile_sublist (fun x => (innerL x).isSome) (l := t)).length_le
  simp only [List.length_reverse] at *
  omega
theorem drop_le (l : List Ln) : (dropBlank l).length ≤ l.length := (List.dropWhile_sublist _).length_le
theorem itemG_le (s : Ln) (t : List Ln) : (itemG s t).2.length ≤ t.length := by unfold itemG; simp
theorem itemsG_le : ∀ (f : Nat) (s : Ln) (t : List Ln), (itemsG f s t).2.length ≤ t.length
  | 0, s, t => by rw [itemsG]; exact itemG_le s t
  | f + 1, s, t => by
    rw [itemsG]
    split
    · refine Nat.le_trans (itemsG_le f _ _) ?_
      have := drop_le (itemG s t).2
      have := itemG_le s t
      simp only [List.length_drop]
      omega
    · exact itemG_le s t
theorem blockG_le (s : Ln) (t : List Ln) : (blockG in1 in2 s t).2.length ≤ t.length := by
  have hd := fun (p : Ln → Bool) => (List.dropWhile_sublist p (l := t)).length_le
  unfold blockG
  repeat' split
  · have := hd (fun x => !closesL (openL s) x); simp only [List.length_drop]; omega
  · exact hd _
  · exact itemsG_le _ _ _
  · exact hd _
  · exact Nat.le_refl _
  · exact Nat.le_refl _
  · exact Nat.le_refl _
/-- More fuel plays no part. -/
theorem itemsG_fuel : ∀ (f g : Nat) (s : Ln) (t : List Ln), t.length ≤ f → t.length ≤ g → itemsG f s t = itemsG g s t
  | 0, 0, _, _, _, _ => rfl
  | 0, g + 1, s, t, h, _ => by
    obtain rfl : t = [] := List.length_eq_zero_iff.1 (Nat.le_zero.1 h)
    rw [itemsG, itemsG, if_neg (by simp [itemG, itemSeq, dropBlank])]
  | f + 1, 0, s, t, _, h => by
    obtain rfl : t = [] := List.length_eq_zero_iff.1 (Nat.le_zero.1 h)
    rw [itemsG, itemsG, if_neg (by simp [itemG, itemSeq, dropBlank])]
  | f + 1, g + 1, s, t, hf, hg => by
    rw [itemsG, itemsG]
    by_cases h : (dropBlank (itemG s t).2).head?.any (fun x => kindL x == 6) = true
    · rw [if_pos h, if_pos h]
      have h1 := drop_le (itemG s t).2
      have h2 := itemG_le s t
      have h3 : 0 < (dropBlank (itemG s t).2).length := by
        cases hd : dropBlank (itemG s t).2 with
        | nil => rw [hd] at h; simp at h
        | cons a b => simp
      rw [itemsG_fuel f g _ _ (by simp only [List.length_drop]; omega) (by simp only [List.length_drop]; omega)]
    · rw [if_neg h, if_neg h]
theorem blocksG_fuel : ∀ (f g : Nat) (l : List Ln), l.length ≤ f → l.length ≤ g → blocksG in1 in2 f l = blocksG in1 in2 g l
  | 0, 0, _, _, _ => rfl
  | 0, g + 1, l, h, _ => by
    obtain rfl : l = [] := List.length_eq_zero_iff.1 (Nat.le_zero.1 h)
    rfl
  | f + 1, 0, l, _, h => by
    obtain rfl : l = [] := List.length_eq_zero_iff.1 (Nat.le_zero.1 h)
    rfl
  | f + 1, g + 1, l, hf, hg => by
    rw [blocksG, blocksG]
    cases hd : dropBlank l with
    | nil => rfl
    | cons s t =>
      have h1 := drop_le l
      rw [hd] at h1
      simp only [List.length_cons] at h1
      have h2 := blockG_le (in1 := in1) (in2 := in2) s t
      cases hb : (blockG in1 in2 s t).1 with
      | none => simp only [hb]
      | some b => simp only [hb]; rw [blocksG_fuel f g _ (by omega) (by omega)]
theorem blank_nil : kindL [] = 1 := rfl
theorem inner_nil : innerL [] = some [] := rfl
theorem inner_dash : innerL [45, 45, 45] = none := by decide
theorem kind_dash : kindL [45, 45, 45] = 3 := by decide
/-- A Blank line, a Rule, a Blank line, and others. -/
def ruleX (b : List Ln) : List Ln := [] :: [45, 45, 45] :: [] :: b
theorem dropX (r b : List Ln) : dropBlank (r ++ ruleX b) = if dropBlank r = [] then [45, 45, 45] :: [] :: b else dropBlank r ++ ruleX b := by
  unfold dropBlank ruleX
  by_cases h : r.dropWhile (fun x => kindL x == 1) = []
  · rw [if_pos h, (tw_all r h).2.1]
    simp [blank_nil, kind_dash]
  · rw [if_neg h, (tw_stop r h).2]
theorem seqX (t b : List Ln) : itemSeq (t ++ ruleX b) = itemSeq t := by
  unfold itemSeq ruleX
  by_cases h : t.dropWhile (fun x => (innerL x).isSome) = []
  · have e : ([] :: [45, 45, 45] :: [] :: b : List Ln).takeWhile (fun x => (innerL x).isSome) = [[]] := by
      rw [List.takeWhile_cons_of_pos (by rw [inner_nil]; rfl), List.takeWhile_cons_of_neg (by rw [inner_dash]; simp)]
    rw [(tw_all t h).1, (tw_all (X := []) t h).2.2, e, List.reverse_append]
    have e2 : ([[]] : List Ln).reverse = [[]] := rfl
    rw [e2, List.cons_append, List.nil_append, List.dropWhile_cons_of_pos (by rw [blank_nil]; rfl)]
  · rw [(tw_stop t h).1]
theorem itemX (s : Ln) (t b : List Ln) : itemG s (t ++ ruleX b) = ((itemG s t).1, (itemG s t).2 ++ ruleX b) := by
  unfold itemG
  rw [seqX, List.drop_append_of_le_length (seq_le t)]
theorem itemsX (b : List Ln) : ∀ (f : Nat) (s : Ln) (t : List Ln), itemsG f s (t ++ ruleX b) = ((itemsG f s t).1, (itemsG f s t).2 ++ ruleX b)
  | 0, s, t => by rw [itemsG, itemsG, itemX]
  | f + 1, s, t => by
    rw [itemsG, itemsG, itemX]
    simp only
    rw [dropX]
    by_cases h : dropBlank (itemG s t).2 = []
    · rw [if_pos h, h]
      simp [kind_dash]
    · rw [if_neg h]
      obtain ⟨x, r, hx⟩ : ∃ x r, dropBlank (itemG s t).2 = x :: r := by
        cases hd : dropBlank (itemG s t).2 with
        | nil => exact absurd hd h
        | cons x r => exact ⟨x, r, rfl⟩
      rw [hx]
      have ih := itemsX b f x r
      simp only [List.cons_append, List.head?_cons, Option.any_some, List.headD_cons, List.drop_succ_cons, List.drop_zero]
      by_cases hk : (kindL x == 6) = true
      · rw [if_pos hk, if_pos hk, ih]
      · rw [if_neg hk, if_neg hk]
/-- A fence that no line closes. -/
def openF (s : Ln) (t : List Ln) : Prop := kindL s = 4 ∧ t.dropWhile (fun x => !closesL (openL s) x) = []
theorem blockX (s : Ln) (t b : List Ln) (h : ¬ openF s t) : blockG in1 in2 s (t ++ ruleX b) = ((blockG in1 in2 s t).1, (blockG in1 in2 s t).2 ++ ruleX b) := by
  unfold blockG
  by_cases h4 : kindL s = 4
  · rw [if_pos h4, if_pos h4]
    have hd : t.dropWhile (fun x => !closesL (openL s) x) ≠ [] := fun e => h ⟨h4, e⟩
    rw [(tw_stop t hd).1, (tw_stop t hd).2]
    congr 1
    rw [List.drop_append_of_le_length (by cases hh : t.dropWhile (fun x => !closesL (openL s) x) with | nil => exact absurd hh hd | cons _ _ => simp)]
  · rw [if_neg h4, if_neg h4]
    by_cases h5 : kindL s = 5
    · rw [if_pos h5, if_pos h5]
      have h0 : (kindL [] == 5) = false := by rw [blank_nil]; rfl
      have := tw_run (p := fun x => kindL x == 5) (X := [45, 45, 45] :: [] :: b) h0 t
      unfold ruleX
      rw [this.1, this.2]
    · rw [if_neg h5, if_neg h5]
      by_cases h6 : kindL s = 6
      · rw [if_pos h6, if_pos h6]
        rw [itemsX, itemsG_fuel (t ++ ruleX b).length t.length s t (by simp) (Nat.le_refl _)]
      · rw [if_neg h6, if_neg h6]
        by_cases h8 : kindL s = 8
        · rw [if_pos h8, if_pos h8]
          have h0 : (kindL [] == 8) = false := by rw [blank_nil]; rfl
          have := tw_run (p := fun x => kindL x == 8) (X := [45, 45, 45] :: [] :: b) h0 t
          unfold ruleX
          rw [this.1, this.2]
        · rw [if_neg h8, if_neg h8]
          by_cases h2 : kindL s = 2
          · rw [if_pos h2, if_pos h2]
          · rw [if_neg h2, if_neg h2]
            by_cases h3 : kindL s = 3
            · rw [if_pos h3, if_pos h3]
            · rw [if_neg h3, if_neg h3]
/-- The Rule, and what is behind. -/
theorem blocks_rule {y : List Bl} {b : List Ln} (hy : blocksG in1 in2 b.length b = some y) : ∀ g, b.length + 2 ≤ g → ∀ l : List Ln, dropBlank l = [45, 45, 45] :: [] :: b → l.length ≤ g → blocksG in1 in2 g l = some (ruleB :: y) := by
  intro g hg l hl hlg
  obtain ⟨g, rfl⟩ : ∃ k, g = k + 1 := ⟨g - 1, by omega⟩
  rw [blocksG, hl]
  have hb : blockG in1 in2 [45, 45, 45] ([] :: b) = (some ruleB, [] :: b) := by
    unfold blockG
    rw [kind_dash]
    rfl
  simp only [hb]
  have h2 : blocksG in1 in2 g ([] :: b) = some y := by
    obtain ⟨k, rfl⟩ : ∃ k, g = k + 1 := ⟨g - 1, by omega⟩
    rw [← hy, blocksG_fuel b.length (k + 1) b (Nat.le_refl _) (by omega), blocksG, blocksG]
    have : dropBlank ([] :: b) = dropBlank b := by simp [dropBlank, blank_nil]
    rw [this]
  rw [h2]; rfl
theorem blocks_join {y : List Bl} {b : List Ln} (hy : blocksG in1 in2 b.length b = some y) : ∀ (f : Nat) (a : List Ln) (x : List Bl), a.length ≤ f → blocksG in1 in2 f a = some x → (∀ z, x.getLast? = some z → z.kind ≠ 4) →
    ∀ g, (a ++ ruleX b).length ≤ g → blocksG in1 in2 g (a ++ ruleX b) = some (x ++ ruleB :: y)
  | f, a, x, hf, hx, hz, g, hg => by
    have hlen : (a ++ ruleX b).length = a.length + b.length + 3 := by simp [ruleX]; omega
    cases hd : dropBlank a with
    | nil =>
      have hx0 : x = [] := by
        cases f with
        | zero => rw [blocksG] at hx; injection hx with hx; exact hx.symm
        | succ f => rw [blocksG, hd] at hx; injection hx with hx; exact hx.symm
      subst hx0
      refine blocks_rule hy g (by omega) _ ?_ hg
      rw [dropX, if_pos hd]
    | cons s t =>
      have hdl := drop_le a
      rw [hd] at hdl
      simp only [List.length_cons] at hdl
      obtain ⟨f, rfl⟩ : ∃ k, f = k + 1 := ⟨f - 1, by omega⟩
      obtain ⟨g, rfl⟩ : ∃ k, g = k + 1 := ⟨g - 1, by omega⟩
      rw [blocksG, hd] at hx
      simp only at hx
      have hle := blockG_le (in1 := in1) (in2 := in2) s t
      cases hb : (blockG in1 in2 s t).1 with
      | none => simp [hb] at hx
      | some bb =>
        simp only [hb] at hx
        obtain ⟨x', hx', rfl⟩ := Option.map_eq_some_iff.1 hx
        have hopen : ¬ openF s t := by
          rintro ⟨h4, hdw⟩
          have hbb : blockG in1 in2 s t = (some (fenceB s (t.takeWhile fun x => !closesL (openL s) x)), []) := by
            unfold blockG
            rw [if_pos h4, hdw]
            rfl
          rw [hbb] at hx' hb
          simp only at hx' hb
          injection hb with hb
          have : x' = [] := by
            cases f with
            | zero => rw [blocksG] at hx'; injection hx' with hx'; exact hx'.symm
            | succ f => simp [blocksG, dropBlank] at hx'; exact hx'
          subst this
          exact hz bb rfl (by rw [← hb]; rfl)
        rw [blocksG, dropX, if_neg (by rw [hd]; simp), hd]
        simp only [List.cons_append]
        rw [blockX s t b hopen]
        simp only [hb]
        have hz' : ∀ z, x'.getLast? = some z → z.kind ≠ 4 := fun z h => hz z (by
          cases x' with
          | nil => cases h
          | cons c cs => rw [List.getLast?_cons_cons]; exact h)
        rw [blocks_join hy f (blockG in1 in2 s t).2 x' (by omega) hx' hz' g (by rw [List.length_append]; rw [List.length_append] at hg; omega)]
        rfl
termination_by f => f
end
end Go.Proofs.YtlcfijkegdlfcaaGreatDoor
namespace Go.Proofs.YtlcfijkegdlfcaaGreatDoor
set_option linter.all false
set_option linter.deprecated false
/-- Lines without Blank ones at the end. -/
def stripB (l : List Ln) : List Ln := (l.reverse.dropWhile fun x => kindL x == 1).reverse
theorem stripB_nil : stripB [] = [] := rfl
theorem stripB_snoc (l : List Ln) (x : Ln) : stripB (l ++ [x]) = if kindL x = 1 then stripB l else l ++ [x] := by
  unfold stripB
  rw [List.reverse_append]
  by_cases h : kindL x = 1
  · rw [if_pos h]; simp [h]
  · rw [if_neg h]; simp [h]
theorem stripB_pre (l : List Ln) : stripB l <+: l := by
  unfold stripB
  have := List.dropWhile_suffix (fun x => kindL x == 1) (l := l.reverse)
  rw [← List.reverse_prefix] at this
  simpa using this
theorem stripB_take (l : List Ln) : l.take (stripB l).length = stripB l := (List.prefix_iff_eq_take.1 (stripB_pre l)).symm
theorem stripB_le (l : List Ln) : (stripB l).length ≤ l.length := (stripB_pre l).length_le
theorem itemSeq_strip (t : List Ln) : itemSeq t = stripB (t.takeWhile fun x => (innerL x).isSome) := rfl
/-- A line as one further on of an item. -/
def innD (x : Ln) : Ln := (innerL x).getD []
theorem itemG_eq (s : Ln) (t : List Ln) : itemG s t = (unmarkL s :: (itemSeq t).map innD, t.drop (itemSeq t).length) := rfl
/-- Going on: a line that is an item's. -/
theorem tw_more {α : Type} {p : α → Bool} {t : List α} {i : Nat} (hall : ∀ x ∈ t.take i, p x = true) (hi : i < t.length) (hp : p t[i] = true) : ∀ x ∈ t.take (i + 1), p x = true := fun x hx => by
  rw [List.take_succ_eq_append_getElem hi] at hx
  rcases List.mem_append.1 hx with hx | hx
  · exact hall x hx
  · rw [List.mem_singleton] at hx; subst hx; exact hp
theorem tw_here {α : Type} {p : α → Bool} {t : List α} {i : Nat} (hall : ∀ x ∈ t.take i, p x = true) (hend : ∀ (h : i < t.length), p t[i] = false) : t.takeWhile p = t.take i ∧ t.dropWhile p = t.drop i := by
  have e := List.take_append_drop i t
  have h1 : ∀ u : List α, (∀ x ∈ u, p x = true) → ∀ v : List α, (u ++ v).takeWhile p = u ++ v.takeWhile p ∧ (u ++ v).dropWhile p = v.dropWhile p := by
    intro u hu v
    induction u with
    | nil => simp
    | cons a u ih =>
      have := ih (fun x hx => hu x (List.mem_cons_of_mem _ hx))
      simp [hu a (by simp), this.1, this.2]
  have h2 := h1 (t.take i) hall (t.drop i)
  rw [e] at h2
  rw [h2.1, h2.2]
  by_cases h : i < t.length
  · rw [List.drop_eq_getElem_cons h, List.takeWhile_cons, List.dropWhile_cons, hend h]
    simp
  · rw [List.drop_eq_nil_of_le (by omega)]; simp
end Go.Proofs.YtlcfijkegdlfcaaGreatDoor
namespace Go.Proofs.YtlcfijkegdlfcaaGreatDoor
open Go.RowKit Go.PlainAid
set_option linter.all false
set_option linter.deprecated false
set_option maxRecDepth 100000
/-- How many lines of a kind follow. -/
def runK (k : Nat) (l : List Ln) : Nat := (l.takeWhile fun x => kindL x == k).length
theorem runK_le (k : Nat) (l : List Ln) : runK k l ≤ l.length := (List.takeWhile_sublist _).length_le
theorem runK_here {l : List Ln} {k z i : Nat} (hz : 1 ≤ z) (hi : i ≤ runK z (l.drop k)) : (i < runK z (l.drop k) ↔ hereL (l.drop (k + i)) = z) := by
  rw [← List.drop_drop]
  generalize l.drop k = t at *
  clear k l
  unfold runK at *
  induction t generalizing i with
  | nil => simp [hereL]; omega
  | cons x t ih =>
    by_cases hx : (kindL x == z) = true
    · rw [List.takeWhile_cons, if_pos hx, List.length_cons] at hi ⊢
      cases i with
      | zero => simp [hereL]; simpa using hx
      | succ i =>
        rw [List.drop_succ_cons, ← ih (by omega)]
        omega
    · rw [List.takeWhile_cons, if_neg hx] at hi ⊢
      have : i = 0 := by simpa using hi
      subst this
      simp [hereL]; simpa using hx
theorem runK_drop (z : Nat) (l : List Ln) : l.drop (runK z l) = l.dropWhile fun x => kindL x == z := by
  have h := List.takeWhile_append_dropWhile (p := fun x => kindL x == z) (l := l)
  unfold runK
  conv => lhs; arg 2; rw [← h]
  rw [List.drop_left]
theorem runK_take (z : Nat) (l : List Ln) : l.take (runK z l) = l.takeWhile fun x => kindL x == z := by
  have h := List.takeWhile_append_dropWhile (p := fun x => kindL x == z) (l := l)
  unfold runK
  conv => lhs; arg 2; rw [← h]
  rw [List.take_left]
set_option maxHeartbeats 4000000 in
theorem run_calls (b B n c k d z : Nat) (A : Option Addr) (ls : List ByteArray) (w : World) (h : Rds w b B A n c ls k d) (hz : 1 ≤ z) :
    Calls Tryz.prog 35 #[.pointer (some ⟨b, 0, none⟩), .int .i64 z] w fun e w' => ∃ A' c', e = .returned (.slice A' (runK z ((ls.map bl).drop k)) c') ∧
      Rd (· ≠ b) w' (.slice A' (runK z ((ls.map bl).drop k)) c') (((ls.drop k).take (runK z ((ls.map bl).drop k))).map D.str) ∧ Rds w' b B A n c ls (k + runK z ((ls.map bl).drop k)) d ∧ w.grownBy w' (some b) := by
  have hle := runK_le z ((ls.map bl).drop k)
  rw [List.length_drop, List.length_map, h.len] at hle
  have hst := fun i => runK_here (l := ls.map bl) (k := k) (z := z) (i := i) hz
  generalize runK z ((ls.map bl).drop k) = R at *
  have HST := Lib.hid hst
  obtain ⟨c0, c1, _, _, hb⟩ := h.r.facts
  have hkn := h.hk
  have H := Lib.hid h
  clear hst h
  have hkz := hkn
  go_enter Tryz.func35, Tryz.ntmps35
  go_wp2
  go_loopw [] (fun wr => ∃ i : Nat, i ≤ R ∧ Rds wr b B A n c ls (k + i) d ∧ w.grownBy wr (some b)) (fun wr => n - (match wr.cell? ⟨b, 1, none⟩ with | some v => (intOf v).toNat | none => 0))
  case atStart => exact ⟨0, Nat.zero_le _, H.out, World.grownBy.refl _ _⟩
  case round =>
    obtain ⟨i, hi, hr, hg⟩ := hrel
    have HR := Lib.hid hr
    have HP := Lib.hid (here_calls b B n c (k + i) d A ls wr hr)
    have hI := HST.out i hi
    have HI := Lib.hid hI
    have HG := Lib.hid hg
    have hmz := hr.r.facts.2.1
    have HMZ := Lib.hid hmz
    clear hr hI hg hmz
    generalize hereL ((ls.map bl).drop (k + i)) = KK at *
    go_wp2_with fail
    refine HP.out.mono ?_
    rintro e w1 ⟨rfl, hb1⟩
    have hr1 := HR.out.below hb1
    obtain ⟨d0, d1, _, f1, hbb⟩ := hr1.r.facts
    have hg1 := mv_trans HG.out (mv_below hb1 b)
    have HR1 := Lib.hid hr1
    have HG1 := Lib.hid hg1
    clear hr1 hg1 HG HP HR hb1
    have hmx := HR1.out.hn
    obtain ⟨M, hM⟩ : ∃ M, M = k + i := ⟨_, rfl⟩
    rw [← hM] at d1
    have hMn : M ≤ n ∧ k ≤ M := by omega
    have hcap := (rd_strs HR1.out.l).2
    have z1 : (k : Int) ≤ M := by omega
    have z2 : (M : Int) ≤ c := by omega
    have z3 : (M : Int) ≤ n := by omega
    have HM := Lib.hid hM
    clear hM
    by_cases hlt : i < R
    · have hK : KK = z := HI.out.1 hlt
      subst hK
      obtain ⟨M1, hM1⟩ : ∃ M1, M1 = M + 1 := ⟨_, rfl⟩
      have k1 : IntKind.i64.wrap ((M : Int) + 1) = (M1 : Int) := by rw [IntWalk.i64_in _ (by omega)]; omega
      have HM1 := Lib.hid hM1
      clear hM1
      go_wp2
      go_roundw
      case rel =>
        have e := HM.out
        have e1 := HM1.out
        have hm := HR1.out.set (m := M1) (by omega)
        exact ⟨i + 1, hlt, by rw [show k + (i + 1) = M1 by omega]; exact hm, mv_trans HG1.out mv_set⟩
      case measure =>
        have e := HM.out
        have e1 := HM1.out
        have hm := (HR1.out.set (m := M1) (by omega)).r.facts.2.1
        rw [HMZ.out, hm]
        simp only [intOf, Int.toNat_natCast]
        omega
    · have hK : ¬ KK = z := fun e => hlt (HI.out.2 e)
      have hKz : ((KK : Int) == (z : Int)) = false := beq_eq_false_iff_ne.2 (by omega)
      obtain rfl : i = R := by omega
      by_cases hck : c = k
      · subst hck
        go_wp2
        go_quiet (fail)
        go_wp2
        go_ret
        have e := HM.out
        have e2 : M - c = i := by omega
        have hcut := (HR1.out.l.drewN nq).cut (k := 1) (fun d hd => by obtain ⟨x, _, rfl⟩ := List.mem_map.1 hd; rfl) (a := c) (b := M) (by omega) (by omega)
        rw [e2, ← List.map_take, ← List.map_drop, List.drop_take, e2] at hcut
        refine ⟨_, _, congrArg Ending.returned (congrArg (fun q => Value.slice _ q _) e2), ?_, HR1.out.below (below_drewN (Below.refl _ _) nq), mv_trans HG1.out (mv_below (below_drewN (Below.refl _ _) nq) b)⟩
        rw [if_pos rfl, Nat.sub_self] at hcut
        first
          | exact hcut
          | (rw [← List.map_drop, ← List.map_take]; exact hcut)
      · go_wp2
        go_quiet (fail)
        go_wp2
        go_ret
        have e := HM.out
        have e2 : M - k = i := by omega
        have hcut := (HR1.out.l.drewN nq).cut (k := 1) (fun d hd => by obtain ⟨x, _, rfl⟩ := List.mem_map.1 hd; rfl) (a := k) (b := M) (by omega) (by omega)
        rw [e2, ← List.map_take, ← List.map_drop, List.drop_take, e2] at hcut
        refine ⟨_, _, congrArg Ending.returned (congrArg (fun q => Value.slice _ q _) e2), ?_, HR1.out.below (below_drewN (Below.refl _ _) nq), mv_trans HG1.out (mv_below (below_drewN (Below.refl _ _) nq) b)⟩
        rw [if_neg hck, Nat.mul_one] at hcut
        first
          | exact hcut
          | (rw [← List.map_drop, ← List.map_take]; exact hcut)
end Go.Proofs.YtlcfijkegdlfcaaGreatDoor
