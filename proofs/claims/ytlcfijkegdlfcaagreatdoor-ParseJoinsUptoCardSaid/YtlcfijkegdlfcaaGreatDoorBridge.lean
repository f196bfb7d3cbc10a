/- What an argument reads as, in these proofs' own words; its size. -/
import Derived.Test.YtlcfijkegdlfcaaGreatDoorKit
import Derived.Test.YtlcfijkegdlfcaaGreatDoorRows
import Derived.ChangeArms
import Derived.DataReads
namespace Go.Proofs.YtlcfijkegdlfcaaGreatDoor
open Go.RowKit
set_option linter.all false
set_option linter.deprecated false

mutual
/-- How much a datum holds: values and letters. -/
def D.bulk : D → Nat
  | .int _ _ => 1
  | .bool _ => 1
  | .str s => s.size + 1
  | .sl xs => D.bulks xs + 1
  | .st xs => D.bulks xs + 1
def D.bulks : List D → Nat
  | [] => 0
  | d :: ds => D.bulk d + D.bulks ds
end
theorem D.bulk_mem {d : D} : ∀ {ds : List D}, d ∈ ds → d.bulk ≤ D.bulks ds
  | x :: ds, h => by
    rw [D.bulks]
    rcases List.mem_cons.1 h with rfl | h
    · omega
    · have := D.bulk_mem h; omega
theorem D.bulk_pos (d : D) : 1 ≤ d.bulk := by cases d <;> simp only [D.bulk] <;> omega
theorem D.len_bulks : ∀ ds : List D, ds.length ≤ D.bulks ds
  | [] => by simp [D.bulks]
  | d :: ds => by
    have := D.len_bulks ds
    have := D.bulk_pos d
    rw [D.bulks, List.length_cons]
    omega
theorem D.bulks_append : ∀ a b : List D, D.bulks (a ++ b) = D.bulks a + D.bulks b
  | [], b => by simp [D.bulks]
  | x :: a, b => by rw [List.cons_append, D.bulks, D.bulks, D.bulks_append a b, Nat.add_assoc]

/-- A datum is of a type. -/
def HasTy (P : Program) : Nat → TypeId → D → Prop
  | 0, _, _ => False
  | n + 1, t, X => match P.underlying t with
    | some .bool => ∃ b, X = .bool b
    | some (.int k) => ∃ z, X = .int k z ∧ (Lit.int k z).wf = true
    | some .string => ∃ s, X = .str s ∧ s.size ≤ maxLen
    | some (.slice e) => ∃ xs, X = .sl xs ∧ ∀ x ∈ xs, HasTy P n e x
    | some (.struct fs) => ∃ ys, X = .st ys ∧ ys.length = fs.size ∧ ∀ (i : Nat) f y, fs[i]? = some f → ys[i]? = some y → HasTy P n f.type y
    | _ => False
def layoutB (P : Program) : List Field → Nat → Nat → Bool
  | [], o, n => o == n
  | f :: fs, o, n => f.offset == o && layoutB P fs (o + P.cellsOf f.type) n
/-- Some types, closed: whole numbers, bools, texts, slices, structs. -/
def plainTypes (P : Program) (T : List TypeId) : Bool := T.all fun t => match P.underlying t with
  | some .bool => true
  | some (.int _) => true
  | some .string => true
  | some (.slice e) => T.contains e && decide (0 < P.cellsOf e)
  | some (.struct fs) => fs.toList.all (fun f => T.contains f.type) && layoutB P fs.toList 0 (P.cellsOf t)
  | _ => false

theorem choose_list {α : Type} {p : Nat → α → Prop} : ∀ n : Nat, (∀ i, i < n → ∃ x, p i x) → ∃ l : List α, l.length = n ∧ ∀ i x, l[i]? = some x → p i x
  | 0, _ => ⟨[], rfl, by simp⟩
  | n + 1, h => by
    obtain ⟨l, hl, hp⟩ := choose_list n (fun i hi => h i (by omega))
    obtain ⟨x, hx⟩ := h n (by omega)
    refine ⟨l ++ [x], by simp [hl], fun i y hy => ?_⟩
    by_cases hi : i < n
    · rw [List.getElem?_append_left (by omega)] at hy; exact hp i y hy
    · by_cases e : i = n
      · subst e
        rw [List.getElem?_append_right (by omega), hl, Nat.sub_self] at hy
        simp at hy; subst hy; exact hx
      · rw [List.getElem?_eq_none (by simp; omega)] at hy; cases hy
theorem flat_get {α : Type} {k : Nat} : ∀ {l : List (List α)}, (∀ x ∈ l, x.length = k) → ∀ {j : Nat} {u : α}, l.flatten[j]? = some u → ∃ (i r : Nat) (x : List α), j = i * k + r ∧ l[i]? = some x ∧ x[r]? = some u
  | [], _, _, _, h => by simp at h
  | x :: l, hl, j, u, h => by
    have hx := hl x (by simp)
    rw [List.flatten_cons] at h
    by_cases hj : j < k
    · rw [List.getElem?_append_left (by omega)] at h
      exact ⟨0, j, x, by omega, rfl, h⟩
    · rw [List.getElem?_append_right (by omega), hx] at h
      obtain ⟨i, r, y, e, h1, h2⟩ := flat_get (fun y hy => hl y (by simp [hy])) h
      exact ⟨i + 1, r, y, by rw [Nat.add_mul]; omega, by simpa using h1, h2⟩
theorem RepAll.zip {ok : Nat → Prop} {w : World} : ∀ {ds : List D} {l : List (List Value)}, ds.length = l.length → (∀ (i : Nat) d c, ds[i]? = some d → l[i]? = some c → Rep ok w d c) → RepAll ok w ds l.flatten
  | [], [], _, _ => by rw [RepAll]; rfl
  | d :: ds, c :: l, h, hp => by
    rw [RepAll, List.flatten_cons]
    exact ⟨c, l.flatten, rfl, hp 0 d c rfl rfl, RepAll.zip (by simpa using h) (fun i d' c' h1 h2 => hp (i + 1) d' c' (by simpa using h1) (by simpa using h2))⟩
theorem RepAll.fields {ok : Nat → Prop} {w : World} {P : Program} : ∀ (fs : List Field) (o n : Nat) (ds : List D) (cs : List Value), layoutB P fs o n = true → o + cs.length = n → ds.length = fs.length →
    (∀ (i : Nat) f d, fs[i]? = some f → ds[i]? = some d → o ≤ f.offset ∧ Rep ok w d ((cs.drop (f.offset - o)).take (P.cellsOf f.type))) → (∀ (i : Nat) f, fs[i]? = some f → f.offset - o + P.cellsOf f.type ≤ cs.length) → RepAll ok w ds cs
  | [], o, n, [], cs, hl, hn, _, _, _ => by
    rw [RepAll]
    simp only [layoutB, beq_iff_eq] at hl
    exact List.eq_nil_of_length_eq_zero (by omega)
  | f :: fs, o, n, d :: ds, cs, hl, hn, hlen, hp, hb => by
    simp only [layoutB, Bool.and_eq_true, beq_iff_eq] at hl
    obtain ⟨h0, hl⟩ := hl
    have h1 := (hp 0 f d rfl rfl).2
    have hb0 := hb 0 f rfl
    rw [h0, Nat.sub_self, List.drop_zero] at h1
    rw [h0, Nat.sub_self, Nat.zero_add] at hb0
    rw [RepAll]
    refine ⟨cs.take (P.cellsOf f.type), cs.drop (P.cellsOf f.type), (List.take_append_drop _ _).symm, h1, ?_⟩
    have hoff : ∀ (fs : List Field) (o : Nat), layoutB P fs o n = true → ∀ (i : Nat) f, fs[i]? = some f → o ≤ f.offset ∧ f.offset + P.cellsOf f.type ≤ n := by
      have mono : ∀ (fs : List Field) (o : Nat), layoutB P fs o n = true → o ≤ n := by
        intro fs
        induction fs with
        | nil => intro o h; simp only [layoutB, beq_iff_eq] at h; omega
        | cons g fs ih => intro o h; simp only [layoutB, Bool.and_eq_true, beq_iff_eq] at h; have := ih _ h.2; omega
      intro fs
      induction fs with
      | nil => intro o _ i f h; simp at h
      | cons g fs ih =>
        intro o h i f hf
        simp only [layoutB, Bool.and_eq_true, beq_iff_eq] at h
        cases i with
        | zero =>
          simp at hf; subst hf
          have := mono _ _ h.2
          omega
        | succ i =>
          have := ih _ h.2 i f (by simpa using hf)
          omega
    refine RepAll.fields fs (o + P.cellsOf f.type) n ds _ hl (by rw [List.length_drop]; omega) (by simpa using hlen) (fun i g y hg hy => ?_) (fun i g hg => ?_)
    · have h2 := (hp (i + 1) g y (by simpa using hg) (by simpa using hy)).2
      have h3 := (hoff fs _ hl i g hg).1
      refine ⟨h3, ?_⟩
      rw [List.drop_drop]
      have : P.cellsOf f.type + (g.offset - (o + P.cellsOf f.type)) = g.offset - o := by omega
      rw [this]; exact h2
    · have h3 := hoff fs _ hl i g hg
      rw [List.length_drop]
      omega
  | [], _, _, _ :: _, _, _, _, h, _, _ => by simp at h
  | _ :: _, _, _, [], _, _, _, h, _, _ => by simp at h
theorem D.bulks_le {H : Type} : ∀ (Xs : List D) (ds : List (DataW H)), Xs.length = ds.length → (∀ (i : Nat) X d, Xs[i]? = some X → ds[i]? = some d → X.bulk ≤ Rows.uptoBulk d) → D.bulks Xs ≤ Rows.uptoBulkAll ds
  | [], [], _, _ => by simp [D.bulks]
  | X :: Xs, d :: ds, h, hp => by
    have h1 := hp 0 X d rfl rfl
    have h2 := D.bulks_le Xs ds (by simpa using h) (fun i X' d' a b => hp (i + 1) X' d' (by simpa using a) (by simpa using b))
    rw [D.bulks, Rows.uptoBulkAll]
    omega
/-- WHAT READS AS DATA READS IN THESE PROOFS' WORDS. -/
theorem trod_rep {H : Type} {enc : TypeId × Value → H} {P : Program} {w : World} {base : Nat} {spare : Nat → Bool} {held : Bool} {T : List TypeId} (hT : plainTypes P T = true) :
    ∀ (fuel : Nat) (t : TypeId) (cs : List Value) (x : DataW H × List MemPlace), t ∈ T → DataW.trod enc P w base spare held fuel t cs = some x →
      ∃ X : D, Rep (· < w.heap.size) w X cs ∧ HasTy P fuel t X ∧ X.bulk ≤ Rows.uptoBulk x.1 := by
  intro fuel
  induction fuel with
  | zero => intro t cs x _ h; simp [DataW.trod] at h
  | succ fuel ih =>
    intro t cs x ht h
    have hp := List.all_eq_true.1 hT t ht
    cases hu : P.underlying t with
    | none => rw [hu] at hp; cases hp
    | some ty =>
      rw [hu] at hp
      cases ty with
      | bool =>
        obtain ⟨b, rfl, rfl⟩ := DataW.trod_bool hu h
        exact ⟨.bool b, by rw [Rep], by rw [HasTy, hu]; exact ⟨b, rfl⟩, by simp [D.bulk, Rows.uptoBulk]⟩
      | int k =>
        obtain ⟨z, rfl, rfl, hw⟩ := DataW.trod_int hu h
        exact ⟨.int k z, by rw [Rep], by rw [HasTy, hu]; exact ⟨z, rfl, hw⟩, by simp [D.bulk, Rows.uptoBulk]⟩
      | string =>
        obtain ⟨s, rfl, rfl, hs⟩ := DataW.trod_string hu h
        exact ⟨.str s, by rw [Rep], by rw [HasTy, hu]; exact ⟨s, rfl, hs⟩, by simp [D.bulk, Rows.uptoBulk]⟩
      | slice e =>
        simp only [Bool.and_eq_true, decide_eq_true_eq] at hp
        have he : e ∈ T := by simpa using hp.1
        rcases DataW.trod_slice hu h with ⟨rfl, rfl⟩ | ⟨a, len, cap, elems, rest, n, hn, rfl, rfl, hb, hl, hm, hlen, hel, hsp, hns⟩
        · exact ⟨.sl [], by rw [Rep]; exact ⟨none, 0, rfl, Nat.le_refl _, by simp, fun _ => rfl, fun h => absurd h (by simp)⟩, by rw [HasTy, hu]; exact ⟨[], rfl, by simp⟩, by simp [D.bulk, D.bulks, Rows.uptoBulk]⟩
        · injection hn with hn
          subst hn
          obtain ⟨Y, hY, hYp⟩ := choose_list (p := fun i (y : List Value × D) => y.1.length = P.cellsOf e ∧ (∀ r, r < P.cellsOf e → w.cell? ((a.add (i * P.cellsOf e)).add r) = y.1[r]?) ∧ Rep (· < w.heap.size) w y.2 y.1 ∧ HasTy P fuel e y.2 ∧ ∀ d, (elems.map (·.1))[i]? = some d → y.2.bulk ≤ Rows.uptoBulk d) len (fun i hi => by
            have hi' : i < elems.length := by omega
            have h1 := hel i hi
            rw [List.getElem?_eq_getElem hi'] at h1
            cases hc : w.cells? base (a.add (i * P.cellsOf e)) (P.cellsOf e) with
            | none => rw [hc] at h1; simp at h1
            | some ci =>
              rw [hc, Option.bind_some] at h1
              obtain ⟨_, c1, c2⟩ := World.cells?_some hc
              obtain ⟨X, r1, r2, r3⟩ := ih e ci _ he h1
              refine ⟨(ci, X), c1, c2, r1, r2, fun d hd => ?_⟩
              rw [List.getElem?_map, List.getElem?_eq_getElem hi'] at hd
              simp at hd
              subst hd
              exact r3)
          have hcell : ∀ (j : Nat) u, (Y.map (·.1)).flatten[j]? = some u → w.cell? (a.add j) = some u := by
            intro j u hj
            obtain ⟨i, r, x, rfl, h1, h2⟩ := flat_get (k := P.cellsOf e) (fun x hx => by
              obtain ⟨y, hy, rfl⟩ := List.mem_map.1 hx
              obtain ⟨i, hi⟩ := List.getElem?_of_mem hy
              exact (hYp i y hi).1) hj
            rw [List.getElem?_map] at h1
            cases hy : Y[i]? with
            | none => rw [hy] at h1; cases h1
            | some y =>
              rw [hy] at h1
              simp at h1
              subst h1
              obtain ⟨g1, g2, _⟩ := hYp i y hy
              have hr : r < P.cellsOf e := by have := (List.getElem?_eq_some_iff.1 h2).1; omega
              have := g2 r hr
              rw [h2] at this
              rw [← this]
              congr 1
              unfold Addr.add
              by_cases h5 : i * P.cellsOf e = 0 <;> by_cases h6 : r = 0
              · simp [h5, h6]
              · simp [h5, h6]
              · subst h6; simp [h5]
              · simp [h5, h6]; omega
          refine ⟨.sl (Y.map (·.2)), ?_, ?_, ?_⟩
          · rw [Rep]
            refine ⟨some a, cap, by simp [hY], by simp [hY]; exact hl, by simp [hY]; unfold maxLen at hm; omega, fun h => (by cases h), fun h0 => ?_⟩
            simp only [List.length_map, hY] at h0
            have hy0 : ∃ y, Y[0]? = some y := ⟨Y[0], List.getElem?_eq_getElem (by omega)⟩
            obtain ⟨y, hy⟩ := hy0
            obtain ⟨g1, g2, _⟩ := hYp 0 y hy
            have hc0 := g2 0 hp.2
            have h00 : y.1[0]? = some (y.1[0]'(by omega)) := List.getElem?_eq_getElem (by omega)
            rw [h00] at hc0
            simp only [Nat.zero_mul] at hc0
            have ha0 : (a.add 0).add 0 = a := by simp [Addr.add]
            rw [ha0] at hc0
            have hspot : a.spot = none := by
              unfold World.cell? at hc0
              split at hc0
              · cases hs : a.spot with
                | none => rfl
                | some s => rw [hs] at hc0; simp at hc0
              · cases hc0
            have hlt : a.block < w.heap.size := World.block_lt_of_cell? w a hc0
            refine ⟨a.block, a.off, (Y.map (·.1)).flatten, by rw [← hspot], hlt, hlt, RepAll.zip (by simp) (fun i d c h1 h2 => ?_), fun j u hu => ?_⟩
            · rw [List.getElem?_map] at h1 h2
              cases hy : Y[i]? with
              | none => rw [hy] at h1; cases h1
              | some y' =>
                rw [hy] at h1 h2
                simp at h1 h2
                subst h1; subst h2
                exact (hYp i y' hy).2.2.1
            · have := hcell j u hu
              unfold Addr.add at this
              split at this
              · rename_i h7; subst h7; rw [← this]; congr 1; cases a; simp at hspot; subst hspot; rfl
              · exact this
          · rw [HasTy, hu]
            refine ⟨_, rfl, fun X hX => ?_⟩
            obtain ⟨y, hy, rfl⟩ := List.mem_map.1 hX
            obtain ⟨i, hi⟩ := List.getElem?_of_mem hy
            exact (hYp i y hi).2.2.2.1
          · simp only [D.bulk, Rows.uptoBulk]
            have := D.bulks_le (Y.map (·.2)) (elems.map (·.1)) (by simp [hY, hlen]) (fun i X d h1 h2 => by
              rw [List.getElem?_map] at h1
              cases hy : Y[i]? with
              | none => rw [hy] at h1; cases h1
              | some y' => rw [hy] at h1; simp at h1; subst h1; exact (hYp i y' hy).2.2.2.2 d h2)
            omega
      | struct fs =>
        simp only [Bool.and_eq_true, List.all_eq_true] at hp
        obtain ⟨xs, n, hn, rfl, hcl, hxl, hx⟩ := DataW.trod_struct hu h
        injection hn with hn
        subst hn
        obtain ⟨Y, hY, hYp⟩ := choose_list (p := fun i (y : D) => ∀ f, fs[i]? = some f → Rep (· < w.heap.size) w y ((cs.drop f.offset).take (P.cellsOf f.type)) ∧ HasTy P fuel f.type y ∧ ∀ d, (xs.map (·.1))[i]? = some d → y.bulk ≤ Rows.uptoBulk d) fs.size (fun i hi => by
          have hf : fs[i]? = some fs[i] := Array.getElem?_eq_getElem hi
          have h1 := hx i _ hf
          rw [List.getElem?_eq_getElem (by omega)] at h1
          have hin : fs[i].type ∈ T := by
            have := hp.1 fs[i] (by simp)
            simpa using this
          obtain ⟨X, r1, r2, r3⟩ := ih _ _ _ hin h1
          refine ⟨X, fun f h2 => ?_⟩
          rw [hf] at h2
          injection h2 with h2
          subst h2
          refine ⟨r1, r2, fun d hd => ?_⟩
          rw [List.getElem?_map, List.getElem?_eq_getElem (by omega)] at hd
          simp at hd
          subst hd
          exact r3)
        refine ⟨.st Y, ?_, ?_, ?_⟩
        · rw [Rep]
          have hoff : ∀ (l : List Field) (o : Nat), layoutB P l o (P.cellsOf t) = true → ∀ (i : Nat) f, l[i]? = some f → f.offset + P.cellsOf f.type ≤ P.cellsOf t := by
            have mono : ∀ (l : List Field) (o : Nat), layoutB P l o (P.cellsOf t) = true → o ≤ P.cellsOf t := by
              intro l
              induction l with
              | nil => intro o h; simp only [layoutB, beq_iff_eq] at h; omega
              | cons g l ih => intro o h; simp only [layoutB, Bool.and_eq_true, beq_iff_eq] at h; have := ih _ h.2; omega
            intro l
            induction l with
            | nil => intro o _ i f h; simp at h
            | cons g l ih =>
              intro o h i f hf
              simp only [layoutB, Bool.and_eq_true, beq_iff_eq] at h
              cases i with
              | zero => simp at hf; subst hf; have := mono _ _ h.2; omega
              | succ i => exact ih _ h.2 i f (by simpa using hf)
          refine RepAll.fields fs.toList 0 (P.cellsOf t) Y cs hp.2 (by omega) (by simp [hY]) (fun i f d hf hd => ⟨Nat.zero_le _, ?_⟩) (fun i f hf => ?_)
          · rw [Nat.sub_zero]
            exact (hYp i d hd f (by simpa using hf)).1
          · rw [Nat.sub_zero, hcl]
            exact hoff fs.toList 0 hp.2 i f hf
        · rw [HasTy, hu]
          exact ⟨Y, rfl, hY, fun i f y hf hy => (hYp i y hy f hf).2.1⟩
        · simp only [D.bulk, Rows.uptoBulk]
          have := D.bulks_le Y (xs.map (·.1)) (by simp [hY, hxl]) (fun i X d h1 h2 => by
            have hi : i < fs.size := by have := (List.getElem?_eq_some_iff.1 h1).1; omega
            exact (hYp i X h1 _ (Array.getElem?_eq_getElem hi)).2.2 d h2)
          omega
      | _ => cases hp
end Go.Proofs.YtlcfijkegdlfcaaGreatDoor
