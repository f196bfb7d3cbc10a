/- Words for the walks of words: slices written out, a map of texts. No program in it. -/
import Derived.Test.YtnoloihdcmgbaaaIds3
import Derived.Test.YtnoloihdcmgbaaaMap
import Derived.Test.YtnoloihdcmgbaaaNat
import Derived.Maps.OwnSet
namespace Go.Proofs.Ytnoloihdcmgbaaa
open Go.RowKit Go.PlainAid Go.Maps
set_option linter.all false
set_option linter.deprecated false
/-- A slice that is written out: a new block. -/
theorem Rd.lit {w : World} {t : TypeId} {ds : List D} {cs : List Value} (hr : RepAll (· < w.heap.size) w ds cs) (hl : ds.length ≤ 9223372036854775807) :
    Rd (· < (w.alloc (.cells cs.toArray t)).heap.size) (w.alloc (.cells cs.toArray t)) (.slice (some ⟨w.heap.size, 0, none⟩) ds.length ds.length) ds := by
  unfold Rd
  rw [Rep]
  refine ⟨_, ds.length, rfl, Nat.le_refl _, hl, fun h => (by cases h), fun hp => ⟨w.heap.size, 0, cs, rfl, by simp, by simp, ?_, fun j u hu => ?_⟩⟩
  · exact hr.step (fun k hk _ => Below.heap_alloc w _ k hk) (fun k hk _ => by simp; omega)
  · rw [Nat.zero_add, cell_of_row _ _ j _ _ _ (heap_alloc_new w (.cells cs.toArray t))]
    simpa using hu
theorem RepAll.cons' {ok : Nat → Prop} {w : World} {d : D} {v : Value} {ds : List D} {cs : List Value} (h : Rep ok w d [v]) (h' : RepAll ok w ds cs) : RepAll ok w (d :: ds) (v :: cs) := by
  rw [RepAll]; exact ⟨[v], cs, rfl, h, h'⟩
theorem RepAll.nil' {ok : Nat → Prop} {w : World} : RepAll ok w [] [] := by rw [RepAll]
/-- A map of texts that says, at the number of each of some texts, that text. -/
def Says (all ss : List ByteArray) (D : DataW Unit) : Prop := IsMap D ∧ ∀ s ∈ ss, D.atKey (.int .i64 (idOf all s : Nat)) (.lit (.string [])) = .lit (.string s.data.toList)
theorem Says.put {all ss : List ByteArray} {D : DataW Unit} (h : Says all ss D) (hs : ∀ s ∈ ss, s ∈ all) {x : ByteArray} (hx : x ∈ all) : Says all (ss ++ [x]) (D.put (.int .i64 (idOf all x : Nat)) (.lit (.string x.data.toList))) := by
  have hk : ∀ s, WideAt.IsKeyLit (.int .i64 (idOf all s : Nat)) := fun s => trivial
  refine ⟨h.1.put _ _, fun s hm => ?_⟩
  by_cases e : idOf all s = idOf all x
  · have hsx : s = x := by
      rcases List.mem_append.1 hm with hm | hm
      · exact idOf_inj (hs s hm) hx e
      · simpa using hm
    subst hsx
    exact atKey_put_same h.1 (hk _) _ _
  · rw [atKey_put_other (fun e' => e (by injection e' with _ e'; omega))]
    rcases List.mem_append.1 hm with hm | hm
    · exact h.2 s hm
    · exact absurd (by rw [List.mem_singleton.1 hm]) e
theorem idOf_lt {all : List ByteArray} {s : ByteArray} (hs : s ∈ all) : idOf all s < all.length := by
  have h := idOf_spec hs
  have h1 := (List.getElem?_eq_some_iff.1 h).1
  have h2 := (uniq_spec all).2.2
  omega
/-- The slice of whole numbers at a place of a slice of such. -/
theorem Rd.isl_at {ok : Nat → Prop} {w : World} {v : Value} {k : IntKind} {zss : List (List Int)} (h : Rd ok w v (zss.map fun z => D.sl (z.map (D.int k)))) {i : Nat} (hi : i < zss.length) :
    ∃ b o c u, v = .slice (some ⟨b, o, none⟩) zss.length c ∧ ok b ∧ b < w.heap.size ∧ w.cell? ⟨b, o + i, none⟩ = some u ∧ Rd ok w u (zss[i].map (D.int k)) := by
  obtain ⟨b, o, c, cs, hv, hb, hlt, hr, hc⟩ := h.get (k := 1) (i := i) (fun d hd => by obtain ⟨x, _, rfl⟩ := List.mem_map.1 hd; rfl) (by simpa using hi)
  simp only [List.getElem_map, List.length_map] at hr hv
  have hr' := hr
  rw [Rep] at hr'
  obtain ⟨A, cc, rfl, _⟩ := hr'
  exact ⟨b, o, c, _, hv, hb, hlt, by have := hc 0 _ rfl; simpa using this, hr⟩
/-- The numbers of a list. -/
def nums (all l : List ByteArray) : List Int := l.map fun s => (idOf all s : Int)
theorem ids_nums (all : List ByteArray) (lss : List (List ByteArray)) : lss.map (idsD all) = (lss.map (nums all)).map fun z => D.sl (z.map (D.int .i64)) := by
  rw [List.map_map]
  apply List.map_congr_left
  intro l _
  simp [idsD, nums, List.map_map, Function.comp_def]
/-- A reading in a world of the same heap. -/
theorem Rd.at_heap {ok : Nat → Prop} {w W : World} {v : Value} {ds : List D} (h : Rd ok w v ds) (e : W.heap = w.heap) (hk : ∀ k, ok k → k < w.heap.size) : Rd (· < W.heap.size) W v ds := h.step (fun _ _ _ => by rw [e]) (fun k hk' _ => by rw [e]; exact hk k hk')
/-- A slice of three slices of whole numbers. -/
theorem Rd.three {ok : Nat → Prop} {w : World} {v : Value} {k : IntKind} {x y z : List Int} (h : Rd ok w v ([x, y, z].map fun z => D.sl (z.map (D.int k)))) :
    ∃ g o c u0 u1 u2, v = .slice (some ⟨g, o, none⟩) 3 c ∧ 3 ≤ c ∧ ok g ∧ g < w.heap.size ∧ w.cell? ⟨g, o, none⟩ = some u0 ∧ w.cell? ⟨g, o + 1, none⟩ = some u1 ∧ w.cell? ⟨g, o + 2, none⟩ = some u2 ∧
      Rd ok w u0 (x.map (D.int k)) ∧ Rd ok w u1 (y.map (D.int k)) ∧ Rd ok w u2 (z.map (D.int k)) := by
  obtain ⟨A0, c0, hv0, hcc, _⟩ := h.form
  obtain ⟨g, o, c, u0, hv, hg, hl, h0, r0⟩ := h.isl_at (i := 0) (by simp)
  obtain ⟨g1, o1, c1, u1, hv1, _, _, h1, r1⟩ := h.isl_at (i := 1) (by simp)
  obtain ⟨g2, o2, c2, u2, hv2, _, _, h2, r2⟩ := h.isl_at (i := 2) (by simp)
  rw [hv] at hv1 hv2 hv0
  injection hv1 with e1 _ _
  injection hv2 with e2 _ _
  injection e1 with e1
  injection e2 with e2
  injection e1 with e3 e4
  injection e2 with e5 e6
  subst e3; subst e4; subst e5; subst e6
  injection hv0 with _ _ e7
  exact ⟨g, o, c, u0, u1, u2, hv, by simp at hcc; omega, hg, hl, h0, h1, h2, r0, r1, r2⟩
theorem nums_eq (all l : List ByteArray) : nums all l = l.map fun s => (idOf all s : Int) := rfl
theorem apart_id (all : List ByteArray) : Apart (fun s : ByteArray => (idOf all s : Int)) (· ∈ all) := fun x y hx hy h => idOf_inj hx hy (by have h' : (idOf all x : Int) = (idOf all y : Int) := h; omega)
theorem merge_nums {all b o t : List ByteArray} (hb : ∀ s ∈ b, s ∈ all) (ho : ∀ s ∈ o, s ∈ all) (ht : ∀ s ∈ t, s ∈ all) : mergeL (nums all b) (nums all o) (nums all t) = (mergeL b o t).map (nums all) := by
  rw [nums_eq, nums_eq, nums_eq, mergeL_map (apart_id all) hb ho ht]
  rfl
theorem map_below {H : Type} {P : Program} {k : TypeId} {R : Value → Option (DataW H × List MemPlace)} {w w' : World} {b n : Nat} {D : DataW H} (h : w.ownsMap P k R b n D) (hb : Below w.heap.size w w') : w'.ownsMap P k R b n D := by
  have hlt := h.lt
  obtain ⟨es, clock, h0, F, hs, hD⟩ := h
  exact ⟨es, clock, (hb.block b hlt).trans h0, F, hs, hD⟩
theorem str_of_list {c s : ByteArray} (h : (DataW.lit (.string s.data.toList) : DataW Unit) = .lit (.string c.data.toList)) : c = s := by
  injection h with h
  injection h with h
  exact ByteArray.ext (Array.toList_inj.1 h.symm)
theorem tfl_succ {α : Type} (lss : List (List α)) {i : Nat} (hi : i < lss.length) : tfl lss (i + 1) = tfl lss i ++ lss[i] ∧ (tfl lss i).length + lss[i].length ≤ lss.flatten.length := flat_take lss hi
end Go.Proofs.Ytnoloihdcmgbaaa
