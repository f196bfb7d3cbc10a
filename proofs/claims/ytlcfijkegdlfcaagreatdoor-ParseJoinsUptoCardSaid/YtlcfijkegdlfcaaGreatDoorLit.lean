/- Literal slices, and what they read as. No program in it. -/
import Derived.Test.YtlcfijkegdlfcaaGreatDoorTree
import Derived.PlainAid
namespace Go.Proofs.YtlcfijkegdlfcaaGreatDoor
open Go.RowKit Go.PlainAid
set_option linter.all false
set_option linter.deprecated false
set_option maxRecDepth 100000
theorem Rd.lit' {w W : World} {t : TypeId} {ds : List D} {cs : List Value} (hr : RepAll (· < w.heap.size) w ds cs) (hl : ds.length ≤ 9223372036854775807) (hW : W = w.alloc (.cells cs.toArray t)) : Rd (· < W.heap.size) W (.slice (some ⟨w.heap.size, 0, none⟩) ds.length ds.length) ds := by
  subst hW
  unfold Rd
  rw [Rep]
  refine ⟨_, ds.length, rfl, Nat.le_refl _, hl, fun h => (by cases h), fun hp => ⟨w.heap.size, 0, cs, rfl, by simp, by simp, ?_, fun j u hu => ?_⟩⟩
  · exact hr.step (fun k hk _ => Below.heap_alloc w _ k hk) (fun k hk _ => by simp; omega)
  · rw [Nat.zero_add, cell_of_row _ _ j _ _ _ (heap_alloc_new w (.cells cs.toArray t))]
    simpa using hu
theorem repall_cons {ok : Nat → Prop} {w : World} {d : D} {v : Value} {ds : List D} {cs : List Value} (h : Rep ok w d [v]) (h' : RepAll ok w ds cs) : RepAll ok w (d :: ds) (v :: cs) := by
  rw [RepAll]; exact ⟨[v], cs, rfl, h, h'⟩
theorem repall_nil {ok : Nat → Prop} {w : World} : RepAll ok w [] [] := by rw [RepAll]
theorem rep_nilsl {ok : Nat → Prop} {w : World} : Rep ok w (.sl []) [.slice none 0 0] := Rd.nil ok w
/-- A block, from its cells. -/
theorem rep_bl_mk {ok : Nat → Prop} {w : World} {k n : Int} {i : ByteArray} {ls : List ByteArray} {sp : List Sp} {ks : List Bl} {u v y : Value} (h1 : Rd ok w u (ls.map D.str)) (h2 : Rd ok w v (dSps sp)) (h3 : Rd ok w y (dBls ks)) :
    Rep ok w (dBl (.mk k n i ls sp ks)) [.int .i64 k, .int .i64 n, .string i, u, v, y] := by
  rw [dBl, Rep]
  exact repall_cons (by rw [Rep]) (repall_cons (by rw [Rep]) (repall_cons (by rw [Rep]) (repall_cons h1 (repall_cons h2 (repall_cons h3 repall_nil)))))
theorem rep_slv {ok : Nat → Prop} {w : World} {ds : List D} {v : Value} (h : Rd ok w v ds) : Rep ok w (.sl ds) [v] := h
/-- Two slices in a slice. -/
theorem rd_two {ok : Nat → Prop} {w : World} {V : Option Addr} {n c : Nat} {X Y : List D} (h : Rd ok w (.slice V n c) [.sl X, .sl Y]) :
    ∃ b o u u', V = some ⟨b, o, none⟩ ∧ w.cell? ⟨b, o, none⟩ = some u ∧ w.cell? ⟨b, o + 1, none⟩ = some u' ∧ Rd ok w u X ∧ Rd ok w u' Y := by
  obtain ⟨b, o, c', cs, hv, _, _, hr, hc⟩ := h.get (k := 1) (i := 0) (fun d hd => by simp at hd; rcases hd with rfl | rfl <;> rfl) (by simp)
  obtain ⟨b', o', c'', cs', hv', _, _, hr', hc'⟩ := h.get (k := 1) (i := 1) (fun d hd => by simp at hd; rcases hd with rfl | rfl <;> rfl) (by simp)
  obtain ⟨hA, _, _⟩ := Value.slice.inj hv
  obtain ⟨hA', _, _⟩ := Value.slice.inj hv'
  rw [hA] at hA'
  injection hA' with e
  injection e with e1 e2
  subst e1; subst e2
  obtain ⟨u, rfl, hu⟩ := rep_sl hr
  obtain ⟨u', rfl, hu'⟩ := rep_sl hr'
  exact ⟨b, o, u, u', hA, by simpa using hc 0 _ rfl, by simpa using hc' 0 _ rfl, hu, hu'⟩
theorem two_old (w : World) (a b : Obj) : ((w.alloc a).alloc b).heap[w.heap.size]? = some a := (Below.heap_alloc _ _ _ (by simp)).trans (World.alloc_heap_new w a)
theorem two_new (w : World) (a b : Obj) : ((w.alloc a).alloc b).heap[w.heap.size + 1]? = some b := by
  have := World.alloc_heap_new (w.alloc a) b
  simpa using this
/-- The cells of a box of six. -/
theorem six {w : World} {b : Nat} {v0 v1 v2 v3 v4 v5 : Value} {t : TypeId} (h : w.heap[b]? = some (.cells #[v0, v1, v2, v3, v4, v5] t (0, 0))) :
    w.cell? ⟨b, 0, none⟩ = some v0 ∧ w.cell? ⟨b, 1, none⟩ = some v1 ∧ w.cell? ⟨b, 2, none⟩ = some v2 ∧ w.cell? ⟨b, 3, none⟩ = some v3 ∧ w.cell? ⟨b, 4, none⟩ = some v4 ∧ w.cell? ⟨b, 5, none⟩ = some v5 :=
  ⟨(row_facts h 0 rfl).1, (row_facts h 1 rfl).1, (row_facts h 2 rfl).1, (row_facts h 3 rfl).1, (row_facts h 4 rfl).1, (row_facts h 5 rfl).1⟩
/-- A block alone in a slice. -/
theorem lit_bl {w : World} {t : TypeId} {k n : Int} {s : ByteArray} {ls : List ByteArray} {sp : List Sp} {l : List Bl} {u v y : Value} (h1 : Rd (· < w.heap.size) w u (ls.map D.str)) (h2 : Rd (· < w.heap.size) w v (dSps sp)) (h3 : Rd (· < w.heap.size) w y (dBls l)) :
    Rd (· < (w.alloc (.cells #[.int .i64 k, .int .i64 n, .string s, u, v, y] t)).heap.size) (w.alloc (.cells #[.int .i64 k, .int .i64 n, .string s, u, v, y] t)) (.slice (some ⟨w.heap.size, 0, none⟩) 1 1) (dBls [.mk k n s ls sp l]) :=
  Rd.lit' (t := t) (ds := [dBl (.mk k n s ls sp l)]) (cs := [.int .i64 k, .int .i64 n, .string s, u, v, y]) (RepAll.single (rep_bl_mk h1 h2 h3)) (by simp) rfl
end Go.Proofs.YtlcfijkegdlfcaaGreatDoor
