/- The reader of lines: how it lies, and what a walk keeps of it. -/
import Derived.Test.YtlcfijkegdlfcaaGreatDoorKind2
import Derived.Test.YtlcfijkegdlfcaaGreatDoorOwn
import Derived.StillTailTactics
namespace Go.Proofs.YtlcfijkegdlfcaaGreatDoor
open Go.RowKit Go.PlainAid
set_option linter.all false
set_option linter.deprecated false
set_option maxRecDepth 100000
/-- A reader of lines in block b. -/
def Rdr (w : World) (b : Nat) (v : Value) (k d : Nat) : Prop := w.heap[b]? = some (.cells #[v, .int .i64 k, .int .i64 d] 59 (0, 0))
theorem Rdr.facts {w : World} {b k d : Nat} {v : Value} (h : Rdr w b v k d) : w.cell? ⟨b, 0, none⟩ = some v ∧ w.cell? ⟨b, 1, none⟩ = some (.int .i64 k) ∧ w.cell? ⟨b, 2, none⟩ = some (.int .i64 d) ∧ w.frozen? ⟨b, 1, none⟩ = false ∧ b < w.heap.size :=
  ⟨(cell_of_row w b 0 _ _ _ h).trans rfl, (cell_of_row w b 1 _ _ _ h).trans rfl, (cell_of_row w b 2 _ _ _ h).trans rfl, frozen_of_row w b 1 _ _ h, (Array.getElem?_eq_some_iff.1 h).1⟩
theorem Rdr.set {w : World} {b k d : Nat} {v : Value} (h : Rdr w b v k d) (m : Nat) : Rdr (w.setCell ⟨b, 1, none⟩ (.int .i64 m)) b v m d := heap_setCell_same w b 1 _ _ _ h
theorem Rdr.below {w w' : World} {b k d : Nat} {v : Value} (h : Rdr w b v k d) (hb : Below w.heap.size w w') : Rdr w' b v k d := (hb.block b (Array.getElem?_eq_some_iff.1 h).1).trans h
/-- All stays below, but for block b. -/
theorem mv_below {w w' : World} (h : Below w.heap.size w w') (b : Nat) : w.grownBy w' (some b) := ⟨h.os, h.tape, h.output, h.size, fun k hk _ => h.block k hk⟩
theorem mv_set {w : World} {b i : Nat} {v : Value} : w.grownBy (w.setCell ⟨b, i, none⟩ v) (some b) := ⟨rfl, rfl, rfl, by simp [World.setCell], fun k hk hne => Below.heap_setCell w ⟨b, i, none⟩ v k (fun e => hne (by rw [e]))⟩
theorem mv_trans {w w1 w2 : World} {o : Option Nat} (h : w.grownBy w1 o) (h' : w1.grownBy w2 o) : w.grownBy w2 o :=
  ⟨h'.os.trans h.os, h'.tape.trans h.tape, h'.output.trans h.output, Nat.le_trans h.size h'.size, fun k hk hne => (h'.block k (Nat.lt_of_lt_of_le hk h.size) hne).trans (h.block k hk hne)⟩
theorem mv_to {w w1 : World} {B b : Nat} (h : w.grownBy w1 (some b)) (hB : B ≤ b) (hb : b < w.heap.size) : Below B w w1 :=
  ⟨h.os, h.tape, h.output, h.size, fun k hk => h.block k (by omega) (fun e => by injection e with e; omega)⟩
/-- How long lines are, each with its end. -/
def sumS : List ByteArray → Nat
  | [] => 0
  | s :: l => s.size + 1 + sumS l
theorem sumS_mem : ∀ {l : List ByteArray} {s : ByteArray}, s ∈ l → s.size + 1 ≤ sumS l
  | _ :: l, _, .head _ => by rw [sumS]; omega
  | _ :: l, s, .tail _ h => by have := sumS_mem h; rw [sumS]; omega
theorem sumS_len : ∀ l : List ByteArray, l.length ≤ sumS l
  | [] => Nat.le_refl _
  | s :: l => by have := sumS_len l; rw [sumS, List.length_cons]; omega
theorem sumS_app : ∀ a b : List ByteArray, sumS (a ++ b) = sumS a + sumS b
  | [], b => by simp [sumS]
  | s :: a, b => by rw [List.cons_append, sumS, sumS, sumS_app a b]; omega
theorem sumS_take (l : List ByteArray) (i : Nat) : sumS (l.take i) ≤ sumS l := by
  have := sumS_app (l.take i) (l.drop i)
  rw [List.take_append_drop] at this; omega
theorem sumS_drop (l : List ByteArray) (i : Nat) : sumS (l.drop i) ≤ sumS l := by
  have := sumS_app (l.take i) (l.drop i)
  rw [List.take_append_drop] at this; omega
theorem sumS_map {f : ByteArray → ByteArray} (hf : ∀ s, (f s).size ≤ s.size) : ∀ l : List ByteArray, sumS (l.map f) ≤ sumS l
  | [] => Nat.le_refl _
  | s :: l => by have := sumS_map hf l; have := hf s; rw [List.map_cons, sumS, sumS]; omega
/-- A reader of the lines ls at line k, so deep; the library's tables lie. -/
structure Rds (w : World) (b B : Nat) (A : Option Addr) (n c : Nat) (ls : List ByteArray) (k d : Nat) : Prop where
  r : Rdr w b (.slice A n c) k d
  l : Rd (· ≠ b) w (.slice A n c) (ls.map D.str)
  tot : sumS ls ≤ 4294967280
  hk : k ≤ n
  t : TextB B w
  hB : B ≤ b
theorem Rds.lt {w : World} {b B n c k d : Nat} {A : Option Addr} {ls : List ByteArray} (h : Rds w b B A n c ls k d) : b < w.heap.size := h.r.facts.2.2.2.2
theorem Rds.len {w : World} {b B n c k d : Nat} {A : Option Addr} {ls : List ByteArray} (h : Rds w b B A n c ls k d) : ls.length = n := (rd_strs h.l).1
theorem Rds.sz {w : World} {b B n c k d : Nat} {A : Option Addr} {ls : List ByteArray} (h : Rds w b B A n c ls k d) : ∀ s ∈ ls, s.size ≤ 4294967280 := fun s hs => by have := sumS_mem hs; have := h.tot; omega
theorem Rds.hn {w : World} {b B n c k d : Nat} {A : Option Addr} {ls : List ByteArray} (h : Rds w b B A n c ls k d) : n ≤ 4294967280 := by have := sumS_len ls; have := h.len; have := h.tot; omega
theorem Rds.below {w w' : World} {b B n c k d : Nat} {A : Option Addr} {ls : List ByteArray} (h : Rds w b B A n c ls k d) (hb : Below w.heap.size w w') : Rds w' b B A n c ls k d :=
  ⟨h.r.below hb, h.l.below hb, h.tot, h.hk, h.t.step (hb.mono (Nat.le_trans h.hB (Nat.le_of_lt h.lt))), h.hB⟩
theorem Rds.set {w : World} {b B n c k d : Nat} {A : Option Addr} {ls : List ByteArray} (h : Rds w b B A n c ls k d) {m : Nat} (hm : m ≤ n) : Rds (w.setCell ⟨b, 1, none⟩ (.int .i64 m)) b B A n c ls m d :=
  ⟨h.r.set m, h.l.step (fun j hj _ => Below.heap_setCell w ⟨b, 1, none⟩ _ j hj) (fun _ h _ => h), h.tot, hm, h.t.step (mv_to mv_set h.hB h.lt), h.hB⟩
theorem Rds.tab {w : World} {b B n c k d : Nat} {A : Option Addr} {ls : List ByteArray} (h : Rds w b B A n c ls k d) : TextB w.heap.size w := fun W hW => h.t W (hW.mono (Nat.le_trans h.hB (Nat.le_of_lt h.lt)))
/-- A line in reach. -/
theorem Rds.at {w : World} {b B n c k d : Nat} {A : Option Addr} {ls : List ByteArray} (h : Rds w b B A n c ls k d) {i : Nat} (hi : i < n) :
    ∃ g o, A = some ⟨g, o, none⟩ ∧ g ≠ b ∧ w.cell? ⟨g, o + i, none⟩ = some (.string (ls.getD i ByteArray.empty)) ∧ (ls.getD i ByteArray.empty).size ≤ 4294967280 ∧ (ls.map bl).drop i = bl (ls.getD i ByteArray.empty) :: (ls.map bl).drop (i + 1) := by
  have hl := h.len
  obtain ⟨g, o, hA, hg, _, hc⟩ := Rd.strs h.l (by omega)
  have hi' : i < ls.length := by omega
  have e : ls.getD i ByteArray.empty = ls[i] := by simp [hi']
  refine ⟨g, o, hA, hg, hc i hi', by rw [e]; exact h.sz _ (List.getElem_mem hi'), ?_⟩
  rw [e, List.drop_eq_getElem_cons (by simpa using hi')]
  simp
/-- The line at a place. -/
def lnAt (ls : List ByteArray) (k : Nat) : ByteArray := ls.getD k ByteArray.empty
theorem Rds.cell {w : World} {b B n c k d g o : Nat} {ls : List ByteArray} (h : Rds w b B (some ⟨g, o, none⟩) n c ls k d) {i : Nat} (hi : i < n) :
    w.cell? ⟨g, o + i, none⟩ = some (.string (lnAt ls i)) ∧ (lnAt ls i).size ≤ 4294967280 ∧ (ls.map bl).drop i = bl (lnAt ls i) :: (ls.map bl).drop (i + 1) ∧ ls.drop i = lnAt ls i :: ls.drop (i + 1) := by
  obtain ⟨g', o', hA, _, hc, hs, hd⟩ := h.at hi
  injection hA with hA
  injection hA with h1 h2
  subst h1
  subst h2
  have hi' : i < ls.length := by rw [h.len]; exact hi
  exact ⟨hc, hs, hd, by unfold lnAt; rw [List.drop_eq_getElem_cons hi']; simp [hi']⟩
/-- What is done elsewhere leaves the lines. -/
theorem Rds.to {w w' : World} {b B n c k d k' : Nat} {A : Option Addr} {ls : List ByteArray} (h : Rds w b B A n c ls k d) (g : w.grownBy w' (some b)) (r : Rdr w' b (.slice A n c) k' d) (hk' : k' ≤ n) : Rds w' b B A n c ls k' d :=
  ⟨r, h.l.step (fun j hj hlt => g.block j hlt (fun e => by injection e with e; exact hj e)) (fun _ h _ => h), h.tot, hk', h.t.step (mv_to g h.hB h.lt), h.hB⟩
theorem mv_low {w w1 w2 : World} {b : Nat} (h : w.grownBy w1 (some b)) (h' : Below w.heap.size w1 w2) : w.grownBy w2 (some b) :=
  ⟨h'.os.trans h.os, h'.tape.trans h.tape, h'.output.trans h.output, Nat.le_trans h.size h'.size, fun k hk hne => (h'.block k hk).trans (h.block k hk hne)⟩
/-- The kind of the first line; 0 if there is none. -/
def hereL : List Ln → Nat
  | [] => 0
  | s :: _ => kindL s
theorem hereL_end {ls : List ByteArray} {n k : Nat} (h : ls.length = n) (hk : n ≤ k) : (ls.map bl).drop k = [] := List.drop_eq_nil_of_le (by rw [List.length_map]; omega)
set_option maxHeartbeats 2000000 in
theorem here_calls (b B n c k d : Nat) (A : Option Addr) (ls : List ByteArray) (w : World) (h : Rds w b B A n c ls k d) :
    Calls Tryz.prog 36 #[.pointer (some ⟨b, 0, none⟩)] w fun e w' => e = .returned (.int .i64 (hereL ((ls.map bl).drop k) : Nat)) ∧ Below w.heap.size w w' := by
  obtain ⟨c0, c1, _, _, _⟩ := h.r.facts
  by_cases hk : k < n
  · obtain ⟨g, o, rfl, hg, hc, hs, hd⟩ := h.at hk
    rw [hd]
    simp only [hereL]
    have hO := fun W (hW : Below w.heap.size w W) => Of_calls (ls.getD k ByteArray.empty) W hs (h.tab.up hW)
    have HO := Lib.hid hO
    generalize kindL (bl (ls.getD k ByteArray.empty)) = K at *
    generalize ls.getD k ByteArray.empty = S at *
    have hkz : (k : Int) < n := by omega
    have hkz2 : ¬ (n : Int) ≤ k := by omega
    clear hO hd hs h
    go_enter Tryz.func36, Tryz.ntmps36
    go_wp2
    go_quiet (fail)
    go_wp2
    obtain ⟨wq, hwq⟩ : ∃ wq, wq = w.drewN nq := ⟨_, rfl⟩
    rw [← hwq]
    have hbq : Below w.heap.size w wq.drew := by rw [hwq]; exact Below.drew (below_drewN (Below.refl _ _) _)
    replace c0 : wq.cell? ⟨b, 0, none⟩ = some (.slice (some ⟨g, o, none⟩) n c) := by rw [hwq]; exact c0
    replace c1 : wq.cell? ⟨b, 1, none⟩ = some (.int .i64 k) := by rw [hwq]; exact c1
    replace hc : wq.cell? ⟨g, o + k, none⟩ = some (.string S) := by rw [hwq]; exact hc
    clear hwq
    go_still_tail 10, (by kernel_rfl)
    change wpList _ _ _ _ _ wq.drew
    generalize wq.drew = wd at *
    go_wp2_with fail
    refine (HO.out _ hbq).mono ?_
    rintro e w1 ⟨rfl, hb1⟩
    go_wp2_with fail
    go_ret
    exact ⟨rfl, below_to hbq hbq.size hb1⟩
  · have hkz : (n : Int) ≤ k := by omega
    rw [hereL_end h.len (by omega)]
    clear h
    go_enter Tryz.func36, Tryz.ntmps36
    go_wp2
    go_quiet (fail)
    go_wp2
    go_ret
    exact ⟨rfl, below_drewN (Below.refl _ _) _⟩
end Go.Proofs.YtlcfijkegdlfcaaGreatDoor
