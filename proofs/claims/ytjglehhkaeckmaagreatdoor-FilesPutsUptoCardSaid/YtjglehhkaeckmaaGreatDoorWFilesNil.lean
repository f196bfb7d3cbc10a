/- The walk of the law FilesNil: on a nil disk nothing is laid, nothing is read, and a drive tells 129. -/
import Derived.Test.YtjglehhkaeckmaaGreatDoorOps21
namespace Go.Proofs.YtjglehhkaeckmaaGreatDoor
open Go.RowKit Go.PlainAid Go.Maps
set_option linter.all false
set_option linter.deprecated false
set_option maxRecDepth 100000
theorem rd_lit1 {w W : World} {t : TypeId} {ds : List D} {cs : List Value} (hr : RepAll (· < w.heap.size) w ds cs) (hl : ds.length ≤ 9223372036854775807) (hW : W = w.alloc (.cells cs.toArray t)) : Rd (· < W.heap.size) W (.slice (some ⟨w.heap.size, 0, none⟩) ds.length ds.length) ds := by
  subst hW
  unfold Rd
  rw [Rep]
  refine ⟨_, ds.length, rfl, Nat.le_refl _, hl, fun h => (by cases h), fun hp => ⟨w.heap.size, 0, cs, rfl, by simp, by simp, ?_, fun j u hu => ?_⟩⟩
  · exact hr.step (fun k hk _ => Below.heap_alloc w _ k hk) (fun k hk _ => by simp; omega)
  · rw [Nat.zero_add, cell_of_row _ _ j _ _ _ (heap_alloc_new w (.cells cs.toArray t))]
    simpa using hu
set_option maxHeartbeats 4000000 in
theorem filesNil_main (o : OpD) (A : Option Addr) (c : Nat) (w : World) (hR : Rep (· < w.heap.size) w (dOp o) [.int .i64 o.kind, .int .i64 o.num, .string o.name, .string o.text, .slice A o.args.length c]) :
    Calls Tryz.prog 4 #[.agg #[.int .i64 o.kind, .int .i64 o.num, .string o.name, .string o.text, .slice A o.args.length c]] w fun e w' => e = .returned (.bool true) ∧ Below w.heap.size w w' := by
  have HR := Lib.hid hR
  clear hR
  have hb0 := below_alloc (Below.refl w.heap.size w) (Nat.le_refl _) (.cells #[.int .i64 o.kind, .int .i64 o.num, .string o.name, .string o.text, .slice A o.args.length c] 30)
  have hbox := World.alloc_heap_new w (.cells #[.int .i64 o.kind, .int .i64 o.num, .string o.name, .string o.text, .slice A o.args.length c] 30)
  have hsz : w.heap.size < (w.alloc (.cells #[.int .i64 o.kind, .int .i64 o.num, .string o.name, .string o.text, .slice A o.args.length c] 30)).heap.size := by simp
  have bq : (ByteArray.mk #[]).toList.isEmpty = true := by rw [ByteArray.toList_eq]; rfl
  have HBOX := Lib.hid hbox
  clear hbox
  go_enter Tryz.func4, Tryz.ntmps4
  go_wp2_with fail
  refine (awake21_calls _).mono ?_
  rintro e w1 ⟨rfl, hb1⟩
  generalize w.alloc (.cells #[.int .i64 o.kind, .int .i64 o.num, .string o.name, .string o.text, .slice A o.args.length c] 30) = w0 at *
  have box1 := (hb1.block _ hsz).trans HBOX.out
  have hb01 := below_to hb0 hb0.size hb1
  have hlt1 := Nat.lt_of_lt_of_le hsz hb1.size
  have hk : ∀ W : World, Below w1.heap.size w1 W → W.cell? ⟨w.heap.size, 0, none⟩ = some (.int .i64 o.kind) ∧ W.cell? ⟨w.heap.size, 1, none⟩ = some (.int .i64 o.num) ∧ W.cell? ⟨w.heap.size, 2, none⟩ = some (.string o.name) ∧ W.cell? ⟨w.heap.size, 3, none⟩ = some (.string o.text) ∧ W.cell? ⟨w.heap.size, 4, none⟩ = some (.slice A o.args.length c) := fun W hW => by
    have hbx := (hW.block _ hlt1).trans box1
    exact ⟨(row_facts hbx 0 rfl).1, (row_facts hbx 1 rfl).1, (row_facts hbx 2 rfl).1, (row_facts hbx 3 rfl).1, (row_facts hbx 4 rfl).1⟩
  have HK := Lib.hid hk
  clear hk box1
  obtain ⟨x0, x1, x2, x3, x4⟩ := HK.out w1 (Below.refl _ _)
  have hrd : Rd (· < (w1.alloc (.cells #[.int .i64 o.kind, .int .i64 o.num, .string o.name, .string o.text, .slice A o.args.length c] 30)).heap.size) (w1.alloc (.cells #[.int .i64 o.kind, .int .i64 o.num, .string o.name, .string o.text, .slice A o.args.length c] 30)) (.slice (some ⟨w1.heap.size, 0, none⟩) 1 1) ([o].map dOp) :=
    rd_lit1 (t := 30) (ds := [dOp o]) (RepAll.single (Rep.step (fun k hk _ => hb01.block k hk) (fun k hk _ => Nat.lt_of_lt_of_le hk hb01.size) HR.out)) (by simp) rfl
  have pL := below_alloc (Below.refl w1.heap.size w1) (Nat.le_refl _) (.cells #[.int .i64 o.kind, .int .i64 o.num, .string o.name, .string o.text, .slice A o.args.length c] 30)
  have hfew := few21_calls _ [o] _ hrd
  have HF := Lib.hid hfew
  clear hrd hfew
  go_wp2_with fail
  refine HF.out.mono ?_
  rintro e w2 ⟨⟨b, rfl⟩, q, rfl⟩
  have hb2 := below_drewN pL q
  generalize (w1.alloc (.cells #[.int .i64 o.kind, .int .i64 o.num, .string o.name, .string o.text, .slice A o.args.length c] 30)).drewN q = w2 at *
  have hb02 := below_to hb01 hb01.size hb2
  clear x0 x1 x2 x3 x4
  cases b with
  | false =>
    go_wp2_with fail
    refine (awake21_calls _).mono ?_
    rintro e w3 ⟨rfl, hb3⟩
    go_wp2_with fail
    go_ret
    exact ⟨rfl, below_to hb02 hb02.size hb3⟩
  | true =>
    obtain ⟨x0, x1, x2, x3, x4⟩ := HK.out w2 hb2
    go_wp2_with fail
    refine (Put_nil _ _ _).mono ?_
    rintro e w3 ⟨rfl, rfl⟩
    go_wp2_with fail
    refine (Fail_nil _ _ _).mono ?_
    rintro e w3 ⟨rfl, rfl⟩
    go_wp2_with fail
    refine (Get_nil _ _).mono ?_
    rintro e w3 ⟨rfl, rfl⟩
    go_wp2_with fail
    refine (Names_nil _).mono ?_
    rintro e w3 ⟨rfl, rfl⟩
    go_wp2_with fail
    refine (Drive_nil _ _ _ _).mono ?_
    rintro e w3 ⟨rfl, rfl⟩
    go_wp2_with fail
    go_ret
    exact ⟨rfl, hb02⟩
theorem list_of' {α : Type} {f : α → D} : ∀ {xs : List D}, (∀ x ∈ xs, ∃ a, x = f a) → ∃ l : List α, xs = l.map f
  | [], _ => ⟨[], rfl⟩
  | x :: xs, h => by
    obtain ⟨a, rfl⟩ := h x (by simp)
    obtain ⟨l, rfl⟩ := list_of' (xs := xs) (fun y hy => h y (by simp [hy]))
    exact ⟨a :: l, rfl⟩
theorem ty_str {n : Nat} {X : D} (hx : HasTy Tryz.prog n 9 X) : ∃ s, X = .str s := by
  cases n with
  | zero => rw [HasTy] at hx; exact hx.elim
  | succ n => rw [HasTy, Tryz.underlying9] at hx; obtain ⟨s, rfl, _⟩ := hx; exact ⟨s, rfl⟩
theorem ty_int {n : Nat} {X : D} (hx : HasTy Tryz.prog n 3 X) : ∃ z, X = .int .i64 z := by
  cases n with
  | zero => rw [HasTy] at hx; exact hx.elim
  | succ n => rw [HasTy, Tryz.underlying3] at hx; obtain ⟨z, rfl, _⟩ := hx; exact ⟨z, rfl⟩
theorem ty_strs {n : Nat} {X : D} (hx : HasTy Tryz.prog n 28 X) : ∃ l : List ByteArray, X = .sl (l.map D.str) := by
  cases n with
  | zero => rw [HasTy] at hx; exact hx.elim
  | succ n =>
    rw [HasTy, Tryz.underlying28] at hx
    obtain ⟨xs, rfl, hx⟩ := hx
    obtain ⟨l, rfl⟩ := list_of' (f := D.str) (fun x hm => ty_str (hx x hm))
    exact ⟨l, rfl⟩
theorem ty_op {n : Nat} {X : D} (hx : HasTy Tryz.prog n 30 X) : ∃ o, X = dOp o := by
  cases n with
  | zero => rw [HasTy] at hx; exact hx.elim
  | succ n =>
    rw [HasTy, Tryz.underlying30] at hx
    obtain ⟨ys, rfl, hl, hy⟩ := hx
    match ys, hl with
    | [y0, y1, y2, y3, y4], _ =>
      obtain ⟨z0, rfl⟩ := ty_int (hy 0 _ y0 rfl rfl)
      obtain ⟨z1, rfl⟩ := ty_int (hy 1 _ y1 rfl rfl)
      obtain ⟨s2, rfl⟩ := ty_str (hy 2 _ y2 rfl rfl)
      obtain ⟨s3, rfl⟩ := ty_str (hy 3 _ y3 rfl rfl)
      obtain ⟨l4, rfl⟩ := ty_strs (hy 4 _ y4 rfl rfl)
      exact ⟨⟨z0, z1, s2, s3, l4⟩, rfl⟩
theorem filesNil_walk (c0 : Array Value) (X0 : D) (w : World) (g0 : Rep (· < w.heap.size) w X0 c0.toList) (ty0 : ∃ n, HasTy Tryz.prog n 30 X0) (_ : X0.bulk ≤ 1048576) :
    Calls Tryz.prog 4 #[.agg c0] w fun e w' => e = .returned (.bool true) ∧ Below w.heap.size w w' := by
  obtain ⟨n, ty0⟩ := ty0
  obtain ⟨o, rfl⟩ := ty_op ty0
  obtain ⟨v, hv, hR⟩ := rep_op g0
  obtain ⟨A, c, rfl, _, _⟩ := hR.form
  rw [List.length_map] at *
  obtain rfl : c0 = #[.int .i64 o.kind, .int .i64 o.num, .string o.name, .string o.text, .slice A o.args.length c] := by
    apply Array.toList_inj.1; rw [hv]
  exact filesNil_main o A c w g0
end Go.Proofs.YtjglehhkaeckmaaGreatDoor
