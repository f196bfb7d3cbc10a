/- The walk of weave's weaver.outcome. -/
import Derived.Test.YtnoloihdcmgbaaaOutcome
import Derived.Test.YtnoloihdcmgbaaaKit2
namespace Go.Proofs.Ytnoloihdcmgbaaa
open Go.RowKit Go.PlainAid
set_option linter.unusedVariables false

def part {α : Type} (l : List α) (a b : Nat) : List α := (l.take b).drop a
theorem part_len {α : Type} {l : List α} {a b : Nat} (h : b ≤ l.length) : (part l a b).length = b - a := by rw [part, List.length_drop, List.length_take, Nat.min_eq_left h]
/-- What comes of a chunk of three parts. -/
def outc {α : Type} [DecidableEq α] (b o t : List α) : Nat := if o = t then 4 else if o = b then 3 else if t = b then 2 else 5

set_option maxRecDepth 100000 in
set_option maxHeartbeats 600000 in
theorem outcome_calls {ok : Nat → Prop} (b : Nat) (A O T : Option Addr) (nb cb no co nt ct : Nat) (vp vq : Value) (x y z : Nat) (c : Ch) (zb zo zt : List Int) (w : World)
    (hW : Wv w b (.slice A nb cb) (.slice O no co) (.slice T nt ct) vp vq x y z) (hb0 : c.b0 ≤ c.b1) (hb1 : c.b1 ≤ nb) (ho0 : c.o0 ≤ c.o1) (ho1 : c.o1 ≤ no) (ht0 : c.t0 ≤ c.t1) (ht1 : c.t1 ≤ nt)
    (hnb : nb ≤ 1048575) (hno : no ≤ 1048575) (hnt : nt ≤ 1048575)
    (hB : Rd ok w (.slice A nb cb) (zb.map (D.int .i64))) (hO : Rd ok w (.slice O no co) (zo.map (D.int .i64))) (hT : Rd ok w (.slice T nt ct) (zt.map (D.int .i64))) :
    Calls Try.prog 52 #[.pointer (some ⟨b, 0, none⟩), valCh c] w fun e w' => e = .returned (.int .i64 (outc (part zb c.b0 c.b1) (part zo c.o0 c.o1) (part zt c.t0 c.t1) : Nat)) ∧ Below w.heap.size w w' := by
  have c0 : w.cell? ⟨b, 0, none⟩ = some (.slice A nb cb) := (cell_of_row w b 0 _ _ _ hW).trans rfl
  have c1 : w.cell? ⟨b, 1, none⟩ = some (.slice O no co) := (cell_of_row w b 1 _ _ _ hW).trans rfl
  have c2 : w.cell? ⟨b, 2, none⟩ = some (.slice T nt ct) := (cell_of_row w b 2 _ _ _ hW).trans rfl
  have hbw : b < w.heap.size := World.block_lt_of_cell? w _ c0
  have hcb' := (rd_ints hB).2
  have hco' := (rd_ints hO).2
  have hct' := (rd_ints hT).2
  obtain ⟨b0, b1, o0, o1, t0, t1, oc⟩ := c
  simp only [] at hb0 hb1 ho0 ho1 ht0 ht1
  have HW := Lib.hid hW
  have HB := Lib.hid hB
  have HO := Lib.hid hO
  have HT := Lib.hid hT
  clear hW hB hO hT
  simp only [valCh, cellsCh]
  generalize hpb : part zb b0 b1 = pb
  generalize hpo : part zo o0 o1 = po
  generalize hpt : part zt t0 t1 = pt
  have HPB := Lib.hid hpb
  have HPO := Lib.hid hpo
  have HPT := Lib.hid hpt
  clear hpb hpo hpt
  go_enter Try.func52, Try.ntmps52
  go_wp2
  have hne : ¬ b = w.heap.size := by omega
  have hne' : ¬ w.heap.size = b := by omega
  have hv : ∀ k v, (cellsCh ⟨b0, b1, o0, o1, t0, t1, oc⟩)[k]? = some v → (w.alloc (.cells (cellsCh ⟨b0, b1, o0, o1, t0, t1, oc⟩).toArray 58)).cell? ⟨w.heap.size, k, none⟩ = some v := fun k v hk => (cell_of_row _ _ k _ _ _ (World.alloc_heap_new w _)).trans (by simpa using hk)
  have v0 := hv 0 _ rfl
  have v1 := hv 1 _ rfl
  have v2 := hv 2 _ rfl
  have v3 := hv 3 _ rfl
  have v4 := hv 4 _ rfl
  have v5 := hv 5 _ rfl
  have d0 := ((Below.refl w.heap.size w).alloc (Nat.le_refl _) (.cells (cellsCh ⟨b0, b1, o0, o1, t0, t1, oc⟩).toArray 58))
  have e0 := (d0.cell (p := ⟨b, 0, none⟩) hbw).trans c0
  have e1 := (d0.cell (p := ⟨b, 1, none⟩) hbw).trans c1
  have e2 := (d0.cell (p := ⟨b, 2, none⟩) hbw).trans c2
  have hsz : w.heap.size + 1 ≤ (w.alloc (.cells (cellsCh ⟨b0, b1, o0, o1, t0, t1, oc⟩).toArray 58)).heap.size := by simp
  clear hv c0 c1 c2
  simp only [cellsCh] at v0 v1 v2 v3 v4 v5 d0 e0 e1 e2 hsz
  generalize w.alloc (.cells _ 58) = W at *
  go_region_held3 (fun w' => w'.cell? ⟨w.heap.size, 0, none⟩ = some (.int .i64 b0) ∧ w'.cell? ⟨w.heap.size, 1, none⟩ = some (.int .i64 b1) ∧ w'.cell? ⟨w.heap.size, 2, none⟩ = some (.int .i64 o0) ∧ w'.cell? ⟨w.heap.size, 3, none⟩ = some (.int .i64 o1) ∧ w'.cell? ⟨w.heap.size, 4, none⟩ = some (.int .i64 t0) ∧ w'.cell? ⟨w.heap.size, 5, none⟩ = some (.int .i64 t1) ∧
      w'.cell? ⟨b, 0, none⟩ = some (.slice A nb cb) ∧ w'.cell? ⟨b, 1, none⟩ = some (.slice O no co) ∧ w'.cell? ⟨b, 2, none⟩ = some (.slice T nt ct) ∧ w.heap.size + 1 ≤ w'.heap.size ∧ Below w.heap.size w w')
    (first
      | exact ⟨v0, v1, v2, v3, v4, v5, e0, e1, e2, hsz, below_drewN d0 1⟩
      | exact ⟨by assumption, by assumption, by assumption, by assumption, by assumption, by assumption, by assumption, by assumption, by assumption, by assumption, by assumption⟩
      | (go_split_ands
         have hs := hbel.size
         exact ⟨below_at' hbel (by omega) (by assumption), below_at' hbel (by omega) (by assumption), below_at' hbel (by omega) (by assumption), below_at' hbel (by omega) (by assumption), below_at' hbel (by omega) (by assumption), below_at' hbel (by omega) (by assumption),
          below_at' hbel (by omega) (by assumption), below_at' hbel (by omega) (by assumption), below_at' hbel (by omega) (by assumption), by omega, below_to (by first | assumption | exact below_drewN d0 1) (by omega) hbel⟩))
    (first | (go_at_call 33; refine (of_calls _ _ _ _ _ _ (by omega) (by omega) (by omega) (by omega)).mono ?_; rintro e w' ⟨A', rfl, hA', hbel⟩))
  rename_i w1 A1 h1 k1 w2 A2 h2 k2 hS
  obtain ⟨_, _, _, _, _, _, _, _, _, hsz', hbel'⟩ := hS
  simp only [Int.toNat_natCast] at h1 h2 hA'
  have r1 : Rd ok w' (.slice A1 (b1 - b0) (cb - b0)) (pb.map (D.int .i64)) := by rw [← HPB.out]; exact (h1.rd HB.out hb0 hb1).below hbel'
  have r2 : Rd ok w' (.slice A2 (o1 - o0) (co - o0)) (po.map (D.int .i64)) := by rw [← HPO.out]; exact (h2.rd HO.out ho0 ho1).below hbel'
  have r3 : Rd ok w' (.slice A' (t1 - t0) (ct - t0)) (pt.map (D.int .i64)) := by rw [← HPT.out]; exact (hA'.rd HT.out ht0 ht1).below hbel'
  clear h1 h2 hA' k1 k2 hbel v0 v1 v2 v3 v4 v5 e0 e1 e2 d0 hsz
  have H1 := Lib.hid r1
  have H2 := Lib.hid r2
  have H3 := Lib.hid r3
  clear r1 r2 r3
  have R1 : ∀ W, W.heap = w'.heap → Rd ok W (.slice A1 (b1 - b0) (cb - b0)) (pb.map (D.int .i64)) := fun W e => H1.out.heap e
  have R2 : ∀ W, W.heap = w'.heap → Rd ok W (.slice A2 (o1 - o0) (co - o0)) (po.map (D.int .i64)) := fun W e => H2.out.heap e
  have R3 : ∀ W, W.heap = w'.heap → Rd ok W (.slice A' (t1 - t0) (ct - t0)) (pt.map (D.int .i64)) := fun W e => H3.out.heap e
  have hq : ∀ W, W.heap = w'.heap → W.os = w'.os → W.tape = w'.tape → W.output = w'.output → Below w.heap.size w W := fun W e1 e2 e3 e4 => ⟨e2.trans hbel'.os, e3.trans hbel'.tape, e4.trans hbel'.output, by rw [e1]; exact hbel'.size, fun k hk => by rw [e1]; exact hbel'.block k hk⟩
  have HOC : Hid (outc pb po pt = if po = pt then 4 else if po = pb then 3 else if pt = pb then 2 else 5) := Lib.hid rfl
  clear H1 H2 H3
  by_cases x1 : po = pt
  · have y1 : (po == pt) = true := beq_iff_eq.2 x1
    have X1 := Lib.hid x1
    clear x1
    go_wp2_with (go_at_call 72; go_must (refine (equal_calls _ _ _ _ _ (by first | exact R1 _ rfl | exact R2 _ rfl | exact R3 _ rfl) (by first | exact R1 _ rfl | exact R2 _ rfl | exact R3 _ rfl)).mono ?_); rintro e w3 ⟨rfl, q1, rfl⟩)
    go_ret
    exact ⟨by rw [HOC.out, if_pos X1.out]; rfl, hq _ rfl rfl rfl rfl⟩
  have y1 : (po == pt) = false := beq_eq_false_iff_ne.2 x1
  have X1 := Lib.hid x1
  clear x1
  by_cases x2 : po = pb
  · have y2 : (po == pb) = true := beq_iff_eq.2 x2
    have X2 := Lib.hid x2
    clear x2
    go_wp2_with (go_at_call 72; go_must (refine (equal_calls _ _ _ _ _ (by first | exact R1 _ rfl | exact R2 _ rfl | exact R3 _ rfl) (by first | exact R1 _ rfl | exact R2 _ rfl | exact R3 _ rfl)).mono ?_); rintro e w3 ⟨rfl, q1, rfl⟩)
    go_ret
    exact ⟨by rw [HOC.out, if_neg X1.out, if_pos X2.out]; rfl, hq _ rfl rfl rfl rfl⟩
  have y2 : (po == pb) = false := beq_eq_false_iff_ne.2 x2
  have X2 := Lib.hid x2
  clear x2
  by_cases x3 : pt = pb
  · have y3 : (pt == pb) = true := beq_iff_eq.2 x3
    have X3 := Lib.hid x3
    clear x3
    go_wp2_with (go_at_call 72; go_must (refine (equal_calls _ _ _ _ _ (by first | exact R1 _ rfl | exact R2 _ rfl | exact R3 _ rfl) (by first | exact R1 _ rfl | exact R2 _ rfl | exact R3 _ rfl)).mono ?_); rintro e w3 ⟨rfl, q1, rfl⟩)
    go_ret
    exact ⟨by rw [HOC.out, if_neg X1.out, if_neg X2.out, if_pos X3.out]; rfl, hq _ rfl rfl rfl rfl⟩
  have y3 : (pt == pb) = false := beq_eq_false_iff_ne.2 x3
  have X3 := Lib.hid x3
  clear x3
  go_wp2_with (go_at_call 72; go_must (refine (equal_calls _ _ _ _ _ (by first | exact R1 _ rfl | exact R2 _ rfl | exact R3 _ rfl) (by first | exact R1 _ rfl | exact R2 _ rfl | exact R3 _ rfl)).mono ?_); rintro e w3 ⟨rfl, q1, rfl⟩)
  go_ret
  exact ⟨by rw [HOC.out, if_neg X1.out, if_neg X2.out, if_neg X3.out]; rfl, hq _ rfl rfl rfl rfl⟩
end Go.Proofs.Ytnoloihdcmgbaaa
