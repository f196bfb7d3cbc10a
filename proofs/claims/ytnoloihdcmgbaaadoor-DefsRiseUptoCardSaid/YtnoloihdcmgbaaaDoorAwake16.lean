/- The walk of awake (layer 16's statements). -/
import Derived.Test.YtnoloihdcmgbaaaDoorDefs2
namespace Go.Proofs.YtnoloihdcmgbaaaDoor
open Go.RowKit Go.PlainAid Go.Maps Go.Sort
set_option linter.all false
set_option linter.deprecated false
set_option maxRecDepth 100000
theorem fold_Ab : foldS ⟨#[65, 32, 32, 98]⟩ = ⟨#[97, 32, 98]⟩ := by decide +kernel
theorem fold_aB : foldS ⟨#[97, 32, 66]⟩ = ⟨#[97, 32, 98]⟩ := by decide +kernel
/-- The block of awake. -/
def blA : Bl := .mk 8 0 ⟨#[65, 32, 32, 98]⟩ [⟨#[120]⟩] [] []
theorem listOf_A : listOf (defsL [blA]) = [([97, 32, 98], [120])] := by decide +kernel
theorem Rd.lit' {w W : World} {t : TypeId} {ds : List D} {cs : List Value} (hr : RepAll (· < w.heap.size) w ds cs) (hl : ds.length ≤ 9223372036854775807) (hW : W = w.alloc (.cells cs.toArray t)) : Rd (· < W.heap.size) W (.slice (some ⟨w.heap.size, 0, none⟩) ds.length ds.length) ds := by
  subst hW
  unfold Rd
  rw [Rep]
  refine ⟨_, ds.length, rfl, Nat.le_refl _, hl, fun h => (by cases h), fun hp => ⟨w.heap.size, 0, cs, rfl, by simp, by simp, ?_, fun j u hu => ?_⟩⟩
  · exact hr.step (fun k hk _ => Below.heap_alloc w _ k hk) (fun k hk _ => by simp; omega)
  · rw [Nat.zero_add, cell_of_row _ _ j _ _ _ (heap_alloc_new w (.cells cs.toArray t))]
    simpa using hu
theorem repall_cons {ok : Nat → Prop} {w : World} {d : D} {v : Value} {ds : List D} {cs : List Value} (h : Rep ok w d [v]) (h' : RepAll ok w ds cs) : RepAll ok w (d :: ds) (v :: cs) := by
  rw [RepAll]; exact ⟨[v], cs, rfl, h, h'⟩
theorem repall_nil {ok : Nat → Prop} {w : World} : RepAll ok w [] [] := by rw [RepAll]
theorem rep_nilsl {ok : Nat → Prop} {w : World} : Rep ok w (.sl []) [.slice none 0 0] := Rd.nil ok w
/-- A block, from its cells. -/
theorem rep_bl_mk {ok : Nat → Prop} {w : World} {k n : Int} {i : ByteArray} {ls : List ByteArray} {sp : List Sp} {ks : List Bl} {u v y : Value} (h1 : Rd ok w u (ls.map D.str)) (h2 : Rd ok w v (dSps sp)) (h3 : Rd ok w y (dBls ks)) :
    Rep ok w (dBl (.mk k n i ls sp ks)) [.int .i64 k, .int .i64 n, .string i, u, v, y] := by
  rw [dBl, Rep]
  exact repall_cons (by rw [Rep]) (repall_cons (by rw [Rep]) (repall_cons (by rw [Rep]) (repall_cons h1 (repall_cons h2 (repall_cons h3 repall_nil)))))
set_option maxHeartbeats 1000000 in
theorem awake16_calls (w : World) : Calls Tryd.prog 12 #[] w fun e w' => e = .returned (.bool true) ∧ Below w.heap.size w w' := by
  have hb1 := beq_t (rfl : (⟨#[97, 32, 98]⟩ : ByteArray) = ⟨#[97, 32, 98]⟩)
  have hb2 := beq_t (rfl : (⟨#[120]⟩ : ByteArray) = ⟨#[120]⟩)
  go_enter Tryd.func12, Tryd.ntmps12
  go_wp2_with fail
  have hr0 : Rd (· < (w.alloc (.cells #[.string ⟨#[120]⟩] 9)).heap.size) (w.alloc (.cells #[.string ⟨#[120]⟩] 9)) (.slice (some ⟨w.heap.size, 0, none⟩) 1 1) ([(⟨#[120]⟩ : ByteArray)].map D.str) :=
    Rd.lit' (t := 9) (ds := [D.str ⟨#[120]⟩]) (cs := [.string ⟨#[120]⟩]) (repall_cons (by rw [Rep]) repall_nil) (by simp) rfl
  have hs1 : (w.alloc (.cells #[.string ⟨#[120]⟩] 9)).heap.size = w.heap.size + 1 := by simp
  have hrb := Rd.lit' (t := 28) (ds := [dBl blA]) (W := (w.alloc (.cells #[.string ⟨#[120]⟩] 9)).alloc (.cells #[.int .i64 8, .int .i64 0, .string ⟨#[65, 32, 32, 98]⟩, .slice (some ⟨w.heap.size, 0, none⟩) 1 1, .slice none 0 0, .slice none 0 0] 28))
    (cs := [.int .i64 8, .int .i64 0, .string ⟨#[65, 32, 32, 98]⟩, .slice (some ⟨w.heap.size, 0, none⟩) 1 1, .slice none 0 0, .slice none 0 0]) (RepAll.single (rep_bl_mk hr0 (Rd.nil _ _) (Rd.nil _ _))) (by simp) rfl
  rw [hs1] at hrb
  have hof := Of_calls _ [blA] _ hrb (by decide)
  rw [listOf_A] at hof
  have hbw : Below w.heap.size w ((w.alloc (.cells #[.string ⟨#[120]⟩] 9)).alloc (.cells #[.int .i64 8, .int .i64 0, .string ⟨#[65, 32, 32, 98]⟩, .slice (some ⟨w.heap.size, 0, none⟩) 1 1, .slice none 0 0, .slice none 0 0] 28)) :=
    below_alloc (below_alloc (Below.refl _ _) (Nat.le_refl _) _) (by simp) _
  refine hof.mono ?_
  rintro e w1 ⟨v1, rfl, hrow, hB1⟩
  clear hof hrb hr0 hs1
  have hbw1 := below_to hbw hbw.size hB1
  obtain ⟨g, cap, rfl, _, hg⟩ := hrow.form (by simp)
  have hc0 : w1.cell? ⟨g, 0, none⟩ = some (.string ⟨#[97, 32, 98]⟩) := by rw [hrow.cellAt 0 (by simp)]; rfl
  have hre := rd_E hrow rfl (Below.refl _ _)
  have hfi := Find_calls _ [([97, 32, 98], [120])] ⟨#[97, 32, 66]⟩ w1 hre (by simp) (by simp [maxLen]) (by decide)
  rw [fold_aB] at hfi
  have hv : ((find [([97, 32, 98], [120])] (⟨#[97, 32, 98]⟩ : ByteArray).data.toList).getD []) = [120] ∧ (find [([97, 32, 98], [120])] (⟨#[97, 32, 98]⟩ : ByteArray).data.toList).isSome = true := by decide
  rw [hv.1, hv.2] at hfi
  have HFI := Lib.hid hfi
  clear hfi hre hv hrow hB1
  go_wp2_with (go_at_call 14; go_must (refine (HFI.out).mono ?_); rintro e w2 ⟨rfl, hb2⟩; have hc2 := below_at' hb2 hg hc0)
  go_ret
  exact ⟨rfl, below_to hbw1 hbw1.size hb2⟩
end Go.Proofs.YtnoloihdcmgbaaaDoor
