/- The walk of lcs.Pairs: an iterator over the table, and a loop over it. -/
import Derived.RangeFuncNested
import Derived.RangeFuncBound
import Derived.RangeFuncCalls
import Derived.RangeFuncLeaves
import Derived.Shelf.Abstract
import Derived.OwnWalkIn
import Derived.TacticsInMore
import Derived.LoopNIn
import Derived.LoopIn
import Derived.Sort.QuietIn
import Derived.Test.YtnoloihdcmgbaaaLcs
namespace Go.Proofs.Ytnoloihdcmgbaaa
open Go.RowKit Go.PlainAid Go.Shelf
set_option linter.unusedVariables false
attribute [local go_sem] Oper.semAt_some

theorem grownBy_drewN (w : World) (n : Nat) : w.grownBy (w.drewN n) none := ⟨rfl, rfl, rfl, Nat.le_refl _, fun _ _ _ => rfl⟩
def encPair (p : Nat × Nat) : Array Value := #[.agg #[.int .i64 (p.1 : Int), .int .i64 (p.2 : Int)]]

set_option maxRecDepth 100000 in
set_option maxHeartbeats 2000000 in
theorem pairs1_in (S : Nat → Prop) (n : Nat) (hn : 1 ≤ n) (l Bt t g ba oa ca bb ob cb : Nat) (za zb : List Int) (hla : za.length ≤ 1048575) (hlb : zb.length ≤ 1048575)
    (hB : S Bt) (ht : S t) (hg : S g) (hba : S ba) (hbb : S bb) (base : Nat) (J Jx : List (Nat × Nat) → World → Prop)
    (hY : ∀ pre x W, J pre W → pre.length < za.length + 1 → YieldAt Fence.wide (n - 1) Try.prog l (encPair x) W fun e W' =>
      (e = .returned (.bool true) ∧ J (pre ++ [x]) W' ∧ Keeps S W W') ∨ (e = .returned (.bool false) ∧ Jx (pre ++ [x]) W'))
    (W : World) (hJ : AbidesFrom W.heap.size J) (hBt : W.cell? ⟨Bt, 0, none⟩ = some (.pointer (some ⟨t, 0, none⟩)))
    (hT : W.heap[t]? = some (.cells #[.slice (some ⟨ba, oa, none⟩) za.length ca, .slice (some ⟨bb, ob, none⟩) zb.length cb, .slice (some ⟨g, 0, none⟩) (za.length * zb.length) (za.length * zb.length)] 138 (0, 0)))
    (ho : W.ownsRow base 3 1 (.slice (some ⟨g, 0, none⟩) (za.length * zb.length) (za.length * zb.length)) (za.length * zb.length) ((tab za zb).map (Value.int .i64)))
    (ha : ∀ i, i < za.length → W.cell? ⟨ba, oa + i, none⟩ = some (.int .i64 (za.getD i 0))) (hb : ∀ i, i < zb.length → W.cell? ⟨bb, ob + i, none⟩ = some (.int .i64 (zb.getD i 0)))
    (h0 : J [] W) :
    CallsIn Fence.wide n Try.prog 87 #[.func (.yield l) #[] #[], .pointer (some ⟨Bt, 0, none⟩)] W fun e W' => (∃ v, e = .returned v) ∧
      ((∃ ys, ys = pairs za zb ∧ J ys W') ∨ (∃ pre, pre <+: pairs za zb ∧ Jx pre W')) := by
  refine callsIn_of_wp Try.func87 rfl trivial ?_ rfl
  simp only [Try.ntmps87, List.size_toArray, List.length_cons, List.length_nil, Nat.reduceAdd, Nat.reduceSub, Array.replicate_succ, Array.replicate_zero, List.push_toArray, List.append_toArray, List.nil_append, List.cons_append]
  gi_wp2
  gi_loopw [3, 4] (fun vi vk wr => ∃ (i k : Nat) (pre : List (Nat × Nat)), vi = .int .i64 i ∧ vk = .int .i64 k ∧ i ≤ za.length ∧ k ≤ zb.length ∧ pairs za zb = pre ++ prs (za.drop i) i k (zb.drop k) ∧ J pre wr ∧ Keeps S W wr)
    (fun vi vk _ => za.length + zb.length - (intOf vi).toNat - (intOf vk).toNat)
  case atStart => exact ⟨0, 0, [], rfl, rfl, Nat.zero_le _, Nat.zero_le _, rfl, h0, Keeps.refl _ _⟩
  case round =>
    obtain ⟨i, k, pre, rfl, rfl, hi, hk, hp, hJr, hBr⟩ := hrel
    have hTr := (hBr.block t ht).trans hT
    have hB0 := (hBr.cell (p := ⟨Bt, 0, none⟩) hB).trans hBt
    have hT0 : wr.cell? ⟨t, 0, none⟩ = some (.slice (some ⟨ba, oa, none⟩) za.length ca) := by rw [cell_of_row wr t 0 _ _ _ hTr]; rfl
    have hT1 : wr.cell? ⟨t, 1, none⟩ = some (.slice (some ⟨bb, ob, none⟩) zb.length cb) := by rw [cell_of_row wr t 1 _ _ _ hTr]; rfl
    have hT2 : wr.cell? ⟨t, 2, none⟩ = some (.slice (some ⟨g, 0, none⟩) (za.length * zb.length) (za.length * zb.length)) := by rw [cell_of_row wr t 2 _ _ _ hTr]; rfl
    by_cases hik : i < za.length ∧ k < zb.length
    · obtain ⟨hi0, hk0⟩ := hik
      have hstep := prs_at za zb hi0 hk0
      have hca := (hBr.cell (p := ⟨ba, oa + i, none⟩) hba).trans (ha i hi0)
      have hcb := (hBr.cell (p := ⟨bb, ob + k, none⟩) hbb).trans (hb k hk0)
      have hx : za.getD i 0 = za[i] := by simp [hi0]
      have hy : zb.getD k 0 = zb[k] := by simp [hk0]
      rw [hx] at hca
      rw [hy] at hcb
      generalize za[i] = x at *
      generalize zb[k] = y at *
      have HS := Lib.hid hstep
      have HP := Lib.hid hp
      have HT := Lib.hid hT
      have HTr := Lib.hid hTr
      clear hstep hp hx hy ha hb hT hTr
      have w1 : (i : Int) < za.length := by omega
      have w2 : (k : Int) < zb.length := by omega
      have hgr : ∀ q, J pre (wr.drewN q) := fun q => hJ _ _ _ none hJr (grownBy_drewN _ _) (fun r e => by cases e)
      have hBB : ∀ q, Keeps S W (wr.drewN q) := fun q => hBr.drewN q
      by_cases hxy : x = y
      · have hxb : (x == y) = true := by simpa using hxy
        have HX := Lib.hid hxy
        clear hxy
        gi_wp2
        gi_quiet (fail)
        rename_i nq
        have hlen : pre.length < za.length + 1 := by
          have h1 := prs_len za 0 0 zb
          have h2 : (pairs za zb).length = _ := congrArg List.length HP.out
          rw [List.length_append] at h2
          unfold pairs at h2
          omega
        obtain ⟨fn, tmps, assign, body, hy, hR⟩ := hY pre (i, k) (wr.drewN nq) (hgr nq) hlen
        dsimp only [encPair] at hy
        have HG := Lib.hid hgr
        have HBB := Lib.hid hBB
        have HY := Lib.hid hY
        have HJ := Lib.hid hJ
        clear hgr hBB hY hJ
        gi_wp2
        refine hR.mono ?_
        rintro e W3 (⟨rfl, hJ3, hk3⟩ | ⟨rfl, hJx3⟩)
        · gi_wp2
          have hp' : pairs za zb = (pre ++ [(i, k)]) ++ prs (za.drop (i + 1)) (i + 1) (k + 1) (zb.drop (k + 1)) := by
            rw [HP.out, HS.out, if_pos HX.out]; simp
          have HP' := Lib.hid hp'
          clear hp'
          go_roundw
          case rel => exact ⟨i + 1, k + 1, pre ++ [(i, k)], by go_num, by go_num, by omega, by omega, HP'.out, hJ3, (HBB.out nq).trans hk3⟩
          case measure => simp [intOf]; omega
        · gi_wp2
          refine bodyPost_ret (results_none rfl _ _ _) rfl ?_
          refine ⟨⟨_, rfl⟩, .inr ⟨pre ++ [(i, k)], ⟨prs (za.drop (i + 1)) (i + 1) (k + 1) (zb.drop (k + 1)), ?_⟩, hJx3⟩⟩
          rw [HP.out, HS.out, if_pos HX.out]; simp
      · have hxb : (x == y) = false := by simpa using hxy
        have HX := Lib.hid hxy
        clear hxy
        gi_wp2
        gi_quiet (fail)
        rename_i nq
        have hfill : ∀ j, 0 ≤ j → j < za.length * zb.length → (tab za zb)[j]? = some (tabAt za zb j) := by
          intro j _ hj
          unfold tab
          rw [List.getElem?_map, List.getElem?_range hj]
          rfl
        have hor : (wr.drewN nq).ownsRow base 3 1 (.slice (some ⟨g, 0, none⟩) (za.length * zb.length) (za.length * zb.length)) (za.length * zb.length) ((tab za zb).map (Value.int .i64)) := own_at ho ((hBB nq).block g hg)
        have hT0' : (wr.drewN nq).cell? ⟨t, 0, none⟩ = some (.slice (some ⟨ba, oa, none⟩) za.length ca) := hT0
        have hT1' : (wr.drewN nq).cell? ⟨t, 1, none⟩ = some (.slice (some ⟨bb, ob, none⟩) zb.length cb) := hT1
        have hT2' : (wr.drewN nq).cell? ⟨t, 2, none⟩ = some (.slice (some ⟨g, 0, none⟩) (za.length * zb.length) (za.length * zb.length)) := hT2
        have hB0' : (wr.drewN nq).cell? ⟨Bt, 0, none⟩ = some (.pointer (some ⟨t, 0, none⟩)) := hB0
        have hJq := hgr nq
        have hBq := hBB nq
        clear hT0 hT1 hT2 hB0 hca hcb
        have hgr2 : ∀ q, J pre ((wr.drewN nq).drewN q) := fun q => hJ _ _ _ none hJq (grownBy_drewN _ _) (fun r e => by cases e)
        clear hgr hBB
        have HG := Lib.hid hgr2
        clear hgr2 hJr hBr
        generalize wr.drewN nq = wq at *
        have w5 : IntKind.i64.wrap ((i : Int) + 1) = (i : Int) + 1 := IntWalk.i64_in _ (by omega)
        have w6 : IntKind.i64.wrap ((k : Int) + 1) = (k : Int) + 1 := IntWalk.i64_in _ (by omega)
        have HF := Lib.hid hfill
        clear hfill
        have hfn : Fence.wide.fn 86 := trivial
        gi_wp2
        gi_quiet ((gi_at_call 86; go_must (exact CallsIn.quiet_of (callsIn_wide.2 (at_any t ca cb (za.length * zb.length) g 0 base _ _ _ _ za zb _ _ (by omega) (by omega) (by omega) (by omega) (by omega) (by omega) (by exact hT0') (by exact hT1') (by exact hT2') (by exact hor) (by exact HF.out) (by omega))))))
        gi_wp2
        · have hle : atL za zb i (k + 1) ≤ atL za zb (i + 1) k := by assumption
          have hp' : pairs za zb = pre ++ prs (za.drop (i + 1)) (i + 1) k (zb.drop k) := by
            rw [HP.out, HS.out, if_neg HX.out, if_pos (by unfold atL at hle; omega)]
          have HP' := Lib.hid hp'
          clear hp'
          go_roundw
          case rel => exact ⟨i + 1, k, pre, by go_num, rfl, by omega, by omega, HP'.out, HG.out _, hBq.drewN _⟩
          case measure => simp [intOf]; omega
        · have hle : atL za zb (i + 1) k < atL za zb i (k + 1) := by assumption
          have hp' : pairs za zb = pre ++ prs (za.drop i) i (k + 1) (zb.drop (k + 1)) := by
            rw [HP.out, HS.out, if_neg HX.out, if_neg (by unfold atL at hle; omega)]
          have HP' := Lib.hid hp'
          clear hp'
          go_roundw
          case rel => exact ⟨i, k + 1, pre, rfl, by go_num, by omega, by omega, HP'.out, HG.out _, hBq.drewN _⟩
          case measure => simp [intOf]; omega
    · have hpe : pairs za zb = pre := by
        rw [hp]
        by_cases hi0 : i < za.length
        · rw [show zb.drop k = [] from List.drop_eq_nil_of_le (by omega), prs_nil, List.append_nil]
        · rw [show za.drop i = [] from List.drop_eq_nil_of_le (by omega), prs_nil', List.append_nil]
      have HP := Lib.hid hpe
      clear hp hpe hT ho ha hb
      by_cases hi0 : i < za.length
      · have hkd : decide (k < zb.length) = false := by simp; omega
        have w1 : (i : Int) < za.length := by omega
        clear hik
        gi_wp2
        go_end0
        exact ⟨⟨_, rfl⟩, .inl ⟨_, HP.out.symm, hJr⟩⟩
      · have hid : decide (i < za.length) = false := by simp; omega
        clear hik
        gi_wp2
        go_end0
        exact ⟨⟨_, rfl⟩, .inl ⟨_, HP.out.symm, hJr⟩⟩

set_option maxRecDepth 100000 in
set_option maxHeartbeats 2000000 in
theorem pairs1_nil_in (n : Nat) (l Bt t la ca lb cb : Nat) (A B : Option Addr) (vh : Value) (h : la = 0 ∨ lb = 0) (J : List (Nat × Nat) → World → Prop)
    (W : World) (hBt : W.cell? ⟨Bt, 0, none⟩ = some (.pointer (some ⟨t, 0, none⟩)))
    (hT : W.heap[t]? = some (.cells #[.slice A la ca, .slice B lb cb, vh] 138 (0, 0))) (h0 : J [] W) :
    CallsIn Fence.wide n Try.prog 87 #[.func (.yield l) #[] #[], .pointer (some ⟨Bt, 0, none⟩)] W fun e W' => (∃ v, e = .returned v) ∧ J [] W' := by
  have hT0 : W.cell? ⟨t, 0, none⟩ = some (.slice A la ca) := by rw [cell_of_row W t 0 _ _ _ hT]; rfl
  have hT1 : W.cell? ⟨t, 1, none⟩ = some (.slice B lb cb) := by rw [cell_of_row W t 1 _ _ _ hT]; rfl
  clear hT
  refine callsIn_of_wp Try.func87 rfl trivial ?_ rfl
  simp only [Try.ntmps87, List.size_toArray, List.length_cons, List.length_nil, Nat.reduceAdd, Nat.reduceSub, Array.replicate_succ, Array.replicate_zero, List.push_toArray, List.append_toArray, List.nil_append, List.cons_append]
  gi_wp2
  gi_loopw [3, 4] (fun vi vk wr => vi = .int .i64 0 ∧ vk = .int .i64 0 ∧ wr = W) (fun _ _ _ => 0)
  case atStart => exact ⟨rfl, rfl, rfl⟩
  case round =>
    obtain ⟨rfl, rfl, rfl⟩ := hrel
    by_cases ha : la = 0
    · subst ha
      gi_wp2
      go_end0
      exact ⟨⟨_, rfl⟩, h0⟩
    · have hb : lb = 0 := by omega
      subst hb
      have ha1 : (0 : Int) < la := by omega
      have ha2 : 0 < la := by omega
      gi_wp2
      go_end0
      exact ⟨⟨_, rfl⟩, h0⟩

set_option maxHeartbeats 1000000 in
theorem pairs_in (n : Nat) (p : Option Addr) (w : World) :
    CallsIn Fence.wide n Try.prog 84 #[.pointer p] w fun e w' => e = .returned (.func (.func 87) #[] #[.pointer (some ⟨w.heap.size, 0, none⟩)]) ∧ w' = w.alloc (.cells #[.pointer p] 131) := by
  refine callsIn_of_wp Try.func84 rfl trivial ?_ rfl
  simp only [Try.ntmps84, List.size_toArray, List.length_cons, List.length_nil, Nat.reduceAdd, Nat.reduceSub, Array.replicate_succ, Array.replicate_zero, List.push_toArray, List.append_toArray, List.nil_append, List.cons_append]
  gi_wp2
  go_ret
  exact ⟨rfl, rfl⟩

theorem pairs_nil {za zb : List Int} (h : za.length = 0 ∨ zb.length = 0) : pairs za zb = [] := by
  unfold pairs
  rcases h with h | h
  · rw [List.eq_nil_of_length_eq_zero h]; rfl
  · rw [List.eq_nil_of_length_eq_zero h, prs_nil]

/-- What the iterator wants of the world: the table's block, its row, the two lists. -/
structure TabAt (S : Nat → Prop) (t base : Nat) (za zb : List Int) (W : World) : Prop where
  tab : (∃ g ba oa ca bb ob cb, S g ∧ S ba ∧ S bb ∧ W.heap[t]? = some (.cells #[.slice (some ⟨ba, oa, none⟩) za.length ca, .slice (some ⟨bb, ob, none⟩) zb.length cb, .slice (some ⟨g, 0, none⟩) (za.length * zb.length) (za.length * zb.length)] 138 (0, 0)) ∧
      W.ownsRow base 3 1 (.slice (some ⟨g, 0, none⟩) (za.length * zb.length) (za.length * zb.length)) (za.length * zb.length) ((tab za zb).map (Value.int .i64)) ∧
      (∀ i, i < za.length → W.cell? ⟨ba, oa + i, none⟩ = some (.int .i64 (za.getD i 0))) ∧ (∀ i, i < zb.length → W.cell? ⟨bb, ob + i, none⟩ = some (.int .i64 (zb.getD i 0)))) ∨
    ((za.length = 0 ∨ zb.length = 0) ∧ ∃ A B ca cb vh, W.heap[t]? = some (.cells #[.slice A za.length ca, .slice B zb.length cb, vh] 138 (0, 0)))
  lt : S t
theorem TabAt.keeps {S : Nat → Prop} {t base : Nat} {za zb : List Int} {W W' : World} (h : TabAt S t base za zb W) (hb : Keeps S W W') : TabAt S t base za zb W' := by
  refine ⟨?_, h.lt⟩
  rcases h.tab with ⟨g, ba, oa, ca, bb, ob, cb, h1, h2, h3, h4, h5, h6, h7⟩ | ⟨h1, A, B, ca, cb, vh, h2⟩
  · exact .inl ⟨g, ba, oa, ca, bb, ob, cb, h1, h2, h3, (hb.block t h.lt).trans h4, own_at h5 (hb.block g h1), fun i hi => (hb.cell (p := ⟨ba, oa + i, none⟩) h2).trans (h6 i hi), fun i hi => (hb.cell (p := ⟨bb, ob + i, none⟩) h3).trans (h7 i hi)⟩
  · exact .inr ⟨h1, A, B, ca, cb, vh, (hb.block t h.lt).trans h2⟩

theorem pairs_stops (S : Nat → Prop) (n : Nat) (hn : 1 ≤ n) (Bt t base : Nat) (za zb : List Int) (hla : za.length ≤ 1048575) (hlb : zb.length ≤ 1048575) (w : World) (hB : S Bt) (hn₀ : ∀ k, S k → k < w.heap.size)
    (hc : w.cell? ⟨Bt, 0, none⟩ = some (.pointer (some ⟨t, 0, none⟩))) (hT : TabAt S t base za zb w) :
    SeqStopsK Fence.wide n Try.prog 87 #[.pointer (some ⟨Bt, 0, none⟩)] encPair (Keeps S) (fun ys => ys = pairs za zb) (fun pre => pre <+: pairs za zb) (za.length + 1) w := by
  intro l J Jx W hW hJ _ hY h0
  have hT' := hT.keeps (Keeps.of_below hW hn₀)
  have hc' := ((Keeps.of_below hW hn₀).cell (p := ⟨Bt, 0, none⟩) hB).trans hc
  rcases hT'.tab with ⟨g, ba, oa, ca, bb, ob, cb, h1, h2, h3, h4, h5, h6, h7⟩ | ⟨h1, A, B, ca, cb, vh, h2⟩
  · exact pairs1_in S n hn l Bt t g ba oa ca bb ob cb za zb hla hlb hB hT'.lt h1 h2 h3 base J Jx hY W hJ hc' h4 h5 h6 h7 h0
  · refine (pairs1_nil_in n l Bt t _ ca _ cb A B vh h1 J W hc' h2 h0).mono ?_
    rintro e W' ⟨he, hj⟩
    exact ⟨he, .inl ⟨[], (pairs_nil h1).symm, hj⟩⟩

theorem TabAt.mono {S S' : Nat → Prop} {t base : Nat} {za zb : List Int} {W : World} (h : TabAt S t base za zb W) (hS : ∀ k, S k → S' k) : TabAt S' t base za zb W := by
  refine ⟨?_, hS _ h.lt⟩
  rcases h.tab with ⟨g, ba, oa, ca, bb, ob, cb, h1, h2, h3, h4⟩ | h4
  · exact .inl ⟨g, ba, oa, ca, bb, ob, cb, hS _ h1, hS _ h2, hS _ h3, h4⟩
  · exact .inr h4
theorem infoPair : (Try.prog.info? 115).map (fun i => (i.zero, i.size, i.bytes)) = some (some (.agg #[.int .i64 0, .int .i64 0]), 2, 16) := by kernel_rfl
def cellsPair (p : Nat × Nat) : List Value := [.int .i64 (p.1 : Int), .int .i64 (p.2 : Int)]
theorem Keeps.putObj {S : Nat → Prop} {w : World} (hS : ∀ k, S k → k < w.heap.size) (W : World) (l : Nat) (o o' : Obj) (hl : w.heap.size ≤ l) (_ : W.heap[l]? = some o) (_ : o.isCells = false) (_ : o.isWalk = false) : Keeps S W (W.putObj l o') :=
  ⟨fun k hk => World.putObj_heap_other (by have := hS k hk; omega)⟩

set_option maxRecDepth 100000 in
set_option maxHeartbeats 4000000 in
theorem Pairs_calls (va vb : Value) (za zb : List Int) (w : World) (hla : za.length ≤ 1048575) (hlb : zb.length ≤ 1048575) (hA : Rd (· < w.heap.size) w va (za.map (D.int .i64))) (hB : Rd (· < w.heap.size) w vb (zb.map (D.int .i64))) :
    Calls Try.prog 71 #[va, vb] w fun e w' => ∃ v, e = .returned v ∧ w'.ownsRow w.heap.size 115 2 v (pairs za zb).length ((pairs za zb).flatMap cellsPair) ∧ Below w.heap.size w w' := by
  refine (callsIn_wide (n := 3)).1 ?_
  obtain ⟨A, ca, rfl, hca, _⟩ := hA.form
  obtain ⟨B, cb, rfl, hcb, _⟩ := hB.form
  simp only [List.length_map] at hca hcb
  have hR : ∀ W, Below w.heap.size w W → w.heap.size < W.heap.size → Calls Try.prog 83 #[.slice A (za.map (D.int .i64)).length ca, .slice B (zb.map (D.int .i64)).length cb] W fun e w' => ∃ t, e = .returned (.pointer (some ⟨t, 0, none⟩)) ∧ W.heap.size ≤ t ∧
      TabAt (fun k => k < w'.heap.size ∧ k ≠ w.heap.size) t W.heap.size za zb w' ∧ Below W.heap.size W w' := by
    intro W hW hsz
    simp only [List.length_map]
    by_cases hz : za.length = 0 ∨ zb.length = 0
    · refine (reckon_empty A B _ ca _ cb W hz hla hlb).mono ?_
      rintro e w' ⟨t, g, rfl, h1, h2, h3, h4⟩
      have ht := (Array.getElem?_eq_some_iff.1 h3).1
      exact ⟨t, rfl, by omega, ⟨.inr ⟨hz, A, B, ca, cb, _, h3⟩, by omega, by omega⟩, h4⟩
    · obtain ⟨ba, oa, rfl, hba, _, ha⟩ := hA.ints (by omega)
      obtain ⟨bb, ob, rfl, hbb, _, hb⟩ := hB.ints (by omega)
      have ha' := fun i hi => (hW.cell (p := ⟨ba, oa + i, none⟩) hba).trans (ha i hi)
      have hb' := fun i hi => (hW.cell (p := ⟨bb, ob + i, none⟩) hbb).trans (hb i hi)
      refine (reckon_calls ba oa ca bb ob cb za zb W hla hlb (by omega) (by omega) (by omega) (by omega) ha' hb').mono ?_
      rintro e w' ⟨t, g, rfl, h1, h2, h3, h4, h5⟩
      have ht := (Array.getElem?_eq_some_iff.1 h3).1
      have hs5 := h5.size
      exact ⟨t, rfl, by omega, ⟨.inl ⟨g, ba, oa, ca, bb, ob, cb, ⟨by omega, by omega⟩, ⟨by omega, by omega⟩, ⟨by omega, by omega⟩, h3, h4, fun i hi => (h5.cell (p := ⟨ba, oa + i, none⟩) (by simp only []; omega)).trans (ha' i hi), fun i hi => (h5.cell (p := ⟨bb, ob + i, none⟩) (by simp only []; omega)).trans (hb' i hi)⟩, by omega, by omega⟩, h5⟩
  simp only [List.length_map] at hR ⊢
  obtain ⟨i0, hi, hz0, hz1, hz2⟩ := info_parts infoPair
  have hfn : Fence.wide.fn 83 := trivial
  have hfn2 : Fence.wide.fn 84 := trivial
  have hsz : w.heap.size < (w.alloc (.cells #[.slice none 0 0] 112)).heap.size := by simp
  refine callsIn_of_wp_marks Try.func71 rfl trivial ?_ rfl
  simp only [Try.ntmps71, List.size_toArray, List.length_cons, List.length_nil, Nat.reduceAdd, Nat.reduceSub, Array.replicate_succ, Array.replicate_zero, List.push_toArray, List.append_toArray, List.nil_append, List.cons_append]
  have HRR := Lib.hid hR
  clear hR hA hB
  gi_wp2_with (first
    | (gi_at_call 83; go_must (refine (callsIn_wide.2 (HRR.out _ ((Below.refl _ w).alloc (Nat.le_refl _) _) (by simp))).mono ?_); rintro e w1 ⟨t, rfl, ht, hT, hb1⟩)
    | (gi_at_call 84; go_must (refine (pairs_in _ _ _).mono ?_); rintro e w2 ⟨rfl, rfl⟩))
  have hs1 : w.heap.size + 1 ≤ w1.heap.size := by have := hb1.size; simp at this; omega
  have hb1' : Below w.heap.size w w1 := ((Below.refl _ w).alloc (Nat.le_refl _) _).trans (hb1.mono (by simp))
  have bO : Boxed w1 w.heap.size 112 (.slice none 0 0) := (hb1.block w.heap.size (by simp)).trans (Boxed.new w _ _)
  have bT := Boxed.new w1 131 (.pointer (some ⟨t, 0, none⟩))
  have hT2 := (hT.keeps (Keeps.of_below ((Below.refl w1.heap.size w1).alloc (Nat.le_refl _) (.cells #[.pointer (some ⟨t, 0, none⟩)] 131)) (fun k hk => hk.1))).mono (S' := fun k => k < w1.heap.size + 1 ∧ k ≠ w.heap.size) (fun k hk => ⟨by omega, hk.2⟩)
  have bO0 := bO.alloc (.cells #[.pointer (some ⟨t, 0, none⟩)] 131)
  have hB0 := hb1'.alloc (by omega) (.cells #[.pointer (some ⟨t, 0, none⟩)] 131)
  have hs0 : (w1.alloc (.cells #[.pointer (some ⟨t, 0, none⟩)] 131)).heap.size = w1.heap.size + 1 := by simp
  obtain ⟨W0, hW0⟩ : ∃ W0, w1.alloc (.cells #[.pointer (some ⟨t, 0, none⟩)] 131) = W0 := ⟨_, rfl⟩
  rw [hW0] at hs0 hT2 bO0 bT hB0 ⊢
  clear hW0 hT bO hb1 hb1' hsz
  have hlen : (pairs za zb).length ≤ 1048575 := by have := prs_len za 0 0 zb; unfold pairs; omega
  generalize w1.heap.size = Bt at *
  have HS0 := Lib.hid hs0
  refine wpIn_rangeFunc_ownH rfl (by omega) (gf := 87) (lb := #[.pointer (some ⟨Bt, 0, none⟩)]) rfl trivial (enters_of Try.func87 (by kernel_rfl) rfl)
    (pairs_stops (fun k => k < Bt + 1 ∧ k ≠ w.heap.size) 2 (by omega) Bt t _ za zb hla hlb W0 ⟨by omega, by omega⟩ (fun k hk => by omega) bT.cell hT2)
    Keeps.trans (Keeps.putObj (fun k hk => by omega)) (Below.refl _ _) (fun _ => rfl)
    (fun pre W => (∃ v, Boxed W w.heap.size 112 v ∧ W.ownsRow (Bt + 1) 115 2 v pre.length (pre.flatMap cellsPair) ∧ True) ∧ Below w.heap.size w W ∧ Bt + 1 ≤ W.heap.size)
    (fun _ _ _ => False)
    (OwnFrom.and (Own.from (holdsRow_own (Bt + 1) w.heap.size 112 115 2 (fun (pre : List (Nat × Nat)) => pre.length) (fun (pre : List (Nat × Nat)) => pre.flatMap cellsPair) (fun _ _ => True)) _) (OwnFrom.and (ownFrom_below (Nat.le_refl _) (by omega)) (fun _ _ _ _ hs hg _ => Nat.le_trans hs hg.size)))
    (fun _ _ _ _ _ hs _ _ => hs)
    ⟨⟨_, bO0, World.ownsRow_nil _ _ _ _, trivial⟩, hB0, by omega⟩
    (fun x a' W => ∃ Bx, Bt < Bx ∧ W.heap[Bx]? = some (.cells #[.int .i64 (x.1 : Int), .int .i64 (x.2 : Int)] 115 (0, 0)) ∧
      a' = { tmps := #[.slice A za.length ca, .slice B zb.length cb, undef, undef, .slice none 0 0, .pointer (some ⟨w.heap.size, 0, none⟩), .pointer (some ⟨Bx, 0, none⟩), .slice A za.length ca, .slice B zb.length cb, .pointer (some ⟨t, 0, none⟩),
        .func (.func 87) #[] #[.pointer (some ⟨Bt, 0, none⟩)], .agg #[.int .i64 (x.1 : Int), .int .i64 (x.2 : Int)], undef, undef, undef, undef, undef], defers := [] })
    (fun x a' _ X Y row hs hg hr => by
      obtain ⟨Bx, h1, h2, h3⟩ := hs
      refine ⟨Bx, h1, (hg.block Bx (Array.getElem?_eq_some_iff.1 h2).1 (fun e => ?_)).trans h2, h3⟩
      obtain ⟨_, o, ho, hc⟩ := hr Bx e.symm
      rw [h2] at ho; cases ho; cases hc)
    ?assign ?body ?done ?stop
  case assign =>
    rintro l pre x W K ⟨⟨v, hv, hrow, _⟩, hB1, hB1'⟩ hK
    have HK := Lib.hid hK
    clear hK hs0
    simp only [encPair]
    gi_wp2
    have hs0 := HS0.out
    have hlt0 := hv.lt
    have hsz1 := hrow
    exact HK.out _ _ ((KeepsOthers.alloc _ _).from _) (Keeps.of_below ((Below.refl _ W).alloc (Nat.le_refl _) _) (fun k hk => Nat.lt_of_lt_of_le hk.1 hB1')) ⟨⟨v, hv.alloc _, hrow.alloc _, trivial⟩, hB1.alloc hB1.size _, by simp; omega⟩ ⟨W.heap.size, hB1', World.alloc_heap_new W _, rfl⟩
  case body =>
    rintro l pre x a' W hl ⟨r, hr⟩ ⟨⟨v, hv, hrow, _⟩, hB1, hB1'⟩ ⟨Bx, hBx, hbx, rfl⟩ hlt
    have hc := hv.cell
    have hx0 : W.cell? ⟨Bx, 0, none⟩ = some (.int .i64 (x.1 : Int)) := by rw [cell_of_row W Bx 0 _ _ _ hbx]; rfl
    have hx1 : W.cell? ⟨Bx, 1, none⟩ = some (.int .i64 (x.2 : Int)) := by rw [cell_of_row W Bx 1 _ _ _ hbx]; rfl
    have hpl : pre.length ≤ 1048576 := by omega
    have HB := Lib.hid hbx
    have HR := Lib.hid hr
    clear hbx hr hs0
    gi_wp2_with (gi_at_builtin; go_must (refine wpListIn_append_own _ rfl _ _ 112 rfl (Bt + 1) 115 i0 _ 2 16 Try.underlying112 hi hz0 hz1 hz2 rfl (by decide) _ _ _ rfl (hrow.alloc _) ⟨W.heap.size, 0, none⟩ 1 1 (cellsPair x) rfl rfl (by simpa [cellsPair] using World.news_of_block (cs := #[.int .i64 (x.1 : Int), .int .i64 (x.2 : Int)]) (t := 115) (fr := (0, 0)) (heap_alloc_new W _)) (by simp [cellsPair, Value.oneCell']) (by simp only [maxLen]; omega) (by omega) (by simp; omega) ?_); intro v' w1 hown' hgrow _; obtain ⟨g', cap', rfl⟩ := ownsRow_succ hown'; obtain ⟨hv1, hv2, hr2, hk2, hb2⟩ := hv.appended (by decide) (own_lower hrow (by omega)) hB1.size (Nat.le_refl _) (own_lower hown' (by omega)) hgrow; have hc1 := hv1.cell; have hf1 := hv1.frozen)
    have hr3 := hown'.kept (grownBy_setCell' w1 w.heap.size (.slice (some ⟨g', 0, none⟩) (pre.length + 1) cap')) (.inr (hv1.not_row (by decide) hown').symm)
    refine ⟨hk2.from _, ⟨fun k hk => ?_⟩, ⟨_, hv2, by simpa [List.flatMap_append, cellsPair] using hr3, trivial⟩, hB1.trans hb2, Nat.le_trans hB1' (by have := hgrow.size; simp at this; simp [World.setCell]; omega)⟩
    rw [Below.heap_setCell _ _ _ k hk.2]
    rw [hgrow.block k (by simp; omega) (fun e => by have := own_ge hrow k e.symm; omega)]
    exact Below.heap_alloc W _ k (by omega)
  case done =>
    rintro D ys W hD rfl ⟨⟨v, hv, hrow, _⟩, hB1, hB1'⟩ hK
    have hc := hv.cell
    gi_wp2
    refine ⟨by simp, .inl ⟨_, _, rfl, run_takeDeferred hK, ?_⟩⟩
    exact ⟨_, results_tmp rfl _ _ _, v, rfl, own_lower (ownsRow_putObj hrow _ hK rfl) (by omega), hB1.trans (belowK_b (w := w) (Nat.le_refl _) W D _ _ (by omega) hK rfl rfl)⟩
  case stop =>
    rintro D c pre W _ _ h _
    exact h.elim
end Go.Proofs.Ytnoloihdcmgbaaa