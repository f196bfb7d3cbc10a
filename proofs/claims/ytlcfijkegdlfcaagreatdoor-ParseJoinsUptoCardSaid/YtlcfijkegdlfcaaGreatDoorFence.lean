/- The walk of the reader's fence. -/
import Derived.Test.YtlcfijkegdlfcaaGreatDoorRun
import Derived.Test.YtlcfijkegdlfcaaGreatDoorTill
import Derived.Test.YtlcfijkegdlfcaaGreatDoorStepOne
import Derived.Test.YtlcfijkegdlfcaaGreatDoorStore
import Derived.Test.YtlcfijkegdlfcaaGreatDoorLit
import Derived.Test.YtlcfijkegdlfcaaGreatDoorResB
import Derived.Deep.RegionHeld3
namespace Go.Proofs.YtlcfijkegdlfcaaGreatDoor
open Go.RowKit Go.PlainAid
set_option linter.all false
set_option linter.deprecated false
set_option maxRecDepth 100000
/-- A block that comes, and what the reader has before it then. -/
def BlkTo (w : World) (b B : Nat) (A : Option Addr) (n c : Nat) (ls : List ByteArray) (d : Nat) (x : Bl) (rest : List Ln) (e : Ending) (w' : World) : Prop :=
  ∃ v1 v2 v3, ∃ k' : Nat, e = .returned (.agg #[.int .i64 x.kind, .int .i64 x.level, .string x.info, v1, v2, v3]) ∧ Rd (w.heap.size ≤ ·) w' v1 (x.lines.map D.str) ∧ Rd (w.heap.size ≤ ·) w' v2 (dSps x.spans) ∧ Rd (w.heap.size ≤ ·) w' v3 (dBls x.kids) ∧
    Rds w' b B A n c ls k' d ∧ (ls.map bl).drop k' = rest ∧ w.grownBy w' (some b)
theorem infoStrP : (Tryz.prog.info? 9).map (fun i => (i.zero, i.size, i.bytes)) = some (some (.string ByteArray.empty), 1, 16) := by kernel_rfl
/-- What fence has behind the beginning. -/
structure FSt (w0 w : World) (b : Nat) (A : Option Addr) (n c : Nat) (ls : List ByteArray) (d b5 : Nat) (info : ByteArray) (k i : Nat) (v : Value) : Prop where
  r : Rdr w b (.slice A n c) (k + 1 + i) d
  hk : k + 1 + i ≤ n
  z : w.heap[w0.heap.size]? = some (.cells #[.int .i64 0, .int .i64 0, .string ⟨#[]⟩, .slice none 0 0, .slice none 0 0, .slice none 0 0] 36 (0, 0))
  x : w.heap[b5]? = some (.cells #[.int .i64 4, .int .i64 0, .string info, v, .slice none 0 0, .slice none 0 0] 36 (0, 0))
  o : w.ownsRow (b5 + 1) 9 1 v i (((ls.drop (k + 1)).take i).map Value.string)
  g : w0.grownBy w (some b)
theorem FSt.below {w0 w w' : World} {b n c d b5 k i : Nat} {A : Option Addr} {ls : List ByteArray} {info : ByteArray} {v : Value} (h : FSt w0 w b A n c ls d b5 info k i v) (hb : Below w.heap.size w w') : FSt w0 w' b A n c ls d b5 info k i v :=
  ⟨h.r.below hb, h.hk, (hb.block _ (Array.getElem?_eq_some_iff.1 h.z).1).trans h.z, (hb.block _ (Array.getElem?_eq_some_iff.1 h.x).1).trans h.x, own_same h.o (fun g hg => hb.block g (h.o.lt g hg).2), mv_trans h.g (mv_below hb b)⟩
theorem ba_lines : ∀ l : List ByteArray, (l.map bl).map ba = l
  | [] => rfl
  | s :: l => by rw [List.map_cons, List.map_cons, ba_bl, ba_lines l]
theorem fence_fin {w W : World} {b B n c k k' d b5 i : Nat} {A : Option Addr} {ls rows : List ByteArray} {v : Value} {L rest : List Ln} (IN : ByteArray) (cs : List Value) (H : Rds w b B A n c ls k d) (hr : Rdr W b (.slice A n c) k' d) (hk' : k' ≤ n)
    (hg : w.grownBy W (some b)) (ho : W.ownsRow (b5 + 1) 9 1 v i (rows.map Value.string)) (h5 : w.heap.size ≤ b5) (hL : L.map ba = rows) (hrest : (ls.map bl).drop k' = rest) :
    BlkTo w b B A n c ls d (.mk 4 0 IN (L.map ba) [] []) rest (.returned (.agg #[.int .i64 4, .int .i64 0, .string IN, v, .slice none 0 0, .slice none 0 0])) (W.setCells w.heap.size 0 cs) := by
  have hb2 := setCells_below (Nat.le_refl w.heap.size) cs 0 _ (Below.refl w.heap.size W)
  have hfin := mv_low hg hb2
  have hr2 : Rdr (W.setCells w.heap.size 0 cs) b (.slice A n c) k' d := (hb2.block b H.lt).trans hr
  refine ⟨v, .slice none 0 0, .slice none 0 0, k', rfl, ?_, Rd.nil _ _, Rd.nil _ _, H.to hfin hr2 hk', hrest, hfin⟩
  show Rd _ _ _ ((L.map ba).map D.str)
  rw [hL]
  exact Rd.own_strs (setCells_own ho (fun e => by have := own_ge ho _ e; omega) cs 0) (fun q e => by have := own_ge ho _ e; omega)
set_option maxHeartbeats 4000000 in
theorem fence_calls (b B n c k d : Nat) (A : Option Addr) (ls : List ByteArray) (w : World) (h : Rds w b B A n c ls k d) (hk : k < n) (h4 : kindL (bl (lnAt ls k)) = 4) :
    Calls Tryz.prog 52 #[.pointer (some ⟨b, 0, none⟩)] w (BlkTo w b B A n c ls d
      (fenceB (bl (lnAt ls k)) (((ls.map bl).drop (k + 1)).takeWhile fun x => !closesL (openL (bl (lnAt ls k))) x)) ((((ls.map bl).drop (k + 1)).dropWhile fun x => !closesL (openL (bl (lnAt ls k))) x).drop 1)) := by
  have hop := open_le (bl (lnAt ls k))
  obtain ⟨g, o, rfl, hg, hc, hs, hd⟩ := h.at hk
  change w.cell? ⟨g, o + k, none⟩ = some (.string (lnAt ls k)) at hc
  change (lnAt ls k).size ≤ _ at hs
  have hO := fun W (hW : Below w.heap.size w W) => KOpen_calls (lnAt ls k) W hs (h.tab.up hW) h4
  have HO := Lib.hid hO
  have hfe : ∀ l, fenceB (bl (lnAt ls k)) l = .mk 4 0 (ba (trimL ((bl (lnAt ls k)).drop (openL (bl (lnAt ls k)))))) (l.map ba) [] [] := fun l => rfl
  rw [hfe]
  rw [bl_len] at hop
  have hop2 : openL (bl (lnAt ls k)) ≤ 4294967280 := by omega
  generalize ba (trimL ((bl (lnAt ls k)).drop (openL (bl (lnAt ls k))))) = IN at *
  generalize openL (bl (lnAt ls k)) = N at *
  have H := Lib.hid h
  obtain ⟨c0, c1, _, _, hb⟩ := h.r.facts
  have hkz : (k : Int) < n := by omega
  generalize lnAt ls k = S at *
  clear hO h hfe hop hd
  go_enter Tryz.func52, Tryz.ntmps52
  go_wp2
  have hbA := (Below.refl w.heap.size w).alloc (Nat.le_refl _) (.cells #[.int .i64 0, .int .i64 0, .string ⟨#[]⟩, .slice none 0 0, .slice none 0 0, .slice none 0 0] 36)
  have hzA := heap_alloc_new w (.cells #[.int .i64 0, .int .i64 0, .string ⟨#[]⟩, .slice none 0 0, .slice none 0 0, .slice none 0 0] 36)
  have hsA := World.size_alloc w (.cells #[.int .i64 0, .int .i64 0, .string ⟨#[]⟩, .slice none 0 0, .slice none 0 0, .slice none 0 0] 36)
  have hcA := below_at' hbA (World.block_lt_of_cell? w _ hc) hc
  have hrA := H.out.below hbA
  generalize w.alloc (.cells #[.int .i64 0, .int .i64 0, .string ⟨#[]⟩, .slice none 0 0, .slice none 0 0, .slice none 0 0] 36) = W0 at *
  obtain ⟨d0, d1, _, _, hbA2⟩ := hrA.r.facts
  have hb0 := Below.drew hbA
  have HB0 := Lib.hid hb0
  have HRA := Lib.hid hrA
  have hgl := World.block_lt_of_cell? _ _ hcA
  clear hb0 hbA hrA c0 c1
  go_region_held3 (fun w' => w'.cell? ⟨b, 0, none⟩ = some (.slice (some ⟨g, o, none⟩) n c) ∧ w'.cell? ⟨b, 1, none⟩ = some (.int .i64 k) ∧ w'.cell? ⟨g, o + k, none⟩ = some (.string S))
    (first | go_keep | exact ⟨below_at' hbq hbA2 d0, below_at' hbq hbA2 d1, below_at' hbq hgl hcA⟩)
    (first | (go_at_call 83; (with_reducible refine (HO.out _ (by exact HB0.out)).mono ?_); rintro e w1 ⟨rfl, hbq⟩))
  have hbq : Below W0.heap.size W0 w1 := ⟨hbq.os, hbq.tape, hbq.output, hbq.size, hbq.block⟩
  have hr1 := HRA.out.below hbq
  have hz1 := (hbq.block w.heap.size (by omega)).trans hzA
  have hs1 : w.heap.size < w1.heap.size := by have h := hbq.size; omega
  have hb1 := below_to (B := w.heap.size) (w := w) (w1 := W0) ⟨HB0.out.os, HB0.out.tape, HB0.out.output, HB0.out.size, HB0.out.block⟩ HB0.out.size hbq
  clear d0 d1 hcA
  obtain ⟨d0, d1, _, f1, hbl⟩ := hr1.r.facts
  clear HRA HB0 HO hbq hzA
  have hnm := hr1.hn
  obtain ⟨K1, hK1⟩ : ∃ K1, K1 = k + 1 := ⟨_, rfl⟩
  have k1 : IntKind.i64.wrap ((k : Int) + 1) = (K1 : Int) := by rw [IntWalk.i64_in _ (by omega)]; omega
  have HK1 := Lib.hid hK1
  have HR1 := Lib.hid hr1
  have HZ1 := Lib.hid hz1
  have HB1 := Lib.hid hb1
  clear hK1 hr1 hz1 hb1
  go_wp2_with fail
  have hbw := H.out.lt
  have hset := (mv_set (w := w1) (b := b) (i := 1) (v := .int .i64 K1))
  have hsz2 : (w1.setCell ⟨b, 1, none⟩ (.int .i64 K1)).heap.size = w1.heap.size := by simp [World.setCell]
  have hal := (Below.refl (w1.setCell ⟨b, 1, none⟩ (.int .i64 K1)).heap.size (w1.setCell ⟨b, 1, none⟩ (.int .i64 K1))).alloc (Nat.le_refl _) (.cells #[.int .i64 4, .int .i64 0, .string IN, .slice none 0 0, .slice none 0 0, .slice none 0 0] 36)
  have hst : FSt w ((w1.setCell ⟨b, 1, none⟩ (.int .i64 K1)).alloc (.cells #[.int .i64 4, .int .i64 0, .string IN, .slice none 0 0, .slice none 0 0, .slice none 0 0] 36)) b (some ⟨g, o, none⟩) n c ls d w1.heap.size IN k 0 (.slice none 0 0) := by
    have hk1 := HK1.out
    have hx := heap_alloc_new (w1.setCell ⟨b, 1, none⟩ (.int .i64 K1)) (.cells #[.int .i64 4, .int .i64 0, .string IN, .slice none 0 0, .slice none 0 0, .slice none 0 0] 36)
    rw [hsz2] at hx
    refine ⟨?_, by omega, ?_, hx, ?_, mv_trans (mv_trans (mv_below HB1.out b) hset) (mv_below hal b)⟩
    · rw [Nat.add_zero, ← hk1]; exact (HR1.out.r.set K1).below hal
    · refine (hal.block _ (by rw [hsz2]; exact hs1)).trans ((hset.block _ hs1 (fun e => by injection e with e; omega)).trans HZ1.out)
    · exact World.ownsRow_nil _ _ _ _
  generalize (w1.setCell ⟨b, 1, none⟩ (.int .i64 K1)).alloc (.cells #[.int .i64 4, .int .i64 0, .string IN, .slice none 0 0, .slice none 0 0, .slice none 0 0] 36) = W2 at *
  have h5 : w.heap.size ≤ w1.heap.size := Nat.le_of_lt hs1
  generalize w1.heap.size = b5 at *
  have HST := Lib.hid hst
  clear hal hset hsz2 hst HR1 HZ1 HB1 d0 d1 f1 k1 hbl hbq
  go_loopw [] (fun wr => ∃ i v, FSt w wr b (some ⟨g, o, none⟩) n c ls d b5 IN k i v ∧ ∀ x ∈ ((ls.map bl).drop (k + 1)).take i, (!closesL N x) = true) (fun wr => n - (match wr.cell? ⟨b, 1, none⟩ with | some v => (intOf v).toNat | none => 0))
  case atStart => exact ⟨0, _, HST.out, by simp⟩
  case round =>
    clear HST
    obtain ⟨i, v, hf, hcl⟩ := hrel
    have HF := Lib.hid hf
    have HCL := Lib.hid hcl
    have hMn := hf.hk
    obtain ⟨M, hM⟩ : ∃ M, M = k + 1 + i := ⟨_, rfl⟩
    have hmz := hf.r.facts.2.1
    obtain ⟨d0, d1, _, f1, hbl⟩ := hf.r.facts
    rw [← hM] at d1 hMn
    have HM := Lib.hid hM
    have HMZ := Lib.hid hmz
    clear hM hmz hf hcl
    by_cases hlt : M < n
    · have hltz : (M : Int) < n := by omega
      go_wp2_with fail
      go_quiet (fail)
      obtain ⟨wq, hwq⟩ : ∃ wq, wq = wr.drewN nq := ⟨_, rfl⟩
      rw [← hwq]
      have hfq := HF.out.below (show Below wr.heap.size wr wq by rw [hwq]; exact below_drewN (Below.refl _ _) _)
      clear hwq d0 d1 f1 hbl
      have e := HM.out
      have hrq := H.out.to hfq.g hfq.r hfq.hk
      obtain ⟨hc, hs, hd, hd2⟩ := hrq.cell hlt
      obtain ⟨d0, d1, _, f1, hbl⟩ := hfq.r.facts
      rw [← e] at d1
      have hC := fun W => KCloses_calls (lnAt ls M) N W hs hop2
      obtain ⟨CL, hCL⟩ : ∃ CL, closesL N (bl (lnAt ls M)) = CL := ⟨_, rfl⟩
      rw [hCL] at hC
      obtain ⟨L, hL⟩ : ∃ L, lnAt ls M = L := ⟨_, rfl⟩
      rw [hL] at hC hc hCL hd hd2 hs
      have HC := Lib.hid hC
      have HCC := Lib.hid hCL
      have HD := Lib.hid hd
      have HD2 := Lib.hid hd2
      clear hC hCL hd hd2 hL hrq e
      go_wp2_with fail
      go_still_tail 11, (by kernel_rfl)
      change wpList _ _ _ _ _ wq.drew
      have hfd := hfq.below (Below.drew (Below.refl _ _))
      have e0 : wq.drew.cell? ⟨b, 0, none⟩ = some (.slice (some ⟨g, o, none⟩) n c) := d0
      have e1 : wq.drew.cell? ⟨b, 1, none⟩ = some (.int .i64 M) := d1
      have e2 : wq.drew.frozen? ⟨b, 1, none⟩ = false := f1
      have e3 : wq.drew.cell? ⟨g, o + M, none⟩ = some (.string L) := hc
      have e4 : b < wq.drew.heap.size := hbl
      clear d0 d1 f1 hc hfq hbl
      generalize wq.drew = wd at *
      have HFD := Lib.hid hfd
      clear hfd
      go_wp2_with fail
      refine (HC.out _).mono ?_
      rintro e w2 ⟨rfl, hw2⟩
      have hw2 := hw2.symm
      subst hw2
      obtain ⟨M1, hM1⟩ : ∃ M1, M1 = M + 1 := ⟨_, rfl⟩
      have k1 : IntKind.i64.wrap ((M : Int) + 1) = (M1 : Int) := by rw [IntWalk.i64_in _ (by omega)]; omega
      have HM1 := Lib.hid hM1
      clear hM1 HC
      obtain ⟨va, vc, hv⟩ := own_slice HFD.out.o
      have hbw := H.out.lt
      have hne : ¬ b = b5 := by omega
      have hne' : ¬ b5 = b := by omega
      cases CL with
      | true =>
        have hz : (wd.setCell ⟨b, 1, none⟩ (.int .i64 M1)).heap[w.heap.size]? = some (.cells #[.int .i64 0, .int .i64 0, .string ⟨#[]⟩, .slice none 0 0, .slice none 0 0, .slice none 0 0] 36 (0, 0)) :=
          ((mv_set (w := wd) (b := b) (i := 1)).block _ (Array.getElem?_eq_some_iff.1 HFD.out.z).1 (fun e => by injection e with e; omega)).trans HFD.out.z
        obtain ⟨x0, x1, x2, x3, x4, x5⟩ := six HFD.out.x
        have hone : (#[.int .i64 4, .int .i64 0, .string IN, v, .slice none 0 0, .slice none 0 0] : Array Value).all (·.oneCell') = true := by rw [hv]; simp [Value.oneCell']
        clear hv
        go_wp2_with (refine wpList_store_mid rfl _ _ _ rfl w.heap.size 0 #[.int .i64 4, .int .i64 0, .string IN, v, .slice none 0 0, .slice none 0 0] rfl rfl (show (wd.setCell ⟨b, 1, none⟩ (.int .i64 M1)).there w.heap.size 0 6 from there_of_row hz) (by kernel_rfl) hone ?_; have hrow2 := setCells_whole [.int .i64 4, .int .i64 0, .string IN, v, .slice none 0 0, .slice none 0 0] hz rfl; generalize hw9 : World.setCells _ w.heap.size 0 _ = w9 at hrow2 ⊢; have HW9 := Lib.hid hw9; clear hw9)
        (try simp only [Exit.inBlock, Exit.then])
        refine bodyPost_ret (results_cell1 rfl _ _ w.heap.size _ _ _ _ rfl hrow2 Tryz.underlying36 rfl (by kernel_rfl)) rfl ?_
        have e := HM.out
        have e9 := HM1.out
        have hds := HD.out
        have hlen := H.out.len
        have hii : ∀ (h : i < ((ls.map bl).drop (k + 1)).length), (!closesL N ((ls.map bl).drop (k + 1))[i]) = false := fun h => by
          have h9 : ((ls.map bl).drop (k + 1))[i] = bl L := by
            have : ((ls.map bl).drop (k + 1)).drop i = bl L :: (ls.map bl).drop (M + 1) := by rw [List.drop_drop, ← e]; exact hds
            rw [List.drop_eq_getElem_cons h] at this
            exact (List.cons.inj this).1
          rw [h9, HCC.out]; rfl
        have htw := tw_here (t := (ls.map bl).drop (k + 1)) (p := fun x => !closesL N x) (i := i) HCL.out hii
        rw [htw.1, htw.2, ← HW9.out]
        have hset := (HFD.out.r.set M1)
        refine fence_fin IN _ H.out hset (by omega) (mv_trans HFD.out.g mv_set) (own_set HFD.out.o (fun q hq => by have := own_ge HFD.out.o q hq; show q ≠ b; omega)) h5 ?_ ?_
        · rw [← List.map_drop, ← List.map_take]; exact ba_lines _
        · rw [List.drop_drop, List.drop_drop]; congr 1; omega
      | false =>
        obtain ⟨_, _, _, x3, _, _⟩ := six HFD.out.x
        clear hv
        have hi32 : (i + 1) * 16 ≤ 140737488355328 := by have := HM.out; have := H.out.hn; omega
        go_wp2_with fail
        refine wp_region_till 13 (fun w' => w'.cell? ⟨b5, 3, none⟩ = some v ∧ w'.cell? ⟨b, 0, none⟩ = some (.slice (some ⟨g, o, none⟩) n c) ∧ w'.cell? ⟨b, 1, none⟩ = some (.int .i64 M) ∧ w'.cell? ⟨g, o + M, none⟩ = some (.string L)) (by kernel_rfl) ⟨x3, e0, e1, e3⟩ (fun hT => ?_)
        have hfd := HFD.out.below (Below.drew (Below.refl _ _))
        have hgl : g < wd.drew.heap.size := World.block_lt_of_cell? wd _ e3
        have h5l : b5 < wd.drew.heap.size := World.block_lt_of_cell? wd _ x3
        replace e0 : wd.drew.cell? ⟨b, 0, none⟩ = some (.slice (some ⟨g, o, none⟩) n c) := e0
        replace e1 : wd.drew.cell? ⟨b, 1, none⟩ = some (.int .i64 M) := e1
        replace e3 : wd.drew.cell? ⟨g, o + M, none⟩ = some (.string L) := e3
        replace e4 : b < wd.drew.heap.size := e4
        replace x3 : wd.drew.cell? ⟨b5, 3, none⟩ = some v := x3
        replace e2 : wd.drew.frozen? ⟨b, 1, none⟩ = false := e2
        clear HFD
        generalize wd.drew = wE at *
        have HFE := Lib.hid hfd
        clear hfd
        refine wpAnyT_take (i := 0) (v := ?_) rfl (by kernel_rfl) (fun _ _ _ h => h) (Or.inl ⟨by rfl, ?_⟩) hT (fun hT => ?_)
        rotate_left
        · intro w _; go_simp; try with_reducible rfl
        try simp only [Act.put, List.setIfInBounds_toArray, List.set_cons_zero, List.set_cons_succ]
        refine wpAnyT_load (i := 1) (v := ?_) 40 rfl (by kernel_rfl) (fun _ _ _ h => h) (Or.inl ⟨by rfl, ?_⟩) hT (fun hT => ?_)
        rotate_left
        · intro w hS; (try dsimp only at hS); go_split_ands; go_simp; try with_reducible rfl
        try simp only [Act.put, List.setIfInBounds_toArray, List.set_cons_zero, List.set_cons_succ]
        refine wpAnyT_take (i := 2) (v := ?_) rfl (by kernel_rfl) (fun _ _ _ h => h) (Or.inl ⟨by rfl, ?_⟩) hT (fun hT => ?_)
        rotate_left
        · intro w _; go_simp; try with_reducible rfl
        try simp only [Act.put, List.setIfInBounds_toArray, List.set_cons_zero, List.set_cons_succ]
        refine wpAnyT_take (i := 3) (v := ?_) rfl (by kernel_rfl) (fun _ _ _ h => h) (Or.inl ⟨by rfl, ?_⟩) hT (fun hT => ?_)
        rotate_left
        · intro w _; go_simp; try with_reducible rfl
        try simp only [Act.put, List.setIfInBounds_toArray, List.set_cons_zero, List.set_cons_succ]
        refine wpAnyT_take (i := 4) (v := ?_) rfl (by kernel_rfl) (fun _ _ _ h => h) (Or.inl ⟨by rfl, ?_⟩) hT (fun hT => ?_)
        rotate_left
        · intro w _; go_simp; try with_reducible rfl
        try simp only [Act.put, List.setIfInBounds_toArray, List.set_cons_zero, List.set_cons_succ]
        refine wpAnyT_load (i := 5) (v := ?_) 40 rfl (by kernel_rfl) (fun _ _ _ h => h) (Or.inl ⟨by rfl, ?_⟩) hT (fun hT => ?_)
        rotate_left
        · intro w hS; (try dsimp only at hS); go_split_ands; go_simp; try with_reducible rfl
        try simp only [Act.put, List.setIfInBounds_toArray, List.set_cons_zero, List.set_cons_succ]
        refine wpAnyT_take (i := 6) (v := ?_) rfl (by kernel_rfl) (fun _ _ _ h => h) (Or.inl ⟨by rfl, ?_⟩) hT (fun hT => ?_)
        rotate_left
        · intro w _; go_simp; try with_reducible rfl
        try simp only [Act.put, List.setIfInBounds_toArray, List.set_cons_zero, List.set_cons_succ]
        refine wpAnyT_take (i := 7) (v := ?_) rfl (by kernel_rfl) (fun _ _ _ h => h) (Or.inl ⟨by rfl, ?_⟩) hT (fun hT => ?_)
        rotate_left
        · intro w _; go_simp; try with_reducible rfl
        try simp only [Act.put, List.setIfInBounds_toArray, List.set_cons_zero, List.set_cons_succ]
        refine wpAnyT_take (i := 8) (v := ?_) rfl (by kernel_rfl) (fun _ _ _ h => h) (Or.inl ⟨by rfl, ?_⟩) hT (fun hT => ?_)
        rotate_left
        · intro w _; go_simp; try with_reducible rfl
        try simp only [Act.put, List.setIfInBounds_toArray, List.set_cons_zero, List.set_cons_succ]
        refine wpAnyT_load (i := 9) (v := ?_) 40 rfl (by kernel_rfl) (fun _ _ _ h => h) (Or.inl ⟨by rfl, ?_⟩) hT (fun hT => ?_)
        rotate_left
        · intro w hS; (try dsimp only at hS); go_split_ands; go_simp; try with_reducible rfl
        try simp only [Act.put, List.setIfInBounds_toArray, List.set_cons_zero, List.set_cons_succ]
        refine wpAnyT_take (i := 10) (v := ?_) rfl (by kernel_rfl) (fun _ _ _ h => h) (Or.inl ⟨by rfl, ?_⟩) hT (fun hT => ?_)
        rotate_left
        · intro w _; go_simp; try with_reducible rfl
        try simp only [Act.put, List.setIfInBounds_toArray, List.set_cons_zero, List.set_cons_succ]
        refine wpAnyT_load (i := 11) (v := ?_) 40 rfl (by kernel_rfl) (fun _ _ _ h => h) (Or.inl ⟨by rfl, ?_⟩) hT (fun hT => ?_)
        rotate_left
        · intro w hS; (try dsimp only at hS); go_split_ands; go_simp; try with_reducible rfl
        try simp only [Act.put, List.setIfInBounds_toArray, List.set_cons_zero, List.set_cons_succ]
        refine wpAnyT_ready (rs := [12]) (by kernel_rfl) (by simp) ?_
        refine ReadyT.cons rfl (fun K hK => ?_) ReadyT.nil
        go_simp
        have hbA := (Below.refl wE.heap.size wE).alloc (Nat.le_refl _) (.cells #[.string L] 9)
        have hgA := heap_alloc_new wE (.cells #[.string L] 9)
        have hsA := World.size_alloc wE (.cells #[.string L] 9)
        refine hK.out _ _ (fun _ => ⟨below_at' hbA h5l x3, below_at' hbA e4 e0, below_at' hbA e4 e1, below_at' hbA hgl e3⟩) (fun hT => ?_)
        clear hK K
        have hfA := HFE.out.below hbA
        clear HFE hbA
        generalize wE.alloc (.cells #[.string L] 9) = wA at *
        have HFA := Lib.hid hfA
        clear hfA
        try simp only [Act.put, List.setIfInBounds_toArray, List.set_cons_zero, List.set_cons_succ]
        refine wpAnyT_ready (rs := [13]) (by kernel_rfl) (by simp) ?_
        refine ReadyT.cons rfl (fun K hK => ?_) ReadyT.nil
        refine step_app_one (v := v) (n := i) (g := wE.heap.size) (b5 + 1) (by rfl) (.tmp 66) (.tmp 77) 31 9 (by rfl) Tryz.underlying31 infoStrP (by rfl) (by decide) (by decide) [.string L] (by rfl) (by rfl) rfl (by simp [Value.oneCell']) hgA (by exact HFA.out.o) (by omega) hi32 ?_
        intro v' w9 hown' hbe' hgr hat
        obtain ⟨vA', vc', hv'⟩ := own_slice hown'
        subst hv'
        refine hK.out _ _ (fun h => by simp at h) (fun hT => ?_)
        clear hK K
        have hr9 := (hbe'.block b (by omega)).trans HFA.out.r
        have hz9 := (hbe'.block w.heap.size (by omega)).trans HFA.out.z
        have hx9 := (hbe'.block b5 (by omega)).trans HFA.out.x
        have hg9 := mv_low HFA.out.g (hbe'.mono (by omega))
        have y3 := (row_facts hx9 3 rfl).1
        have y4 := (row_facts hx9 3 rfl).2
        have HF9 := Lib.hid (And.intro hr9 (And.intro hz9 (And.intro hx9 (And.intro hg9 hown'))))
        clear hr9 hz9 hx9 hg9 hown' hbe' hgr hat HFA e0 e1 e2 e3 x3 hgl h5l e4 hgA hsA
        try simp only [Act.put, List.setIfInBounds_toArray, List.set_cons_zero, List.set_cons_succ]
        refine wpAnyT_take (i := 14) (v := ?_) rfl (by kernel_rfl) (fun _ _ _ h => h) (Or.inl ⟨by rfl, ?_⟩) hT (fun hT => ?_)
        rotate_left
        · intro w _; go_simp; try with_reducible rfl
        try simp only [Act.put, List.setIfInBounds_toArray, List.set_cons_zero, List.set_cons_succ]
        refine wpAnyT_ready (rs := [15]) (by kernel_rfl) (by simp) ?_
        refine ReadyT.cons rfl (fun K hK => ?_) ReadyT.nil
        go_simp
        refine hK.out _ _ (fun h => by simp at h) (fun hT => ?_)
        clear hK K
        try simp only [Act.put, List.setIfInBounds_toArray, List.set_cons_zero, List.set_cons_succ]
        refine wpAnyT_done (by kernel_rfl) ?_ _
        obtain ⟨hr9, hz9, hx9, hg9, hown'⟩ := HF9.out
        have hms := mv_set (w := w9) (b := b5) (i := 3) (v := .slice vA' (i + 1) vc')
        have hrS := (hms.block b (Rdr.facts hr9).2.2.2.2 (fun e => by injection e with e; omega)).trans hr9
        have hzS := (hms.block w.heap.size (Array.getElem?_eq_some_iff.1 hz9).1 (fun e => by injection e with e; omega)).trans hz9
        have hxS := heap_setCell_same w9 b5 3 _ _ (.slice vA' (i + 1) vc') hx9
        have hgS := mv_low hg9 (show Below w.heap.size w9 (w9.setCell ⟨b5, 3, none⟩ (.slice vA' (i + 1) vc')) from (Below.refl _ _).setCell (p := ⟨b5, 3, none⟩) h5 _)
        have hoS := own_set (p := ⟨b5, 3, none⟩) (x := .slice vA' (i + 1) vc') hown' (fun q hq => by have := own_ge hown' q hq; show q ≠ b5; omega)
        clear hr9 hz9 hx9 hg9 hown' hms HF9 y3 y4
        generalize w9.setCell ⟨b5, 3, none⟩ (.slice vA' (i + 1) vc') = wS at *
        obtain ⟨d0, d1, _, f1, hbl⟩ := Rdr.facts hrS
        rw [← HM.out] at d1
        go_wp2_with fail
        go_roundw
        case rel =>
          have e := HM.out
          have e9 := HM1.out
          have hset := mv_set (w := wS) (b := b) (i := 1) (v := .int .i64 M1)
          have hlen := H.out.len
          have htk : (ls.drop (k + 1)).take (i + 1) = (ls.drop (k + 1)).take i ++ [L] := by
            have h9 : (ls.drop (k + 1)).drop i = L :: ls.drop (M + 1) := by rw [List.drop_drop, ← e]; exact HD2.out
            rw [List.take_add, h9]
            rfl
          have htb : ((ls.map bl).drop (k + 1)).take (i + 1) = ((ls.map bl).drop (k + 1)).take i ++ [bl L] := by
            rw [← List.map_drop, ← List.map_take, htk, List.map_append, List.map_take]; rfl
          refine ⟨i + 1, .slice vA' (i + 1) vc', ⟨?_, by omega, ?_, ?_, ?_, mv_trans hgS hset⟩, ?_⟩
          · rw [show k + 1 + (i + 1) = M1 by omega]; exact Rdr.set hrS M1
          · exact (hset.block _ (Array.getElem?_eq_some_iff.1 hzS).1 (fun e => by injection e with e; omega)).trans hzS
          · exact (hset.block _ (Array.getElem?_eq_some_iff.1 hxS).1 (fun e => by injection e with e; omega)).trans hxS
          · rw [htk, List.map_append]
            exact own_set hoS (fun q hq => by have := own_ge hoS q hq; show q ≠ b; omega)
          · rw [htb]
            intro x hx
            rcases List.mem_append.1 hx with hx | hx
            · exact HCL.out x hx
            · rw [List.mem_singleton] at hx
              rw [hx, HCC.out]; rfl
        case measure =>
          have e := HM.out
          have e9 := HM1.out
          have hm := (Rdr.facts (Rdr.set hrS M1)).2.1
          rw [HMZ.out, hm]
          simp only [intOf, Int.toNat_natCast]
          omega
    · have hltz : ¬ (M : Int) < n := by omega
      go_wp2_with fail
      go_quiet (fail)
      obtain ⟨wq, hwq⟩ : ∃ wq, wq = wr.drewN nq := ⟨_, rfl⟩
      rw [← hwq]
      have hfq := HF.out.below (show Below wr.heap.size wr wq by rw [hwq]; exact below_drewN (Below.refl _ _) _)
      clear hwq d0 d1 f1 hbl
      have HFQ := Lib.hid hfq
      have hz := hfq.z
      obtain ⟨x0, x1, x2, x3, x4, x5⟩ := six hfq.x
      obtain ⟨va, vc, hv⟩ := own_slice hfq.o
      have hone : (#[.int .i64 4, .int .i64 0, .string IN, v, .slice none 0 0, .slice none 0 0] : Array Value).all (·.oneCell') = true := by rw [hv]; simp [Value.oneCell']
      clear hfq hv
      go_wp2_with (refine wpList_store_mid rfl _ _ _ rfl w.heap.size 0 #[.int .i64 4, .int .i64 0, .string IN, v, .slice none 0 0, .slice none 0 0] rfl rfl (show wq.there w.heap.size 0 6 from there_of_row hz) (by kernel_rfl) hone ?_; have hrow2 := setCells_whole [.int .i64 4, .int .i64 0, .string IN, v, .slice none 0 0, .slice none 0 0] hz rfl; generalize hw9 : World.setCells _ w.heap.size 0 _ = w9 at hrow2 ⊢; have HW9 := Lib.hid hw9; clear hw9)
      (try simp only [Exit.inBlock, Exit.then])
      refine bodyPost_ret (results_cell1 rfl _ _ w.heap.size _ _ _ _ rfl hrow2 Tryz.underlying36 rfl (by kernel_rfl)) rfl ?_
      have hn : M = n := by omega
      have e := HM.out
      have hlen := H.out.len
      have htw := tw_here (t := (ls.map bl).drop (k + 1)) (p := fun x => !closesL N x) (i := i) HCL.out (fun h => by simp at h; omega)
      rw [htw.1, htw.2]
      rw [← HW9.out]
      refine fence_fin IN _ H.out HFQ.out.r (by omega) HFQ.out.g HFQ.out.o h5 ?_ ?_
      · rw [← List.map_drop, ← List.map_take]; exact ba_lines _
      · exact (List.drop_eq_nil_of_le (by simp; omega)).trans (List.drop_eq_nil_of_le (by simp; omega)).symm
end Go.Proofs.YtlcfijkegdlfcaaGreatDoor
