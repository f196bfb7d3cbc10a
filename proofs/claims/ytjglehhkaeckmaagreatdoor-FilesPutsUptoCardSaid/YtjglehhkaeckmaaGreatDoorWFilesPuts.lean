/- The walk of the law FilesPuts: what is laid last is read; names rise, each once; the order of laying plays no part. -/
import Derived.Test.YtjglehhkaeckmaaGreatDoorSortedD
import Derived.Test.YtjglehhkaeckmaaGreatDoorSame02
import Derived.Test.YtjglehhkaeckmaaGreatDoorWFilesNil
import Derived.Laws.Cover1
import Derived.StillTailTactics
namespace Go.Proofs.YtjglehhkaeckmaaGreatDoor
open Go.RowKit Go.PlainAid Go.Maps Go.Sort
set_option linter.all false
set_option linter.deprecated false
set_option maxRecDepth 100000
def pairD (o : OpD) : Bs × Bs := (o.name.data.toList, o.text.data.toList)
/-- What is read behind some layings. -/
def laidD (l : List OpD) : List (Bs × Bs) := (l.map pairD).reverse
theorem laid_snoc (l : List OpD) (o : OpD) : laidD (l ++ [o]) = pairD o :: laidD l := by unfold laidD; rw [List.map_append, List.reverse_append]; rfl
theorem laid_cons (l : List OpD) (o : OpD) : laidD (o :: l) = laidD l ++ [pairD o] := by unfold laidD; rw [List.map_cons, List.reverse_cons]
theorem find_back_some {R ds : List (Bs × Bs)} {p : Bs × Bs} {v : Bs} (hR : ∀ k, find ds k = find R k) (h : find ds p.1 = some v) : ∀ k, find ds k = find (R ++ [p]) k := fun k => by
  rw [find_append, find_cons, find_nil, hR]
  by_cases e : p.1 = k
  · subst e; rw [if_pos rfl, ← hR, h]; rfl
  · rw [if_neg e]; simp
theorem find_back_none {R ds : List (Bs × Bs)} {p : Bs × Bs} (hR : ∀ k, find ds k = find R k) (h : find ds p.1 = none) : ∀ k, find (p :: ds) k = find (R ++ [p]) k := fun k => by
  rw [find_append, find_cons, find_cons, find_nil]
  by_cases e : p.1 = k
  · subst e; rw [if_pos rfl, if_pos rfl, ← hR, h]; rfl
  · rw [if_neg e, if_neg e, hR]; simp
theorem rise_ext' : ∀ {a b : List Bs}, a.Pairwise (· < ·) → b.Pairwise (· < ·) → (∀ x, x ∈ a ↔ x ∈ b) → a = b
  | [], [], _, _, _ => rfl
  | [], y :: b, _, _, h => absurd ((h y).2 (by simp)) (by simp)
  | x :: a, [], _, _, h => absurd ((h x).1 (by simp)) (by simp)
  | x :: a, y :: b, ha, hb, h => by
    obtain ⟨ha1, ha2⟩ := List.pairwise_cons.1 ha
    obtain ⟨hb1, hb2⟩ := List.pairwise_cons.1 hb
    have irr : ∀ z : Bs, ¬ z < z := fun z => List.lt_irrefl z
    have e : x = y := by
      rcases List.mem_cons.1 ((h x).1 (by simp)) with e | hx
      · exact e
      · rcases List.mem_cons.1 ((h y).2 (by simp)) with e | hy
        · exact e.symm
        · exact absurd (List.lt_trans (ha1 y hy) (hb1 x hx)) (irr x)
    subst e
    rw [rise_ext' ha2 hb2 (fun z => ⟨fun hz => ?_, fun hz => ?_⟩)]
    · rcases List.mem_cons.1 ((h z).1 (by simp [hz])) with e | h'
      · subst e; exact absurd (ha1 z hz) (irr z)
      · exact h'
    · rcases List.mem_cons.1 ((h z).2 (by simp [hz])) with e | h'
      · subst e; exact absurd (hb1 z hz) (irr z)
      · exact h'
theorem names_same {a b : List (Bs × Bs)} (h : ∀ k, find a k = find b k) : uniqL (a.map (·.1)) = uniqL (b.map (·.1)) :=
  rise_ext' (uniqL_spec _).1 (uniqL_spec _).1 (fun x => by rw [(uniqL_spec _).2.1, (uniqL_spec _).2.1, ← find_isSome, ← find_isSome, h])
theorem rd_enc' {w0 w1 : World} {base n : Nat} {v : Value} {K : List Bs} (h : w0.ownsRow base 9 1 v n (K.map encStr)) (hn : K.length = n) (hb : Below w0.heap.size w0 w1) : Rd (· < w1.heap.size) w1 v ((K.map fun k => (⟨k.toArray⟩ : ByteArray)).map D.str) := by
  have hke : K.map encStr = (K.map fun k => (⟨k.toArray⟩ : ByteArray)).map Value.string := by rw [List.map_map]; exact List.map_congr_left (fun _ _ => rfl)
  rw [hke] at h
  exact rd_row h (by simpa using hn) hb
/-- What two disks are, beside one another, behind w0. -/
structure Two (w0 : World) (da db : Nat) (ma mb : Option Nat) (a b : List (Bs × Bs)) (n : Nat) (w : World) : Prop where
  A : DiskAt da ma a n w
  B : DiskAt db mb b n w
  ne : da ≠ db
  am : ∀ k, ma = some k → w0.heap.size ≤ k ∧ k ≠ db ∧ mb ≠ some k ∧ k < w.heap.size
  bm : ∀ k, mb = some k → w0.heap.size ≤ k ∧ k ≠ da ∧ k < w.heap.size
  da0 : w0.heap.size ≤ da
  db0 : w0.heap.size ≤ db
  old : Below w0.heap.size w0 w
theorem disk_mb_lt {d n : Nat} {mb : Option Nat} {ds : List (Bs × Bs)} {w : World} (h : DiskAt d mb ds n w) : ∀ k, mb = some k → k < w.heap.size := fun k e => by
  rcases h.tab with ⟨h2, _⟩ | ⟨b', D, h2, hne, ho, hT⟩
  · rw [h2] at e; cases e
  · rw [h2] at e; cases e; exact ho.lt
theorem disk_mb_ne {d n : Nat} {mb : Option Nat} {ds : List (Bs × Bs)} {w : World} (h : DiskAt d mb ds n w) : mb ≠ some d := fun e => by
  rcases h.tab with ⟨h2, _⟩ | ⟨b', D, h2, hne, ho, hT⟩
  · rw [h2] at e; cases e
  · rw [h2] at e; cases e; exact hne rfl
theorem DiskAt.more {d n m : Nat} {mb : Option Nat} {ds : List (Bs × Bs)} {w : World} (h : DiskAt d mb ds n w) (hm : n ≤ m) : DiskAt d mb ds m w :=
  ⟨h.blk, by rcases h.tab with h2 | ⟨b, D, e, hne, ho, hT⟩; exact .inl h2; exact .inr ⟨b, D, e, hne, ho.mono hm, hT⟩⟩
theorem Two.putA {w0 w w' : World} {da db n : Nat} {ma mb ma' : Option Nat} {a b a' : List (Bs × Bs)} (h : Two w0 da db ma mb a b n w) (hA : DiskAt da ma' a' (n + 1) w') (hm : ma' = ma ∨ ∃ k, ma' = some k ∧ w.heap.size ≤ k) (hc : Chg da ma w w') : Two w0 da db ma' mb a' b (n + 1) w' := by
  have hdb : w'.heap[db]? = w.heap[db]? := hc.block db h.B.lt (fun e => h.ne e.symm) (fun e => (h.am db e).2.1 rfl)
  have hB := (h.B.keep hdb (fun k e => hc.block k (disk_mb_lt h.B k e) (h.bm k e).2.1 (fun e2 => (h.am k e2).2.2.1 e))).more (Nat.le_succ n)
  refine ⟨hA, hB, h.ne, fun k e => ?_, fun k e => ⟨(h.bm k e).1, (h.bm k e).2.1, Nat.lt_of_lt_of_le (h.bm k e).2.2 hc.size⟩, h.da0, h.db0, ⟨hc.os.trans h.old.os, hc.tape.trans h.old.tape, hc.output.trans h.old.output, Nat.le_trans h.old.size hc.size, fun k hk => ?_⟩⟩
  · rcases hm with rfl | ⟨j, rfl, hj⟩
    · exact ⟨(h.am k e).1, (h.am k e).2.1, (h.am k e).2.2.1, Nat.lt_of_lt_of_le (h.am k e).2.2.2 hc.size⟩
    · cases e
      have h1 := h.B.lt
      have h2 := h.old.size
      exact ⟨by omega, by omega, fun e2 => by have := (h.bm _ e2).2.2; omega, disk_mb_lt hA _ rfl⟩
  · have h1 := h.da0
    have h2 := h.old.size
    exact (hc.block k (by omega) (by omega) (fun e => by have := (h.am k e).1; omega)).trans (h.old.block k hk)
theorem Two.putB {w0 w w' : World} {da db n : Nat} {ma mb mb' : Option Nat} {a b b' : List (Bs × Bs)} (h : Two w0 da db ma mb a b n w) (hB : DiskAt db mb' b' (n + 1) w') (hm : mb' = mb ∨ ∃ k, mb' = some k ∧ w.heap.size ≤ k) (hc : Chg db mb w w') : Two w0 da db ma mb' a b' (n + 1) w' := by
  have hda : w'.heap[da]? = w.heap[da]? := hc.block da h.A.lt h.ne (fun e => (h.bm da e).2.1 rfl)
  have hA := (h.A.keep hda (fun k e => hc.block k (disk_mb_lt h.A k e) (h.am k e).2.1 (h.am k e).2.2.1)).more (Nat.le_succ n)
  refine ⟨hA, hB, h.ne, fun k e => ⟨(h.am k e).1, (h.am k e).2.1, ?_, Nat.lt_of_lt_of_le (h.am k e).2.2.2 hc.size⟩, fun k e => ?_, h.da0, h.db0, ⟨hc.os.trans h.old.os, hc.tape.trans h.old.tape, hc.output.trans h.old.output, Nat.le_trans h.old.size hc.size, fun k hk => ?_⟩⟩
  · rcases hm with rfl | ⟨j, rfl, hj⟩
    · exact (h.am k e).2.2.1
    · intro e2; cases e2; have := (h.am _ e).2.2.2; omega
  · rcases hm with rfl | ⟨j, rfl, hj⟩
    · exact ⟨(h.bm k e).1, (h.bm k e).2.1, Nat.lt_of_lt_of_le (h.bm k e).2.2 hc.size⟩
    · cases e
      have h1 := h.A.lt
      have h2 := h.old.size
      exact ⟨by omega, by omega, disk_mb_lt hB _ rfl⟩
  · have h1 := h.db0
    have h2 := h.old.size
    exact (hc.block k (by omega) (by omega) (fun e => by have := (h.bm k e).1; omega)).trans (h.old.block k hk)
theorem Two.below {w0 w w' : World} {da db n : Nat} {ma mb : Option Nat} {a b : List (Bs × Bs)} (h : Two w0 da db ma mb a b n w) (hb : Below w.heap.size w w') : Two w0 da db ma mb a b n w' :=
  ⟨h.A.below hb, h.B.below hb, h.ne, fun k e => ⟨(h.am k e).1, (h.am k e).2.1, (h.am k e).2.2.1, Nat.lt_of_lt_of_le (h.am k e).2.2.2 hb.size⟩, fun k e => ⟨(h.bm k e).1, (h.bm k e).2.1, Nat.lt_of_lt_of_le (h.bm k e).2.2 hb.size⟩, h.da0, h.db0, h.old.trans (hb.mono h.old.size)⟩
theorem Two.more {w0 w : World} {da db n m : Nat} {ma mb : Option Nat} {a b : List (Bs × Bs)} (h : Two w0 da db ma mb a b n w) (hm : n ≤ m) : Two w0 da db ma mb a b m w := ⟨h.A.more hm, h.B.more hm, h.ne, h.am, h.bm, h.da0, h.db0, h.old⟩
set_option maxHeartbeats 10000000 in
theorem filesPuts_main (A : Option Addr) (c : Nat) (l : List OpD) (w : World) (hR : Rd (· < w.heap.size) w (.slice A l.length c) (l.map dOp)) (hl : D.bulks (l.map dOp) ≤ 1048576) :
    Calls Tryz.prog 3 #[.slice A l.length c] w fun e w' => e = .returned (.bool true) ∧ Below w.heap.size w w' := by
  have hlen : l.length ≤ 1048576 := by have := D.len_bulks (l.map dOp); rw [List.length_map] at this; omega
  have hsz : ∀ o ∈ l, o.name.size ≤ maxLen ∧ o.text.size ≤ maxLen := fun o ho => by
    have h1 : (dOp o).bulk ≤ D.bulks (l.map dOp) := D.bulk_mem (List.mem_map.2 ⟨o, ho, rfl⟩)
    simp only [dOp, D.bulk, D.bulks] at h1
    unfold maxLen
    omega
  have HR := Lib.hid hR
  have HSZ := Lib.hid hsz
  clear hR hsz
  go_enter Tryz.func3, Tryz.ntmps3
  go_wp2_with fail
  refine (awake21_calls _).mono ?_
  rintro e w1 ⟨rfl, hb1⟩
  go_wp2_with fail
  refine (few21_calls _ l _ (HR.out.lt_below hb1)).mono ?_
  rintro e w2 ⟨⟨bb, rfl⟩, q, rfl⟩
  have hb2 := below_drewN hb1 q
  generalize w1.drewN q = w2 at *
  clear hb1
  cases bb with
  | false =>
    go_wp2_with fail
    refine (awake21_calls _).mono ?_
    rintro e w3 ⟨rfl, hb3⟩
    go_wp2_with fail
    go_ret
    exact ⟨rfl, below_to hb2 hb2.size hb3⟩
  | true =>
    go_wp2_with fail
    refine (New_calls _).mono ?_
    rintro e w3 ⟨rfl, hA3, hb3⟩
    have hb03 := below_to hb2 hb2.size hb3
    go_wp2_with fail
    refine (New_calls _).mono ?_
    rintro e w4 ⟨rfl, hB4, hb4⟩
    have hlt3 := hA3.lt
    have hT : Two w w2.heap.size w3.heap.size none none [] [] 0 w4 :=
      ⟨hA3.below hb4, hB4, by omega, (fun k e => by cases e), (fun k e => by cases e), hb2.size, hb03.size, below_to hb03 hb03.size hb4⟩
    generalize w2.heap.size = da at *
    generalize w3.heap.size = db at *
    clear hA3 hB4 hb2 hb3 hb4 hb03 hlt3
    go_wp2_with fail
    go_loopw [33] (fun vi wr => ∃ i : Nat, i ≤ l.length ∧ vi = .int .i64 i ∧ ∃ ma, Two w da db ma none (laidD (l.take i)) [] i wr) (fun vi _ => l.length - (intOf vi).toNat)
    case atStart => exact ⟨0, Nat.zero_le _, rfl, none, hT⟩
    case round =>
      clear hT
      obtain ⟨i, hi, rfl, ma, hT⟩ := hrel
      by_cases hlt : i < l.length
      · obtain ⟨b, o, u, rfl, _, hbl, c2', c3', _, _⟩ := HR.out.op_at hlt
        have c2 := below_at' hT.old hbl c2'
        have c3 := below_at' hT.old hbl c3'
        have hs := HSZ.out _ (List.getElem_mem hlt)
        have htk : laidD (l.take (i + 1)) = pairD l[i] :: laidD (l.take i) := by rw [List.take_succ_eq_append_getElem hlt, laid_snoc]
        clear c2' c3'
        generalize l[i] = x at *
        have HTK := Lib.hid htk
        have hbd : Below wr.heap.size wr wr.drew := ⟨rfl, rfl, rfl, Nat.le_refl _, fun _ _ => rfl⟩
        have HT := Lib.hid (hT.below hbd)
        clear htk hT hbd
        go_wp2_with fail
        go_still_tail 11, (by kernel_rfl)
        change wpList _ _ _ _ _ wr.drew
        generalize wr.drew = wd at *
        go_wp2_with fail
        refine (Put_calls da i ma _ x.name x.text _ HT.out.A (by unfold maxLen; omega) hs.1 hs.2).mono ?_
        rintro e w5 ⟨rfl, ma', hA', hm', hc'⟩
        go_wp2_with fail
        go_roundw
        case rel => exact ⟨i + 1, by omega, by go_num, ma', by rw [HTK.out]; exact HT.out.putA hA' hm' hc'⟩
        case measure => simp [intOf]; omega
      · have hie : i = l.length := by omega
        rw [hie, List.take_length] at hT
        clear hie
        have e0 : IntKind.i64.wrap ((l.length : Int) - 1) = (l.length : Int) - 1 := IntWalk.i64_in _ (by omega)
        go_wp2_with fail
        go_loopw [6] (fun vi wr => ∃ j : Nat, j ≤ l.length ∧ vi = .int .i64 ((j : Int) - 1) ∧ ∃ mb ds, Two w da db ma mb (laidD l) ds (l.length + (l.length - j)) wr ∧ Hid (∀ k, find ds k = find (laidD (l.drop j)) k)) (fun vi _ => (intOf vi + 1).toNat)
        case atStart => exact ⟨l.length, Nat.le_refl _, rfl, none, [], hT.more (by omega), Lib.hid (fun k => by rw [List.drop_length]; rfl)⟩
        case round =>
          clear hT
          obtain ⟨j, hj, rfl, mb, ds, hT, hfd⟩ := hrel
          by_cases h0 : 0 < j
          · have hlt2 : j - 1 < l.length := by omega
            obtain ⟨b, o, u, rfl, _, hbl, c2', c3', _, _⟩ := HR.out.op_at hlt2
            have c2 := below_at' hT.old hbl c2'
            have c3 := below_at' hT.old hbl c3'
            have hs := HSZ.out _ (List.getElem_mem hlt2)
            have hdr : laidD (l.drop (j - 1)) = laidD (l.drop j) ++ [pairD l[j - 1]] := by
              rw [List.drop_eq_getElem_cons hlt2, laid_cons]
              congr 3
              omega
            generalize l[j - 1] = x at *
            have hg1 : decide ((0 : Int) ≤ (j : Int) - 1) = true := by rw [decide_eq_true_eq]; omega
            have hm1 : ((j : Int) - 1).toNat = j - 1 := by omega
            have hm2 : (0 : Int) ≤ (j : Int) - 1 := by omega
            have hm3 : (1 : Int) ≤ (j : Int) := by omega
            have hm4 : (j : Int) - 1 < (l.length : Int) := by omega
            have hm5 : 1 ≤ j := h0
            have e1 : IntKind.i64.wrap ((j : Int) - 1 - 1) = ((j - 1 : Nat) : Int) - 1 := by rw [IntWalk.i64_in _ (by omega)]; omega
            have HDR := Lib.hid hdr
            have HT := Lib.hid hT
            clear hdr hT c2' c3'
            go_wp2_with fail
            refine (Get_calls db _ mb ds x.name _ HT.out.B hs.1).mono ?_
            rintro e w5 ⟨rfl, rfl⟩
            cases hfk : find ds x.name.data.toList with
            | some v0 =>
              have hnx := find_back_some (p := pairD x) hfd.out hfk
              rw [← HDR.out] at hnx
              have HNX := Lib.hid hnx
              clear hnx hfk
              simp only [Option.isSome_some, Option.getD_some]
              go_wp2_with fail
              go_roundw
              case rel => exact ⟨j - 1, by omega, rfl, mb, ds, HT.out.more (by omega), HNX⟩
              case measure => simp [intOf]; omega
            | none =>
              have hnx := find_back_none (p := pairD x) hfd.out hfk
              rw [← HDR.out] at hnx
              have HNX := Lib.hid hnx
              clear hnx hfk
              simp only [Option.isSome_none, Option.getD_none]
              have hbd : Below wr.heap.size wr wr.drew := ⟨rfl, rfl, rfl, Nat.le_refl _, fun _ _ => rfl⟩
              have HT2 := Lib.hid (HT.out.below hbd)
              clear hbd
              go_wp2_with fail
              go_still_tail 11, (by kernel_rfl)
              change wpList _ _ _ _ _ wr.drew
              generalize wr.drew = wd at *
              go_wp2_with fail
              refine (Put_calls db _ mb _ x.name x.text _ HT2.out.B (by unfold maxLen; omega) hs.1 hs.2).mono ?_
              rintro e w5 ⟨rfl, mb', hB', hm', hc'⟩
              go_wp2_with fail
              go_roundw
              case rel => exact ⟨j - 1, by omega, rfl, mb', _, (HT2.out.putB hB' hm' hc').more (by omega), HNX⟩
              case measure => simp [intOf]; omega
          · have hj0 : j = 0 := by omega
            have hfe : ∀ k, find ds k = find (laidD l) k := fun k => by have := hfd.out k; rwa [hj0, List.drop_zero] at this
            have hns := names_same hfe
            have hg0 : ¬ (0 : Int) ≤ (j : Int) - 1 := by omega
            have hkl : ∀ k ∈ uniqL ((laidD l).map (·.1)), (ByteArray.mk k.toArray).size ≤ maxLen ∧ ∃ v, find (laidD l) k = some v := fun k hk => by
              have h1 := ((uniqL_spec _).2.1 k).1 hk
              refine ⟨?_, Option.isSome_iff_exists.1 (find_isSome.2 h1)⟩
              obtain ⟨p, hp, rfl⟩ := List.mem_map.1 h1
              unfold laidD at hp
              rw [List.mem_reverse, List.mem_map] at hp
              obtain ⟨o, ho, rfl⟩ := hp
              exact (HSZ.out o ho).1
            have hris := (uniqL_spec ((laidD l).map (·.1))).1
            have hnA := fun (W : World) (h : DiskAt da ma (laidD l) (l.length + (l.length - j)) W) => Names_calls da _ ma _ W h (by omega)
            have hnB := fun (W : World) (h : DiskAt db mb ds (l.length + (l.length - j)) W) => Names_calls db _ mb _ W h (by omega)
            rw [hns] at hnB
            have hKn : (uniqL ((laidD l).map (·.1))).length ≤ 1048576 := by
              have := (uniqL_spec ((laidD l).map (·.1))).2.2
              unfold laidD at this
              simp only [List.length_map, List.length_reverse] at this
              unfold laidD
              omega
            generalize uniqL ((laidD l).map (·.1)) = K at *
            have HNA := Lib.hid hnA
            have HNB := Lib.hid hnB
            have HKL := Lib.hid hkl
            have HRI := Lib.hid hris
            have HFE := Lib.hid hfe
            have HT := Lib.hid hT
            clear hnA hnB hkl hris hfe hns hT hfd hj0
            go_wp2_with fail
            refine (HNA.out _ HT.out.A).mono ?_
            rintro e w5 ⟨v5, rfl, r5, b5⟩
            obtain ⟨V5, c5, rfl⟩ := own_slice r5
            have HT5 := Lib.hid (HT.out.below b5)
            have R5 := Lib.hid r5
            clear r5 HT HNA
            go_wp2_with fail
            refine (HNB.out _ HT5.out.B).mono ?_
            rintro e w6 ⟨v6, rfl, r6, b6⟩
            obtain ⟨V6, c6, rfl⟩ := own_slice r6
            have HT6 := Lib.hid (HT5.out.below b6)
            have R6 := Lib.hid r6
            clear r6 HT5 HNB
            have hrA := rd_enc' R5.out rfl b6
            have hss := Same_calls _ _ (K.map fun k => (⟨k.toArray⟩ : ByteArray)) (K.map fun k => (⟨k.toArray⟩ : ByteArray)) w6 hrA (rd_enc' R6.out rfl (Below.refl _ _))
            have HRA := Lib.hid hrA
            have HSS := Lib.hid hss
            clear hrA hss
            go_wp2_with fail
            refine HSS.out.mono ?_
            rintro e w7 ⟨rfl, n7, rfl⟩
            simp only [decide_true]
            have hb7 : Below w6.heap.size w6 (w6.drewN n7) := below_drewN (Below.refl _ _) n7
            have hend := (HT6.out.below hb7).old
            go_wp2_with fail
            go_loopw [89] (fun vi wx => ∃ i : Nat, i ≤ K.length ∧ vi = .int .i64 i ∧ ∃ q, wx = w6.drewN q) (fun vi _ => K.length - (intOf vi).toNat)
            case atStart => exact ⟨0, Nat.zero_le _, rfl, n7, rfl⟩
            case round =>
              clear hb7 hend HSS
              obtain ⟨i2, hi2, rfl, q2, rfl⟩ := hrel
              have hb7 : Below w6.heap.size w6 (w6.drewN q2) := below_drewN (Below.refl _ _) q2
              have HT7 := Lib.hid (HT6.out.below hb7)
              clear hb7
              by_cases hlt3 : i2 < K.length
              · have hlt' : i2 < (K.map fun k => (⟨k.toArray⟩ : ByteArray)).length := by simpa using hlt3
                obtain ⟨ba, oa, rfl, _, hba, x0⟩ := HRA.out.str_cell hlt'
                rw [List.getElem_map] at x0
                obtain ⟨hkz, v0, hv0⟩ := HKL.out _ (List.getElem_mem hlt3)
                have hv1 := (HFE.out K[i2]).trans hv0
                have gA := Get_calls da _ ma (laidD l) ⟨K[i2].toArray⟩ (w6.drewN q2) HT7.out.A hkz
                have gB := Get_calls db _ mb ds ⟨K[i2].toArray⟩ (w6.drewN q2) HT7.out.B hkz
                have e2 : (⟨K[i2].toArray⟩ : ByteArray).data.toList = K[i2] := rfl
                rw [e2, hv0] at gA
                rw [e2, hv1] at gB
                simp only [Option.getD_some, Option.isSome_some] at gA gB
                have bq := beq_t (rfl : (⟨v0.toArray⟩ : ByteArray) = ⟨v0.toArray⟩)
                have GA := Lib.hid gA
                have GB := Lib.hid gB
                clear gA gB hv0 hv1 hkz e2
                by_cases hj0 : 0 < i2
                · obtain ⟨bb, ob, hv, _, hbb, y0⟩ := HRA.out.str_cell (i := i2 - 1) (by simp; omega)
                  rw [List.getElem_map] at y0
                  injection hv with hv
                  injection hv with hv1 hv2
                  subst hv1; subst hv2
                  have hls : K[i2 - 1] < K[i2] := List.pairwise_iff_getElem.1 HRI.out (i2 - 1) i2 (by omega) hlt3 (by omega)
                  generalize K[i2] = p at *
                  generalize K[i2 - 1] = q at *
                  have hls2 : Op.bytesLess q p = true := by rw [bytesLess_eq]; simpa using hls
                  have hls3 : Op.bytesLess (ByteArray.mk q.toArray).toList (ByteArray.mk p.toArray).toList = true := by rw [ByteArray.toList_eq, ByteArray.toList_eq]; exact hls2
                  have e1 : IntKind.i64.wrap ((i2 : Int) - 1) = (i2 : Int) - 1 := IntWalk.i64_in _ (by omega)
                  have hm1 : ((i2 : Int) - 1).toNat = i2 - 1 := by omega
                  have hm2 : (0 : Int) ≤ (i2 : Int) - 1 := by omega
                  have hm3 : (1 : Int) ≤ (i2 : Int) := by omega
                  have hm4 : (i2 : Int) - 1 < (K.length : Int) := by omega
                  have hm5 : 1 ≤ i2 := hj0
                  have hg1 : decide ((0 : Int) < (i2 : Int)) = true := by rw [decide_eq_true_eq]; omega
                  go_wp2_with fail
                  refine GA.out.mono ?_
                  rintro e w8 ⟨rfl, rfl⟩
                  go_wp2_with fail
                  refine GB.out.mono ?_
                  rintro e w8 ⟨rfl, rfl⟩
                  go_wp2_with fail
                  go_quiet (fail)
                  go_wp2_with fail
                  go_roundw
                  case rel => exact ⟨i2 + 1, by omega, by go_num, _, rfl⟩
                  case measure => simp [intOf]; omega
                · generalize K[i2] = p at *
                  have hkz : decide ((0 : Int) < (i2 : Int)) = false := by rw [decide_eq_false_iff_not]; omega
                  go_wp2_with fail
                  refine GA.out.mono ?_
                  rintro e w8 ⟨rfl, rfl⟩
                  go_wp2_with fail
                  refine GB.out.mono ?_
                  rintro e w8 ⟨rfl, rfl⟩
                  go_wp2_with fail
                  go_quiet (fail)
                  go_wp2_with fail
                  go_roundw
                  case rel => exact ⟨i2 + 1, by omega, by go_num, _, rfl⟩
                  case measure => simp [intOf]; omega
              · go_wp2_with fail
                go_ret
                exact ⟨rfl, HT7.out.old⟩
theorem filesPuts_walk (A0 : Option Addr) (n0 c0 : Nat) (X0 : D) (w : World) (g0 : Rep (· < w.heap.size) w X0 [.slice A0 n0 c0]) (ty0 : ∃ n, HasTy Tryz.prog n 22 X0) (hb : X0.bulk ≤ 1048576) :
    Calls Tryz.prog 3 #[.slice A0 n0 c0] w fun e w' => e = .returned (.bool true) ∧ Below w.heap.size w w' := by
  obtain ⟨n, ty0⟩ := ty0
  obtain ⟨l, rfl⟩ : ∃ l : List OpD, X0 = .sl (l.map dOp) := by
    cases n with
    | zero => rw [HasTy] at ty0; exact ty0.elim
    | succ n =>
      rw [HasTy, Tryz.underlying22] at ty0
      obtain ⟨xs, rfl, hx⟩ := ty0
      obtain ⟨l, rfl⟩ := list_of' (f := dOp) (fun x hm => ty_op (hx x hm))
      exact ⟨l, rfl⟩
  have hA : Rd (· < w.heap.size) w (.slice A0 n0 c0) (l.map dOp) := g0
  obtain ⟨rfl, _⟩ := rd_ops hA
  simp only [D.bulk] at hb
  exact filesPuts_main A0 c0 l w hA (by omega)
end Go.Proofs.YtjglehhkaeckmaaGreatDoor
