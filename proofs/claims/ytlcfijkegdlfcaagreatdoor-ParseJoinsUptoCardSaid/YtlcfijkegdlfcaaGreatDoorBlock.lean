/- The walk of the reader's block. -/
import Derived.Test.YtlcfijkegdlfcaaGreatDoorBlk
import Derived.Deep.RegionHeld3
import Derived.Test.YtlcfijkegdlfcaaGreatDoorList
/- The walk of the reader's line. -/
namespace Go.Proofs.YtlcfijkegdlfcaaGreatDoor
open Go.RowKit Go.PlainAid
set_option linter.all false
set_option linter.deprecated false
set_option maxRecDepth 100000
/-- A block of one line. -/
def lineB (s : Ln) : Bl := if kindL s = 2 then headB s else if kindL s = 3 then ruleB else defB s
set_option maxHeartbeats 4000000 in
theorem pline_calls (b B n c k d : Nat) (A : Option Addr) (ls : List ByteArray) (w : World) (h : Rds w b B A n c ls k d) (hk : k < n) (hkd : kindL (bl (lnAt ls k)) = 2 ∨ kindL (bl (lnAt ls k)) = 3 ∨ kindL (bl (lnAt ls k)) = 7) :
    Calls Tryz.prog 77 #[.pointer (some ⟨b, 0, none⟩)] w (BlkTo w b B A n c ls d (lineB (bl (lnAt ls k))) ((ls.map bl).drop (k + 1))) := by
  have H := Lib.hid h
  obtain ⟨g, o, rfl, _, _, _, _⟩ := h.at hk
  obtain ⟨_, hs, _, _⟩ := h.cell hk
  have hbA := (Below.refl w.heap.size w).alloc (Nat.le_refl _) (.cells #[.int .i64 0, .int .i64 0, .string ⟨#[]⟩, .slice none 0 0, .slice none 0 0, .slice none 0 0] 36)
  have hzA := heap_alloc_new w (.cells #[.int .i64 0, .int .i64 0, .string ⟨#[]⟩, .slice none 0 0, .slice none 0 0, .slice none 0 0] 36)
  have hsA := World.size_alloc w (.cells #[.int .i64 0, .int .i64 0, .string ⟨#[]⟩, .slice none 0 0, .slice none 0 0, .slice none 0 0] 36)
  have hnm := h.hn
  obtain ⟨K1, hK1⟩ : ∃ K1, K1 = k + 1 := ⟨_, rfl⟩
  have k1 : IntKind.i64.wrap ((k : Int) + 1) = (K1 : Int) := by rw [IntWalk.i64_in _ (by omega)]; omega
  have HK1 := Lib.hid hK1
  have HS := Lib.hid hs
  have hkz : (k : Int) < n := by omega
  clear hK1 h hs
  go_enter Tryz.func77, Tryz.ntmps77
  go_wp2
  generalize w.alloc (.cells #[.int .i64 0, .int .i64 0, .string ⟨#[]⟩, .slice none 0 0, .slice none 0 0, .slice none 0 0] 36) = W0 at *
  have hrA := H.out.below hbA
  obtain ⟨c0, c1, _, f1, hbl⟩ := hrA.r.facts
  obtain ⟨hc, _, _, _⟩ := hrA.cell hk
  obtain ⟨S, hS⟩ : ∃ S, lnAt ls k = S := ⟨_, rfl⟩
  rw [hS] at hc hkd
  rw [hS] at HS
  have HSE := Lib.hid hS
  clear hS
  have HRA := Lib.hid hrA
  clear hrA
  go_quiet (fail)
  obtain ⟨wq, hwq⟩ : ∃ wq, wq = W0.drewN nq := ⟨_, rfl⟩
  rw [← hwq]
  have hbq : Below W0.heap.size W0 wq := by rw [hwq]; exact below_drewN (Below.refl _ _) _
  have hrq := HRA.out.below hbq
  have hzq := (hbq.block w.heap.size (by omega)).trans hzA
  have hsq : w.heap.size + 1 ≤ wq.heap.size := by have := hbq.size; omega
  have hgq := mv_trans (mv_below hbA b) (mv_below hbq b)
  clear hwq c0 c1 f1 hbl hc hbq HRA hbA hzA hsA
  obtain ⟨c0, c1, _, f1, hbl⟩ := hrq.r.facts
  have hset := mv_set (w := wq) (b := b) (i := 1) (v := .int .i64 K1)
  have hrS := hrq.set (m := K1) (by have := HK1.out; omega)
  have hzS := (hset.block w.heap.size (by omega) (fun e => by injection e with e; have := H.out.lt; omega)).trans hzq
  have hgS := mv_trans hgq hset
  have hsS : w.heap.size + 1 ≤ (wq.setCell ⟨b, 1, none⟩ (.int .i64 K1)).heap.size := by have := hset.size; omega
  have HT := Lib.hid (And.intro hrS (And.intro hzS (And.intro hgS hsS)))
  clear hrq hzq hsq hgq hset hrS hzS hgS hsS
  go_wp2_with fail
  clear c0 c1 f1 hbl
  generalize wq.setCell ⟨b, 1, none⟩ (.int .i64 K1) = wS at *
  obtain ⟨hrS, hzS, hgS, hsS⟩ := HT.out
  have hO := Of_calls S wS HS.out hrS.tab
  obtain ⟨KD, hKD⟩ : ∃ KD, kindL (bl S) = KD := ⟨_, rfl⟩
  rw [hKD] at hO hkd
  have HKD := Lib.hid hKD
  clear hKD
  refine hO.mono ?_
  rintro e w1 ⟨rfl, hb1⟩
  have hr1 := hrS.below hb1
  have hz1 := (hb1.block w.heap.size (by omega)).trans hzS
  have hg1 := mv_trans hgS (mv_below hb1 b)
  have hs1 : w.heap.size + 1 ≤ w1.heap.size := by have := hb1.size; omega
  clear HT hrS hzS hgS hsS hb1
  clear hO
  rcases hkd with rfl | rfl | rfl
  · have hlb : lineB (bl (lnAt ls k)) = headB (bl S) := by rw [HSE.out]; unfold lineB; rw [HKD.out, if_pos rfl]
    have hH := KHead_calls S w1 HS.out hr1.tab HKD.out
    have hhl := head_le (bl S)
    rw [bl_len] at hhl
    have htl : (ba (trimL ((bl S).drop (headL (bl S))))).size ≤ 4294967280 := by
      have h1 := trimL_le ((bl S).drop (headL (bl S)))
      rw [List.length_drop, bl_len] at h1
      rw [ba_size]; have := HS.out; omega
    have hP := fun W => IParse_calls (ba (trimL ((bl S).drop (headL (bl S))))) W htl
    rw [bl_ba] at hP
    have hhb : headB (bl S) = .mk 2 (headL (bl S)) (ba []) [] (spansL (trimL ((bl S).drop (headL (bl S))))) [] := rfl
    rw [hhb] at hlb
    have HLB := Lib.hid hlb
    generalize spansL (trimL ((bl S).drop (headL (bl S)))) = SP at *
    generalize ba (trimL ((bl S).drop (headL (bl S)))) = TX at *
    generalize headL (bl S) = HL at *
    have HH := Lib.hid hH
    have HP := Lib.hid hP
    have HW := Lib.hid (And.intro hr1 (And.intro hz1 (And.intro hg1 hs1)))
    clear hH hP hhb hlb hr1 hz1 hg1 hs1
    go_wp2_with fail
    refine HH.out.mono ?_
    rintro e w2 ⟨rfl, hb2⟩
    obtain ⟨hr1, hz1, hg1, hs1⟩ := HW.out
    have hr2 := hr1.below hb2
    have hz2 := (hb2.block w.heap.size (by omega)).trans hz1
    have hg2 := mv_trans hg1 (mv_below hb2 b)
    have hs2 : w.heap.size + 1 ≤ w2.heap.size := by have := hb2.size; omega
    clear HW hr1 hz1 hg1 hs1 hb2 HH
    have HW := Lib.hid (And.intro hr2 (And.intro hz2 (And.intro hg2 hs2)))
    clear hr2 hz2 hg2 hs2
    go_wp2_with fail
    refine (HP.out _).mono ?_
    rintro e w3 ⟨A3, n3, c3, cells, rfl, hn3, _, hown, hb3⟩
    obtain ⟨hr2, hz2, hg2, hs2⟩ := HW.out
    have hr3 := hr2.below hb3
    have hz := (hb3.block w.heap.size (by omega)).trans hz2
    have hg3 := mv_trans hg2 (mv_below hb3 b)
    have HW3 := Lib.hid (And.intro hr3 (And.intro hg3 (hown.rd.mono (fun j hj _ => Nat.le_trans hs2 hj))))
    clear HW hr2 hz2 hg2 hs2 hb3 hr3 hg3 hown hn3 HP
    go_wp2_with (refine wpList_store_mid rfl _ _ _ rfl w.heap.size 0 #[.int .i64 2, .int .i64 HL, .string ⟨#[]⟩, .slice none 0 0, .slice A3 n3 c3, .slice none 0 0] rfl rfl (show (w3).there w.heap.size 0 6 from there_of_row hz) (by kernel_rfl) (by simp [Value.oneCell']) ?_; have hrow2 := setCells_whole [.int .i64 2, .int .i64 HL, .string ⟨#[]⟩, .slice none 0 0, .slice A3 n3 c3, .slice none 0 0] hz rfl; generalize hw9 : World.setCells _ w.heap.size 0 _ = w9 at hrow2 ⊢; have HW9 := Lib.hid hw9; clear hw9)
    (try simp only [Exit.inBlock, Exit.then])
    refine bodyPost_ret (results_cell1 rfl _ _ w.heap.size _ _ _ _ rfl hrow2 Tryz.underlying36 rfl (by kernel_rfl)) rfl ?_
    rw [← HW9.out]
    rw [HLB.out, ← HK1.out]
    exact blk_fin (.mk 2 HL (ba []) [] SP []) _ H.out HW3.out.1.r HW3.out.1.hk HW3.out.2.1 (Rd.nil _ _) HW3.out.2.2 (Rd.nil _ _) rfl
  · have hlb : lineB (bl (lnAt ls k)) = ruleB := by rw [HSE.out]; unfold lineB; rw [HKD.out]; rfl
    have HLB := Lib.hid hlb
    have hz := hz1
    have HW := Lib.hid (And.intro hr1 hg1)
    clear hr1 hg1 hz1 hlb
    go_wp2_with (refine wpList_store_mid rfl _ _ _ rfl w.heap.size 0 #[.int .i64 3, .int .i64 0, .string ⟨#[]⟩, .slice none 0 0, .slice none 0 0, .slice none 0 0] rfl rfl (show (w1).there w.heap.size 0 6 from there_of_row hz) (by kernel_rfl) (by simp [Value.oneCell']) ?_; have hrow2 := setCells_whole [.int .i64 3, .int .i64 0, .string ⟨#[]⟩, .slice none 0 0, .slice none 0 0, .slice none 0 0] hz rfl; generalize hw9 : World.setCells _ w.heap.size 0 _ = w9 at hrow2 ⊢; have HW9 := Lib.hid hw9; clear hw9)
    (try simp only [Exit.inBlock, Exit.then])
    refine bodyPost_ret (results_cell1 rfl _ _ w.heap.size _ _ _ _ rfl hrow2 Tryz.underlying36 rfl (by kernel_rfl)) rfl ?_
    rw [← HW9.out]
    rw [HLB.out, ← HK1.out]
    exact blk_fin ruleB _ H.out HW.out.1.r HW.out.1.hk HW.out.2 (Rd.nil _ _) (Rd.nil _ _) (Rd.nil _ _) rfl
  · have hlb : lineB (bl (lnAt ls k)) = defB (bl S) := by rw [HSE.out]; unfold lineB; rw [HKD.out]; rfl
    have HD := Lib.hid (KDefine_calls S w1 HS.out hr1.tab HKD.out)
    have hk8 : (defB (bl S)).kind = 8 ∧ (defB (bl S)).level = 0 ∧ (defB (bl S)).spans = [] ∧ (defB (bl S)).kids = [] := ⟨rfl, rfl, rfl, rfl⟩
    generalize defB (bl S) = X at *
    have HLB := Lib.hid hlb
    clear hlb
    have HW := Lib.hid (And.intro hr1 (And.intro hz1 (And.intro hg1 hs1)))
    have HX := Lib.hid hk8
    clear hr1 hz1 hg1 hs1 hk8
    go_wp2_with fail
    refine HD.out.mono ?_
    rintro e w2 ⟨v1, rfl, hv1, hb2⟩
    obtain ⟨A1, c1, hf, _, _⟩ := hv1.form
    subst hf
    obtain ⟨hr1, hz1, hg1, hs1⟩ := HW.out
    have hr2 := hr1.below hb2
    have hz := (hb2.block w.heap.size (by omega)).trans hz1
    have hg2 := mv_trans hg1 (mv_below hb2 b)
    have HW2 := Lib.hid (And.intro hr2 (And.intro hg2 (hv1.mono (fun j hj _ => Nat.le_trans hs1 hj))))
    clear HW hr1 hz1 hg1 hs1 hr2 hg2 hv1 hb2 HD
    generalize (X.lines.map D.str).length = N1 at *
    go_wp2_with (refine wpList_store_mid rfl _ _ _ rfl w.heap.size 0 #[.int .i64 8, .int .i64 0, .string X.info, .slice A1 N1 c1, .slice none 0 0, .slice none 0 0] rfl rfl (show (w2).there w.heap.size 0 6 from there_of_row hz) (by kernel_rfl) (by simp [Value.oneCell']) ?_; have hrow2 := setCells_whole [.int .i64 8, .int .i64 0, .string X.info, .slice A1 N1 c1, .slice none 0 0, .slice none 0 0] hz rfl; generalize hw9 : World.setCells _ w.heap.size 0 _ = w9 at hrow2 ⊢; have HW9 := Lib.hid hw9; clear hw9)
    (try simp only [Exit.inBlock, Exit.then])
    refine bodyPost_ret (results_cell1 rfl _ _ w.heap.size _ _ _ _ rfl hrow2 Tryz.underlying36 rfl (by kernel_rfl)) rfl ?_
    rw [← HW9.out]
    have hh := blk_fin X [.int .i64 8, .int .i64 0, .string X.info, .slice A1 N1 c1, .slice none 0 0, .slice none 0 0] (rest := (ls.map bl).drop K1) H.out HW2.out.1.r HW2.out.1.hk HW2.out.2.1 HW2.out.2.2 (by rw [HX.out.2.2.1]; exact Rd.nil _ _) (by rw [HX.out.2.2.2]; exact Rd.nil _ _) rfl
    rw [HX.out.1, HX.out.2.1] at hh
    rw [HLB.out, ← HK1.out]
    exact hh
end Go.Proofs.YtlcfijkegdlfcaaGreatDoor
namespace Go.Proofs.YtlcfijkegdlfcaaGreatDoor
open Go.RowKit Go.PlainAid
set_option linter.all false
set_option linter.deprecated false
set_option maxRecDepth 100000
theorem kind_range (s : Ln) : 1 ≤ kindL s ∧ kindL s ≤ 8 := by
  unfold kindL
  repeat' split
  all_goals omega
set_option maxHeartbeats 8000000 in
theorem block_calls (b B n c k d : Nat) (A : Option Addr) (ls : List ByteArray) (w : World) (h : Rds w b B A n c ls k d) (hk : k < n) (hkb : kindL (bl (lnAt ls k)) ≠ 1) (hd : d + 2 ≤ 1000) (IN1 IN2 : List Ln → Option (List Bl)) (h1 : AllAt (d + 1) IN1) (h2 : AllAt (d + 2) IN2) :
    Calls Tryz.prog 50 #[.pointer (some ⟨b, 0, none⟩)] w (BlkE w b B A n c ls d (blockG IN1 IN2 (bl (lnAt ls k)) ((ls.map bl).drop (k + 1))).1 (blockG IN1 IN2 (bl (lnAt ls k)) ((ls.map bl).drop (k + 1))).2) := by
  have H := Lib.hid h
  have hbl := h.lt
  have hrg := kind_range (bl (lnAt ls k))
  obtain ⟨g0, o0, _, _, _, hs0, hd0⟩ := h.at hk
  change _ = bl (lnAt ls k) :: _ at hd0
  have hbA := (Below.refl w.heap.size w).alloc (Nat.le_refl _) (.cells #[.int .i64 0, .int .i64 0, .string ⟨#[]⟩, .slice none 0 0, .slice none 0 0, .slice none 0 0] 36)
  have hzA := heap_alloc_new w (.cells #[.int .i64 0, .int .i64 0, .string ⟨#[]⟩, .slice none 0 0, .slice none 0 0, .slice none 0 0] 36)
  have hsA := World.size_alloc w (.cells #[.int .i64 0, .int .i64 0, .string ⟨#[]⟩, .slice none 0 0, .slice none 0 0, .slice none 0 0] 36)
  have hrA := h.below hbA
  have HW := Lib.hid (And.intro hbA (And.intro hzA (And.intro hsA hrA)))
  have HH1 := Lib.hid h1
  have HH2 := Lib.hid h2
  obtain ⟨S, hS⟩ : ∃ S, lnAt ls k = S := ⟨_, rfl⟩
  have HS := Lib.hid hS
  rw [hS] at hd0 hrg hkb ⊢
  have HD0 := Lib.hid hd0
  have hkd0 := hk
  clear hbA hzA hsA hrA h h1 h2 hS hd0
  go_enter Tryz.func50, Tryz.ntmps50
  go_wp2_with fail
  obtain ⟨hbA, hzA, hsA, hrA⟩ := HW.out
  generalize w.alloc (.cells #[.int .i64 0, .int .i64 0, .string ⟨#[]⟩, .slice none 0 0, .slice none 0 0, .slice none 0 0] 36) = W0 at *
  have hHE := here_calls b B n c k d A ls W0 hrA
  rw [HD0.out] at hHE
  simp only [hereL] at hHE
  obtain ⟨KD, hKD⟩ : ∃ KD, kindL (bl S) = KD := ⟨_, rfl⟩
  rw [hKD] at hHE hrg hkb
  have HKD := Lib.hid hKD
  clear hKD
  refine hHE.mono ?_
  rintro e w1 ⟨rfl, hb1⟩
  have hr1 := hrA.below hb1
  have hz1 := (hb1.block w.heap.size (by omega)).trans hzA
  have hs1 : w.heap.size + 1 ≤ w1.heap.size := by have := hb1.size; omega
  have hg1 := mv_below (below_to hbA hbA.size hb1) b
  clear hHE hb1 hrA hzA hsA hbA HW
  have hcs : KD = 2 ∨ KD = 3 ∨ KD = 4 ∨ KD = 5 ∨ KD = 6 ∨ KD = 7 ∨ KD = 8 := by omega
  clear hkb hrg
  have hlk : kindL (bl (lnAt ls k)) = KD := by rw [HS.out]; exact HKD.out
  have HLK := Lib.hid hlk
  clear hlk
  have hSe := HS.out
  subst hSe
  rcases hcs with rfl | rfl | rfl | rfl | rfl | rfl | rfl
  · -- 2
    have HGG := Lib.hid (show blockG IN1 IN2 (bl (lnAt ls k)) ((ls.map bl).drop (k + 1)) = (some (lineB (bl (lnAt ls k))), (ls.map bl).drop (k + 1)) from by unfold blockG lineB; rw [HLK.out]; rfl)
    have HC := Lib.hid (pline_calls b B n c k d A ls w1 hr1 hk (by rw [HLK.out]; decide))
    clear hr1 hk hkd0
    go_wp2_with fail
    refine HC.out.mono ?_
    rintro e w2 ⟨v1, v2, v3, k', rfl, h1, h2, h3, hr2, hdr, hg2⟩
    obtain ⟨A1, c1, hf1, hx1, hx2⟩ := h1.form
    obtain ⟨A2, c2, hf2, hx3, hx4⟩ := h2.form
    obtain ⟨A3, c3, hf3, hx5, hx6⟩ := h3.form
    subst hf1
    subst hf2
    subst hf3
    clear hx1 hx2 hx3 hx4 hx5 hx6
    have hz := (hg2.block w.heap.size (by omega) (fun e => by injection e with e; omega)).trans hz1
    have H2 := Lib.hid (And.intro hr2 (And.intro hdr (And.intro (mv_trans hg1 hg2) (And.intro h1 (And.intro h2 h3)))))
    clear hz1 hg1 h1 h2 h3 hr2 hdr hg2 HC
    obtain ⟨n1, hn1⟩ : ∃ n1, ((lineB (bl (lnAt ls k))).lines.map D.str).length = n1 := ⟨_, rfl⟩
    obtain ⟨n2, hn2⟩ : ∃ n2, (dSps (lineB (bl (lnAt ls k))).spans).length = n2 := ⟨_, rfl⟩
    obtain ⟨n3, hn3⟩ : ∃ n3, (dBls (lineB (bl (lnAt ls k))).kids).length = n3 := ⟨_, rfl⟩
    obtain ⟨z, hz0⟩ : ∃ z, (lineB (bl (lnAt ls k))).kind = z := ⟨_, rfl⟩
    obtain ⟨lv, hl0⟩ : ∃ lv, (lineB (bl (lnAt ls k))).level = lv := ⟨_, rfl⟩
    obtain ⟨inf, hi0⟩ : ∃ inf, (lineB (bl (lnAt ls k))).info = inf := ⟨_, rfl⟩
    rw [hn1, hn2, hn3] at H2
    rw [hn1, hn2, hn3, hz0, hl0, hi0]
    have HE := Lib.hid (And.intro hz0 (And.intro hl0 hi0))
    clear hn1 hn2 hn3 hz0 hl0 hi0
    go_wp2_with (refine wpList_store_mid rfl _ _ _ rfl w.heap.size 0 #[.int .i64 z, .int .i64 lv, .string inf, .slice A1 n1 c1, .slice A2 n2 c2, .slice A3 n3 c3] rfl rfl (show (w2).there w.heap.size 0 6 from there_of_row hz) (by kernel_rfl) (by simp [Value.oneCell']) ?_; have hrow2 := setCells_whole [.int .i64 z, .int .i64 lv, .string inf, .slice A1 n1 c1, .slice A2 n2 c2, .slice A3 n3 c3] hz rfl; generalize hw9 : World.setCells _ w.heap.size 0 _ = w9 at hrow2 ⊢; have HW9 := Lib.hid hw9; clear hw9)
    (try simp only [Exit.inBlock, Exit.then])
    refine bodyPost_ret (results_cell2 rfl _ _ w.heap.size _ _ _ _ rfl hrow2 Tryz.underlying36 rfl (by kernel_rfl)) rfl ?_
    rw [← HW9.out, HGG.out]
    exact blkE_fin (some _) [.int .i64 z, .int .i64 lv, .string inf, .slice A1 n1 c1, .slice A2 n2 c2, .slice A3 n3 c3] H.out H2.out.1.r H2.out.1.hk H2.out.2.2.1 (fun y hy => by
      injection hy with hy
      subst hy
      exact ⟨HE.out.1.symm, HE.out.2.1.symm, HE.out.2.2.symm, H2.out.2.2.2.1.mono (fun j hj _ => Nat.le_trans hs1 hj), H2.out.2.2.2.2.1.mono (fun j hj _ => Nat.le_trans hs1 hj), H2.out.2.2.2.2.2.mono (fun j hj _ => Nat.le_trans hs1 hj)⟩) H2.out.2.1
  · -- 3
    have HGG := Lib.hid (show blockG IN1 IN2 (bl (lnAt ls k)) ((ls.map bl).drop (k + 1)) = (some (lineB (bl (lnAt ls k))), (ls.map bl).drop (k + 1)) from by unfold blockG lineB; rw [HLK.out]; rfl)
    have HC := Lib.hid (pline_calls b B n c k d A ls w1 hr1 hk (by rw [HLK.out]; decide))
    clear hr1 hk hkd0
    go_wp2_with fail
    refine HC.out.mono ?_
    rintro e w2 ⟨v1, v2, v3, k', rfl, h1, h2, h3, hr2, hdr, hg2⟩
    obtain ⟨A1, c1, hf1, hx1, hx2⟩ := h1.form
    obtain ⟨A2, c2, hf2, hx3, hx4⟩ := h2.form
    obtain ⟨A3, c3, hf3, hx5, hx6⟩ := h3.form
    subst hf1
    subst hf2
    subst hf3
    clear hx1 hx2 hx3 hx4 hx5 hx6
    have hz := (hg2.block w.heap.size (by omega) (fun e => by injection e with e; omega)).trans hz1
    have H2 := Lib.hid (And.intro hr2 (And.intro hdr (And.intro (mv_trans hg1 hg2) (And.intro h1 (And.intro h2 h3)))))
    clear hz1 hg1 h1 h2 h3 hr2 hdr hg2 HC
    obtain ⟨n1, hn1⟩ : ∃ n1, ((lineB (bl (lnAt ls k))).lines.map D.str).length = n1 := ⟨_, rfl⟩
    obtain ⟨n2, hn2⟩ : ∃ n2, (dSps (lineB (bl (lnAt ls k))).spans).length = n2 := ⟨_, rfl⟩
    obtain ⟨n3, hn3⟩ : ∃ n3, (dBls (lineB (bl (lnAt ls k))).kids).length = n3 := ⟨_, rfl⟩
    obtain ⟨z, hz0⟩ : ∃ z, (lineB (bl (lnAt ls k))).kind = z := ⟨_, rfl⟩
    obtain ⟨lv, hl0⟩ : ∃ lv, (lineB (bl (lnAt ls k))).level = lv := ⟨_, rfl⟩
    obtain ⟨inf, hi0⟩ : ∃ inf, (lineB (bl (lnAt ls k))).info = inf := ⟨_, rfl⟩
    rw [hn1, hn2, hn3] at H2
    rw [hn1, hn2, hn3, hz0, hl0, hi0]
    have HE := Lib.hid (And.intro hz0 (And.intro hl0 hi0))
    clear hn1 hn2 hn3 hz0 hl0 hi0
    go_wp2_with (refine wpList_store_mid rfl _ _ _ rfl w.heap.size 0 #[.int .i64 z, .int .i64 lv, .string inf, .slice A1 n1 c1, .slice A2 n2 c2, .slice A3 n3 c3] rfl rfl (show (w2).there w.heap.size 0 6 from there_of_row hz) (by kernel_rfl) (by simp [Value.oneCell']) ?_; have hrow2 := setCells_whole [.int .i64 z, .int .i64 lv, .string inf, .slice A1 n1 c1, .slice A2 n2 c2, .slice A3 n3 c3] hz rfl; generalize hw9 : World.setCells _ w.heap.size 0 _ = w9 at hrow2 ⊢; have HW9 := Lib.hid hw9; clear hw9)
    (try simp only [Exit.inBlock, Exit.then])
    refine bodyPost_ret (results_cell2 rfl _ _ w.heap.size _ _ _ _ rfl hrow2 Tryz.underlying36 rfl (by kernel_rfl)) rfl ?_
    rw [← HW9.out, HGG.out]
    exact blkE_fin (some _) [.int .i64 z, .int .i64 lv, .string inf, .slice A1 n1 c1, .slice A2 n2 c2, .slice A3 n3 c3] H.out H2.out.1.r H2.out.1.hk H2.out.2.2.1 (fun y hy => by
      injection hy with hy
      subst hy
      exact ⟨HE.out.1.symm, HE.out.2.1.symm, HE.out.2.2.symm, H2.out.2.2.2.1.mono (fun j hj _ => Nat.le_trans hs1 hj), H2.out.2.2.2.2.1.mono (fun j hj _ => Nat.le_trans hs1 hj), H2.out.2.2.2.2.2.mono (fun j hj _ => Nat.le_trans hs1 hj)⟩) H2.out.2.1
  · -- 4
    have HGG := Lib.hid (show blockG IN1 IN2 (bl (lnAt ls k)) ((ls.map bl).drop (k + 1)) = (some (fenceB (bl (lnAt ls k)) (((ls.map bl).drop (k + 1)).takeWhile fun x => !closesL (openL (bl (lnAt ls k))) x)), (((ls.map bl).drop (k + 1)).dropWhile fun x => !closesL (openL (bl (lnAt ls k))) x).drop 1) from by unfold blockG; rw [HLK.out]; rfl)
    have HC := Lib.hid (fence_calls b B n c k d A ls w1 hr1 hk HLK.out)
    clear hr1 hk hkd0
    go_wp2_with fail
    refine HC.out.mono ?_
    rintro e w2 ⟨v1, v2, v3, k', rfl, h1, h2, h3, hr2, hdr, hg2⟩
    obtain ⟨A1, c1, hf1, hx1, hx2⟩ := h1.form
    obtain ⟨A2, c2, hf2, hx3, hx4⟩ := h2.form
    obtain ⟨A3, c3, hf3, hx5, hx6⟩ := h3.form
    subst hf1
    subst hf2
    subst hf3
    clear hx1 hx2 hx3 hx4 hx5 hx6
    have hz := (hg2.block w.heap.size (by omega) (fun e => by injection e with e; omega)).trans hz1
    have H2 := Lib.hid (And.intro hr2 (And.intro hdr (And.intro (mv_trans hg1 hg2) (And.intro h1 (And.intro h2 h3)))))
    clear hz1 hg1 h1 h2 h3 hr2 hdr hg2 HC
    obtain ⟨n1, hn1⟩ : ∃ n1, ((fenceB (bl (lnAt ls k)) (((ls.map bl).drop (k + 1)).takeWhile fun x => !closesL (openL (bl (lnAt ls k))) x)).lines.map D.str).length = n1 := ⟨_, rfl⟩
    obtain ⟨n2, hn2⟩ : ∃ n2, (dSps (fenceB (bl (lnAt ls k)) (((ls.map bl).drop (k + 1)).takeWhile fun x => !closesL (openL (bl (lnAt ls k))) x)).spans).length = n2 := ⟨_, rfl⟩
    obtain ⟨n3, hn3⟩ : ∃ n3, (dBls (fenceB (bl (lnAt ls k)) (((ls.map bl).drop (k + 1)).takeWhile fun x => !closesL (openL (bl (lnAt ls k))) x)).kids).length = n3 := ⟨_, rfl⟩
    obtain ⟨z, hz0⟩ : ∃ z, (fenceB (bl (lnAt ls k)) (((ls.map bl).drop (k + 1)).takeWhile fun x => !closesL (openL (bl (lnAt ls k))) x)).kind = z := ⟨_, rfl⟩
    obtain ⟨lv, hl0⟩ : ∃ lv, (fenceB (bl (lnAt ls k)) (((ls.map bl).drop (k + 1)).takeWhile fun x => !closesL (openL (bl (lnAt ls k))) x)).level = lv := ⟨_, rfl⟩
    obtain ⟨inf, hi0⟩ : ∃ inf, (fenceB (bl (lnAt ls k)) (((ls.map bl).drop (k + 1)).takeWhile fun x => !closesL (openL (bl (lnAt ls k))) x)).info = inf := ⟨_, rfl⟩
    rw [hn1, hn2, hn3] at H2
    rw [hn1, hn2, hn3, hz0, hl0, hi0]
    have HE := Lib.hid (And.intro hz0 (And.intro hl0 hi0))
    clear hn1 hn2 hn3 hz0 hl0 hi0
    go_wp2_with (refine wpList_store_mid rfl _ _ _ rfl w.heap.size 0 #[.int .i64 z, .int .i64 lv, .string inf, .slice A1 n1 c1, .slice A2 n2 c2, .slice A3 n3 c3] rfl rfl (show (w2).there w.heap.size 0 6 from there_of_row hz) (by kernel_rfl) (by simp [Value.oneCell']) ?_; have hrow2 := setCells_whole [.int .i64 z, .int .i64 lv, .string inf, .slice A1 n1 c1, .slice A2 n2 c2, .slice A3 n3 c3] hz rfl; generalize hw9 : World.setCells _ w.heap.size 0 _ = w9 at hrow2 ⊢; have HW9 := Lib.hid hw9; clear hw9)
    (try simp only [Exit.inBlock, Exit.then])
    refine bodyPost_ret (results_cell2 rfl _ _ w.heap.size _ _ _ _ rfl hrow2 Tryz.underlying36 rfl (by kernel_rfl)) rfl ?_
    rw [← HW9.out, HGG.out]
    exact blkE_fin (some _) [.int .i64 z, .int .i64 lv, .string inf, .slice A1 n1 c1, .slice A2 n2 c2, .slice A3 n3 c3] H.out H2.out.1.r H2.out.1.hk H2.out.2.2.1 (fun y hy => by
      injection hy with hy
      subst hy
      exact ⟨HE.out.1.symm, HE.out.2.1.symm, HE.out.2.2.symm, H2.out.2.2.2.1.mono (fun j hj _ => Nat.le_trans hs1 hj), H2.out.2.2.2.2.1.mono (fun j hj _ => Nat.le_trans hs1 hj), H2.out.2.2.2.2.2.mono (fun j hj _ => Nat.le_trans hs1 hj)⟩) H2.out.2.1
  · -- 5
    have htw : ((ls.map bl).drop k).takeWhile (fun x => kindL x == 5) = bl (lnAt ls k) :: ((ls.map bl).drop (k + 1)).takeWhile (fun x => kindL x == 5) := by rw [HD0.out, List.takeWhile_cons, HLK.out]; rfl
    have hdw : ((ls.map bl).drop k).dropWhile (fun x => kindL x == 5) = ((ls.map bl).drop (k + 1)).dropWhile (fun x => kindL x == 5) := by rw [HD0.out, List.dropWhile_cons, HLK.out]; rfl
    have hq := quote_calls b B n c k d A ls w1 hr1 (by omega) IN1 HH1.out
    rw [htw, hdw] at hq
    obtain ⟨XX, hXX⟩ : ∃ XX, (IN1 ((bl (lnAt ls k) :: ((ls.map bl).drop (k + 1)).takeWhile (fun x => kindL x == 5)).map unmarkL)).map quoteB = XX := ⟨_, rfl⟩
    rw [hXX] at hq
    have HGG := Lib.hid (show blockG IN1 IN2 (bl (lnAt ls k)) ((ls.map bl).drop (k + 1)) = (XX, ((ls.map bl).drop (k + 1)).dropWhile (fun x => kindL x == 5)) from by rw [← hXX]; unfold blockG; rw [HLK.out]; rfl)
    clear htw hdw hXX
    have HC := Lib.hid (hq)
    clear hr1 hk hkd0 hq
    go_wp2_with fail
    refine HC.out.mono ?_
    rintro e w2 ⟨z, lv, inf, A1, A2, A3, n1, n2, n3, c1, c2, c3, k', rfl, hx, hr2, hdr, hg2⟩
    have hz := (hg2.block w.heap.size (by omega) (fun e => by injection e with e; omega)).trans hz1
    have H2 := Lib.hid (And.intro hr2 (And.intro hdr (And.intro (mv_trans hg1 hg2) hx)))
    clear hz1 hg1 hr2 hdr hg2 hx HC
    obtain ⟨ER, hER⟩ : ∃ ER : Int, (if XX.isSome = true then 0 else 5) = ER := ⟨_, rfl⟩
    rw [hER]
    have HER := Lib.hid hER
    clear hER
    go_wp2_with (refine wpList_store_mid rfl _ _ _ rfl w.heap.size 0 #[.int .i64 z, .int .i64 lv, .string inf, .slice A1 n1 c1, .slice A2 n2 c2, .slice A3 n3 c3] rfl rfl (show (w2).there w.heap.size 0 6 from there_of_row hz) (by kernel_rfl) (by simp [Value.oneCell']) ?_; have hrow2 := setCells_whole [.int .i64 z, .int .i64 lv, .string inf, .slice A1 n1 c1, .slice A2 n2 c2, .slice A3 n3 c3] hz rfl; generalize hw9 : World.setCells _ w.heap.size 0 _ = w9 at hrow2 ⊢; have HW9 := Lib.hid hw9; clear hw9)
    (try simp only [Exit.inBlock, Exit.then])
    refine bodyPost_ret (results_cell2 rfl _ _ w.heap.size _ _ _ _ rfl hrow2 Tryz.underlying36 rfl (by kernel_rfl)) rfl ?_
    rw [← HW9.out, HGG.out]
    have hh := blkE_fin XX [.int .i64 z, .int .i64 lv, .string inf, .slice A1 n1 c1, .slice A2 n2 c2, .slice A3 n3 c3] H.out H2.out.1.r H2.out.1.hk H2.out.2.2.1 (fun y hy => by
      obtain ⟨a1, a2, a3, r1, r2, r3⟩ := H2.out.2.2.2 y hy
      exact ⟨a1, a2, a3, r1.mono (fun j hj _ => Nat.le_trans hs1 hj), r2.mono (fun j hj _ => Nat.le_trans hs1 hj), r3.mono (fun j hj _ => Nat.le_trans hs1 hj)⟩) H2.out.2.1
    rw [HER.out] at hh
    exact hh
  · -- 6
    have hq := list_calls b B n c k d A ls w1 hr1 hk HLK.out hd IN2 HH2.out
    obtain ⟨XX, hXX⟩ : ∃ XX, ((itemsN (bl (lnAt ls k)) ((ls.map bl).drop (k + 1))).1.mapM IN2).map listB = XX := ⟨_, rfl⟩
    rw [hXX] at hq
    have HGG := Lib.hid (show blockG IN1 IN2 (bl (lnAt ls k)) ((ls.map bl).drop (k + 1)) = (XX, (itemsN (bl (lnAt ls k)) ((ls.map bl).drop (k + 1))).2) from by rw [← hXX]; unfold blockG; rw [HLK.out]; rfl)
    clear hXX
    have HC := Lib.hid (hq)
    clear hr1 hk hkd0 hq
    go_wp2_with fail
    refine HC.out.mono ?_
    rintro e w2 ⟨z, lv, inf, A1, A2, A3, n1, n2, n3, c1, c2, c3, k', rfl, hx, hr2, hdr, hg2⟩
    have hz := (hg2.block w.heap.size (by omega) (fun e => by injection e with e; omega)).trans hz1
    have H2 := Lib.hid (And.intro hr2 (And.intro hdr (And.intro (mv_trans hg1 hg2) hx)))
    clear hz1 hg1 hr2 hdr hg2 hx HC
    obtain ⟨ER, hER⟩ : ∃ ER : Int, (if XX.isSome = true then 0 else 5) = ER := ⟨_, rfl⟩
    rw [hER]
    have HER := Lib.hid hER
    clear hER
    go_wp2_with (refine wpList_store_mid rfl _ _ _ rfl w.heap.size 0 #[.int .i64 z, .int .i64 lv, .string inf, .slice A1 n1 c1, .slice A2 n2 c2, .slice A3 n3 c3] rfl rfl (show (w2).there w.heap.size 0 6 from there_of_row hz) (by kernel_rfl) (by simp [Value.oneCell']) ?_; have hrow2 := setCells_whole [.int .i64 z, .int .i64 lv, .string inf, .slice A1 n1 c1, .slice A2 n2 c2, .slice A3 n3 c3] hz rfl; generalize hw9 : World.setCells _ w.heap.size 0 _ = w9 at hrow2 ⊢; have HW9 := Lib.hid hw9; clear hw9)
    (try simp only [Exit.inBlock, Exit.then])
    refine bodyPost_ret (results_cell2 rfl _ _ w.heap.size _ _ _ _ rfl hrow2 Tryz.underlying36 rfl (by kernel_rfl)) rfl ?_
    rw [← HW9.out, HGG.out]
    have hh := blkE_fin XX [.int .i64 z, .int .i64 lv, .string inf, .slice A1 n1 c1, .slice A2 n2 c2, .slice A3 n3 c3] H.out H2.out.1.r H2.out.1.hk H2.out.2.2.1 (fun y hy => by
      obtain ⟨a1, a2, a3, r1, r2, r3⟩ := H2.out.2.2.2 y hy
      exact ⟨a1, a2, a3, r1.mono (fun j hj _ => Nat.le_trans hs1 hj), r2.mono (fun j hj _ => Nat.le_trans hs1 hj), r3.mono (fun j hj _ => Nat.le_trans hs1 hj)⟩) H2.out.2.1
    rw [HER.out] at hh
    exact hh
  · -- 7
    have HGG := Lib.hid (show blockG IN1 IN2 (bl (lnAt ls k)) ((ls.map bl).drop (k + 1)) = (some (lineB (bl (lnAt ls k))), (ls.map bl).drop (k + 1)) from by unfold blockG lineB; rw [HLK.out]; rfl)
    have HC := Lib.hid (pline_calls b B n c k d A ls w1 hr1 hk (by rw [HLK.out]; decide))
    clear hr1 hk hkd0
    go_wp2_with fail
    refine HC.out.mono ?_
    rintro e w2 ⟨v1, v2, v3, k', rfl, h1, h2, h3, hr2, hdr, hg2⟩
    obtain ⟨A1, c1, hf1, hx1, hx2⟩ := h1.form
    obtain ⟨A2, c2, hf2, hx3, hx4⟩ := h2.form
    obtain ⟨A3, c3, hf3, hx5, hx6⟩ := h3.form
    subst hf1
    subst hf2
    subst hf3
    clear hx1 hx2 hx3 hx4 hx5 hx6
    have hz := (hg2.block w.heap.size (by omega) (fun e => by injection e with e; omega)).trans hz1
    have H2 := Lib.hid (And.intro hr2 (And.intro hdr (And.intro (mv_trans hg1 hg2) (And.intro h1 (And.intro h2 h3)))))
    clear hz1 hg1 h1 h2 h3 hr2 hdr hg2 HC
    obtain ⟨n1, hn1⟩ : ∃ n1, ((lineB (bl (lnAt ls k))).lines.map D.str).length = n1 := ⟨_, rfl⟩
    obtain ⟨n2, hn2⟩ : ∃ n2, (dSps (lineB (bl (lnAt ls k))).spans).length = n2 := ⟨_, rfl⟩
    obtain ⟨n3, hn3⟩ : ∃ n3, (dBls (lineB (bl (lnAt ls k))).kids).length = n3 := ⟨_, rfl⟩
    obtain ⟨z, hz0⟩ : ∃ z, (lineB (bl (lnAt ls k))).kind = z := ⟨_, rfl⟩
    obtain ⟨lv, hl0⟩ : ∃ lv, (lineB (bl (lnAt ls k))).level = lv := ⟨_, rfl⟩
    obtain ⟨inf, hi0⟩ : ∃ inf, (lineB (bl (lnAt ls k))).info = inf := ⟨_, rfl⟩
    rw [hn1, hn2, hn3] at H2
    rw [hn1, hn2, hn3, hz0, hl0, hi0]
    have HE := Lib.hid (And.intro hz0 (And.intro hl0 hi0))
    clear hn1 hn2 hn3 hz0 hl0 hi0
    go_wp2_with (refine wpList_store_mid rfl _ _ _ rfl w.heap.size 0 #[.int .i64 z, .int .i64 lv, .string inf, .slice A1 n1 c1, .slice A2 n2 c2, .slice A3 n3 c3] rfl rfl (show (w2).there w.heap.size 0 6 from there_of_row hz) (by kernel_rfl) (by simp [Value.oneCell']) ?_; have hrow2 := setCells_whole [.int .i64 z, .int .i64 lv, .string inf, .slice A1 n1 c1, .slice A2 n2 c2, .slice A3 n3 c3] hz rfl; generalize hw9 : World.setCells _ w.heap.size 0 _ = w9 at hrow2 ⊢; have HW9 := Lib.hid hw9; clear hw9)
    (try simp only [Exit.inBlock, Exit.then])
    refine bodyPost_ret (results_cell2 rfl _ _ w.heap.size _ _ _ _ rfl hrow2 Tryz.underlying36 rfl (by kernel_rfl)) rfl ?_
    rw [← HW9.out, HGG.out]
    exact blkE_fin (some _) [.int .i64 z, .int .i64 lv, .string inf, .slice A1 n1 c1, .slice A2 n2 c2, .slice A3 n3 c3] H.out H2.out.1.r H2.out.1.hk H2.out.2.2.1 (fun y hy => by
      injection hy with hy
      subst hy
      exact ⟨HE.out.1.symm, HE.out.2.1.symm, HE.out.2.2.symm, H2.out.2.2.2.1.mono (fun j hj _ => Nat.le_trans hs1 hj), H2.out.2.2.2.2.1.mono (fun j hj _ => Nat.le_trans hs1 hj), H2.out.2.2.2.2.2.mono (fun j hj _ => Nat.le_trans hs1 hj)⟩) H2.out.2.1
  · -- 8
    have htw : ((ls.map bl).drop k).takeWhile (fun x => kindL x == 8) = bl (lnAt ls k) :: ((ls.map bl).drop (k + 1)).takeWhile (fun x => kindL x == 8) := by rw [HD0.out, List.takeWhile_cons, HLK.out]; rfl
    have hdw : ((ls.map bl).drop k).dropWhile (fun x => kindL x == 8) = ((ls.map bl).drop (k + 1)).dropWhile (fun x => kindL x == 8) := by rw [HD0.out, List.dropWhile_cons, HLK.out]; rfl
    have hq := para_calls b B n c k d A ls w1 hr1
    rw [htw, hdw] at hq
    have HGG := Lib.hid (show blockG IN1 IN2 (bl (lnAt ls k)) ((ls.map bl).drop (k + 1)) = (some (paraB (bl (lnAt ls k) :: ((ls.map bl).drop (k + 1)).takeWhile (fun x => kindL x == 8))), ((ls.map bl).drop (k + 1)).dropWhile (fun x => kindL x == 8)) from by unfold blockG; rw [HLK.out]; rfl)
    clear htw hdw
    have HC := Lib.hid (hq)
    clear hr1 hk hkd0 hq
    go_wp2_with fail
    refine HC.out.mono ?_
    rintro e w2 ⟨v1, v2, v3, k', rfl, h1, h2, h3, hr2, hdr, hg2⟩
    obtain ⟨A1, c1, hf1, hx1, hx2⟩ := h1.form
    obtain ⟨A2, c2, hf2, hx3, hx4⟩ := h2.form
    obtain ⟨A3, c3, hf3, hx5, hx6⟩ := h3.form
    subst hf1
    subst hf2
    subst hf3
    clear hx1 hx2 hx3 hx4 hx5 hx6
    have hz := (hg2.block w.heap.size (by omega) (fun e => by injection e with e; omega)).trans hz1
    have H2 := Lib.hid (And.intro hr2 (And.intro hdr (And.intro (mv_trans hg1 hg2) (And.intro h1 (And.intro h2 h3)))))
    clear hz1 hg1 h1 h2 h3 hr2 hdr hg2 HC
    obtain ⟨n1, hn1⟩ : ∃ n1, ((paraB (bl (lnAt ls k) :: ((ls.map bl).drop (k + 1)).takeWhile (fun x => kindL x == 8))).lines.map D.str).length = n1 := ⟨_, rfl⟩
    obtain ⟨n2, hn2⟩ : ∃ n2, (dSps (paraB (bl (lnAt ls k) :: ((ls.map bl).drop (k + 1)).takeWhile (fun x => kindL x == 8))).spans).length = n2 := ⟨_, rfl⟩
    obtain ⟨n3, hn3⟩ : ∃ n3, (dBls (paraB (bl (lnAt ls k) :: ((ls.map bl).drop (k + 1)).takeWhile (fun x => kindL x == 8))).kids).length = n3 := ⟨_, rfl⟩
    obtain ⟨z, hz0⟩ : ∃ z, (paraB (bl (lnAt ls k) :: ((ls.map bl).drop (k + 1)).takeWhile (fun x => kindL x == 8))).kind = z := ⟨_, rfl⟩
    obtain ⟨lv, hl0⟩ : ∃ lv, (paraB (bl (lnAt ls k) :: ((ls.map bl).drop (k + 1)).takeWhile (fun x => kindL x == 8))).level = lv := ⟨_, rfl⟩
    obtain ⟨inf, hi0⟩ : ∃ inf, (paraB (bl (lnAt ls k) :: ((ls.map bl).drop (k + 1)).takeWhile (fun x => kindL x == 8))).info = inf := ⟨_, rfl⟩
    rw [hn1, hn2, hn3] at H2
    rw [hn1, hn2, hn3, hz0, hl0, hi0]
    have HE := Lib.hid (And.intro hz0 (And.intro hl0 hi0))
    clear hn1 hn2 hn3 hz0 hl0 hi0
    go_wp2_with (refine wpList_store_mid rfl _ _ _ rfl w.heap.size 0 #[.int .i64 z, .int .i64 lv, .string inf, .slice A1 n1 c1, .slice A2 n2 c2, .slice A3 n3 c3] rfl rfl (show (w2).there w.heap.size 0 6 from there_of_row hz) (by kernel_rfl) (by simp [Value.oneCell']) ?_; have hrow2 := setCells_whole [.int .i64 z, .int .i64 lv, .string inf, .slice A1 n1 c1, .slice A2 n2 c2, .slice A3 n3 c3] hz rfl; generalize hw9 : World.setCells _ w.heap.size 0 _ = w9 at hrow2 ⊢; have HW9 := Lib.hid hw9; clear hw9)
    (try simp only [Exit.inBlock, Exit.then])
    refine bodyPost_ret (results_cell2 rfl _ _ w.heap.size _ _ _ _ rfl hrow2 Tryz.underlying36 rfl (by kernel_rfl)) rfl ?_
    rw [← HW9.out, HGG.out]
    exact blkE_fin (some _) [.int .i64 z, .int .i64 lv, .string inf, .slice A1 n1 c1, .slice A2 n2 c2, .slice A3 n3 c3] H.out H2.out.1.r H2.out.1.hk H2.out.2.2.1 (fun y hy => by
      injection hy with hy
      subst hy
      exact ⟨HE.out.1.symm, HE.out.2.1.symm, HE.out.2.2.symm, H2.out.2.2.2.1.mono (fun j hj _ => Nat.le_trans hs1 hj), H2.out.2.2.2.2.1.mono (fun j hj _ => Nat.le_trans hs1 hj), H2.out.2.2.2.2.2.mono (fun j hj _ => Nat.le_trans hs1 hj)⟩) H2.out.2.1
end Go.Proofs.YtlcfijkegdlfcaaGreatDoor
