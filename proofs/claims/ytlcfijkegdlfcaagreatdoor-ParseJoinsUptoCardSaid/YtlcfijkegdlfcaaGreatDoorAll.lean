/- The walk of the reader's all; parse.Lines. -/
import Derived.Test.YtlcfijkegdlfcaaGreatDoorBlock
namespace Go.Proofs.YtlcfijkegdlfcaaGreatDoor
open Go.RowKit Go.PlainAid
set_option linter.all false
set_option linter.deprecated false
set_option maxRecDepth 100000
theorem dropBlank_idem (l : List Ln) : dropBlank (dropBlank l) = dropBlank l := by
  unfold dropBlank
  induction l with
  | nil => rfl
  | cons a t ih =>
    by_cases h : (kindL a == 1) = true
    · rw [List.dropWhile_cons, if_pos h]; exact ih
    · rw [List.dropWhile_cons, if_neg h, List.dropWhile_cons, if_neg h]
section
variable (in1 in2 : List Ln → Option (List Bl))
def blocksN (l : List Ln) : Option (List Bl) := blocksG in1 in2 l.length l
theorem blocksN_nil {l : List Ln} (h : dropBlank l = []) : blocksN in1 in2 l = some [] := by
  unfold blocksN
  rw [blocksG_fuel l.length (l.length + 1) l (Nat.le_refl _) (Nat.le_succ _), blocksG, h]
theorem blocksN_cons {l : List Ln} {s : Ln} {t : List Ln} (h : dropBlank l = s :: t) : blocksN in1 in2 l = match (blockG in1 in2 s t).1 with | none => none | some b => (blocksN in1 in2 (blockG in1 in2 s t).2).map (b :: ·) := by
  unfold blocksN
  have h1 := drop_le l
  rw [h, List.length_cons] at h1
  have h2 := blockG_le (in1 := in1) (in2 := in2) s t
  rw [blocksG_fuel l.length (l.length + 1) l (Nat.le_refl _) (Nat.le_succ _), blocksG, h]
  cases hb : (blockG in1 in2 s t).1 with
  | none => simp only [hb]
  | some b => simp only [hb]; rw [blocksG_fuel l.length (blockG in1 in2 s t).2.length _ (by omega) (Nat.le_refl _)]
theorem blocksN_drop (l : List Ln) : blocksN in1 in2 (dropBlank l) = blocksN in1 in2 l := by
  cases h : dropBlank l with
  | nil => rw [blocksN_nil in1 in2 h]; rfl
  | cons s t =>
    rw [blocksN_cons in1 in2 h, blocksN_cons in1 in2 (l := s :: t) (by rw [← h, dropBlank_idem])]
end
set_option maxHeartbeats 8000000 in
theorem all_deep (d : Nat) (h1 : 16 < d) (h2 : d ≤ 1000) : AllAt d (fun _ => none) := by
  intro w b B n c A ls h
  obtain ⟨_, _, c2, _, _⟩ := h.r.facts
  have hz : (16 : Int) < d := by omega
  clear h
  go_enter Tryz.func33, Tryz.ntmps33
  go_wp2_with fail
  go_ret2
  exact ⟨⟨none, 0, 0, rfl, fun bs h => by cases h⟩, World.grownBy.refl _ _⟩
set_option maxHeartbeats 8000000 in
theorem all_step (d : Nat) (hd : d ≤ 16) (IN1 IN2 : List Ln → Option (List Bl)) (h1 : AllAt (d + 1) IN1) (h2 : AllAt (d + 2) IN2) : AllAt d (blocksN IN1 IN2) := by
  intro w b B n c A ls h
  obtain ⟨_, _, c2, _, hbl⟩ := h.r.facts
  have hz : ¬ (16 : Int) < d := by omega
  have hnm := h.hn
  have H := Lib.hid h
  have hRU := run_calls b B n c 0 d 1 A ls w h (by decide)
  have hrk := runK_drop 1 (ls.map bl)
  rw [List.drop_zero, Nat.zero_add] at hRU
  have hdb : (ls.map bl).dropWhile (fun x => kindL x == 1) = dropBlank (ls.map bl) := rfl
  rw [hdb] at hrk
  obtain ⟨X, hX⟩ : ∃ X, blocksN IN1 IN2 (ls.map bl) = X := ⟨_, rfl⟩
  rw [hX]
  rw [← blocksN_drop, ← hrk] at hX
  obtain ⟨R0, hR0⟩ : ∃ R, runK 1 (ls.map bl) = R := ⟨_, rfl⟩
  rw [hR0] at hRU hrk hX
  have HX := Lib.hid hX
  have HRU := Lib.hid hRU
  have HRK := Lib.hid hrk
  have HH1 := Lib.hid h1
  have HH2 := Lib.hid h2
  clear h hRU hrk hX hdb hR0 h1 h2
  go_enter Tryz.func33, Tryz.ntmps33
  go_wp2_with fail
  refine HRU.out.mono ?_
  rintro e w1 ⟨A1, c1, rfl, _, hr1, hg1⟩
  have H1 := Lib.hid (And.intro hr1 hg1)
  clear hr1 hg1 HRU c2
  go_wp2_with fail
  go_loopw [4] (fun v4 wr => ∃ (j m cr : Nat) (Ar : Option Addr) (out : List Bl) (cells : List Value), v4 = .slice Ar m cr ∧ m = out.length ∧ m ≤ j ∧ dropBlank ((ls.map bl).drop j) = (ls.map bl).drop j ∧ OwnC w.heap.size 36 6 wr (.slice Ar m cr) (dBls out) cells ∧ Rds wr b B A n c ls j d ∧ w.grownBy wr (some b) ∧
      (blocksN IN1 IN2 ((ls.map bl).drop j)).map (out ++ ·) = X)
    (fun _ wr => n - (match wr.cell? ⟨b, 1, none⟩ with | some v => (intOf v).toNat | none => 0))
  case atStart => exact ⟨R0, 0, 0, none, [], [], rfl, rfl, Nat.zero_le _, by rw [HRK.out, dropBlank_idem], OwnC.nil _ _ _ _, H1.out.1, H1.out.2, by rw [HX.out]; simp⟩
  case round =>
    clear HX HRK H1
    obtain ⟨j, m, cr, Ar, out, cells, rfl, hm, hmj, hdj, hown, hr, hg, hx⟩ := hrel
    have HE := Lib.hid (here_calls b B n c j d A ls wr hr)
    have hmz := hr.r.facts.2.1
    have HR := Lib.hid (And.intro hr (And.intro hg (And.intro hmz (And.intro hx (And.intro hdj (And.intro hm hown))))))
    have hjn := hr.hk
    by_cases hend : j = n
    · have hnil : (ls.map bl).drop j = [] := hereL_end H.out.len (by omega)
      rw [hnil] at HE
      have hx0 : X = some out := by rw [← hx, hnil, blocksN_nil IN1 IN2 rfl]; simp
      subst hx0
      have HN := Lib.hid hm
      clear hr hg hmz hx hdj hm hown hnil hend
      simp only [hereL] at HE
      go_wp2_with fail
      refine HE.out.mono ?_
      rintro e w2 ⟨rfl, hb2⟩
      go_wp2_with fail
      go_ret2
      exact ⟨⟨Ar, m, cr, rfl, fun bs hb => by injection hb with hb; subst hb; exact (HR.out.2.2.2.2.2.2.below hb2).rd⟩, mv_trans HR.out.2.1 (mv_below hb2 b)⟩
    · have hlt : j < n := by omega
      obtain ⟨_, _, _, _, _, _, hdd⟩ := hr.at hlt
      change _ = bl (lnAt ls j) :: _ at hdd
      have hne : kindL (bl (lnAt ls j)) ≠ 1 := fun e => by
        rw [hdd] at hdj
        have hdj' : (bl (lnAt ls j) :: (ls.map bl).drop (j + 1)).dropWhile (fun x => kindL x == 1) = _ := hdj
        rw [List.dropWhile_cons, if_pos (by rw [e]; rfl)] at hdj'
        have := congrArg List.length hdj'
        have h2 := drop_le ((ls.map bl).drop (j + 1))
        unfold dropBlank at h2
        rw [List.length_cons] at this
        omega
      have hrg := kind_range (bl (lnAt ls j))
      have hbc := blocksN_cons IN1 IN2 (l := (ls.map bl).drop j) (s := bl (lnAt ls j)) (t := (ls.map bl).drop (j + 1)) (by rw [hdj, hdd])
      have hble := blockG_le (in1 := IN1) (in2 := IN2) (bl (lnAt ls j)) ((ls.map bl).drop (j + 1))
      have hB := fun W (hW : Rds W b B A n c ls j d) => block_calls b B n c j d A ls W hW hlt hne (by omega) IN1 IN2 HH1.out HH2.out
      rw [hdd] at HE
      simp only [hereL] at HE
      obtain ⟨KD, hKD⟩ : ∃ KD, kindL (bl (lnAt ls j)) = KD := ⟨_, rfl⟩
      rw [hKD] at HE hrg
      obtain ⟨G, hG⟩ : ∃ G, blockG IN1 IN2 (bl (lnAt ls j)) ((ls.map bl).drop (j + 1)) = G := ⟨_, rfl⟩
      rw [hG] at hbc hB hble
      rw [List.length_drop, List.length_map, H.out.len] at hble
      have HB := Lib.hid hB
      have HBC := Lib.hid hbc
      have hkz : ((KD : Int) != 0) = true := bne_iff_ne.2 (by omega)
      clear hr hg hmz hx hdj hm hown hdd hne hbc hB hKD hG hrg hend
      go_wp2_with fail
      refine HE.out.mono ?_
      rintro e w2 ⟨rfl, hb2⟩
      have hr2 := HR.out.1.below hb2
      have hg2 := mv_trans HR.out.2.1 (mv_below hb2 b)
      have ho2 := HR.out.2.2.2.2.2.2.below hb2
      have HC := Lib.hid (HB.out w2 hr2)
      have H2 := Lib.hid (And.intro hg2 ho2)
      clear hr2 hg2 ho2 hb2 HE HB
      go_wp2_with fail
      refine HC.out.mono ?_
      rintro e w3 ⟨z, lv, inf, A1, A2, A3, n1, n2, n3, c1, c2, c3, k', rfl, hx, hr3, hdr, hg3⟩
      have hg3w := mv_trans H2.out.1 hg3
      have ho3 := H2.out.2.kept (w' := w3) (fun q hq hlt => hg3.block q hlt (fun e => by injection e with e; omega))
      have hoff := fun d news (hx : Rep (w2.heap.size ≤ ·) w3 d news) => H2.out.2.off (d := d) (news := news) H2.out.1.size (Nat.le_refl _) hx
      have hs3 : w.heap.size ≤ w3.heap.size := hg3w.size
      have hbA := (Below.refl w3.heap.size w3).alloc (Nat.le_refl _) (.cells #[.int .i64 z, .int .i64 lv, .string inf, .slice A1 n1 c1, .slice A2 n2 c2, .slice A3 n3 c3] 36)
      have hsA := World.size_alloc w3 (.cells #[.int .i64 z, .int .i64 lv, .string inf, .slice A1 n1 c1, .slice A2 n2 c2, .slice A3 n3 c3] 36)
      have hk' := hr3.hk
      have hlen := congrArg List.length hdr
      rw [List.length_drop, List.length_map, H.out.len] at hlen
      have hjk : j < k' := by omega
      have H3 := Lib.hid (And.intro hr3 (And.intro hdr (And.intro hg3w (And.intro ho3 (And.intro hoff (And.intro hx (And.intro hbA hjk)))))))
      have HL := Lib.hid hble
      clear hr3 hdr hg3 hg3w ho3 hoff hx hbA HC H2 hlen hble
      cases hG1 : G.1 with
      | none =>
        have HBC2 := Lib.hid (HBC.out.trans (by rw [hG1]))
        have hX : X = none := by rw [← HR.out.2.2.2.1, HBC2.out]; rfl
        subst hX
        clear hG1
        go_wp2_with fail
        go_ret2
        exact ⟨⟨none, 0, 0, rfl, fun bs hb => by cases hb⟩, mv_low H3.out.2.2.1 (H3.out.2.2.2.2.2.2.1.mono hs3)⟩
      | some bb =>
        have HBC2 := Lib.hid (HBC.out.trans (by rw [hG1]))
        have hxb := H3.out.2.2.2.2.2.1 bb hG1
        have hoA := H3.out.2.2.2.1.below H3.out.2.2.2.2.2.2.1
        have hrp : Rep (fun q => w.heap.size ≤ q ∧ (Value.slice Ar m cr).ownBlock ≠ some q) w3 (dBl bb) [.int .i64 z, .int .i64 lv, .string inf, .slice A1 n1 c1, .slice A2 n2 c2, .slice A3 n3 c3] := by
          refine H3.out.2.2.2.2.1 _ _ ?_
          obtain ⟨a1, a2, a3, r1, r2, r3⟩ := hxb
          rw [a1, a2, a3]
          exact rep_block r1 r2 r3
        have hrpA := Rep.step (fun q _ hq => H3.out.2.2.2.2.2.2.1.block q hq) (fun _ h _ => h) hrp
        have hownA := hoA.1
        have hmo := HR.out.2.2.2.2.2.1
        rw [dBls_len, ← hmo] at hownA
        have HOW := Lib.hid hownA
        have HOA := Lib.hid (And.intro hoA hrpA)
        have hm104 : (m + 1) * 104 ≤ 140737488355328 := by omega
        have hsB : w.heap.size ≤ (w3.alloc (.cells #[.int .i64 z, .int .i64 lv, .string inf, .slice A1 n1 c1, .slice A2 n2 c2, .slice A3 n3 c3] 36)).heap.size := by omega
        have HMO := Lib.hid hmo
        clear hG1 hxb hoA hrp hrpA hownA hsA hmo
        go_wp2_with (at_builtin; go_must (refine app_one (w0 := w3.alloc (.cells #[.int .i64 z, .int .i64 lv, .string inf, .slice A1 n1 c1, .slice A2 n2 c2, .slice A3 n3 c3] 36)) w.heap.size rfl _ _ 23 36 rfl Tryz.underlying23 infoBlP rfl (by decide) (by decide) [.int .i64 z, .int .i64 lv, .string inf, .slice A1 n1 c1, .slice A2 n2 c2, .slice A3 n3 c3] rfl (by rw [World.size_alloc]; rfl) rfl (by simp [Value.oneCell']) (by exact HOW.out) (Below.refl _ _) hsB hm104 ?_); intro v' w7 hown' hbe' hgr hat; obtain ⟨A7, c7, hv'⟩ := own_slice hown'; subst hv')
        have hg7 := mv_low (mv_low H3.out.2.2.1 (H3.out.2.2.2.2.2.2.1.mono hs3)) hbe'
        have hr7 : Rdr w7 b (.slice A n c) k' d := (hbe'.block b hbl).trans ((H3.out.2.2.2.2.2.2.1.block b H3.out.1.lt).trans H3.out.1.r)
        have hrr7 := H.out.to hg7 hr7 hk'
        have hO7 : OwnC w.heap.size 36 6 w7 (.slice A7 (m + 1) c7) (dBls (out ++ [bb])) (cells ++ [.int .i64 z, .int .i64 lv, .string inf, .slice A1 n1 c1, .slice A2 n2 c2, .slice A3 n3 c3]) := by
          rw [dBls_app]
          have hd1 : dBls [bb] = [dBl bb] := by simp [dBls]
          rw [hd1]
          exact HOA.out.1.snoc (d := dBl bb) HOA.out.2 (by rw [dBls_len, ← HMO.out]; exact hown') hgr hat
        have hRU := run_calls b B n c k' d 1 A ls w7 hrr7 (by decide)
        have hrk := runK_drop 1 ((ls.map bl).drop k')
        rw [List.drop_drop, H3.out.2.1] at hrk
        have hdb : G.2.dropWhile (fun x => kindL x == 1) = dropBlank G.2 := rfl
        rw [hdb] at hrk
        obtain ⟨R, hR⟩ : ∃ R, runK 1 ((ls.map bl).drop k') = R := ⟨_, rfl⟩
        have hR2 : runK 1 G.2 = R := by rw [← H3.out.2.1]; exact hR
        rw [hR2] at hrk
        rw [hR] at hRU
        have HRU := Lib.hid hRU
        have HRK := Lib.hid hrk
        have H7 := Lib.hid (And.intro hg7 hO7)
        clear hg7 hr7 hrr7 hO7 hRU hrk hdb hR hR2 hown' hbe' hgr hat HOA HOW hsB
        refine HRU.out.mono ?_
        rintro e w8 ⟨A8, c8, rfl, hv8, hr8, hg8⟩
        clear hv8
        have hg8w := mv_trans H7.out.1 hg8
        have hO8 := H7.out.2.kept (w' := w8) (fun q hq hlt => hg8.block q hlt (fun e => by injection e with e; omega))
        have H8 := Lib.hid (And.intro hr8 (And.intro hg8w hO8))
        clear hr8 hg8 hg8w hO8 HRU H7
        go_wp2_with fail
        go_roundw
        case rel =>
          have hjk := H3.out.2.2.2.2.2.2.2
          refine ⟨k' + R, m + 1, c7, A7, out ++ [bb], _, rfl, by rw [List.length_append, ← HMO.out]; rfl, by omega, by rw [HRK.out, dropBlank_idem], H8.out.2.2, H8.out.1, H8.out.2.1, ?_⟩
          rw [← HR.out.2.2.2.1, HBC2.out, HRK.out, blocksN_drop]
          cases blocksN IN1 IN2 G.2 with
          | none => rfl
          | some y => simp
        case measure =>
          have hjk := H3.out.2.2.2.2.2.2.2
          have hkk := H8.out.1.hk
          rw [HR.out.2.2.1, H8.out.1.r.facts.2.1]
          simp only [intOf, Int.toNat_natCast]
          omega
theorem all_at : ∀ r d, d + r = 17 → AllAt d (allG r)
  | 0, d, h => by
    have e : allG 0 = fun _ => none := by funext l; rfl
    rw [e]
    exact all_deep d (by omega) (by omega)
  | 1, d, h => by
    have e : allG 1 = blocksN (fun _ => none) (fun _ => none) := by funext l; rfl
    rw [e]
    exact all_step d (by omega) _ _ (all_deep _ (by omega) (by omega)) (all_deep _ (by omega) (by omega))
  | r + 2, d, h => by
    have e : allG (r + 2) = blocksN (allG (r + 1)) (allG r) := by funext l; rfl
    rw [e]
    exact all_step d (by omega) _ _ (all_at (r + 1) (d + 1) (by omega)) (all_at r (d + 2) (by omega))
set_option maxHeartbeats 4000000 in
theorem PLines_calls (A : Option Addr) (n c : Nat) (ls : List ByteArray) (w : World) (hl : Rd (fun _ => True) w (.slice A n c) (ls.map D.str)) (ht : sumS ls ≤ 4294967280) (hT : TextB w.heap.size w) :
    Calls Tryz.prog 17 #[.slice A n c] w fun e w' => AllOf (linesG (ls.map bl)) w.heap.size e w' ∧ Below w.heap.size w w' := by
  have hbA := (Below.refl w.heap.size w).alloc (Nat.le_refl _) (.cells #[.slice A n c, .int .i64 0, .int .i64 0] 59)
  have hgA := heap_alloc_new w (.cells #[.slice A n c, .int .i64 0, .int .i64 0] 59)
  have hr : Rds (w.alloc (.cells #[.slice A n c, .int .i64 0, .int .i64 0] 59)) w.heap.size w.heap.size A n c ls 0 0 :=
    ⟨hgA, hl.step (fun j _ hj => hbA.block j hj) (fun j _ hj => Nat.ne_of_lt hj), ht, Nat.zero_le _, hT.step hbA, Nat.le_refl _⟩
  have HI := Lib.hid (all_at 17 0 rfl _ _ _ _ _ _ _ hr)
  have HBA := Lib.hid hbA
  unfold linesG
  obtain ⟨X, hX⟩ : ∃ X, allG 17 (ls.map bl) = X := ⟨_, rfl⟩
  rw [hX] at HI ⊢
  clear hr hbA hgA hl hT hX
  go_enter Tryz.func17, Tryz.ntmps17
  go_wp2_with fail
  refine HI.out.mono ?_
  rintro e w1 ⟨⟨A2, n2, c2, rfl, hx⟩, hg1⟩
  have HXX := Lib.hid hx
  have HG := Lib.hid hg1
  clear hx hg1 HI
  obtain ⟨ER, hER⟩ : ∃ ER : Int, (if X.isSome = true then 0 else 5) = ER := ⟨_, rfl⟩
  rw [hER]
  have HER := Lib.hid hER
  clear hER
  go_wp2_with fail
  go_ret2
  have hlt : w.heap.size < (w.alloc (.cells #[.slice A n c, .int .i64 0, .int .i64 0] 59)).heap.size := by simp
  refine ⟨⟨A2, n2, c2, by rw [HER.out]; rfl, fun bs hb => (HXX.out bs hb).mono (fun j hj _ => Nat.le_trans (Nat.le_of_lt hlt) hj)⟩, HBA.out.trans (mv_to HG.out (Nat.le_refl _) hlt)⟩
end Go.Proofs.YtlcfijkegdlfcaaGreatDoor
