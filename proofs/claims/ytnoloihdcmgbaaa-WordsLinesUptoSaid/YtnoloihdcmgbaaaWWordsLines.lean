/- The walk of the law WordsLines. -/
import Derived.Test.YtnoloihdcmgbaaaRef02
import Derived.Test.YtnoloihdcmgbaaaAhead
import Derived.Test.YtnoloihdcmgbaaaBridge
import Derived.Test.YtnoloihdcmgbaaaGuard
namespace Go.Proofs.Ytnoloihdcmgbaaa
open Go.RowKit Go.PlainAid
set_option linter.all false
set_option linter.deprecated false
set_option maxRecDepth 100000
/-- A datum of the type []string. -/
theorem strs_of {t : TypeId} (ht : Try.prog.underlying t = some (.slice 9)) {X : D} (h : ∃ n, HasTy Try.prog n t X) : ∃ l : List ByteArray, X = .sl (l.map D.str) := by
  obtain ⟨n, h⟩ := h
  cases n with
  | zero => rw [HasTy] at h; exact h.elim
  | succ n =>
    rw [HasTy, ht] at h
    obtain ⟨xs, rfl, hx⟩ := h
    suffices ∃ l : List ByteArray, xs = l.map D.str by obtain ⟨l, rfl⟩ := this; exact ⟨l, rfl⟩
    induction xs with
    | nil => exact ⟨[], rfl⟩
    | cons x xs ih =>
      obtain ⟨l, rfl⟩ := ih (fun y hy => hx y (by simp [hy]))
      have h0 := hx x (by simp)
      cases n with
      | zero => rw [HasTy] at h0; exact h0.elim
      | succ n =>
        rw [HasTy, Try.underlying9] at h0
        obtain ⟨s, rfl, _⟩ := h0
        exact ⟨s :: l, rfl⟩
theorem bulk_strs (l : List ByteArray) : (D.sl (l.map D.str)).bulk = 1 + l.length + (l.map (·.size)).sum := by
  rw [D.bulk]
  suffices D.bulks (l.map D.str) = l.length + (l.map (·.size)).sum by omega
  induction l with
  | nil => rfl
  | cons s l ih => rw [List.map_cons, D.bulks, ih, D.bulk, List.length_cons, List.map_cons, List.sum_cons]; omega
/-- What the guard lets by. -/
theorem linesOk_sz {l : List ByteArray} (h : linesOk l = true) : l.length ≤ 40 ∧ ∀ s ∈ l, s.size ≤ 500 := by
  unfold linesOk at h
  simpa using h
set_option maxRecDepth 100000 in
set_option maxHeartbeats 1000000 in
/-- The guard doesn't let by. -/
theorem wordsLines_out (A0 : Option Addr) (n0 c0 : Nat) (A1 : Option Addr) (n1 c1 : Nat) (A2 : Option Addr) (n2 c2 : Nat) (f : ByteArray) (b o t : List ByteArray) (w : World)
    (hB : Rd (· < w.heap.size) w (.slice A0 n0 c0) (b.map D.str)) (hO : Rd (· < w.heap.size) w (.slice A1 n1 c1) (o.map D.str)) (hT : Rd (· < w.heap.size) w (.slice A2 n2 c2) (t.map D.str))
    (h : ¬ (linesOk b = true ∧ linesOk o = true ∧ linesOk t = true ∧ f.size ≤ 500)) :
    Calls Try.prog 4 #[.slice A0 n0 c0, .slice A1 n1 c1, .slice A2 n2 c2, .string f] w fun e w' => e = .returned (.bool true) ∧ Below w.heap.size w w' := by
  have HB := Lib.hid (fun (W : World) (hW : Below w.heap.size w W) => lines_calls _ b W (hB.below hW))
  have HO := Lib.hid (fun (W : World) (hW : Below w.heap.size w W) => lines_calls _ o W (hO.below hW))
  have HT := Lib.hid (fun (W : World) (hW : Below w.heap.size w W) => lines_calls _ t W (hT.below hW))
  clear hB hO hT
  generalize linesOk b = kb at *
  generalize linesOk o = ko at *
  generalize linesOk t = kt at *
  cases kb with
  | false =>
    clear h
    go_enter Try.func4, Try.ntmps4
    go_wp2_with fail
    refine (awake_calls _).mono ?_
    rintro e w1 ⟨rfl, hb1⟩
    go_wp2_with fail
    refine (HB.out _ hb1).mono ?_
    rintro e w2 ⟨rfl, rfl⟩
    go_wp2_with fail
    refine (awake_calls _).mono ?_
    rintro e w3 ⟨rfl, hb3⟩
    go_wp2_with fail
    go_ret
    exact ⟨rfl, below_to hb1 hb1.size hb3⟩
  | true =>
    cases ko with
    | false =>
      clear h
      go_enter Try.func4, Try.ntmps4
      go_wp2_with fail
      refine (awake_calls _).mono ?_
      rintro e w1 ⟨rfl, hb1⟩
      go_wp2_with fail
      refine (HB.out _ hb1).mono ?_
      rintro e w2 ⟨rfl, rfl⟩
      go_wp2_with fail
      refine (HO.out _ hb1).mono ?_
      rintro e w2 ⟨rfl, rfl⟩
      go_wp2_with fail
      refine (awake_calls _).mono ?_
      rintro e w3 ⟨rfl, hb3⟩
      go_wp2_with fail
      go_ret
      exact ⟨rfl, below_to hb1 hb1.size hb3⟩
    | true =>
      cases kt with
      | false =>
        clear h
        go_enter Try.func4, Try.ntmps4
        go_wp2_with fail
        refine (awake_calls _).mono ?_
        rintro e w1 ⟨rfl, hb1⟩
        go_wp2_with fail
        refine (HB.out _ hb1).mono ?_
        rintro e w2 ⟨rfl, rfl⟩
        go_wp2_with fail
        refine (HO.out _ hb1).mono ?_
        rintro e w2 ⟨rfl, rfl⟩
        go_wp2_with fail
        refine (HT.out _ hb1).mono ?_
        rintro e w2 ⟨rfl, rfl⟩
        go_wp2_with fail
        refine (awake_calls _).mono ?_
        rintro e w3 ⟨rfl, hb3⟩
        go_wp2_with fail
        go_ret
        exact ⟨rfl, below_to hb1 hb1.size hb3⟩
      | true =>
        have hz : (500 : Int) < f.size := by simp at h; omega
        clear h
        go_enter Try.func4, Try.ntmps4
        go_wp2_with fail
        refine (awake_calls _).mono ?_
        rintro e w1 ⟨rfl, hb1⟩
        go_wp2_with fail
        refine (HB.out _ hb1).mono ?_
        rintro e w2 ⟨rfl, rfl⟩
        go_wp2_with fail
        refine (HO.out _ hb1).mono ?_
        rintro e w2 ⟨rfl, rfl⟩
        go_wp2_with fail
        refine (HT.out _ hb1).mono ?_
        rintro e w2 ⟨rfl, rfl⟩
        go_wp2_with fail
        refine (awake_calls _).mono ?_
        rintro e w3 ⟨rfl, hb3⟩
        go_wp2_with fail
        go_ret
        exact ⟨rfl, below_to hb1 hb1.size hb3⟩

set_option maxHeartbeats 2000000 in
theorem wordsLines_walk (A0 : Option Addr) (n0 c0 : Nat) (X0 : D) (A1 : Option Addr) (n1 c1 : Nat) (X1 : D) (A2 : Option Addr) (n2 c2 : Nat) (X2 : D) (f : ByteArray) (w : World)
    (g0 : Rep (· < w.heap.size) w X0 [.slice A0 n0 c0]) (ty0 : ∃ n, HasTy Try.prog n 26 X0) (g1 : Rep (· < w.heap.size) w X1 [.slice A1 n1 c1]) (ty1 : ∃ n, HasTy Try.prog n 26 X1)
    (g2 : Rep (· < w.heap.size) w X2 [.slice A2 n2 c2]) (ty2 : ∃ n, HasTy Try.prog n 26 X2) (_ : f.size ≤ maxLen) (_ : X0.bulk + X1.bulk + X2.bulk + (f.size + 1) ≤ 1048576) :
    Calls Try.prog 4 #[.slice A0 n0 c0, .slice A1 n1 c1, .slice A2 n2 c2, .string f] w fun e w' => e = .returned (.bool true) ∧ Below w.heap.size w w' := by
  obtain ⟨b, rfl⟩ := strs_of Try.underlying26 ty0
  obtain ⟨o, rfl⟩ := strs_of Try.underlying26 ty1
  obtain ⟨t, rfl⟩ := strs_of Try.underlying26 ty2
  have hB : Rd (· < w.heap.size) w (.slice A0 n0 c0) (b.map D.str) := g0
  have hO : Rd (· < w.heap.size) w (.slice A1 n1 c1) (o.map D.str) := g1
  have hT : Rd (· < w.heap.size) w (.slice A2 n2 c2) (t.map D.str) := g2
  by_cases hg : linesOk b = true ∧ linesOk o = true ∧ linesOk t = true ∧ f.size ≤ 500
  rotate_left
  · exact wordsLines_out A0 n0 c0 A1 n1 c1 A2 n2 c2 f b o t w hB hO hT hg
  obtain ⟨k1, k2, k3, hf⟩ := hg
  have hz5 : ¬ (500 : Int) < f.size := by omega
  clear g0 g1 g2 ty0 ty1 ty2
  obtain ⟨lb, zb⟩ := linesOk_sz k1
  obtain ⟨lo, zo⟩ := linesOk_sz k2
  obtain ⟨lt, zt⟩ := linesOk_sz k3
  obtain ⟨rfl, hcb⟩ := rd_strs hB
  obtain ⟨rfl, hco⟩ := rd_strs hO
  obtain ⟨rfl, hct⟩ := rd_strs hT
  have hz0 : ∀ s ∈ b ++ o ++ t, s.size ≤ 500 := fun s hs => by
    rcases List.mem_append.1 hs with h | h
    · rcases List.mem_append.1 h with h | h
      · exact zb s h
      · exact zo s h
    · exact zt s h
  have hWL := fun (W : World) (hW : Below w.heap.size w W) => WLines_calls _ _ _ b o t W (by omega) (by omega) (by omega) (fun s hs => by have := hz0 s hs; unfold maxLen; omega) (hB.below' hW) (hO.below' hW) (hT.below' hW)
  have hWM := fun (W : World) (vb vo vt : Value) (h1 : Rd (· < W.heap.size) W vb ((f :: b).map D.str)) (h2 : Rd (· < W.heap.size) W vo ((f :: o).map D.str)) (h3 : Rd (· < W.heap.size) W vt ((f :: t).map D.str)) =>
    WLines_calls vb vo vt (f :: b) (f :: o) (f :: t) W (by simp; omega) (by simp; omega) (by simp; omega) (fun s hs => by
      have : s.size ≤ 500 := by
        simp only [List.mem_append, List.mem_cons] at hs
        rcases hs with ((h | h) | h | h) | h | h
        · subst h; exact hf
        · exact zb s h
        · subst h; exact hf
        · exact zo s h
        · subst h; exact hf
        · exact zt s h
      unfold maxLen; omega) h1 h2 h3
  rw [mergeL_ahead] at hWM
  have hmem : ∀ s ∈ (mergeL b o t).getD [], s ∈ o ∨ s ∈ t := fun s hs => by
    cases hM : mergeL b o t with
    | none => rw [hM] at hs; cases hs
    | some m => rw [hM] at hs; exact mergeL_mem hM hs
  have hln : ((mergeL b o t).getD []).length ≤ 80 := by
    cases hM : mergeL b o t with
    | none => simp
    | some m => have := mergeL_len hM; simp; omega
  generalize mergeL b o t = M at *
  have NB := Lib.hid (fun (W : World) (hW : Below w.heap.size w W) => str_news (W := W) hB (fun k hk _ => hW.block k hk))
  have NO := Lib.hid (fun (W : World) (hW : Below w.heap.size w W) => str_news (W := W) hO (fun k hk _ => hW.block k hk))
  have NT := Lib.hid (fun (W : World) (hW : Below w.heap.size w W) => str_news (W := W) hT (fun k hk _ => hW.block k hk))
  have HWL := Lib.hid hWL
  have HWM := Lib.hid hWM
  have HME := Lib.hid hmem
  clear hWL hWM hmem hz0 zb zo zt
  have L1 := fun (W : World) (hW : Below w.heap.size w W) => lines_calls _ b W (hB.below hW)
  have L2 := fun (W : World) (hW : Below w.heap.size w W) => lines_calls _ o W (hO.below hW)
  have L3 := fun (W : World) (hW : Below w.heap.size w W) => lines_calls _ t W (hT.below hW)
  rw [k1] at L1
  rw [k2] at L2
  rw [k3] at L3
  have HL1 := Lib.hid L1
  have HL2 := Lib.hid L2
  have HL3 := Lib.hid L3
  have HB := Lib.hid hB
  have HO := Lib.hid hO
  have HT := Lib.hid hT
  clear L1 L2 L3 hB hO hT k1 k2 k3
  go_enter Try.func4, Try.ntmps4
  go_wp2_with fail
  refine (awake_calls _).mono ?_
  rintro e w1 ⟨rfl, hb1⟩
  go_wp2_with fail
  refine (HL1.out _ hb1).mono ?_
  rintro e w2 ⟨rfl, rfl⟩
  go_wp2_with fail
  refine (HL2.out _ hb1).mono ?_
  rintro e w2 ⟨rfl, rfl⟩
  go_wp2_with fail
  refine (HL3.out _ hb1).mono ?_
  rintro e w2 ⟨rfl, rfl⟩
  go_wp2_with fail
  obtain ⟨okb, hok⟩ : ∃ okb, okb = M.isSome := ⟨_, rfl⟩
  obtain ⟨L, hL⟩ : ∃ L, L = M.getD [] := ⟨_, rfl⟩
  have hl2 := HWL.out w2 hb1
  rw [← hok, ← hL] at hl2
  refine hl2.mono ?_
  rintro e w3 ⟨v3, rfl, hr3, hb3⟩
  clear hl2
  obtain ⟨V3, k3, rfl⟩ := own_slice hr3
  rw [← hL] at hln
  have HR3 := Lib.hid hr3
  have HOK := Lib.hid hok
  have HLL := Lib.hid hL
  clear hr3 hok hL
  have h3 : Below w.heap.size w w3 := below_to hb1 hb1.size hb3
  go_wp2_with (first
    | (at_builtin; go_must (first
        | (have pp := NB.out (w3.alloc (.cells #[.string f] 9)) (below_alloc h3 h3.size _); have pl := World.ownsRow_lit (e := 9) (size := 1) w3 #[.string f] 1 (Nat.le_refl _) (by unfold maxLen; omega) rfl; refine app_many w3.heap.size rfl _ _ 26 9 rfl Try.underlying26 infoStr rfl (by decide) (by decide) (b.map Value.string) rfl rfl pp.1 (by simp [Value.oneCell']) pp.2.1 pp.2.2 pl (by simp) (by omega) ?_; intro v5 w5 ho5 hb5; have h5 := (below_alloc h3 h3.size (.cells #[.string f] 9)).trans (hb5.mono h3.size))
        | (have pp := NO.out (w5.alloc (.cells #[.string f] 9)) (below_alloc h5 h5.size _); have pl := World.ownsRow_lit (e := 9) (size := 1) w5 #[.string f] 1 (Nat.le_refl _) (by unfold maxLen; omega) rfl; refine app_many w5.heap.size rfl _ _ 26 9 rfl Try.underlying26 infoStr rfl (by decide) (by decide) (o.map Value.string) rfl rfl pp.1 (by simp [Value.oneCell']) pp.2.1 pp.2.2 pl (by simp) (by omega) ?_; intro v6 w6 ho6 hb6; have h6 := (below_alloc h5 h5.size (.cells #[.string f] 9)).trans (hb6.mono h5.size))
        | (have pp := NT.out (w6.alloc (.cells #[.string f] 9)) (below_alloc h6 h6.size _); have pl := World.ownsRow_lit (e := 9) (size := 1) w6 #[.string f] 1 (Nat.le_refl _) (by unfold maxLen; omega) rfl; refine app_many w6.heap.size rfl _ _ 26 9 rfl Try.underlying26 infoStr rfl (by decide) (by decide) (t.map Value.string) rfl rfl pp.1 (by simp [Value.oneCell']) pp.2.1 pp.2.2 pl (by simp) (by omega) ?_; intro v7 w7 ho7 hb7; have h7 := (below_alloc h6 h6.size (.cells #[.string f] 9)).trans (hb7.mono h6.size)))))
  have sh3 := h3.size
  have q5 : Below w3.heap.size w3 w5 := (below_alloc (Below.refl w3.heap.size w3) (Nat.le_refl _) _).trans hb5
  have q6 : Below w5.heap.size w5 w6 := (below_alloc (Below.refl w5.heap.size w5) (Nat.le_refl _) _).trans hb6
  have q7 : Below w6.heap.size w6 w7 := (below_alloc (Below.refl w6.heap.size w6) (Nat.le_refl _) _).trans hb7
  have q57 := below_to q6 q6.size q7
  have q37 := below_to q5 q5.size q57
  have r5 := rd_row (l := f :: b) (n := 1 + b.length) ho5 (by simp; omega) q57
  have r6 := rd_row (l := f :: o) (n := 1 + o.length) ho6 (by simp; omega) q7
  have r7 := rd_row (l := f :: t) (n := 1 + t.length) ho7 (by simp; omega) (Below.refl _ _)
  have hm2 := HWM.out w7 v5 v6 v7 r5 r6 r7
  rw [Option.isSome_map, ← HOK.out] at hm2
  refine hm2.mono ?_
  rintro e w8 ⟨v8, rfl, hr8, hb8⟩
  obtain ⟨V8, k8, rfl⟩ := own_slice hr8
  have q38 := below_to q37 q37.size hb8
  have hrl : Rd (· < w8.heap.size) w8 (.slice V3 L.length k3) (L.map D.str) := rd_row HR3.out rfl q38
  have h8 := below_to h7 h7.size hb8
  have HRL := Lib.hid hrl
  have HR8 := Lib.hid hr8
  have HB8 := Lib.hid (HB.out.below' h8)
  have HO8 := Lib.hid (HO.out.below' h8)
  have HT8 := Lib.hid (HT.out.below' h8)
  clear hm2 r5 r6 r7 ho5 ho6 ho7 hrl hr8 q5 q6 q7 q57 q37 hb5 hb6 hb7 hb8 HWM HWL HL1 HL2 HL3 NB NO NT h7 h6 h5 hb3 hb1
  go_wp2
  go_loopw [68] (fun vi wr => ∃ i : Nat, i ≤ L.length ∧ vi = .int .i64 i ∧ ∃ q, wr = w8.drewN q) (fun vi _ => L.length - (intOf vi).toNat)
  case atStart => exact ⟨0, Nat.zero_le _, rfl, 0, rfl⟩
  case round =>
    obtain ⟨i, hi, rfl, q, rfl⟩ := hrel
    by_cases hlt : i < L.length
    · obtain ⟨bL, oL, rfl, _, hbl, hcl⟩ := HRL.out.str_cell hlt
      have hsm := HME.out L[i] (by rw [← HLL.out]; exact List.getElem_mem hlt)
      generalize L[i] = s at *
      have HSM := Lib.hid hsm
      clear hsm
      go_wp2
      go_loopw [14, 73] (fun vf vk wx => ∃ (k : Nat) (bf : Bool), k ≤ o.length ∧ vk = .int .i64 k ∧ vf = .bool bf ∧ (bf = true ↔ s ∈ o.take k) ∧ ∃ q, wx = w8.drewN q) (fun _ vk _ => o.length - (intOf vk).toNat)
      case atStart => exact ⟨0, false, Nat.zero_le _, rfl, rfl, by simp, q, rfl⟩
      case round =>
        obtain ⟨k, bf, hk, rfl, rfl, hbf, q2, rfl⟩ := hrel
        by_cases hlk : k < o.length
        · have hmt := mem_take_succ (s := s) hlk
          obtain ⟨bO, oO, hA1, _, hbo, hco'⟩ := HO8.out.str_cell hlk
          subst hA1
          generalize o[k] = x at *
          rw [← hbf] at hmt
          have HMT := Lib.hid hmt
          clear hmt hbf
          cases bf with
          | true =>
            go_wp2
            go_quiet (fail)
            go_wp2
            go_roundw
            case rel => exact ⟨k + 1, true, by omega, by go_num, rfl, ⟨fun _ => HMT.out.2 (.inl (by first | rfl | trivial)), fun _ => rfl⟩, _, rfl⟩
            case measure => simp [intOf]; omega
          | false =>
            by_cases hxs : x = s
            · have bq := beq_t hxs
              have HX := Lib.hid hxs
              clear hxs
              go_wp2
              go_quiet (fail)
              go_wp2
              go_roundw
              case rel => exact ⟨k + 1, true, by omega, by go_num, rfl, ⟨fun _ => HMT.out.2 (.inr HX.out), fun _ => rfl⟩, _, rfl⟩
              case measure => simp [intOf]; omega
            · have bq := beq_f hxs
              have HX := Lib.hid hxs
              clear hxs
              go_wp2
              go_quiet (fail)
              go_wp2
              go_roundw
              case rel => exact ⟨k + 1, false, by omega, by go_num, rfl, ⟨fun h => (by cases h), fun h => (HMT.out.1 h).elim (fun h => (by cases h)) (fun h => (HX.out h).elim)⟩, _, rfl⟩
              case measure => simp [intOf]; omega
        · obtain rfl : k = o.length := by omega
          rw [List.take_length] at hbf
          have HBF := Lib.hid hbf
          clear hbf
          go_wp2
          go_loopw [14, 91] (fun vf vk wx => ∃ (k : Nat) (bf : Bool), k ≤ t.length ∧ vk = .int .i64 k ∧ vf = .bool bf ∧ (bf = true ↔ s ∈ o ∨ s ∈ t.take k) ∧ ∃ q, wx = w8.drewN q) (fun _ vk _ => t.length - (intOf vk).toNat)
          case atStart => exact ⟨0, bf, Nat.zero_le _, rfl, rfl, by rw [HBF.out]; simp, q2, rfl⟩
          case round =>
            clear HBF
            obtain ⟨k, bf, hk, rfl, rfl, hbf, q3, rfl⟩ := hrel
            by_cases hlk : k < t.length
            · have hmt := mem_take_succ (s := s) hlk
              obtain ⟨bO, oO, hA1, _, hbo, hco'⟩ := HT8.out.str_cell hlk
              subst hA1
              generalize t[k] = x at *
              have hmt2 : (s ∈ o ∨ s ∈ t.take (k + 1)) ↔ (bf = true ∨ x = s) := by rw [hmt, hbf, or_assoc]
              have HMT := Lib.hid hmt2
              clear hmt hmt2 hbf
              cases bf with
              | true =>
                go_wp2
                go_quiet (fail)
                go_wp2
                go_roundw
                case rel => exact ⟨k + 1, true, by omega, by go_num, rfl, ⟨fun _ => HMT.out.2 (.inl (by first | rfl | trivial)), fun _ => rfl⟩, _, rfl⟩
                case measure => simp [intOf]; omega
              | false =>
                by_cases hxs : x = s
                · have bq := beq_t hxs
                  have HX := Lib.hid hxs
                  clear hxs
                  go_wp2
                  go_quiet (fail)
                  go_wp2
                  go_roundw
                  case rel => exact ⟨k + 1, true, by omega, by go_num, rfl, ⟨fun _ => HMT.out.2 (.inr HX.out), fun _ => rfl⟩, _, rfl⟩
                  case measure => simp [intOf]; omega
                · have bq := beq_f hxs
                  have HX := Lib.hid hxs
                  clear hxs
                  go_wp2
                  go_quiet (fail)
                  go_wp2
                  go_roundw
                  case rel => exact ⟨k + 1, false, by omega, by go_num, rfl, ⟨fun h => (by cases h), fun h => (HMT.out.1 h).elim (fun h => (by cases h)) (fun h => (HX.out h).elim)⟩, _, rfl⟩
                  case measure => simp [intOf]; omega
            · obtain rfl : k = t.length := by omega
              rw [List.take_length] at hbf
              have hbt : bf = true := hbf.2 HSM.out
              subst hbt
              clear hbf
              go_wp2
              go_roundw
              case rel => exact ⟨i + 1, by omega, by go_num, q3, rfl⟩
              case measure => simp [intOf]; omega
    · have hlit := Rd.lit (w := w8.drewN q) (t := 26) (ds := dss [b, o, t]) (cs := [.slice A0 b.length c0, .slice A1 o.length c1, .slice A2 t.length c2]) (RepAll.cons' (HB8.out.drewN q) (RepAll.cons' (HO8.out.drewN q) (RepAll.cons' (HT8.out.drewN q) RepAll.nil'))) (by simp [dss])
      simp only [World.heap_drewN] at hlit
      have HLT := Lib.hid hlit
      clear hlit
      have h9 : Below w.heap.size w ((w8.drewN q).alloc (.cells #[.slice A0 b.length c0, .slice A1 o.length c1, .slice A2 t.length c2] 26)) := below_alloc (below_drewN h8 q) h8.size _
      have h98 : Below w8.heap.size w8 ((w8.drewN q).alloc (.cells #[.slice A0 b.length c0, .slice A1 o.length c1, .slice A2 t.length c2] 26)) := below_alloc (below_drewN (Below.refl _ _) q) (Nat.le_refl _) _
      go_wp2
      have hlc : ([Value.slice A0 b.length c0, Value.slice A1 o.length c1, Value.slice A2 t.length c2].toArray) = #[Value.slice A0 b.length c0, Value.slice A1 o.length c1, Value.slice A2 t.length c2] := rfl
      rw [hlc] at HLT
      clear hlc
      generalize hw9 : (w8.drewN q).alloc (.cells #[.slice A0 b.length c0, .slice A1 o.length c1, .slice A2 t.length c2] 26) = w9 at *
      clear hw9
      go_loopw [115] (fun vi wr => ∃ i : Nat, i ≤ 3 ∧ vi = .int .i64 i ∧ ∃ q, wr = w9.drewN q) (fun vi _ => 3 - (intOf vi).toNat)
      case atStart => exact ⟨0, Nat.zero_le _, rfl, 0, rfl⟩
      case round =>
        obtain ⟨i, hi, rfl, q2, rfl⟩ := hrel
        by_cases hlt3 : i < 3
        · have hltz : (i : Int) < 3 := by omega
          obtain ⟨bs, os, cs, us, hvs, hoks, hls, hcs, rus⟩ := HLT.out.sl_at (i := i) (by simpa using hlt3)
          obtain ⟨e1, _, e3⟩ := Value.slice.inj hvs
          injection e1 with e1
          injection e1 with e1 e2
          subst e1; subst e2; subst e3
          rw [Nat.zero_add] at hcs
          generalize [b, o, t][i] = ss at *
          obtain ⟨As, ks, rfl, hks, _⟩ := rus.form
          simp only [List.length_map] at *
          have HUS := Lib.hid rus
          clear rus hvs
          go_wp2
          go_loopw [121] (fun vk wx => ∃ k : Nat, k ≤ ss.length ∧ vk = .int .i64 k ∧ ∃ q, wx = w9.drewN q) (fun vk _ => ss.length - (intOf vk).toNat)
          case atStart => exact ⟨0, Nat.zero_le _, rfl, q2, rfl⟩
          case round =>
            obtain ⟨k, hk, rfl, q3, rfl⟩ := hrel
            by_cases hlk : k < ss.length
            · obtain ⟨b2, o2, rfl, _, hb2l, hcl2⟩ := HUS.out.str_cell hlk
              generalize ss[k] = s at *
              by_cases hsf : s = f
              · have bq := beq_t hsf
                clear hsf
                go_wp2
                go_ret
                exact ⟨rfl, below_drewN h9 _⟩
              · have bq := beq_f hsf
                clear hsf
                go_wp2
                go_roundw
                case rel => exact ⟨k + 1, by omega, by go_num, _, rfl⟩
                case measure => simp [intOf]; omega
            · go_wp2
              go_roundw
              case rel => exact ⟨i + 1, by omega, by go_num, _, rfl⟩
              case measure => simp [intOf]; omega
        · have hltz : ¬ (i : Int) < 3 := by omega
          have hS := Lib.hid (HRL.out.below' h98)
          have hR9 := Lib.hid (own_same HR8.out (fun g' hv => h98.block g' (HR8.out.lt g' hv).2))
          cases M with
          | none =>
            have e1 := HOK.out
            rw [Option.isSome_none] at e1
            subst e1
            go_wp2
            go_ret
            exact ⟨rfl, below_drewN h9 _⟩
          | some m =>
            have e1 := HOK.out
            rw [Option.isSome_some] at e1
            subst e1
            have e2 := HLL.out
            rw [Option.getD_some] at e2
            subst e2
            have h99 : Below w9.heap.size w9 (w9.drewN q2) := below_drewN (Below.refl _ _) q2
            go_wp2_with (first
              | (at_builtin; go_must (have pl := World.ownsRow_lit (e := 9) (size := 1) (w9.drewN q2) #[.string f] 1 (Nat.le_refl _) (by unfold maxLen; omega) rfl; have pb := below_alloc h99 (Nat.le_refl _) (.cells #[.string f] 9); have pp := str_news (W := (w9.drewN q2).alloc (.cells #[.string f] 9)) hS.out (fun k hk _ => pb.block k hk); refine wpList_unguard (by first | rfl | simp [Region.wanted, yielded]) ?_; refine app_many w9.heap.size rfl _ _ 26 9 rfl Try.underlying26 infoStr rfl (by decide) (by decide) (L.map Value.string) rfl rfl pp.1 (by simp [Value.oneCell']) pp.2.1 pp.2.2 pl (by simp) (by omega) ?_; intro v10 w10 ho10 hb10; have h10 := pb.trans hb10; have hA := rd_row (l := f :: L) hR9.out rfl h10; have hBB := rd_row (l := f :: L) (n := 1 + L.length) ho10 (by simp; omega) (Below.refl _ _)))
              | (go_at_call 11; go_must (refine (Same_calls _ v10 (f :: L) (f :: L) _ hA hBB).mono ?_; rw [decide_eq_true (rfl : f :: L = f :: L)]; rintro e w11 ⟨rfl, q11, rfl⟩)))
            go_ret
            exact ⟨rfl, below_drewN (h9.trans (h10.mono h9.size)) _⟩
end Go.Proofs.Ytnoloihdcmgbaaa
