/- The walks of the document's text, spans, Key, Keys (layer 15). -/
import Derived.Test.YtobncidpdodaiaaDoorKeyW
import Derived.Test.YtobncidpdodaiaaDoorBytes
import Derived.Test.YtobncidpdodaiaaDoorStr
import Derived.Deep.DeepCutAuto
import Derived.Test.YtobncidpdodaiaaDoorKeyL
import Derived.Deep.RegionHeld3
/- The walk of the document's Digits (layer 15): decimal digits. -/
namespace Go.Proofs.YtobncidpdodaiaaDoor
open Go.RowKit Go.PlainAid
set_option linter.all false
set_option linter.deprecated false
set_option maxRecDepth 100000
/-- That text comes, and lays nothing old anew. -/
def Text (s : ByteArray) (w : World) (e : Ending) (w' : World) : Prop := e = .returned (.string s) ∧ Below w.heap.size w w'
theorem dec_small {n : Nat} (h : n < 10) : Lib.decDigits n = [UInt8.ofNat (48 + n)] := by rw [Lib.decDigits, dif_pos h]
theorem dec_big {n : Nat} (h : ¬ n < 10) : Lib.decDigits n = Lib.decDigits (n / 10) ++ [UInt8.ofNat (48 + n % 10)] := by
  conv => lhs; rw [Lib.decDigits, dif_neg h]
/-- A digit's byte as a text. -/
theorem dig_conv (k : Nat) (hk : k < 10) (w : World) : (convert 52 9 (.slice (some ⟨w.heap.size, 0, none⟩) 1 1)).run Tryd.prog (w.alloc (.cells #[.int .u8 (48 + (k : Int))] 5)) = .ok (.string ⟨[UInt8.ofNat (48 + k)].toArray⟩) (w.alloc (.cells #[.int .u8 (48 + (k : Int))] 5)) := by
  have pl := World.ownsRow_lit (base := w.heap.size) (e := 5) (size := 1) w #[.int .u8 (48 + (k : Int))] 1 (Nat.le_refl _) (by unfold maxLen; omega) rfl
  have e : (#[Value.int .u8 (48 + (k : Int))] : Array Value).toList = [UInt8.ofNat (48 + k)].map byteV := by
    have : ((UInt8.ofNat (48 + k)).toNat : Int) = 48 + (k : Int) := by rw [UInt8.toNat_ofNat']; omega
    simp only [List.map_cons, List.map_nil, byteV, this]
  rw [e] at pl
  exact conv_back Tryd.underlying52 Tryd.underlying5 Tryd.underlying9 pl
theorem dig_conv' (k : Nat) (hk : k < 10) (w W : World) (g : Nat) (hg : W.heap[g]? = some (.cells #[.int .u8 (48 + (k : Int))] 5 (0, 0))) : (convert 52 9 (.slice (some ⟨g, 0, none⟩) 1 1)).run Tryd.prog W = .ok (.string ⟨[UInt8.ofNat (48 + k)].toArray⟩) W := by
  have pl : W.ownsRow 0 5 1 (.slice (some ⟨g, 0, none⟩) 1 1) 1 ([UInt8.ofNat (48 + k)].map byteV) := by
    have e : [UInt8.ofNat (48 + k)].map byteV = (#[Value.int .u8 (48 + (k : Int))] : Array Value).toList := by
      have : ((UInt8.ofNat (48 + k)).toNat : Int) = 48 + (k : Int) := by rw [UInt8.toNat_ofNat']; omega
      simp only [List.map_cons, List.map_nil, byteV, this]
    rw [e]
    exact ⟨rfl, .inr ⟨g, 1, _, rfl, Nat.zero_le _, hg, Nat.le_refl _, by unfold maxLen; omega, rfl, rfl⟩⟩
  exact conv_back Tryd.underlying52 Tryd.underlying5 Tryd.underlying9 pl
theorem dec_len {n : Nat} (h : n ≤ 9223372036854775808) : (Lib.decDigits n).length ≤ 63 := by
  have hp : (9223372036854775808 : Nat) < 10 ^ 63 := by decide
  have := nDigits_le 63 n (by omega) (by omega)
  rw [Lib.decDigits_length]; omega
set_option maxHeartbeats 2000000 in
theorem Digits_pos : ∀ (N n : Nat), n < N → n ≤ 9223372036854775807 → ∀ w, Calls Tryd.prog 43 #[.int .i64 n] w (Text ⟨(Lib.decDigits n).toArray⟩ w) := by
  intro N
  induction N with
  | zero => intro n h; exact absurd h (Nat.not_lt_zero _)
  | succ N ih =>
    have IH := Lib.hid ih
    clear ih
    intro n hN hn w
    by_cases h10 : n < 10
    · rw [dec_small h10]
      have hcv := dig_conv n h10 w
      have hw : IntKind.u8.wrap (48 + (n : Int)) = 48 + (n : Int) := by unfold IntKind.wrap; simp [IntKind.bits, IntKind.signed]; omega
      have t1 : (n : Int) < 10 := by omega
      generalize UInt8.ofNat (48 + n) = c at *
      go_enter Tryd.func43, Tryd.ntmps43
      go_wp2_with fail
      go_ret
      exact ⟨rfl, below_alloc (Below.refl _ _) (Nat.le_refl _) _⟩
    · rw [dec_big h10]
      have hq : n / 10 < N := by omega
      have HI := Lib.hid (fun W => IH.out (n / 10) hq (by omega) W)
      have d1 : (n : Int).tdiv 10 = ((n / 10 : Nat) : Int) := by rw [Int.tdiv_eq_ediv_of_nonneg (by omega)]; rfl
      have d2 : (n : Int).tmod 10 = ((n % 10 : Nat) : Int) := by rw [Int.tmod_eq_emod_of_nonneg (by omega)]; rfl
      have d3 : (n : Int) / 10 = ((n / 10 : Nat) : Int) := by omega
      have d4 : (n : Int) % 10 = ((n % 10 : Nat) : Int) := by omega
      have hk : n % 10 < 10 := Nat.mod_lt _ (by omega)
      have hl := dec_len (n := n / 10) (by omega)
      have t1 : ¬ (n : Int) < 10 := by omega
      generalize n % 10 = k at *
      generalize n / 10 = q at *
      have hw : IntKind.u8.wrap (48 + (k : Int)) = 48 + (k : Int) := by unfold IntKind.wrap; simp [IntKind.bits, IntKind.signed]; omega
      have w3 : IntKind.i64.wrap (q : Int) = q := IntWalk.i64_in _ (by omega)
      have w4 : IntKind.i64.wrap (k : Int) = k := IntWalk.i64_in _ (by omega)
      have w5 : IntKind.i64.wrap (48 + (k : Int)) = 48 + (k : Int) := IntWalk.i64_in _ (by omega)
      have hcv := fun (W : World) (g : Nat) hg => dig_conv' k hk W W g hg
      generalize UInt8.ofNat (48 + k) = c at *
      have hsz : (ByteArray.mk (Lib.decDigits q).toArray).size ≤ 63 := hl
      have he : (⟨(Lib.decDigits q ++ [c]).toArray⟩ : ByteArray) = ⟨(Lib.decDigits q).toArray⟩ ++ ⟨[c].toArray⟩ := by
        apply ByteArray.ext
        simp
      rw [he]
      generalize (⟨(Lib.decDigits q).toArray⟩ : ByteArray) = S at *
      have HCV := Lib.hid hcv
      have hcc : ¬ 9223372036854775807 < S.size + 1 := by omega
      clear hcv he hl hq
      go_enter Tryd.func43, Tryd.ntmps43
      go_upto_region 8 with (fail)
      refine wp_region_till 2 (fun _ => True) (by kernel_rfl) trivial (fun hT => ?_)
      refine wpAnyT_take (i := 0) (v := ?_) rfl (by kernel_rfl) (fun _ _ _ h => h) (Or.inl ⟨by rfl, ?_⟩) hT (fun hT => ?_)
      rotate_left
      · intro w _; go_simp; try with_reducible rfl
      try simp only [Act.put, List.setIfInBounds_toArray, List.set_cons_zero, List.set_cons_succ]
      refine wpAnyT_take (i := 1) (v := ?_) rfl (by kernel_rfl) (fun _ _ _ h => h) (Or.inl ⟨by rfl, ?_⟩) hT (fun hT => ?_)
      rotate_left
      · intro w _; go_simp; try with_reducible rfl
      try simp only [Act.put, List.setIfInBounds_toArray, List.set_cons_zero, List.set_cons_succ]
      refine wpAnyT_take (i := 3) (v := ?_) rfl (by kernel_rfl) (fun _ _ _ h => h) (Or.inl ⟨by rfl, ?_⟩) hT (fun hT => ?_)
      rotate_left
      · intro w _; go_simp; try with_reducible rfl
      try simp only [Act.put, List.setIfInBounds_toArray, List.set_cons_zero, List.set_cons_succ]
      refine wpAnyT_take (i := 4) (v := ?_) rfl (by kernel_rfl) (fun _ _ _ h => h) (Or.inl ⟨by rfl, ?_⟩) hT (fun hT => ?_)
      rotate_left
      · intro w _; go_simp; try with_reducible rfl
      try simp only [Act.put, List.setIfInBounds_toArray, List.set_cons_zero, List.set_cons_succ]
      refine wpAnyT_take (i := 5) (v := ?_) rfl (by kernel_rfl) (fun _ _ _ h => h) (Or.inl ⟨by rfl, ?_⟩) hT (fun hT => ?_)
      rotate_left
      · intro w _; go_simp; try with_reducible rfl
      try simp only [Act.put, List.setIfInBounds_toArray, List.set_cons_zero, List.set_cons_succ]
      refine wpAnyT_take (i := 6) (v := ?_) rfl (by kernel_rfl) (fun _ _ _ h => h) (Or.inl ⟨by rfl, ?_⟩) hT (fun hT => ?_)
      rotate_left
      · intro w _; go_simp; try with_reducible rfl
      try simp only [Act.put, List.setIfInBounds_toArray, List.set_cons_zero, List.set_cons_succ]
      refine wpAnyT_ready (rs := [2, 7]) (by kernel_rfl) (by simp) ?_
      refine ReadyT.cons rfl (fun K hK => ?_) (ReadyT.cons rfl (fun K hK => ?_) ReadyT.nil)
      · go_simp
        refine (HI.out _).mono ?_
        rintro e w1 ⟨rfl, b1⟩
        have h1 : Below w.heap.size w w1 := (Below.drew (Below.refl _ _)).trans b1
        refine hK.out _ _ (fun _ => trivial) (fun hT => ?_)
        clear hK K
        try simp only [Act.put, List.setIfInBounds_toArray, List.set_cons_zero, List.set_cons_succ]
        refine wpAnyT_ready (rs := [7]) (by kernel_rfl) (by simp) ?_
        refine ReadyT.cons rfl (fun K hK => ?_) ReadyT.nil
        go_simp
        refine hK.out _ _ (fun _ => trivial) (fun hT => ?_)
        clear hK K
        try simp only [Act.put, List.setIfInBounds_toArray, List.set_cons_zero, List.set_cons_succ]
        refine wpAnyT_ready (rs := [8]) (by kernel_rfl) (by simp) ?_
        refine ReadyT.cons rfl (fun K hK => ?_) ReadyT.nil
        have cv := HCV.out (w1.alloc (.cells #[.int .u8 (48 + (k : Int))] 5)) w1.heap.size (World.alloc_heap_new w1 _)
        go_simp
        refine hK.out _ _ (fun _ => trivial) (fun hT => ?_)
        clear hK K
        try simp only [Act.put, List.setIfInBounds_toArray, List.set_cons_zero, List.set_cons_succ]
        refine wpAnyT_take (i := 9) (v := ?_) rfl (by kernel_rfl) (fun _ _ _ h => h) (Or.inl ⟨by rfl, ?_⟩) hT (fun hT => ?_)
        rotate_left
        · intro w _; go_simp; try with_reducible rfl
        try simp only [Act.put, List.setIfInBounds_toArray, List.set_cons_zero, List.set_cons_succ]
        refine wpAnyT_take (i := 10) (v := ?_) rfl (by kernel_rfl) (fun _ _ _ h => h) (Or.inl ⟨by rfl, ?_⟩) hT (fun hT => ?_)
        rotate_left
        · intro w _; go_simp; try with_reducible rfl
        try simp only [Act.put, List.setIfInBounds_toArray, List.set_cons_zero, List.set_cons_succ]
        refine wpAnyT_done (by kernel_rfl) ?_ _
        go_wp2
        go_ret
        exact ⟨rfl, below_alloc h1 h1.size _⟩
      · go_simp
        have hg0 := World.alloc_heap_new w (.cells #[.int .u8 (48 + (k : Int))] 5)
        have h0 : Below w.heap.size w (w.alloc (.cells #[.int .u8 (48 + (k : Int))] 5)) := below_alloc (Below.refl _ _) (Nat.le_refl _) _
        refine hK.out _ _ (fun _ => trivial) (fun hT => ?_)
        clear hK K
        try simp only [Act.put, List.setIfInBounds_toArray, List.set_cons_zero, List.set_cons_succ]
        refine wpAnyT_ready (rs := [2, 8]) (by kernel_rfl) (by simp) ?_
        refine ReadyT.cons rfl (fun K hK => ?_) (ReadyT.cons rfl (fun K hK => ?_) ReadyT.nil)
        · go_simp
          refine (HI.out _).mono ?_
          rintro e w1 ⟨rfl, b1⟩
          have h1 := (Below.drew h0).trans (b1.mono (by simp [World.size_alloc]; try omega))
          have cv := HCV.out w1 w.heap.size ((b1.block w.heap.size (by simp)).trans hg0)
          refine hK.out _ _ (fun _ => trivial) (fun hT => ?_)
          clear hK K
          try simp only [Act.put, List.setIfInBounds_toArray, List.set_cons_zero, List.set_cons_succ]
          refine wpAnyT_ready (rs := [8]) (by kernel_rfl) (by simp) ?_
          refine ReadyT.cons rfl (fun K hK => ?_) ReadyT.nil
          go_simp
          refine hK.out _ _ (fun _ => trivial) (fun hT => ?_)
          clear hK K
          try simp only [Act.put, List.setIfInBounds_toArray, List.set_cons_zero, List.set_cons_succ]
          refine wpAnyT_take (i := 9) (v := ?_) rfl (by kernel_rfl) (fun _ _ _ h => h) (Or.inl ⟨by rfl, ?_⟩) hT (fun hT => ?_)
          rotate_left
          · intro w _; go_simp; try with_reducible rfl
          try simp only [Act.put, List.setIfInBounds_toArray, List.set_cons_zero, List.set_cons_succ]
          refine wpAnyT_take (i := 10) (v := ?_) rfl (by kernel_rfl) (fun _ _ _ h => h) (Or.inl ⟨by rfl, ?_⟩) hT (fun hT => ?_)
          rotate_left
          · intro w _; go_simp; try with_reducible rfl
          try simp only [Act.put, List.setIfInBounds_toArray, List.set_cons_zero, List.set_cons_succ]
          refine wpAnyT_done (by kernel_rfl) ?_ _
          go_wp2
          go_ret
          exact ⟨rfl, h1⟩
        · have cv := HCV.out (w.alloc (.cells #[.int .u8 (48 + (k : Int))] 5)) w.heap.size hg0
          have cv2 := HCV.out (w.alloc (.cells #[.int .u8 (48 + (k : Int))] 5)).drew w.heap.size hg0
          go_simp
          refine hK.out _ _ (fun _ => trivial) (fun hT => ?_)
          clear hK K
          try simp only [Act.put, List.setIfInBounds_toArray, List.set_cons_zero, List.set_cons_succ]
          refine wpAnyT_ready (rs := [2]) (by kernel_rfl) (by simp) ?_
          refine ReadyT.cons rfl (fun K hK => ?_) ReadyT.nil
          go_simp
          refine (HI.out _).mono ?_
          rintro e w1 ⟨rfl, b1⟩
          have h1 := (Below.drew h0).trans (b1.mono (by simp [World.size_alloc]; try omega))
          refine hK.out _ _ (fun _ => trivial) (fun hT => ?_)
          clear hK K
          try simp only [Act.put, List.setIfInBounds_toArray, List.set_cons_zero, List.set_cons_succ]
          refine wpAnyT_take (i := 9) (v := ?_) rfl (by kernel_rfl) (fun _ _ _ h => h) (Or.inl ⟨by rfl, ?_⟩) hT (fun hT => ?_)
          rotate_left
          · intro w _; go_simp; try with_reducible rfl
          try simp only [Act.put, List.setIfInBounds_toArray, List.set_cons_zero, List.set_cons_succ]
          refine wpAnyT_take (i := 10) (v := ?_) rfl (by kernel_rfl) (fun _ _ _ h => h) (Or.inl ⟨by rfl, ?_⟩) hT (fun hT => ?_)
          rotate_left
          · intro w _; go_simp; try with_reducible rfl
          try simp only [Act.put, List.setIfInBounds_toArray, List.set_cons_zero, List.set_cons_succ]
          refine wpAnyT_done (by kernel_rfl) ?_ _
          go_wp2
          go_ret
          exact ⟨rfl, h1⟩
set_option maxHeartbeats 2000000 in
theorem Digits_calls (n : Int) (hn : wfI n) (w : World) : Calls Tryd.prog 43 #[.int .i64 n] w (Text ⟨(Lib.itoa n).toArray⟩ w) := by
  unfold Lib.itoa
  by_cases h0 : n < 0
  · rw [if_pos h0]
    obtain ⟨N, hN⟩ : ∃ N : Nat, n = -(N : Int) := ⟨n.natAbs, by omega⟩
    have hna : n.natAbs = N := by omega
    rw [hna]
    have hNb : N ≤ 9223372036854775808 := by have := hn.1; omega
    have hN0 : 0 < N := by omega
    clear hna hn
    subst hN
    have d1 : (-(N : Int)).tdiv 10 = -((N / 10 : Nat) : Int) := by rw [Int.neg_tdiv, Int.tdiv_eq_ediv_of_nonneg (by omega)]; rfl
    have d2 : (-(N : Int)).tmod 10 = -((N % 10 : Nat) : Int) := by rw [Int.neg_tmod, Int.tmod_eq_emod_of_nonneg (by omega)]; rfl
    have hd := Digits_pos _ (N / 10) (Nat.lt_succ_self _) (by omega) w
    have hqb : N / 10 ≤ 1000000000000000000 := by omega
    have hk : N % 10 < 10 := Nat.mod_lt _ (by omega)
    have hl := dec_len (n := N / 10) (by omega)
    have hdec : Lib.decDigits N = (if N / 10 = 0 then [] else Lib.decDigits (N / 10)) ++ [UInt8.ofNat (48 + N % 10)] := by
      by_cases h10 : N < 10
      · rw [if_pos (by omega), dec_small h10, Nat.mod_eq_of_lt h10]; rfl
      · rw [if_neg (by omega)]; exact dec_big h10
    rw [hdec]
    have hz : Lib.decDigits (N / 10) = [48] ↔ N / 10 = 0 := by
      constructor
      · intro h
        have := valB_digits (N / 10)
        rw [h] at this
        simpa [valB] using this.symm
      · intro h
        rw [h, dec_small (by omega)]; rfl
    generalize N % 10 = k at *
    generalize N / 10 = q at *
    have w1 : IntKind.i64.wrap (-(q : Int)) = -(q : Int) := IntWalk.i64_in _ (by omega)
    have w2 : IntKind.i64.wrap (q : Int) = q := IntWalk.i64_in _ (by omega)
    have w3 : IntKind.i64.wrap (-(k : Int)) = -(k : Int) := IntWalk.i64_in _ (by omega)
    have w4 : IntKind.i64.wrap (48 + (k : Int)) = 48 + (k : Int) := IntWalk.i64_in _ (by omega)
    have w5 : IntKind.u8.wrap (48 + (k : Int)) = 48 + (k : Int) := by unfold IntKind.wrap; simp [IntKind.bits, IntKind.signed]; omega
    have w6 : (48 : Int) - -(k : Int) = 48 + k := by omega
    have hcv := fun (W : World) (g : Nat) hg => dig_conv' k hk W W g hg
    generalize UInt8.ofNat (48 + k) = c at *
    have hS : (ByteArray.mk (Lib.decDigits q).toArray).size ≤ 63 := hl
    have hSz : (ByteArray.mk (Lib.decDigits q).toArray) = ⟨#[48]⟩ ↔ q = 0 := by
      rw [← hz]
      constructor
      · intro h; injection h with h; simpa using congrArg Array.toList h
      · intro h; rw [h]
    have t0 : -(N : Int) < 0 := by omega
    have e48 : (⟨#[48]⟩ : ByteArray).toList = [48] := by rw [ByteArray.toList_eq]
    have HD := Lib.hid hd
    have HCV := Lib.hid hcv
    by_cases hq : q = 0
    · rw [if_pos hq]
      have bq := beq_t (hSz.2 hq)
      rw [e48] at bq
      have he : (⟨(45 :: ([] ++ [c])).toArray⟩ : ByteArray) = ⟨#[45]⟩ ++ ⟨[c].toArray⟩ := by apply ByteArray.ext; simp
      rw [he]
      generalize (⟨(Lib.decDigits q).toArray⟩ : ByteArray) = S at *
      have HQ := Lib.hid hq
      clear hd hcv hdec hz hl hSz he hq hk
      go_enter Tryd.func43, Tryd.ntmps43
      go_wp2_with fail
      refine HD.out.mono ?_
      rintro e w7 ⟨rfl, hb⟩
      have cv := HCV.out (w7.alloc (.cells #[.int .u8 (48 + (k : Int))] 5)) w7.heap.size (World.alloc_heap_new w7 _)
      go_wp2_with fail
      go_ret
      exact ⟨rfl, below_alloc hb hb.size _⟩
    · rw [if_neg hq]
      have bq := beq_f (fun e => hq (hSz.1 e))
      rw [e48] at bq
      have he : (⟨(45 :: (Lib.decDigits q ++ [c])).toArray⟩ : ByteArray) = ⟨#[45]⟩ ++ ⟨(Lib.decDigits q).toArray⟩ ++ ⟨[c].toArray⟩ := by apply ByteArray.ext; simp
      rw [he]
      generalize (⟨(Lib.decDigits q).toArray⟩ : ByteArray) = S at *
      have HQ := Lib.hid hq
      have z1 : ¬ 9223372036854775807 < 1 + S.size := by omega
      have z2 : ¬ 9223372036854775807 < 1 + S.size + 1 := by omega
      have z3 : ¬ 9223372036854775807 < (⟨#[45]⟩ ++ S : ByteArray).size + 1 := by rw [ByteArray.size_append]; show ¬ _ < 1 + S.size + 1; omega
      clear hd hcv hdec hz hl hSz he hq hk
      go_enter Tryd.func43, Tryd.ntmps43
      go_wp2_with fail
      refine HD.out.mono ?_
      rintro e w7 ⟨rfl, hb⟩
      have cv := HCV.out (w7.alloc (.cells #[.int .u8 (48 + (k : Int))] 5)) w7.heap.size (World.alloc_heap_new w7 _)
      go_wp2_with fail
      go_ret
      exact ⟨rfl, below_alloc hb hb.size _⟩
  · rw [if_neg h0]
    obtain ⟨m, rfl⟩ := Int.eq_ofNat_of_zero_le (by omega : 0 ≤ n)
    exact Digits_pos _ m (Nat.lt_succ_self _) (by have := hn.2; omega) w
end Go.Proofs.YtobncidpdodaiaaDoor
namespace Go.Proofs.YtobncidpdodaiaaDoor
open Go.RowKit Go.PlainAid
set_option linter.all false
set_option linter.deprecated false
set_option maxRecDepth 100000
theorem ba_size (l : List UInt8) : (ByteArray.mk l.toArray).size = l.length := rfl
set_option maxHeartbeats 1000000 in
theorem text15_calls (s : ByteArray) (hs : s.size ≤ 4398046511104) (w : World) : Calls Tryd.prog 44 #[.string s] w (Text ⟨(txtB s).toArray⟩ w) := by
  have hd := Digits_calls s.size (wfI_nat hs) w
  have hl := itoa_len s.size (wfI_nat hs)
  have he : (⟨(txtB s).toArray⟩ : ByteArray) = ⟨(Lib.itoa s.size).toArray⟩ ++ ⟨#[58]⟩ ++ s := by
    apply ByteArray.ext
    simp [txtB]
  rw [he]
  have hS : (ByteArray.mk (Lib.itoa s.size).toArray).size ≤ 64 := hl
  generalize (⟨(Lib.itoa s.size).toArray⟩ : ByteArray) = S at *
  have z1 : ¬ 9223372036854775807 < S.size + 1 := by omega
  have z2 : ¬ 9223372036854775807 < S.size + 1 + s.size := by omega
  have HD := Lib.hid hd
  clear hd he hl
  go_enter Tryd.func44, Tryd.ntmps44
  go_wp2_with fail
  refine HD.out.mono ?_
  rintro e w1 ⟨rfl, hb⟩
  go_wp2_with fail
  go_ret
  exact ⟨rfl, hb⟩
set_option maxHeartbeats 4000000 in
theorem spans15_calls : ∀ (N : Nat) (l : List Sp) (_ : D.bulks (dSps l) < N) (_ : N ≤ 1048577) (_ : Sps.wf l) (B : Nat) (v : Value) (w : World) (_ : Rd (· < B) w v (dSps l)) (_ : B ≤ w.heap.size),
    Calls Tryd.prog 45 #[v] w (Text ⟨(keySps l).toArray⟩ w) := by
  intro N
  induction N with
  | zero => intro l h; exact absurd h (Nat.not_lt_zero _)
  | succ N ih =>
    have IH := Lib.hid ih
    clear ih
    intro l hN hN2 hwf B v w hR hB
    obtain ⟨A, c, rfl, hc, hmx⟩ := hR.form
    rw [dSps_len] at *
    have hll : l.length ≤ 1048576 := by have := D.len_bulks (dSps l); rw [dSps_len] at this; omega
    have hws := (Sps.wf_iff l).1 hwf
    have hd := Digits_calls l.length (wfI_nat (by omega)) w
    have hnl := itoa_len l.length (wfI_nat (by omega))
    have he : (⟨(Lib.itoa l.length).toArray⟩ ++ ⟨#[59]⟩ : ByteArray) = ⟨(numB l.length ++ keySpl (l.take 0)).toArray⟩ := by apply ByteArray.ext; simp [numB, keySpl]
    have hS : (ByteArray.mk (Lib.itoa l.length).toArray).size ≤ 64 := hnl
    generalize (⟨(Lib.itoa l.length).toArray⟩ : ByteArray) = S0 at *
    have z1 : ¬ 9223372036854775807 < S0.size + 1 := by omega
    have HR := Lib.hid hR
    have HW := Lib.hid hws
    have HD := Lib.hid hd
    have HE := Lib.hid he
    clear hR hws hd he hnl
    go_enter Tryd.func45, Tryd.ntmps45
    go_wp2_with fail
    refine HD.out.mono ?_
    rintro e w1 ⟨rfl, hb1⟩
    go_wp2_with fail
    go_loopw [3, 11] (fun vs vi wr => ∃ i : Nat, i ≤ l.length ∧ vi = .int .i64 i ∧ vs = .string ⟨(numB l.length ++ keySpl (l.take i)).toArray⟩ ∧ Below w.heap.size w wr) (fun _ vi _ => l.length - (intOf vi).toNat)
    case atStart => exact ⟨0, Nat.zero_le _, rfl, by rw [HE.out], hb1⟩
    case round =>
      clear hb1
      obtain ⟨i, hi, rfl, rfl, hbr⟩ := hrel
      by_cases hlt : i < l.length
      · have hRr : Rd (· < B) wr (.slice A l.length c) (dSps l) := HR.out.step (fun k hk _ => hbr.block k (by omega)) (fun _ h _ => h)
        obtain ⟨bb, o, u, rfl, hbb, hbl2, c0, c1, c2, hk⟩ := hRr.sp_at hlt
        have hbt := bulks_take hlt
        have hxw := HW.out _ (List.getElem_mem hlt)
        have htk : keySpl (l.take (i + 1)) = keySpl (l.take i) ++ keySp l[i] := by rw [List.take_succ_eq_append_getElem hlt, keySpl_append, keySpl, keySpl, List.append_nil]
        have hkt := keySpl_len (l.take i) ((Sps.wf_iff _).2 (fun y hy => HW.out y (List.mem_of_mem_take hy))) (by omega)
        have hn2 := numB_len (wfI_nat (n := l.length) (by omega))
        generalize l[i] = x at *
        obtain ⟨K, s, L⟩ := x
        rw [bulk_sp] at hbt
        rw [Sp.wf] at hxw
        simp only [Sp.kind, Sp.s, Sp.kids] at c0 c1 c2 hk
        obtain ⟨T, tc, rfl, _, _⟩ := hk.form
        rw [dSps_len] at *
        have hP : (ByteArray.mk (numB l.length ++ keySpl (l.take i)).toArray).size ≤ 1073741824 := by rw [ba_size, List.length_append]; omega
        have h1 := itoa_len K hxw.1
        have h2 := txtB_len (s := s) (by omega)
        have h3 : (keySps L).length ≤ 1073741824 := by
          have := keySpl_len L hxw.2 (by omega)
          have h5 := numB_len (wfI_nat (n := L.length) (by have := D.len_bulks (dSps L); rw [dSps_len] at this; omega))
          unfold keySps
          rw [List.length_append]; omega
        have hnx : (⟨(numB l.length ++ keySpl (l.take (i + 1))).toArray⟩ : ByteArray) = ⟨(numB l.length ++ keySpl (l.take i)).toArray⟩ ++ ⟨(Lib.itoa K).toArray⟩ ++ ⟨#[59]⟩ ++ ⟨(txtB s).toArray⟩ ++ ⟨(keySps L).toArray⟩ := by
          rw [htk, keySp]
          apply ByteArray.ext
          simp [numB, keySps, List.append_assoc]
        have c1c := fun W => Digits_calls K hxw.1 W
        have c2c := fun W => text15_calls s (by omega) W
        have c3c := fun W (hW : Below wr.heap.size wr W) => IH.out L (by omega) (by omega) hxw.2 B _ W (hk.step (fun k hk _ => hW.block k (by have := hbr.size; omega)) (fun _ h _ => h)) (by have := hW.size; have := hbr.size; omega)
        have g1 : (ByteArray.mk (Lib.itoa K).toArray).size ≤ 64 := h1
        have g2 : (ByteArray.mk (txtB s).toArray).size ≤ 1073741824 := by rw [ba_size]; omega
        have g3 : (ByteArray.mk (keySps L).toArray).size ≤ 1073741824 := h3
        have HNX := Lib.hid hnx
        generalize (⟨(numB l.length ++ keySpl (l.take i)).toArray⟩ : ByteArray) = P at *
        generalize (⟨(Lib.itoa K).toArray⟩ : ByteArray) = S1 at *
        generalize (⟨(txtB s).toArray⟩ : ByteArray) = S2 at *
        generalize (⟨(keySps L).toArray⟩ : ByteArray) = S3 at *
        have z1 : ¬ 9223372036854775807 < P.size + S1.size := by omega
        have z2 : ¬ 9223372036854775807 < P.size + S1.size + 1 := by omega
        have z3 : ¬ 9223372036854775807 < P.size + S1.size + 1 + S2.size := by omega
        have z4 : ¬ 9223372036854775807 < P.size + S1.size + 1 + S2.size + S3.size := by omega
        have C1 := Lib.hid c1c
        have C2 := Lib.hid c2c
        have C3 := Lib.hid c3c
        clear hnx c1c c2c c3c hk hRr htk hbt hxw hkt hn2 h1 h2 h3
        go_wp2_with fail
        go_region_held3 (fun w' => w'.cell? ⟨bb, o + i * 3, none⟩ = some (.int .i64 K) ∧ w'.cell? ⟨bb, o + i * 3 + 1, none⟩ = some (.string s) ∧ w'.cell? ⟨bb, o + i * 3 + 2, none⟩ = some (.slice T L.length tc))
          (first | go_keep | exact ⟨below_at' hbq hbl2 c0, below_at' hbq hbl2 c1, below_at' hbq hbl2 c2⟩)
          (first
            | (go_at_call 43; (with_reducible refine (C1.out _).mono ?_); rintro e w' ⟨rfl, hbq'⟩; have hbq := (Below.drew (Below.refl wr.heap.size wr)).trans hbq')
            | (go_at_call 44; (with_reducible refine (C2.out _).mono ?_); rintro e w' ⟨rfl, hbq'⟩; have hbq := below_to hbq hbq.size hbq')
            | (go_at_call 45; (with_reducible refine (C3.out _ (by first | exact hbq | exact below_drewN hbq _)).mono ?_); rintro e w' ⟨rfl, hbq'⟩; have hbq := below_to hbq hbq.size hbq'))
        go_wp2_with fail
        go_roundw
        case rel => exact ⟨i + 1, by omega, by go_num, by rw [HNX.out], below_to hbr hbr.size hbq⟩
        case measure => simp [intOf]; omega
      · have hie : i = l.length := by omega
        have hfin : (⟨(numB l.length ++ keySpl (l.take i)).toArray⟩ : ByteArray) = ⟨(keySps l).toArray⟩ := by rw [hie, List.take_length]; rfl
        rw [hfin]
        clear hie hfin
        go_wp2_with fail
        go_ret
        exact ⟨rfl, hbr⟩
end Go.Proofs.YtobncidpdodaiaaDoor
