/- The walk of spanin's read, and Parse. -/
import Derived.Test.YtlcfijkegdlfcaaGreatDoorReadP
import Derived.Test.YtlcfijkegdlfcaaGreatDoorOwn
import Derived.Test.YtlcfijkegdlfcaaGreatDoorSpan1
import Derived.Deep.AppendLies
import Derived.PlainAid
import Derived.WalkSpells
import Derived.Test.YtlcfijkegdlfcaaGreatDoorSpan3
import Derived.Test.YtlcfijkegdlfcaaGreatDoorTill
import Derived.Test.YtlcfijkegdlfcaaGreatDoorStore
import Derived.Deep.DeepCutAuto
/- Pure: what reading of spans leaves is shorter; put, by its last span. No program in it. -/
namespace Go.Proofs.YtlcfijkegdlfcaaGreatDoor
set_option linter.all false
set_option linter.deprecated false
theorem codeG_short : ∀ (f n : Nat) (pre s : Ln) (x : Sp × Ln), codeG f n pre s = some x → x.2.length ≤ s.length
  | 0, _, _, _, _, h => by simp [codeG] at h
  | _ + 1, _, _, [], _, h => by simp [codeG] at h
  | f + 1, n, pre, c :: t, x, h => by
    rw [codeG] at h
    split at h
    · cases h
    · split at h
      · cases h; simp
      · exact Nat.le_trans (codeG_short f n _ _ x h) (by simp)
theorem destG_short {s : Ln} {x : Ln × Ln} (h : destG s = some x) : x.2.length ≤ s.length := by
  unfold destG at h
  split at h
  · cases h
    have := (List.dropWhile_sublist letterB (l := s.drop 1)).length_le
    simp only [List.length_drop] at *
    omega
  · cases h
theorem head_drop {s : Ln} {c : UInt8} (h : s.head? = some c) : s = c :: s.drop 1 := by cases s with | nil => cases h | cons a t => simp at h; subst h; rfl
theorem runL_pos {s : Ln} {c : UInt8} (h : s.head? = some c) : 1 ≤ runL c s := by rw [head_drop h]; simp [runL]
theorem enclG_short {rd : Ln → Bool → Bool → List Sp × Ln} {s : Ln} {e l : Bool} {x : Sp × Ln} (hrd : ∀ t e l, (rd t e l).2.length ≤ t.length) (h : enclG rd s e l = some x) : x.2.length < s.length := by
  unfold enclG at h
  split at h
  · rename_i h1
    have hs := congrArg List.length (head_drop h1)
    simp only [List.length_cons, List.length_drop] at hs
    split at h
    · cases h
      have := hrd (s.drop 1) true l
      simp only [List.length_drop] at *
      omega
    · cases h
  · split at h
    · rename_i _ h1
      have hs := congrArg List.length (head_drop h1.1)
      simp only [List.length_cons, List.length_drop] at hs
      split at h
      · obtain ⟨y, hy, rfl⟩ := Option.map_eq_some_iff.1 h
        have h2 := destG_short hy
        have := hrd (s.drop 1) e true
        simp only [List.length_drop] at *
        omega
      · cases h
    · split at h
      · rename_i _ _ h1
        have h2 := codeG_short _ _ _ _ _ h
        have h3 := runL_pos h1
        have hs := congrArg List.length (head_drop h1)
        simp only [List.length_cons, List.length_drop] at *
        omega
      · cases h
theorem readG_short : ∀ (f : Nat) (s : Ln) (out : List Sp) (e l : Bool), (readG f s out e l).2.length ≤ s.length
  | 0, s, out, e, l => by rw [readG]; exact Nat.le_refl _
  | f + 1, s, out, e, l => by
    rw [readG]
    split
    · exact Nat.le_refl _
    · split
      · exact Nat.le_refl _
      · split
        · exact Nat.le_trans (readG_short f _ _ e l) (by simp)
        · split
          · rename_i x hx
            have := enclG_short (fun t e l => readG_short f t [] e l) hx
            exact Nat.le_trans (readG_short f _ _ e l) (by omega)
          · exact Nat.le_trans (readG_short f _ _ e l) (by simp)
theorem putS_nil (t : Ln) : putS [] t = [.mk 1 (ba t) []] := rfl
theorem putS_text (l : List Sp) (s : ByteArray) (ks : List Sp) (t : Ln) : putS (l ++ [.mk 1 s ks]) t = l ++ [.mk 1 (ba (bl s ++ t)) ks] := by
  unfold putS
  rw [List.getLast?_concat]
  simp
theorem putS_other (l : List Sp) {k : Int} (s : ByteArray) (ks : List Sp) (t : Ln) (h : k ≠ 1) : putS (l ++ [.mk k s ks]) t = l ++ [.mk k s ks] ++ [.mk 1 (ba t) []] := by
  unfold putS
  rw [List.getLast?_concat]
  split
  · rename_i h'; injection h' with h'; injection h' with h'; exact absurd h' h
  · rfl
theorem ba_app (a b : ByteArray) : ba (bl a ++ bl b) = a ++ b := by
  apply bl_inj
  rw [bl_ba]
  simp [bl]
/-- No text of spans is longer than n. -/
def Txts (n : Nat) (l : List Sp) : Prop := ∀ x ∈ l, x.kind = 1 → x.s.size ≤ n
theorem Txts.mono {n m : Nat} {l : List Sp} (h : Txts n l) (hm : n ≤ m) : Txts m l := fun x hx hk => Nat.le_trans (h x hx hk) hm
theorem Txts.put {n m : Nat} {l : List Sp} {t : Ln} (h : Txts n l) (hm : n + t.length ≤ m) : Txts m (putS l t) := by
  rcases List.eq_nil_or_concat l with rfl | ⟨i, x, rfl⟩
  · intro x hx _
    rw [putS_nil, List.mem_singleton] at hx
    subst hx
    show (ba t).size ≤ m
    rw [ba_size]; omega
  · obtain ⟨k, s, ks⟩ := x
    rw [List.concat_eq_append] at h ⊢
    by_cases hk : k = 1
    · subst hk
      rw [putS_text]
      intro x hx hk
      rcases List.mem_append.1 hx with hx | hx
      · exact Nat.le_trans (h x (List.mem_append_left _ hx) hk) (by omega)
      · rw [List.mem_singleton] at hx
        subst hx
        have := h (.mk 1 s ks) (by simp) rfl
        show (ba (bl s ++ t)).size ≤ m
        rw [ba_size, List.length_append, bl_len]
        simp only [Sp.s] at this
        omega
    · rw [putS_other _ _ _ _ hk]
      intro x hx hkx
      rcases List.mem_append.1 hx with hx | hx
      · exact Nat.le_trans (h x hx hkx) (by omega)
      · rw [List.mem_singleton] at hx
        subst hx
        show (ba t).size ≤ m
        rw [ba_size]; omega
theorem Txts.snoc {n : Nat} {l : List Sp} {x : Sp} (h : Txts n l) (hx : x.kind ≠ 1) : Txts n (l ++ [x]) := fun y hy hk => by
  rcases List.mem_append.1 hy with hy | hy
  · exact h y hy hk
  · rw [List.mem_singleton] at hy; subst hy; exact absurd hk hx
theorem putS_len (l : List Sp) (t : Ln) : (putS l t).length ≤ l.length + 1 := by
  rcases List.eq_nil_or_concat l with rfl | ⟨i, x, rfl⟩
  · simp [putS_nil]
  · obtain ⟨k, s, ks⟩ := x
    rw [List.concat_eq_append]
    by_cases hk : k = 1
    · subst hk; rw [putS_text]; simp
    · rw [putS_other _ _ _ _ hk]; simp
theorem codeG_kind : ∀ (f n : Nat) (pre s : Ln) (x : Sp × Ln), codeG f n pre s = some x → x.1.kind = 2
  | 0, _, _, _, _, h => by simp [codeG] at h
  | _ + 1, _, _, [], _, h => by simp [codeG] at h
  | f + 1, n, pre, c :: t, x, h => by
    rw [codeG] at h
    split at h
    · cases h
    · split at h
      · cases h; rfl
      · exact codeG_kind f n _ _ x h
theorem enclG_kind {rd : Ln → Bool → Bool → List Sp × Ln} {s : Ln} {e l : Bool} {x : Sp × Ln} (h : enclG rd s e l = some x) : x.1.kind ≠ 1 := by
  unfold enclG at h
  split at h
  · split at h
    · cases h; simp [Sp.kind]
    · cases h
  · split at h
    · split at h
      · obtain ⟨y, hy, rfl⟩ := Option.map_eq_some_iff.1 h; simp [Sp.kind]
      · cases h
    · split at h
      · rw [codeG_kind _ _ _ _ _ h]; decide
      · cases h
end Go.Proofs.YtlcfijkegdlfcaaGreatDoor
/- The walk of spanin.put. -/
namespace Go.Proofs.YtlcfijkegdlfcaaGreatDoor
open Go.RowKit Go.PlainAid
set_option linter.all false
set_option linter.deprecated false
set_option maxRecDepth 100000
theorem infoSp : (Tryz.prog.info? 49).map (fun i => (i.zero, i.size, i.bytes)) = some (some (.agg #[.int .i64 0, .string ⟨#[]⟩, .slice none 0 0]), 3, 48) := by kernel_rfl
set_option maxHeartbeats 2000000 in
theorem put_calls (v : Value) (l : List Sp) (cells : List Value) (t : ByteArray) (B : Nat) (w : World) (h : OwnC B 49 3 w v (dSps l) cells) (hB : B ≤ w.heap.size) (hl : l.length ≤ 4294967296) (hs : Txts 4294967296 l) (ht : t.size ≤ 4294967296) :
    Calls Tryz.prog 163 #[v, .string t] w fun e w' => ∃ v' cells', e = .returned v' ∧ OwnC B 49 3 w' v' (dSps (putS l (bl t))) cells' ∧ Below B w w' := by
  rcases List.eq_nil_or_concat l with rfl | ⟨i, x, rfl⟩
  · obtain ⟨A, c, rfl⟩ := h.slice
    rw [putS_nil, ba_bl]
    have H := Lib.hid h
    have ho := h.1
    have hn : (dSps []).length = 0 := rfl
    rw [hn] at ho
    have HO := Lib.hid ho
    clear h ho hn hs hl
    simp only [dSps_len, List.length_nil]
    go_enter Tryz.func163, Tryz.ntmps163
    go_wp2_with (at_builtin; go_must (refine app_one (w0 := w) B rfl _ _ 34 49 rfl Tryz.underlying34 infoSp rfl (by decide) (by decide) [.int .i64 1, .string t, .slice none 0 0] rfl rfl rfl (by simp [Value.oneCell']) (by exact HO.out) (Below.refl _ _) hB (by omega) ?_); intro v' w7 hown' hbe' hgr hat)
    go_ret
    exact ⟨_, _, rfl, H.out.snoc (d := dSp (.mk 1 t [])) (rep_span (x := .mk 1 t []) (Rd.nil _ _)) hown' hgr hat, hbe'⟩
  · obtain ⟨k, s, ks⟩ := x
    rw [List.concat_eq_append] at *
    obtain ⟨A, c, rfl⟩ := h.slice
    have hlen : (dSps (i ++ [Sp.mk k s ks])).length = i.length + 1 := by rw [dSps_len]; simp
    have ho := h.1
    rw [hlen] at h ho ⊢
    obtain ⟨g, c', hv⟩ : ∃ g c', Value.slice A (i.length + 1) c = .slice (some ⟨g, 0, none⟩) (i.length + 1) c' := by
      rcases ho.2 with ⟨hz, _⟩ | ⟨g, c', _, hv, _⟩
      · cases hz
      · exact ⟨g, c', hv⟩
    obtain ⟨rfl, _, rfl⟩ := Value.slice.inj hv
    have hR := h.retext (s ++ t)
    have H := Lib.hid h
    have HO := Lib.hid ho
    clear h ho hlen hv
    obtain ⟨c0, c1, f1, hBg, hgw, cells', hnew⟩ := hR
    rw [List.length_append] at hl
    simp only [List.length_cons, List.length_nil] at hl
    have n1 : IntKind.i64.wrap (((i.length + 1 : Nat) : Int) - 1) = (i.length : Int) := by rw [IntWalk.i64_in _ (by omega)]; omega
    have n2 : (0 : Int) ≤ (i.length : Int) := by omega
    have n3 : (i.length : Int) < ((i.length + 1 : Nat) : Int) := by omega
    by_cases hk : k = 1
    · subst hk
      have hsz : s.size ≤ 4294967296 := hs (.mk 1 s ks) (by simp) rfl
      rw [putS_text, ba_app]
      have HN := Lib.hid hnew
      clear hnew hs
      go_enter Tryz.func163, Tryz.ntmps163
      go_wp2_with fail
      go_ret
      exact ⟨_, rfl, ⟨_, HN.out⟩, (Below.refl _ _).setCell (p := ⟨g, _, none⟩) hBg _⟩
    · rw [putS_other _ _ _ _ hk, ba_bl]
      have hkq : (k == 1) = false := beq_eq_false_iff_ne.2 hk
      clear hnew
      go_enter Tryz.func163, Tryz.ntmps163
      go_wp2_with (at_builtin; go_must (refine app_one (w0 := w) B rfl _ _ 34 49 rfl Tryz.underlying34 infoSp rfl (by decide) (by decide) [.int .i64 1, .string t, .slice none 0 0] rfl rfl rfl (by simp [Value.oneCell']) (by exact HO.out) (Below.refl _ _) hB (by omega) ?_); intro v' w7 hown' hbe' hgr hat)
      go_ret
      have hap : i ++ [Sp.mk k s ks, Sp.mk 1 t []] = (i ++ [Sp.mk k s ks]) ++ [Sp.mk 1 t []] := by simp
      refine ⟨_, rfl, ⟨cells ++ [.int .i64 1, .string t, .slice none 0 0], ?_⟩, hbe'⟩
      try rw [hap]
      rw [dSps_app]
      refine OwnC.snoc (W := w) (d := dSp (.mk 1 t [])) H.out (rep_span (x := .mk 1 t []) (Rd.nil _ w)) ?_ hgr hat
      rw [dSps_len]; simpa using hown'
end Go.Proofs.YtlcfijkegdlfcaaGreatDoor
/- The walk of utf.Escapes. -/
namespace Go.Proofs.YtlcfijkegdlfcaaGreatDoor
open Go.RowKit Go.PlainAid
set_option linter.all false
set_option linter.deprecated false
/-- A character's class. -/
def clsE (c : Int) : Int :=
  if c = 10 ∨ c = 13 then 3 else if c = 9 ∨ c = 32 then 2
  else if (32 < c ∧ c < 48) ∨ (57 < c ∧ c < 65) ∨ (90 < c ∧ c < 97) ∨ (122 < c ∧ c ≤ 126) then 4 else 1
set_option maxHeartbeats 400000 in
theorem classE_calls (c : Int) (w : World) :
    Calls Tryz.prog 179 #[.int .i64 c] w fun e w' => e = .returned (.int .i64 (clsE c)) ∧ w' = w := by
  go_enter Tryz.func179, Tryz.ntmps179
  go_wp2
  all_goals go_ret
  all_goals refine ⟨ret_int ?_, rfl⟩
  all_goals (try simp only [beq_iff_eq, beq_eq_false_iff_ne, ne_eq] at *)
  all_goals unfold clsE
  all_goals (repeat' split)
  all_goals omega
theorem mark_cls (c : UInt8) : (clsE (c.toNat : Int) == 4) = markB c := by
  have e : markB c = decide ((32 < c.toNat ∧ c.toNat < 48) ∨ (57 < c.toNat ∧ c.toNat < 65) ∨ (90 < c.toNat ∧ c.toNat < 97) ∨ (122 < c.toNat ∧ c.toNat ≤ 126)) := by
    unfold markB
    simp only [UInt8.lt_iff_toNat_lt, UInt8.le_iff_toNat_le, Bool.decide_or, Bool.decide_and]
    rw [Bool.or_assoc, Bool.or_assoc]
    rfl
  rw [e]
  unfold clsE
  by_cases h : (32 < c.toNat ∧ c.toNat < 48) ∨ (57 < c.toNat ∧ c.toNat < 65) ∨ (90 < c.toNat ∧ c.toNat < 97) ∨ (122 < c.toNat ∧ c.toNat ≤ 126)
  · rw [decide_eq_true h, if_neg (by omega), if_neg (by omega), if_pos (by omega)]; rfl
  · rw [decide_eq_false h]
    (repeat' split) <;> first | rfl | omega
set_option maxHeartbeats 400000 in
theorem Escapes_calls (c : UInt8) (w : World) : Calls Tryz.prog 162 #[.int .u8 c.toNat] w fun e w' => e = .returned (.bool (markB c)) ∧ w' = w := by
  have hm := mark_cls c
  have hc := c.toNat_lt
  have hw : IntKind.i64.wrap (c.toNat : Int) = (c.toNat : Int) := IntWalk.i64_in _ (by omega)
  have HM := Lib.hid hm
  clear hm
  go_enter Tryz.func162, Tryz.ntmps162
  go_wp2_with fail
  refine (classE_calls _ _).mono ?_
  rintro e w1 ⟨rfl, rfl⟩
  go_wp2_with fail
  go_ret
  exact ⟨ret_bool HM.out, rfl⟩
end Go.Proofs.YtlcfijkegdlfcaaGreatDoor
/- The walk of spanin's enclosed, by a reading of what it encloses. -/
namespace Go.Proofs.YtlcfijkegdlfcaaGreatDoor
open Go.RowKit Go.PlainAid
set_option linter.all false
set_option linter.deprecated false
set_option maxRecDepth 100000
theorem codeG_fuel : ∀ (f g n : Nat) (pre s : Ln), s.length < f → s.length < g → codeG f n pre s = codeG g n pre s
  | 0, _, _, _, _, h, _ => by omega
  | _ + 1, 0, _, _, _, _, h => by omega
  | f + 1, g + 1, n, pre, [], _, _ => rfl
  | f + 1, g + 1, n, pre, c :: t, hf, hg => by
    rw [codeG, codeG]
    split
    · rfl
    · split
      · rfl
      · simp only [List.length_cons] at hf hg
        exact codeG_fuel f g n _ _ (by simp only [List.length_drop, List.length_cons]; omega) (by simp only [List.length_drop, List.length_cons]; omega)
/-- What read answers. -/
def ReadOf (s : ByteArray) (x : List Sp × Ln) (w : World) (e : Ending) (w' : World) : Prop :=
  ∃ A n c cells, ∃ k : Nat, e = .returned (.tuple #[.slice A n c, .int .i64 k]) ∧ n = x.1.length ∧ n ≤ s.size ∧ k ≤ s.size ∧ (bl s).drop k = x.2 ∧ OwnC w.heap.size 49 3 w' (.slice A n c) (dSps x.1) cells ∧ Below w.heap.size w w'
/-- What enclosed answers. -/
def EnclOf (s : ByteArray) (x : Option (Sp × Ln)) (w : World) (e : Ending) (w' : World) : Prop :=
  ∃ (z : Int) (t : ByteArray) (A : Option Addr) (n c : Nat) (m : Int), e = .returned (.tuple #[.agg #[.int .i64 z, .string t, .slice A n c], .int .i64 m, .bool x.isSome]) ∧ Below w.heap.size w w' ∧
    ∀ d r, x = some (d, r) → z = d.kind ∧ t = d.s ∧ Rd (w.heap.size ≤ ·) w' (.slice A n c) (dSps d.kids) ∧ ∃ k : Nat, m = k ∧ k ≤ s.size ∧ (bl s).drop k = r
/-- The two boxes of the beginning. -/
theorem encl_box (w : World) (s : ByteArray) (z : Array Value) : ((w.alloc (.cells #[.string s] 134)).alloc (.cells z 49)).cell? ⟨w.heap.size, 0, none⟩ = some (.string s) ∧
    ((w.alloc (.cells #[.string s] 134)).alloc (.cells z 49)).heap[w.heap.size + 1]? = some (.cells z 49 (0, 0)) ∧
    ((w.alloc (.cells #[.string s] 134)).alloc (.cells z 49)).heap.size = w.heap.size + 2 ∧ Below w.heap.size w ((w.alloc (.cells #[.string s] 134)).alloc (.cells z 49)) := by
  have hb1 : Below (w.heap.size + 1) (w.alloc (.cells #[.string s] 134)) ((w.alloc (.cells #[.string s] 134)).alloc (.cells z 49)) := by
    have := (Below.refl (w.alloc (.cells #[.string s] 134)).heap.size (w.alloc (.cells #[.string s] 134))).alloc (Nat.le_refl _) (.cells z 49)
    simpa using this
  refine ⟨below_at' hb1 (Nat.lt_succ_self _) (by rw [cell_of_row _ w.heap.size 0 _ _ _ (heap_alloc_new w (.cells #[.string s] 134))]; rfl), ?_, by simp, ((Below.refl _ _).alloc (Nat.le_refl _) _).trans (hb1.mono (Nat.le_succ _))⟩
  have := heap_alloc_new (w.alloc (.cells #[.string s] 134)) (.cells z 49)
  simpa using this
theorem nil_len {α : Type} {l : List α} {n : Nat} (h : n = l.length) : (l ≠ [] ↔ 0 < n) := by rw [h]; cases l <;> simp
theorem rd_off {B g : Nat} {w : World} {v : Value} {ds : List D} {vs : List Value} (h : Rd (B ≤ ·) w v ds) (hg : g < B) : Rd (B ≤ ·) (w.setCells g 0 vs) v ds :=
  h.step (fun k hk _ => setCells_other (by omega) _ _ _) (fun _ h _ => h)
set_option maxHeartbeats 4000000 in
theorem encl_star (s : ByteArray) (k : Nat) (em li : Bool) (w : World) (RD : List Sp × Ln) (hs : s.size ≤ 4294967280) (hk : k < s.size) (hc : bt s k = 42)
    (hR : ∀ W, Calls Tryz.prog 135 #[.agg #[.string s], .int .i64 ((k + 1 : Nat) : Int), .bool true, .bool li] W (ReadOf s RD W)) :
    Calls Tryz.prog 164 #[.agg #[.string s], .int .i64 k, .bool em, .bool li] w
      (EnclOf s (if RD.2.head? = some 42 ∧ RD.1 ≠ [] then some (.mk 3 (ba []) RD.1, RD.2.drop 1) else none) w) := by
  have HR := Lib.hid hR
  clear hR
  obtain ⟨X, hX⟩ : ∃ X, (if RD.2.head? = some 42 ∧ RD.1 ≠ [] then some (Sp.mk 3 (ba []) RD.1, RD.2.drop 1) else none) = X := ⟨_, rfl⟩
  rw [hX]
  have HX := Lib.hid hX
  clear hX
  have hg := get_bt s
  have k1 : IntKind.i64.wrap ((k : Int) + 1) = ((k + 1 : Nat) : Int) := by rw [IntWalk.i64_in _ (by omega)]; omega
  have k2 : (k : Int) < s.size := by omega
  have hbq : (bt s k == 42) = true := by rw [hc]; rfl
  have HC := Lib.hid hc
  clear hc
  obtain ⟨c0, r0, z0, b0⟩ := encl_box w s #[.int .i64 0, .string ⟨#[]⟩, .slice none 0 0]
  have H0 := Lib.hid (And.intro c0 (And.intro r0 (And.intro z0 b0)))
  clear c0 r0 z0 b0
  go_enter Tryz.func164, Tryz.ntmps164
  go_wp2_with fail
  refine (HR.out _).mono ?_
  rintro e w1 ⟨A, n, c, cells, j, rfl, hn, hns, hjs, hd, hown, hb1⟩
  obtain ⟨c0, r0, z0, b0⟩ := H0.out
  have ez : ByteArray.empty = ⟨#[]⟩ := rfl
  have hc1 := below_at' hb1 (by omega) c0
  have hrow1 := (hb1.block (w.heap.size + 1) (by omega)).trans r0
  have hbz1 := b0.trans (hb1.mono (by omega))
  have hown' := hown.rd
  rw [z0] at hown'
  have HO := Lib.hid hown'
  have HI := Lib.hid (fun W => is_calls s j 42 W hs)
  have hj1 : IntKind.i64.wrap ((j : Int) + 1) = (j : Int) + 1 := IntWalk.i64_in _ (by omega)
  have h9 : w.heap.size + 1 < w1.heap.size := (Array.getElem?_eq_some_iff.1 hrow1).1
  have HJ := Lib.hid hd
  have HNN := Lib.hid hn
  clear hown hown' c0 r0 z0 b0 H0 hd hb1 hn
  go_wp2_with fail
  refine (HI.out _).mono ?_
  rintro e w2 ⟨rfl, hb2⟩
  have hc1' := below_at' hb2 (by omega) hc1
  have hrow := (hb2.block _ h9).trans hrow1
  have hbz := below_to hbz1 hbz1.size hb2
  have HO2 := Lib.hid (HO.out.below hb2)
  clear hc1 hrow1 hbz1 HO HI h9 hb2
  rw [HJ.out]
  by_cases h1 : RD.2.head? = some 42
  · have d1 : decide (RD.2.head? = some 42) = true := decide_eq_true h1
    by_cases h2 : 0 < n
    · have h2z : (0 : Int) < n := by omega
      have hX := HX.out
      rw [if_pos ⟨h1, (nil_len HNN.out).2 h2⟩] at hX
      have HX2 := Lib.hid hX
      clear hX
      have H1 := Lib.hid h1
      clear h1
      go_wp2_with (refine wpList_store_mid rfl _ _ _ rfl (w.heap.size + 1) 0 #[.int .i64 3, .string ⟨#[]⟩, .slice A n c] rfl rfl (show w2.there (w.heap.size + 1) 0 3 from there_of_row hrow) (by kernel_rfl) (by simp [Value.oneCell']) ?_; have hrow2 := setCells_whole [.int .i64 3, .string ⟨#[]⟩, .slice A n c] hrow rfl; have hbz2 := setCells_below (Nat.le_succ _) [.int .i64 3, .string ⟨#[]⟩, .slice A n c] 0 _ hbz)
      (try simp only [Exit.inBlock, Exit.then])
      refine bodyPost_ret (results_cell3 rfl _ _ (w.heap.size + 1) _ _ _ _ rfl hrow2 Tryz.underlying49 rfl (by kernel_rfl)) rfl ?_
      refine ⟨3, _, A, n, c, _, by rw [← HX2.out]; rfl, hbz2, fun d r h => ?_⟩
      rw [← HX2.out] at h
      cases h
      refine ⟨rfl, rfl, (rd_off HO2.out (Nat.lt_succ_self _)).mono (fun k hk _ => Nat.le_trans (Nat.le_add_right _ 2) hk), j + 1, by omega, ?_, ?_⟩
      · have := HJ.out; have h1 := H1.out
        rw [← this] at h1
        rcases Nat.lt_or_ge j s.size with h | h
        · exact h
        · rw [List.drop_eq_nil_of_le (by rw [bl_len]; exact h)] at h1; cases h1
      · rw [← HJ.out, List.drop_drop]
    · have h2z : ¬ (0 : Int) < n := by omega
      have hX := HX.out
      rw [if_neg (fun h => h2 ((nil_len HNN.out).1 h.2))] at hX
      subst hX
      clear h1
      go_wp2_with (refine wpList_store_mid rfl _ _ _ rfl (w.heap.size + 1) 0 #[.int .i64 3, .string ⟨#[]⟩, .slice A n c] rfl rfl (show w2.there (w.heap.size + 1) 0 3 from there_of_row hrow) (by kernel_rfl) (by simp [Value.oneCell']) ?_; have hrow2 := setCells_whole [.int .i64 3, .string ⟨#[]⟩, .slice A n c] hrow rfl; have hbz2 := setCells_below (Nat.le_succ _) [.int .i64 3, .string ⟨#[]⟩, .slice A n c] 0 _ hbz)
      (try simp only [Exit.inBlock, Exit.then])
      refine bodyPost_ret (results_cell3 rfl _ _ (w.heap.size + 1) _ _ _ _ rfl hrow2 Tryz.underlying49 rfl (by kernel_rfl)) rfl ?_
      exact ⟨3, _, A, n, c, _, rfl, hbz2, fun d r h => by cases h⟩
  · have d1 : decide (RD.2.head? = some 42) = false := decide_eq_false h1
    have hX := HX.out
    rw [if_neg (fun h => h1 h.1)] at hX
    subst hX
    clear h1
    go_wp2_with (refine wpList_store_mid rfl _ _ _ rfl (w.heap.size + 1) 0 #[.int .i64 3, .string ⟨#[]⟩, .slice A n c] rfl rfl (show w2.there (w.heap.size + 1) 0 3 from there_of_row hrow) (by kernel_rfl) (by simp [Value.oneCell']) ?_; have hrow2 := setCells_whole [.int .i64 3, .string ⟨#[]⟩, .slice A n c] hrow rfl; have hbz2 := setCells_below (Nat.le_succ _) [.int .i64 3, .string ⟨#[]⟩, .slice A n c] 0 _ hbz)
    (try simp only [Exit.inBlock, Exit.then])
    refine bodyPost_ret (results_cell3 rfl _ _ (w.heap.size + 1) _ _ _ _ rfl hrow2 Tryz.underlying49 rfl (by kernel_rfl)) rfl ?_
    exact ⟨3, _, A, n, c, _, rfl, hbz2, fun d r h => by cases h⟩
end Go.Proofs.YtlcfijkegdlfcaaGreatDoor
/- The walk of spanin's enclosed: links, and what encloses nothing. -/
namespace Go.Proofs.YtlcfijkegdlfcaaGreatDoor
open Go.RowKit Go.PlainAid
set_option linter.all false
set_option linter.deprecated false
set_option maxRecDepth 100000
set_option maxHeartbeats 4000000 in
theorem encl_link (s : ByteArray) (k : Nat) (em : Bool) (w : World) (RD : List Sp × Ln) (hs : s.size ≤ 4294967280) (hk : k < s.size) (hc : bt s k = 91)
    (hR : ∀ W, Calls Tryz.prog 135 #[.agg #[.string s], .int .i64 ((k + 1 : Nat) : Int), .bool em, .bool true] W (ReadOf s RD W)) :
    Calls Tryz.prog 164 #[.agg #[.string s], .int .i64 k, .bool em, .bool false] w
      (EnclOf s (if RD.2.head? = some 93 ∧ RD.1 ≠ [] then (destG (RD.2.drop 1)).map fun x => (.mk 4 (ba x.1) RD.1, x.2) else none) w) := by
  have HR := Lib.hid hR
  clear hR
  obtain ⟨X, hX⟩ : ∃ X, (if RD.2.head? = some 93 ∧ RD.1 ≠ [] then (destG (RD.2.drop 1)).map fun x => (Sp.mk 4 (ba x.1) RD.1, x.2) else none) = X := ⟨_, rfl⟩
  rw [hX]
  have HX := Lib.hid hX
  clear hX
  have hg := get_bt s
  have k1 : IntKind.i64.wrap ((k : Int) + 1) = ((k + 1 : Nat) : Int) := by rw [IntWalk.i64_in _ (by omega)]; omega
  have k2 : (k : Int) < s.size := by omega
  have hbq0 : (bt s k == 42) = false := by rw [hc]; rfl
  have hbq : (bt s k == 91) = true := by rw [hc]; rfl
  have HC := Lib.hid hc
  clear hc
  obtain ⟨c0, r0, z0, b0⟩ := encl_box w s #[.int .i64 0, .string ⟨#[]⟩, .slice none 0 0]
  have H0 := Lib.hid (And.intro c0 (And.intro r0 (And.intro z0 b0)))
  clear c0 r0 z0 b0
  go_enter Tryz.func164, Tryz.ntmps164
  go_wp2_with fail
  refine (HR.out _).mono ?_
  rintro e w1 ⟨A, n, c, cells, j, rfl, hn, hns, hjs, hd, hown, hb1⟩
  obtain ⟨c0, r0, z0, b0⟩ := H0.out
  have ez : ByteArray.empty = ⟨#[]⟩ := rfl
  have hc1 := below_at' hb1 (by omega) c0
  have hrow1 := (hb1.block (w.heap.size + 1) (by omega)).trans r0
  have hbz1 := b0.trans (hb1.mono (by omega))
  have hown' := hown.rd
  rw [z0] at hown'
  have HO := Lib.hid hown'
  have HI := Lib.hid (fun W => is_calls s j 93 W hs)
  have hj1 : IntKind.i64.wrap ((j : Int) + 1) = ((j + 1 : Nat) : Int) := by rw [IntWalk.i64_in _ (by omega)]; omega
  have h9 : w.heap.size + 1 < w1.heap.size := (Array.getElem?_eq_some_iff.1 hrow1).1
  have HJ := Lib.hid hd
  have HNN := Lib.hid hn
  clear hown hown' c0 r0 z0 b0 H0 hd hb1 hn
  go_wp2_with fail
  refine (HI.out _).mono ?_
  rintro e w2 ⟨rfl, hb2⟩
  have hc2 := below_at' hb2 (by omega) hc1
  have hrow := (hb2.block _ h9).trans hrow1
  have hbz := below_to hbz1 hbz1.size hb2
  have h10 := (Array.getElem?_eq_some_iff.1 hrow).1
  have HO2 := Lib.hid (HO.out.below hb2)
  clear hc1 hrow1 hbz1 HO HI h9 hb2
  rw [HJ.out]
  by_cases h1 : RD.2.head? = some 93
  · have d1 : decide (RD.2.head? = some 93) = true := decide_eq_true h1
    have hjs' : j + 1 ≤ s.size := by
      have := HJ.out
      rw [← this] at h1
      rcases Nat.lt_or_ge j s.size with h | h
      · exact h
      · rw [List.drop_eq_nil_of_le (by rw [bl_len]; exact h)] at h1; cases h1
    have hx2 : (bl s).drop (j + 1) = RD.2.drop 1 := by rw [← HJ.out, List.drop_drop]
    have HD := Lib.hid (fun W => hx2 ▸ idest_calls s (j + 1) W hs hjs')
    clear hx2 hjs'
    by_cases h2 : 0 < n
    · have h2z : ((n : Int) == 0) = false := beq_eq_false_iff_ne.2 (by omega)
      have hX := HX.out
      rw [if_pos ⟨h1, (nil_len HNN.out).2 h2⟩] at hX
      have HX2 := Lib.hid hX
      clear hX h1
      go_wp2_with fail
      refine (HD.out _).mono ?_
      rintro e w3 ⟨a, m, rfl, hdd, hb3⟩
      have hrow3 := (hb3.block _ h10).trans hrow
      have hbz3 := below_to hbz hbz.size hb3
      have HO3 := Lib.hid (HO2.out.below hb3)
      have HDD := Lib.hid hdd
      have hsome : (destG (RD.2.drop 1)).isSome = X.isSome := by rw [← HX2.out]; simp
      rw [hsome]
      clear HO2 hrow hbz hdd hb3 hsome HD
      go_wp2_with (refine wpList_store_mid rfl _ _ _ rfl (w.heap.size + 1) 0 #[.int .i64 4, .string a, .slice A n c] rfl rfl (show w3.there (w.heap.size + 1) 0 3 from there_of_row hrow3) (by kernel_rfl) (by simp [Value.oneCell']) ?_; have hrow2 := setCells_whole [.int .i64 4, .string a, .slice A n c] hrow3 rfl; have hbz2 := setCells_below (Nat.le_succ _) [.int .i64 4, .string a, .slice A n c] 0 _ hbz3)
      (try simp only [Exit.inBlock, Exit.then])
      refine bodyPost_ret (results_cell3 rfl _ _ (w.heap.size + 1) _ _ _ _ rfl hrow2 Tryz.underlying49 rfl (by kernel_rfl)) rfl ?_
      refine ⟨4, a, A, n, c, m, rfl, hbz2, fun d r h => ?_⟩
      rw [← HX2.out] at h
      obtain ⟨y, hy, hyd⟩ := Option.map_eq_some_iff.1 h
      cases hyd
      obtain ⟨rfl, q, hq⟩ := HDD.out y.1 y.2 hy
      exact ⟨rfl, rfl, (rd_off HO3.out (Nat.lt_succ_self _)).mono (fun k hk _ => Nat.le_trans (Nat.le_add_right _ 2) hk), q, hq⟩
    · have h2z : ((n : Int) == 0) = true := beq_iff_eq.2 (by omega)
      have hX := HX.out
      rw [if_neg (fun h => h2 ((nil_len HNN.out).1 h.2))] at hX
      subst hX
      clear h1 HD
      go_wp2_with (refine wpList_store_mid rfl _ _ _ rfl (w.heap.size + 1) 0 #[.int .i64 0, .string ⟨#[]⟩, .slice none 0 0] rfl rfl (show w2.there (w.heap.size + 1) 0 3 from there_of_row hrow) (by kernel_rfl) (by simp [Value.oneCell']) ?_; have hrow2 := setCells_whole [.int .i64 0, .string ⟨#[]⟩, .slice none 0 0] hrow rfl; have hbz2 := setCells_below (Nat.le_succ _) [.int .i64 0, .string ⟨#[]⟩, .slice none 0 0] 0 _ hbz)
      (try simp only [Exit.inBlock, Exit.then])
      refine bodyPost_ret (results_cell3 rfl _ _ (w.heap.size + 1) _ _ _ _ rfl hrow2 Tryz.underlying49 rfl (by kernel_rfl)) rfl ?_
      exact ⟨0, _, none, 0, 0, _, rfl, hbz2, fun d r h => by cases h⟩
  · have d1 : decide (RD.2.head? = some 93) = false := decide_eq_false h1
    have hX := HX.out
    rw [if_neg (fun h => h1 h.1)] at hX
    subst hX
    clear h1
    go_wp2_with (refine wpList_store_mid rfl _ _ _ rfl (w.heap.size + 1) 0 #[.int .i64 0, .string ⟨#[]⟩, .slice none 0 0] rfl rfl (show w2.there (w.heap.size + 1) 0 3 from there_of_row hrow) (by kernel_rfl) (by simp [Value.oneCell']) ?_; have hrow2 := setCells_whole [.int .i64 0, .string ⟨#[]⟩, .slice none 0 0] hrow rfl; have hbz2 := setCells_below (Nat.le_succ _) [.int .i64 0, .string ⟨#[]⟩, .slice none 0 0] 0 _ hbz)
    (try simp only [Exit.inBlock, Exit.then])
    refine bodyPost_ret (results_cell3 rfl _ _ (w.heap.size + 1) _ _ _ _ rfl hrow2 Tryz.underlying49 rfl (by kernel_rfl)) rfl ?_
    exact ⟨0, _, none, 0, 0, _, rfl, hbz2, fun d r h => by cases h⟩
set_option maxHeartbeats 4000000 in
theorem encl_none (s : ByteArray) (k : Nat) (em li : Bool) (w : World) (hs : s.size ≤ 4294967280) (hk : k < s.size) (hc : bt s k ≠ 42) (hc2 : bt s k = 91 → li = true) (hc3 : bt s k ≠ 96) :
    Calls Tryz.prog 164 #[.agg #[.string s], .int .i64 k, .bool em, .bool li] w (EnclOf s none w) := by
  have hg := get_bt s
  have k2 : (k : Int) < s.size := by omega
  have hbq0 : (bt s k == 42) = false := beq_eq_false_iff_ne.2 hc
  have hbq3 : (bt s k == 96) = false := beq_eq_false_iff_ne.2 hc3
  have ez : ByteArray.empty = ⟨#[]⟩ := rfl
  obtain ⟨_, hrow, _, hbz⟩ := encl_box w s #[.int .i64 0, .string ⟨#[]⟩, .slice none 0 0]
  by_cases h91 : bt s k = 91
  · have hbq : (bt s k == 91) = true := by rw [h91]; rfl
    obtain rfl := hc2 h91
    clear hc hc2 hc3 h91
    go_enter Tryz.func164, Tryz.ntmps164
    go_wp2_with (refine wpList_store_mid rfl _ _ _ rfl (w.heap.size + 1) 0 #[.int .i64 0, .string ⟨#[]⟩, .slice none 0 0] rfl rfl (there_of_row hrow) (by kernel_rfl) (by simp [Value.oneCell']) ?_; have hrow2 := setCells_whole [.int .i64 0, .string ⟨#[]⟩, .slice none 0 0] hrow rfl; have hbz2 := setCells_below (Nat.le_succ _) [.int .i64 0, .string ⟨#[]⟩, .slice none 0 0] 0 _ hbz; generalize World.setCells _ (w.heap.size + 1) 0 _ = w9 at *)
    (try simp only [Exit.inBlock, Exit.then])
    refine bodyPost_ret (results_cell3 rfl _ _ (w.heap.size + 1) _ _ _ _ rfl hrow2 Tryz.underlying49 rfl (by kernel_rfl)) rfl ?_
    exact ⟨0, _, none, 0, 0, _, rfl, hbz2, fun d r h => by cases h⟩
  · have hbq : (bt s k == 91) = false := beq_eq_false_iff_ne.2 h91
    clear hc hc2 hc3 h91
    go_enter Tryz.func164, Tryz.ntmps164
    go_wp2_with (refine wpList_store_mid rfl _ _ _ rfl (w.heap.size + 1) 0 #[.int .i64 0, .string ⟨#[]⟩, .slice none 0 0] rfl rfl (there_of_row hrow) (by kernel_rfl) (by simp [Value.oneCell']) ?_; have hrow2 := setCells_whole [.int .i64 0, .string ⟨#[]⟩, .slice none 0 0] hrow rfl; have hbz2 := setCells_below (Nat.le_succ _) [.int .i64 0, .string ⟨#[]⟩, .slice none 0 0] 0 _ hbz; generalize World.setCells _ (w.heap.size + 1) 0 _ = w9 at *)
    (try simp only [Exit.inBlock, Exit.then])
    refine bodyPost_ret (results_cell3 rfl _ _ (w.heap.size + 1) _ _ _ _ rfl hrow2 Tryz.underlying49 rfl (by kernel_rfl)) rfl ?_
    exact ⟨0, _, none, 0, 0, _, rfl, hbz2, fun d r h => by cases h⟩
end Go.Proofs.YtlcfijkegdlfcaaGreatDoor
/- The walk of spanin's enclosed: codes. -/
namespace Go.Proofs.YtlcfijkegdlfcaaGreatDoor
open Go.RowKit Go.PlainAid
set_option linter.all false
set_option linter.deprecated false
set_option maxRecDepth 100000
set_option maxHeartbeats 4000000 in
theorem encl_code (s : ByteArray) (k : Nat) (em li : Bool) (w : World) (hs : s.size ≤ 4294967280) (hk : k < s.size) (hc : bt s k = 96) :
    Calls Tryz.prog 164 #[.agg #[.string s], .int .i64 k, .bool em, .bool li] w
      (EnclOf s (codeG (((bl s).drop k).length + 1) (runL 96 ((bl s).drop k)) [] (((bl s).drop k).drop (runL 96 ((bl s).drop k)))) w) := by
  have hg := get_bt s
  have k2 : (k : Int) < s.size := by omega
  have hbq0 : (bt s k == 42) = false := by rw [hc]; rfl
  have hbq1 : (bt s k == 91) = false := by rw [hc]; rfl
  have hbq : (bt s k == 96) = true := by rw [hc]; rfl
  have ez : ByteArray.empty = ⟨#[]⟩ := rfl
  have hh : ((bl s).drop k).head? = some 96 := by
    have := bt_is s k 96 hk
    rw [hc] at this
    exact of_decide_eq_true this.symm
  have hr1 := runL_pos hh
  have hr2 := run_le 96 ((bl s).drop k)
  rw [List.length_drop, bl_len] at hr2
  have e0 : codeG (((bl s).drop k).length + 1) (runL 96 ((bl s).drop k)) [] (((bl s).drop k).drop (runL 96 ((bl s).drop k))) = codeG (s.size + 1) (runL 96 ((bl s).drop k)) [] ((bl s).drop (k + runL 96 ((bl s).drop k))) := by
    rw [List.drop_drop]
    exact codeG_fuel _ _ _ _ _ (by simp only [List.length_drop, bl_len]; omega) (by simp only [List.length_drop, bl_len]; omega)
  rw [e0]
  have hT := fun W => Ticks_calls s k W hs
  have hC := fun W => icode_calls s k (runL 96 ((bl s).drop k)) W hs hr1 (by omega)
  generalize codeG (s.size + 1) (runL 96 ((bl s).drop k)) [] ((bl s).drop (k + runL 96 ((bl s).drop k))) = X at *
  generalize runL 96 ((bl s).drop k) = R at *
  have HT := Lib.hid hT
  have HC := Lib.hid hC
  obtain ⟨hc0, hrow, hz, hbz⟩ := encl_box w s #[.int .i64 0, .string ⟨#[]⟩, .slice none 0 0]
  clear hT hC e0 hh hc
  go_enter Tryz.func164, Tryz.ntmps164
  go_wp2_with fail
  generalize ((w.alloc (.cells #[.string s] 134)).alloc (.cells #[.int .i64 0, .string ⟨#[]⟩, .slice none 0 0] 49)) = w0 at *
  refine wp_region_till 6 (fun w' => w'.cell? ⟨w.heap.size, 0, none⟩ = some (.string s)) (by kernel_rfl) hc0 (fun hT => ?_)
  refine wpAnyT_load (i := 0) (v := ?_) 40 rfl (by kernel_rfl) (fun _ _ _ h => h) (Or.inl ⟨by rfl, ?_⟩) hT (fun hT => ?_)
  rotate_left
  · intro w hS; (try dsimp only at hS); go_split_ands; go_simp; try with_reducible rfl
  try simp only [Act.put, List.setIfInBounds_toArray, List.set_cons_zero, List.set_cons_succ]
  refine wpAnyT_take (i := 1) (v := ?_) rfl (by kernel_rfl) (fun _ _ _ h => h) (Or.inl ⟨by rfl, ?_⟩) hT (fun hT => ?_)
  rotate_left
  · intro w _; go_simp; try with_reducible rfl
  try simp only [Act.put, List.setIfInBounds_toArray, List.set_cons_zero, List.set_cons_succ]
  refine wpAnyT_take (i := 2) (v := ?_) rfl (by kernel_rfl) (fun _ _ _ h => h) (Or.inl ⟨by rfl, ?_⟩) hT (fun hT => ?_)
  rotate_left
  · intro w _; go_simp; try with_reducible rfl
  try simp only [Act.put, List.setIfInBounds_toArray, List.set_cons_zero, List.set_cons_succ]
  refine wpAnyT_load (i := 3) (v := ?_) 40 rfl (by kernel_rfl) (fun _ _ _ h => h) (Or.inl ⟨by rfl, ?_⟩) hT (fun hT => ?_)
  rotate_left
  · intro w hS; (try dsimp only at hS); go_split_ands; go_simp; try with_reducible rfl
  try simp only [Act.put, List.setIfInBounds_toArray, List.set_cons_zero, List.set_cons_succ]
  refine wpAnyT_take (i := 4) (v := ?_) rfl (by kernel_rfl) (fun _ _ _ h => h) (Or.inl ⟨by rfl, ?_⟩) hT (fun hT => ?_)
  rotate_left
  · intro w _; go_simp; try with_reducible rfl
  try simp only [Act.put, List.setIfInBounds_toArray, List.set_cons_zero, List.set_cons_succ]
  refine wpAnyT_ready (rs := [5]) (by kernel_rfl) (by simp) ?_
  refine ReadyT.cons rfl (fun K hK => ?_) ReadyT.nil
  go_simp
  refine (HT.out _).mono ?_
  rintro e w1 ⟨rfl, rfl⟩
  refine hK.out _ _ (fun _ => hc0) (fun hT => ?_)
  clear hK K
  try simp only [Act.put, List.setIfInBounds_toArray, List.set_cons_zero, List.set_cons_succ]
  refine wpAnyT_ready (rs := [6]) (by kernel_rfl) (by simp) ?_
  refine ReadyT.cons rfl (fun K hK => ?_) ReadyT.nil
  go_simp
  refine (HC.out _).mono ?_
  rintro e w1 ⟨v, n, rfl, hv, hb1⟩
  refine hK.out _ _ (fun h => by simp at h) (fun hT => ?_)
  clear hK K
  try simp only [Act.put, List.setIfInBounds_toArray, List.set_cons_zero, List.set_cons_succ]
  refine wpAnyT_take (i := 7) (v := ?_) rfl (by kernel_rfl) (fun _ _ _ h => h) (Or.inl ⟨by rfl, ?_⟩) hT (fun hT => ?_)
  rotate_left
  · intro w _; go_simp; try with_reducible rfl
  try simp only [Act.put, List.setIfInBounds_toArray, List.set_cons_zero, List.set_cons_succ]
  refine wpAnyT_take (i := 8) (v := ?_) rfl (by kernel_rfl) (fun _ _ _ h => h) (Or.inl ⟨by rfl, ?_⟩) hT (fun hT => ?_)
  rotate_left
  · intro w _; go_simp; try with_reducible rfl
  try simp only [Act.put, List.setIfInBounds_toArray, List.set_cons_zero, List.set_cons_succ]
  refine wpAnyT_take (i := 9) (v := ?_) rfl (by kernel_rfl) (fun _ _ _ h => h) (Or.inl ⟨by rfl, ?_⟩) hT (fun hT => ?_)
  rotate_left
  · intro w _; go_simp; try with_reducible rfl
  try simp only [Act.put, List.setIfInBounds_toArray, List.set_cons_zero, List.set_cons_succ]
  have h9 : w.heap.size + 1 < w0.heap.size := (Array.getElem?_eq_some_iff.1 hrow).1
  have hrow1 := (hb1.block _ h9).trans hrow
  have hbz1 := (Below.drew hbz).trans (hb1.mono (by simpa using Nat.le_of_lt (Nat.lt_of_succ_lt h9)))
  refine wpAnyT_ready (rs := [10]) (by kernel_rfl) (by simp) ?_
  refine ReadyT.cons rfl (fun K hK => ?_) ReadyT.nil
  refine step_store (by rfl) 49 (.tmp 8) (.tmp 99) (by rfl) (w.heap.size + 1) #[.int .i64 v.kind, .string v.s, .slice none 0 0] _ 49 (by rfl) (by rfl) hrow1 rfl (by kernel_rfl) (by simp [Value.oneCell']) ?_
  have hrow2 := setCells_whole [.int .i64 v.kind, .string v.s, .slice none 0 0] hrow1 rfl
  have hbz2 := setCells_below (Nat.le_succ _) [.int .i64 v.kind, .string v.s, .slice none 0 0] 0 _ hbz1
  refine hK.out _ _ (fun h => by simp at h) (fun hT => ?_)
  clear hK K
  try simp only [Act.put, List.setIfInBounds_toArray, List.set_cons_zero, List.set_cons_succ]
  refine wpAnyT_take (i := 11) (v := ?_) rfl (by kernel_rfl) (fun _ _ _ h => h) (Or.inl ⟨by rfl, ?_⟩) hT (fun hT => ?_)
  rotate_left
  · intro w _; go_simp; try with_reducible rfl
  try simp only [Act.put, List.setIfInBounds_toArray, List.set_cons_zero, List.set_cons_succ]
  refine wpAnyT_take (i := 12) (v := ?_) rfl (by kernel_rfl) (fun _ _ _ h => h) (Or.inl ⟨by rfl, ?_⟩) hT (fun hT => ?_)
  rotate_left
  · intro w _; go_simp; try with_reducible rfl
  try simp only [Act.put, List.setIfInBounds_toArray, List.set_cons_zero, List.set_cons_succ]
  refine wpAnyT_done (by kernel_rfl) ?_ _
  go_wp2_with fail
  (try simp only [Exit.inBlock, Exit.then])
  refine bodyPost_ret (results_cell3 rfl _ _ (w.heap.size + 1) _ _ _ _ rfl hrow2 Tryz.underlying49 rfl (by kernel_rfl)) rfl ?_
  refine ⟨v.kind, v.s, none, 0, 0, n, rfl, hbz2, fun d r h => ?_⟩
  obtain ⟨rfl, hk, q, hq⟩ := hv d r h
  refine ⟨rfl, rfl, ?_, q, hq⟩
  rw [hk]
  exact Rd.nil _ _
end Go.Proofs.YtlcfijkegdlfcaaGreatDoor
namespace Go.Proofs.YtlcfijkegdlfcaaGreatDoor
open Go.RowKit Go.PlainAid
set_option linter.all false
set_option linter.deprecated false
set_option maxRecDepth 100000
theorem bt_num {s : ByteArray} {k : Nat} {n : UInt8} : bt s k = (n.toNat : Int) ↔ (bl s).getD k 0 = n := by
  rw [bt_bl]
  constructor
  · intro h; exact UInt8.toNat_inj.1 (by exact_mod_cast h)
  · intro h; rw [h]
theorem encl_calls (s : ByteArray) (k g : Nat) (em li : Bool) (w : World) (hs : s.size ≤ 4294967280) (hk : k < s.size)
    (hR : ∀ e l W, Calls Tryz.prog 135 #[.agg #[.string s], .int .i64 ((k + 1 : Nat) : Int), .bool e, .bool l] W (ReadOf s (readG g ((bl s).drop (k + 1)) [] e l) W)) :
    Calls Tryz.prog 164 #[.agg #[.string s], .int .i64 k, .bool em, .bool li] w (EnclOf s (enclG (fun t e l => readG g t [] e l) ((bl s).drop k) em li) w) := by
  have hh := drop_head s k hk
  have hd : ((bl s).drop k).drop 1 = (bl s).drop (k + 1) := by rw [List.drop_drop]
  unfold enclG
  rw [hh, hd]
  by_cases h1 : (bl s).getD k 0 = 42
  · rw [if_pos (by rw [h1])]
    exact encl_star s k em li w _ hs hk (bt_num (n := 42).2 h1) (fun W => hR true li W)
  · rw [if_neg (by simpa using h1)]
    by_cases h2 : (bl s).getD k 0 = 91
    · cases li
      · rw [if_pos ⟨by rw [h2], rfl⟩]
        exact encl_link s k em w _ hs hk (bt_num (n := 91).2 h2) (fun W => hR em true W)
      · rw [if_neg (by simp), if_neg (by rw [h2]; simp)]
        exact encl_none s k em true w hs hk (fun h => h1 (bt_num (n := 42).1 h)) (fun _ => rfl) (fun h => by have := bt_num (n := 96).1 h; rw [h2] at this; cases this)
    · rw [if_neg (fun h => h2 (by simpa using h.1))]
      by_cases h3 : (bl s).getD k 0 = 96
      · rw [if_pos (by rw [h3])]
        exact encl_code s k em li w hs hk (bt_num (n := 96).2 h3)
      · rw [if_neg (by simpa using h3)]
        exact encl_none s k em li w hs hk (fun h => h1 (bt_num (n := 42).1 h)) (fun h => absurd (bt_num (n := 91).1 h) h2) (fun h => h3 (bt_num (n := 96).1 h))
theorem readG_at {s : ByteArray} {k g : Nat} {out : List Sp} {em li : Bool} (h : k < s.size) : readG (g + 1) ((bl s).drop k) out em li =
    if ((bl s).getD k 0 = 42 ∧ em = true) ∨ ((bl s).getD k 0 = 93 ∧ li = true) then (out, (bl s).drop k)
    else if (bl s).getD k 0 = 92 ∧ k + 1 < s.size ∧ markB ((bl s).getD (k + 1) 0) = true then readG g ((bl s).drop (k + 2)) (putS out [(bl s).getD (k + 1) 0]) em li
    else match enclG (fun t e l => readG g t [] e l) ((bl s).drop k) em li with
      | some x => readG g x.2 (out ++ [x.1]) em li
      | none => readG g ((bl s).drop (k + max 1 (runL 96 ((bl s).drop k)))) (putS out (((bl s).drop k).take (max 1 (runL 96 ((bl s).drop k))))) em li := by
  have hh := drop_head s k h
  have hd : ((bl s).drop k).drop 1 = (bl s).drop (k + 1) := by rw [List.drop_drop]
  have hne : (bl s).drop k ≠ [] := fun e => by rw [e] at hh; cases hh
  rw [readG, if_neg hne, hh]
  simp only [Option.some.injEq, List.drop_drop, Option.any_some]
  congr 1
  by_cases h1 : k + 1 < s.size
  · have h2 := drop_head s (k + 1) h1
    rw [h2]
    simp only [Option.any_some, h1, true_and]
    have h3 : ((bl s).drop (k + 1)).take 1 = [(bl s).getD (k + 1) 0] := by
      cases hx : (bl s).drop (k + 1) with
      | nil => rw [hx] at h2; cases h2
      | cons a t => rw [hx] at h2; injection h2 with h2; rw [← h2]; rfl
    rw [h3]
    rfl
  · have h2 : (bl s).drop (k + 1) = [] := List.drop_eq_nil_of_le (by rw [bl_len]; omega)
    rw [h2]
    simp [h1]
    rfl
theorem OwnC.lower {B B' k : Nat} {e : TypeId} {w : World} {v : Value} {ds : List D} {cells : List Value} (h : OwnC B e k w v ds cells) (hB : B' ≤ B) : OwnC B' e k w v ds cells :=
  ⟨own_lower h.1 hB, RepAll.step (fun _ _ _ => rfl) (fun _ h _ => ⟨Nat.le_trans hB h.1, h.2⟩) h.2⟩
theorem ext_bl2 (s : ByteArray) (a m : Nat) : bl (s.extract a (a + m)) = ((bl s).drop a).take m := by
  rw [mid_bl, bl_ba, List.drop_take]
  congr 1
  omega
set_option maxHeartbeats 8000000 in
theorem read_step (s : ByteArray) (F k0 : Nat) (em li : Bool) (w : World) (hs : s.size ≤ 4294967280) (hk0 : k0 ≤ s.size) (hF : s.size < k0 + F)
    (ih : ∀ g, g < F → ∀ k e l W, k ≤ s.size → s.size < k + g → Calls Tryz.prog 135 #[.agg #[.string s], .int .i64 (k : Nat), .bool e, .bool l] W (ReadOf s (readG g ((bl s).drop k) [] e l) W)) :
    Calls Tryz.prog 135 #[.agg #[.string s], .int .i64 (k0 : Nat), .bool em, .bool li] w (ReadOf s (readG F ((bl s).drop k0) [] em li) w) := by
  obtain ⟨X, hX⟩ : ∃ X, readG F ((bl s).drop k0) [] em li = X := ⟨_, rfl⟩
  rw [hX]
  have HX := Lib.hid hX
  have IH := Lib.hid ih
  clear hX ih
  have hg := get_bt s
  go_enter Tryz.func135, Tryz.ntmps135
  go_wp2_with fail
  go_loopw [1, 10] (fun v1 v10 wr => ∃ k f n c : Nat, ∃ A out cells, v1 = .int .i64 k ∧ v10 = .slice A n c ∧ k ≤ s.size ∧ s.size < k + f ∧ f ≤ F ∧ n = out.length ∧ n ≤ k ∧ Txts k out ∧ readG f ((bl s).drop k) out em li = X ∧
      OwnC (w.heap.size + 1) 49 3 wr (.slice A n c) (dSps out) cells ∧ wr.cell? ⟨w.heap.size, 0, none⟩ = some (.string s) ∧ w.heap.size + 1 ≤ wr.heap.size ∧ Below w.heap.size w wr)
    (fun v1 _ _ => s.size - (intOf v1).toNat)
  case atStart =>
    refine ⟨k0, F, 0, 0, none, [], [], rfl, rfl, hk0, hF, Nat.le_refl _, rfl, Nat.zero_le _, fun x hx => by simp at hx, HX.out, OwnC.nil _ _ _ _, ?_, by simp, (Below.refl _ _).alloc (Nat.le_refl _) _⟩
    rw [cell_of_row _ w.heap.size 0 _ _ _ (heap_alloc_new w (.cells #[.string s] 134))]; rfl
  case round =>
    clear HX hF hk0
    obtain ⟨k, f, n, c, A, out, cells, rfl, rfl, hk, hf, hfF, hn, hnk, htx, hx, hown, hc0, hl, hbz⟩ := hrel
    by_cases hlt : k < s.size
    · obtain ⟨g, rfl⟩ : ∃ g, f = g + 1 := ⟨f - 1, by omega⟩
      have hltz : (k : Int) < s.size := by omega
      rw [readG_at hlt] at hx
      have HEN := Lib.hid (fun W => encl_calls s k g em li W hs hlt (fun e l W => IH.out g (by omega) (k + 1) e l W (by omega) (by omega)))
      have hks := fun x => enclG_short (s := (bl s).drop k) (e := em) (l := li) (x := x) (fun t e l => readG_short g t [] e l)
      have hkk := fun x => enclG_kind (rd := fun t e l => readG g t [] e l) (s := (bl s).drop k) (e := em) (l := li) (x := x)
      have HKS := Lib.hid hks
      have HKK := Lib.hid hkk
      clear hks hkk
      generalize enclG (fun t e l => readG g t [] e l) ((bl s).drop k) em li = E at *
      have HP := Lib.hid (fun W => plain_calls s k W hs)
      have hrl := run_le 96 ((bl s).drop k)
      rw [List.length_drop, bl_len] at hrl
      obtain ⟨M, hM⟩ : ∃ M, max 1 (runL 96 ((bl s).drop k)) = M := ⟨_, rfl⟩
      rw [hM] at hx
      have HPM := Lib.hid (fun W => (by have := HP.out W; rw [hM] at this; exact this : Calls Tryz.prog 165 #[.agg #[.string s], .int .i64 k] W fun e w' => e = .returned (.int .i64 (M : Nat)) ∧ Below W.heap.size W w'))
      have hM1 : 1 ≤ M ∧ k + M ≤ s.size := by omega
      clear HP hrl hM
      obtain ⟨C, hC⟩ : ∃ C, (bl s).getD k 0 = C := ⟨_, rfl⟩
      rw [hC] at hx
      have HC := Lib.hid hC
      have HXX := Lib.hid hx
      have HTX := Lib.hid htx
      have HO := Lib.hid hown
      have HNL := Lib.hid hn
      clear hx htx hown hC hn
      obtain ⟨S, hS⟩ : ∃ S, decide ((C = 42 ∧ em = true) ∨ (C = 93 ∧ li = true)) = S := ⟨_, rfl⟩
      have HS := Lib.hid hS
      clear hS
      go_upto_region 4 with (fail)
      go_cut [36] (fun v wx => v = .bool S ∧ wx = wr)
      case first =>
        by_cases p1 : C = 42
        · have q1 : (bt s k == 42) = true := beq_iff_eq.2 (bt_num (n := 42).2 (HC.out.trans p1))
          have q2 : (bt s k == 93) = false := beq_eq_false_iff_ne.2 (fun h => by have := bt_num (n := 93).1 h; rw [HC.out, p1] at this; cases this)
          subst p1
          cases em
          · go_wp2
            go_meet
            case rel => exact ⟨by rw [← HS.out]; simp, rfl⟩
          · go_wp2
            go_meet
            case rel => exact ⟨by rw [← HS.out]; simp, rfl⟩
        · have q1 : (bt s k == 42) = false := beq_eq_false_iff_ne.2 (fun h => p1 (HC.out ▸ bt_num (n := 42).1 h))
          by_cases p2 : C = 93
          · have q2 : (bt s k == 93) = true := beq_iff_eq.2 (bt_num (n := 93).2 (HC.out.trans p2))
            subst p2
            cases li
            · go_wp2
              go_meet
              case rel => exact ⟨by rw [← HS.out]; simp, rfl⟩
            · go_wp2
              go_meet
              case rel => exact ⟨by rw [← HS.out]; simp, rfl⟩
          · have q2 : (bt s k == 93) = false := beq_eq_false_iff_ne.2 (fun h => p2 (HC.out ▸ bt_num (n := 93).1 h))
            go_wp2
            go_meet
            case rel => exact ⟨by rw [← HS.out]; simp [p1, p2], rfl⟩
      case rest =>
        obtain ⟨rfl, hw⟩ := hcut
        have hw := hw.symm
        subst hw
        cases S with
        | true =>
          have hst := of_decide_eq_true HS.out
          have hX := HXX.out
          rw [if_pos hst] at hX
          have HX2 := Lib.hid hX
          clear hX hst HXX
          go_wp2_with fail
          go_ret2
          have ho := HO.out.lower (Nat.le_succ _)
          exact ⟨A, n, c, cells, k, rfl, by rw [← HX2.out]; exact HNL.out, by omega, hk, by rw [← HX2.out], by rw [← HX2.out]; exact ho, hbz⟩
        | false =>
          have hst := of_decide_eq_false HS.out
          have hX := HXX.out
          rw [if_neg hst] at hX
          have HX2 := Lib.hid hX
          clear hX hst HXX
          obtain ⟨k1, hk1⟩ : ∃ k1, k1 = k + 1 := ⟨_, rfl⟩
          obtain ⟨k2, hk2⟩ : ∃ k2, k2 = k + 2 := ⟨_, rfl⟩
          have w1 : IntKind.i64.wrap ((k : Int) + 1) = (k1 : Int) := by rw [IntWalk.i64_in _ (by omega)]; omega
          have w2 : IntKind.i64.wrap ((k : Int) + 2) = (k2 : Int) := by rw [IntWalk.i64_in _ (by omega)]; omega
          have HE := Lib.hid (fun W => (by rw [bt_bl]; exact Escapes_calls _ W : Calls Tryz.prog 162 #[.int .u8 (bt s k1)] W fun e w' => e = .returned (.bool (markB ((bl s).getD k1 0))) ∧ w' = W))
          obtain ⟨MK, hMK⟩ : ∃ MK, markB ((bl s).getD k1 0) = MK := ⟨_, rfl⟩
          have HMK := Lib.hid hMK
          have HK1 := Lib.hid hk1
          have HK2 := Lib.hid hk2
          rw [hMK] at HE
          clear hMK hk1 hk2
          obtain ⟨T, hT⟩ : ∃ T, decide (C = 92 ∧ k1 < s.size ∧ MK = true) = T := ⟨_, rfl⟩
          have HT := Lib.hid hT
          clear hT
          go_upto_region 5 with (fail)
          go_cut [54] (fun v wx => v = .bool T ∧ wx = wr)
          case first =>
            by_cases p1 : C = 92
            · have q1 : (bt s k == 92) = true := beq_iff_eq.2 (bt_num (n := 92).2 (HC.out.trans p1))
              subst p1
              by_cases p2 : k1 < s.size
              · have p2z : (k1 : Int) < s.size := by omega
                go_wp2_with fail
                refine (HE.out _).mono ?_
                rintro e w' ⟨rfl, rfl⟩
                go_wp2
                go_meet
                case rel => exact ⟨by rw [← HT.out]; simp [p2], rfl⟩
              · have p2z : ¬ (k1 : Int) < s.size := by omega
                go_wp2
                go_meet
                case rel => exact ⟨by rw [← HT.out]; simp [p2], rfl⟩
            · have q1 : (bt s k == 92) = false := beq_eq_false_iff_ne.2 (fun h => p1 (HC.out ▸ bt_num (n := 92).1 h))
              go_wp2
              go_meet
              case rel => exact ⟨by rw [← HT.out]; simp [p1], rfl⟩
          case rest =>
            obtain ⟨rfl, hw⟩ := hcut
            have hw := hw.symm
            subst hw
            cases T with
            | true =>
              have hes := of_decide_eq_true HT.out
              have hX := HX2.out
              rw [if_pos (by rw [← HK1.out, HMK.out]; exact hes)] at hX
              have HX3 := Lib.hid hX
              have q1 : k1 < s.size := hes.2.1
              have hk1 := HK1.out
              have hk2 := HK2.out
              have q2 : k2 ≤ s.size := by omega
              have q1z : (k1 : Int) ≤ k2 := by omega
              have q2z : (k2 : Int) ≤ s.size := by omega
              have hex : bl (s.extract k1 k2) = [(bl s).getD (k + 1) 0] := by
                have e2 : k2 = k1 + 1 := by omega
                have h2 := drop_head s k1 q1
                rw [e2, ext_bl2]
                cases hx : (bl s).drop k1 with
                | nil => rw [hx] at h2; cases h2
                | cons a t => rw [hx] at h2; injection h2 with h2; rw [← hk1, ← h2]; rfl
              have hsz : (s.extract k1 k2).size ≤ 4294967296 := by rw [← bl_len, hex]; simp
              have HPUT := Lib.hid (put_calls (.slice A n c) out cells (s.extract k1 k2) (w.heap.size + 1) wr HO.out hl (by have := HNL.out; omega) (HTX.out.mono (by omega)) hsz)
              have HEX := Lib.hid hex
              clear hX hes HX2 HT hk1 hk2 hex hsz HE
              obtain ⟨TT, hTT⟩ : ∃ TT, s.extract k1 k2 = TT := ⟨_, rfl⟩
              rw [hTT] at HPUT HEX
              go_wp2_with fail
              refine HPUT.out.mono ?_
              rintro e w3 ⟨v', cells', rfl, hown3, hb3⟩
              obtain ⟨A3, c3, rfl⟩ := hown3.slice
              have hc3 := below_at' hb3 (Nat.lt_succ_self _) hc0
              have hl3 := Nat.le_trans hl hb3.size
              have hbz3 := hbz.trans (hb3.mono (Nat.le_succ _))
              rw [HEX.out] at hown3
              have HO3 := Lib.hid hown3
              clear hown3 hb3 hc0 hl hbz HPUT
              go_wp2_with fail
              go_roundw
              case rel =>
                have e1 : bl TT = [(bl s).getD (k + 1) 0] := HEX.out
                have h2 := HK2.out
                refine ⟨k2, g, _, c3, A3, putS out [(bl s).getD (k + 1) 0], cells', rfl, rfl, q2, by omega, by omega, by rw [dSps_len, ← e1], ?_, ?_, by rw [h2]; exact HX3.out, ?_, hc3, hl3, hbz3⟩
                · rw [dSps_len, e1]
                  have := putS_len out [(bl s).getD (k + 1) 0]
                  have := HNL.out
                  omega
                · exact HTX.out.put (by simp; omega)
                · have := HO3.out
                  simpa [e1] using this
              case measure => have := HK2.out; simp [intOf]; omega
            | false =>
              have hes := of_decide_eq_false HT.out
              have hX := HX2.out
              rw [if_neg (by rw [← HK1.out, HMK.out]; exact hes)] at hX
              have HX3 := Lib.hid hX
              clear hX hes HX2 HT HE HMK HK1 HK2 w1 w2
              cases E with
              | some x =>
                simp only at HX3
                go_wp2_with fail
                refine (HEN.out _).mono ?_
                rintro e w3 ⟨z, t, A3, n3, c3, m3, rfl, hb3, hres⟩
                obtain ⟨hz, ht, hkd, q, hm3, hqs, hqd⟩ := hres x.1 x.2 rfl
                obtain rfl := hm3
                have hc3 := below_at' hb3 (Nat.lt_of_lt_of_le (Nat.lt_succ_self _) hl) hc0
                have hl3 := Nat.le_trans hl hb3.size
                have hbz3 := below_to hbz hbz.size hb3
                have hzk : z ≠ 1 := by rw [hz]; exact HKK.out x rfl
                have hqk : k < q := by
                  have := HKS.out x rfl
                  rw [← hqd, List.length_drop, List.length_drop, bl_len] at this
                  omega
                have HO3 := Lib.hid (HO.out.below hb3)
                have HRD := Lib.hid ((HO.out.off (d := .sl (dSps x.1.kids)) hl (Nat.le_refl _) hkd))
                have HZ := Lib.hid hz
                have HTT := Lib.hid ht
                have HQD := Lib.hid hqd
                have hbA := (Below.refl w3.heap.size w3).alloc (Nat.le_refl _) (.cells #[.int .i64 z, .string t, .slice A3 n3 c3] 49)
                have hcA := below_at' hbA (Nat.lt_of_lt_of_le (Nat.lt_succ_self _) hl3) hc3
                have hlA := Nat.le_trans hl3 hbA.size
                have hbzA := below_to hbz3 hbz3.size hbA
                have HOA := Lib.hid (HO3.out.below hbA)
                have HRA := Lib.hid (Rep.step (fun k _ hk => hbA.block k hk) (fun _ h _ => h) HRD.out)
                have hzo := HOA.out.1
                rw [dSps_len] at hzo
                have HZO := Lib.hid hzo
                have hnb : (out.length + 1) * 48 ≤ 140737488355328 := by have := HNL.out; omega
                have HK := Lib.hid (HKK.out x rfl)
                have hnn := HNL.out
                subst hnn
                clear hz ht hqd hkd hres hb3 hl hbz hc0 HEN HKS HKK HPM HC HO hzo hbA hc3 hl3 hbz3 HO3 HRD
                go_wp2_with (at_builtin; go_must (refine app_one (w0 := w3.alloc (.cells #[.int .i64 z, .string t, .slice A3 n3 c3] 49)) (w.heap.size + 1) rfl _ _ 34 49 rfl Tryz.underlying34 infoSp rfl (by decide) (by decide) [.int .i64 z, .string t, .slice A3 n3 c3] rfl (by rw [World.size_alloc]; rfl) rfl (by simp [Value.oneCell']) (by exact HZO.out) (Below.refl _ _) hlA hnb ?_); intro v' w7 hown' hbe' hgr hat; obtain ⟨A', c', hv'⟩ := own_slice hown'; subst hv')
                go_roundw
                case rel =>
                  have hlq : (out ++ [x.1]).length = out.length + 1 := by simp
                  refine ⟨q, g, _, c', A', out ++ [x.1], cells ++ [.int .i64 z, .string t, .slice A3 n3 c3], rfl, rfl, hqs, by omega, by omega, hlq.symm, by omega, (HTX.out.mono (by omega)).snoc HK.out, by rw [HQD.out]; exact HX3.out, ?_, below_at' hbe' (Nat.lt_succ_self _) hcA, Nat.le_trans hlA hbe'.size, hbzA.trans (hbe'.mono (Nat.le_succ _))⟩
                  rw [dSps_app]
                  have hd1 : dSps [x.1] = [dSp x.1] := by simp [dSps]
                  rw [hd1]
                  refine OwnC.snoc (d := dSp x.1) HOA.out ?_ (by rw [dSps_len]; exact hown') hgr hat
                  have hsp := rep_span (x := x.1) HRA.out
                  rw [← HZ.out, ← HTT.out] at hsp
                  exact hsp
                case measure => simp [intOf]; omega
              | none =>
                simp only at HX3
                go_wp2_with fail
                refine (HEN.out _).mono ?_
                rintro e w3 ⟨z, t, A3, n3, c3, m3, rfl, hb3, hres⟩
                have hc3 := below_at' hb3 (Nat.lt_of_lt_of_le (Nat.lt_succ_self _) hl) hc0
                have hl3 := Nat.le_trans hl hb3.size
                have hbz3 := below_to hbz hbz.size hb3
                have HO3' := Lib.hid (HO.out.below hb3)
                have hbA := (Below.refl w3.heap.size w3).alloc (Nat.le_refl _) (.cells #[.int .i64 z, .string t, .slice A3 n3 c3] 49)
                have hcA := below_at' hbA (Nat.lt_of_lt_of_le (Nat.lt_succ_self _) hl3) hc3
                have hlA := Nat.le_trans hl3 hbA.size
                have hbzA := below_to hbz3 hbz3.size hbA
                have HO3 := Lib.hid (HO3'.out.below hbA)
                clear hres hb3 hl hbz hc0 HEN HKS HKK HC HO hbA hc3 hl3 hbz3 HO3'
                obtain ⟨kM, hkM⟩ : ∃ kM, kM = k + M := ⟨_, rfl⟩
                have w5 : IntKind.i64.wrap ((k : Int) + M) = (kM : Int) := by rw [IntWalk.i64_in _ (by omega)]; omega
                have hex : bl (s.extract k kM) = ((bl s).drop k).take M := by rw [hkM, ext_bl2]
                have q1z : (k : Int) ≤ kM := by omega
                have q2z : (kM : Int) ≤ s.size := by omega
                have hkk : kM ≤ s.size ∧ k < kM ∧ kM = k + M := by omega
                obtain ⟨TT, hTT⟩ : ∃ TT, s.extract k kM = TT := ⟨_, rfl⟩
                rw [hTT] at hex
                have hts : TT.size = M := by rw [← bl_len, hex, List.length_take, List.length_drop, bl_len]; omega
                have HEX := Lib.hid hex
                have HTS := Lib.hid hts
                have HKM := Lib.hid hkk
                clear hex hts hkk hkM
                go_wp2_with fail
                refine (HPM.out _).mono ?_
                rintro e w4 ⟨rfl, hb4⟩
                have hc4 := below_at' hb4 (Nat.lt_of_lt_of_le (Nat.lt_succ_self _) hlA) hcA
                have hl4 := Nat.le_trans hlA hb4.size
                have hbz4 := below_to hbzA hbzA.size hb4
                have HO4 := Lib.hid (HO3.out.below hb4)
                clear hb4 hlA hbzA hcA HPM HO3
                have HPUT := Lib.hid (put_calls (.slice A n c) out cells TT (w.heap.size + 1) w4 HO4.out hl4 (by have := HNL.out; omega) (HTX.out.mono (by omega)) (by have := HTS.out; omega))
                rw [HEX.out] at HPUT
                go_wp2_with fail
                refine HPUT.out.mono ?_
                rintro e w5 ⟨v', cells', rfl, hown5, hb5⟩
                obtain ⟨A5, c5, rfl⟩ := hown5.slice
                have hc5 := below_at' hb5 (Nat.lt_succ_self _) hc4
                have hl5 := Nat.le_trans hl4 hb5.size
                have hbz5 := hbz4.trans (hb5.mono (Nat.le_succ _))
                have HO5 := Lib.hid hown5
                clear hown5 hb5 hc4 hl4 hbz4 HPUT HO4
                go_wp2_with fail
                go_roundw
                case rel =>
                  have h2 := HKM.out
                  have h3 : (((bl s).drop k).take M).length = M := by rw [← HEX.out, bl_len, HTS.out]
                  refine ⟨kM, g, _, c5, A5, putS out (((bl s).drop k).take M), cells', rfl, rfl, h2.1, by omega, by omega, by rw [dSps_len], ?_, ?_, by rw [h2.2.2]; exact HX3.out, HO5.out, hc5, hl5, hbz5⟩
                  · rw [dSps_len]
                    have := putS_len out (((bl s).drop k).take M)
                    have := HNL.out
                    omega
                  · exact HTX.out.put (by omega)
                case measure => have := HKM.out; simp [intOf]; omega
    · have hltz : ¬ (k : Int) < s.size := by omega
      have hdr : (bl s).drop k = [] := List.drop_eq_nil_of_le (by rw [bl_len]; omega)
      have hX : (out, (bl s).drop k) = X := by
        rw [← hx]
        obtain ⟨g, rfl⟩ : ∃ g, f = g + 1 := ⟨f - 1, by omega⟩
        rw [hdr, readG, if_pos rfl]
      subst hX
      have ho := hown.lower (Nat.le_succ _)
      have HN := Lib.hid hn
      clear hx hown hn
      go_wp2_with fail
      go_ret2
      exact ⟨A, n, c, cells, k, rfl, HN.out, by omega, hk, by first | rfl | exact hdr, ho, hbz⟩
theorem read_calls (s : ByteArray) (hs : s.size ≤ 4294967280) : ∀ F k0 em li w, k0 ≤ s.size → s.size < k0 + F →
    Calls Tryz.prog 135 #[.agg #[.string s], .int .i64 (k0 : Nat), .bool em, .bool li] w (ReadOf s (readG F ((bl s).drop k0) [] em li) w) := by
  intro F
  induction F using Nat.strongRecOn with
  | ind F ih => exact fun k0 em li w hk hF => read_step s F k0 em li w hs hk hF (fun g hg k e l W hk hF => ih g hg k e l W hk hF)
set_option maxHeartbeats 2000000 in
theorem IParse_calls (s : ByteArray) (w : World) (hs : s.size ≤ 4294967280) :
    Calls Tryz.prog 106 #[.string s] w fun e w' => ∃ A n c cells, e = .returned (.slice A n c) ∧ n = (spansL (bl s)).length ∧ n ≤ s.size ∧ OwnC w.heap.size 49 3 w' (.slice A n c) (dSps (spansL (bl s))) cells ∧ Below w.heap.size w w' := by
  have H := fun W => read_calls s hs (s.size + 1) 0 false false W (Nat.zero_le _) (by omega)
  have e : readG (s.size + 1) ((bl s).drop 0) [] false false = readG ((bl s).length + 1) (bl s) [] false false := by rw [bl_len, List.drop_zero]
  rw [e] at H
  unfold spansL
  generalize readG ((bl s).length + 1) (bl s) [] false false = X at *
  have HR := Lib.hid H
  clear H e
  go_enter Tryz.func106, Tryz.ntmps106
  go_wp2_with fail
  refine (HR.out _).mono ?_
  rintro e w1 ⟨A, n, c, cells, k, rfl, hn, hns, hk, hd, ho, hb⟩
  have HO := Lib.hid ho
  have HN := Lib.hid hn
  clear ho hd hn
  go_wp2_with fail
  go_ret
  exact ⟨A, n, c, cells, rfl, HN.out, hns, HO.out, hb⟩
end Go.Proofs.YtlcfijkegdlfcaaGreatDoor
