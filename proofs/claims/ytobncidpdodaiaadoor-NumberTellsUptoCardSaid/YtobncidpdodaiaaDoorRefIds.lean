/- The walk of the document's Ids (layer 3). -/
import Derived.Test.YtobncidpdodaiaaDoorTexts
import Derived.Test.YtobncidpdodaiaaDoorMany
import Derived.Laws.Cover1
import Derived.Deep.DeepCutAuto
/- The walks of the document's at, put (layer 3). -/
namespace Go.Proofs.YtobncidpdodaiaaDoor
open Go.RowKit Go.PlainAid
set_option linter.all false
set_option linter.deprecated false
set_option maxRecDepth 100000
theorem tw_lt {α : Type} {p : α → Bool} : ∀ (l : List α) (k : Nat), k < (l.takeWhile p).length → ∃ h : k < l.length, p l[k] = true
  | [], k, h => by simp at h
  | x :: l, k, h => by
    rw [List.takeWhile_cons] at h
    by_cases hp : p x = true
    · rw [if_pos hp] at h
      cases k with
      | zero => exact ⟨by simp, hp⟩
      | succ k =>
        obtain ⟨h1, h2⟩ := tw_lt l k (by simpa using h)
        exact ⟨by simp; omega, h2⟩
    · rw [if_neg hp] at h; simp at h
theorem tw_end {α : Type} {p : α → Bool} : ∀ (l : List α), (l.takeWhile p).length = l.length ∨ ∃ h : (l.takeWhile p).length < l.length, p l[(l.takeWhile p).length] = false
  | [] => .inl rfl
  | x :: l => by
    by_cases hp : p x = true
    · rw [List.takeWhile_cons, if_pos hp]
      rcases tw_end (p := p) l with h | ⟨h1, h2⟩
      · exact .inl (by simp [h])
      · exact .inr ⟨by simp; omega, h2⟩
    · right
      rw [List.takeWhile_cons, if_neg hp]
      exact ⟨by simp, by simpa using hp⟩
/-- How many texts stand ahead of one. -/
def atP (l : List ByteArray) (s : ByteArray) : Nat := (l.takeWhile fun x : ByteArray => Op.bytesLess x.toList s.toList).length
theorem atP_le (l : List ByteArray) (s : ByteArray) : atP l s ≤ l.length := by
  unfold atP
  rcases tw_end (p := fun x : ByteArray => Op.bytesLess x.toList s.toList) l with h | ⟨h, _⟩ <;> omega
set_option maxHeartbeats 1000000 in
theorem RefAt_calls {ok : Nat → Prop} (v : Value) (l : List ByteArray) (s : ByteArray) (w : World) (h : Rd ok w v (l.map D.str)) :
    Calls Tryd.prog 28 #[v, .string s] w fun e w' => e = .returned (.int .i64 (atP l s)) ∧ w = w' := by
  obtain ⟨A, c, rfl, hc, hm⟩ := h.form
  rw [List.length_map] at *
  have hle := atP_le l s
  have h1 := fun k (hk : k < atP l s) => tw_lt (p := fun x : ByteArray => Op.bytesLess x.toList s.toList) l k hk
  have h2 := tw_end (p := fun x : ByteArray => Op.bytesLess x.toList s.toList) l
  have H := Lib.hid h
  have H1 := Lib.hid h1
  have H2 := Lib.hid h2
  change Hid (atP l s = l.length ∨ ∃ h : atP l s < l.length, Op.bytesLess l[atP l s].toList s.toList = false) at H2
  clear h h1 h2
  generalize atP l s = N at *
  go_enter Tryd.func28, Tryd.ntmps28
  go_wp2
  go_loopw [5] (fun vk wr => ∃ k : Nat, k ≤ N ∧ vk = .int .i64 k ∧ w = wr) (fun vk _ => N - (intOf vk).toNat)
  case atStart => exact ⟨0, Nat.zero_le _, rfl, rfl⟩
  case round =>
    obtain ⟨k, hk, rfl, rfl⟩ := hrel
    by_cases hlt : k < N
    · obtain ⟨hl, hp⟩ := H1.out k hlt
      have hp : Op.bytesLess l[k].toList s.toList = true := hp
      obtain ⟨b, o, rfl, _, _, hcell⟩ := H.out.str_cell hl
      have t1 : decide (k < l.length) = true := decide_eq_true hl
      generalize l[k] = x at *
      go_wp2
      go_roundw
      case rel => exact ⟨k + 1, by omega, by go_num, trivial⟩
      case measure => simp [intOf]; omega
    · have hkn : k = N := by omega
      rcases H2.out with h | ⟨hl, hp⟩
      · have t1 : decide (k < l.length) = false := decide_eq_false (by omega)
        have HKN := Lib.hid hkn
        clear hkn h
        go_wp2
        go_ret
        exact ⟨ret_int (by rw [HKN.out]), rfl⟩
      · obtain ⟨b, o, rfl, _, _, hcell⟩ := H.out.str_cell hl
        subst hkn
        have t1 : decide (k < l.length) = true := decide_eq_true hl
        generalize l[k] = x at *
        go_wp2
        go_ret
        exact ⟨rfl, rfl⟩
/-- Into a list that rises, once. -/
def putL (l : List ByteArray) (s : ByteArray) : List ByteArray := if l[atP l s]? = some s then l else l.take (atP l s) ++ s :: l.drop (atP l s)
theorem putL_len (l : List ByteArray) (s : ByteArray) : (putL l s).length ≤ l.length + 1 := by
  unfold putL
  split
  · omega
  · simp; omega
theorem add_at (b o j : Nat) : (⟨b, o, none⟩ : Addr).add j = ⟨b, o + j, none⟩ := by unfold Addr.add; split <;> simp_all
/-- Texts come. -/
def TextsOf (l : List ByteArray) (w : World) (e : Ending) (w' : World) : Prop := ∃ v, e = .returned v ∧ Rd (· < w'.heap.size) w' v (l.map D.str) ∧ Below w.heap.size w w'
theorem infoStrR : (Tryd.prog.info? 9).map (fun i => (i.zero, i.size, i.bytes)) = some (some (.string ByteArray.empty), 1, 16) := by kernel_rfl
theorem str_news' {ok : Nat → Prop} {w W : World} {A : Option Addr} {n c : Nat} {ss : List ByteArray} (hr : Rd ok w (.slice A n c) (ss.map D.str)) (hW : ∀ k, ok k → k < w.heap.size → W.heap[k]? = w.heap[k]?) :
    (ss.map Value.string).length = n * 1 ∧ (A = none → c = 0) ∧ (0 < n → ∃ k o, A = some ⟨k, o, none⟩ ∧ ∀ j u, (ss.map Value.string)[j]? = some u → W.cell? ⟨k, o + j, none⟩ = some u) := by
  have hc : Rd ok W (.slice A n c) (ss.map D.str) := hr.step hW (fun _ h _ => h)
  have hl := (rd_strs hc).1
  refine ⟨by rw [List.length_map, hl, Nat.mul_one], fun e => by subst e; exact hc.nocap, fun h0 => ?_⟩
  obtain ⟨k, o, hA, _, _, hcell⟩ := hc.strs (by omega)
  refine ⟨k, o, hA, fun j u hj => ?_⟩
  rw [List.getElem?_map] at hj
  have hlt : j < ss.length := by
    rcases Nat.lt_or_ge j ss.length with h | h
    · exact h
    · rw [List.getElem?_eq_none h] at hj; cases hj
  rw [hcell j hlt]
  rw [List.getElem?_eq_getElem hlt] at hj
  simp at hj
  rw [← hj]
  simp [hlt]
theorem cut_strs {ok : Nat → Prop} {w : World} {A : Option Addr} {n c : Nat} {l : List ByteArray} (h : Rd ok w (.slice A n c) (l.map D.str)) {a b : Nat} (hab : a ≤ b) (hb : b ≤ n) :
    Rd ok w (.slice (if c = a then A else A.map (·.add a)) (b - a) (c - a)) (((l.take b).drop a).map D.str) := by
  have := h.cut (k := 1) (fun d hd => by obtain ⟨x, _, rfl⟩ := List.mem_map.1 hd; rfl) hab hb
  rw [Nat.mul_one] at this
  rw [List.map_drop, List.map_take]
  exact this
set_option maxHeartbeats 4000000 in
theorem RefPut_calls (v : Value) (l : List ByteArray) (s : ByteArray) (w : World) (h : Rd (· < w.heap.size) w v (l.map D.str)) (hn : l.length ≤ 2097152) :
    Calls Tryd.prog 27 #[v, .string s] w (TextsOf (putL l s) w) := by
  obtain ⟨A, c, rfl, hc, hm⟩ := h.form
  rw [List.length_map] at *
  have hAt := RefAt_calls _ l s w h
  have hle := atP_le l s
  have hdef : putL l s = if l[atP l s]? = some s then l else l.take (atP l s) ++ s :: l.drop (atP l s) := rfl
  have hcell := fun (hk : atP l s < l.length) => h.str_cell hk
  have hct := cut_strs h (Nat.zero_le (atP l s)) hle
  have hcd := cut_strs h hle (Nat.le_refl l.length)
  rw [List.drop_zero, Nat.sub_zero, Nat.sub_zero] at hct
  rw [List.take_length] at hcd
  have eA : (if c = 0 then A else A.map (·.add 0)) = A := by
    split
    · rfl
    · cases A with
      | none => rfl
      | some x => simp [Addr.add]
  rw [eA] at hct
  have HA := Lib.hid hAt
  have HCT := Lib.hid hct
  have HCD := Lib.hid hcd
  have H := Lib.hid h
  clear hAt hct hcd h eA
  generalize atP l s = K at *
  by_cases hin : ∃ h : K < l.length, l[K] = s
  · obtain ⟨hK, hs⟩ := hin
    have hdd : putL l s = l := by rw [hdef, if_pos (by rw [List.getElem?_eq_getElem hK, hs])]
    obtain ⟨b, o, rfl, _, _, hcl⟩ := hcell hK
    rw [hs] at hcl
    have t1 : decide (K < l.length) = true := decide_eq_true hK
    have bq := beq_t (rfl : s = s)
    have HD := Lib.hid hdd
    clear hdef hcell hs hdd
    go_enter Tryd.func27, Tryd.ntmps27
    go_wp2_with fail
    refine HA.out.mono ?_
    rintro e w1 ⟨rfl, rfl⟩
    go_wp2_with fail
    go_ret
    exact ⟨_, rfl, by rw [HD.out]; exact H.out, Below.refl _ _⟩
  · have hdd : putL l s = (l.take K ++ [s]) ++ l.drop K := by
      rw [hdef, if_neg (fun e => hin (by
        obtain ⟨hK, he⟩ := List.getElem?_eq_some_iff.1 e
        exact ⟨hK, he⟩)), List.append_assoc]; rfl
    have HD := Lib.hid hdd
    obtain ⟨m1, m2, m3⟩ := str_news' (W := w) HCT.out (fun _ _ _ => rfl)
    have hlt : (l.take K).length = K := by rw [List.length_take]; omega
    have hld : (l.drop K).length = l.length - K := List.length_drop
    have HLT := Lib.hid hlt
    have HLD := Lib.hid hld
    have HM3 := Lib.hid m3
    have fin : ∀ (b : Bool) , True := fun _ => trivial
    by_cases hK : K < l.length
    · obtain ⟨b, o, rfl, _, _, hcl⟩ := hcell hK
      have t1 : decide (K < l.length) = true := decide_eq_true hK
      have bq := beq_f (fun e => hin ⟨hK, e⟩ : ¬ l[K] = s)
      have ck : ¬ c = K := by omega
      have HK := Lib.hid hK
      clear hdef hcell hin hdd hlt hld m3 fin
      generalize l[K] = x at *
      go_enter Tryd.func27, Tryd.ntmps27
      go_wp2_with fail
      refine HA.out.mono ?_
      rintro e w1 ⟨rfl, rfl⟩
      go_upto_region 6 with (at_builtin; go_must (refine app_many w.heap.size rfl _ _ 22 9 rfl Tryd.underlying22 infoStrR rfl (by decide) (by decide) ((l.take K).map Value.string) rfl rfl m1 (fun u hu => by obtain ⟨x, _, rfl⟩ := List.mem_map.1 hu; rfl) m2 HM3.out (World.ownsRow_nil _ _ _ _) (Nat.le_refl _) (by omega) ?_); intro v1 w1 ho1 hb1)
      rw [Nat.zero_add, List.nil_append] at ho1
      go_upto_region 7 with (at_builtin; go_must (refine app_one (w0 := w) w.heap.size rfl _ _ 22 9 rfl Tryd.underlying22 infoStrR rfl (by decide) (by decide) [.string s] rfl rfl rfl (by simp [Value.oneCell']) (by exact ho1) hb1 hb1.size (by omega) ?_); intro v2 w2 ho2 hb2 _ _)
      have hb2' : Below w.heap.size w w2 := hb2
      obtain ⟨n1, n2, n3⟩ := str_news' (W := w2) HCD.out (fun k hk _ => hb2.block k hk)
      rw [if_neg ck] at n2 n3
      simp only [Option.map_some, add_at] at n2 n3
      have HN3 := Lib.hid n3
      clear n3
      go_wp2_with (at_builtin; go_must (refine app_many w.heap.size rfl _ _ 22 9 rfl Tryd.underlying22 infoStrR rfl (by decide) (by decide) ((l.drop K).map Value.string) rfl rfl (by exact n1) (fun u hu => by obtain ⟨x, _, rfl⟩ := List.mem_map.1 hu; rfl) (by exact n2) (by exact HN3.out) (by exact ho2) hb2.size (by omega) ?_); intro v3 w3 ho3 hb3)
      have ho4 : w3.ownsRow w.heap.size 9 1 v3 (((l.take K ++ [s]) ++ l.drop K).length) (((l.take K ++ [s]) ++ l.drop K).map Value.string) := by
        have e : ((l.take K ++ [s]) ++ l.drop K).length = K + 1 + (l.length - K) := by rw [List.length_append, List.length_append, HLT.out, HLD.out]; rfl
        rw [e, List.map_append, List.map_append]; exact ho3
      have hr := rd_row ho4 rfl (Below.refl _ _)
      have HR := Lib.hid hr
      clear ho1 ho2 ho3 ho4 hr
      go_ret
      exact ⟨_, rfl, by rw [HD.out]; exact HR.out, hb2.trans hb3⟩
    · have t1 : decide (K < l.length) = false := decide_eq_false hK
      have HK := Lib.hid hK
      clear hdef hcell hin hdd hlt hld m3 fin
      by_cases ck : c = K
      · obtain rfl : K = c := ck.symm
        go_enter Tryd.func27, Tryd.ntmps27
        go_wp2_with fail
        refine HA.out.mono ?_
        rintro e w1 ⟨rfl, rfl⟩
        go_upto_region 6 with (at_builtin; go_must (refine app_many w.heap.size rfl _ _ 22 9 rfl Tryd.underlying22 infoStrR rfl (by decide) (by decide) ((l.take K).map Value.string) rfl rfl m1 (fun u hu => by obtain ⟨x, _, rfl⟩ := List.mem_map.1 hu; rfl) m2 HM3.out (World.ownsRow_nil _ _ _ _) (Nat.le_refl _) (by omega) ?_); intro v1 w1 ho1 hb1)
        rw [Nat.zero_add, List.nil_append] at ho1
        go_upto_region 7 with (at_builtin; go_must (refine app_one (w0 := w) w.heap.size rfl _ _ 22 9 rfl Tryd.underlying22 infoStrR rfl (by decide) (by decide) [.string s] rfl rfl rfl (by simp [Value.oneCell']) (by exact ho1) hb1 hb1.size (by omega) ?_); intro v2 w2 ho2 hb2 _ _)
        have hb2' : Below w.heap.size w w2 := hb2
        obtain ⟨n1, n2, n3⟩ := str_news' (W := w2) HCD.out (fun k hk _ => hb2.block k hk)
        have e0 : l.length - K = 0 := by omega
        rw [e0] at n1
        clear n3 n2 e0
        go_wp2_with (at_builtin; go_must (refine app_many w.heap.size rfl _ _ 22 9 rfl Tryd.underlying22 infoStrR rfl (by decide) (by decide) ((l.drop K).map Value.string) rfl rfl (by exact n1) (fun u hu => by obtain ⟨x, _, rfl⟩ := List.mem_map.1 hu; rfl) (fun _ => by omega) (fun h => absurd h (Nat.lt_irrefl 0)) (by exact ho2) hb2.size (by omega) ?_); intro v3 w3 ho3 hb3)
        have ho4 : w3.ownsRow w.heap.size 9 1 v3 (((l.take K ++ [s]) ++ l.drop K).length) (((l.take K ++ [s]) ++ l.drop K).map Value.string) := by
          have e : ((l.take K ++ [s]) ++ l.drop K).length = K + 1 + 0 := by rw [List.length_append, List.length_append, HLT.out, HLD.out]; simp; omega
          rw [e, List.map_append, List.map_append]; exact ho3
        have hr := rd_row ho4 rfl (Below.refl _ _)
        have HR := Lib.hid hr
        clear ho1 ho2 ho3 ho4 hr
        go_ret
        exact ⟨_, rfl, by rw [HD.out]; exact HR.out, hb2.trans hb3⟩
      · clear hK
        go_enter Tryd.func27, Tryd.ntmps27
        go_wp2_with fail
        refine HA.out.mono ?_
        rintro e w1 ⟨rfl, rfl⟩
        go_upto_region 6 with (at_builtin; go_must (refine app_many w.heap.size rfl _ _ 22 9 rfl Tryd.underlying22 infoStrR rfl (by decide) (by decide) ((l.take K).map Value.string) rfl rfl m1 (fun u hu => by obtain ⟨x, _, rfl⟩ := List.mem_map.1 hu; rfl) m2 HM3.out (World.ownsRow_nil _ _ _ _) (Nat.le_refl _) (by omega) ?_); intro v1 w1 ho1 hb1)
        rw [Nat.zero_add, List.nil_append] at ho1
        go_upto_region 7 with (at_builtin; go_must (refine app_one (w0 := w) w.heap.size rfl _ _ 22 9 rfl Tryd.underlying22 infoStrR rfl (by decide) (by decide) [.string s] rfl rfl rfl (by simp [Value.oneCell']) (by exact ho1) hb1 hb1.size (by omega) ?_); intro v2 w2 ho2 hb2 _ _)
        have hb2' : Below w.heap.size w w2 := hb2
        obtain ⟨n1, n2, n3⟩ := str_news' (W := w2) HCD.out (fun k hk _ => hb2.block k hk)
        rw [if_neg ck] at n2 n3
        have HN3 := Lib.hid n3
        clear n3
        go_wp2_with (at_builtin; go_must (refine app_many w.heap.size rfl _ _ 22 9 rfl Tryd.underlying22 infoStrR rfl (by decide) (by decide) ((l.drop K).map Value.string) rfl rfl (by exact n1) (fun u hu => by obtain ⟨x, _, rfl⟩ := List.mem_map.1 hu; rfl) (by exact n2) (by exact HN3.out) (by exact ho2) hb2.size (by omega) ?_); intro v3 w3 ho3 hb3)
        have ho4 : w3.ownsRow w.heap.size 9 1 v3 (((l.take K ++ [s]) ++ l.drop K).length) (((l.take K ++ [s]) ++ l.drop K).map Value.string) := by
          have e : ((l.take K ++ [s]) ++ l.drop K).length = K + 1 + (l.length - K) := by rw [List.length_append, List.length_append, HLT.out, HLD.out]; rfl
          rw [e, List.map_append, List.map_append]; exact ho3
        have hr := rd_row ho4 rfl (Below.refl _ _)
        have HR := Lib.hid hr
        clear ho1 ho2 ho3 ho4 hr
        go_ret
        exact ⟨_, rfl, by rw [HD.out]; exact HR.out, hb2.trans hb3⟩
end Go.Proofs.YtobncidpdodaiaaDoor
namespace Go.Proofs.YtobncidpdodaiaaDoor
open Go.RowKit Go.PlainAid
set_option linter.all false
set_option linter.deprecated false
set_option maxRecDepth 100000
/-- Texts of a list put in, one by one. -/
def putsL (a : List ByteArray) (l : List ByteArray) : List ByteArray := a.foldl putL l
theorem putsL_len (a : List ByteArray) : ∀ l, (putsL a l).length ≤ l.length + a.length := by
  induction a with
  | nil => intro l; exact Nat.le_refl _
  | cons x a ih =>
    intro l
    have := ih (putL l x)
    have h := putL_len l x
    unfold putsL at this ⊢
    rw [List.foldl_cons, List.length_cons]
    omega
theorem putsL_take {a : List ByteArray} {i : Nat} (hi : i < a.length) (l : List ByteArray) : putsL (a.take (i + 1)) l = putL (putsL (a.take i) l) a[i] := by
  rw [List.take_succ_eq_append_getElem hi]
  unfold putsL
  rw [List.foldl_append]; rfl
/-- All texts of both, as they rise. -/
def allL (a b : List ByteArray) : List ByteArray := putsL b (putsL a [])
/-- Numbers come. -/
def NumsAre (zs : List Int) (w : World) (e : Ending) (w' : World) : Prop := ∃ v, e = .returned v ∧ Rd (· < w'.heap.size) w' v (zs.map (D.int .i64)) ∧ Below w.heap.size w w'
theorem infoIntR : (Tryd.prog.info? 3).map (fun i => (i.zero, i.size, i.bytes)) = some (some (.int .i64 0), 1, 8) := by kernel_rfl
set_option maxHeartbeats 4000000 in
theorem RefIds_calls (va vb : Value) (a b : List ByteArray) (w : World) (hA : Rd (· < w.heap.size) w va (a.map D.str)) (hB : Rd (· < w.heap.size) w vb (b.map D.str)) (la : a.length ≤ 1048576) (lb : b.length ≤ 1048576) :
    Calls Tryd.prog 15 #[va, vb] w (NumsAre (a.map fun s => ((atP (allL a b) s : Nat) : Int)) w) := by
  obtain ⟨A, ca, rfl, hca, _⟩ := hA.form
  obtain ⟨B, cb, rfl, hcb, _⟩ := hB.form
  rw [List.length_map] at *
  rw [List.length_map] at *
  have HA := Lib.hid hA
  have HB := Lib.hid hB
  clear hA hB
  go_enter Tryd.func15, Tryd.ntmps15
  go_wp2_with fail
  go_loopw [5, 12] (fun vo vi wr => ∃ i : Nat, i ≤ a.length ∧ vi = .int .i64 i ∧ Hid (Rd (· < wr.heap.size) wr vo ((putsL (a.take i) []).map D.str)) ∧ Below w.heap.size w wr) (fun _ vi _ => a.length - (intOf vi).toNat)
  case atStart => exact ⟨0, Nat.zero_le _, rfl, Lib.hid (by simpa [putsL] using Rd.nil _ _), Below.refl _ _⟩
  case round =>
    obtain ⟨i, hi, rfl, hr, hbr⟩ := hrel
    by_cases hlt : i < a.length
    · have hAr := HA.out.lt_below hbr
      obtain ⟨bb, o, rfl, _, _, hcell⟩ := hAr.str_cell hlt
      have hln := putsL_len (a.take i) []
      rw [List.length_take, List.length_nil, Nat.zero_add] at hln
      obtain ⟨V, cV, rfl, _, _⟩ := hr.out.form
      rw [List.length_map] at *
      have hp := RefPut_calls _ (putsL (a.take i) []) a[i] wr hr.out (by omega)
      rw [← putsL_take hlt] at hp
      have HPU := Lib.hid hp
      generalize a[i] = s at *
      clear hp hr hAr
      go_wp2_with fail
      refine HPU.out.mono ?_
      rintro e w1 ⟨v1, rfl, r1, b1⟩
      have R1 := Lib.hid r1
      clear r1
      go_wp2_with fail
      go_roundw
      case rel => exact ⟨i + 1, by omega, by go_num, R1, below_to hbr hbr.size b1⟩
      case measure => simp [intOf]; omega
    · have hie : i = a.length := by omega
      rw [hie, List.take_length] at hr
      have HR := Lib.hid hr.out
      clear hie hr
      go_wp2_with fail
      go_loopw [5, 24] (fun vo vi wx => ∃ i : Nat, i ≤ b.length ∧ vi = .int .i64 i ∧ Hid (Rd (· < wx.heap.size) wx vo ((putsL (b.take i) (putsL a [])).map D.str)) ∧ Below w.heap.size w wx) (fun _ vi _ => b.length - (intOf vi).toNat)
      case atStart => exact ⟨0, Nat.zero_le _, rfl, Lib.hid (by simpa [putsL] using HR.out), hbr⟩
      case round =>
        clear HR hbr
        obtain ⟨j, hj, rfl, hr, hbr⟩ := hrel
        by_cases hltb : j < b.length
        · have hBr := HB.out.lt_below hbr
          obtain ⟨bb, o, rfl, _, _, hcell⟩ := hBr.str_cell hltb
          have hln := putsL_len (b.take j) (putsL a [])
          have hln2 := putsL_len a []
          rw [List.length_take] at hln
          rw [List.length_nil, Nat.zero_add] at hln2
          obtain ⟨V, cV, rfl, _, _⟩ := hr.out.form
          rw [List.length_map] at *
          have hp := RefPut_calls _ (putsL (b.take j) (putsL a [])) b[j] wr hr.out (by omega)
          rw [← putsL_take hltb] at hp
          have HPU := Lib.hid hp
          generalize b[j] = s at *
          clear hp hr hBr
          go_wp2_with fail
          refine HPU.out.mono ?_
          rintro e w1 ⟨v1, rfl, r1, b1⟩
          have R1 := Lib.hid r1
          clear r1
          go_wp2_with fail
          go_roundw
          case rel => exact ⟨j + 1, by omega, by go_num, R1, below_to hbr hbr.size b1⟩
          case measure => simp [intOf]; omega
        · have hje : j = b.length := by omega
          rw [hje, List.take_length] at hr
          have HR := Lib.hid hr.out
          change Hid (Rd _ _ _ ((allL a b).map D.str)) at HR
          clear hje hr
          obtain ⟨wo, rfl⟩ : ∃ wo, wo = wr := ⟨_, rfl⟩
          have hll := putsL_len b (putsL a [])
          have hll2 := putsL_len a []
          rw [List.length_nil, Nat.zero_add] at hll2
          change (allL a b).length ≤ _ at hll
          obtain ⟨V, cV, rfl, _, _⟩ := HR.out.form
          rw [List.length_map] at *
          go_wp2_with fail
          go_loopw [8, 36] (fun vo vi wx => ∃ i : Nat, i ≤ a.length ∧ vi = .int .i64 i ∧ wx.ownsRow wo.heap.size 3 1 vo i (((a.take i).map fun s => ((atP (allL a b) s : Nat) : Int)).map (Value.int .i64)) ∧ Below wo.heap.size wo wx) (fun _ vi _ => a.length - (intOf vi).toNat)
          case atStart => exact ⟨0, Nat.zero_le _, rfl, World.ownsRow_nil _ _ _ _, Below.refl _ _⟩
          case round =>
            obtain ⟨i, hi, rfl, hor, hbo⟩ := hrel
            have hbw := below_to hbr hbr.size hbo
            by_cases hlt : i < a.length
            · have hAr := HA.out.lt_below hbw
              obtain ⟨bb, o, rfl, _, _, hcell⟩ := hAr.str_cell hlt
              have hRr := HR.out.lt_below hbo
              have hat := RefAt_calls _ (allL a b) a[i] wr hRr
              have htk : (a.take (i + 1)).map (fun s => ((atP (allL a b) s : Nat) : Int)) = (a.take i).map (fun s => ((atP (allL a b) s : Nat) : Int)) ++ [((atP (allL a b) a[i] : Nat) : Int)] := by rw [List.take_succ_eq_append_getElem hlt, List.map_append]; rfl
              generalize a[i] = s at *
              have HTK := Lib.hid htk
              have HAT := Lib.hid hat
              clear htk hat hAr hRr
              go_wp2_with (first
                | (go_at_call 28; go_must (refine HAT.out.mono ?_); rintro e w' ⟨rfl, rfl⟩)
                | (at_builtin; go_must (refine app_one (w0 := wo) wo.heap.size rfl _ _ 37 3 rfl Tryd.underlying37 infoIntR rfl (by decide) (by decide) [.int .i64 ((atP (allL a b) s : Nat) : Int)] rfl rfl rfl (by simp [Value.oneCell']) (by exact hor) hbo hbo.size (by omega) ?_); intro v' w7 hown' hbe' _ _))
              go_roundw
              case rel => exact ⟨i + 1, by omega, by go_num, by rw [HTK.out, List.map_append]; exact hown', hbe'⟩
              case measure => simp [intOf]; omega
            · have hie : i = a.length := by omega
              rw [hie, List.take_length] at hor
              have hfin : Rd (· < wr.heap.size) wr u8 ((a.map fun s => ((atP (allL a b) s : Nat) : Int)).map (D.int .i64)) := Rd.own_ints hor (fun k hk => (hor.lt k hk).2)
              have HF := Lib.hid hfin
              clear hie hor hfin
              go_wp2_with fail
              go_ret
              exact ⟨_, rfl, HF.out, hbw⟩
end Go.Proofs.YtobncidpdodaiaaDoor
