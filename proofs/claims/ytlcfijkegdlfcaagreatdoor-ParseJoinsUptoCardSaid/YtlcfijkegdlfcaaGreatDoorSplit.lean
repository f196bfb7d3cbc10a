/- The walk of lines.Split. -/
import Derived.Test.YtlcfijkegdlfcaaGreatDoorReadP
import Derived.Lib.IndexAny
import Derived.Test.YtlcfijkegdlfcaaGreatDoorFence
import Derived.Test.YtlcfijkegdlfcaaGreatDoorSpan1
import Derived.WalkMore
/- Pure: a text's lines, one by one. No program in it. -/
namespace Go.Proofs.YtlcfijkegdlfcaaGreatDoor
set_option linter.all false
set_option linter.deprecated false
/-- A byte that is no line end's. -/
def inL (c : UInt8) : Bool := c != 10 && c != 13
theorem brk_in (b : UInt8) : ([13, 10] : List UInt8).contains b = !inL b := by
  unfold inL
  by_cases h : b = 10
  · subst h; rfl
  · by_cases h2 : b = 13
    · subst h2; rfl
    · simp [h, h2]
theorem indexAny_tw : ∀ s : Ln, Lib.indexAny s [13, 10] = if s.dropWhile inL = [] then -1 else ((s.takeWhile inL).length : Int)
  | [] => rfl
  | b :: l => by
    have hdef : Lib.indexAny (b :: l) [13, 10] = if ([13, 10] : List UInt8).contains b then 0 else if Lib.indexAny l [13, 10] == -1 then -1 else Lib.indexAny l [13, 10] + 1 := rfl
    rw [hdef, brk_in, indexAny_tw l]
    cases hb : inL b
    · simp [hb]
    · simp only [List.dropWhile_cons, List.takeWhile_cons, hb, Bool.not_true, Bool.false_eq_true, if_false, if_true]
      by_cases h : l.dropWhile inL = []
      · simp [h]
      · have h3 : (((l.takeWhile inL).length : Int) == -1) = false := beq_eq_false_iff_ne.2 (by omega)
        simp [h, h3]
theorem tw_takeS (p : UInt8 → Bool) (s : Ln) : s.take (s.takeWhile p).length = s.takeWhile p ∧ s.drop (s.takeWhile p).length = s.dropWhile p := by
  have h := List.takeWhile_append_dropWhile (p := p) (l := s)
  constructor
  · conv => lhs; arg 2; rw [← h]
    rw [List.take_left]
  · conv => lhs; arg 2; rw [← h]
    rw [List.drop_left]
theorem splitG_step (g : Nat) (s : Ln) (h : s ≠ []) : splitG (g + 1) s = if s.dropWhile inL = [] then [s] else if [13, 10].isPrefixOf (s.dropWhile inL) = true then s.takeWhile inL :: splitG g ((s.dropWhile inL).drop 2) else s.takeWhile inL :: splitG g ((s.dropWhile inL).drop 1) := by
  rw [splitG, if_neg h]
  change (match s.dropWhile inL with | [] => [s] | 13 :: 10 :: t => s.takeWhile inL :: splitG g t | _ :: t => s.takeWhile inL :: splitG g t) = _
  generalize s.dropWhile inL = X
  split
  · simp
  · simp [List.isPrefixOf]
  · rename_i a t hne
    rw [if_neg (by simp), if_neg]
    · rfl
    · intro hp
      cases t with
      | nil => simp [List.isPrefixOf] at hp
      | cons b t =>
        simp [List.isPrefixOf] at hp
        obtain ⟨rfl, rfl⟩ := hp
        exact hne t rfl rfl
theorem dw_len (p : UInt8 → Bool) (s : Ln) : (s.dropWhile p).length ≤ s.length := (List.dropWhile_sublist p).length_le
theorem splitG_nil (f : Nat) : splitG f [] = [] := by cases f <;> simp [splitG]
theorem splitG_fuel : ∀ (f g : Nat) (s : Ln), s.length ≤ f → s.length ≤ g → splitG f s = splitG g s
  | 0, g, s, h, _ => by
    obtain rfl : s = [] := List.length_eq_zero_iff.1 (Nat.le_zero.1 h)
    rw [splitG_nil, splitG_nil]
  | f + 1, 0, s, _, h => by
    obtain rfl : s = [] := List.length_eq_zero_iff.1 (Nat.le_zero.1 h)
    rw [splitG_nil, splitG_nil]
  | f + 1, g + 1, s, hf, hg => by
    by_cases h : s = []
    · subst h; rw [splitG_nil, splitG_nil]
    · have hd := dw_len inL s
      rw [splitG_step f s h, splitG_step g s h]
      by_cases h1 : s.dropWhile inL = []
      · rw [if_pos h1, if_pos h1]
      · have h0 : 0 < (s.dropWhile inL).length := List.length_pos_iff.2 h1
        rw [if_neg h1, if_neg h1, splitG_fuel f g _ (by simp only [List.length_drop]; omega) (by simp only [List.length_drop]; omega), splitG_fuel f g ((s.dropWhile inL).drop 1) (by simp only [List.length_drop]; omega) (by simp only [List.length_drop]; omega)]
/-- Has the last line an end? -/
def endG (s : Ln) : Bool := s.getLast?.all fun c => !inL c
theorem endG_nil : endG [] = true := rfl
theorem endG_last {s : Ln} (h : s ≠ []) (h1 : s.dropWhile inL = []) : endG s = false := by
  obtain ⟨x, hx⟩ : ∃ x, s.getLast? = some x := by cases hs : s.getLast? with | none => exact absurd (List.getLast?_eq_none_iff.1 hs) h | some x => exact ⟨x, rfl⟩
  have hm := List.mem_of_getLast? hx
  have : ∀ y ∈ s, inL y = true := by
    intro y hy
    have e := List.takeWhile_append_dropWhile (p := inL) (l := s)
    rw [h1, List.append_nil] at e
    rw [← e] at hy
    have := List.all_takeWhile (p := inL) (l := s)
    exact List.all_eq_true.1 this y hy
  unfold endG
  rw [hx]
  simp [this x hm]
theorem endG_dw {s : Ln} (h : s.dropWhile inL ≠ []) : endG (s.dropWhile inL) = endG s := by
  have e := List.takeWhile_append_dropWhile (p := inL) (l := s)
  unfold endG
  conv => rhs; rw [← e]
  rw [List.getLast?_append]
  cases hg : (s.dropWhile inL).getLast? with
  | none => exact absurd (List.getLast?_eq_none_iff.1 hg) h
  | some x => rfl
theorem dw_head {s : Ln} {b : UInt8} {t : Ln} (h : s.dropWhile inL = b :: t) : inL b = false := by
  have := List.head?_dropWhile_not inL s
  rw [h] at this
  simpa using this
theorem endG_next1 {s : Ln} (h : s.dropWhile inL ≠ []) : endG ((s.dropWhile inL).drop 1) = endG s := by
  rw [← endG_dw h]
  cases hd : s.dropWhile inL with
  | nil => exact absurd hd h
  | cons b t =>
    cases t with
    | nil => simp [endG, dw_head hd]
    | cons c t => unfold endG; rw [List.drop_succ_cons, List.drop_zero, List.getLast?_cons_cons]
theorem endG_next2 {s : Ln} (h : [13, 10].isPrefixOf (s.dropWhile inL) = true) : endG ((s.dropWhile inL).drop 2) = endG s := by
  obtain ⟨t, ht⟩ := List.isPrefixOf_iff_prefix.1 h
  have hn : s.dropWhile inL ≠ [] := by rw [← ht]; simp
  rw [← endG_dw hn, ← ht]
  cases t with
  | nil => rfl
  | cons c t => unfold endG; simp [List.getLast?_cons_cons]
end Go.Proofs.YtlcfijkegdlfcaaGreatDoor
namespace Go.Proofs.YtlcfijkegdlfcaaGreatDoor
open Go.RowKit Go.PlainAid
set_option linter.all false
set_option linter.deprecated false
set_option maxRecDepth 100000
theorem emp_d (S : ByteArray) : S.toList.isEmpty = decide (bl S = []) := by rw [Lib.toList_data]; unfold bl; cases S.data.toList <;> simp
set_option maxHeartbeats 8000000 in
theorem LSplit_calls (s : ByteArray) (w : World) (hs : s.size ≤ 4294967280) :
    Calls Tryz.prog 27 #[.string s] w fun e w' => ∃ A n c, e = .returned (.tuple #[.slice A n c, .bool (endG (bl s))]) ∧ Rd (w.heap.size ≤ ·) w' (.slice A n c) (((splitL (bl s)).map ba).map D.str) ∧ Below w.heap.size w w' := by
  obtain ⟨X, hX⟩ : ∃ X, splitL (bl s) = X := ⟨_, rfl⟩
  obtain ⟨E, hE⟩ : ∃ E, endG (bl s) = E := ⟨_, rfl⟩
  rw [hX, hE]
  have HX0 := Lib.hid hX
  have HE0 := Lib.hid hE
  have HSZ := Lib.hid hs
  clear hX hE hs
  go_enter Tryz.func27, Tryz.ntmps27
  go_wp2
  go_step3
  go_wp2
  go_step3
  go_wp2_with fail
  go_loopw [0, 4] (fun v0 v4 wr => ∃ (S : ByteArray) (m cr : Nat) (Ar : Option Addr) (out : List Ln), v0 = .string S ∧ v4 = .slice Ar m cr ∧ m = out.length ∧ out ++ splitL (bl S) = X ∧ endG (bl S) = E ∧ S.size + m ≤ s.size ∧ wr.ownsRow w.heap.size 9 1 (.slice Ar m cr) m (out.map fun l => Value.string (ba l)) ∧ Below w.heap.size w wr)
    (fun v0 _ _ => match v0 with | .string t => t.size | _ => 0)
  case atStart => exact ⟨s, 0, 0, none, [], rfl, rfl, rfl, HX0.out, HE0.out, Nat.le_refl _, World.ownsRow_nil _ _ _ _, Below.refl _ _⟩
  case round =>
    clear HX0 HE0
    obtain ⟨S, m, cr, Ar, out, rfl, rfl, hm, hx, he, htot, hown, hbw⟩ := hrel
    have HM := Lib.hid hm
    have HX := Lib.hid hx
    have HE := Lib.hid he
    have HTOT := Lib.hid htot
    have hm16 : (m + 1) * 16 ≤ 140737488355328 := by have := HSZ.out; omega
    have hemp := emp_d S
    have hsl : splitL (bl S) = splitG (S.size + 1) (bl S) := by unfold splitL; exact splitG_fuel _ _ _ (Nat.le_refl _) (by rw [bl_len]; omega)
    by_cases h0 : bl S = []
    · rw [decide_eq_true h0] at hemp
      have hx0 : out = X := by rw [← hx, h0]; unfold splitL; rw [splitG_nil, List.append_nil]
      have he0 : E = true := by rw [← he, h0]; rfl
      have HX0 := Lib.hid hx0
      subst he0
      have HO := Lib.hid hown
      clear hm hx he htot hown hsl h0 hx0
      go_wp2_with fail
      (try rw [Exit.noGoto_ret])
      go_wp2_with fail
      (try rw [Exit.noGoto_ret])
      go_ret2
      refine ⟨Ar, m, cr, rfl, ?_, hbw⟩
      rw [← HX0.out]
      have e : (out.map fun l => Value.string (ba l)) = (out.map ba).map Value.string := by rw [List.map_map]; rfl
      have ho := HO.out
      rw [e] at ho
      exact Rd.own_strs ho (fun q hq => own_ge ho q hq)
    · rw [decide_eq_false h0] at hemp
      rw [splitG_step _ _ h0] at hsl
      have hIA := fun W => IndexAny_calls S ⟨#[13, 10]⟩ W (by decide) (by decide) (by have := HSZ.out; omega) (by decide)
      have hbl : bl ⟨#[13, 10]⟩ = [13, 10] := rfl
      rw [hbl, indexAny_tw] at hIA
      have hlen := List.takeWhile_append_dropWhile (p := inL) (l := bl S)
      have hlen := congrArg List.length hlen
      rw [List.length_append, bl_len] at hlen
      by_cases h1 : (bl S).dropWhile inL = []
      · rw [if_pos h1] at hIA hsl
        have he0 : E = false := by rw [← he]; exact endG_last h0 h1
        subst he0
        have hx0 : out ++ [bl S] = X := by rw [← hx, hsl]
        have HX0 := Lib.hid hx0
        have HIA := Lib.hid hIA
        have HO := Lib.hid hown
        clear hm hx he htot hown hsl h0 hx0 hIA h1 hlen
        go_wp2_with fail
        refine (HIA.out _).mono ?_
        rintro e w2 ⟨rfl, hb2⟩
        have hb2w := below_to hbw hbw.size hb2
        have ho2 := own_same HO.out (fun g hg => hb2.block g (HO.out.lt g hg).2)
        have HO2 := Lib.hid ho2
        have hs2 : w.heap.size ≤ w2.heap.size := hb2w.size
        clear ho2 HO HIA hb2
        go_wp2_with (at_builtin; go_must (refine app_one (w0 := w2) w.heap.size rfl _ _ 31 9 rfl Tryz.underlying31 infoStrP rfl (by decide) (by decide) [.string S] rfl rfl rfl (by simp [Value.oneCell']) (by exact HO2.out) (Below.refl _ _) hs2 hm16 ?_); intro v' w7 hown' hbe' hgr hat; obtain ⟨A7, c7, hv'⟩ := own_slice hown'; subst hv')
        (try rw [Exit.noGoto_ret])
        go_wp2_with fail
        (try rw [Exit.noGoto_ret])
        go_ret2
        refine ⟨A7, m + 1, c7, rfl, ?_, hb2w.trans hbe'⟩
        rw [← HX0.out]
        have e : (out.map fun l => Value.string (ba l)) ++ [.string S] = ((out ++ [bl S]).map ba).map Value.string := by rw [List.map_append, List.map_append, List.map_map]; simp
        have ho := hown'
        rw [e] at ho
        exact Rd.own_strs ho (fun q hq => own_ge ho q hq)
      · rw [if_neg h1] at hIA hsl
        obtain ⟨I, hI⟩ : ∃ I, ((bl S).takeWhile inL).length = I := ⟨_, rfl⟩
        have htk := tw_takeS inL (bl S)
        rw [hI] at hIA hlen htk
        have hd0 : 0 < ((bl S).dropWhile inL).length := List.length_pos_iff.2 h1
        have hIz : ¬ (I : Int) < 0 := by omega
        have hIs : (I : Int) ≤ S.size := by omega
        have hex : S.extract I S.size = ba ((bl S).dropWhile inL) := by rw [ext_bl, htk.2]
        have hTW := Lib.hid (show S.extract 0 I = ba ((bl S).takeWhile inL) by rw [mid_bl, htk.1]; rfl)
        have hHP := fun W => Tryz.strings_HasPrefix (S.extract I S.size) ⟨#[13, 10]⟩ W
        rw [hex] at hHP
        have hpe : Lib.hasPrefix (ba ((bl S).dropWhile inL)).data.toList (⟨#[13, 10]⟩ : ByteArray).data.toList = [13, 10].isPrefixOf ((bl S).dropWhile inL) := rfl
        rw [hpe] at hHP
        have he1 := endG_next1 h1
        have he2 := fun h => endG_next2 (s := bl S) h
        have hp2 : [13, 10].isPrefixOf ((bl S).dropWhile inL) = true → 2 ≤ ((bl S).dropWhile inL).length := fun h => by
          have := (List.isPrefixOf_iff_prefix.1 h).length_le
          simpa using this
        obtain ⟨DW, hDW⟩ : ∃ DW, (bl S).dropWhile inL = DW := ⟨_, rfl⟩
        rw [hDW] at hsl hlen hd0 hex hHP he1 he2 hp2 htk
        obtain ⟨DT, hDT⟩ : ∃ DT, ba DW = DT := ⟨_, rfl⟩
        rw [hDT] at hex hHP
        obtain ⟨HP, hHPe⟩ : ∃ HP, [13, 10].isPrefixOf DW = HP := ⟨_, rfl⟩
        rw [hHPe] at hsl hHP he2 hp2
        have HIA := Lib.hid hIA
        have HHP := Lib.hid hHP
        have HLL := Lib.hid (And.intro hlen hd0)
        have hSs : S.size ≤ 4294967280 := by have := HSZ.out; omega
        have hgx : ∀ q, I + q ≤ S.size → S.extract (I + q) S.size = ba (DW.drop q) := fun q _ => by rw [ext_bl, ← List.drop_drop, htk.2]
        have HGX := Lib.hid hgx
        clear hm hx he htot h0 h1 hI hIA hHP hDW hDT hHPe htk hlen hd0 hgx
        go_wp2_with fail
        refine (HIA.out _).mono ?_
        rintro e w2 ⟨rfl, hb2⟩
        have hb2w := below_to hbw hbw.size hb2
        have ho2 := own_same hown (fun g hg => hb2.block g (hown.lt g hg).2)
        have HO2 := Lib.hid (And.intro ho2 hb2w)
        clear ho2 hown HIA hb2 hb2w hbw
        go_wp2_with fail
        refine (HHP.out _).mono ?_
        rintro e W8 ⟨rfl, hw8⟩
        have hown : W8.ownsRow w.heap.size 9 1 (.slice Ar m cr) m (out.map fun l => Value.string (ba l)) := by rw [hw8]; exact HO2.out.1
        have hbw : Below w.heap.size w W8 := by rw [hw8]; exact HO2.out.2
        clear HHP hw8 HO2
        cases HP with
        | true =>
        have h2 := hp2 rfl
        have HSP := Lib.hid (hsl.trans (if_pos rfl))
        have HEE := Lib.hid (he2 rfl)
        obtain ⟨J, hJ⟩ : ∃ J, J = I + 2 := ⟨_, rfl⟩
        have k2 : IntKind.i64.wrap ((I : Int) + 2) = (J : Int) := by have := HLL.out; rw [IntWalk.i64_in _ (by omega)]; omega
        have kJ : (J : Int) ≤ S.size := by have := HLL.out; omega
        have hTB := Lib.hid (show S.extract J S.size = ba (DW.drop 2) by rw [hJ]; exact HGX.out 2 (by have := HLL.out; omega))
        clear hJ hsl he1 he2 hp2 h2 hex
        go_wp2_with fail
        refine wp_region_till 5 (fun _ => True) (by kernel_rfl) trivial (fun hT => ?_)
        have ho1 := own_same (w' := W8.drew) hown (fun g hg => rfl)
        have hbd := Below.drew hbw
        clear hown hbw
        have HO1 := Lib.hid ho1
        have HBD := Lib.hid hbd
        clear ho1 hbd
        generalize W8.drew = w8 at *
        refine wpAnyT_take (i := 0) (v := ?_) rfl (by kernel_rfl) (fun _ _ _ h => h) (Or.inl ⟨by rfl, ?_⟩) hT (fun hT => ?_)
        rotate_left
        · intro w _; go_simp; try with_reducible rfl
        try simp only [Act.put, List.setIfInBounds_toArray, List.set_cons_zero, List.set_cons_succ]
        refine wpAnyT_take (i := 1) (v := ?_) rfl (by kernel_rfl) (fun _ _ _ h => h) (Or.inl ⟨by rfl, ?_⟩) hT (fun hT => ?_)
        rotate_left
        · intro w _; go_simp; try with_reducible rfl
        try simp only [Act.put, List.setIfInBounds_toArray, List.set_cons_zero, List.set_cons_succ]
        refine wpAnyT_take (i := 2) (v := ?_) rfl (by kernel_rfl) (fun _ _ _ h => h) (Or.inl ⟨by rfl, ?_⟩) hT (fun hT => ?_)
        rotate_left
        · intro w _; go_simp; try with_reducible rfl
        try simp only [Act.put, List.setIfInBounds_toArray, List.set_cons_zero, List.set_cons_succ]
        refine wpAnyT_take (i := 3) (v := ?_) rfl (by kernel_rfl) (fun _ _ _ h => h) (Or.inl ⟨by rfl, ?_⟩) hT (fun hT => ?_)
        rotate_left
        · intro w _; go_simp; try with_reducible rfl
        try simp only [Act.put, List.setIfInBounds_toArray, List.set_cons_zero, List.set_cons_succ]
        refine wpAnyT_take (i := 6) (v := ?_) rfl (by kernel_rfl) (fun _ _ _ h => h) (Or.inl ⟨by rfl, ?_⟩) hT (fun hT => ?_)
        rotate_left
        · intro w _; go_simp; try with_reducible rfl
        try simp only [Act.put, List.setIfInBounds_toArray, List.set_cons_zero, List.set_cons_succ]
        refine wpAnyT_take (i := 7) (v := ?_) rfl (by kernel_rfl) (fun _ _ _ h => h) (Or.inl ⟨by rfl, ?_⟩) hT (fun hT => ?_)
        rotate_left
        · intro w _; go_simp; try with_reducible rfl
        try simp only [Act.put, List.setIfInBounds_toArray, List.set_cons_zero, List.set_cons_succ]
        refine wpAnyT_take (i := 8) (v := ?_) rfl (by kernel_rfl) (fun _ _ _ h => h) (Or.inl ⟨by rfl, ?_⟩) hT (fun hT => ?_)
        rotate_left
        · intro w _; go_simp; try with_reducible rfl
        try simp only [Act.put, List.setIfInBounds_toArray, List.set_cons_zero, List.set_cons_succ]
        refine wpAnyT_take (i := 9) (v := ?_) rfl (by kernel_rfl) (fun _ _ _ h => h) (Or.inl ⟨by rfl, ?_⟩) hT (fun hT => ?_)
        rotate_left
        · intro w _; go_simp; try with_reducible rfl
        try simp only [Act.put, List.setIfInBounds_toArray, List.set_cons_zero, List.set_cons_succ]
        refine wpAnyT_ready (rs := [4]) (by kernel_rfl) (by simp) ?_
        refine ReadyT.cons rfl (fun K hK => ?_) ReadyT.nil
        go_simp
        have hbA := (Below.refl w8.heap.size w8).alloc (Nat.le_refl _) (.cells #[.string (S.extract 0 I)] 9)
        have hgA := heap_alloc_new w8 (.cells #[.string (S.extract 0 I)] 9)
        have hsA := World.size_alloc w8 (.cells #[.string (S.extract 0 I)] 9)
        refine hK.out _ _ (fun _ => trivial) (fun hT => ?_)
        clear hK K
        have hoA := own_same HO1.out (fun g hg => hbA.block g (HO1.out.lt g hg).2)
        have hbB := below_to HBD.out HBD.out.size hbA
        have HOA := Lib.hid hoA
        have HBB := Lib.hid hbB
        clear hoA hbB hbA HO1
        generalize w8.alloc (.cells #[.string (S.extract 0 I)] 9) = wA at *
        try simp only [Act.put, List.setIfInBounds_toArray, List.set_cons_zero, List.set_cons_succ]
        refine wpAnyT_ready (rs := [5]) (by kernel_rfl) (by simp) ?_
        refine ReadyT.cons rfl (fun K hK => ?_) ReadyT.nil
        refine step_app_one (v := .slice Ar m cr) (n := m) (g := w8.heap.size) w.heap.size (by rfl) (.tmp 23) (.tmp 27) 31 9 (by rfl) Tryz.underlying31 infoStrP (by rfl) (by decide) (by decide) [.string (S.extract 0 I)] (by rfl) (by rfl) rfl (by simp [Value.oneCell']) hgA (by exact HOA.out) HBB.out.size hm16 ?_
        intro v' w9 hown' hbe' hgr hat
        obtain ⟨A7, c7, hv'⟩ := own_slice hown'
        subst hv'
        change K (Act.put _ (some 28) _) w9
        refine hK.out _ _ (fun h => by simp at h) (fun hT => ?_)
        clear hK K
        have H9 := Lib.hid (And.intro hown' (HBB.out.trans hbe'))
        clear hown' hbe' hgr hat HOA HBB HBD hgA hsA
        try simp only [Act.put, List.setIfInBounds_toArray, List.set_cons_zero, List.set_cons_succ]
        refine wpAnyT_take (i := 10) (v := ?_) rfl (by kernel_rfl) (fun _ _ _ h => h) (Or.inl ⟨by rfl, ?_⟩) hT (fun hT => ?_)
        rotate_left
        · intro w _; go_simp; try with_reducible rfl
        try simp only [Act.put, List.setIfInBounds_toArray, List.set_cons_zero, List.set_cons_succ]
        refine wpAnyT_take (i := 11) (v := ?_) rfl (by kernel_rfl) (fun _ _ _ h => h) (Or.inl ⟨by rfl, ?_⟩) hT (fun hT => ?_)
        rotate_left
        · intro w _; go_simp; try with_reducible rfl
        try simp only [Act.put, List.setIfInBounds_toArray, List.set_cons_zero, List.set_cons_succ]
        simp only [List.getElem_toArray, List.getElem_cons_succ, List.getElem_cons_zero, Act.put, List.setIfInBounds_toArray, List.set_cons_zero, List.set_cons_succ]
        refine wpAnyT_done (by kernel_rfl) ?_ _
        go_wp2_with fail
        go_roundw
        case rel =>
          refine ⟨_, m + 1, c7, A7, out ++ [(bl S).takeWhile inL], rfl, rfl, by rw [List.length_append, ← HM.out]; rfl, ?_, ?_, ?_, by rw [List.map_append]; have h9 := H9.out.1; rw [hTW.out] at h9; exact h9, H9.out.2⟩
          · rw [← HX.out, HSP.out, hTB.out, bl_ba]
            have hll := HLL.out
            rw [List.append_assoc]
            congr 1
            rw [List.singleton_append]
            congr 1
            unfold splitL
            exact splitG_fuel _ _ _ (Nat.le_refl _) (by rw [List.length_drop]; omega)
          · rw [hTB.out, bl_ba, HEE.out]; exact HE.out
          · rw [hTB.out, ba_size, List.length_drop]; have := HLL.out; have := HTOT.out; omega
        case measure => rw [show ∀ (x : ByteArray), (match Value.string x with | .string t => t.size | _ => 0) = x.size from fun _ => rfl]; rw [hTB.out, ba_size, List.length_drop]; have := HLL.out; simp; omega
        | false =>
        have HSP := Lib.hid (hsl.trans (if_neg (by simp)))
        have HEE := Lib.hid he1
        obtain ⟨J, hJ⟩ : ∃ J, J = I + 1 := ⟨_, rfl⟩
        have k2 : IntKind.i64.wrap ((I : Int) + 1) = (J : Int) := by have := HLL.out; rw [IntWalk.i64_in _ (by omega)]; omega
        have kJ : (J : Int) ≤ S.size := by have := HLL.out; omega
        have hTB := Lib.hid (show S.extract J S.size = ba (DW.drop 1) by rw [hJ]; exact HGX.out 1 (by have := HLL.out; omega))
        clear hJ hsl he1 he2 hp2 hex
        go_wp2_with fail
        refine wp_region_till 5 (fun _ => True) (by kernel_rfl) trivial (fun hT => ?_)
        have ho1 := own_same (w' := W8.drew) hown (fun g hg => rfl)
        have hbd := Below.drew hbw
        clear hown hbw
        have HO1 := Lib.hid ho1
        have HBD := Lib.hid hbd
        clear ho1 hbd
        generalize W8.drew = w8 at *
        refine wpAnyT_take (i := 0) (v := ?_) rfl (by kernel_rfl) (fun _ _ _ h => h) (Or.inl ⟨by rfl, ?_⟩) hT (fun hT => ?_)
        rotate_left
        · intro w _; go_simp; try with_reducible rfl
        try simp only [Act.put, List.setIfInBounds_toArray, List.set_cons_zero, List.set_cons_succ]
        refine wpAnyT_take (i := 1) (v := ?_) rfl (by kernel_rfl) (fun _ _ _ h => h) (Or.inl ⟨by rfl, ?_⟩) hT (fun hT => ?_)
        rotate_left
        · intro w _; go_simp; try with_reducible rfl
        try simp only [Act.put, List.setIfInBounds_toArray, List.set_cons_zero, List.set_cons_succ]
        refine wpAnyT_take (i := 2) (v := ?_) rfl (by kernel_rfl) (fun _ _ _ h => h) (Or.inl ⟨by rfl, ?_⟩) hT (fun hT => ?_)
        rotate_left
        · intro w _; go_simp; try with_reducible rfl
        try simp only [Act.put, List.setIfInBounds_toArray, List.set_cons_zero, List.set_cons_succ]
        refine wpAnyT_take (i := 3) (v := ?_) rfl (by kernel_rfl) (fun _ _ _ h => h) (Or.inl ⟨by rfl, ?_⟩) hT (fun hT => ?_)
        rotate_left
        · intro w _; go_simp; try with_reducible rfl
        try simp only [Act.put, List.setIfInBounds_toArray, List.set_cons_zero, List.set_cons_succ]
        refine wpAnyT_take (i := 6) (v := ?_) rfl (by kernel_rfl) (fun _ _ _ h => h) (Or.inl ⟨by rfl, ?_⟩) hT (fun hT => ?_)
        rotate_left
        · intro w _; go_simp; try with_reducible rfl
        try simp only [Act.put, List.setIfInBounds_toArray, List.set_cons_zero, List.set_cons_succ]
        refine wpAnyT_take (i := 7) (v := ?_) rfl (by kernel_rfl) (fun _ _ _ h => h) (Or.inl ⟨by rfl, ?_⟩) hT (fun hT => ?_)
        rotate_left
        · intro w _; go_simp; try with_reducible rfl
        try simp only [Act.put, List.setIfInBounds_toArray, List.set_cons_zero, List.set_cons_succ]
        refine wpAnyT_take (i := 8) (v := ?_) rfl (by kernel_rfl) (fun _ _ _ h => h) (Or.inl ⟨by rfl, ?_⟩) hT (fun hT => ?_)
        rotate_left
        · intro w _; go_simp; try with_reducible rfl
        try simp only [Act.put, List.setIfInBounds_toArray, List.set_cons_zero, List.set_cons_succ]
        refine wpAnyT_take (i := 9) (v := ?_) rfl (by kernel_rfl) (fun _ _ _ h => h) (Or.inl ⟨by rfl, ?_⟩) hT (fun hT => ?_)
        rotate_left
        · intro w _; go_simp; try with_reducible rfl
        try simp only [Act.put, List.setIfInBounds_toArray, List.set_cons_zero, List.set_cons_succ]
        refine wpAnyT_ready (rs := [4]) (by kernel_rfl) (by simp) ?_
        refine ReadyT.cons rfl (fun K hK => ?_) ReadyT.nil
        go_simp
        have hbA := (Below.refl w8.heap.size w8).alloc (Nat.le_refl _) (.cells #[.string (S.extract 0 I)] 9)
        have hgA := heap_alloc_new w8 (.cells #[.string (S.extract 0 I)] 9)
        have hsA := World.size_alloc w8 (.cells #[.string (S.extract 0 I)] 9)
        refine hK.out _ _ (fun _ => trivial) (fun hT => ?_)
        clear hK K
        have hoA := own_same HO1.out (fun g hg => hbA.block g (HO1.out.lt g hg).2)
        have hbB := below_to HBD.out HBD.out.size hbA
        have HOA := Lib.hid hoA
        have HBB := Lib.hid hbB
        clear hoA hbB hbA HO1
        generalize w8.alloc (.cells #[.string (S.extract 0 I)] 9) = wA at *
        try simp only [Act.put, List.setIfInBounds_toArray, List.set_cons_zero, List.set_cons_succ]
        refine wpAnyT_ready (rs := [5]) (by kernel_rfl) (by simp) ?_
        refine ReadyT.cons rfl (fun K hK => ?_) ReadyT.nil
        refine step_app_one (v := .slice Ar m cr) (n := m) (g := w8.heap.size) w.heap.size (by rfl) (.tmp 33) (.tmp 37) 31 9 (by rfl) Tryz.underlying31 infoStrP (by rfl) (by decide) (by decide) [.string (S.extract 0 I)] (by rfl) (by rfl) rfl (by simp [Value.oneCell']) hgA (by exact HOA.out) HBB.out.size hm16 ?_
        intro v' w9 hown' hbe' hgr hat
        obtain ⟨A7, c7, hv'⟩ := own_slice hown'
        subst hv'
        change K (Act.put _ (some 38) _) w9
        refine hK.out _ _ (fun h => by simp at h) (fun hT => ?_)
        clear hK K
        have H9 := Lib.hid (And.intro hown' (HBB.out.trans hbe'))
        clear hown' hbe' hgr hat HOA HBB HBD hgA hsA
        try simp only [Act.put, List.setIfInBounds_toArray, List.set_cons_zero, List.set_cons_succ]
        refine wpAnyT_take (i := 10) (v := ?_) rfl (by kernel_rfl) (fun _ _ _ h => h) (Or.inl ⟨by rfl, ?_⟩) hT (fun hT => ?_)
        rotate_left
        · intro w _; go_simp; try with_reducible rfl
        try simp only [Act.put, List.setIfInBounds_toArray, List.set_cons_zero, List.set_cons_succ]
        refine wpAnyT_take (i := 11) (v := ?_) rfl (by kernel_rfl) (fun _ _ _ h => h) (Or.inl ⟨by rfl, ?_⟩) hT (fun hT => ?_)
        rotate_left
        · intro w _; go_simp; try with_reducible rfl
        try simp only [Act.put, List.setIfInBounds_toArray, List.set_cons_zero, List.set_cons_succ]
        simp only [List.getElem_toArray, List.getElem_cons_succ, List.getElem_cons_zero, Act.put, List.setIfInBounds_toArray, List.set_cons_zero, List.set_cons_succ]
        refine wpAnyT_done (by kernel_rfl) ?_ _
        go_wp2_with fail
        go_roundw
        case rel =>
          refine ⟨_, m + 1, c7, A7, out ++ [(bl S).takeWhile inL], rfl, rfl, by rw [List.length_append, ← HM.out]; rfl, ?_, ?_, ?_, by rw [List.map_append]; have h9 := H9.out.1; rw [hTW.out] at h9; exact h9, H9.out.2⟩
          · rw [← HX.out, HSP.out, hTB.out, bl_ba]
            have hll := HLL.out
            rw [List.append_assoc]
            congr 1
            rw [List.singleton_append]
            congr 1
            unfold splitL
            exact splitG_fuel _ _ _ (Nat.le_refl _) (by rw [List.length_drop]; omega)
          · rw [hTB.out, bl_ba, HEE.out]; exact HE.out
          · rw [hTB.out, ba_size, List.length_drop]; have := HLL.out; have := HTOT.out; omega
        case measure => rw [show ∀ (x : ByteArray), (match Value.string x with | .string t => t.size | _ => 0) = x.size from fun _ => rfl]; rw [hTB.out, ba_size, List.length_drop]; have := HLL.out; simp; omega
end Go.Proofs.YtlcfijkegdlfcaaGreatDoor
