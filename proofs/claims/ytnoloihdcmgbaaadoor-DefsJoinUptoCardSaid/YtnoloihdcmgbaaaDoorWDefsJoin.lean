/- The walk of the law DefsJoin. -/
import Derived.Test.YtnoloihdcmgbaaaDoorRowsB
import Derived.Test.YtnoloihdcmgbaaaDoorFoldP
namespace Go.Proofs.YtnoloihdcmgbaaaDoor
open Go.RowKit Go.PlainAid Go.Maps Go.Sort
set_option linter.all false
set_option linter.deprecated false
set_option maxRecDepth 100000
/-- Labels that are folded. -/
def Folded (es : List (Bs × Bs)) : Prop := ∀ p ∈ es, (foldS ⟨p.1.toArray⟩).data.toList = p.1
theorem folded_defs : ∀ (N : Nat) (l : List Bl), D.bulks (dBls l) ≤ N → Folded (defsL l) := by
  intro N
  induction N with
  | zero =>
    intro l hl p hp
    have := D.len_bulks (dBls l)
    rw [dBls_len] at this
    have h0 : l = [] := List.eq_nil_of_length_eq_zero (by omega)
    subst h0; simp [defsL] at hp
  | succ N ih =>
    intro l hl p hp
    have : ∀ l : List Bl, p ∈ defsL l → ∃ x ∈ l, p ∈ defsB x := by
      intro l
      induction l with
      | nil => intro h; simp [defsL] at h
      | cons y l ihl =>
        intro h
        rw [defsL, List.mem_append] at h
        rcases h with h | h
        · exact ⟨y, by simp, h⟩
        · obtain ⟨x, hx, hp⟩ := ihl h; exact ⟨x, by simp [hx], hp⟩
    obtain ⟨x, hx, hp⟩ := this l hp
    obtain ⟨h1, _, _⟩ := bls_kids2 hx
    rw [defsB_eq, List.mem_append] at hp
    rcases hp with hp | hp
    · split at hp
      · rw [List.mem_singleton] at hp
        subst hp
        have : (⟨(foldS x.info).data.toList.toArray⟩ : ByteArray) = foldS x.info := by simp
        simp only [this, foldS_twice]
      · cases hp
    · exact ih x.kids (by omega) p hp
theorem folded_listOf {ds : List (Bs × Bs)} (h : Folded ds) : Folded (listOf ds) := by
  intro p hp
  unfold listOf at hp
  obtain ⟨k, hk, rfl⟩ := List.mem_map.1 hp
  obtain ⟨q, hq, rfl⟩ := List.mem_map.1 (((uniqL_spec _).2.1 k).1 hk)
  exact h q hq
theorem listOf_find {ds : List (Bs × Bs)} {p : Bs × Bs} (hp : p ∈ listOf ds) : find ds p.1 = some p.2 := by
  unfold listOf at hp
  obtain ⟨k, hk, rfl⟩ := List.mem_map.1 hp
  obtain ⟨v, hv⟩ := Option.isSome_iff_exists.1 (find_isSome.2 (((uniqL_spec _).2.1 k).1 hk))
  simp [hv]
/-- How many labels two tables have. -/
theorem join_len (a b : List (Bs × Bs)) : (listOf (a ++ b)).length = (listOf a).length + ((listOf b).filter fun p => (find a p.1).isNone).length := by
  have e1 : ((listOf b).filter fun p => (find a p.1).isNone).length = ((uniqL (b.map (·.1))).filter fun k => (find a k).isNone).length := by
    unfold listOf
    rw [List.filter_map, List.length_map]
    rfl
  rw [e1]
  unfold listOf
  rw [List.length_map, List.length_map, List.map_append, ← List.length_append]
  refine List.Perm.length_eq ((List.perm_ext_iff_of_nodup (uniqL_nodup _) ?_).2 fun x => ?_)
  · rw [List.nodup_append]
    refine ⟨uniqL_nodup _, (uniqL_nodup _).filter _, fun x hx y hy e => ?_⟩
    subst e
    rw [List.mem_filter] at hy
    have h1 := find_isSome.2 (((uniqL_spec _).2.1 x).1 hx)
    have h2 := hy.2
    rw [Option.isNone_iff_eq_none] at h2
    rw [h2] at h1
    cases h1
  · rw [(uniqL_spec _).2.1, List.mem_append, List.mem_append, (uniqL_spec _).2.1, List.mem_filter, (uniqL_spec _).2.1]
    constructor
    · rintro (h | h)
      · exact .inl h
      · cases hf : find a x with
        | none => exact .inr ⟨h, by simp [hf]⟩
        | some v => exact .inl (find_isSome.1 (by rw [hf]; rfl))
    · rintro (h | h)
      · exact .inl h
      · exact .inr h.1
set_option maxHeartbeats 2000000 in
theorem defsJoin_main (A : Option Addr) (ca : Nat) (a : List Bl) (B : Option Addr) (cb : Nat) (b : List Bl) (w : World) (hA : Rd (· < w.heap.size) w (.slice A a.length ca) (dBls a)) (hB : Rd (· < w.heap.size) w (.slice B b.length cb) (dBls b)) (hl : D.bulks (dBls a) + D.bulks (dBls b) ≤ 1048576) :
    Calls Tryd.prog 4 #[.slice A a.length ca, .slice B b.length cb] w fun e w' => e = .returned (.bool true) ∧ Below w.heap.size w w' := by
  have HA := Lib.hid hA
  have HB := Lib.hid hB
  clear hA hB
  go_enter Tryd.func4, Tryd.ntmps4
  go_wp2_with fail
  refine (awake16_calls _).mono ?_
  rintro e w1 ⟨rfl, hb1⟩
  go_wp2_with fail
  refine (Size10_calls a _ _ _ (HA.out.lt_below hb1)).mono ?_
  rintro e w2 ⟨⟨m, rfl⟩, q, rfl⟩
  have hb2 := below_drewN hb1 q
  by_cases hm : (2000 : Int) < m
  · go_wp2_with fail
    refine (awake16_calls _).mono ?_
    rintro e w3 ⟨rfl, hb3⟩
    go_wp2_with fail
    go_ret
    exact ⟨rfl, below_to hb2 hb2.size hb3⟩
  go_wp2_with fail
  refine (Size10_calls b _ _ _ (HB.out.lt_below hb2)).mono ?_
  rintro e w2 ⟨⟨m2, rfl⟩, q2, rfl⟩
  have hb3 := below_drewN hb1 (q + q2)
  by_cases hm2 : (2000 : Int) < m2
  · go_wp2_with fail
    refine (awake16_calls _).mono ?_
    rintro e w3 ⟨rfl, hb4⟩
    go_wp2_with fail
    go_ret
    exact ⟨rfl, below_to hb3 hb3.size hb4⟩
  go_wp2_with fail
  generalize w1.drewN (q + q2) = W0 at *
  clear hb1 hb2
  have hdA := defs_sizes _ a (Nat.le_refl _)
  have hdB := defs_sizes _ b (Nat.le_refl _)
  have hlA := defsL_le _ a (Nat.le_refl _)
  have hlB := defsL_le _ b (Nat.le_refl _)
  have hfA := folded_listOf (folded_defs _ a (Nat.le_refl _))
  have hfB := folded_listOf (folded_defs _ b (Nat.le_refl _))
  have hab := defsL_append a b
  have hjl := join_len (defsL a) (defsL b)
  have hlabs : D.bulks (dBls (a ++ b)) ≤ 1048576 := by rw [dBls_map, List.map_append, D.bulks_append, ← dBls_map, ← dBls_map]; exact hl
  have hof3 := fun (v : Value) (W : World) (h : Rd (· < W.heap.size) W v (dBls (a ++ b))) => Of_calls v (a ++ b) W h hlabs
  rw [hab] at hof3
  have HOF := Lib.hid hof3
  have haL : a.length ≤ 1048576 ∧ b.length ≤ 1048576 := by
    have h1 := D.len_bulks (dBls a)
    have h2 := D.len_bulks (dBls b)
    rw [dBls_len] at h1 h2
    omega
  clear hof3 hab hlabs
  refine (Of_calls _ a W0 (HA.out.lt_below hb3) (by omega)).mono ?_
  rintro e w3 ⟨v3, rfl, hr3, hb4⟩
  have hb03 := below_to hb3 hb3.size hb4
  obtain ⟨V3, c3, rfl⟩ := own_slice hr3
  have HR3 := Lib.hid hr3
  clear hr3
  go_wp2_with fail
  refine (Of_calls _ b w3 (HB.out.lt_below hb03) (by omega)).mono ?_
  rintro e w4 ⟨v4, rfl, hr4, hb5⟩
  have hb04 := below_to hb03 hb03.size hb5
  obtain ⟨V4, c4, rfl⟩ := own_slice hr4
  have HR4 := Lib.hid hr4
  clear hr4
  obtain ⟨cellsA, rA, lA, nA, oA, mA⟩ := (HA.out.lt_below hb04).cells (dBls_sz a)
  obtain ⟨cellsB, rB, lB, nB, oB, mB⟩ := (HB.out.lt_below hb04).cells (dBls_sz b)
  have RA := Lib.hid rA
  have RB := Lib.hid rB
  clear rA rB
  go_wp2_with (first
    | (at_builtin; go_must (first
        | (have pl := World.ownsRow_lit (e := 28) (size := 6) w4 #[] 0 (Nat.le_refl _) (by unfold maxLen; omega) rfl; have pb := below_alloc (Below.refl w4.heap.size w4) (Nat.le_refl _) (.cells #[] 28); refine app_many w4.heap.size rfl _ _ 22 28 rfl Tryd.underlying22 infoBl rfl (by decide) (by decide) cellsA rfl rfl lA oA nA (fun h0 => by obtain ⟨bb, oo, e1, _, e3, e4⟩ := mA h0; exact ⟨bb, oo, e1, fun j u hu => below_at' pb e3 (e4 j u hu)⟩) pl (by simp) (by omega) ?_; intro v5 w5 ho5 hb6; have q5 := pb.trans hb6)
        | (refine app_many w4.heap.size rfl _ _ 22 28 rfl Tryd.underlying22 infoBl rfl (by decide) (by decide) cellsB rfl rfl lB oB nB (fun h0 => by obtain ⟨bb, oo, e1, _, e3, e4⟩ := mB h0; exact ⟨bb, oo, e1, fun j u hu => below_at' q5 e3 (e4 j u hu)⟩) ho5 q5.size (by omega) ?_; intro v6 w6 ho6 hb7; have q6 := q5.trans hb7))))
  have rab : RepAll (· < w6.heap.size) w6 (dBls (a ++ b)) (([] ++ cellsA) ++ cellsB) := by
    have e : dBls (a ++ b) = dBls a ++ dBls b := by rw [dBls_map, dBls_map, dBls_map, List.map_append]
    rw [e, List.nil_append]
    exact RepAll.append (RA.out.below q6) (RB.out.below q6)
  have hrb := rd_blocks (l := a ++ b) (n := 0 + a.length + b.length) ho6 rab (by simp) (Below.refl _ _)
  refine (HOF.out v6 w6 hrb).mono ?_
  rintro e w7 ⟨v7, rfl, hr7, hb8⟩
  obtain ⟨V7, c7, rfl⟩ := own_slice hr7
  have q7 := below_to q6 q6.size hb8
  have hb07 := below_to hb04 hb04.size q7
  have hX7 := rd_E (w1 := w7) HR3.out rfl (below_to hb5 hb5.size q7)
  have hY7 := rd_E (w1 := w7) HR4.out rfl q7
  have hZ7 := rd_E hr7 rfl (Below.refl _ _)
  have sA : ∀ p ∈ listOf (defsL a), p.1.length ≤ 1048576 ∧ p.2.length ≤ 1048576 := listOf_sizes (fun p hp => by have := hdA p hp; omega)
  have sB : ∀ p ∈ listOf (defsL b), p.1.length ≤ 1048576 ∧ p.2.length ≤ 1048576 := listOf_sizes (fun p hp => by have := hdB p hp; omega)
  have sZ : ∀ p ∈ listOf (defsL a ++ defsL b), p.1.length ≤ 1048576 ∧ p.2.length ≤ 1048576 := listOf_sizes (fun p hp => by
    rcases List.mem_append.1 hp with h | h
    · have := hdA p h; omega
    · have := hdB p h; omega)
  have lX := listOf_len (defsL a)
  have lY := listOf_len (defsL b)
  have lZ := listOf_len (defsL a ++ defsL b)
  rw [List.length_append] at lZ
  have up : ∀ {es : List (Bs × Bs)}, (∀ p ∈ es, p.1.length ≤ 1048576 ∧ p.2.length ≤ 1048576) → ∀ p ∈ es, p.1.length ≤ maxLen ∧ p.2.length ≤ maxLen := fun h p hp => by have := h p hp; unfold maxLen; omega
  have fX := fun (W : World) (hW : Below w7.heap.size w7 W) (p : Bs × Bs) (hp : p.1.length ≤ 1048576) (hf : (foldS ⟨p.1.toArray⟩).data.toList = p.1) => by
    have h := Find_calls _ (listOf (defsL a)) ⟨p.1.toArray⟩ W (hX7.lt_below hW) (by omega) (up sA) (by simpa [ByteArray.size] using hp)
    rw [hf, find_listOf] at h
    exact h
  have fZ := fun (W : World) (hW : Below w7.heap.size w7 W) (p : Bs × Bs) (hp : p.1.length ≤ 1048576) (hf : (foldS ⟨p.1.toArray⟩).data.toList = p.1) => by
    have h := Find_calls _ (listOf (defsL a ++ defsL b)) ⟨p.1.toArray⟩ W (hZ7.lt_below hW) (by omega) (up sZ) (by simpa [ByteArray.size] using hp)
    rw [hf, find_listOf, find_append] at h
    exact h
  have yf : ∀ p ∈ listOf (defsL b), find (defsL b) p.1 = some p.2 := fun p hp => listOf_find hp
  have xf : ∀ p ∈ listOf (defsL a), find (defsL a) p.1 = some p.2 := fun p hp => listOf_find hp
  generalize listOf (defsL a ++ defsL b) = Z at *
  generalize listOf (defsL a) = X at *
  generalize listOf (defsL b) = Y at *
  generalize defsL a = dA at *
  generalize defsL b = dB at *
  have FX := Lib.hid fX
  have FZ := Lib.hid fZ
  have HX := Lib.hid hX7
  have HY := Lib.hid hY7
  have SA := Lib.hid sA
  have SB := Lib.hid sB
  have YF := Lib.hid yf
  have XF := Lib.hid xf
  have FA := Lib.hid hfA
  have FB := Lib.hid hfB
  have JL := Lib.hid hjl
  clear fX fZ hX7 hY7 hZ7 sA sB sZ yf xf hfA hfB hjl up hr7 hdA hdB rab hrb ho6 ho5 HOF HR3 HR4 RA RB lA lB nA nB oA oB mA mB q7 q6 q5 hb8 hb7 hb6 hb5 hb4 pl pb
  go_wp2
  go_loopw [8, 44] (fun vm vi wr => ∃ i : Nat, i ≤ Y.length ∧ vi = .int .i64 i ∧ vm = .int .i64 ((X.length + ((Y.take i).filter fun p => (find dA p.1).isNone).length : Nat) : Int) ∧ Below w7.heap.size w7 wr) (fun _ vi _ => Y.length - (intOf vi).toNat)
  case atStart => exact ⟨0, Nat.zero_le _, rfl, by simp, Below.refl _ _⟩
  case round =>
    obtain ⟨i, hi, rfl, rfl, hB⟩ := hrel
    by_cases hlt : i < Y.length
    · obtain ⟨bb, o, rfl, _, hbl, c0', c1'⟩ := HY.out.e_at hlt
      have c0 := below_at' hB hbl c0'
      have c1 := below_at' hB hbl c1'
      have hpm := List.getElem_mem hlt
      have hsz := SB.out _ hpm
      have hyf := YF.out _ hpm
      have hfo := FB.out _ hpm
      have htk : Y.take (i + 1) = Y.take i ++ [Y[i]] := by rw [List.take_succ_eq_append_getElem hlt]
      have hfl : ((Y.take i).filter fun p => (find dA p.1).isNone).length ≤ i := Nat.le_trans (List.length_filter_le _ _) (by rw [List.length_take]; omega)
      generalize Y[i] = p at *
      have f1 := fun (W : World) (hW : Below w7.heap.size w7 W) => FX.out W hW p hsz.1 hfo
      have f2 := fun (W : World) (hW : Below w7.heap.size w7 W) => FZ.out W hW p hsz.1 hfo
      rw [hyf] at f2
      cases hfd : find dA p.1 with
      | some v0 =>
        rw [hfd] at f1 f2
        simp only [Option.some_or, Option.getD_some, Option.isSome_some] at f1 f2
        have hct : ((Y.take (i + 1)).filter fun p => (find dA p.1).isNone).length = ((Y.take i).filter fun p => (find dA p.1).isNone).length := by
          rw [htk, List.filter_append, List.length_append]
          simp [hfd]
        have F1 := Lib.hid f1
        have F2 := Lib.hid f2
        have CT := Lib.hid hct
        have bq := beq_t (rfl : (⟨v0.toArray⟩ : ByteArray) = ⟨v0.toArray⟩)
        clear f1 f2 hct htk hyf hfo hpm hfd
        go_wp2_with fail
        refine (F1.out _ hB).mono ?_
        rintro e w8 ⟨rfl, hbA⟩
        have hB2 := below_to hB hB.size hbA
        have d0 := below_at' hB2 hbl c0'
        have d1 := below_at' hB2 hbl c1'
        clear c0 c1
        go_wp2_with fail
        refine (F2.out _ hB2).mono ?_
        rintro e w9 ⟨rfl, hbC⟩
        go_wp2_with fail
        go_roundw
        case rel => exact ⟨i + 1, by omega, by go_num, by rw [CT.out, Int.natCast_add], below_to hB2 hB2.size hbC⟩
        case measure => simp [intOf]; omega
      | none =>
        rw [hfd] at f1 f2
        simp only [Option.none_or, Option.getD_none, Option.isSome_none, Option.getD_some, Option.isSome_some] at f1 f2
        have hct : ((Y.take (i + 1)).filter fun p => (find dA p.1).isNone).length = ((Y.take i).filter fun p => (find dA p.1).isNone).length + 1 := by
          rw [htk, List.filter_append, List.length_append]
          simp [hfd]
        have F1 := Lib.hid f1
        have F2 := Lib.hid f2
        have CT := Lib.hid hct
        have bq := beq_t (rfl : (⟨p.2.toArray⟩ : ByteArray) = ⟨p.2.toArray⟩)
        clear f1 f2 hct htk hyf hfo hpm hfd
        generalize hcn : ((Y.take i).filter fun p => (find dA p.1).isNone).length = cn at *
        have ew : IntKind.i64.wrap (((X.length + cn : Nat) : Int) + 1) = ((X.length + (cn + 1) : Nat) : Int) := by rw [IntWalk.i64_in _ (by omega)]; push_cast; omega
        go_wp2_with fail
        refine (F1.out _ hB).mono ?_
        rintro e w8 ⟨rfl, hbA⟩
        have hB2 := below_to hB hB.size hbA
        have d0 := below_at' hB2 hbl c0'
        have d1 := below_at' hB2 hbl c1'
        clear c0 c1
        go_wp2_with fail
        refine (F2.out _ hB2).mono ?_
        rintro e w9 ⟨rfl, hbC⟩
        go_wp2_with fail
        go_roundw
        case rel => exact ⟨i + 1, by omega, by go_num, by rw [CT.out]; go_num, below_to hB2 hB2.size hbC⟩
        case measure => simp [intOf]; omega
    · have hie : i = Y.length := by omega
      rw [hie, List.take_length, ← JL.out]
      clear hie
      go_wp2
      go_loopw [86] (fun vi wx => ∃ j : Nat, j ≤ X.length ∧ vi = .int .i64 j ∧ Below w7.heap.size w7 wx) (fun vi _ => X.length - (intOf vi).toNat)
      case atStart => exact ⟨0, Nat.zero_le _, rfl, hB⟩
      case round =>
        obtain ⟨j, hj, rfl, hBx⟩ := hrel
        by_cases hlj : j < X.length
        · obtain ⟨bb, o, rfl, _, hbl, c0', c1'⟩ := HX.out.e_at hlj
          have c0 := below_at' hBx hbl c0'
          have hpm := List.getElem_mem hlj
          have hsz := SA.out _ hpm
          have hxf := XF.out _ hpm
          have hfo := FA.out _ hpm
          generalize X[j] = p at *
          have f2 := fun (W : World) (hW : Below w7.heap.size w7 W) => FZ.out W hW p hsz.1 hfo
          rw [hxf] at f2
          simp only [Option.some_or, Option.getD_some, Option.isSome_some] at f2
          have F2 := Lib.hid f2
          have bq := beq_t (rfl : (⟨p.2.toArray⟩ : ByteArray) = ⟨p.2.toArray⟩)
          clear f2 hxf hfo hpm
          go_wp2_with fail
          refine (F2.out _ hBx).mono ?_
          rintro e w9 ⟨rfl, hbC⟩
          have hB2 := below_to hBx hBx.size hbC
          have d1 := below_at' hB2 hbl c1'
          clear c0
          go_wp2_with fail
          go_roundw
          case rel => exact ⟨j + 1, by omega, by go_num, hB2⟩
          case measure => simp [intOf]; omega
        · have hzz : ((Z.length : Int) == (Z.length : Int)) = true := by simp
          go_wp2
          go_ret
          exact ⟨rfl, below_to hb07 hb07.size hBx⟩
theorem treeTypes : TreeTypes Tryd.prog 3 9 25 105 26 28 22 :=
  ⟨Tryd.underlying3, Tryd.underlying9, Tryd.underlying25, Tryd.underlying26, Tryd.underlying22, ⟨_, _, _, Tryd.underlying105, rfl, rfl, rfl⟩, ⟨_, _, _, _, _, _, Tryd.underlying28, rfl, rfl, rfl, rfl, rfl, rfl⟩⟩
theorem defsJoin_walk (A0 : Option Addr) (n0 c0 : Nat) (X0 : D) (A1 : Option Addr) (n1 c1 : Nat) (X1 : D) (w : World)
    (g0 : Rep (· < w.heap.size) w X0 [.slice A0 n0 c0]) (ty0 : ∃ n, HasTy Tryd.prog n 22 X0) (g1 : Rep (· < w.heap.size) w X1 [.slice A1 n1 c1]) (ty1 : ∃ n, HasTy Tryd.prog n 22 X1) (hb : X0.bulk + X1.bulk ≤ 1048576) :
    Calls Tryd.prog 4 #[.slice A0 n0 c0, .slice A1 n1 c1] w fun e w' => e = .returned (.bool true) ∧ Below w.heap.size w w' := by
  obtain ⟨m0, ty0⟩ := ty0
  obtain ⟨m1, ty1⟩ := ty1
  obtain ⟨a, rfl, _⟩ := (HasTy.bl treeTypes).2 ty0
  obtain ⟨b, rfl, _⟩ := (HasTy.bl treeTypes).2 ty1
  have hA : Rd (· < w.heap.size) w (.slice A0 n0 c0) (dBls a) := g0
  have hB : Rd (· < w.heap.size) w (.slice A1 n1 c1) (dBls b) := g1
  obtain ⟨rfl, _⟩ := rd_bls hA
  obtain ⟨rfl, _⟩ := rd_bls hB
  simp only [D.bulk] at hb
  exact defsJoin_main A0 c0 a A1 c1 b w hA hB (by omega)
end Go.Proofs.YtnoloihdcmgbaaaDoor
