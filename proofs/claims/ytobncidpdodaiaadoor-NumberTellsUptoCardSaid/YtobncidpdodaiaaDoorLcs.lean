/- The walks of lcs: the table's at, reckon. -/
import Derived.Test.YtobncidpdodaiaaDoorProg
import Derived.Test.YtobncidpdodaiaaDoorKit
import Derived.Test.YtobncidpdodaiaaDoorPlcs
import Derived.Deep.RegionHeld3
import Derived.PlainAid
import Derived.WalkSpells
namespace Go.Proofs.YtobncidpdodaiaaDoor
open Go.RowKit Go.PlainAid
set_option linter.unusedVariables false

set_option maxRecDepth 100000 in
set_option maxHeartbeats 800000 in
theorem at_out (t i k la lb ca cb : Nat) (A B : Option Addr) (w : World) (hi : i ≤ 4294967296) (hk : k ≤ 4294967296)
    (h0 : w.cell? ⟨t, 0, none⟩ = some (.slice A la ca)) (h1 : w.cell? ⟨t, 1, none⟩ = some (.slice B lb cb)) (h : la ≤ i ∨ lb ≤ k) :
    Calls Tryd.prog 64 #[.pointer (some ⟨t, 0, none⟩), .int .i64 i, .int .i64 k] w fun e w' => e = .returned (.int .i64 0) ∧ w = w' := by
  by_cases hc : la ≤ i
  · have hc' : decide (la ≤ i) = true := by simpa using hc
    go_enter Tryd.func64, Tryd.ntmps64
    go_wp2
    go_ret
    exact ⟨rfl, rfl⟩
  · have hc' : decide (la ≤ i) = false := by simpa using hc
    have hd' : decide (lb ≤ k) = true := by simp; omega
    go_enter Tryd.func64, Tryd.ntmps64
    go_wp2
    go_ret
    exact ⟨rfl, rfl⟩
set_option maxRecDepth 100000 in
set_option maxHeartbeats 800000 in
theorem at_in (t i k la lb n ca cb cc g : Nat) (A B : Option Addr) (z : Int) (w : World) (hi : i < la) (hk : k < lb) (hn : i * lb + k < n) (hm : n ≤ 1099511627776) (hla : la ≤ 1099511627776) (hlb : lb ≤ 1099511627776)
    (h0 : w.cell? ⟨t, 0, none⟩ = some (.slice A la ca)) (h1 : w.cell? ⟨t, 1, none⟩ = some (.slice B lb cb)) (h2 : w.cell? ⟨t, 2, none⟩ = some (.slice (some ⟨g, 0, none⟩) n cc))
    (hz : w.cell? ⟨g, i * lb + k, none⟩ = some (.int .i64 z)) :
    Calls Tryd.prog 64 #[.pointer (some ⟨t, 0, none⟩), .int .i64 i, .int .i64 k] w fun e w' => e = .returned (.int .i64 z) ∧ ∃ q, w' = w.drewN q := by
  have hc' : decide (la ≤ i) = false := by simpa using hi
  have hd' : decide (lb ≤ k) = false := by simpa using hk
  have e1 : IntKind.i64.wrap ((i : Int) * (lb : Int)) = (i : Int) * (lb : Int) := i64_mul i lb (by omega)
  have e2 : IntKind.i64.wrap ((i : Int) * (lb : Int) + (k : Int)) = (i : Int) * (lb : Int) + (k : Int) := i64_lin i k lb (by omega)
  have e3 : ((i : Int) * (lb : Int) + (k : Int)).toNat = i * lb + k := toNat_lin i k lb
  have e4 : 0 ≤ ((i : Int) * (lb : Int) + (k : Int)) := by rw [← cast_lin i k lb]; omega
  have e5 : ((i : Int) * (lb : Int) + (k : Int)) < n := by rw [← cast_lin i k lb]; omega
  go_enter Tryd.func64, Tryd.ntmps64
  go_wp2
  go_quiet (fail)
  go_wp2
  go_ret
  exact ⟨rfl, _, rfl⟩
/-- What 'at' answers: the table's number, or 0 at its edges. -/
def atL (za zb : List Int) (i k : Nat) : Int := (lcsL (za.drop i) (zb.drop k) : Nat)
def tabAt (za zb : List Int) (m : Nat) : Int := atL za zb (m / zb.length) (m % zb.length)
def tab (za zb : List Int) : List Int := (List.range (za.length * zb.length)).map (tabAt za zb)
theorem atL_edge {za zb : List Int} {i k : Nat} (h : za.length ≤ i ∨ zb.length ≤ k) : atL za zb i k = 0 := by
  unfold atL
  rcases h with h | h
  · rw [List.drop_eq_nil_of_le h]; rfl
  · rw [List.drop_eq_nil_of_le h, lcsL_nil]; rfl
theorem tabAt_eq {za zb : List Int} {i k : Nat} (hk : k < zb.length) : tabAt za zb (i * zb.length + k) = atL za zb i k := by
  unfold tabAt
  have h1 : (i * zb.length + k) / zb.length = i := by rw [Nat.mul_comm, Nat.mul_add_div (by omega), Nat.div_eq_of_lt hk, Nat.add_zero]
  have h2 : (i * zb.length + k) % zb.length = k := by rw [Nat.mul_comm, Nat.mul_add_mod, Nat.mod_eq_of_lt hk]
  rw [h1, h2]
theorem atL_bd (za zb : List Int) (i k : Nat) : 0 ≤ atL za zb i k ∧ atL za zb i k ≤ za.length := by
  unfold atL
  have := (lcsL_le (za.drop i) (zb.drop k)).1
  rw [List.length_drop] at this
  omega
theorem set_tab {za zb hs : List Int} {N q : Nat} (hl : hs.length = N) (hq : q < N) (hf : ∀ j, q + 1 ≤ j → j < N → hs[j]? = some (tabAt za zb j)) {v : Int} (hv : v = tabAt za zb q) :
    ∀ j, q ≤ j → j < N → (hs.set q v)[j]? = some (tabAt za zb j) := by
  intro j h1 h2
  by_cases hj : q = j
  · subst hj; rw [List.getElem?_set_self (by omega), hv]
  · rw [List.getElem?_set_ne hj]; exact hf j (by omega) h2
/-- 'at' of a table that is filled from the place m on. -/
theorem at_calls (t i k ca cb cc g m base : Nat) (A B : Option Addr) (za zb hs : List Int) (w : World) (hla : za.length ≤ 1048576) (hlb : zb.length ≤ 1048576) (hi : i ≤ 1048576) (hk : k ≤ 1048576)
    (h0 : w.cell? ⟨t, 0, none⟩ = some (.slice A za.length ca)) (h1 : w.cell? ⟨t, 1, none⟩ = some (.slice B zb.length cb)) (h2 : w.cell? ⟨t, 2, none⟩ = some (.slice (some ⟨g, 0, none⟩) (za.length * zb.length) cc))
    (ho : w.ownsRow base 3 1 (.slice (some ⟨g, 0, none⟩) (za.length * zb.length) cc) (za.length * zb.length) (hs.map (Value.int .i64)))
    (hf : ∀ j, m ≤ j → j < za.length * zb.length → hs[j]? = some (tabAt za zb j)) (hm : m ≤ i * zb.length + k) :
    Calls Tryd.prog 64 #[.pointer (some ⟨t, 0, none⟩), .int .i64 i, .int .i64 k] w fun e w' => e = .returned (.int .i64 (atL za zb i k)) ∧ ∃ q, w' = w.drewN q := by
  have hN : za.length * zb.length ≤ 1048576 * 1048576 := Nat.mul_le_mul hla hlb
  by_cases h : za.length ≤ i ∨ zb.length ≤ k
  · refine (at_out t i k _ _ ca cb A B w (by omega) (by omega) h0 h1 h).mono ?_
    rintro e w' ⟨rfl, rfl⟩
    rw [atL_edge h]
    exact ⟨rfl, 0, rfl⟩
  · have hlt : i * zb.length + k < za.length * zb.length := by
      have : (i + 1) * zb.length ≤ za.length * zb.length := Nat.mul_le_mul_right _ (by omega)
      rw [Nat.add_mul, Nat.one_mul] at this
      omega
    have hz : w.cell? ⟨g, i * zb.length + k, none⟩ = some (.int .i64 (atL za zb i k)) := by
      rw [ho.cellAt _ (by omega), List.getElem?_map, hf _ hm hlt, tabAt_eq (by omega)]
      rfl
    exact at_in t i k _ _ _ ca cb cc g A B _ w (by omega) (by omega) hlt (by omega) (by omega) (by omega) h0 h1 h2 hz

/-- The same at whole numbers. -/
theorem at_any (t ca cb cc g m base : Nat) (I K : Int) (A B : Option Addr) (za zb hs : List Int) (w : World) (hla : za.length ≤ 1048576) (hlb : zb.length ≤ 1048576) (hI : 0 ≤ I) (hK : 0 ≤ K) (hi : I ≤ 1048576) (hk : K ≤ 1048576)
    (h0 : w.cell? ⟨t, 0, none⟩ = some (.slice A za.length ca)) (h1 : w.cell? ⟨t, 1, none⟩ = some (.slice B zb.length cb)) (h2 : w.cell? ⟨t, 2, none⟩ = some (.slice (some ⟨g, 0, none⟩) (za.length * zb.length) cc))
    (ho : w.ownsRow base 3 1 (.slice (some ⟨g, 0, none⟩) (za.length * zb.length) cc) (za.length * zb.length) (hs.map (Value.int .i64)))
    (hf : ∀ j, m ≤ j → j < za.length * zb.length → hs[j]? = some (tabAt za zb j)) (hm : m ≤ I.toNat * zb.length + K.toNat) :
    Calls Tryd.prog 64 #[.pointer (some ⟨t, 0, none⟩), .int .i64 I, .int .i64 K] w fun e w' => e = .returned (.int .i64 (atL za zb I.toNat K.toNat)) ∧ ∃ q, w' = w.drewN q := by
  obtain ⟨i, rfl⟩ := Int.eq_ofNat_of_zero_le hI
  obtain ⟨k, rfl⟩ := Int.eq_ofNat_of_zero_le hK
  simp only [Int.toNat_natCast] at hm ⊢
  exact at_calls t i k ca cb cc g m base A B za zb hs w hla hlb (by omega) (by omega) h0 h1 h2 ho hf hm

theorem infoInt : (Tryd.prog.info? 3).map (fun i => (i.zero, i.size, i.bytes)) = some (some (.int .i64 0), 1, 8) := by kernel_rfl
set_option maxRecDepth 100000 in
set_option maxHeartbeats 1600000 in
theorem reckon_calls (ba oa ca bb ob cb : Nat) (za zb : List Int) (w : World) (hla : za.length ≤ 1048575) (hlb : zb.length ≤ 1048575) (hpa : 0 < za.length) (hpb : 0 < zb.length) (hba : ba < w.heap.size) (hbb : bb < w.heap.size)
    (ha : ∀ i, i < za.length → w.cell? ⟨ba, oa + i, none⟩ = some (.int .i64 (za.getD i 0))) (hb : ∀ i, i < zb.length → w.cell? ⟨bb, ob + i, none⟩ = some (.int .i64 (zb.getD i 0))) :
    Calls Tryd.prog 63 #[.slice (some ⟨ba, oa, none⟩) za.length ca, .slice (some ⟨bb, ob, none⟩) zb.length cb] w fun e w' => ∃ t g, e = .returned (.pointer (some ⟨t, 0, none⟩)) ∧ w.heap.size ≤ g ∧ g < t ∧
      w'.heap[t]? = some (.cells #[.slice (some ⟨ba, oa, none⟩) za.length ca, .slice (some ⟨bb, ob, none⟩) zb.length cb, .slice (some ⟨g, 0, none⟩) (za.length * zb.length) (za.length * zb.length)] 109 (0, 0)) ∧
      w'.ownsRow w.heap.size 3 1 (.slice (some ⟨g, 0, none⟩) (za.length * zb.length) (za.length * zb.length)) (za.length * zb.length) ((tab za zb).map (Value.int .i64)) ∧ Below w.heap.size w w' := by
  have hN : za.length * zb.length ≤ 1048576 * 1048576 := Nat.mul_le_mul (by omega) (by omega)
  have e1 : IntKind.i64.wrap ((za.length : Int) * (zb.length : Int)) = ((za.length * zb.length : Nat) : Int) := by rw [i64_mul _ _ (by omega)]; simp
  generalize hNN : za.length * zb.length = N at *
  obtain ⟨i0, hi, hz0, hz1, hz2⟩ := info_parts infoInt
  go_enter Tryd.func63, Tryd.ntmps63
  go_wp2_with (at_make; go_must (refine wpList_make_full _ rfl _ _ 37 rfl w.heap.size 3 i0 _ 1 Tryd.underlying37 hi hz0 hz1 .i64 .i64 _ _ N rfl rfl rfl rfl (by rw [hz2]; omega) (by simp only [maxLen]; omega) (Nat.le_refl _) ?_); intro w1 hown hgr)
  have hT : (w1.alloc (.cells #[.slice (some ⟨ba, oa, none⟩) za.length ca, .slice (some ⟨bb, ob, none⟩) zb.length cb, .slice (some ⟨w.heap.size, 0, none⟩) N N] 109)).heap[w1.heap.size]? = some (.cells #[.slice (some ⟨ba, oa, none⟩) za.length ca, .slice (some ⟨bb, ob, none⟩) zb.length cb, .slice (some ⟨w.heap.size, 0, none⟩) N N] 109 (0, 0)) := heap_alloc_new _ _
  have hlt1 : w.heap.size < w1.heap.size := by have := (hown.lt _ rfl).2; omega
  have hB1 : Below w.heap.size w w1 := (Below.refl _ _).grown hgr (Nat.le_refl _) (fun k hk => by cases hk)
  have hB2 := hB1.alloc (by omega) (Obj.cells #[.slice (some ⟨ba, oa, none⟩) za.length ca, .slice (some ⟨bb, ob, none⟩) zb.length cb, .slice (some ⟨w.heap.size, 0, none⟩) N N] 109)
  have hown2 := hown.alloc (Obj.cells #[.slice (some ⟨ba, oa, none⟩) za.length ca, .slice (some ⟨bb, ob, none⟩) zb.length cb, .slice (some ⟨w.heap.size, 0, none⟩) N N] 109)
  have hmk : (madeCells (Value.int .i64 0).cells (N * 1)).toList = (List.replicate N (0 : Int)).map (Value.int .i64) := by rw [made_one rfl, List.map_replicate]
  rw [hmk] at hown2
  clear hown hgr hmk hB1
  generalize (w1.alloc (Obj.cells #[.slice (some ⟨ba, oa, none⟩) za.length ca, .slice (some ⟨bb, ob, none⟩) zb.length cb, .slice (some ⟨w.heap.size, 0, none⟩) N N] 109)) = W2 at *
  generalize w1.heap.size = t at *
  go_loopw [6] (fun v6 wr => ∃ (m : Nat) (hs : List Int), v6 = .int .i64 ((m : Int) - 1) ∧ m ≤ N ∧
      wr.heap[t]? = some (.cells #[.slice (some ⟨ba, oa, none⟩) za.length ca, .slice (some ⟨bb, ob, none⟩) zb.length cb, .slice (some ⟨w.heap.size, 0, none⟩) N N] 109 (0, 0)) ∧
      wr.ownsRow w.heap.size 3 1 (.slice (some ⟨w.heap.size, 0, none⟩) N N) N (hs.map (Value.int .i64)) ∧ (∀ j, m ≤ j → j < N → hs[j]? = some (tabAt za zb j)) ∧ Below w.heap.size w wr)
    (fun v6 _ => (intOf v6 + 1).toNat)
  case atStart => exact ⟨N, _, rfl, Nat.le_refl _, hT, hown2, fun j h1 h2 => absurd h2 (by omega), hB2⟩
  case round =>
    obtain ⟨m, hs, rfl, hm, hTr, hor, hf, hBr⟩ := hrel
    clear hT hown2 hB2
    have hl : hs.length = N := by have := hor.1; simpa using this
    rcases m with _ | q
    · go_wp2
      go_ret
      have hh : hs = tab za zb := by
        apply List.ext_getElem?
        intro j
        by_cases hj : j < N
        · rw [hf j (Nat.zero_le _) hj]; unfold tab; rw [List.getElem?_map, List.getElem?_range (by omega)]; rfl
        · rw [List.getElem?_eq_none (by omega), List.getElem?_eq_none (by unfold tab; simp; omega)]
      exact ⟨t, _, rfl, Nat.le_refl _, hlt1, hTr, by rw [← hh]; exact hor, hBr⟩
    · have es : ((q + 1 : Nat) : Int) - 1 = q := by omega
      rw [es]
      have hq : q = q / zb.length * zb.length + q % zb.length := by rw [Nat.mul_comm]; exact (Nat.div_add_mod q zb.length).symm
      have hk0 : q % zb.length < zb.length := Nat.mod_lt _ hpb
      have hi0 : q / zb.length < za.length := Nat.div_lt_of_lt_mul (by rw [Nat.mul_comm, hNN]; omega)
      have hd1 : (q : Int).tdiv (zb.length : Int) = ((q / zb.length : Nat) : Int) := by rw [Int.tdiv_eq_ediv_of_nonneg (by omega)]; rfl
      have hd2 : (q : Int).tmod (zb.length : Int) = ((q % zb.length : Nat) : Int) := by rw [Int.tmod_eq_emod_of_nonneg (by omega)]; rfl
      generalize q / zb.length = i at *
      generalize q % zb.length = k at *
      have hca := (hBr.cell (p := ⟨ba, oa + i, none⟩) hba).trans (ha i hi0)
      have hcb := (hBr.cell (p := ⟨bb, ob + k, none⟩) hbb).trans (hb k hk0)
      have hx : za.getD i 0 = za[i] := by simp [hi0]
      have hy : zb.getD k 0 = zb[k] := by simp [hk0]
      rw [hx] at hca
      rw [hy] at hcb
      have hstep := lcsL_at za zb hi0 hk0
      generalize za[i] = x at *
      generalize zb[k] = y at *
      have HQ := Lib.hid hq
      have HS := Lib.hid hstep
      have HF := Lib.hid hf
      have HL := Lib.hid hl
      have HA := Lib.hid ha
      have HB := Lib.hid hb
      have HN := Lib.hid hNN
      clear hq hstep hf hl ha hb hx hy es hNN
      have w1 : (i : Int) < za.length := by omega
      have w2 : (k : Int) < zb.length := by omega
      have w3 : IntKind.i64.wrap (i : Int) = i := IntWalk.i64_in _ (by omega)
      have w4 : IntKind.i64.wrap (k : Int) = k := IntWalk.i64_in _ (by omega)
      go_wp2
      go_quiet (fail)
      clear hd1 hd2 w3 w4
      go_wp2
      go_quiet (fail)
      have hT0 : wr.cell? ⟨t, 0, none⟩ = some (.slice (some ⟨ba, oa, none⟩) za.length ca) := by rw [cell_of_row wr t 0 _ _ _ hTr]; rfl
      have hT1 : wr.cell? ⟨t, 1, none⟩ = some (.slice (some ⟨bb, ob, none⟩) zb.length cb) := by rw [cell_of_row wr t 1 _ _ _ hTr]; rfl
      have hT2 : wr.cell? ⟨t, 2, none⟩ = some (.slice (some ⟨w.heap.size, 0, none⟩) N N) := by rw [cell_of_row wr t 2 _ _ _ hTr]; rfl
      have hcq : ∃ v, wr.cell? ⟨w.heap.size, q, none⟩ = some v := ⟨_, by rw [hor.cellAt q (by omega), List.getElem?_map, List.getElem?_eq_getElem (by have := HL.out; omega)]; rfl⟩
      obtain ⟨vq, hcq⟩ := hcq
      have hfq : wr.frozen? ⟨w.heap.size, q, none⟩ = false := hor.frozenAt q
      have hq1 : (q : Int) < N := by omega
      have hne1 : ¬ t = w.heap.size := by omega
      have hne2 : ¬ w.heap.size = t := by omega
      have hq0 : (0 : Int) ≤ q := by omega
      go_wp2_with fail
      · have i1 : ((i : Int) + 1).toNat = i + 1 := by omega
        have k1 : ((k : Int) + 1).toNat = k + 1 := by omega
        have w5 : IntKind.i64.wrap ((i : Int) + 1) = (i : Int) + 1 := IntWalk.i64_in _ (by omega)
        have w6 : IntKind.i64.wrap ((k : Int) + 1) = (k : Int) + 1 := IntWalk.i64_in _ (by omega)
        go_region_held3 (fun w' => w'.cell? ⟨t, 0, none⟩ = some (.slice (some ⟨ba, oa, none⟩) za.length ca) ∧ w'.cell? ⟨t, 1, none⟩ = some (.slice (some ⟨bb, ob, none⟩) zb.length cb) ∧ w'.cell? ⟨t, 2, none⟩ = some (.slice (some ⟨w.heap.size, 0, none⟩) N N))
          (go_keep)
          (first | (go_at_call 64; refine (at_any t ca cb N w.heap.size (q + 1) w.heap.size _ _ _ _ za zb hs _ (by omega) (by omega) (by omega) (by omega) (by omega) (by omega) (by exact hT0) (by exact hT1) (by rw [HN.out]; exact hT2) (by rw [HN.out]; exact hor) (by rw [HN.out]; exact HF.out) (by have := HQ.out; rw [i1, Nat.add_mul]; omega)).mono ?_; rw [i1, k1]; rintro e w' ⟨rfl, nq, rfl⟩))
        have hv : IntKind.i64.wrap (atL za zb (i + 1) (k + 1) + 1) = tabAt za zb q := by
          have h1 := atL_bd za zb (i + 1) (k + 1)
          have hxy : (x == y) = true := by assumption
          rw [IntWalk.i64_in _ (by omega), HQ.out, tabAt_eq hk0]
          unfold atL
          rw [HS.out, if_pos (beq_iff_eq.1 hxy)]
          simp
        generalize IntKind.i64.wrap (atL za zb (i + 1) (k + 1) + 1) = v at *
        have hf' := set_tab HL.out (by omega) HF.out hv
        have HV := Lib.hid hv
        have HF' := Lib.hid hf'
        clear hv hf'
        go_wp2
        go_roundw
        case rel => exact ⟨q, hs.set q v, rfl, by omega, (Below.heap_setCell _ _ _ _ hne1).trans hTr, by rw [List.map_set]; exact (World.ownsRow.stored (w := wr.drewN _) (by exact hor) q _).1, HF'.out, (below_drewN hBr _).setCell (Nat.le_refl _) _⟩
        case measure => simp [intOf]
      · have i1 : ((i : Int) + 1).toNat = i + 1 := by omega
        have k1 : ((k : Int) + 1).toNat = k + 1 := by omega
        have w5 : IntKind.i64.wrap ((i : Int) + 1) = (i : Int) + 1 := IntWalk.i64_in _ (by omega)
        have w6 : IntKind.i64.wrap ((k : Int) + 1) = (k : Int) + 1 := IntWalk.i64_in _ (by omega)
        go_region_held3 (fun w' => w'.cell? ⟨t, 0, none⟩ = some (.slice (some ⟨ba, oa, none⟩) za.length ca) ∧ w'.cell? ⟨t, 1, none⟩ = some (.slice (some ⟨bb, ob, none⟩) zb.length cb) ∧ w'.cell? ⟨t, 2, none⟩ = some (.slice (some ⟨w.heap.size, 0, none⟩) N N))
          (go_keep)
          (first | (go_at_call 64; refine (at_any t ca cb N w.heap.size (q + 1) w.heap.size _ _ _ _ za zb hs _ (by omega) (by omega) (by omega) (by omega) (by omega) (by omega) (by exact hT0) (by exact hT1) (by rw [HN.out]; exact hT2) (by rw [HN.out]; exact hor) (by rw [HN.out]; exact HF.out) (by have := HQ.out; first | (simp only [i1, Int.toNat_natCast, Nat.add_mul]; omega) | (simp only [k1, Int.toNat_natCast]; omega))).mono ?_; (first | rw [i1] | rw [k1]); rw [Int.toNat_natCast]; rintro e w' ⟨rfl, nq, rfl⟩))
        have hv : (if atL za zb (i + 1) k < atL za zb i (k + 1) then atL za zb i (k + 1) else atL za zb (i + 1) k) = tabAt za zb q := by
          have hxy : (x == y) = false := by assumption
          rw [HQ.out, tabAt_eq hk0]
          unfold atL
          rw [HS.out, if_neg (beq_eq_false_iff_ne.1 hxy)]
          split <;> omega
        generalize (if atL za zb (i + 1) k < atL za zb i (k + 1) then atL za zb i (k + 1) else atL za zb (i + 1) k) = v at *
        have hf' := set_tab HL.out (by omega) HF.out hv
        have HV := Lib.hid hv
        have HF' := Lib.hid hf'
        clear hv hf'
        go_wp2
        go_roundw
        case rel => exact ⟨q, hs.set q v, rfl, by omega, (Below.heap_setCell _ _ _ _ hne1).trans hTr, by rw [List.map_set]; exact (World.ownsRow.stored (w := wr.drewN _) (by exact hor) q _).1, HF'.out, (below_drewN hBr _).setCell (Nat.le_refl _) _⟩
        case measure => simp [intOf]

set_option maxRecDepth 100000 in
set_option maxHeartbeats 1600000 in
theorem reckon_empty (A B : Option Addr) (la ca lb cb : Nat) (w : World) (h : la = 0 ∨ lb = 0) (hla : la ≤ 1048575) (hlb : lb ≤ 1048575) :
    Calls Tryd.prog 63 #[.slice A la ca, .slice B lb cb] w fun e w' => ∃ t g, e = .returned (.pointer (some ⟨t, 0, none⟩)) ∧ w.heap.size ≤ g ∧ g < t ∧
      w'.heap[t]? = some (.cells #[.slice A la ca, .slice B lb cb, .slice (some ⟨g, 0, none⟩) 0 0] 109 (0, 0)) ∧ Below w.heap.size w w' := by
  have e1 : IntKind.i64.wrap ((la : Int) * (lb : Int)) = ((0 : Nat) : Int) := by rw [i64_mul _ _ (by rcases h with h | h <;> simp [h])]; rcases h with h | h <;> simp [h]
  obtain ⟨i0, hi, hz0, hz1, hz2⟩ := info_parts infoInt
  have hlb' := hlb
  clear h
  go_enter Tryd.func63, Tryd.ntmps63
  go_wp2_with (at_make; go_must (refine wpList_make_full _ rfl _ _ 37 rfl w.heap.size 3 i0 _ 1 Tryd.underlying37 hi hz0 hz1 .i64 .i64 _ _ 0 rfl rfl rfl rfl (by omega) (by simp only [maxLen]; omega) (Nat.le_refl _) ?_); intro w1 hown hgr)
  have hT : (w1.alloc (.cells #[.slice A la ca, .slice B lb cb, .slice (some ⟨w.heap.size, 0, none⟩) 0 0] 109)).heap[w1.heap.size]? = some (.cells #[.slice A la ca, .slice B lb cb, .slice (some ⟨w.heap.size, 0, none⟩) 0 0] 109 (0, 0)) := heap_alloc_new _ _
  have hlt1 : w.heap.size < w1.heap.size := by have := (hown.lt _ rfl).2; omega
  have hB1 : Below w.heap.size w w1 := (Below.refl _ _).grown hgr (Nat.le_refl _) (fun k hk => by cases hk)
  have hB2 := hB1.alloc (by omega) (Obj.cells #[.slice A la ca, .slice B lb cb, .slice (some ⟨w.heap.size, 0, none⟩) 0 0] 109)
  clear hown hgr hB1
  generalize (w1.alloc (Obj.cells #[.slice A la ca, .slice B lb cb, .slice (some ⟨w.heap.size, 0, none⟩) 0 0] 109)) = W2 at *
  generalize w1.heap.size = t at *
  go_rounds 1
  go_ret
  exact ⟨t, _, rfl, Nat.le_refl _, hlt1, hT, hB2⟩
end Go.Proofs.YtobncidpdodaiaaDoor
