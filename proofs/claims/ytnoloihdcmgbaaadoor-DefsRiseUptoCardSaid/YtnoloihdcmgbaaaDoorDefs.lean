/- The walks of defs: a table's add, of. -/
import Derived.Test.YtnoloihdcmgbaaaDoorTab
import Derived.Test.YtnoloihdcmgbaaaDoorMap
import Derived.Test.YtnoloihdcmgbaaaDoorFold
import Derived.Test.YtnoloihdcmgbaaaDoorTree
import Derived.Test.YtnoloihdcmgbaaaDoorStr
import Derived.StringKeys
import Derived.Maps.Range
namespace Go.Proofs.YtnoloihdcmgbaaaDoor
open Go.RowKit Go.PlainAid Go.Maps
set_option linter.all false
set_option linter.deprecated false
set_option maxRecDepth 100000
theorem lawS : Keyed Tryd.prog 9 := string_keyed Tryd.underlying9
theorem zeroStr (w : World) : (zeroValue 9).run Tryd.prog w = .ok (.string ByteArray.empty) w := by kernel_rfl
/-- A map of texts in memory. -/
abbrev OwnT (w : World) (b n : Nat) (D : DataW Unit) : Prop := w.ownsMap Tryd.prog 9 (plainElem Tryd.prog 9) b n D
theorem grown_below {w w' : World} (h : Below w.heap.size w w') (o : Option Nat) : w.grownBy w' o := ⟨h.os, h.tape, h.output, h.size, fun k hk _ => h.block k hk⟩
theorem grown_refl (w : World) (o : Option Nat) : w.grownBy w o := grown_below (Below.refl _ _) o
theorem grown_then {a b c : World} {o : Option Nat} (h : a.grownBy b o) (k : b.grownBy c o) : a.grownBy c o := h.andThen k (fun _ hj => .inr hj)
theorem foldS_size (s : ByteArray) : (foldS s).size ≤ s.size := by
  have h1 := foldTo_len (trimG s.data.toList) (trimG s.data.toList).length
  have h2 := trimG_len s.data.toList
  have h3 : s.data.toList.length = s.size := by simp
  have h4 : (foldS s).size = (foldTo (trimG s.data.toList) (trimG s.data.toList).length).length := by simp [foldS, ByteArray.size]
  omega
theorem tadd_calls (b n : Nat) (ds : List (Bs × Bs)) (D : DataW Unit) (k v : ByteArray) (w : World) (hown : OwnT w b n D) (hT : Tab ds D) (hn : n < maxLen) (hk : k.size ≤ maxLen) (hv : v.size ≤ maxLen) :
    Calls Tryd.prog 39 #[.map (some b), .string k, .string v] w fun e w' => e = .returned (.tuple #[]) ∧ ∃ D', OwnT w' b (n + 1) D' ∧ Tab (ds ++ [(k.data.toList, v.data.toList)]) D' ∧ w.grownBy w' (some b) := by
  have hh := hT.has k.data.toList
  cases hf : find ds k.data.toList with
  | none =>
    have hput := hT.add hf v.data.toList
    rw [hf, Option.isSome_none] at hh
    have HP := Lib.hid hput
    clear hput hf hT
    go_enter Tryd.func39, Tryd.ntmps39
    go_wp2_with (first
      | (at_lookup; go_must (refine wpList_lookup_own_ok_str _ rfl _ _ 58 rfl 9 9 lawS Tryd.underlying58 Tryd.underlying9 (zeroStr _) b n D rfl hown _ _ rfl (WideMaps.keyOf_string_mk Tryd.underlying9 hk) ?_); intro c hat; clear hat)
      | (at_mapUpdate; go_must (refine wpList_mapUpdate_own _ rfl _ _ _ 58 rfl 9 9 lawS Tryd.underlying58 _ b n _ rfl (by exact hown) hn _ _ _ rfl rfl (WideMaps.keyOf_string_mk Tryd.underlying9 hk) _ [] (plainElem_string Tryd.underlying9 hv) ?_); intro w6 hmp6 hgr6))
    go_end0
    exact ⟨rfl, _, hmp6, HP.out, hgr6⟩
  | some v0 =>
    have hsame := hT.same hf v.data.toList
    rw [hf, Option.isSome_some] at hh
    have HP := Lib.hid hsame
    clear hsame hf hT
    go_enter Tryd.func39, Tryd.ntmps39
    go_wp2_with (first
      | (at_lookup; go_must (refine wpList_lookup_own_ok_str _ rfl _ _ 58 rfl 9 9 lawS Tryd.underlying58 Tryd.underlying9 (zeroStr _) b n D rfl hown _ _ rfl (WideMaps.keyOf_string_mk Tryd.underlying9 hk) ?_); intro c hat; clear hat))
    go_end0
    exact ⟨rfl, D, hown.mono (by omega), HP.out, (grown_refl _ _)⟩
mutual
/-- What a block defines, in order. -/
def defsB : Bl → List (Bs × Bs)
  | .mk k _ i ls _ l => (if k = 8 then [((foldS i).data.toList, (ls.headD ByteArray.empty).data.toList)] else []) ++ defsL l
def defsL : List Bl → List (Bs × Bs)
  | [] => []
  | x :: l => defsB x ++ defsL l
end
theorem defsB_eq (x : Bl) : defsB x = (if x.kind = 8 then [((foldS x.info).data.toList, (x.lines.headD ByteArray.empty).data.toList)] else []) ++ defsL x.kids := by cases x; rfl
theorem defsL_append : ∀ a b : List Bl, defsL (a ++ b) = defsL a ++ defsL b
  | [], b => rfl
  | x :: a, b => by rw [List.cons_append, defsL, defsL, defsL_append a b, List.append_assoc]
theorem defsL_snoc (a : List Bl) (x : Bl) : defsL (a ++ [x]) = defsL a ++ defsB x := by rw [defsL_append, defsL, defsL, List.append_nil]
theorem defsL_le : ∀ (N : Nat) (l : List Bl), D.bulks (dBls l) ≤ N → (defsL l).length ≤ D.bulks (dBls l) := by
  intro N
  induction N with
  | zero =>
    intro l hl
    have := D.len_bulks (dBls l)
    rw [dBls_len] at this
    have h0 : l = [] := List.eq_nil_of_length_eq_zero (by omega)
    subst h0; simp [defsL]
  | succ N ih =>
    intro l hl
    cases l with
    | nil => simp [defsL]
    | cons x l =>
      rw [dBls, D.bulks] at hl ⊢
      rw [defsL, List.length_append]
      have h1 := D.bulk_pos (dBl x)
      have h2 := ih l (by omega)
      obtain ⟨k, n, i, ls, sp, ks⟩ := x
      have h3 := ih ks (by simp only [dBl, D.bulk, D.bulks] at hl; omega)
      have h4 : (defsB (.mk k n i ls sp ks)).length ≤ (dBl (.mk k n i ls sp ks)).bulk := by
        rw [defsB, List.length_append]
        simp only [dBl, D.bulk, D.bulks]
        split <;> simp <;> omega
      omega
theorem bls_kids2 {l : List Bl} {x : Bl} (h : x ∈ l) : D.bulks (dBls x.kids) < D.bulks (dBls l) ∧ x.info.size < D.bulks (dBls l) ∧ ∀ s ∈ x.lines, s.size < D.bulks (dBls l) := by
  have h1 : (dBl x).bulk ≤ D.bulks (dBls l) := by rw [dBls_map]; exact D.bulk_mem (List.mem_map.2 ⟨x, h, rfl⟩)
  obtain ⟨k, n, i, ls, sp, ks⟩ := x
  simp only [dBl, D.bulk, D.bulks, Bl.kids, Bl.info, Bl.lines] at *
  refine ⟨by omega, by omega, fun s hs => ?_⟩
  have h2 : (D.str s).bulk ≤ D.bulks (ls.map D.str) := D.bulk_mem (List.mem_map.2 ⟨s, hs, rfl⟩)
  simp only [D.bulk] at h2
  omega
theorem Rd.str_cell' {ok : Nat → Prop} {w : World} {A : Option Addr} {n c : Nat} {l : List ByteArray} (h : Rd ok w (.slice A n c) (l.map D.str)) {i : Nat} (hi : i < l.length) :
    ∃ b o, A = some ⟨b, o, none⟩ ∧ ok b ∧ b < w.heap.size ∧ w.cell? ⟨b, o + i, none⟩ = some (.string l[i]) := by
  obtain ⟨b, o, hA, hb, hlt, hc⟩ := h.strs (by omega)
  have := hc i hi
  refine ⟨b, o, hA, hb, hlt, ?_⟩
  rw [this]
  simp [hi]
theorem boxed {wr w2 w3 : World} {cs : Array Value} {t : TypeId} {b j : Nat} {v : Value} (h2 : Below (wr.alloc (.cells cs t)).heap.size (wr.alloc (.cells cs t)) w2) (h3 : w2.grownBy w3 (some b)) (hb : b < wr.heap.size) (hv : cs[j]? = some v) :
    w3.cell? ⟨wr.heap.size, j, none⟩ = some v := by
  have h0 := World.alloc_heap_new wr (.cells cs t)
  have h1 := h2.block wr.heap.size (by simp)
  have hs := h2.size
  have h4 := h3.block wr.heap.size (by simp at hs; omega) (fun e => by injection e with e; omega)
  have := h4.trans (h1.trans h0)
  exact (cell_of_row w3 wr.heap.size j _ _ _ this).trans hv
set_option maxHeartbeats 2000000 in
theorem tof_calls (b B : Nat) (hBb : B ≤ b) : ∀ (N : Nat) (l : List Bl) (_ : D.bulks (dBls l) ≤ N) (_ : N ≤ 4194304) (v : Value) (n : Nat) (ds : List (Bs × Bs)) (Dm : DataW Unit) (w : World) (_ : Rd (· < B) w v (dBls l)) (_ : OwnT w b n Dm) (_ : Tab ds Dm) (_ : n + (defsL l).length ≤ 1099511627776),
    Calls Tryd.prog 33 #[.map (some b), v] w fun e w' => e = .returned (.tuple #[]) ∧ ∃ D', OwnT w' b (n + (defsL l).length) D' ∧ Tab (ds ++ defsL l) D' ∧ w.grownBy w' (some b) := by
  intro N
  induction N with
  | zero =>
    intro l hl _ v n ds Dm w hR hown hT hn
    have h0 : l = [] := by
      have := D.len_bulks (dBls l)
      rw [dBls_len] at this
      exact List.eq_nil_of_length_eq_zero (by omega)
    subst h0
    obtain ⟨A, c, rfl, _⟩ := hR.form
    have HT := Lib.hid hT
    clear hT
    go_enter Tryd.func33, Tryd.ntmps33
    go_wp2
    go_rounds 1
    go_end0
    exact ⟨rfl, Dm, hown, by simpa [defsL] using HT.out, grown_refl _ _⟩
  | succ N ih =>
    intro l hl hN v n ds Dm w hR hown hT hn
    obtain ⟨A, c, rfl, hc, hmx⟩ := hR.form
    rw [dBls_len] at *
    have HR := Lib.hid hR
    have HL := Lib.hid hl
    have HT := Lib.hid hT
    have HO := Lib.hid hown
    have hbl := hown.lt
    clear hR hl hT hown
    go_enter Tryd.func33, Tryd.ntmps33
    go_wp2
    go_loopw [9] (fun vi wr => ∃ i : Nat, i ≤ l.length ∧ vi = .int .i64 i ∧ ∃ D', OwnT wr b (n + (defsL (l.take i)).length) D' ∧ Tab (ds ++ defsL (l.take i)) D' ∧ w.grownBy wr (some b)) (fun vi _ => l.length - (intOf vi).toNat)
    case atStart => exact ⟨0, Nat.zero_le _, rfl, Dm, HO.out, by simpa [defsL] using HT.out, grown_refl _ _⟩
    case round =>
      clear HO HT
      obtain ⟨i, hi, rfl, D1, hown, hT, hg⟩ := hrel
      by_cases hlt : i < l.length
      · have hstep : ∀ k, k < B → k < w.heap.size → wr.heap[k]? = w.heap[k]? := fun k hk hk2 => hg.block k hk2 (fun e => by injection e with e; omega)
        obtain ⟨bb, o, u, v, y, rfl, hokb, hbl2, c0', c1', c2', c3', c4', c5', hk1, hk2, hk3⟩ := HR.out.bl_at hlt
        have hcell : ∀ q {x}, w.cell? ⟨bb, q, none⟩ = some x → wr.cell? ⟨bb, q, none⟩ = some x := fun q x hx => (World.cell?_of_block (a := ⟨bb, q, none⟩) (hstep bb hokb hbl2)).trans hx
        have c0 := hcell _ c0'
        have c1 := hcell _ c1'
        have c2 := hcell _ c2'
        have c3 := hcell _ c3'
        have c4 := hcell _ c4'
        have c5 := hcell _ c5'
        clear c0' c1' c2' c3' c4' c5' hcell
        have hbx := bls_kids2 (List.getElem_mem hlt)
        have hsn : l.take (i + 1) = l.take i ++ [l[i]] := by rw [List.take_succ_eq_append_getElem hlt]
        have hcount : (defsL l).length = (defsL (l.take i)).length + (defsB l[i]).length + (defsL (l.drop (i + 1))).length := by
          have : l = l.take (i + 1) ++ l.drop (i + 1) := (List.take_append_drop _ _).symm
          conv => lhs; rw [this, defsL_append, hsn, defsL_snoc]
          simp only [List.length_append]
        generalize l[i] = x at *
        have hds : defsL (l.take (i + 1)) = defsL (l.take i) ++ defsB x := by rw [hsn, defsL_snoc]
        rw [defsB_eq] at hds hcount
        obtain ⟨K, k, rfl, hkl, _⟩ := hk1.form
        obtain ⟨S, sc, rfl, hsl, _⟩ := hk2.form
        obtain ⟨T, t, rfl, htl, _⟩ := hk3.form
        rw [dSps_len] at *
        rw [dBls_len] at *
        rw [List.length_map] at *
        obtain ⟨hb1, hb2, hb3⟩ := hbx
        have hLL := HL.out
        have hrec := fun (W : World) (n' : Nat) (ds' : List (Bs × Bs)) (D' : DataW Unit) (h1 : w.grownBy W (some b)) (h2 : OwnT W b n' D') (h3 : Tab ds' D') (h4 : n' + (defsL x.kids).length ≤ 1099511627776) =>
          ih x.kids (by omega) (by omega) (.slice T x.kids.length t) n' ds' D' W (hk3.step (fun k hk hk2 => h1.block k hk2 (fun e => by injection e with e; omega)) (fun _ h _ => h)) h2 h3 h4
        have hline := fun (h0 : 0 < x.lines.length) => hk1.str_cell' h0
        have hsz : x.info.size ≤ 4194304 := by omega
        have hga := fun o => grown_then hg (World.grownBy_alloc wr o (some b))
        have HREC := Lib.hid hrec
        have HDS := Lib.hid hds
        have HT := Lib.hid hT
        clear hrec hds hT hsn hk2 hk3 hLL
        generalize defsL (l.take i) = P0 at *
        by_cases hk8 : x.kind = 8
        · have hk8' : (x.kind == 8) = true := by simp [hk8]
          rw [if_pos hk8, List.length_append, List.length_singleton] at hcount
          have HDS2 := HDS.out
          rw [if_pos hk8] at HDS2
          have HD2 := Lib.hid HDS2
          clear hk8 HDS HDS2
          cases hls : x.lines with
          | nil =>
            have HD3 := HD2.out
            rw [hls, List.headD_nil] at HD3
            rw [hls, List.length_nil] at c3
            have HD4 := Lib.hid HD3
            clear hline hk1 HD2 HD3 hb3 hkl hls
            go_wp2_with (first
              | (go_at_call 32; go_must (refine (Fold_calls x.info _ hsz).mono ?_); rintro e w2 ⟨rfl, hbF⟩; have hg2 := grown_then (hga _) (grown_below hbF (some b)))
              | (go_at_call 39; go_must (refine (tadd_calls b _ _ _ (foldS x.info) ByteArray.empty w2 (map_below (hown.alloc _) hbF) HT.out (by unfold maxLen; omega) (by have := foldS_size x.info; unfold maxLen; omega) (by first | decide | (unfold maxLen; omega))).mono ?_); rintro e w3 ⟨rfl, D3, hown3, hT3, hg3⟩; have hg4 := grown_then hg2 hg3; have k5 := boxed (j := 5) hbF hg3 hown.lt rfl)
              | (go_at_call 33; go_must (refine (HREC.out w3 _ _ _ hg4 hown3 hT3 (by omega)).mono ?_); rintro e w5 ⟨rfl, D5, hown5, hT5, hg5⟩))
            go_roundw
            case rel => exact ⟨i + 1, by omega, by go_num, D5, hown5.mono (by rw [HD4.out]; simp only [List.length_append, List.length_singleton]; omega), by rw [HD4.out]; simpa [List.append_assoc] using hT5, grown_then hg4 hg5⟩
            case measure => simp [intOf]; omega
          | cons s r =>
            have hlen : 0 < x.lines.length := by rw [hls]; simp
            obtain ⟨b2, o2, rfl, hok2, hbl3, hcl⟩ := hline hlen
            have hs0 : x.lines[0] = s := by simp [hls]
            rw [hs0, Nat.add_zero] at hcl
            have hssz : s.size ≤ 4194304 := by have h1 := hb3 s (by rw [hls]; simp); have h2 := HL.out; omega
            have hcl2 : ∀ q, (wr.alloc q).cell? ⟨b2, o2, none⟩ = some (.string s) := fun q => (World.cell?_of_block (a := ⟨b2, o2, none⟩) (Below.heap_alloc wr q b2 (Nat.lt_of_lt_of_le hbl3 hg.size))).trans ((World.cell?_of_block (a := ⟨b2, o2, none⟩) (hstep b2 hok2 hbl3)).trans hcl)
            have HD3 := HD2.out
            rw [hls, List.headD_cons] at HD3
            have HD4 := Lib.hid HD3
            have hzl : (0 : Int) < x.lines.length := by omega
            clear hline hk1 HD2 HD3 hb3 hkl hls hcl hs0
            go_wp2_with (first
              | (go_at_call 32; go_must (refine (Fold_calls x.info _ hsz).mono ?_); rintro e w2 ⟨rfl, hbF⟩; have hg2 := grown_then (hga _) (grown_below hbF (some b)))
              | (go_at_call 39; go_must (refine (tadd_calls b _ _ _ (foldS x.info) s w2 (map_below (hown.alloc _) hbF) HT.out (by unfold maxLen; omega) (by have := foldS_size x.info; unfold maxLen; omega) (by first | decide | (unfold maxLen; omega))).mono ?_); rintro e w3 ⟨rfl, D3, hown3, hT3, hg3⟩; have hg4 := grown_then hg2 hg3; have k5 := boxed (j := 5) hbF hg3 hown.lt rfl)
              | (go_at_call 33; go_must (refine (HREC.out w3 _ _ _ hg4 hown3 hT3 (by omega)).mono ?_); rintro e w5 ⟨rfl, D5, hown5, hT5, hg5⟩))
            go_roundw
            case rel => exact ⟨i + 1, by omega, by go_num, D5, hown5.mono (by rw [HD4.out]; simp only [List.length_append, List.length_singleton]; omega), by rw [HD4.out]; simpa [List.append_assoc] using hT5, grown_then hg4 hg5⟩
            case measure => simp [intOf]; omega
        · have hk8' : (x.kind == 8) = false := beq_eq_false_iff_ne.2 hk8
          have HD3 := HDS.out
          rw [if_neg hk8, List.nil_append] at HD3
          rw [if_neg hk8, List.nil_append] at hcount
          have HD4 := Lib.hid HD3
          clear hk8 HDS HD3 hline hk1 hb3
          go_wp2_with (go_at_call 33; go_must (refine (HREC.out _ _ _ _ (hga _) (hown.alloc _) HT.out (by omega)).mono ?_); rintro e w5 ⟨rfl, D5, hown5, hT5, hg5⟩)
          go_roundw
          case rel => exact ⟨i + 1, by omega, by go_num, D5, hown5.mono (by rw [HD4.out]; simp only [List.length_append]; omega), by rw [HD4.out]; simpa [List.append_assoc] using hT5, grown_then (hga _) hg5⟩
          case measure => simp [intOf]; omega
      · have hie : i = l.length := by omega
        rw [hie, List.take_length] at hT hown
        have HT2 := Lib.hid hT
        clear hT
        go_wp2
        go_end0
        exact ⟨rfl, D1, hown, HT2.out, hg⟩
end Go.Proofs.YtnoloihdcmgbaaaDoor
