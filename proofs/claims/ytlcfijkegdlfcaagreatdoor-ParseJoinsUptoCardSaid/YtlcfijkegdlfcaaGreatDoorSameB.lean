/- The walk of the document's Same of blocks (layer 10). -/
import Derived.Test.YtlcfijkegdlfcaaGreatDoorSameR
import Derived.Test.YtlcfijkegdlfcaaGreatDoorTill
import Derived.Test.YtlcfijkegdlfcaaGreatDoorLit
import Derived.Deep.DeepCutAuto
namespace Go.Proofs.YtlcfijkegdlfcaaGreatDoor
open Go.RowKit Go.PlainAid
set_option linter.all false
set_option linter.deprecated false
set_option maxRecDepth 100000
theorem says_drew {x : Bool} {f : FuncId} {args : Array Value} {w : World} (h : Calls Tryz.prog f args w fun e w' => e = .returned (.bool x) ∧ ∃ q, w' = w.drewN q) : Calls Tryz.prog f args w fun e w' => e = .returned (.bool x) ∧ Below w.heap.size w w' :=
  h.mono fun _ _ ⟨he, q, hq⟩ => ⟨he, hq ▸ below_drewN (Below.refl _ _) q⟩
set_option maxHeartbeats 8000000 in
theorem RSame10_calls : ∀ (N : Nat) (a b : List Bl) (_ : D.bulks (dBls a) < N) (B : Nat) (va vb : Value) (w : World) (_ : Rd (· < B) w va (dBls a)) (_ : Rd (· < B) w vb (dBls b)) (_ : B ≤ w.heap.size),
    Calls Tryz.prog 15 #[va, vb] w fun e w' => e = .returned (.bool (eqBls a b)) ∧ Below w.heap.size w w' := by
  intro N
  induction N with
  | zero => intro _ _ h; exact absurd h (Nat.not_lt_zero _)
  | succ N ih =>
    have IH := Lib.hid ih
    clear ih
    intro a b hN B va vb w hA hB hBw
    obtain ⟨A, ca, rfl, hca, hma⟩ := hA.form
    obtain ⟨A', cb, rfl, hcb, hmb⟩ := hB.form
    rw [dBls_len] at *
    rw [dBls_len] at *
    by_cases hl : a.length = b.length
    · have hz : ((a.length : Int) == (b.length : Int)) = true := by simp [hl]
      have HA := Lib.hid hA
      have HB := Lib.hid hB
      have HL := Lib.hid hl
      clear hA hB hl
      go_enter Tryz.func15, Tryz.ntmps15
      go_wp2_with fail
      go_loopw [15] (fun vi wr => ∃ i : Nat, i ≤ a.length ∧ vi = .int .i64 i ∧ Hid (eqBls (a.take i) (b.take i) = true) ∧ Below w.heap.size w wr) (fun vi _ => a.length - (intOf vi).toNat)
      case atStart => exact ⟨0, Nat.zero_le _, rfl, Lib.hid (by simp [eqBls]), Below.refl _ _⟩
      case round =>
        obtain ⟨i, hi, rfl, hq, hbr⟩ := hrel
        have hwr := hbr.size
        by_cases hlt : i < a.length
        · have hltb : i < b.length := by have := HL.out; omega
          have hAr := HA.out.step (ok' := (· < B)) (fun k hk _ => hbr.block k (by omega)) (fun _ h _ => h)
          have hBr := HB.out.step (ok' := (· < B)) (fun k hk _ => hbr.block k (by omega)) (fun _ h _ => h)
          obtain ⟨ba, oa, u, v, y, rfl, hka, hba, x0, x1, x2, x3, x4, x5, h1, h2, h3⟩ := hAr.bl_at hlt
          obtain ⟨bb, ob, u', v', y', rfl, hkb, hbb, y0, y1, y2, y3, y4, y5, h1', h2', h3'⟩ := hBr.bl_at hltb
          have hbk : (dBl a[i]).bulk ≤ D.bulks (dBls a) := by rw [dBls_map]; exact D.bulk_mem (List.mem_map.2 ⟨_, List.getElem_mem hlt, rfl⟩)
          have HAT := Lib.hid (eqBls_at hq.out hlt hltb)
          have HNO := Lib.hid (fun h => eqBls_no (a := a) (b := b) (i := i) h)
          generalize a[i] = x at *
          generalize b[i] = z at *
          obtain ⟨K, n, s, ls, sp, L⟩ := x
          obtain ⟨K', n', s', ls', sp', L'⟩ := z
          simp only [Bl.kind, Bl.level, Bl.info, Bl.lines, Bl.spans, Bl.kids] at x0 x1 x2 x3 x4 x5 y0 y1 y2 y3 y4 y5 h1 h2 h3 h1' h2' h3'
          obtain ⟨T1, t1, rfl, _, _⟩ := h1.form
          obtain ⟨T2, t2, rfl, _, _⟩ := h2.form
          obtain ⟨T3, t3, rfl, _, _⟩ := h3.form
          obtain ⟨T1', t1', rfl, _, _⟩ := h1'.form
          obtain ⟨T2', t2', rfl, _, _⟩ := h2'.form
          obtain ⟨T3', t3', rfl, _, _⟩ := h3'.form
          simp only [dSps_len, dBls_len, List.length_map] at x3 x4 x5 y3 y4 y5 h1 h2 h3 h1' h2' h3'
          have hbL : D.bulks (dBls L) < N := by simp only [dBl, D.bulk, D.bulks] at hbk; omega
          have hc1 := fun W (hW : Below wr.heap.size wr W) => says_drew (texts10_calls (ok := (· < B)) (ok' := (· < B)) _ _ ls ls' W (h1.step (fun k hk _ => hW.block k (by omega)) (fun _ h _ => h)) (h1'.step (fun k hk _ => hW.block k (by omega)) (fun _ h _ => h)))
          have hc2 := fun W (hW : Below wr.heap.size wr W) => says_drew (RSame07_calls _ sp sp' (Nat.lt_succ_self _) _ _ W (h2.step (fun k hk _ => hW.block k (by omega)) (fun k hk _ => by have := hW.size; omega)) (h2'.step (fun k hk _ => hW.block k (by omega)) (fun k hk _ => by have := hW.size; omega)))
          have hc3 := fun W (hW : Below wr.heap.size wr W) => IH.out L L' hbL B _ _ W (h3.step (fun k hk _ => hW.block k (by omega)) (fun _ h _ => h)) (h3'.step (fun k hk _ => hW.block k (by omega)) (fun _ h _ => h)) (by have := hW.size; omega)
          have H1 := Lib.hid hc1
          have H2 := Lib.hid hc2
          have H3 := Lib.hid hc3
          clear h1 h2 h3 h1' h2' h3' hAr hBr hc1 hc2 hc3
          have z : ∀ o c, (wr.alloc o).cell? ⟨ba, c, none⟩ = wr.cell? ⟨ba, c, none⟩ := fun o c => World.cell?_of_block (Below.heap_alloc wr o _ hba)
          have z' : ∀ o c, (wr.alloc o).cell? ⟨bb, c, none⟩ = wr.cell? ⟨bb, c, none⟩ := fun o c => World.cell?_of_block (Below.heap_alloc wr o _ hbb)
          have zz : ∀ o o' c, ((wr.alloc o).alloc o').cell? ⟨ba, c, none⟩ = wr.cell? ⟨ba, c, none⟩ := fun o o' c => World.cell?_of_block ((Below.heap_alloc _ o' _ (by simp; omega)).trans (Below.heap_alloc wr o _ hba))
          have zz' : ∀ o o' c, ((wr.alloc o).alloc o').cell? ⟨bb, c, none⟩ = wr.cell? ⟨bb, c, none⟩ := fun o o' c => World.cell?_of_block ((Below.heap_alloc _ o' _ (by simp; omega)).trans (Below.heap_alloc wr o _ hbb))
          go_upto_region 7 with (fail)
          go_cut [6, 7] (fun s1 s2 wx => ∃ g h, s1 = .pointer (some ⟨g, 0, none⟩) ∧ s2 = .pointer (some ⟨h, 0, none⟩) ∧ wx.heap[g]? = some (.cells #[.int .i64 K, .int .i64 n, .string s, .slice T1 ls.length t1, .slice T2 sp.length t2, .slice T3 L.length t3] 36 (0, 0)) ∧
            wx.heap[h]? = some (.cells #[.int .i64 K', .int .i64 n', .string s', .slice T1' ls'.length t1', .slice T2' sp'.length t2', .slice T3' L'.length t3'] 36 (0, 0)) ∧ Below wr.heap.size wr wx)
          case first =>
            refine wp_region_till 11 (fun w' => w'.cell? ⟨ba, oa + i * 6, none⟩ = some (.int .i64 K) ∧ w'.cell? ⟨ba, oa + i * 6 + 1, none⟩ = some (.int .i64 n) ∧ w'.cell? ⟨ba, oa + i * 6 + 2, none⟩ = some (.string s) ∧ w'.cell? ⟨ba, oa + i * 6 + 3, none⟩ = some (.slice T1 ls.length t1) ∧ w'.cell? ⟨ba, oa + i * 6 + 4, none⟩ = some (.slice T2 sp.length t2) ∧ w'.cell? ⟨ba, oa + i * 6 + 5, none⟩ = some (.slice T3 L.length t3) ∧
              w'.cell? ⟨bb, ob + i * 6, none⟩ = some (.int .i64 K') ∧ w'.cell? ⟨bb, ob + i * 6 + 1, none⟩ = some (.int .i64 n') ∧ w'.cell? ⟨bb, ob + i * 6 + 2, none⟩ = some (.string s') ∧ w'.cell? ⟨bb, ob + i * 6 + 3, none⟩ = some (.slice T1' ls'.length t1') ∧ w'.cell? ⟨bb, ob + i * 6 + 4, none⟩ = some (.slice T2' sp'.length t2') ∧ w'.cell? ⟨bb, ob + i * 6 + 5, none⟩ = some (.slice T3' L'.length t3')) (by kernel_rfl) ⟨x0, x1, x2, x3, x4, x5, y0, y1, y2, y3, y4, y5⟩ (fun hT => ?_)
            refine wpAnyT_take (i := 0) (v := ?_) rfl (by kernel_rfl) (fun _ _ _ h => h) (Or.inl ⟨by rfl, ?_⟩) hT (fun hT => ?_)
            rotate_left
            · intro w _; go_simp; try with_reducible rfl
            try simp only [Act.put, List.setIfInBounds_toArray, List.set_cons_zero, List.set_cons_succ]
            refine wpAnyT_take (i := 1) (v := ?_) rfl (by kernel_rfl) (fun _ _ _ h => h) (Or.inl ⟨by rfl, ?_⟩) hT (fun hT => ?_)
            rotate_left
            · intro w _; go_simp; try with_reducible rfl
            try simp only [Act.put, List.setIfInBounds_toArray, List.set_cons_zero, List.set_cons_succ]
            refine wpAnyT_take (i := 2) (v := ?_) rfl (by kernel_rfl) (fun _ _ _ h => h) (Or.inl ⟨by rfl, ?_⟩) hT (fun hT => ?_)
            rotate_left
            · intro w _; go_simp; try with_reducible rfl
            try simp only [Act.put, List.setIfInBounds_toArray, List.set_cons_zero, List.set_cons_succ]
            refine wpAnyT_load (i := 3) (v := ?_) 40 rfl (by kernel_rfl) (fun _ _ _ h => h) (Or.inl ⟨by rfl, ?_⟩) hT (fun hT => ?_)
            rotate_left
            · intro w hS; (try dsimp only at hS); go_split_ands; go_simp; try with_reducible rfl
            try simp only [Act.put, List.setIfInBounds_toArray, List.set_cons_zero, List.set_cons_succ]
            refine wpAnyT_take (i := 4) (v := ?_) rfl (by kernel_rfl) (fun _ _ _ h => h) (Or.inl ⟨by rfl, ?_⟩) hT (fun hT => ?_)
            rotate_left
            · intro w _; go_simp; try with_reducible rfl
            try simp only [Act.put, List.setIfInBounds_toArray, List.set_cons_zero, List.set_cons_succ]
            refine wpAnyT_take (i := 5) (v := ?_) rfl (by kernel_rfl) (fun _ _ _ h => h) (Or.inl ⟨by rfl, ?_⟩) hT (fun hT => ?_)
            rotate_left
            · intro w _; go_simp; try with_reducible rfl
            try simp only [Act.put, List.setIfInBounds_toArray, List.set_cons_zero, List.set_cons_succ]
            refine wpAnyT_take (i := 6) (v := ?_) rfl (by kernel_rfl) (fun _ _ _ h => h) (Or.inl ⟨by rfl, ?_⟩) hT (fun hT => ?_)
            rotate_left
            · intro w _; go_simp; try with_reducible rfl
            try simp only [Act.put, List.setIfInBounds_toArray, List.set_cons_zero, List.set_cons_succ]
            refine wpAnyT_load (i := 7) (v := ?_) 40 rfl (by kernel_rfl) (fun _ _ _ h => h) (Or.inl ⟨by rfl, ?_⟩) hT (fun hT => ?_)
            rotate_left
            · intro w hS; (try dsimp only at hS); go_split_ands; go_simp; try with_reducible rfl
            try simp only [Act.put, List.setIfInBounds_toArray, List.set_cons_zero, List.set_cons_succ]
            refine wpAnyT_ready (rs := [8, 9]) (by kernel_rfl) (by simp) ?_
            refine ReadyT.cons rfl (fun K hK => ?_) (ReadyT.cons rfl (fun K hK => ?_) ReadyT.nil)
            · go_simp
              refine hK.out _ _ (fun _ => ⟨(z _ _).trans x0, (z _ _).trans x1, (z _ _).trans x2, (z _ _).trans x3, (z _ _).trans x4, (z _ _).trans x5, (z' _ _).trans y0, (z' _ _).trans y1, (z' _ _).trans y2, (z' _ _).trans y3, (z' _ _).trans y4, (z' _ _).trans y5⟩) (fun hT => ?_)
              clear hK K
              try simp only [Act.put, List.setIfInBounds_toArray, List.set_cons_zero, List.set_cons_succ]
              refine wpAnyT_ready (rs := [9]) (by kernel_rfl) (by simp) ?_
              refine ReadyT.cons rfl (fun K hK => ?_) ReadyT.nil
              go_simp
              refine hK.out _ _ (fun _ => ⟨(zz _ _ _).trans x0, (zz _ _ _).trans x1, (zz _ _ _).trans x2, (zz _ _ _).trans x3, (zz _ _ _).trans x4, (zz _ _ _).trans x5, (zz' _ _ _).trans y0, (zz' _ _ _).trans y1, (zz' _ _ _).trans y2, (zz' _ _ _).trans y3, (zz' _ _ _).trans y4, (zz' _ _ _).trans y5⟩) (fun hT => ?_)
              clear hK K
              try simp only [Act.put, List.setIfInBounds_toArray, List.set_cons_zero, List.set_cons_succ]
              refine wpAnyT_ready (rs := [10]) (by kernel_rfl) (by simp) ?_
              refine ReadyT.cons rfl (fun K hK => ?_) ReadyT.nil
              go_simp
              refine hK.out _ _ (fun _ => ⟨(zz _ _ _).trans x0, (zz _ _ _).trans x1, (zz _ _ _).trans x2, (zz _ _ _).trans x3, (zz _ _ _).trans x4, (zz _ _ _).trans x5, (zz' _ _ _).trans y0, (zz' _ _ _).trans y1, (zz' _ _ _).trans y2, (zz' _ _ _).trans y3, (zz' _ _ _).trans y4, (zz' _ _ _).trans y5⟩) (fun hT => ?_)
              clear hK K
              try simp only [Act.put, List.setIfInBounds_toArray, List.set_cons_zero, List.set_cons_succ]
              refine wpAnyT_ready (rs := [11]) (by kernel_rfl) (by simp) ?_
              refine ReadyT.cons rfl (fun K hK => ?_) ReadyT.nil
              go_simp
              refine hK.out _ _ (fun h => by simp at h) (fun hT => ?_)
              clear hK K
              try simp only [Act.put, List.setIfInBounds_toArray, List.set_cons_zero, List.set_cons_succ]
              refine wpAnyT_done (by kernel_rfl) ?_ _
              go_wp2
              go_meet
              case rel => exact ⟨_, _, rfl, rfl, two_old _ _ _, two_new _ _ _, Below.drew (below_alloc (below_alloc (Below.refl _ _) (Nat.le_refl _) _) (by simp) _)⟩
            · go_simp
              refine hK.out _ _ (fun _ => ⟨(z _ _).trans x0, (z _ _).trans x1, (z _ _).trans x2, (z _ _).trans x3, (z _ _).trans x4, (z _ _).trans x5, (z' _ _).trans y0, (z' _ _).trans y1, (z' _ _).trans y2, (z' _ _).trans y3, (z' _ _).trans y4, (z' _ _).trans y5⟩) (fun hT => ?_)
              clear hK K
              try simp only [Act.put, List.setIfInBounds_toArray, List.set_cons_zero, List.set_cons_succ]
              refine wpAnyT_ready (rs := [8]) (by kernel_rfl) (by simp) ?_
              refine ReadyT.cons rfl (fun K hK => ?_) ReadyT.nil
              go_simp
              refine hK.out _ _ (fun _ => ⟨(zz _ _ _).trans x0, (zz _ _ _).trans x1, (zz _ _ _).trans x2, (zz _ _ _).trans x3, (zz _ _ _).trans x4, (zz _ _ _).trans x5, (zz' _ _ _).trans y0, (zz' _ _ _).trans y1, (zz' _ _ _).trans y2, (zz' _ _ _).trans y3, (zz' _ _ _).trans y4, (zz' _ _ _).trans y5⟩) (fun hT => ?_)
              clear hK K
              try simp only [Act.put, List.setIfInBounds_toArray, List.set_cons_zero, List.set_cons_succ]
              refine wpAnyT_ready (rs := [10]) (by kernel_rfl) (by simp) ?_
              refine ReadyT.cons rfl (fun K hK => ?_) ReadyT.nil
              go_simp
              refine hK.out _ _ (fun _ => ⟨(zz _ _ _).trans x0, (zz _ _ _).trans x1, (zz _ _ _).trans x2, (zz _ _ _).trans x3, (zz _ _ _).trans x4, (zz _ _ _).trans x5, (zz' _ _ _).trans y0, (zz' _ _ _).trans y1, (zz' _ _ _).trans y2, (zz' _ _ _).trans y3, (zz' _ _ _).trans y4, (zz' _ _ _).trans y5⟩) (fun hT => ?_)
              clear hK K
              try simp only [Act.put, List.setIfInBounds_toArray, List.set_cons_zero, List.set_cons_succ]
              refine wpAnyT_ready (rs := [11]) (by kernel_rfl) (by simp) ?_
              refine ReadyT.cons rfl (fun K hK => ?_) ReadyT.nil
              go_simp
              refine hK.out _ _ (fun h => by simp at h) (fun hT => ?_)
              clear hK K
              try simp only [Act.put, List.setIfInBounds_toArray, List.set_cons_zero, List.set_cons_succ]
              refine wpAnyT_done (by kernel_rfl) ?_ _
              go_wp2
              go_meet
              case rel => exact ⟨_, _, rfl, rfl, two_new _ _ _, two_old _ _ _, Below.drew (below_alloc (below_alloc (Below.refl _ _) (Nat.le_refl _) _) (by simp) _)⟩
          case rest =>
            obtain ⟨gx, gy, rfl, rfl, hgx, hgy, hbx⟩ := hcut
            have hlx : gx < wc.heap.size := (Array.getElem?_eq_some_iff.1 hgx).1
            have hly : gy < wc.heap.size := (Array.getElem?_eq_some_iff.1 hgy).1
            have f0 := (row_facts hgx 0 rfl).1
            have f1 := (row_facts hgx 1 rfl).1
            have f2 := (row_facts hgx 2 rfl).1
            have f3 := (row_facts hgx 3 rfl).1
            have f4 := (row_facts hgx 4 rfl).1
            have f5 := (row_facts hgx 5 rfl).1
            have e0 := (row_facts hgy 0 rfl).1
            have e1 := (row_facts hgy 1 rfl).1
            have e2 := (row_facts hgy 2 rfl).1
            have e3 := (row_facts hgy 3 rfl).1
            have e4 := (row_facts hgy 4 rfl).1
            have e5 := (row_facts hgy 5 rfl).1
            have hbc := below_to hbr hwr hbx
            clear hgx hgy x0 x1 x2 x3 x4 x5 y0 y1 y2 y3 y4 y5 z z' zz zz'
            by_cases hK : K = K'
            rotate_left
            · have bq : (K != K') = true := bne_t hK
              have HE := Lib.hid (HNO.out (by rw [HAT.out]; simp [eqBl, hK]))
              clear hK
              go_wp2_with fail
              go_ret
              exact ⟨ret_bool HE.out.symm, hbc⟩
            by_cases hn : n = n'
            rotate_left
            · have bk : (K != K') = false := bne_f hK
              have bq : (n != n') = true := bne_t hn
              have HE := Lib.hid (HNO.out (by rw [HAT.out]; simp [eqBl, hn]))
              clear hK hn
              go_wp2_with fail
              go_ret
              exact ⟨ret_bool HE.out.symm, hbc⟩
            by_cases hs : s = s'
            rotate_left
            · have bk : (K != K') = false := bne_f hK
              have bn : (n != n') = false := bne_f hn
              have bq := beq_f hs
              have HE := Lib.hid (HNO.out (by rw [HAT.out]; simp [eqBl, hs]))
              clear hK hn hs
              go_wp2_with fail
              go_ret
              exact ⟨ret_bool HE.out.symm, hbc⟩
            subst hK; subst hn; subst hs
            have bq := beq_t (rfl : s = s)
            have HC1 := Lib.hid (H1.out wc hbx)
            clear H1
            cases hls : decide (ls = ls') with
            | false =>
              rw [hls] at HC1
              have HE := Lib.hid (HNO.out (by rw [HAT.out]; simp [eqBl, hls]))
              clear hls H2 H3
              go_wp2_with fail
              refine HC1.out.mono ?_
              rintro e w1 ⟨rfl, hb⟩
              go_wp2_with fail
              go_ret
              exact ⟨ret_bool HE.out.symm, below_to hbc hbc.size hb⟩
            | true =>
              rw [hls] at HC1
              go_wp2_with fail
              refine HC1.out.mono ?_
              rintro e w1 ⟨rfl, hb⟩
              have hb1 := below_to hbx hbx.size hb
              have hbd := below_to hbc hbc.size hb
              have hlx1 : gx < w1.heap.size := Nat.lt_of_lt_of_le hlx hb.size
              have hly1 : gy < w1.heap.size := Nat.lt_of_lt_of_le hly hb.size
              have g4 := below_at' hb hlx f4
              have g5 := below_at' hb hlx f5
              have d4 := below_at' hb hly e4
              have d5 := below_at' hb hly e5
              have HC2 := Lib.hid (H2.out w1 hb1)
              clear H2 f0 f1 f2 f3 f4 f5 e0 e1 e2 e3 e4 e5
              cases hsp : eqSps sp sp' with
              | false =>
                rw [hsp] at HC2
                have HE := Lib.hid (HNO.out (by rw [HAT.out]; simp [eqBl, hsp]))
                clear hls hsp H3
                go_wp2_with fail
                refine HC2.out.mono ?_
                rintro e w2 ⟨rfl, hb2⟩
                go_wp2_with fail
                go_ret
                exact ⟨ret_bool HE.out.symm, below_to hbd hbd.size hb2⟩
              | true =>
                rw [hsp] at HC2
                go_wp2_with fail
                refine HC2.out.mono ?_
                rintro e w2 ⟨rfl, hb2⟩
                have hb3 := below_to hb1 hb1.size hb2
                have hbe := below_to hbd hbd.size hb2
                have c5 := below_at' hb2 hlx1 g5
                have b5 := below_at' hb2 hly1 d5
                have HC3 := Lib.hid (H3.out w2 hb3)
                have he : eqBl (.mk K n s ls sp L) (.mk K n s ls' sp' L') = eqBls L L' := by simp [eqBl, hsp, of_decide_eq_true hls]
                have HAT2 := Lib.hid (HAT.out.trans he)
                clear H3 g4 g5 d4 d5 he hls hsp HAT
                cases hv : eqBls L L' with
                | true =>
                  rw [hv] at HC3 HAT2
                  clear hv
                  go_wp2_with fail
                  refine HC3.out.mono ?_
                  rintro e w3 ⟨rfl, hb4⟩
                  go_wp2_with fail
                  go_roundw
                  case rel => exact ⟨i + 1, by omega, by go_num, HAT2, below_to hbe hbe.size hb4⟩
                  case measure => simp [intOf]; omega
                | false =>
                  rw [hv] at HC3 HAT2
                  have HE := Lib.hid (HNO.out HAT2.out)
                  clear hv
                  go_wp2_with fail
                  refine HC3.out.mono ?_
                  rintro e w3 ⟨rfl, hb4⟩
                  go_wp2_with fail
                  go_ret
                  exact ⟨ret_bool HE.out.symm, below_to hbe hbe.size hb4⟩
        · have hie : i = a.length := by omega
          have hq2 := hq.out
          rw [hie, List.take_length, HL.out, List.take_length] at hq2
          have HQ := Lib.hid hq2
          clear hq2 hie
          go_wp2_with fail
          go_ret
          exact ⟨ret_bool HQ.out.symm, hbr⟩
    · rw [eqBls_len hl]
      have hz : ((a.length : Int) == (b.length : Int)) = false := beq_eq_false_iff_ne.2 (by omega)
      clear hA hB hl
      go_enter Tryz.func15, Tryz.ntmps15
      go_wp2_with fail
      go_ret
      exact ⟨rfl, Below.refl _ _⟩
end Go.Proofs.YtlcfijkegdlfcaaGreatDoor
