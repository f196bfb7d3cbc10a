/- The walk of weave.Merge. -/
import Derived.Test.YtnoloihdcmgbaaaChunks
import Derived.Test.YtnoloihdcmgbaaaClean
import Derived.Laws.AppendOwnNone
namespace Go.Proofs.Ytnoloihdcmgbaaa
open Go.RowKit Go.PlainAid
set_option linter.unusedVariables false

/-- append(v, x...): x's cells are news. -/
theorem app_many {P : Program} {ops : Array Oper} {rest : List Oper} {o : Oper} {a : Act} {Q : Exit → Act → World → Prop} {W : World} (base : Nat) (hgd : o.guard = none) (s x : Operand) (t e : TypeId) {z : Value} {size bytes : Nat}
    (ho : o.op = .call { callee := .builtin .append, args := #[s, x], argTypes := #[t, t] })
    (ht : P.underlying t = some (.slice e)) (hinfo : (P.info? e).map (fun i => (i.zero, i.size, i.bytes)) = some (some z, size, bytes)) (hz : z.cells.size = size) (hs0 : 0 < size) (hb0 : 0 < bytes)
    {v : Value} {n m c : Nat} {A : Option Addr} {xs : List Value} (news : List Value) (hs : a.eval s = v) (hx : a.eval x = .slice A m c) (hn : news.length = m * size) (h1 : ∀ u ∈ news, u.oneCell' = true)
    (hA : A = none → c = 0) (hc : 0 < m → ∃ b o, A = some ⟨b, o, none⟩ ∧ ∀ j u, news[j]? = some u → W.cell? ⟨b, o + j, none⟩ = some u)
    (hown : W.ownsRow base e size v n xs) (hbase : base ≤ W.heap.size) (hl : (n + m) * bytes ≤ 140737488355328)
    (h : ∀ v' w', w'.ownsRow base e size v' (n + m) (xs ++ news) → Below base W w' → wpList P ops Q rest (a.put o.dst v') w') : wpList P ops Q (o :: rest) a W := by
  obtain ⟨i0, hi, hz0, hz1, hz2⟩ := info_parts hinfo
  have hlen : n + m ≤ 140737488355328 := Nat.le_trans (Nat.le_mul_of_pos_right _ hb0) hl
  cases A with
  | none =>
    have hm : m = 0 := by
      rcases Nat.eq_zero_or_pos m with h0 | h0
      · exact h0
      · obtain ⟨b, o', h, _⟩ := hc h0; cases h
    subst hm
    have hnn : news = [] := List.eq_nil_of_length_eq_zero (by omega)
    subst hnn
    rw [hA rfl] at hx
    refine wpList_append_own_none hgd s x t ho base e i0 size ht hi v n xs hs hown hx (h v W (by simpa using hown) (Below.refl _ _))
  | some ad =>
    refine wpList_append_own_at W hgd s x t ho base e i0 z size bytes ht hi hz0 hz1 hz2 hz hs0 v n xs hs hown ad m c news hx hn ?_ h1 (by simp only [maxLen]; omega) hl hbase ?_
    · intro j u hj
      have hlt := (List.getElem?_eq_some_iff.1 hj).1
      obtain ⟨b, o', hb, hcc⟩ := hc (Nat.pos_of_ne_zero (fun h0 => by subst h0; omega))
      cases hb
      have := hcc j u hj
      unfold Addr.add
      split
      · rename_i h0; subst h0; simpa using this
      · exact this
    · intro v1 w1 ho1 hg _ _
      exact h v1 w1 ho1 ((Below.refl _ _).grown hg hbase (fun k hk => own_ge hown k hk))
section
variable {α : Type} [DecidableEq α]
/-- What a chunk that doesn't clash gives. -/
def takeCh (zo zt : List α) (c : Ch) : List α := if c.out = 2 ∨ c.out = 4 then part zo c.o0 c.o1 else part zt c.t0 c.t1
/-- What comes of three lists, if nothing clashes. -/
def mergeL (zb zo zt : List α) : Option (List α) := if (chunks zb zo zt).any (fun c => c.out == 5) then none else some ((chunks zb zo zt).flatMap (takeCh zo zt))
/-- The ends of a chunk lie in the lists. -/
structure InCh (no nt : Nat) (c : Ch) : Prop where
  o0 : c.o0 ≤ c.o1
  o1 : c.o1 ≤ no
  t0 : c.t0 ≤ c.t1
  t1 : c.t1 ≤ nt
theorem chunksF_in {zb zo zt : List α} {ko kt : List Int} : ∀ (f x y z : Nat), St zb zo zt ko kt x y z →
    (∀ c ∈ chunksF zb zo zt ko kt f x y z, InCh zo.length zt.length c) ∧ ((chunksF zb zo zt ko kt f x y z).flatMap (takeCh zo zt)).length ≤ (zo.length - y) + (zt.length - z)
  | 0, _, _, _, _ => by simp [chunksF]
  | f + 1, x, y, z, h => by
    rw [chunksF]
    split
    · obtain ⟨h0, h1, h2, h3, h4, h5, hs, _⟩ := chunk_spec h
      obtain ⟨ih1, ih2⟩ := chunksF_in f _ _ _ hs
      have hy := hs.hy
      have hz := hs.hz
      generalize chunkAt zb zo zt ko kt x y z = c at *
      refine ⟨fun d hd => ?_, ?_⟩
      · rcases List.mem_cons.1 hd with rfl | hd
        · exact ⟨by omega, hy, by omega, hz⟩
        · exact ih1 d hd
      · rw [List.flatMap_cons, List.length_append]
        have : (takeCh zo zt c).length ≤ (c.o1 - y) + (c.t1 - z) := by
          unfold takeCh
          split
          · rw [part_len hy]; omega
          · rw [part_len hz]; omega
        omega
    · simp
theorem chunks_in (zb zo zt : List α) : (∀ c ∈ chunks zb zo zt, InCh zo.length zt.length c) ∧ ((chunks zb zo zt).flatMap (takeCh zo zt)).length ≤ zo.length + zt.length := chunksF_in _ _ _ _ (st_zero zb zo zt)
end

theorem cut_news {ok : Nat → Prop} {w W : World} {O A' : Option Addr} {n co a b : Nat} {zs : List Int} (h : CutOf O n co a b A') (hr : Rd ok w (.slice O n co) (zs.map (D.int .i64))) (hab : a ≤ b) (hb : b ≤ n) (hW : ∀ k, ok k → k < w.heap.size → W.heap[k]? = w.heap[k]?) :
    ((part zs a b).map (Value.int .i64)).length = (b - a) * 1 ∧ (A' = none → co - a = 0) ∧ (0 < b - a → ∃ k o, A' = some ⟨k, o, none⟩ ∧ ∀ j u, ((part zs a b).map (Value.int .i64))[j]? = some u → W.cell? ⟨k, o + j, none⟩ = some u) := by
  have hc : Rd ok W (.slice A' (b - a) (co - a)) ((part zs a b).map (D.int .i64)) := (h.rd hr hab hb).step hW (fun _ h _ => h)
  have hl := (rd_ints hc).1
  refine ⟨by rw [List.length_map, hl, Nat.mul_one], fun e => by subst e; exact hc.nocap, fun h0 => ?_⟩
  obtain ⟨k, o, hA, _, _, hcell⟩ := hc.ints (by omega)
  refine ⟨k, o, hA, fun j u hj => ?_⟩
  rw [List.getElem?_map] at hj
  have hlt : j < (part zs a b).length := by
    rcases Nat.lt_or_ge j (part zs a b).length with h | h
    · exact h
    · rw [List.getElem?_eq_none h] at hj; cases hj
  rw [hcell j hlt]
  rw [List.getElem?_eq_getElem hlt] at hj
  simpa [hlt] using hj

set_option maxRecDepth 100000 in
set_option maxHeartbeats 2000000 in
theorem Merge_calls (vb vo vt : Value) (zb zo zt : List Int) (w : World) (hnb : zb.length ≤ 1048575) (hno : zo.length ≤ 1048575) (hnt : zt.length ≤ 1048575)
    (hB : Rd (· < w.heap.size) w vb (zb.map (D.int .i64))) (hO : Rd (· < w.heap.size) w vo (zo.map (D.int .i64))) (hT : Rd (· < w.heap.size) w vt (zt.map (D.int .i64))) :
    Calls Try.prog 20 #[vb, vo, vt] w fun e w' => ∃ v, e = .returned (.tuple #[v, .bool (mergeL zb zo zt).isSome]) ∧ w'.ownsRow w.heap.size 3 1 v ((mergeL zb zo zt).getD []).length (((mergeL zb zo zt).getD []).map (Value.int .i64)) ∧ Below w.heap.size w w' := by
  obtain ⟨A, cb, rfl, hcb, _⟩ := hB.form
  obtain ⟨O, co, rfl, hco, _⟩ := hO.form
  obtain ⟨T, ct, rfl, hct, _⟩ := hT.form
  simp only [List.length_map] at *
  have HB := Lib.hid hB
  have HO := Lib.hid hO
  have HT := Lib.hid hT
  clear hB hO hT
  have hln := chunks_len zb zo zt
  obtain ⟨hin, hsum⟩ := chunks_in zb zo zt
  have hm : mergeL zb zo zt = if (chunks zb zo zt).any (fun c => c.out == 5) then none else some ((chunks zb zo zt).flatMap (takeCh zo zt)) := rfl
  have hch := Chunks_calls _ _ _ zb zo zt w hnb hno hnt HB.out HO.out HT.out
  generalize chunks zb zo zt = cs at *
  generalize mergeL zb zo zt = M at *
  have HCH := Lib.hid hch
  clear hch
  by_cases ha : cs.any (fun c => c.out == 5) = true
  · rw [if_pos ha] at hm
    subst hm
    go_enter Try.func20, Try.ntmps20
    go_wp2_with (first
      | (go_at_call 31; go_must (refine HCH.out.mono ?_); rintro e w1 ⟨v, rfl, hrow, hb1⟩)
      | (go_at_call 32; go_must (refine (Clean_calls v cs w1 _ (by omega) hrow).mono ?_); rw [ha]; rintro e w2 ⟨rfl, hb2⟩))
    go_ret2
    exact ⟨_, rfl, World.ownsRow_nil _ _ _ _, below_to hb1 hb1.size hb2⟩
  · rw [if_neg ha] at hm
    have ha0 : cs.any (fun c => c.out == 5) = false := by simpa using ha
    subst hm
    clear ha
    go_enter Try.func20, Try.ntmps20
    go_wp2_with (first
      | (go_at_call 31; go_must (refine HCH.out.mono ?_); rintro e w1 ⟨v, rfl, hrow, hb1⟩; obtain ⟨V, cv, rfl⟩ := own_slice hrow)
      | (go_at_call 32; go_must (refine (Clean_calls _ cs w1 _ (by omega) hrow).mono ?_); rw [ha0]; rintro e w2 ⟨rfl, hb2⟩))
    have hs12 := hb1.size
    have hb12 := below_to hb1 hb1.size hb2
    have hrow2 := own_same hrow (fun g' hv => hb2.block g' (hrow.lt g' hv).2)
    have HROW := Lib.hid hrow2
    have HIN := Lib.hid hin
    clear hrow2 hrow hin hb1 hb2
    go_loopw [9, 21] (fun v vi wr => ∃ i : Nat, i ≤ cs.length ∧ vi = .int .i64 i ∧ wr.ownsRow w2.heap.size 3 1 v ((cs.take i).flatMap (takeCh zo zt)).length (((cs.take i).flatMap (takeCh zo zt)).map (Value.int .i64)) ∧ Below w2.heap.size w2 wr)
      (fun _ vi _ => cs.length - (intOf vi).toNat)
    case atStart => exact ⟨0, Nat.zero_le _, rfl, World.ownsRow_nil _ _ _ _, Below.refl _ _⟩
    case round =>
      obtain ⟨i, hi, rfl, hor, hB3⟩ := hrel
      have hB4 := below_to hb12 hb12.size hB3
      have hsr := hB3.size
      have hsw := hb12.size
      by_cases hlt : i < cs.length
      · obtain ⟨g, cap, hv, hg1, hg⟩ := HROW.out.form (by omega)
        obtain ⟨hA2, _, hcc⟩ := Value.slice.inj hv
        subst hA2
        have hrow := own_at HROW.out (hB3.block g hg)
        have d0 := row_ch hrow i hlt 0 (by omega)
        have d1 := row_ch hrow i hlt 1 (by omega)
        have d2 := row_ch hrow i hlt 2 (by omega)
        have d3 := row_ch hrow i hlt 3 (by omega)
        have d4 := row_ch hrow i hlt 4 (by omega)
        have d5 := row_ch hrow i hlt 5 (by omega)
        have d6 := row_ch hrow i hlt 6 (by omega)
        have hs : cs.take (i + 1) = cs.take i ++ [cs[i]] := by rw [List.take_succ_eq_append_getElem hlt]
        obtain ⟨ho0, ho1, ht0, ht1⟩ := HIN.out cs[i] (List.getElem_mem hlt)
        have hll : ((cs.take i).flatMap (takeCh zo zt)).length ≤ zo.length + zt.length := by
          have h1 : cs.flatMap (takeCh zo zt) = (cs.take i).flatMap (takeCh zo zt) ++ (cs.drop i).flatMap (takeCh zo zt) := by rw [← List.flatMap_append, List.take_append_drop]
          have h2 := congrArg List.length h1
          rw [List.length_append] at h2
          omega
        generalize cs[i] = c at *
        obtain ⟨b0, b1, o0, o1, t0, t1, oc⟩ := c
        simp only [cellsCh, List.getElem?_cons_zero, List.getElem?_cons_succ, Nat.add_zero] at d0 d1 d2 d3 d4 d5 d6
        simp only [] at ho0 ho1 ht0 ht1
        have HS := Lib.hid hs
        have HLL := Lib.hid hll
        clear hs hll hrow
        by_cases h2 : oc = 2
        · have h2' : ((oc : Int) == 2) = true := by simp [h2]
          have HO5 := Lib.hid (show oc = 2 ∨ oc = 4 from .inl h2)
          clear h2
          go_wp2_with (first
            | (go_at_call 33; go_must (refine (of_calls _ _ _ _ _ _ (by omega) (by omega) (by omega) (by omega)).mono ?_); rintro e w3 ⟨A', rfl, hA', hb3⟩; obtain ⟨n1, n2, n3⟩ := cut_news (W := w3) hA' HO.out ho0 ho1 (fun k hk _ => ((hb3.block k (by simp; omega)).trans ((Below.heap_alloc wr _ k (by omega)).trans (hB4.block k hk)))))
            | (at_builtin; go_must (refine app_many w2.heap.size rfl _ _ 39 3 rfl Try.underlying39 infoInt rfl (by decide) (by decide) ((part zo o0 o1).map (Value.int .i64)) rfl rfl n1 (by simp [Value.oneCell']) n2 n3 (own_same hor (fun g' hv => (hb3.block g' (Nat.lt_of_lt_of_le (hor.lt g' hv).2 (by simp))).trans (Below.heap_alloc wr _ g' (hor.lt g' hv).2))) (by have := hb3.size; simp at this; omega) (by have := HLL.out; omega) ?_); intro v' w4 hown' hb4))
          go_roundw
          case rel =>
            have hs3 := hb3.size
            simp at hs3
            refine ⟨i + 1, by omega, by go_num, ?_, (hB3.trans (((Below.refl _ _).alloc (Nat.le_refl _) _).mono (by have := hB3.size; omega))).trans ((hb3.mono (by simp; omega)).trans (hb4.mono (Nat.le_refl _)))⟩
            have he : takeCh zo zt ⟨b0, b1, o0, o1, t0, t1, oc⟩ = part zo o0 o1 := by simp [takeCh, HO5.out]
            rw [HS.out, List.flatMap_append, List.flatMap_singleton, he, List.length_append, List.map_append, part_len ho1]
            exact hown'
          case measure => simp [intOf]; omega
        have h2' : ((oc : Int) == 2) = false := beq_eq_false_iff_ne.2 (by omega)
        by_cases h4 : oc = 4
        · have h4' : ((oc : Int) == 4) = true := by simp [h4]
          have HO5 := Lib.hid (show oc = 2 ∨ oc = 4 from .inr h4)
          clear h2 h4
          go_wp2_with (first
            | (go_at_call 33; go_must (refine (of_calls _ _ _ _ _ _ (by omega) (by omega) (by omega) (by omega)).mono ?_); rintro e w3 ⟨A', rfl, hA', hb3⟩; obtain ⟨n1, n2, n3⟩ := cut_news (W := w3) hA' HO.out ho0 ho1 (fun k hk _ => ((hb3.block k (by simp; omega)).trans ((Below.heap_alloc wr _ k (by omega)).trans (hB4.block k hk)))))
            | (at_builtin; go_must (refine app_many w2.heap.size rfl _ _ 39 3 rfl Try.underlying39 infoInt rfl (by decide) (by decide) ((part zo o0 o1).map (Value.int .i64)) rfl rfl n1 (by simp [Value.oneCell']) n2 n3 (own_same hor (fun g' hv => (hb3.block g' (Nat.lt_of_lt_of_le (hor.lt g' hv).2 (by simp))).trans (Below.heap_alloc wr _ g' (hor.lt g' hv).2))) (by have := hb3.size; simp at this; omega) (by have := HLL.out; omega) ?_); intro v' w4 hown' hb4))
          go_roundw
          case rel =>
            have hs3 := hb3.size
            simp at hs3
            refine ⟨i + 1, by omega, by go_num, ?_, (hB3.trans (((Below.refl _ _).alloc (Nat.le_refl _) _).mono (by have := hB3.size; omega))).trans ((hb3.mono (by simp; omega)).trans (hb4.mono (Nat.le_refl _)))⟩
            have he : takeCh zo zt ⟨b0, b1, o0, o1, t0, t1, oc⟩ = part zo o0 o1 := by simp [takeCh, HO5.out]
            rw [HS.out, List.flatMap_append, List.flatMap_singleton, he, List.length_append, List.map_append, part_len ho1]
            exact hown'
          case measure => simp [intOf]; omega
        · have h4' : ((oc : Int) == 4) = false := beq_eq_false_iff_ne.2 (by omega)
          have HO5 := Lib.hid (show ¬ (oc = 2 ∨ oc = 4) from fun h => h.elim h2 h4)
          clear h2 h4
          go_wp2_with (first
            | (go_at_call 33; go_must (refine (of_calls _ _ _ _ _ _ (by omega) (by omega) (by omega) (by omega)).mono ?_); rintro e w3 ⟨A', rfl, hA', hb3⟩; obtain ⟨n1, n2, n3⟩ := cut_news (W := w3) hA' HT.out ht0 ht1 (fun k hk _ => ((hb3.block k (by simp; omega)).trans ((Below.heap_alloc wr _ k (by omega)).trans (hB4.block k hk)))))
            | (at_builtin; go_must (refine app_many w2.heap.size rfl _ _ 39 3 rfl Try.underlying39 infoInt rfl (by decide) (by decide) ((part zt t0 t1).map (Value.int .i64)) rfl rfl n1 (by simp [Value.oneCell']) n2 n3 (own_same hor (fun g' hv => (hb3.block g' (Nat.lt_of_lt_of_le (hor.lt g' hv).2 (by simp))).trans (Below.heap_alloc wr _ g' (hor.lt g' hv).2))) (by have := hb3.size; simp at this; omega) (by have := HLL.out; omega) ?_); intro v' w4 hown' hb4))
          go_roundw
          case rel =>
            have hs3 := hb3.size
            simp at hs3
            refine ⟨i + 1, by omega, by go_num, ?_, (hB3.trans (((Below.refl _ _).alloc (Nat.le_refl _) _).mono (by have := hB3.size; omega))).trans ((hb3.mono (by simp; omega)).trans (hb4.mono (Nat.le_refl _)))⟩
            have he : takeCh zo zt ⟨b0, b1, o0, o1, t0, t1, oc⟩ = part zt t0 t1 := by simp [takeCh, HO5.out]
            rw [HS.out, List.flatMap_append, List.flatMap_singleton, he, List.length_append, List.map_append, part_len ht1]
            exact hown'
          case measure => simp [intOf]; omega
      · go_wp2
        have hie : i = cs.length := by omega
        rw [hie, List.take_length] at hor
        go_ret2
        exact ⟨_, rfl, own_lower hor (by omega), hB4⟩
end Go.Proofs.Ytnoloihdcmgbaaa
