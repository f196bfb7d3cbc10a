/- Slices of blocks that are copied; what comes of looking up in a list of entries. -/
import Derived.Test.YtnoloihdcmgbaaaDoorAwake16
import Derived.Test.YtnoloihdcmgbaaaDoorSize
import Derived.Laws.OwnMore
namespace Go.Proofs.YtnoloihdcmgbaaaDoor
open Go.RowKit Go.PlainAid Go.Maps Go.Sort
set_option linter.all false
set_option linter.deprecated false
/-- The cells of a slice. -/
theorem Rd.cells {ok : Nat → Prop} {w : World} {A : Option Addr} {n c k : Nat} {ds : List D} (h : Rd ok w (.slice A n c) ds) (hk : ∀ d ∈ ds, d.sz = k) :
    ∃ cells, RepAll ok w ds cells ∧ cells.length = n * k ∧ (A = none → c = 0) ∧ (∀ u ∈ cells, u.oneCell' = true) ∧ (0 < n → ∃ b o, A = some ⟨b, o, none⟩ ∧ ok b ∧ b < w.heap.size ∧ ∀ j u, cells[j]? = some u → w.cell? ⟨b, o + j, none⟩ = some u) := by
  have hl := (rd_cap h).1
  unfold Rd at h; rw [Rep] at h
  obtain ⟨A', c', hv, _, _, hn, h⟩ := h
  injection hv with hv _
  injection hv with h1 h2 h3
  subst h1; subst h3
  rcases Nat.eq_zero_or_pos ds.length with h0 | h0
  · have : ds = [] := List.eq_nil_of_length_eq_zero h0
    subst this
    refine ⟨[], by rw [RepAll], ?_, hn, by simp, fun hp => ?_⟩
    · simp at hl; subst hl; simp
    · simp at hl; omega
  · obtain ⟨b, o, cells, hA, hb, hlt, hr, hc⟩ := h h0
    refine ⟨cells, hr, by rw [RepAll.len hr, D.szs_all _ hk, hl], hn, fun u hu => RepAll.one hr u hu, fun _ => ⟨b, o, hA, hb, hlt, hc⟩⟩
theorem dBls_sz (l : List Bl) : ∀ d ∈ dBls l, d.sz = 6 := fun d hd => by rw [dBls_map] at hd; obtain ⟨x, _, rfl⟩ := List.mem_map.1 hd; exact dBl_sz x
theorem rd_blocks {w0 w1 : World} {base n : Nat} {v : Value} {l : List Bl} {cells : List Value} (h : w0.ownsRow base 28 6 v n cells) (hr : RepAll (· < w0.heap.size) w0 (dBls l) cells) (hn : l.length = n) (hb : Below w0.heap.size w0 w1) : Rd (· < w1.heap.size) w1 v (dBls l) :=
  (Rd.of_own (ok := (· < _)) h (by rw [dBls_len]; exact hn) hr (fun k hk => (h.lt k hk).2)).step (fun k hk _ => hb.block k hk) (fun k hk _ => Nat.lt_of_lt_of_le hk hb.size)
theorem RepAll.below {w w1 : World} {ds : List D} {cs : List Value} (h : RepAll (· < w.heap.size) w ds cs) (hb : Below w.heap.size w w1) : RepAll (· < w1.heap.size) w1 ds cs := h.step (fun k hk _ => hb.block k hk) (fun k hk _ => Nat.lt_of_lt_of_le hk hb.size)
theorem infoBl : (Tryd.prog.info? 28).map (fun i => (i.zero, i.size, i.bytes)) = some (some (.agg #[.int .i64 0, .int .i64 0, .string ByteArray.empty, .slice none 0 0, .slice none 0 0, .slice none 0 0]), 6, 104) := by kernel_rfl
/-- A list of entries says what the table does. -/
theorem find_map_keys (ds : List (Bs × Bs)) (k : Bs) : ∀ ks : List Bs, find (ks.map fun x => (x, (find ds x).getD [])) k = if k ∈ ks then some ((find ds k).getD []) else none
  | [] => by simp [find_nil]
  | x :: ks => by
    rw [List.map_cons, find_cons, find_map_keys ds k ks]
    by_cases e : x = k
    · subst e; simp
    · have : ¬ k = x := fun h => e h.symm
      simp [e, this]
theorem find_listOf (ds : List (Bs × Bs)) (k : Bs) : find (listOf ds) k = find ds k := by
  unfold listOf
  rw [find_map_keys]
  cases h : find ds k with
  | none => rw [if_neg]; rw [(uniqL_spec _).2.1]; exact find_none.1 h
  | some v => rw [if_pos]; rfl; rw [(uniqL_spec _).2.1, ← find_isSome, h]; rfl
theorem uniqL_len {a b : List Bs} (h : ∀ x, x ∈ a ↔ x ∈ b) : (uniqL a).length = (uniqL b).length := by
  refine List.Perm.length_eq ((List.perm_ext_iff_of_nodup (uniqL_nodup a) (uniqL_nodup b)).2 fun x => ?_)
  rw [(uniqL_spec a).2.1, (uniqL_spec b).2.1, h]
theorem uniqL_cons_len {a : List Bs} {x : Bs} (h : x ∉ a) : (uniqL (x :: a)).length = (uniqL a).length + 1 := by
  have hn : (x :: uniqL a).Nodup := List.nodup_cons.2 ⟨fun hx => h (((uniqL_spec a).2.1 x).1 hx), uniqL_nodup a⟩
  have := List.Perm.length_eq ((List.perm_ext_iff_of_nodup (uniqL_nodup (x :: a)) hn).2 fun y => by
    rw [(uniqL_spec (x :: a)).2.1, List.mem_cons, List.mem_cons, (uniqL_spec a).2.1])
  rw [this, List.length_cons]
theorem listOf_cons_len {ds : List (Bs × Bs)} {k v : Bs} (h : find ds k = none) : (listOf ((k, v) :: ds)).length = (listOf ds).length + 1 := by
  unfold listOf
  rw [List.length_map, List.length_map, List.map_cons]
  exact uniqL_cons_len (find_none.1 h)
theorem listOf_sizes {ds : List (Bs × Bs)} {n : Nat} (h : ∀ p ∈ ds, p.1.length ≤ n ∧ p.2.length ≤ n) : ∀ p ∈ listOf ds, p.1.length ≤ n ∧ p.2.length ≤ n := by
  intro p hp
  unfold listOf at hp
  obtain ⟨k, hk, rfl⟩ := List.mem_map.1 hp
  have hm := find_isSome.2 (((uniqL_spec _).2.1 k).1 hk)
  obtain ⟨v, hv⟩ := Option.isSome_iff_exists.1 hm
  have := h _ (find_some_mem hv)
  rw [hv]
  exact this
end Go.Proofs.YtnoloihdcmgbaaaDoor
