/- Slices of blocks that are copied: their cells. -/
import Derived.Test.YtlcfijkegdlfcaaGreatDoorProg
import Derived.Test.YtlcfijkegdlfcaaGreatDoorTree
import Derived.Test.YtlcfijkegdlfcaaGreatDoorLit
import Derived.Laws.OwnMore
namespace Go.Proofs.YtlcfijkegdlfcaaGreatDoor
open Go.RowKit Go.PlainAid
set_option linter.all false
set_option linter.deprecated false
/-- The cells of a slice. -/
theorem Rd.cells {ok : Nat → Prop} {w : World} {A : Option Addr} {n c k : Nat} {ds : List D} (h : Rd ok w (.slice A n c) ds) (hk : ∀ d ∈ ds, d.sz = k) :
    ∃ cells, RepAll ok w ds cells ∧ cells.length = n * k ∧ (A = none → c = 0) ∧ (∀ u ∈ cells, u.oneCell' = true) ∧ (0 < n → ∃ b o, A = some ⟨b, o, none⟩ ∧ ok b ∧ b < w.heap.size ∧ ∀ j u, cells[j]? = some u → w.cell? ⟨b, o + j, none⟩ = some u) := by
  have hl := (rd_cap h).1
  unfold Rd at h; rw [Rep] at h
  obtain ⟨A', c', hv, _, _, hn, h⟩ := h
  injection hv with hv _
  injection hv with h1 h2 h3
  subst h1; subst h3
  rcases Nat.eq_zero_or_pos ds.length with h0 | h0
  · have : ds = [] := List.eq_nil_of_length_eq_zero h0
    subst this
    refine ⟨[], by rw [RepAll], ?_, hn, by simp, fun hp => ?_⟩
    · simp at hl; subst hl; simp
    · simp at hl; omega
  · obtain ⟨b, o, cells, hA, hb, hlt, hr, hc⟩ := h h0
    refine ⟨cells, hr, by rw [RepAll.len hr, D.szs_all _ hk, hl], hn, fun u hu => RepAll.one hr u hu, fun _ => ⟨b, o, hA, hb, hlt, hc⟩⟩
theorem dBls_sz (l : List Bl) : ∀ d ∈ dBls l, d.sz = 6 := fun d hd => by rw [dBls_map] at hd; obtain ⟨x, _, rfl⟩ := List.mem_map.1 hd; exact dBl_sz x
theorem rd_blocks {w0 w1 : World} {base n : Nat} {v : Value} {l : List Bl} {cells : List Value} (h : w0.ownsRow base 36 6 v n cells) (hr : RepAll (· < w0.heap.size) w0 (dBls l) cells) (hn : l.length = n) (hb : Below w0.heap.size w0 w1) : Rd (· < w1.heap.size) w1 v (dBls l) :=
  (Rd.of_own (ok := (· < _)) h (by rw [dBls_len]; exact hn) hr (fun k hk => (h.lt k hk).2)).step (fun k hk _ => hb.block k hk) (fun k hk _ => Nat.lt_of_lt_of_le hk hb.size)
theorem RepAll.below {w w1 : World} {ds : List D} {cs : List Value} (h : RepAll (· < w.heap.size) w ds cs) (hb : Below w.heap.size w w1) : RepAll (· < w1.heap.size) w1 ds cs := h.step (fun k hk _ => hb.block k hk) (fun k hk _ => Nat.lt_of_lt_of_le hk hb.size)
theorem infoBl : (Tryz.prog.info? 36).map (fun i => (i.zero, i.size, i.bytes)) = some (some (.agg #[.int .i64 0, .int .i64 0, .string ByteArray.empty, .slice none 0 0, .slice none 0 0, .slice none 0 0]), 6, 104) := by kernel_rfl
end Go.Proofs.YtlcfijkegdlfcaaGreatDoor
