/- More words of these proofs. No program in it. -/
import Derived.Test.YtlcfijkegdlfcaaGreatDoorKit
namespace Go.Proofs.YtlcfijkegdlfcaaGreatDoor
open Go.RowKit
theorem below_at {n k o : Nat} {w w' : World} (h : Below n w w') (hk : k < n) : w'.cell? ⟨k, o, none⟩ = w.cell? ⟨k, o, none⟩ := h.cell (p := ⟨k, o, none⟩) hk
theorem below_at' {n k o : Nat} {w w' : World} {v : Value} (h : Below n w w') (hk : k < n) (hv : w.cell? ⟨k, o, none⟩ = some v) : w'.cell? ⟨k, o, none⟩ = some v := (below_at h hk).trans hv
theorem rd_cap {ok : Nat → Prop} {w : World} {A : Option Addr} {n c : Nat} {ds : List D} (h : Rd ok w (.slice A n c) ds) : ds.length = n ∧ n ≤ c := by
  obtain ⟨A', c', hv, hl, _⟩ := h.form
  obtain ⟨_, h1, h2⟩ := Value.slice.inj hv
  subst h2
  exact ⟨h1.symm, by omega⟩
theorem rd_ints {ok : Nat → Prop} {w : World} {A : Option Addr} {n c : Nat} {k : IntKind} {zs : List Int} (h : Rd ok w (.slice A n c) (zs.map (D.int k))) : zs.length = n ∧ n ≤ c := by
  have := rd_cap h; rwa [List.length_map] at this
theorem rd_strs {ok : Nat → Prop} {w : World} {A : Option Addr} {n c : Nat} {ss : List ByteArray} (h : Rd ok w (.slice A n c) (ss.map D.str)) : ss.length = n ∧ n ≤ c := by
  have := rd_cap h; rwa [List.length_map] at this
theorem Rd.drewN {ok : Nat → Prop} {w : World} {v : Value} {ds : List D} (h : Rd ok w v ds) (q : Nat) : Rd ok (w.drewN q) v ds := h.step (fun _ _ _ => rfl) (fun _ h _ => h)
theorem Rd.heap {ok : Nat → Prop} {w W : World} {v : Value} {ds : List D} (h : Rd ok w v ds) (e : W.heap = w.heap) : Rd ok W v ds := h.step (fun _ _ _ => by rw [e]) (fun _ h _ => h)
theorem Rd.lt_below {w w1 : World} {v : Value} {ds : List D} (h : Rd (· < w.heap.size) w v ds) (hb : Below w.heap.size w w1) : Rd (· < w1.heap.size) w1 v ds := h.step (fun k _ hk => hb.block k hk) (fun _ hk _ => Nat.lt_of_lt_of_le hk hb.size)
/-- The length of a slice value. -/
def sliceLen : Value → Nat
  | .slice _ n _ => n
  | _ => 0
theorem own_len {w : World} {base e size n : Nat} {v : Value} {xs : List Value} (h : w.ownsRow base e size v n xs) : sliceLen v = n := by
  obtain ⟨A, c, rfl⟩ := own_slice h; rfl
/-- The cells of a block, one by one: what a walk reads off it. -/
theorem row_facts {w : World} {b : Nat} {cs : Array Value} {t : TypeId} (h : w.heap[b]? = some (.cells cs t (0, 0))) (k : Nat) {v : Value} (hv : cs[k]? = some v) : w.cell? ⟨b, k, none⟩ = some v ∧ w.frozen? ⟨b, k, none⟩ = false :=
  ⟨(cell_of_row w b k _ _ _ h).trans hv, frozen_of_row w b k _ _ h⟩
theorem grown_alloc {w w' : World} {o : Option Nat} (h : w.grownBy w' o) (x : Obj) : w.grownBy (w'.alloc x) o :=
  ⟨h.os, h.tape, h.output, Nat.le_trans h.size (by simp), fun k hk hne => (Below.heap_alloc w' x k (Nat.lt_of_lt_of_le hk h.size)).trans (h.block k hk hne)⟩
theorem grown_of_alloc {w w' : World} {o : Option Nat} {x : Obj} (h : (w.alloc x).grownBy w' o) : w.grownBy w' o :=
  ⟨h.os, h.tape, h.output, Nat.le_trans (by simp) h.size, fun k hk hne => (h.block k (by simp; omega) hne).trans (Below.heap_alloc w x k hk)⟩
end Go.Proofs.YtlcfijkegdlfcaaGreatDoor
