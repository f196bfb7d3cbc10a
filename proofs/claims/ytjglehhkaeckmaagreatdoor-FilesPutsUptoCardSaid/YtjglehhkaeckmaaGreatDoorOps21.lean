/- The calls that a statement of layer 21 is given, as data; the walk of few. -/
import Derived.Test.YtjglehhkaeckmaaGreatDoorNil21
namespace Go.Proofs.YtjglehhkaeckmaaGreatDoor
open Go.RowKit Go.PlainAid Go.Maps
set_option linter.all false
set_option linter.deprecated false
set_option maxRecDepth 100000
/-- A call. -/
structure OpD where
  kind : Int
  num : Int
  name : ByteArray
  text : ByteArray
  args : List ByteArray
def dOp (o : OpD) : D := .st [.int .i64 o.kind, .int .i64 o.num, .str o.name, .str o.text, .sl (o.args.map D.str)]
theorem dOp_sz (o : OpD) : (dOp o).sz = 5 := by simp [dOp, D.sz, D.szs]
theorem rep_int' {ok : Nat → Prop} {w : World} {k : IntKind} {n : Int} {cs : List Value} (h : Rep ok w (.int k n) cs) : cs = [.int k n] := by rwa [Rep] at h
theorem rep_str' {ok : Nat → Prop} {w : World} {s : ByteArray} {cs : List Value} (h : Rep ok w (.str s) cs) : cs = [.string s] := by rwa [Rep] at h
theorem rep_sl' {ok : Nat → Prop} {w : World} {xs : List D} {cs : List Value} (h : Rep ok w (.sl xs) cs) : ∃ v, cs = [v] ∧ Rd ok w v xs := by
  have h' := h
  rw [Rep] at h
  obtain ⟨A, c, rfl, _⟩ := h
  exact ⟨_, rfl, h'⟩
theorem rep_op {ok : Nat → Prop} {w : World} {o : OpD} {cs : List Value} (h : Rep ok w (dOp o) cs) : ∃ v, cs = [.int .i64 o.kind, .int .i64 o.num, .string o.name, .string o.text, v] ∧ Rd ok w v (o.args.map D.str) := by
  rw [dOp, Rep] at h
  simp only [RepAll] at h
  obtain ⟨c0, r0, rfl, h0, c1, r1, rfl, h1, c2, r2, rfl, h2, c3, r3, rfl, h3, c4, r4, rfl, h4, rfl⟩ := h
  obtain ⟨v, rfl, hv⟩ := rep_sl' h4
  rw [rep_int' h0, rep_int' h1, rep_str' h2, rep_str' h3]
  exact ⟨v, rfl, hv⟩
theorem Rd.op_at {ok : Nat → Prop} {w : World} {A : Option Addr} {n c : Nat} {l : List OpD} (h : Rd ok w (.slice A n c) (l.map dOp)) {i : Nat} (hi : i < l.length) :
    ∃ b o u, A = some ⟨b, o, none⟩ ∧ ok b ∧ b < w.heap.size ∧ w.cell? ⟨b, o + i * 5 + 2, none⟩ = some (.string l[i].name) ∧ w.cell? ⟨b, o + i * 5 + 3, none⟩ = some (.string l[i].text) ∧ w.cell? ⟨b, o + i * 5 + 4, none⟩ = some u ∧ Rd ok w u (l[i].args.map D.str) := by
  obtain ⟨b, o, c', cs, hv, hb, hlt, hr, hc⟩ := h.get (k := 5) (i := i) (fun d hd => by obtain ⟨x, _, rfl⟩ := List.mem_map.1 hd; exact dOp_sz x) (by simpa using hi)
  rw [List.getElem_map] at hr
  obtain ⟨v, rfl, hR⟩ := rep_op hr
  injection hv with hA _ _
  exact ⟨b, o, v, hA, hb, hlt, by simpa [Nat.add_assoc] using hc 2 _ rfl, by simpa [Nat.add_assoc] using hc 3 _ rfl, by simpa [Nat.add_assoc] using hc 4 _ rfl, hR⟩
theorem rd_ops {ok : Nat → Prop} {w : World} {A : Option Addr} {n c : Nat} {l : List OpD} (h : Rd ok w (.slice A n c) (l.map dOp)) : l.length = n ∧ n ≤ c := by
  have := rd_cap h; rwa [List.length_map] at this
theorem Rd.str_at {ok : Nat → Prop} {w : World} {A : Option Addr} {n c : Nat} {l : List ByteArray} (h : Rd ok w (.slice A n c) (l.map D.str)) {i : Nat} (hi : i < l.length) :
    ∃ b o, A = some ⟨b, o, none⟩ ∧ ok b ∧ b < w.heap.size ∧ w.cell? ⟨b, o + i, none⟩ = some (.string l[i]) := by
  obtain ⟨b, o, hA, hb, hlt, hc⟩ := h.strs (by omega)
  have := hc i hi
  refine ⟨b, o, hA, hb, hlt, ?_⟩
  rw [this]
  simp [hi]
def SomeBool (w : World) (e : Ending) (w' : World) : Prop := (∃ b : Bool, e = .returned (.bool b)) ∧ ∃ q, w' = w.drewN q
set_option maxHeartbeats 4000000 in
theorem few21_calls (v : Value) (l : List OpD) (w : World) (hR : Rd (· < w.heap.size) w v (l.map dOp)) : Calls Tryz.prog 6 #[v] w (SomeBool w) := by
  obtain ⟨A, c, rfl, hc, _⟩ := hR.form
  rw [List.length_map] at *
  have HR := Lib.hid hR
  clear hR
  by_cases h40 : (40 : Int) < l.length
  · go_enter Tryz.func6, Tryz.ntmps6
    go_wp2
    go_ret
    exact ⟨⟨_, rfl⟩, 0, rfl⟩
  go_enter Tryz.func6, Tryz.ntmps6
  go_wp2
  go_loopw [10] (fun vi wr => ∃ i : Nat, i ≤ l.length ∧ vi = .int .i64 i ∧ ∃ q, wr = w.drewN q) (fun vi _ => l.length - (intOf vi).toNat)
  case atStart => exact ⟨0, Nat.zero_le _, rfl, 0, rfl⟩
  case round =>
    obtain ⟨i, hi, rfl, q, rfl⟩ := hrel
    by_cases hlt : i < l.length
    · obtain ⟨b, o, u, rfl, _, hbl, c2, c3, c4, hk⟩ := HR.out.op_at hlt
      generalize l[i] = x at *
      obtain ⟨A', c', rfl, hc', _⟩ := hk.form
      rw [List.length_map] at *
      by_cases h1 : (150 : Int) < x.text.size
      · go_wp2_with fail
        go_ret
        exact ⟨⟨_, rfl⟩, q, rfl⟩
      by_cases h2 : (500 : Int) < x.name.size
      · go_wp2_with fail
        go_ret
        exact ⟨⟨_, rfl⟩, q, rfl⟩
      by_cases h3 : (10 : Int) < x.args.length
      · go_wp2_with fail
        go_ret
        exact ⟨⟨_, rfl⟩, q, rfl⟩
      go_wp2_with fail
      go_loopw [44] (fun vk wx => ∃ k : Nat, k ≤ x.args.length ∧ vk = .int .i64 k ∧ ∃ q', wx = w.drewN q') (fun vk _ => x.args.length - (intOf vk).toNat)
      case atStart => exact ⟨0, Nat.zero_le _, rfl, q, rfl⟩
      case round =>
        obtain ⟨k, hk2, rfl, q2, rfl⟩ := hrel
        by_cases hlk : k < x.args.length
        · obtain ⟨b2, o2, rfl, _, _, d0⟩ := hk.str_at hlk
          generalize x.args[k] = s at *
          by_cases h4 : (200 : Int) < s.size
          · go_wp2_with fail
            go_ret
            exact ⟨⟨_, rfl⟩, q2, rfl⟩
          go_wp2_with fail
          go_roundw
          case rel => exact ⟨k + 1, by omega, by go_num, q2, rfl⟩
          case measure => simp [intOf]; omega
        · go_wp2_with fail
          go_roundw
          case rel => exact ⟨i + 1, by omega, by go_num, q2, rfl⟩
          case measure => simp [intOf]; omega
    · go_wp2_with fail
      go_ret
      exact ⟨⟨_, rfl⟩, q, rfl⟩
end Go.Proofs.YtjglehhkaeckmaaGreatDoor
