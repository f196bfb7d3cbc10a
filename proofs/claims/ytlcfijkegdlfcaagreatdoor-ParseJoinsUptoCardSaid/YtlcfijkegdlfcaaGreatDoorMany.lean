/- append(xs, ys..) on a slice of the call's own. No program in it. -/
import Derived.Test.YtlcfijkegdlfcaaGreatDoorKit2
import Derived.Laws.AppendOwnNone
namespace Go.Proofs.YtlcfijkegdlfcaaGreatDoor
open Go.RowKit
set_option linter.all false
/-- append(v, x...): x's cells are news. -/
theorem app_many {P : Program} {ops : Array Oper} {rest : List Oper} {o : Oper} {a : Act} {Q : Exit → Act → World → Prop} {W : World} (base : Nat) (hgd : o.guard = none) (s x : Operand) (t e : TypeId) {z : Value} {size bytes : Nat}
    (ho : o.op = .call { callee := .builtin .append, args := #[s, x], argTypes := #[t, t] })
    (ht : P.underlying t = some (.slice e)) (hinfo : (P.info? e).map (fun i => (i.zero, i.size, i.bytes)) = some (some z, size, bytes)) (hz : z.cells.size = size) (hs0 : 0 < size) (hb0 : 0 < bytes)
    {v : Value} {n m c : Nat} {A : Option Addr} {xs : List Value} (news : List Value) (hs : a.eval s = v) (hx : a.eval x = .slice A m c) (hn : news.length = m * size) (h1 : ∀ u ∈ news, u.oneCell' = true)
    (hA : A = none → c = 0) (hc : 0 < m → ∃ b o, A = some ⟨b, o, none⟩ ∧ ∀ j u, news[j]? = some u → W.cell? ⟨b, o + j, none⟩ = some u)
    (hown : W.ownsRow base e size v n xs) (hbase : base ≤ W.heap.size) (hl : (n + m) * bytes ≤ 140737488355328)
    (h : ∀ v' w', w'.ownsRow base e size v' (n + m) (xs ++ news) → Below base W w' → wpList P ops Q rest (a.put o.dst v') w') : wpList P ops Q (o :: rest) a W := by
  obtain ⟨i0, hi, hz0, hz1, hz2⟩ := info_parts hinfo
  have hlen : n + m ≤ 140737488355328 := Nat.le_trans (Nat.le_mul_of_pos_right _ hb0) hl
  cases A with
  | none =>
    have hm : m = 0 := by
      rcases Nat.eq_zero_or_pos m with h0 | h0
      · exact h0
      · obtain ⟨b, o', h, _⟩ := hc h0; cases h
    subst hm
    have hnn : news = [] := List.eq_nil_of_length_eq_zero (by omega)
    subst hnn
    rw [hA rfl] at hx
    refine wpList_append_own_none hgd s x t ho base e i0 size ht hi v n xs hs hown hx (h v W (by simpa using hown) (Below.refl _ _))
  | some ad =>
    refine wpList_append_own_at W hgd s x t ho base e i0 z size bytes ht hi hz0 hz1 hz2 hz hs0 v n xs hs hown ad m c news hx hn ?_ h1 (by simp only [maxLen]; omega) hl hbase ?_
    · intro j u hj
      have hlt := (List.getElem?_eq_some_iff.1 hj).1
      obtain ⟨b, o', hb, hcc⟩ := hc (Nat.pos_of_ne_zero (fun h0 => by subst h0; omega))
      cases hb
      have := hcc j u hj
      unfold Addr.add
      split
      · rename_i h0; subst h0; simpa using this
      · exact this
    · intro v1 w1 ho1 hg _ _
      exact h v1 w1 ho1 ((Below.refl _ _).grown hg hbase (fun k hk => own_ge hown k hk))
end Go.Proofs.YtlcfijkegdlfcaaGreatDoor
