/- append(xs, ys..) on a slice of the call's own, as one step of a region. No program in it. -/
import Derived.Test.YtlcfijkegdlfcaaGreatDoorMany
namespace Go.Proofs.YtlcfijkegdlfcaaGreatDoor
open Go Go.RowKit
set_option linter.all false
theorem step_app_many {P : Program} {ops : Array Oper} {o : Oper} {a : Act} {K : Act → World → Prop} {Q : Exit → Act → World → Prop} {W : World} {E : Prop} {T : Array Value} (base : Nat) (hgd : o.guard = none) (s x : Operand) (t e : TypeId) {z : Value} {size bytes : Nat}
    (ho : o.op = .call { callee := .builtin .append, args := #[s, x], argTypes := #[t, t] })
    (ht : P.underlying t = some (.slice e)) (hinfo : (P.info? e).map (fun i => (i.zero, i.size, i.bytes)) = some (some z, size, bytes)) (hz : z.cells.size = size) (hs0 : 0 < size) (hb0 : 0 < bytes)
    {v : Value} {n m c : Nat} {A : Option Addr} {xs : List Value} (news : List Value) (hs : a.eval s = v) (hx : a.eval x = .slice A m c) (hn : news.length = m * size) (h1 : ∀ u ∈ news, u.oneCell' = true)
    (hA : A = none → c = 0) (hc : 0 < m → ∃ b o, A = some ⟨b, o, none⟩ ∧ ∀ j u, news[j]? = some u → W.cell? ⟨b, o + j, none⟩ = some u)
    (hown : W.ownsRow base e size v n xs) (hbase : base ≤ W.heap.size) (hl : (n + m) * bytes ≤ 140737488355328)
    (h : ∀ v' w', w'.ownsRow base e size v' (n + m) (xs ++ news) → Below base W w' → W.grownBy w' v.ownBlock → (v'.ownBlock = v.ownBlock ∨ ∃ b, v'.ownBlock = some b ∧ W.heap.size ≤ b) → K (a.put o.dst v') w') : if Region.wanted o (yielded ops T) = true then Oper.wp P o a W K Q else E := by
  have hw : Region.wanted o (yielded ops T) = true := by simp [Region.wanted, hgd]
  rw [if_pos hw]
  obtain ⟨i0, hi, hz0, hz1, hz2⟩ := info_parts hinfo
  have hlen : n + m ≤ 140737488355328 := Nat.le_trans (Nat.le_mul_of_pos_right _ hb0) hl
  cases A with
  | none =>
    have hm : m = 0 := by
      rcases Nat.eq_zero_or_pos m with h0 | h0
      · exact h0
      · obtain ⟨b, o', h, _⟩ := hc h0; cases h
    subst hm
    have hnn : news = [] := List.eq_nil_of_length_eq_zero (by omega)
    subst hnn
    rw [hA rfl] at hx
    have hrun := run_append_owned_none (P := P) (w := W) base t o.type e i0 size ht hi v n xs hown
    unfold Oper.wp
    simp [execOp, ho, resolve, invoke, builtin, hs, hx, hrun, Result.andThen]
    exact h v W (by simpa using hown) (Below.refl _ _) (World.grownBy.refl _ _) (.inl rfl)
  | some ad =>
    have hnews : ∀ j u, news[j]? = some u → W.cell? (ad.add j) = some u := by
      intro j u hj
      have hlt := (List.getElem?_eq_some_iff.1 hj).1
      obtain ⟨b, o', hb, hcc⟩ := hc (Nat.pos_of_ne_zero (fun h0 => by subst h0; omega))
      cases hb
      have := hcc j u hj
      unfold Addr.add
      split
      · rename_i h0; subst h0; simpa using this
      · exact this
    obtain ⟨v', w', hr, h2, h3, h4, h5⟩ := run_append_own_at (P := P) W base t o.type e i0 z size bytes ht hi hz0 hz1 hz2 hz hs0 v n xs hown ad m c news hn hnews h1 (by simp only [maxLen]; omega) hl hbase
    unfold Oper.wp execOp
    simp only [ho, resolve, invoke, builtin, Sem.run_bind, Sem.run_pure, Result.andThen_ok, List.map_toArray, List.map_cons, List.map_nil, hs, hx, hr]
    exact h v' w' h2 ((Below.refl _ _).grown h3 hbase (fun k hk => own_ge hown k hk)) h3 (by first | exact h5 | exact h5.imp id (fun e => ⟨_, e, Nat.le_refl _⟩))
end Go.Proofs.YtlcfijkegdlfcaaGreatDoor
