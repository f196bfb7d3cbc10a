/- append(xs, y) on a slice of the call's own, as one step of a region. No program in it. -/
import Derived.Test.YtlcfijkegdlfcaaGreatDoorStepApp
namespace Go.Proofs.YtlcfijkegdlfcaaGreatDoor
open Go Go.RowKit
set_option linter.all false
theorem step_app_one {P : Program} {ops : Array Oper} {o : Oper} {a : Act} {K : Act → World → Prop} {Q : Exit → Act → World → Prop} {W : World} {E : Prop} {T : Array Value} (base : Nat) (hgd : o.guard = none) (s x : Operand) (t e : TypeId) {z : Value} {size bytes : Nat}
    (ho : o.op = .call { callee := .builtin .append, args := #[s, x], argTypes := #[t, t] })
    (ht : P.underlying t = some (.slice e)) (hinfo : (P.info? e).map (fun i => (i.zero, i.size, i.bytes)) = some (some z, size, bytes)) (hz : z.cells.size = size) (hs0 : 0 < size) (hb0 : 0 < bytes)
    {v : Value} {n g : Nat} {xs : List Value} (news : List Value) {t' : TypeId} (hs : a.eval s = v) (hx : a.eval x = .slice (some ⟨g, 0, none⟩) 1 1) (hn : news.length = size) (h1 : ∀ u ∈ news, u.oneCell' = true)
    (hg : W.heap[g]? = some (.cells news.toArray t' (0, 0)))
    (hown : W.ownsRow base e size v n xs) (hbase : base ≤ W.heap.size) (hl : (n + 1) * bytes ≤ 140737488355328)
    (h : ∀ v' w', w'.ownsRow base e size v' (n + 1) (xs ++ news) → Below base W w' → W.grownBy w' v.ownBlock → (v'.ownBlock = v.ownBlock ∨ ∃ b, v'.ownBlock = some b ∧ W.heap.size ≤ b) → K (a.put o.dst v') w') : if Region.wanted o (yielded ops T) = true then Oper.wp P o a W K Q else E :=
  step_app_many base hgd s x t e ho ht hinfo hz hs0 hb0 news hs hx (by simpa using hn) h1 (fun h => by cases h) (fun _ => ⟨g, 0, rfl, fun j u hu => by rw [Nat.zero_add, cell_of_row W g j _ _ _ hg]; simpa using hu⟩) hown hbase hl h
end Go.Proofs.YtlcfijkegdlfcaaGreatDoor
