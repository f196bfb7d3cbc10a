/- The look-up of a text in a map that the call has made. No program in it. -/
import Derived.Below
import Derived.Maps.OwnOps
import Derived.Maps.StringElems
namespace Go.Proofs.YtjglehhkaeckmaaGreatDoor
open Go Go.Maps Go.RowKit
theorem lookup_str {H : Type} {P : Program} {w : World} {k t e : TypeId} {b n : Nat} {D : DataW H} (h : w.ownsMap P k (plainElem P e) b n D) (K : Keyed P k) (ht : P.underlying t = some (.map k e)) (he : P.underlying e = some .string) (hz : (zeroValue e).run P w = .ok (.string ByteArray.empty) w)
    {key : Value} {kl : Lit} (hkey : keyOf P k key = some kl) : ∃ c : ByteArray, (Instr.lookup t (.map (some b)) key false).run P w = .ok (.string c) w ∧ D.atKey kl (.lit (.string [])) = .lit (.string c.data.toList) := by
  obtain ⟨v, ps, hrun, hv⟩ := h.lookup K ht hz (plainElem_string he (by decide)) hkey
  obtain ⟨c, rfl, hc, _⟩ := plainElem_string_inv he hv
  simp only [Prod.mk.injEq] at hc
  exact ⟨c, hrun, hc.1⟩
theorem wpList_lookup_own_str {H : Type} {P : Program} (w : World) {ops : Array Oper} {rest : List Oper} {o : Oper} {a : Act} {Q : Exit → Act → World → Prop}
    (hg : o.guard = none) (m x : Operand) (t : TypeId) (hop : o.op = Op.lookup t m x false)
    (k e : TypeId) (K : Keyed P k) (ht : P.underlying t = some (.map k e)) (he : P.underlying e = some .string) (hz : (zeroValue e).run P w = .ok (.string ByteArray.empty) w) (b n : Nat) (D : DataW H)
    (hm : a.eval m = .map (some b)) (hown : w.ownsMap P k (plainElem P e) b n D) (key : Value) (kl : Lit) (hx : a.eval x = key) (hkey : keyOf P k key = some kl)
    (hK : ∀ c : ByteArray, D.atKey kl (.lit (.string [])) = .lit (.string c.data.toList) → wpList P ops Q rest (a.put o.dst (.string c)) w) :
    wpList P ops Q (o :: rest) a w := by
  refine wpList_plain hg fun K' hK' => ?_
  obtain ⟨c, hrun, hat⟩ := lookup_str hown K ht he hz hkey
  unfold Oper.wp
  simp [execOp, hop, hm, hx, hrun, Result.andThen]
  exact hK' _ _ (hK c hat)
theorem map_below {H : Type} {P : Program} {k : TypeId} {R : Value → Option (DataW H × List MemPlace)} {w w' : World} {b n : Nat} {D : DataW H} (h : w.ownsMap P k R b n D) (hb : Below w.heap.size w w') : w'.ownsMap P k R b n D := by
  have hlt := h.lt
  obtain ⟨es, clock, h0, F, hs, hD⟩ := h
  exact ⟨es, clock, (hb.block b hlt).trans h0, F, hs, hD⟩
end Go.Proofs.YtjglehhkaeckmaaGreatDoor
