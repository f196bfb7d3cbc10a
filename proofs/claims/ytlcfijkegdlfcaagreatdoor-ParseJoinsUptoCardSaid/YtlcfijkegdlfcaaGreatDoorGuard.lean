/- An operation behind a guard that lets it by goes as one without. No program in it. -/
import Derived.WalkKit
namespace Go.Proofs.YtlcfijkegdlfcaaGreatDoor
open Go
set_option linter.all false
set_option linter.deprecated false
theorem wpList_unguard {P : Program} {ops : Array Oper} {Q : Exit → Act → World → Prop} {rest : List Oper} {a : Act} {w : World} {o : Oper} (hw : Region.wanted o (yielded ops a.tmps) = true)
    (h : wpList P ops Q ({ o with guard := none } :: rest) a w) : wpList P ops Q (o :: rest) a w := by
  unfold wpList at h ⊢
  rw [if_pos hw]
  have h1 : Region.wanted { o with guard := none } (yielded ops a.tmps) = true := rfl
  rw [if_pos h1] at h
  cases o
  exact h
end Go.Proofs.YtlcfijkegdlfcaaGreatDoor
