/- The library's tables lie, whatever is done behind. No program in it. -/
import Derived.Test.YtlcfijkegdlfcaaGreatDoorCheck
namespace Go.Proofs.YtlcfijkegdlfcaaGreatDoor
open Go.RowKit
set_option linter.all false
theorem textB_of {W : World} (h : Lib.Utf8Tabs 0 1 W) {m : Int} (hm : W.cell? ⟨2, 0, none⟩ = some (.int .i64 m)) : TextB W.heap.size W := fun W' hW => by
  have hk : ∀ {p : Addr} {v : Value}, p.spot = none → W.cell? p = some v → W'.cell? p = some v := fun {p v} hp hv => by
    rw [← hv]
    exact hW.cell (World.block_lt_of_cell? W _ hv)
  refine ⟨⟨fun c hc => hk rfl (h.1 c hc), fun i hi => ⟨hk rfl (h.2 i hi).1, hk rfl (h.2 i hi).2⟩⟩, m, hk rfl hm⟩
end Go.Proofs.YtlcfijkegdlfcaaGreatDoor
