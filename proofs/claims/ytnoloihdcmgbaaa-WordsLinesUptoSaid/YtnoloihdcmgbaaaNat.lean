/- What comes of three lists does not hang on what stands for their elements: plain functions, no program in sight. -/
import Derived.Test.YtnoloihdcmgbaaaMerge
namespace Go.Proofs.Ytnoloihdcmgbaaa
set_option linter.all false
set_option linter.deprecated false
section
variable {α β : Type} [DecidableEq α] [DecidableEq β]
/-- f tells the elements of S apart. -/
def Apart (f : α → β) (S : α → Prop) : Prop := ∀ x y, S x → S y → f x = f y → x = y
theorem Apart.iff {f : α → β} {S : α → Prop} (h : Apart f S) {x y : α} (hx : S x) (hy : S y) : f x = f y ↔ x = y := ⟨h x y hx hy, fun e => by rw [e]⟩
theorem Apart.list {f : α → β} {S : α → Prop} (h : Apart f S) : ∀ {a b : List α}, (∀ x ∈ a, S x) → (∀ x ∈ b, S x) → (a.map f = b.map f ↔ a = b)
  | [], [], _, _ => by simp
  | [], _ :: _, _, _ => by simp
  | _ :: _, [], _, _ => by simp
  | x :: a, y :: b, ha, hb => by
    simp only [List.map_cons, List.cons.injEq]
    rw [h.iff (ha x (by simp)) (hb y (by simp)), h.list (fun z hz => ha z (by simp [hz])) (fun z hz => hb z (by simp [hz]))]
theorem lcsL_map {f : α → β} {S : α → Prop} (h : Apart f S) : ∀ (a b : List α), (∀ x ∈ a, S x) → (∀ x ∈ b, S x) → lcsL (a.map f) (b.map f) = lcsL a b
  | [], b, _, _ => by simp [lcsL]
  | x :: a, [], _, _ => by simp [lcsL_nil]
  | x :: a, y :: b, ha, hb => by
    rw [List.map_cons, List.map_cons, lcsL_cons, lcsL_cons]
    have h1 := lcsL_map h a b (fun z hz => ha z (by simp [hz])) (fun z hz => hb z (by simp [hz]))
    have h2 := lcsL_map h a (y :: b) (fun z hz => ha z (by simp [hz])) hb
    have h3 := lcsL_map h (x :: a) b ha (fun z hz => hb z (by simp [hz]))
    rw [List.map_cons] at h2 h3
    rw [h1, h2, h3]
    have := h.iff (ha x (by simp)) (hb y (by simp))
    by_cases e : x = y
    · rw [if_pos (this.2 e), if_pos e]
    · rw [if_neg (fun e' => e (this.1 e')), if_neg e]
theorem prs_map {f : α → β} {S : α → Prop} (h : Apart f S) : ∀ (a : List α) (i k : Nat) (b : List α), (∀ x ∈ a, S x) → (∀ x ∈ b, S x) → prs (a.map f) i k (b.map f) = prs a i k b
  | [], i, k, b, _, _ => by simp [prs]
  | x :: a, i, k, [], _, _ => by simp [prs_nil]
  | x :: a, i, k, y :: b, ha, hb => by
    rw [List.map_cons, List.map_cons, prs_cons, prs_cons]
    have h1 := prs_map h a (i + 1) (k + 1) b (fun z hz => ha z (by simp [hz])) (fun z hz => hb z (by simp [hz]))
    have h2 := prs_map h a (i + 1) k (y :: b) (fun z hz => ha z (by simp [hz])) hb
    have h3 := prs_map h (x :: a) i (k + 1) b ha (fun z hz => hb z (by simp [hz]))
    have l1 := lcsL_map h (x :: a) b ha (fun z hz => hb z (by simp [hz]))
    have l2 := lcsL_map h a (y :: b) (fun z hz => ha z (by simp [hz])) hb
    rw [List.map_cons] at h2 h3 l1 l2
    rw [h1, h2, h3, l1, l2]
    have := h.iff (ha x (by simp)) (hb y (by simp))
    by_cases e : x = y
    · rw [if_pos (this.2 e), if_pos e]
    · rw [if_neg (fun e' => e (this.1 e')), if_neg e]
theorem pairs_map {f : α → β} {S : α → Prop} (h : Apart f S) {a b : List α} (ha : ∀ x ∈ a, S x) (hb : ∀ x ∈ b, S x) : pairs (a.map f) (b.map f) = pairs a b := prs_map h a 0 0 b ha hb
theorem part_map {γ δ : Type} (f : γ → δ) (l : List γ) (a b : Nat) : part (l.map f) a b = (part l a b).map f := by unfold part; rw [List.map_take.symm, List.map_drop.symm]
theorem part_mem {γ : Type} {l : List γ} {a b : Nat} {x : γ} (h : x ∈ part l a b) : x ∈ l := List.mem_of_mem_take (List.mem_of_mem_drop h)
theorem outc_map {f : α → β} {S : α → Prop} (h : Apart f S) {b o t : List α} (hb : ∀ x ∈ b, S x) (ho : ∀ x ∈ o, S x) (ht : ∀ x ∈ t, S x) : outc (b.map f) (o.map f) (t.map f) = outc b o t := by
  unfold outc
  simp only [h.list ho ht, h.list ho hb, h.list ht hb]
theorem chunkAt_map {f : α → β} {S : α → Prop} (h : Apart f S) {zb zo zt : List α} (hb : ∀ x ∈ zb, S x) (ho : ∀ x ∈ zo, S x) (ht : ∀ x ∈ zt, S x) (ko kt : List Int) (x y z : Nat) :
    chunkAt (zb.map f) (zo.map f) (zt.map f) ko kt x y z = chunkAt zb zo zt ko kt x y z := by
  unfold chunkAt
  simp only [List.length_map, part_map]
  rw [outc_map h (fun v hv => hb v (part_mem hv)) (fun v hv => ho v (part_mem hv)) (fun v hv => ht v (part_mem hv))]
theorem chunksF_map {f : α → β} {S : α → Prop} (h : Apart f S) {zb zo zt : List α} (hb : ∀ x ∈ zb, S x) (ho : ∀ x ∈ zo, S x) (ht : ∀ x ∈ zt, S x) (ko kt : List Int) : ∀ (n x y z : Nat),
    chunksF (zb.map f) (zo.map f) (zt.map f) ko kt n x y z = chunksF zb zo zt ko kt n x y z
  | 0, _, _, _ => rfl
  | n + 1, x, y, z => by
    rw [chunksF, chunksF, chunkAt_map h hb ho ht, chunksF_map h hb ho ht ko kt n]
    simp only [List.length_map]
theorem chunks_map {f : α → β} {S : α → Prop} (h : Apart f S) {zb zo zt : List α} (hb : ∀ x ∈ zb, S x) (ho : ∀ x ∈ zo, S x) (ht : ∀ x ∈ zt, S x) : chunks (zb.map f) (zo.map f) (zt.map f) = chunks zb zo zt := by
  unfold chunks chunksL far
  rw [pairs_map h hb ho, pairs_map h hb ht, chunksF_map h hb ho ht]
  simp only [List.length_map]
theorem takeCh_map {γ δ : Type} (f : γ → δ) (zo zt : List γ) (c : Ch) : takeCh (zo.map f) (zt.map f) c = (takeCh zo zt c).map f := by
  unfold takeCh
  split <;> exact part_map _ _ _ _
theorem mergeL_map {f : α → β} {S : α → Prop} (h : Apart f S) {zb zo zt : List α} (hb : ∀ x ∈ zb, S x) (ho : ∀ x ∈ zo, S x) (ht : ∀ x ∈ zt, S x) : mergeL (zb.map f) (zo.map f) (zt.map f) = (mergeL zb zo zt).map (List.map f) := by
  unfold mergeL
  rw [chunks_map h hb ho ht]
  split
  · rfl
  · rw [Option.map_some, List.map_flatMap]
    have : takeCh (zo.map f) (zt.map f) = fun c => (takeCh zo zt c).map f := funext fun c => takeCh_map f zo zt c
    rw [this]
/-- What comes is of the sides. -/
theorem mergeL_mem {zb zo zt m : List α} (h : mergeL zb zo zt = some m) {x : α} (hx : x ∈ m) : x ∈ zo ∨ x ∈ zt := by
  unfold mergeL at h
  split at h
  · cases h
  · cases h
    obtain ⟨c, hc, hx⟩ := List.mem_flatMap.1 hx
    unfold takeCh at hx
    split at hx
    · exact .inl (part_mem hx)
    · exact .inr (part_mem hx)
theorem mergeL_len {zb zo zt m : List α} (h : mergeL zb zo zt = some m) : m.length ≤ zo.length + zt.length := by
  unfold mergeL at h
  split at h
  · cases h
  · cases h
    exact (chunks_in zb zo zt).2
end
end Go.Proofs.Ytnoloihdcmgbaaa
