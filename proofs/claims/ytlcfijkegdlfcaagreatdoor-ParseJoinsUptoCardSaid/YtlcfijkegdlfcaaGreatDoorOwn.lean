/- Rows of a call's own: their cells, and what they read as. No program in it. -/
import Derived.Test.YtlcfijkegdlfcaaGreatDoorKit2
import Derived.Test.YtlcfijkegdlfcaaGreatDoorTree
import Derived.Test.YtlcfijkegdlfcaaGreatDoorTill
namespace Go.Proofs.YtlcfijkegdlfcaaGreatDoor
open Go.RowKit
set_option linter.all false
set_option linter.deprecated false
/-- A row of the call's own, above B: it reads as ds, of which nothing lies in the row itself. -/
def OwnC (B : Nat) (e : TypeId) (k : Nat) (w : World) (v : Value) (ds : List D) (cells : List Value) : Prop :=
  w.ownsRow B e k v ds.length cells ∧ RepAll (fun j => B ≤ j ∧ v.ownBlock ≠ some j) w ds cells
theorem OwnC.nil (B : Nat) (e : TypeId) (k : Nat) (w : World) : OwnC B e k w (.slice none 0 0) [] [] := ⟨World.ownsRow_nil _ _ _ _, by rw [RepAll]⟩
theorem OwnC.rd {B k : Nat} {e : TypeId} {w : World} {v : Value} {ds : List D} {cells : List Value} (h : OwnC B e k w v ds cells) : Rd (B ≤ ·) w v ds :=
  Rd.of_own h.1 rfl (RepAll.step (fun _ _ _ => rfl) (fun _ h _ => h.1) h.2) (fun g hg => (h.1.lt g hg).1)
theorem OwnC.rdw {B k : Nat} {e : TypeId} {w : World} {v : Value} {ds : List D} {cells : List Value} (h : OwnC B e k w v ds cells) : Rd (· < w.heap.size) w v ds :=
  h.rd.mono (fun _ _ h => h)
theorem OwnC.kept {B k : Nat} {e : TypeId} {w w' : World} {v : Value} {ds : List D} {cells : List Value} (h : OwnC B e k w v ds cells) (hm : ∀ j, B ≤ j → j < w.heap.size → w'.heap[j]? = w.heap[j]?) : OwnC B e k w' v ds cells :=
  ⟨own_same h.1 (fun g hg => hm g (h.1.lt g hg).1 (h.1.lt g hg).2), RepAll.step (fun j h hj => hm j h.1 hj) (fun _ h _ => h) h.2⟩
theorem OwnC.below {B k : Nat} {e : TypeId} {w w' : World} {v : Value} {ds : List D} {cells : List Value} (h : OwnC B e k w v ds cells) (hb : Below w.heap.size w w') : OwnC B e k w' v ds cells :=
  h.kept (fun j _ hj => hb.block j hj)
theorem OwnC.len {B k : Nat} {e : TypeId} {w : World} {v : Value} {ds : List D} {cells : List Value} (h : OwnC B e k w v ds cells) : cells.length = ds.length * k := h.1.1
theorem OwnC.slice {B k : Nat} {e : TypeId} {w : World} {v : Value} {ds : List D} {cells : List Value} (h : OwnC B e k w v ds cells) : ∃ A c, v = .slice A ds.length c := own_slice h.1
/-- A row with one more. -/
theorem OwnC.snoc {B k : Nat} {e : TypeId} {W w' : World} {v v' : Value} {ds : List D} {cells news : List Value} {d : D} (h : OwnC B e k W v ds cells) (hx : Rep (fun j => B ≤ j ∧ v.ownBlock ≠ some j) W d news)
    (ho : w'.ownsRow B e k v' (ds.length + 1) (cells ++ news)) (hg : W.grownBy w' v.ownBlock) (hat : v'.ownBlock = v.ownBlock ∨ ∃ b, v'.ownBlock = some b ∧ W.heap.size ≤ b) : OwnC B e k w' v' (ds ++ [d]) (cells ++ news) := by
  refine ⟨by simpa using ho, RepAll.step (ok := fun j => B ≤ j ∧ v.ownBlock ≠ some j) (w := W) (fun j hj hlt => hg.block j hlt (fun e => hj.2 e.symm)) (fun j hj hlt => ⟨hj.1, ?_⟩) (RepAll.append h.2 (RepAll.single hx))⟩
  rcases hat with hat | ⟨b, hat, hb⟩
  · rw [hat]; exact hj.2
  · rw [hat]; intro e; injection e with e; omega
/-- A datum that was made behind the row lies off the row. -/
theorem OwnC.off {B B1 k : Nat} {e : TypeId} {w w1 : World} {v : Value} {ds : List D} {cells : List Value} {d : D} {news : List Value} (h : OwnC B e k w v ds cells) (hB : B ≤ w.heap.size) (h1 : w.heap.size ≤ B1) (hx : Rep (B1 ≤ ·) w1 d news) :
    Rep (fun j => B ≤ j ∧ v.ownBlock ≠ some j) w1 d news :=
  Rep.step (fun _ _ _ => rfl) (fun j hj _ => ⟨Nat.le_trans hB (Nat.le_trans h1 hj), fun e => by have := (h.1.lt j e).2; omega⟩) hx
theorem rep_flat {ok : Nat → Prop} {w : World} {k : IntKind} {n : Int} : Rep ok w (.int k n) [.int k n] := by rw [Rep]
theorem rep_text {ok : Nat → Prop} {w : World} {s : ByteArray} : Rep ok w (.str s) [.string s] := by rw [Rep]
theorem repall_nil' {ok : Nat → Prop} {w : World} : RepAll ok w [] [] := by rw [RepAll]
theorem repall_cons' {ok : Nat → Prop} {w : World} {d : D} {ds : List D} {c0 c1 : List Value} (h : Rep ok w d c0) (h' : RepAll ok w ds c1) : RepAll ok w (d :: ds) (c0 ++ c1) := by rw [RepAll]; exact ⟨c0, c1, rfl, h, h'⟩
/-- A span's cells. -/
theorem rep_span {ok : Nat → Prop} {w : World} {x : Sp} {v : Value} (h : Rd ok w v (dSps x.kids)) : Rep ok w (dSp x) [.int .i64 x.kind, .string x.s, v] := by
  cases x with
  | mk k s l =>
    rw [dSp, Rep]
    exact repall_cons' (c0 := [_]) rep_flat (repall_cons' (c0 := [_]) rep_text (repall_cons' (c0 := [_]) (c1 := []) h repall_nil'))
/-- A block's cells. -/
theorem rep_block {ok : Nat → Prop} {w : World} {x : Bl} {v1 v2 v3 : Value} (h1 : Rd ok w v1 (x.lines.map D.str)) (h2 : Rd ok w v2 (dSps x.spans)) (h3 : Rd ok w v3 (dBls x.kids)) : Rep ok w (dBl x) [.int .i64 x.kind, .int .i64 x.level, .string x.info, v1, v2, v3] := by
  cases x with
  | mk k n i ls sp l =>
    rw [dBl, Rep]
    exact repall_cons' (c0 := [_]) rep_flat (repall_cons' (c0 := [_]) rep_flat (repall_cons' (c0 := [_]) rep_text (repall_cons' (c0 := [_]) h1 (repall_cons' (c0 := [_]) h2 (repall_cons' (c0 := [_]) (c1 := []) h3 repall_nil')))))
theorem dSps_app (a b : List Sp) : dSps (a ++ b) = dSps a ++ dSps b := by rw [dSps_map, dSps_map, dSps_map, List.map_append]
theorem dBls_app (a b : List Bl) : dBls (a ++ b) = dBls a ++ dBls b := by rw [dBls_map, dBls_map, dBls_map, List.map_append]
/-- The last span's text in its own row, rewritten. -/
theorem OwnC.retext {B g c : Nat} {e : TypeId} {w : World} {l : List Sp} {k : Int} {s : ByteArray} {ks : List Sp} {cells : List Value} (h : OwnC B e 3 w (.slice (some ⟨g, 0, none⟩) (l.length + 1) c) (dSps (l ++ [.mk k s ks])) cells) (u : ByteArray) :
    w.cell? ⟨g, l.length * 3, none⟩ = some (.int .i64 k) ∧ w.cell? ⟨g, l.length * 3 + 1, none⟩ = some (.string s) ∧ w.frozen? ⟨g, l.length * 3 + 1, none⟩ = false ∧ B ≤ g ∧ g < w.heap.size ∧
      ∃ cells', OwnC B e 3 (w.setCell ⟨g, l.length * 3 + 1, none⟩ (.string u)) (.slice (some ⟨g, 0, none⟩) (l.length + 1) c) (dSps (l ++ [.mk k u ks])) cells' := by
  obtain ⟨ho, hr⟩ := h
  have hlt := ho.lt g rfl
  have hlen : (dSps (l ++ [Sp.mk k s ks])).length = l.length + 1 := by rw [dSps_len]; simp
  have hlen' : (dSps (l ++ [Sp.mk k u ks])).length = l.length + 1 := by rw [dSps_len]; simp
  rw [hlen] at ho
  rw [dSps_app] at hr
  obtain ⟨c0, c1, rfl, hr0, hr1⟩ := RepAll.split hr
  have l0 : c0.length = l.length * 3 := by
    have := hr0.len
    rw [this, dSps_map, D.szs_map dSp_sz]
  have hd : dSps [Sp.mk k s ks] = [dSp (.mk k s ks)] := by simp [dSps]
  have hd' : dSps [Sp.mk k u ks] = [dSp (.mk k u ks)] := by simp [dSps]
  rw [hd] at hr1
  rw [RepAll] at hr1
  obtain ⟨c2, c3, rfl, hx, hn⟩ := hr1
  rw [RepAll] at hn
  subst hn
  obtain ⟨kv, rfl, hk⟩ := rep_sp hx
  simp only [Sp.kind, Sp.s, Sp.kids, List.append_nil] at *
  have i0 : (c0 ++ [Value.int .i64 k, .string s, kv])[l.length * 3]? = some (.int .i64 k) := by rw [List.getElem?_append_right (by omega), l0]; simp
  have i1 : (c0 ++ [Value.int .i64 k, .string s, kv])[l.length * 3 + 1]? = some (.string s) := by rw [List.getElem?_append_right (by omega), l0]; simp
  have hst := ho.stored (l.length * 3 + 1) (.string u)
  have hset : (c0 ++ [Value.int .i64 k, .string s, kv]).set (l.length * 3 + 1) (.string u) = c0 ++ [Value.int .i64 k, .string u, kv] := by
    rw [List.set_append_right _ _ (by omega), l0]; simp
  rw [hset] at hst
  have hmm : ∀ j, (B ≤ j ∧ (Value.slice (some ⟨g, 0, none⟩) (l.length + 1) c).ownBlock ≠ some j) → j < w.heap.size → (w.setCell ⟨g, l.length * 3 + 1, none⟩ (.string u)).heap[j]? = w.heap[j]? := fun j hj hlt => hst.2.block j hlt (fun e => hj.2 (by rw [e]; rfl))
  refine ⟨(ho.cellAt _ (by omega)).trans i0, (ho.cellAt _ (by omega)).trans i1, ho.frozenAt _, hlt.1, hlt.2, c0 ++ [.int .i64 k, .string u, kv], ⟨by rw [hlen']; exact hst.1, ?_⟩⟩
  rw [dSps_app, hd']
  refine RepAll.append (RepAll.step hmm (fun _ h _ => h) hr0) (RepAll.single ?_)
  exact rep_span (x := .mk k u ks) (Rd.step hk hmm (fun _ h _ => h))
end Go.Proofs.YtlcfijkegdlfcaaGreatDoor
