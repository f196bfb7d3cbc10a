/- Spans and blocks as data; what a slice of them reads as. -/
import Derived.Test.YtlcfijkegdlfcaaGreatDoorBridge
import Derived.Test.YtlcfijkegdlfcaaGreatDoorKit2
namespace Go.Proofs.YtlcfijkegdlfcaaGreatDoor
open Go.RowKit
set_option linter.all false
set_option linter.deprecated false

/-- A span. -/
inductive Sp where
  | mk (kind : Int) (s : ByteArray) (kids : List Sp)
def Sp.kind : Sp → Int | .mk k _ _ => k
def Sp.s : Sp → ByteArray | .mk _ s _ => s
def Sp.kids : Sp → List Sp | .mk _ _ l => l
/-- A block. -/
inductive Bl where
  | mk (kind level : Int) (info : ByteArray) (lines : List ByteArray) (spans : List Sp) (kids : List Bl)
def Bl.kind : Bl → Int | .mk k _ _ _ _ _ => k
def Bl.level : Bl → Int | .mk _ n _ _ _ _ => n
def Bl.info : Bl → ByteArray | .mk _ _ s _ _ _ => s
def Bl.lines : Bl → List ByteArray | .mk _ _ _ l _ _ => l
def Bl.spans : Bl → List Sp | .mk _ _ _ _ l _ => l
def Bl.kids : Bl → List Bl | .mk _ _ _ _ _ l => l
mutual
def dSp : Sp → D
  | .mk k s l => .st [.int .i64 k, .str s, .sl (dSps l)]
def dSps : List Sp → List D
  | [] => []
  | x :: l => dSp x :: dSps l
end
mutual
def dBl : Bl → D
  | .mk k n i ls sp l => .st [.int .i64 k, .int .i64 n, .str i, .sl (ls.map D.str), .sl (dSps sp), .sl (dBls l)]
def dBls : List Bl → List D
  | [] => []
  | x :: l => dBl x :: dBls l
end
theorem dSps_map : ∀ l, dSps l = l.map dSp
  | [] => rfl
  | x :: l => by rw [dSps, dSps_map l, List.map_cons]
theorem dBls_map : ∀ l, dBls l = l.map dBl
  | [] => rfl
  | x :: l => by rw [dBls, dBls_map l, List.map_cons]
theorem dSps_len (l : List Sp) : (dSps l).length = l.length := by rw [dSps_map, List.length_map]
theorem dBls_len (l : List Bl) : (dBls l).length = l.length := by rw [dBls_map, List.length_map]
theorem dSp_sz (x : Sp) : (dSp x).sz = 3 := by cases x; simp [dSp, D.sz, D.szs]
theorem dBl_sz (x : Bl) : (dBl x).sz = 6 := by cases x; simp [dBl, D.sz, D.szs]

theorem rep_int {ok : Nat → Prop} {w : World} {k : IntKind} {n : Int} {cs : List Value} (h : Rep ok w (.int k n) cs) : cs = [.int k n] := by rwa [Rep] at h
theorem rep_str {ok : Nat → Prop} {w : World} {s : ByteArray} {cs : List Value} (h : Rep ok w (.str s) cs) : cs = [.string s] := by rwa [Rep] at h
theorem rep_sl {ok : Nat → Prop} {w : World} {xs : List D} {cs : List Value} (h : Rep ok w (.sl xs) cs) : ∃ v, cs = [v] ∧ Rd ok w v xs := by
  have h' := h
  rw [Rep] at h
  obtain ⟨A, c, rfl, _⟩ := h
  exact ⟨_, rfl, h'⟩
/-- The cells of a span. -/
theorem rep_sp {ok : Nat → Prop} {w : World} {x : Sp} {cs : List Value} (h : Rep ok w (dSp x) cs) : ∃ v, cs = [.int .i64 x.kind, .string x.s, v] ∧ Rd ok w v (dSps x.kids) := by
  obtain ⟨k, s, l⟩ := x
  rw [dSp, Rep] at h
  simp only [RepAll] at h
  obtain ⟨c0, r0, rfl, h0, c1, r1, rfl, h1, c2, r2, rfl, h2, rfl⟩ := h
  rw [rep_int h0, rep_str h1]
  obtain ⟨v, rfl, hv⟩ := rep_sl h2
  exact ⟨v, rfl, hv⟩
/-- The cells of a block. -/
theorem rep_bl {ok : Nat → Prop} {w : World} {x : Bl} {cs : List Value} (h : Rep ok w (dBl x) cs) :
    ∃ u v y, cs = [.int .i64 x.kind, .int .i64 x.level, .string x.info, u, v, y] ∧ Rd ok w u (x.lines.map D.str) ∧ Rd ok w v (dSps x.spans) ∧ Rd ok w y (dBls x.kids) := by
  obtain ⟨k, n, i, ls, sp, l⟩ := x
  rw [dBl, Rep] at h
  simp only [RepAll] at h
  obtain ⟨c0, r0, rfl, h0, c1, r1, rfl, h1, c2, r2, rfl, h2, c3, r3, rfl, h3, c4, r4, rfl, h4, c5, r5, rfl, h5, rfl⟩ := h
  rw [rep_int h0, rep_int h1, rep_str h2]
  obtain ⟨u, rfl, hu⟩ := rep_sl h3
  obtain ⟨v, rfl, hv⟩ := rep_sl h4
  obtain ⟨y, rfl, hy⟩ := rep_sl h5
  exact ⟨u, v, y, rfl, hu, hv, hy⟩
theorem Rd.sp_at {ok : Nat → Prop} {w : World} {A : Option Addr} {n c : Nat} {l : List Sp} (h : Rd ok w (.slice A n c) (dSps l)) {i : Nat} (hi : i < l.length) :
    ∃ b o u, A = some ⟨b, o, none⟩ ∧ ok b ∧ b < w.heap.size ∧ w.cell? ⟨b, o + i * 3, none⟩ = some (.int .i64 l[i].kind) ∧ w.cell? ⟨b, o + i * 3 + 1, none⟩ = some (.string l[i].s) ∧ w.cell? ⟨b, o + i * 3 + 2, none⟩ = some u ∧ Rd ok w u (dSps l[i].kids) := by
  rw [dSps_map] at h
  obtain ⟨b, o, c', cs, hv, hb, hlt, hr, hc⟩ := h.get (k := 3) (i := i) (fun d hd => by obtain ⟨x, _, rfl⟩ := List.mem_map.1 hd; exact dSp_sz x) (by simpa using hi)
  simp only [List.getElem_map] at hr
  obtain ⟨v, rfl, hk⟩ := rep_sp hr
  injection hv with hA _ _
  exact ⟨b, o, v, hA, hb, hlt, by simpa [Nat.add_assoc] using hc 0 _ rfl, by simpa [Nat.add_assoc] using hc 1 _ rfl, by simpa [Nat.add_assoc] using hc 2 _ rfl, hk⟩
theorem Rd.bl_at {ok : Nat → Prop} {w : World} {A : Option Addr} {n c : Nat} {l : List Bl} (h : Rd ok w (.slice A n c) (dBls l)) {i : Nat} (hi : i < l.length) :
    ∃ b o u v y, A = some ⟨b, o, none⟩ ∧ ok b ∧ b < w.heap.size ∧ w.cell? ⟨b, o + i * 6, none⟩ = some (.int .i64 l[i].kind) ∧ w.cell? ⟨b, o + i * 6 + 1, none⟩ = some (.int .i64 l[i].level) ∧
      w.cell? ⟨b, o + i * 6 + 2, none⟩ = some (.string l[i].info) ∧ w.cell? ⟨b, o + i * 6 + 3, none⟩ = some u ∧ w.cell? ⟨b, o + i * 6 + 4, none⟩ = some v ∧ w.cell? ⟨b, o + i * 6 + 5, none⟩ = some y ∧
      Rd ok w u (l[i].lines.map D.str) ∧ Rd ok w v (dSps l[i].spans) ∧ Rd ok w y (dBls l[i].kids) := by
  rw [dBls_map] at h
  obtain ⟨b, o, c', cs, hv, hb, hlt, hr, hc⟩ := h.get (k := 6) (i := i) (fun d hd => by obtain ⟨x, _, rfl⟩ := List.mem_map.1 hd; exact dBl_sz x) (by simpa using hi)
  simp only [List.getElem_map] at hr
  obtain ⟨u, v, y, rfl, h1, h2, h3⟩ := rep_bl hr
  injection hv with hA _ _
  exact ⟨b, o, u, v, y, hA, hb, hlt, by simpa [Nat.add_assoc] using hc 0 _ rfl, by simpa [Nat.add_assoc] using hc 1 _ rfl, by simpa [Nat.add_assoc] using hc 2 _ rfl, by simpa [Nat.add_assoc] using hc 3 _ rfl, by simpa [Nat.add_assoc] using hc 4 _ rfl, by simpa [Nat.add_assoc] using hc 5 _ rfl, h1, h2, h3⟩
theorem rd_sps {ok : Nat → Prop} {w : World} {A : Option Addr} {n c : Nat} {l : List Sp} (h : Rd ok w (.slice A n c) (dSps l)) : l.length = n ∧ n ≤ c := by
  have := rd_cap h; rwa [dSps_len] at this
theorem rd_bls {ok : Nat → Prop} {w : World} {A : Option Addr} {n c : Nat} {l : List Bl} (h : Rd ok w (.slice A n c) (dBls l)) : l.length = n ∧ n ≤ c := by
  have := rd_cap h; rwa [dBls_len] at this

section
variable {P : Program} {tI tS tL tSp tSps tBl tBls : TypeId}
/-- The types of whole numbers, texts, lists of texts, spans, blocks. -/
structure TreeTypes (P : Program) (tI tS tL tSp tSps tBl tBls : TypeId) : Prop where
  i : P.underlying tI = some (.int .i64)
  s : P.underlying tS = some .string
  l : P.underlying tL = some (.slice tS)
  sps : P.underlying tSps = some (.slice tSp)
  bls : P.underlying tBls = some (.slice tBl)
  sp : ∃ f0 f1 f2, P.underlying tSp = some (.struct #[f0, f1, f2]) ∧ f0.type = tI ∧ f1.type = tS ∧ f2.type = tSps
  bl : ∃ f0 f1 f2 f3 f4 f5, P.underlying tBl = some (.struct #[f0, f1, f2, f3, f4, f5]) ∧ f0.type = tI ∧ f1.type = tI ∧ f2.type = tS ∧ f3.type = tL ∧ f4.type = tSps ∧ f5.type = tBls
theorem list_of {α : Type} {f : α → D} : ∀ {xs : List D}, (∀ x ∈ xs, ∃ a, x = f a) → ∃ l : List α, xs = l.map f
  | [], _ => ⟨[], rfl⟩
  | x :: xs, h => by
    obtain ⟨a, rfl⟩ := h x (by simp)
    obtain ⟨l, rfl⟩ := list_of (xs := xs) (fun y hy => h y (by simp [hy]))
    exact ⟨a :: l, rfl⟩
theorem HasTy.int (h : TreeTypes P tI tS tL tSp tSps tBl tBls) {n : Nat} {X : D} (hx : HasTy P n tI X) : ∃ z, X = .int .i64 z ∧ (Lit.int .i64 z).wf = true := by
  cases n with
  | zero => rw [HasTy] at hx; exact hx.elim
  | succ n => rw [HasTy, h.i] at hx; exact hx
theorem HasTy.text (h : TreeTypes P tI tS tL tSp tSps tBl tBls) {n : Nat} {X : D} (hx : HasTy P n tS X) : ∃ s, X = .str s := by
  cases n with
  | zero => rw [HasTy] at hx; exact hx.elim
  | succ n => rw [HasTy, h.s] at hx; obtain ⟨s, rfl, _⟩ := hx; exact ⟨s, rfl⟩
theorem HasTy.texts (h : TreeTypes P tI tS tL tSp tSps tBl tBls) {n : Nat} {X : D} (hx : HasTy P n tL X) : ∃ l : List ByteArray, X = .sl (l.map D.str) := by
  cases n with
  | zero => rw [HasTy] at hx; exact hx.elim
  | succ n =>
    rw [HasTy, h.l] at hx
    obtain ⟨xs, rfl, hx⟩ := hx
    obtain ⟨l, rfl⟩ := list_of (f := D.str) (fun x hm => HasTy.text h (hx x hm))
    exact ⟨l, rfl⟩
/-- A whole number of the type int. -/
def wfI (z : Int) : Prop := -9223372036854775808 ≤ z ∧ z ≤ 9223372036854775807
theorem wfI_of {z : Int} (h : (Lit.int .i64 z).wf = true) : wfI z := by
  simpa [Lit.wf, IntKind.min, IntKind.max, IntKind.signed, IntKind.bits, wfI] using h
mutual
/-- All numbers in a tree are ints. -/
def Sp.wf : Sp → Prop
  | .mk k _ l => wfI k ∧ Sps.wf l
def Sps.wf : List Sp → Prop
  | [] => True
  | x :: l => Sp.wf x ∧ Sps.wf l
end
mutual
def Bl.wf : Bl → Prop
  | .mk k n _ _ sp l => wfI k ∧ wfI n ∧ Sps.wf sp ∧ Bls.wf l
def Bls.wf : List Bl → Prop
  | [] => True
  | x :: l => Bl.wf x ∧ Bls.wf l
end
theorem Sps.wf_iff : ∀ l, Sps.wf l ↔ ∀ x ∈ l, Sp.wf x
  | [] => by simp [Sps.wf]
  | x :: l => by rw [Sps.wf, Sps.wf_iff l]; simp
theorem Bls.wf_iff : ∀ l, Bls.wf l ↔ ∀ x ∈ l, Bl.wf x
  | [] => by simp [Bls.wf]
  | x :: l => by rw [Bls.wf, Bls.wf_iff l]; simp
theorem HasTy.sp (h : TreeTypes P tI tS tL tSp tSps tBl tBls) : ∀ {n : Nat} {X : D}, (HasTy P n tSp X → ∃ x : Sp, X = dSp x ∧ x.wf) ∧ (HasTy P n tSps X → ∃ l : List Sp, X = .sl (dSps l) ∧ Sps.wf l)
  | 0, _ => ⟨fun hx => by rw [HasTy] at hx; exact hx.elim, fun hx => by rw [HasTy] at hx; exact hx.elim⟩
  | n + 1, X => by
    constructor
    · intro hx
      obtain ⟨f0, f1, f2, hu, e0, e1, e2⟩ := h.sp
      rw [HasTy, hu] at hx
      obtain ⟨ys, rfl, hl, hy⟩ := hx
      match ys, hl with
      | [y0, y1, y2], _ =>
        have g0 := hy 0 f0 y0 rfl rfl
        have g1 := hy 1 f1 y1 rfl rfl
        have g2 := hy 2 f2 y2 rfl rfl
        rw [e0] at g0
        rw [e1] at g1
        rw [e2] at g2
        obtain ⟨z, rfl, hz⟩ := HasTy.int h g0
        obtain ⟨s, rfl⟩ := HasTy.text h g1
        obtain ⟨l, rfl, hw⟩ := (HasTy.sp h).2 g2
        exact ⟨.mk z s l, rfl, by rw [Sp.wf]; exact ⟨wfI_of hz, hw⟩⟩
    · intro hx
      rw [HasTy, h.sps] at hx
      obtain ⟨xs, rfl, hx⟩ := hx
      suffices ∃ l : List Sp, xs = dSps l ∧ Sps.wf l by obtain ⟨l, rfl, hw⟩ := this; exact ⟨l, rfl, hw⟩
      induction xs with
      | nil => exact ⟨[], rfl, trivial⟩
      | cons y xs ih =>
        obtain ⟨l, rfl, hw⟩ := ih (fun z hz => hx z (by simp [hz]))
        obtain ⟨x, rfl, hx'⟩ := (HasTy.sp h).1 (hx y (by simp))
        exact ⟨x :: l, rfl, hx', hw⟩
theorem HasTy.bl (h : TreeTypes P tI tS tL tSp tSps tBl tBls) : ∀ {n : Nat} {X : D}, (HasTy P n tBl X → ∃ x : Bl, X = dBl x ∧ x.wf) ∧ (HasTy P n tBls X → ∃ l : List Bl, X = .sl (dBls l) ∧ Bls.wf l)
  | 0, _ => ⟨fun hx => by rw [HasTy] at hx; exact hx.elim, fun hx => by rw [HasTy] at hx; exact hx.elim⟩
  | n + 1, X => by
    constructor
    · intro hx
      obtain ⟨f0, f1, f2, f3, f4, f5, hu, e0, e1, e2, e3, e4, e5⟩ := h.bl
      rw [HasTy, hu] at hx
      obtain ⟨ys, rfl, hl, hy⟩ := hx
      match ys, hl with
      | [y0, y1, y2, y3, y4, y5], _ =>
        have g0 := hy 0 f0 y0 rfl rfl
        have g1 := hy 1 f1 y1 rfl rfl
        have g2 := hy 2 f2 y2 rfl rfl
        have g3 := hy 3 f3 y3 rfl rfl
        have g4 := hy 4 f4 y4 rfl rfl
        have g5 := hy 5 f5 y5 rfl rfl
        rw [e0] at g0
        rw [e1] at g1
        rw [e2] at g2
        rw [e3] at g3
        rw [e4] at g4
        rw [e5] at g5
        obtain ⟨z, rfl, hz⟩ := HasTy.int h g0
        obtain ⟨z1, rfl, hz1⟩ := HasTy.int h g1
        obtain ⟨s, rfl⟩ := HasTy.text h g2
        obtain ⟨ls, rfl⟩ := HasTy.texts h g3
        obtain ⟨sp, rfl, hsp⟩ := (HasTy.sp h).2 g4
        obtain ⟨l, rfl, hw⟩ := (HasTy.bl h).2 g5
        exact ⟨.mk z z1 s ls sp l, rfl, by rw [Bl.wf]; exact ⟨wfI_of hz, wfI_of hz1, hsp, hw⟩⟩
    · intro hx
      rw [HasTy, h.bls] at hx
      obtain ⟨xs, rfl, hx⟩ := hx
      suffices ∃ l : List Bl, xs = dBls l ∧ Bls.wf l by obtain ⟨l, rfl, hw⟩ := this; exact ⟨l, rfl, hw⟩
      induction xs with
      | nil => exact ⟨[], rfl, trivial⟩
      | cons y xs ih =>
        obtain ⟨l, rfl, hw⟩ := ih (fun z hz => hx z (by simp [hz]))
        obtain ⟨x, rfl, hx'⟩ := (HasTy.bl h).1 (hx y (by simp))
        exact ⟨x :: l, rfl, hx', hw⟩
end
end Go.Proofs.YtlcfijkegdlfcaaGreatDoor
