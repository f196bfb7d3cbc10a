/- The words of these proofs: data (D), what a value reads as in a world (Rep, Rd), how a reading lives on. No program in it. -/
import Derived.Below
import Derived.WalkKit
import Derived.Handy
import Derived.Lib.Hide
import Derived.RangeFuncBox
import Derived.Maps.AppendAt
import Derived.Deep.Draws
import Derived.Deep.AppendLies
import Derived.Deep.QuietTactic
import Derived.BigQuiet
namespace Go.Proofs.YtlcfijkegdlfcaaGreatDoor
open Go.RowKit

theorem ret_int {k : IntKind} {a b : Int} (h : a = b) : Ending.returned (.int k a) = .returned (.int k b) := by rw [h]
theorem ret_bool {a b : Bool} (h : a = b) : Ending.returned (.bool a) = .returned (.bool b) := by rw [h]
theorem ret_str {a b : ByteArray} (h : a = b) : Ending.returned (.string a) = .returned (.string b) := by rw [h]

/-- Data: whole numbers, bools, texts, slices, structs. -/
inductive D where
  | int (k : IntKind) (n : Int)
  | bool (b : Bool)
  | str (s : ByteArray)
  | sl (xs : List D)
  | st (fs : List D)

mutual
/-- The cells cs read as a datum in w; its slices' cells lie in blocks that are ok. -/
def Rep (ok : Nat → Prop) (w : World) : D → List Value → Prop
  | .int k n, cs => cs = [.int k n]
  | .bool b, cs => cs = [.bool b]
  | .str s, cs => cs = [.string s]
  | .sl xs, cs => ∃ A c, cs = [.slice A xs.length c] ∧ xs.length ≤ c ∧ xs.length ≤ 9223372036854775807 ∧ (A = none → c = 0) ∧
      (0 < xs.length → ∃ b o cells, A = some ⟨b, o, none⟩ ∧ ok b ∧ b < w.heap.size ∧ RepAll ok w xs cells ∧ ∀ j u, cells[j]? = some u → w.cell? ⟨b, o + j, none⟩ = some u)
  | .st fs, cs => RepAll ok w fs cs
def RepAll (ok : Nat → Prop) (w : World) : List D → List Value → Prop
  | [], cs => cs = []
  | d :: ds, cs => ∃ c0 c1, cs = c0 ++ c1 ∧ Rep ok w d c0 ∧ RepAll ok w ds c1
end

mutual
/-- How many cells a datum has. -/
def D.sz : D → Nat
  | .st fs => D.szs fs
  | _ => 1
def D.szs : List D → Nat
  | [] => 0
  | d :: ds => D.sz d + D.szs ds
end

mutual
theorem Rep.len {ok : Nat → Prop} {w : World} : ∀ {d : D} {cs : List Value}, Rep ok w d cs → cs.length = d.sz
  | .int _ _, _, h => by rw [Rep] at h; rw [h]; rfl
  | .bool _, _, h => by rw [Rep] at h; rw [h]; rfl
  | .str _, _, h => by rw [Rep] at h; rw [h]; rfl
  | .sl _, _, h => by rw [Rep] at h; obtain ⟨A, c, rfl, _⟩ := h; rfl
  | .st fs, _, h => by rw [Rep] at h; rw [D.sz]; exact RepAll.len h
theorem RepAll.len {ok : Nat → Prop} {w : World} : ∀ {ds : List D} {cs : List Value}, RepAll ok w ds cs → cs.length = D.szs ds
  | [], _, h => by rw [RepAll] at h; rw [h]; rfl
  | d :: ds, _, h => by
    rw [RepAll] at h
    obtain ⟨c0, c1, rfl, h0, h1⟩ := h
    rw [List.length_append, Rep.len h0, RepAll.len h1, D.szs]
end

mutual
theorem Rep.one {ok : Nat → Prop} {w : World} : ∀ {d : D} {cs : List Value}, Rep ok w d cs → ∀ u ∈ cs, u.oneCell' = true
  | .int _ _, _, h => by rw [Rep] at h; rw [h]; simp [Value.oneCell']
  | .bool _, _, h => by rw [Rep] at h; rw [h]; simp [Value.oneCell']
  | .str _, _, h => by rw [Rep] at h; rw [h]; simp [Value.oneCell']
  | .sl _, _, h => by rw [Rep] at h; obtain ⟨A, c, rfl, _⟩ := h; simp [Value.oneCell']
  | .st fs, _, h => by rw [Rep] at h; exact RepAll.one h
theorem RepAll.one {ok : Nat → Prop} {w : World} : ∀ {ds : List D} {cs : List Value}, RepAll ok w ds cs → ∀ u ∈ cs, u.oneCell' = true
  | [], _, h => by rw [RepAll] at h; rw [h]; simp
  | d :: ds, _, h => by
    rw [RepAll] at h
    obtain ⟨c0, c1, rfl, h0, h1⟩ := h
    intro u hu
    rcases List.mem_append.1 hu with hu | hu
    · exact Rep.one h0 u hu
    · exact RepAll.one h1 u hu
end

mutual
/-- A reading lives on where its blocks do. -/
theorem Rep.step {ok ok' : Nat → Prop} {w w1 : World} (hm : ∀ k, ok k → k < w.heap.size → w1.heap[k]? = w.heap[k]?) (ho : ∀ k, ok k → k < w.heap.size → ok' k) :
    ∀ {d : D} {cs : List Value}, Rep ok w d cs → Rep ok' w1 d cs
  | .int _ _, _, h => by rw [Rep] at h ⊢; exact h
  | .bool _, _, h => by rw [Rep] at h ⊢; exact h
  | .str _, _, h => by rw [Rep] at h ⊢; exact h
  | .sl xs, _, h => by
    rw [Rep] at h ⊢
    obtain ⟨A, c, rfl, hl, hx, hn, h⟩ := h
    refine ⟨A, c, rfl, hl, hx, hn, fun hp => ?_⟩
    obtain ⟨b, o, cells, rfl, hb, hlt, hr, hc⟩ := h hp
    have hbk := hm b hb hlt
    have hlt' : b < w1.heap.size := by
      have h0 : w.heap[b]? = some w.heap[b] := Array.getElem?_eq_getElem hlt
      rw [h0] at hbk
      exact (Array.getElem?_eq_some_iff.1 hbk).1
    exact ⟨b, o, cells, rfl, ho b hb hlt, hlt', RepAll.step hm ho hr, fun j u hu => (World.cell?_of_block (a := ⟨b, o + j, none⟩) hbk).trans (hc j u hu)⟩
  | .st fs, _, h => by rw [Rep] at h ⊢; exact RepAll.step hm ho h
theorem RepAll.step {ok ok' : Nat → Prop} {w w1 : World} (hm : ∀ k, ok k → k < w.heap.size → w1.heap[k]? = w.heap[k]?) (ho : ∀ k, ok k → k < w.heap.size → ok' k) :
    ∀ {ds : List D} {cs : List Value}, RepAll ok w ds cs → RepAll ok' w1 ds cs
  | [], _, h => by rw [RepAll] at h ⊢; exact h
  | d :: ds, _, h => by
    rw [RepAll] at h ⊢
    obtain ⟨c0, c1, rfl, h0, h1⟩ := h
    exact ⟨c0, c1, rfl, Rep.step hm ho h0, RepAll.step hm ho h1⟩
end

theorem RepAll.append {ok : Nat → Prop} {w : World} : ∀ {ds es : List D} {cs ec : List Value}, RepAll ok w ds cs → RepAll ok w es ec → RepAll ok w (ds ++ es) (cs ++ ec)
  | [], _, _, _, h, h' => by rw [RepAll] at h; subst h; exact h'
  | d :: ds, es, _, ec, h, h' => by
    rw [RepAll] at h
    obtain ⟨c0, c1, rfl, h0, h1⟩ := h
    rw [List.cons_append, RepAll]
    exact ⟨c0, c1 ++ ec, by rw [List.append_assoc], h0, RepAll.append h1 h'⟩
theorem RepAll.single {ok : Nat → Prop} {w : World} {d : D} {cs : List Value} (h : Rep ok w d cs) : RepAll ok w [d] cs := by
  rw [RepAll]; exact ⟨cs, [], by simp, h, by rw [RepAll]⟩
theorem RepAll.split {ok : Nat → Prop} {w : World} : ∀ {ds es : List D} {cs : List Value}, RepAll ok w (ds ++ es) cs → ∃ c0 c1, cs = c0 ++ c1 ∧ RepAll ok w ds c0 ∧ RepAll ok w es c1
  | [], _, cs, h => ⟨[], cs, rfl, by rw [RepAll], h⟩
  | d :: ds, es, _, h => by
    rw [List.cons_append, RepAll] at h
    obtain ⟨c0, c1, rfl, h0, h1⟩ := h
    obtain ⟨c2, c3, rfl, h2, h3⟩ := RepAll.split h1
    exact ⟨c0 ++ c2, c3, by rw [List.append_assoc], by rw [RepAll]; exact ⟨c0, c2, rfl, h0, h2⟩, h3⟩

theorem D.szs_append : ∀ ds es : List D, D.szs (ds ++ es) = D.szs ds + D.szs es
  | [], es => by simp [D.szs]
  | d :: ds, es => by rw [List.cons_append, D.szs, D.szs, D.szs_append ds es, Nat.add_assoc]
theorem D.szs_map {α : Type} {f : α → D} {k : Nat} (hf : ∀ x, (f x).sz = k) : ∀ xs : List α, D.szs (xs.map f) = xs.length * k
  | [] => by simp [D.szs]
  | x :: xs => by rw [List.map_cons, D.szs, hf, D.szs_map hf xs, List.length_cons, Nat.add_mul, Nat.one_mul, Nat.add_comm]

/-- The slice value v reads as the elements ds. -/
def Rd (ok : Nat → Prop) (w : World) (v : Value) (ds : List D) : Prop := Rep ok w (.sl ds) [v]
theorem Rd.form {ok : Nat → Prop} {w : World} {v : Value} {ds : List D} (h : Rd ok w v ds) : ∃ A c, v = .slice A ds.length c ∧ ds.length ≤ c ∧ ds.length ≤ 9223372036854775807 := by
  unfold Rd at h; rw [Rep] at h
  obtain ⟨A, c, hv, hl, hx, _⟩ := h
  exact ⟨A, c, by injection hv, hl, hx⟩
theorem Rd.nocap {ok : Nat → Prop} {w : World} {n c : Nat} {ds : List D} (h : Rd ok w (.slice none n c) ds) : c = 0 := by
  unfold Rd at h; rw [Rep] at h
  obtain ⟨A, c', hv, _, _, hn, _⟩ := h
  injection hv with hv _
  injection hv with h1 h2 h3
  subst h1; subst h3
  exact hn rfl
theorem Rd.step {ok ok' : Nat → Prop} {w w1 : World} {v : Value} {ds : List D} (h : Rd ok w v ds) (hm : ∀ k, ok k → k < w.heap.size → w1.heap[k]? = w.heap[k]?) (ho : ∀ k, ok k → k < w.heap.size → ok' k) : Rd ok' w1 v ds := Rep.step hm ho h
theorem Rd.mono {ok ok' : Nat → Prop} {w : World} {v : Value} {ds : List D} (h : Rd ok w v ds) (ho : ∀ k, ok k → k < w.heap.size → ok' k) : Rd ok' w v ds := Rep.step (fun _ _ _ => rfl) ho h
theorem Rd.below {ok : Nat → Prop} {w w1 : World} {v : Value} {ds : List D} (h : Rd ok w v ds) (hb : Below w.heap.size w w1) : Rd ok w1 v ds := Rep.step (fun k _ hk => hb.block k hk) (fun _ h _ => h) h
/-- What is read from below B lives on while what is below B stays. -/
theorem Rd.under {ok : Nat → Prop} {B : Nat} {w0 w w1 : World} {v : Value} {ds : List D} (h : Rd ok w v ds) (hok : ∀ k, ok k → k < B) (h0 : Below B w0 w) (h1 : Below B w0 w1) : Rd ok w1 v ds :=
  Rep.step (fun k hk _ => (h1.block k (hok k hk)).trans (h0.block k (hok k hk)).symm) (fun _ h _ => h) h
theorem Rd.nil (ok : Nat → Prop) (w : World) : Rd ok w (.slice none 0 0) [] := by
  unfold Rd; rw [Rep]; exact ⟨none, 0, rfl, Nat.le_refl _, by simp, fun _ => rfl, fun h => absurd h (by simp)⟩
/-- The element at a place: its cells. -/
theorem Rd.get {ok : Nat → Prop} {w : World} {v : Value} {ds : List D} {k : Nat} (h : Rd ok w v ds) (hk : ∀ d ∈ ds, d.sz = k) {i : Nat} (hi : i < ds.length) :
    ∃ b o c cs, v = .slice (some ⟨b, o, none⟩) ds.length c ∧ ok b ∧ b < w.heap.size ∧ Rep ok w ds[i] cs ∧ ∀ j u, cs[j]? = some u → w.cell? ⟨b, o + (i * k + j), none⟩ = some u := by
  unfold Rd at h; rw [Rep] at h
  obtain ⟨A, c, hv, hl, hx, _, h⟩ := h
  obtain ⟨b, o, cells, rfl, hb, hlt, hr, hc⟩ := h (by omega)
  have hs : ds = ds.take i ++ (ds[i] :: ds.drop (i + 1)) := by rw [List.getElem_cons_drop, List.take_append_drop]
  rw [hs] at hr
  obtain ⟨c0, c1, rfl, h0, h1⟩ := RepAll.split hr
  rw [RepAll] at h1
  obtain ⟨c2, c3, rfl, h2, h3⟩ := h1
  have hz : ∀ es : List D, (∀ d ∈ es, d.sz = k) → D.szs es = es.length * k := by
    intro es
    induction es with
    | nil => intro _; simp [D.szs]
    | cons e es ih =>
      intro he
      rw [D.szs, he e (by simp), ih (fun d hd => he d (by simp [hd])), List.length_cons, Nat.add_mul, Nat.one_mul, Nat.add_comm]
  have hl0 : c0.length = i * k := by
    rw [RepAll.len h0, hz _ (fun d hd => hk d (List.mem_of_mem_take hd)), List.length_take, Nat.min_eq_left (by omega)]
  refine ⟨b, o, c, c2, by injection hv, hb, hlt, h2, fun j u hu => ?_⟩
  refine hc (i * k + j) u ?_
  rw [List.getElem?_append_right (by omega), hl0, Nat.add_sub_cancel_left]
  have := (List.getElem?_eq_some_iff.1 hu).1
  rw [List.getElem?_append_left this]
  exact hu

theorem D.szs_all {k : Nat} : ∀ es : List D, (∀ d ∈ es, d.sz = k) → D.szs es = es.length * k
  | [], _ => by simp [D.szs]
  | e :: es, he => by rw [D.szs, he e (by simp), D.szs_all es (fun d hd => he d (by simp [hd])), List.length_cons, Nat.add_mul, Nat.one_mul, Nat.add_comm]
/-- A cut of a slice, elements of k cells. -/
theorem Rd.cut {ok : Nat → Prop} {w : World} {A : Option Addr} {n c : Nat} {ds : List D} {k : Nat} (h : Rd ok w (.slice A n c) ds) (hk : ∀ d ∈ ds, d.sz = k) {a b : Nat} (hab : a ≤ b) (hb : b ≤ n) :
    Rd ok w (.slice (if c = a then A else A.map (·.add (a * k))) (b - a) (c - a)) ((ds.take b).drop a) := by
  unfold Rd at h ⊢; rw [Rep] at h ⊢
  obtain ⟨A', c', hv, hl, hx, hn, h⟩ := h
  injection hv with hv _
  injection hv with h1 h2 h3
  subst h1; subst h3; subst h2
  have hlen : ((ds.take b).drop a).length = b - a := by rw [List.length_drop, List.length_take, Nat.min_eq_left hb]
  refine ⟨_, _, by rw [hlen], by rw [hlen]; omega, by rw [hlen]; omega, fun he => ?_, fun hp => ?_⟩
  · split at he
    · have := hn he; omega
    · have := hn (by cases A with | none => rfl | some x => simp at he); omega
  rw [hlen] at hp
  obtain ⟨bk, o, cells, rfl, hok, hlt, hr, hc⟩ := h (by omega)
  have hs : ds = ds.take a ++ ((ds.take b).drop a ++ ds.drop b) := by
    have e1 : (ds.take b).drop a ++ ds.drop b = ds.drop a := by
      have := List.drop_append_of_le_length (l₂ := ds.drop b) (show a ≤ (ds.take b).length by rw [List.length_take, Nat.min_eq_left hb]; omega)
      rw [← this, List.take_append_drop]
    rw [e1, List.take_append_drop]
  rw [hs] at hr
  obtain ⟨c0, c1, rfl, h0, h1⟩ := RepAll.split hr
  obtain ⟨c2, c3, rfl, h2, h3⟩ := RepAll.split h1
  have hl0 : c0.length = a * k := by rw [RepAll.len h0, D.szs_all _ (fun d hd => hk d (List.mem_of_mem_take hd)), List.length_take, Nat.min_eq_left (by omega)]
  rw [if_neg (by omega)]
  refine ⟨bk, o + a * k, c2, ?_, hok, hlt, h2, fun j u hu => ?_⟩
  · simp only [Option.map_some, Addr.add]
    split
    · rename_i h; rw [h, Nat.add_zero]
    · rfl
  · have := hc (a * k + j) u (by
      rw [List.getElem?_append_right (by omega), hl0, Nat.add_sub_cancel_left, List.getElem?_append_left (List.getElem?_eq_some_iff.1 hu).1]
      exact hu)
    rw [Nat.add_assoc]; exact this

/-- The cells of a slice of texts; of whole numbers. -/
theorem Rd.str {ok : Nat → Prop} {w : World} {v : Value} {ss : List ByteArray} (h : Rd ok w v (ss.map D.str)) {i : Nat} (hi : i < ss.length) :
    ∃ b o c, v = .slice (some ⟨b, o, none⟩) ss.length c ∧ ok b ∧ w.cell? ⟨b, o + i, none⟩ = some (.string ss[i]) := by
  obtain ⟨b, o, c, cs, hv, hb, _, hr, hc⟩ := h.get (k := 1) (i := i) (fun d hd => by obtain ⟨x, _, rfl⟩ := List.mem_map.1 hd; rfl) (by simpa using hi)
  simp only [List.getElem_map] at hr
  rw [Rep] at hr
  subst hr
  refine ⟨b, o, c, by simpa using hv, hb, ?_⟩
  have := hc 0 _ rfl
  simpa using this
theorem Rd.int {ok : Nat → Prop} {w : World} {v : Value} {k : IntKind} {zs : List Int} (h : Rd ok w v (zs.map (D.int k))) {i : Nat} (hi : i < zs.length) :
    ∃ b o c, v = .slice (some ⟨b, o, none⟩) zs.length c ∧ ok b ∧ w.cell? ⟨b, o + i, none⟩ = some (.int k zs[i]) := by
  obtain ⟨b, o, c, cs, hv, hb, _, hr, hc⟩ := h.get (k := 1) (i := i) (fun d hd => by obtain ⟨x, _, rfl⟩ := List.mem_map.1 hd; rfl) (by simpa using hi)
  simp only [List.getElem_map] at hr
  rw [Rep] at hr
  subst hr
  refine ⟨b, o, c, by simpa using hv, hb, ?_⟩
  have := hc 0 _ rfl
  simpa using this

theorem Rd.ints {ok : Nat → Prop} {w : World} {A : Option Addr} {n c : Nat} {k : IntKind} {zs : List Int} (h : Rd ok w (.slice A n c) (zs.map (D.int k))) (h0 : 0 < zs.length) :
    ∃ b o, A = some ⟨b, o, none⟩ ∧ ok b ∧ b < w.heap.size ∧ ∀ i, i < zs.length → w.cell? ⟨b, o + i, none⟩ = some (.int k (zs.getD i 0)) := by
  obtain ⟨b, o, c', hv, hb, hc⟩ := h.int h0
  injection hv with hA _ _
  refine ⟨b, o, hA, hb, World.block_lt_of_cell? w _ hc, fun i hi => ?_⟩
  obtain ⟨b', o', c'', hv', _, hc'⟩ := h.int hi
  injection hv' with hA' _ _
  rw [hA] at hA'
  injection hA' with hA'
  injection hA' with e1 e2
  subst e1; subst e2
  rw [hc']
  simp [hi]
theorem Rd.strs {ok : Nat → Prop} {w : World} {A : Option Addr} {n c : Nat} {ss : List ByteArray} (h : Rd ok w (.slice A n c) (ss.map D.str)) (h0 : 0 < ss.length) :
    ∃ b o, A = some ⟨b, o, none⟩ ∧ ok b ∧ b < w.heap.size ∧ ∀ i, i < ss.length → w.cell? ⟨b, o + i, none⟩ = some (.string (ss.getD i ByteArray.empty)) := by
  obtain ⟨b, o, c', hv, hb, hc⟩ := h.str h0
  injection hv with hA _ _
  refine ⟨b, o, hA, hb, World.block_lt_of_cell? w _ hc, fun i hi => ?_⟩
  obtain ⟨b', o', c'', hv', _, hc'⟩ := h.str hi
  injection hv' with hA' _ _
  rw [hA] at hA'
  injection hA' with hA'
  injection hA' with e1 e2
  subst e1; subst e2
  rw [hc']
  simp [hi]

/-- A row of the call's own reads as what its cells say. -/
theorem Rd.of_own {ok : Nat → Prop} {w : World} {base e size n : Nat} {v : Value} {ds : List D} {cells : List Value} (h : w.ownsRow base e size v n cells) (hn : ds.length = n) (hr : RepAll ok w ds cells) (hok : ∀ k, v.ownBlock = some k → ok k) : Rd ok w v ds := by
  unfold Rd; rw [Rep]
  subst hn
  rcases h.2 with ⟨rfl, h0⟩ | ⟨g, cap, cur, rfl, hb, hg, hc, hm, _⟩
  · exact ⟨none, 0, by rw [h0], by omega, by omega, fun _ => rfl, fun hp => absurd hp (by omega)⟩
  · refine ⟨_, cap, rfl, hc, by simp only [maxLen] at hm; omega, nofun, fun hp => ⟨g, 0, cells, rfl, hok g rfl, (Array.getElem?_eq_some_iff.1 hg).1, hr, fun j u hu => ?_⟩⟩
    have := h.cells (g := g) rfl j u hu
    have ha : (⟨g, 0, none⟩ : Addr).add j = ⟨g, 0 + j, none⟩ := by unfold Addr.add; split <;> simp_all
    rwa [ha] at this
theorem RepAll.strs (ok : Nat → Prop) (w : World) : ∀ ss : List ByteArray, RepAll ok w (ss.map D.str) (ss.map Value.string)
  | [] => by rw [List.map_nil, RepAll]; rfl
  | s :: ss => by rw [List.map_cons, RepAll]; exact ⟨[.string s], ss.map Value.string, rfl, by rw [Rep], RepAll.strs ok w ss⟩
theorem RepAll.ints (ok : Nat → Prop) (w : World) (k : IntKind) : ∀ zs : List Int, RepAll ok w (zs.map (D.int k)) (zs.map (Value.int k))
  | [] => by rw [List.map_nil, RepAll]; rfl
  | z :: zs => by rw [List.map_cons, RepAll]; exact ⟨[.int k z], zs.map (Value.int k), rfl, by rw [Rep], RepAll.ints ok w k zs⟩
theorem Rd.own_strs {ok : Nat → Prop} {w : World} {base e n : Nat} {v : Value} {ss : List ByteArray} (h : w.ownsRow base e 1 v n (ss.map Value.string)) (hok : ∀ k, v.ownBlock = some k → ok k) : Rd ok w v (ss.map D.str) :=
  Rd.of_own h (by have := h.1; simpa using this) (RepAll.strs ok w ss) hok
theorem Rd.own_ints {ok : Nat → Prop} {w : World} {base e n : Nat} {k : IntKind} {v : Value} {zs : List Int} (h : w.ownsRow base e 1 v n (zs.map (Value.int k))) (hok : ∀ k, v.ownBlock = some k → ok k) : Rd ok w v (zs.map (D.int k)) :=
  Rd.of_own h (by have := h.1; simpa using this) (RepAll.ints ok w k zs) hok

theorem own_ge {w : World} {base e size n : Nat} {v : Value} {xs : List Value} (h : w.ownsRow base e size v n xs) : ∀ k, v.ownBlock = some k → base ≤ k := fun k hk => (h.lt k hk).1
theorem below_alloc {w W : World} {B : Nat} (h : Below B w W) (hB : B ≤ W.heap.size) (o : Obj) : Below B w (W.alloc o) := h.alloc hB o
theorem below_drewN {B : Nat} {w W : World} (h : Below B w W) (n : Nat) : Below B w (W.drewN n) := ⟨h.os, h.tape, h.output, h.size, h.block⟩
theorem below_to {B : Nat} {w w1 w2 : World} (h : Below B w w1) (hB : B ≤ w1.heap.size) (k : Below w1.heap.size w1 w2) : Below B w w2 := h.trans (k.mono hB)
theorem Below.sz {B : Nat} {w w1 : World} (h : Below B w w1) (hB : B ≤ w.heap.size) : B ≤ w1.heap.size := Nat.le_trans hB h.size

/-- append(v, x), one element, behind 'at_builtin': its cells are news. -/
theorem app_one {P : Program} {ops : Array Oper} {rest : List Oper} {o : Oper} {a : Act} {Q : Exit → Act → World → Prop} {w0 W : World} (base : Nat) (hgd : o.guard = none) (s x : Operand) (t e : TypeId) {z : Value} {size bytes : Nat}
    (ho : o.op = .call { callee := .builtin .append, args := #[s, x], argTypes := #[t, t] })
    (ht : P.underlying t = some (.slice e)) (hinfo : (P.info? e).map (fun i => (i.zero, i.size, i.bytes)) = some (some z, size, bytes)) (hz : z.cells.size = size) (hs0 : 0 < size) (hb0 : 0 < bytes)
    {v : Value} {n : Nat} {xs : List Value} (news : List Value) (hs : a.eval s = v) (hx : a.eval x = .slice (some ⟨W.heap.size, 0, none⟩) 1 1) (hn : news.length = size) (h1 : ∀ u ∈ news, u.oneCell' = true)
    (hown : W.ownsRow base e size v n xs) (hB : Below base w0 W) (hbase : base ≤ W.heap.size) (hl : (n + 1) * bytes ≤ 140737488355328)
    (h : ∀ v' w', w'.ownsRow base e size v' (n + 1) (xs ++ news) → Below base w0 w' → W.grownBy w' v.ownBlock → (v'.ownBlock = v.ownBlock ∨ ∃ b, v'.ownBlock = some b ∧ W.heap.size ≤ b) → wpList P ops Q rest (a.put o.dst v') w') :
    wpList P ops Q (o :: rest) a (W.alloc (.cells news.toArray e)) := by
  obtain ⟨i0, hi, hz0, hz1, hz2⟩ := info_parts hinfo
  have hlen : n + 1 ≤ 140737488355328 := Nat.le_trans (Nat.le_mul_of_pos_right _ hb0) hl
  refine wpList_append_own_at (W.alloc (.cells news.toArray e)) hgd s x t ho base e i0 z size bytes ht hi hz0 hz1 hz2 hz hs0 v n xs hs (hown.alloc _) ⟨W.heap.size, 0, none⟩ 1 1 news hx (by rw [hn]; simp)
    (by simpa using World.news_of_block (cs := news.toArray) (t := e) (fr := (0, 0)) (heap_alloc_new W (.cells news.toArray e))) h1 (by simp only [maxLen]; omega) hl (by simp; omega) ?_
  intro v1 w1 ho1 hg _ hat
  refine h v1 w1 ho1 ((hB.alloc hbase _).grown hg (by simp; omega) (fun k hk => own_ge hown k hk)) ?_ ?_
  · exact ⟨hg.os, hg.tape, hg.output, Nat.le_trans (by simp) hg.size, fun k hk hne => (hg.block k (by simp; omega) hne).trans (Below.heap_alloc W _ k hk)⟩
  · rcases hat with hat | hat
    · exact .inl hat
    · exact .inr ⟨_, hat, by simp⟩

theorem own_at {w w1 : World} {base e size n c g : Nat} {xs : List Value} (h : w.ownsRow base e size (.slice (some ⟨g, 0, none⟩) n c) n xs) (hm : w1.heap[g]? = w.heap[g]?) : w1.ownsRow base e size (.slice (some ⟨g, 0, none⟩) n c) n xs := by
  obtain ⟨h1, h2⟩ := h
  refine ⟨h1, ?_⟩
  rcases h2 with h2 | ⟨g', cap, cur, hv, hb, hg, r⟩
  · exact .inl h2
  · have hgg : g = g' := by simpa using (Value.slice.inj hv).1
    subst hgg
    exact .inr ⟨g, cap, cur, hv, hb, hm.trans hg, r⟩
/-- The blocks of a set lie as they lay. -/
structure Keeps (S : Nat → Prop) (W W' : World) : Prop where
  block : ∀ k, S k → W'.heap[k]? = W.heap[k]?
theorem Keeps.refl (S : Nat → Prop) (W : World) : Keeps S W W := ⟨fun _ _ => rfl⟩
theorem Keeps.trans {S : Nat → Prop} {A B C : World} (h : Keeps S A B) (k : Keeps S B C) : Keeps S A C := ⟨fun i hi => (k.block i hi).trans (h.block i hi)⟩
theorem Keeps.cell {S : Nat → Prop} {A B : World} (h : Keeps S A B) {p : Addr} (hp : S p.block) : B.cell? p = A.cell? p := World.cell?_of_block (h.block _ hp)
theorem Keeps.drewN {S : Nat → Prop} {A B : World} (h : Keeps S A B) (n : Nat) : Keeps S A (B.drewN n) := ⟨h.block⟩
theorem Keeps.of_below {S : Nat → Prop} {A B : World} {n : Nat} (h : Below n A B) (hS : ∀ k, S k → k < n) : Keeps S A B := ⟨fun k hk => h.block k (hS k hk)⟩
theorem own_lower {w : World} {base base' e size n : Nat} {v : Value} {xs : List Value} (h : w.ownsRow base e size v n xs) (hb : base' ≤ base) : w.ownsRow base' e size v n xs := by
  obtain ⟨h1, h2⟩ := h
  refine ⟨h1, ?_⟩
  rcases h2 with h2 | ⟨g, cap, cur, hv, hg, r⟩
  · exact .inl h2
  · exact .inr ⟨g, cap, cur, hv, Nat.le_trans hb hg, r⟩
theorem own_slice {w : World} {base e size n : Nat} {v : Value} {xs : List Value} (h : w.ownsRow base e size v n xs) : ∃ A c, v = .slice A n c := by
  rcases h.2 with ⟨rfl, rfl⟩ | ⟨g, cap, cur, rfl, _⟩
  · exact ⟨none, 0, rfl⟩
  · exact ⟨_, cap, rfl⟩
theorem made_one {v : Value} (hv : v.cells = #[v]) (N : Nat) : (madeCells v.cells (N * 1)).toList = List.replicate N v := by
  unfold madeCells
  rw [hv]
  apply List.ext_getElem
  · simp
  · intro i h1 h2
    simp [Nat.mod_one]
end Go.Proofs.YtlcfijkegdlfcaaGreatDoor
