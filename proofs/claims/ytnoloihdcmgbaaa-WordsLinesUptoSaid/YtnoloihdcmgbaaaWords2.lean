/- The walks of token.Join, words.Text, words.One. -/
import Derived.Test.YtnoloihdcmgbaaaWords
import Derived.Test.YtnoloihdcmgbaaaCutP
import Derived.Test.YtnoloihdcmgbaaaStr
namespace Go.Proofs.Ytnoloihdcmgbaaa
open Go.RowKit Go.PlainAid
set_option linter.all false
set_option linter.deprecated false

/-- Texts, one behind the other. -/
def catB (l : List ByteArray) : ByteArray := ⟨(l.map (·.data.toList)).flatten.toArray⟩
theorem join_cat (l : List (List UInt8)) : Lib.join l [] = l.flatten := by
  cases l with
  | nil => rfl
  | cons x r => rw [Lib.join_cons]; simp [Lib.joinTail]
theorem catB_nil : catB [] = ⟨#[]⟩ := rfl
theorem catB_list (l : List ByteArray) : (catB l).data.toList = (l.map (·.data.toList)).flatten := by simp [catB]
theorem flat_le {α : Type} (n : Nat) : ∀ l : List (List α), (∀ x ∈ l, x.length ≤ n) → l.flatten.length ≤ l.length * n
  | [], _ => by simp
  | x :: l, h => by
    have h1 := h x (by simp)
    have h2 := flat_le n l (fun y hy => h y (by simp [hy]))
    rw [List.flatten_cons, List.length_append, List.length_cons, Nat.add_mul]
    omega

set_option maxRecDepth 100000 in
theorem Join_calls {ok : Nat → Prop} (v : Value) (l : List ByteArray) (w : World) (h : Rd ok w v (l.map D.str)) (hlen : (l.map (·.data.toList)).flatten.length ≤ 140737488355328) (hn : l.length ≤ 140737488355328) :
    Calls Try.prog 18 #[v] w fun e w' => e = .returned (.string (catB l)) ∧ Below w.heap.size w w' := by
  obtain ⟨A, c, rfl, hc, _⟩ := h.form
  rw [List.length_map] at *
  rcases Nat.eq_zero_or_pos l.length with h0 | h0
  · have : l = [] := List.eq_nil_of_length_eq_zero h0
    subst this
    go_enter Try.func18, Try.ntmps18
    go_wp2_with (go_at_call 26; go_must (refine (Try.strings_Join_none _ _ _ _).mono ?_); rintro e w1 ⟨rfl, rfl⟩)
    go_ret
    exact ⟨rfl, Below.refl _ _⟩
  · obtain ⟨b, o, rfl, _, hlt, hcell⟩ := h.strs h0
    have hj := Try.strings_Join b o c l ⟨#[]⟩ w (fun j x hx => by
      obtain ⟨h1, h2⟩ := List.getElem?_eq_some_iff.1 hx
      rw [hcell j h1]
      simp [h1, h2]) hlt hn hc (by rw [join_cat]; exact hlen)
    rw [join_cat] at hj
    have HJ := Lib.hid hj
    clear hj hcell h
    go_enter Try.func18, Try.ntmps18
    go_wp2_with (go_at_call 26; go_must (refine (HJ.out).mono ?_); rintro e w1 ⟨rfl, hb⟩)
    go_ret
    exact ⟨rfl, hb⟩

theorem cut_sz {s x : ByteArray} (h : x ∈ cut s) : x.size ≤ s.size := by
  suffices ∀ i, ∀ x ∈ (cutTo s i).1, x.size ≤ s.size from this _ x h
  intro i
  induction i with
  | zero => intro x hx; simp [cutTo] at hx
  | succ i ih =>
    intro x hx
    rw [cutTo_succ] at hx
    split at hx
    · exact ih x hx
    · rcases List.mem_append.1 hx with hx | hx
      · exact ih x hx
      · rw [List.mem_singleton.1 hx, ByteArray.size_extract]; omega
/-- Three texts, word by word. -/
def textL (b o t : ByteArray) : Option (List ByteArray) := mergeL (cut b) (cut o) (cut t)
set_option maxRecDepth 100000 in
set_option maxHeartbeats 1000000 in
theorem WText_calls (b o t : ByteArray) (w : World) (hb : b.size ≤ 262143) (ho : o.size ≤ 262143) (ht : t.size ≤ 262143) :
    Calls Try.prog 8 #[.string b, .string o, .string t] w fun e w' => e = .returned (.tuple #[.string (catB ((textL b o t).getD [])), .bool (textL b o t).isSome]) ∧ Below w.heap.size w w' := by
  have lb : (cut b).length ≤ b.size := (cutTo_len b b.size).1
  have lo : (cut o).length ≤ o.size := (cutTo_len o o.size).1
  have lt : (cut t).length ≤ t.size := (cutTo_len t t.size).1
  have hsz : ∀ s ∈ cut b ++ cut o ++ cut t, s.size ≤ 262143 := fun s hs => by
    rcases List.mem_append.1 hs with hs | hs
    · rcases List.mem_append.1 hs with hs | hs
      · exact Nat.le_trans (cut_sz hs) hb
      · exact Nat.le_trans (cut_sz hs) ho
    · exact Nat.le_trans (cut_sz hs) ht
  have hml : ((textL b o t).getD []).length ≤ 524286 ∧ (((textL b o t).getD []).map (·.data.toList)).flatten.length ≤ 140737488355328 := by
    unfold textL
    cases hM : mergeL (cut b) (cut o) (cut t) with
    | none => simp
    | some m =>
      have h1 := mergeL_len hM
      have h2 := flat_le 262143 (m.map (·.data.toList)) (fun x hx => by
        obtain ⟨s, hs, rfl⟩ := List.mem_map.1 hx
        have := hsz s (by rcases mergeL_mem hM hs with h | h <;> simp [h])
        simpa using this)
      rw [List.length_map] at h2
      simp only [Option.getD_some]
      refine ⟨by omega, ?_⟩
      have : m.length * 262143 ≤ 524286 * 262143 := Nat.mul_le_mul_right _ (by omega)
      omega
  have hWL := fun (vb vo vt : Value) (W : World) (h1 : Rd (· < W.heap.size) W vb ((cut b).map D.str)) (h2 : Rd (· < W.heap.size) W vo ((cut o).map D.str)) (h3 : Rd (· < W.heap.size) W vt ((cut t).map D.str)) =>
    WLines_calls vb vo vt (cut b) (cut o) (cut t) W (by omega) (by omega) (by omega) (fun s hs => Nat.le_trans (hsz s hs) (by unfold maxLen; omega)) h1 h2 h3
  change ∀ (vb vo vt : Value) (W : World), _ → _ → _ → Calls Try.prog 10 #[vb, vo, vt] W (fun e w' => ∃ v, e = .returned (.tuple #[v, .bool (textL b o t).isSome]) ∧ w'.ownsRow W.heap.size 9 1 v ((textL b o t).getD []).length (((textL b o t).getD []).map Value.string) ∧ Below W.heap.size W w') at hWL
  generalize textL b o t = M at *
  have HWL := Lib.hid hWL
  have HML := Lib.hid hml
  clear hWL hml hsz lb lo lt
  have rdw : ∀ {w0 w1 : World} {base n : Nat} {v : Value} {l : List ByteArray} (h : w0.ownsRow base 9 1 v n (l.map Value.string)) (hn : l.length = n) (hW : ∀ k, k < w0.heap.size → w1.heap[k]? = w0.heap[k]?) (hs : w0.heap.size ≤ w1.heap.size), Rd (· < w1.heap.size) w1 v (l.map D.str) := fun h hn hW hs =>
    (Rd.of_own (ok := (· < _)) h (by simpa using hn) (RepAll.strs _ _ _) (fun k hk => (h.lt k hk).2)).step (fun k _ hk => hW k hk) (fun k hk _ => Nat.lt_of_lt_of_le hk hs)
  go_enter Try.func8, Try.ntmps8
  go_wp2_with fail
  refine (cut_calls b _ (by omega)).mono ?_
  rintro e w1 ⟨v1, rfl, hr1, hb1⟩
  have R1 := Lib.hid hr1
  clear hr1
  go_wp2_with fail
  refine (cut_calls o _ (by omega)).mono ?_
  rintro e w2 ⟨v2, rfl, hr2, hb2⟩
  have R2 := Lib.hid hr2
  clear hr2
  go_wp2_with fail
  refine (cut_calls t _ (by omega)).mono ?_
  rintro e w3 ⟨v3, rfl, hr3, hb3⟩
  have s1 := hb1.size
  have s2 := hb2.size
  have s3 := hb3.size
  have hb4 : Below w.heap.size w w3 := below_to (below_to hb1 s1 hb2) (by omega) hb3
  have hB := HWL.out v1 v2 v3 w3 (rdw R1.out rfl (fun k hk => (hb3.block k (by omega)).trans (hb2.block k hk)) (by omega)) (rdw R2.out rfl (fun k hk => hb3.block k hk) (by omega)) (rdw hr3 rfl (fun k hk => rfl) (Nat.le_refl _))
  have HB := Lib.hid hB
  clear hB hr3
  go_wp2_with (first
    | (go_at_call 10; go_must (refine (HB.out).mono ?_); rintro e w4 ⟨v4, rfl, hr4, hb5⟩)
    | (go_at_call 18; go_must (refine (Join_calls (ok := (· < w4.heap.size)) v4 (M.getD []) _ (rdw hr4 rfl (fun k hk => rfl) (Nat.le_refl _)) HML.out.2 (by have := HML.out.1; omega)).mono ?_); rintro e w5 ⟨rfl, hb6⟩))
  go_ret2
  exact ⟨rfl, below_to (below_to hb4 hb4.size hb5) (below_to hb4 hb4.size hb5).size hb6⟩

/-- Of values. -/
def oneV (b o t : ByteArray) : ByteArray × Bool := if t = b then (o, true) else if o = b ∨ o = t then (t, true) else (ByteArray.empty, false)
set_option maxRecDepth 100000 in
theorem WOne_calls (b o t : ByteArray) (w : World) :
    Calls Try.prog 14 #[.string b, .string o, .string t] w fun e w' => e = .returned (.tuple #[.string (oneV b o t).1, .bool (oneV b o t).2]) ∧ w' = w := by
  by_cases h1 : t = b
  · have e : oneV b o t = (o, true) := by rw [oneV, if_pos h1]
    have h1' := beq_t h1
    rw [e]
    clear e h1
    go_enter Try.func14, Try.ntmps14
    go_wp2
    go_ret2
    exact ⟨rfl, rfl⟩
  · have h1' := beq_f h1
    by_cases h2 : o = b
    · have e : oneV b o t = (t, true) := by rw [oneV, if_neg h1, if_pos (.inl h2)]
      have h2' := beq_t h2
      rw [e]
      clear e h1 h2
      go_enter Try.func14, Try.ntmps14
      go_wp2
      go_ret2
      exact ⟨rfl, rfl⟩
    · have h2' := beq_f h2
      by_cases h3 : o = t
      · have e : oneV b o t = (t, true) := by rw [oneV, if_neg h1, if_pos (.inr h3)]
        have h3' := beq_t h3
        rw [e]
        clear e h1 h2 h3
        go_enter Try.func14, Try.ntmps14
        go_wp2
        go_ret2
        exact ⟨rfl, rfl⟩
      · have h3' := beq_f h3
        have e : oneV b o t = (ByteArray.empty, false) := by rw [oneV, if_neg h1, if_neg (fun h => h.elim h2 h3)]
        rw [e]
        clear e h1 h2 h3
        go_enter Try.func14, Try.ntmps14
        go_wp2
        go_ret2
        exact ⟨rfl, rfl⟩
end Go.Proofs.Ytnoloihdcmgbaaa
