/- Words with spaces between: the text, its tokens. Plain functions, no program in sight. -/
import Derived.Test.YtnoloihdcmgbaaaWords2
import Derived.Test.YtnoloihdcmgbaaaFar
namespace Go.Proofs.Ytnoloihdcmgbaaa
open Go.PlainAid
set_option linter.all false
set_option linter.deprecated false
/-- Words and the spaces between. -/
def toks : List (List UInt8) → List (List UInt8)
  | [] => []
  | [w] => [w]
  | w :: ws => w :: [32] :: toks ws
def txt (ws : List (List UInt8)) : List UInt8 := (toks ws).flatten
theorem toks_snoc : ∀ (ws : List (List UInt8)) (w : List UInt8), toks (ws ++ [w]) = toks ws ++ (if ws = [] then [w] else [[32], w])
  | [], w => rfl
  | [x], w => rfl
  | x :: y :: ws, w => by
    have := toks_snoc (y :: ws) w
    rw [List.cons_append, List.cons_append, toks, ← List.cons_append, this]
    · simp [toks]
    · simp
theorem txt_snoc (ws : List (List UInt8)) (w : List UInt8) : txt (ws ++ [w]) = txt ws ++ (if ws = [] then [] else [32]) ++ w := by
  unfold txt
  rw [toks_snoc]
  split <;> simp
theorem toks_set : ∀ (ws : List (List UInt8)) (x : Nat) (u : List UInt8), x < ws.length → toks (ws.set x u) = (toks ws).set (2 * x) u
  | [w], 0, u, _ => rfl
  | [w], x + 1, u, h => by simp at h
  | w :: v :: ws, 0, u, _ => by simp [toks]
  | w :: v :: ws, x + 1, u, h => by
    have ih := toks_set (v :: ws) x u (by simpa using h)
    have hne : ∀ l : List (List UInt8), l ≠ [] → toks (w :: l) = w :: [32] :: toks l := by
      intro l hl
      cases l with
      | nil => exact absurd rfl hl
      | cons a l => rfl
    rw [List.set_cons_succ, hne _ (by simp), ih, hne _ (by simp)]
    have : 2 * (x + 1) = 2 * x + 1 + 1 := by omega
    rw [this, List.set_cons_succ, List.set_cons_succ]
theorem toks_len : ∀ (ws : List (List UInt8)), ws ≠ [] → (toks ws).length = 2 * ws.length - 1
  | [], h => absurd rfl h
  | [w], _ => rfl
  | w :: v :: ws, _ => by
    have := toks_len (v :: ws) (by simp)
    simp only [toks, List.length_cons] at this ⊢
    omega
theorem toks_mem : ∀ (ws : List (List UInt8)) (u : List UInt8), u ∈ toks ws → u ∈ ws ∨ u = [32]
  | [], _, h => by simp [toks] at h
  | [w], u, h => by simp [toks] at h; simp [h]
  | w :: v :: ws, u, h => by
    simp only [toks, List.mem_cons] at h
    rcases h with h | h | h
    · simp [h]
    · simp [h]
    · rcases toks_mem (v :: ws) u h with h | h
      · exact .inl (by simp only [List.mem_cons] at h ⊢; exact .inr h)
      · exact .inr h
/-- Letters alone. -/
def Word (w : List UInt8) : Prop := w ≠ [] ∧ ∀ c ∈ w, kls c = 1
theorem txt_head : ∀ (ws : List (List UInt8)), (∀ w ∈ ws, Word w) → ∀ c, (txt ws).head? = some c → kls c = 1
  | [], _, c, h => by simp [txt, toks] at h
  | w :: ws, hw, c, h => by
    obtain ⟨hne, hc⟩ := hw w (by simp)
    obtain ⟨d, w', rfl⟩ := List.exists_cons_of_ne_nil hne
    have : (txt ((d :: w') :: ws)).head? = some d := by
      cases ws <;> simp [txt, toks]
    rw [this] at h
    injection h with h
    subst h
    exact hc d (by simp)
theorem cutL_txt : ∀ (ws : List (List UInt8)), (∀ w ∈ ws, Word w) → cutL (txt ws) = toks ws
  | [], _ => rfl
  | [w], hw => by
    obtain ⟨hne, hc⟩ := hw w (by simp)
    have : txt [w] = w := by simp [txt, toks]
    rw [this]
    exact cutL_run w 1 hne (by decide) hc
  | w :: v :: ws, hw => by
    obtain ⟨hne, hc⟩ := hw w (by simp)
    have ih := cutL_txt (v :: ws) (fun u hu => hw u (by simp only [List.mem_cons] at hu ⊢; exact .inr hu))
    have hh := txt_head (v :: ws) (fun u hu => hw u (by simp only [List.mem_cons] at hu ⊢; exact .inr hu))
    have e : txt (w :: v :: ws) = w ++ ([32] ++ txt (v :: ws)) := by simp [txt, toks]
    have h32 : kls 32 = 2 := by decide
    rw [e, cutL_app, cutL_app, ih, cutL_run w 1 hne (by decide) hc, cutL_one]
    · rfl
    · intro x y hx hy
      simp at hx
      subst hx
      unfold joins
      rw [h32, hh y hy]
      rfl
    · intro x y hx hy
      have : y = 32 := by simpa using hy.symm
      subst this
      unfold joins
      rw [h32, hc x (List.mem_of_getLast? hx)]
      rfl
/-- textL by the bytes. -/
theorem textL_list (b o t : ByteArray) : (textL b o t).map (List.map (·.data.toList)) = mergeL (cutL b.data.toList) (cutL o.data.toList) (cutL t.data.toList) := by
  rw [← cut_list, ← cut_list, ← cut_list]
  exact (mergeL_map (f := fun s : ByteArray => s.data.toList) (S := fun _ => True) (fun x y _ _ h => ba_inj h) (fun _ _ => trivial) (fun _ _ => trivial) (fun _ _ => trivial)).symm
/-- Two words that aren't near are put in the place of others: both are there. -/
theorem far_text {ws : List (List UInt8)} {x y : Nat} {u v : List UInt8} (hw : ∀ w ∈ ws, Word w) (hu : Word u) (hv : Word v) (hun : u ∉ ws) (hvn : v ∉ ws) (hx : x < ws.length) (hy : y < ws.length) (hxy : x ≠ y)
    {b o t : ByteArray} (eb : b.data.toList = txt ws) (eo : o.data.toList = txt (ws.set x u)) (et : t.data.toList = txt (ws.set y v)) :
    (textL b o t).isSome = true ∧ (catB ((textL b o t).getD [])).data.toList = txt ((ws.set x u).set y v) := by
  have hl := textL_list b o t
  have hs : ∀ (l : List (List UInt8)) (i : Nat) (z : List UInt8), (∀ w ∈ l, Word w) → Word z → ∀ w ∈ l.set i z, Word w := by
    intro l i z hl hz w hm
    rcases List.mem_or_eq_of_mem_set hm with h | h
    · exact hl w h
    · rw [h]; exact hz
  have hne : ws ≠ [] := fun e => by rw [e] at hx; simp at hx
  have hlen := toks_len ws hne
  have hnot : ∀ z, Word z → z ∉ ws → z ∉ toks ws := by
    intro z hz hn hm
    rcases toks_mem ws z hm with h | h
    · exact hn h
    · have := hz.2 32 (by rw [h]; simp)
      exact absurd this (by decide)
  rw [eb, eo, et, cutL_txt ws hw, cutL_txt _ (hs ws x u hw hu), cutL_txt _ (hs ws y v hw hv), toks_set ws x u hx, toks_set ws y v hy,
    far_set (by omega) (by omega) (hnot u hu hun) (hnot v hv hvn) (by omega) (by omega) (by omega)] at hl
  cases hT : textL b o t with
  | none => rw [hT] at hl; cases hl
  | some m =>
    rw [hT] at hl
    injection hl with hl
    refine ⟨rfl, ?_⟩
    rw [catB_list, Option.getD_some]
    have : m.map (fun s : ByteArray => s.data.toList) = toks ((ws.set x u).set y v) := by
      rw [toks_set _ y v (by simpa using hy), toks_set ws x u hx]
      exact hl
    rw [this]
    rfl
end Go.Proofs.Ytnoloihdcmgbaaa
