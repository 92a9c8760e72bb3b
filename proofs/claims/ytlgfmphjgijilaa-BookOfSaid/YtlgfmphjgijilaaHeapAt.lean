/- A heap's list in memory: behind a slice variable. No program. -/
import Derived.Test.YtlgfmphjgijilaaRows2
import Derived.Test.YtlgfmphjgijilaaHeap
namespace Go.Vx
open Go.RowKit
set_option linter.unusedVariables false
set_option linter.unusedSimpArgs false
section
variable {α : Type} {e t : TypeId} {size : Nat} {enc : α → List Value}
/-- The variable at cell o of block p holds a slice that reads as l. -/
def HAt (e : TypeId) (size : Nat) (enc : α → List Value) (w : World) (p o : Nat) (t : TypeId) (cs : Array Value) (l : List α) (F : List Nat) : Prop :=
  ∃ v, Blk w p t (cs.setIfInBounds o v) ∧ o < cs.size ∧ Fix w e size v l.length (l.flatMap enc) F ∧ e ≠ t
theorem HAt.chg {w w' : World} {p o : Nat} {cs : Array Value} {l : List α} {F S : List Nat} (h : HAt e size enc w p o t cs l F) (k : Chg S w w') (hd : ∀ g, g ∈ p :: F → g ∉ S) : HAt e size enc w' p o t cs l F := by
  obtain ⟨v, h1, h2, h3, h4⟩ := h
  exact ⟨v, h1.chg k (hd p (by simp)), h2, h3.chg k (fun g hg => hd g (by simp [hg])), h4⟩
theorem HAt.keep {w w' : World} {p o : Nat} {cs : Array Value} {l : List α} {F : List Nat} (h : HAt e size enc w p o t cs l F) (k : Chg [] w w') : HAt e size enc w' p o t cs l F := h.chg k (by simp)
theorem HAt.ne {w : World} {p o : Nat} {cs : Array Value} {l : List α} {F : List Nat} (h : HAt e size enc w p o t cs l F) : p ∉ F := by
  obtain ⟨v, h1, h2, h3, h4⟩ := h
  exact h3.ne_blk h1 h4
theorem HAt.lt {w : World} {p o : Nat} {cs : Array Value} {l : List α} {F : List Nat} (h : HAt e size enc w p o t cs l F) : ∀ g, g ∈ p :: F → g < w.heap.size := by
  obtain ⟨v, h1, h2, h3, h4⟩ := h
  intro g hg
  rcases List.mem_cons.1 hg with rfl | hg
  · exact h1.lt
  · exact h3.lt g hg
theorem HAt.cell {w : World} {p o : Nat} {cs : Array Value} {l : List α} {F : List Nat} (h : HAt e size enc w p o t cs l F) : ∃ A c, w.cell? ⟨p, o, none⟩ = some (.slice A l.length c) ∧ w.frozen? ⟨p, o, none⟩ = false ∧ Blk w p t (cs.setIfInBounds o (.slice A l.length c)) ∧ Fix w e size (.slice A l.length c) l.length (l.flatMap enc) F ∧ l.length ≤ c ∧ c ≤ maxLen := by
  obtain ⟨v, h1, h2, h3, h4⟩ := h
  obtain ⟨A, c, rfl, -, h5, h6, -⟩ := id h3
  exact ⟨A, c, by rw [h1.cell]; simp [h2], h1.frozen _, h1, h3, h5, h6⟩

theorem flatMap_len2 (he : ∀ x, (enc x).length = size) (l : List α) : (l.flatMap enc).length = l.length * size := by
  induction l with
  | nil => simp
  | cons x l ih => rw [List.flatMap_cons, List.length_append, he, ih, List.length_cons, Nat.add_mul]; omega
variable [Inhabited α]
theorem flatMap_at (he : ∀ x, (enc x).length = size) : ∀ (l : List α) (k : Nat) (hk : k < l.length) (j : Nat), j < size → (l.flatMap enc)[k * size + j]? = (enc (nth l k))[j]? := by
  intro l
  induction l with
  | nil => intro k hk; simp at hk
  | cons x l ih =>
    intro k hk j hj
    rw [List.flatMap_cons]
    cases k with
    | zero => rw [List.getElem?_append_left (by rw [he]; omega)]; simp [nth]
    | succ k =>
      rw [List.getElem?_append_right (by rw [he, Nat.add_mul]; omega), he]
      have := ih k (by simpa using hk) j hj
      rw [show (k + 1) * size + j - size = k * size + j by rw [Nat.add_mul]; omega, this]
      simp [nth]
omit [Inhabited α] in
theorem Fix.shorter {w : World} {A : Option Addr} {n m c : Nat} {xs : List Value} {F : List Nat} (h : Fix w e size (.slice A n c) n xs F) (hm : m ≤ n) : Fix w e size (.slice A m c) m (xs.take (m * size)) F := by
  obtain ⟨A', c', hv, h1, h2, h3, h4⟩ := h
  injection hv with ha _ hc
  subst ha hc
  have := Nat.mul_le_mul_right size hm
  refine ⟨_, _, rfl, by simp; omega, by omega, h3, ?_⟩
  rcases h4 with h4 | ⟨g, cur, ha, hf, hb, hs, ht⟩
  · exact .inl h4
  · refine .inr ⟨g, cur, ha, hf, hb, hs, ?_⟩
    rw [← ht, List.take_take]
    congr 1
    omega
omit [Inhabited α] in
theorem take_flat (he : ∀ x, (enc x).length = size) : ∀ (l : List α) (m : Nat), (l.take m).flatMap enc = (l.flatMap enc).take (m * size)
  | [], m => by simp
  | x :: l, 0 => by simp
  | x :: l, m + 1 => by
    rw [List.take_succ_cons, List.flatMap_cons, List.flatMap_cons, take_flat he l m, List.take_append, he, show (m + 1) * size - size = m * size by rw [Nat.add_mul]; omega, List.take_of_length_le (l := enc x) (by rw [he, Nat.add_mul]; omega)]
/-- An element of the list in memory. -/
theorem Fix.elem {w : World} {v : Value} {l : List α} {F : List Nat} (h : Fix w e size v l.length (l.flatMap enc) F) (he : ∀ x, (enc x).length = size) (h0 : 0 < size) {k : Nat} (hk : k < l.length) :
    ∃ g c, v = .slice (some ⟨g, 0, none⟩) l.length c ∧ F = [g] ∧ ∀ j, j < size → w.cell? ⟨g, k * size + j, none⟩ = (enc (nth l k))[j]? ∧ w.frozen? ⟨g, k * size + j, none⟩ = false := by
  obtain ⟨g, c, hv, -, -, hF, -, -⟩ := h.at_ (k := k) (j := 0) hk h0
  refine ⟨g, c, hv, hF, fun j hj => ?_⟩
  obtain ⟨g', c', hv', -, -, hF', hc, hf⟩ := h.at_ (k := k) (j := j) hk hj
  rw [hv] at hv'
  injection hv' with hv'
  injection hv' with hv'
  injection hv' with hv'
  subst hv'
  rw [hc, flatMap_at he l k hk j hj]
  exact ⟨rfl, hf⟩
theorem set_flat2 {a b : Value} (he : ∀ x, (enc x).length = 2) (l : List α) (k : Nat) (hk : k < l.length) (y : α) (hy : enc y = [a, b]) : ((l.flatMap enc).set (k * 2) a).set (k * 2 + 1) b = (l.set k y).flatMap enc := by
  refine List.ext_getElem? fun n => ?_
  have hl := flatMap_len2 he l
  have hl2 := flatMap_len2 he (l.set k y)
  rw [List.length_set] at hl2
  by_cases hn : n < l.length * 2
  · obtain ⟨i, j, hj, rfl⟩ : ∃ i j, j < 2 ∧ n = i * 2 + j := ⟨n / 2, n % 2, Nat.mod_lt _ (by omega), by omega⟩
    have hi : i < l.length := by omega
    rw [flatMap_at he (l.set k y) i (by simpa using hi) j hj, at_set hk]
    simp only [List.getElem?_set, List.length_set, hl]
    by_cases hik : i = k
    · subst hik
      rw [if_pos rfl, hy]
      have : j = 0 ∨ j = 1 := by omega
      rcases this with rfl | rfl
      · rw [if_neg (by omega), if_pos (by omega), if_pos (by omega)]; rfl
      · rw [if_pos (by omega), if_pos (by omega)]; rfl
    · rw [if_neg hik, if_neg (by omega), if_neg (by omega), flatMap_at he l i hi j hj]
  · rw [List.getElem?_eq_none (by simp only [List.length_set]; omega), List.getElem?_eq_none (by omega)]
theorem set_flat4 {a b c d : Value} (he : ∀ x, (enc x).length = 4) (l : List α) (k : Nat) (hk : k < l.length) (y : α) (hy : enc y = [a, b, c, d]) :
    ((((l.flatMap enc).set (k * 4) a).set (k * 4 + 1) b).set (k * 4 + 2) c).set (k * 4 + 3) d = (l.set k y).flatMap enc := by
  refine List.ext_getElem? fun n => ?_
  have hl := flatMap_len2 he l
  have hl2 := flatMap_len2 he (l.set k y)
  rw [List.length_set] at hl2
  by_cases hn : n < l.length * 4
  · obtain ⟨i, j, hj, rfl⟩ : ∃ i j, j < 4 ∧ n = i * 4 + j := ⟨n / 4, n % 4, Nat.mod_lt _ (by omega), by omega⟩
    have hi : i < l.length := by omega
    rw [flatMap_at he (l.set k y) i (by simpa using hi) j hj, at_set hk]
    simp only [List.getElem?_set, List.length_set, hl]
    by_cases hik : i = k
    · subst hik
      rw [if_pos rfl, hy]
      have : j = 0 ∨ j = 1 ∨ j = 2 ∨ j = 3 := by omega
      rcases this with rfl | rfl | rfl | rfl
      · rw [if_neg (by omega), if_neg (by omega), if_neg (by omega), if_pos (by omega), if_pos (by omega)]; rfl
      · rw [if_neg (by omega), if_neg (by omega), if_pos (by omega), if_pos (by omega)]; rfl
      · rw [if_neg (by omega), if_pos (by omega), if_pos (by omega)]; rfl
      · rw [if_pos (by omega), if_pos (by omega)]; rfl
    · rw [if_neg hik, if_neg (by omega), if_neg (by omega), if_neg (by omega), if_neg (by omega), flatMap_at he l i hi j hj]
  · rw [List.getElem?_eq_none (by simp only [List.length_set]; omega), List.getElem?_eq_none (by omega)]
end
end Go.Vx
