/- AgendaPlays: plain laws: the slots' items and the document's list go together. -/
import Derived.Test.YtkpegffoebmhmaaAgL
namespace Go.Proofs.Ytkpegffoebmhmaa
open Go.RowKit Go.Vx
set_option linter.unusedVariables false
set_option linter.unusedSimpArgs false

/-- Every slot was put ahead of now. -/
def Old (S : List Slot) (m : Int) : Prop := ∀ y ∈ S, y.2.2.2 < m
theorem Old.sub {S T : List Slot} {m : Int} (h : Old S m) (hs : ∀ y, y ∈ T → y ∈ S) : Old T m := fun y hy => h y (hs y hy)
theorem ins_mem {x y : Slot} : ∀ {S : List Slot}, y ∈ ins slLt x S → y = x ∨ y ∈ S := fun {S} h => by
  have := (ins_perm (lt := slLt) x S).mem_iff.1 h
  simpa using this
theorem place_len (l : List Item) (x : Item) : (place l x).length = l.length + 1 := by
  have h : l.length = (l.takeWhile fun y => ahead y x).length + (l.dropWhile fun y => ahead y x).length := by
    rw [← List.length_append, List.takeWhile_append_dropWhile]
  unfold place
  rw [List.length_append, List.length_cons]
  omega
theorem puts_old : ∀ (l : List Item) (st : List Slot × Int), Old st.1 st.2 → st.1.length ≤ 1000 → Old (puts st l).1 (puts st l).2 ∧ (puts st l).1.map item = l.foldl putItem (st.1.map item) ∧ (puts st l).1.length ≤ 1000
  | [], st, h, hl => ⟨h, rfl, hl⟩
  | x :: l, st, h, hl => by
    rw [puts, List.foldl_cons]
    have hl2 := put1_len (x := x) hl
    by_cases h1 : st.1.length < 1000
    · have e : put1 st x = (ins slLt (slot x st.2) st.1, st.2 + 1) := by unfold put1; rw [if_pos h1]
      have ho : Old (put1 st x).1 (put1 st x).2 := by
        rw [e]
        intro y hy
        rcases ins_mem hy with rfl | hy
        · show st.2 < st.2 + 1
          omega
        · have := h y hy
          show y.2.2.2 < st.2 + 1
          omega
      obtain ⟨h2, h3, h4⟩ := puts_old l (put1 st x) ho hl2
      refine ⟨h2, ?_, h4⟩
      rw [h3]
      congr 1
      rw [e]
      show (ins slLt (slot x st.2) st.1).map item = _
      rw [ins_place h]
      unfold putItem
      rw [if_neg (by simp; omega)]
    · have e : put1 st x = st := by unfold put1; rw [if_neg h1]
      rw [e]
      obtain ⟨h2, h3, h4⟩ := puts_old l st h hl
      refine ⟨h2, ?_, h4⟩
      rw [h3]
      congr 1
      unfold putItem
      rw [if_pos (by simp; omega)]
theorem puts_all (l : List Item) (S : List Slot) (m : Int) (h : Old S m) (hl : S.length ≤ 1000) (hm : 0 ≤ m) : Old (puts (S, m) l).1 (puts (S, m) l).2 ∧ (puts (S, m) l).1.map item = l.foldl putItem (S.map item) ∧ (puts (S, m) l).1.length ≤ 1000 ∧ 0 ≤ (puts (S, m) l).2 ∧ (puts (S, m) l).2 ≤ m + l.length := by
  obtain ⟨h1, h2, h3⟩ := puts_old l (S, m) h hl
  obtain ⟨h4, h5⟩ := puts_cnt l (S, m) hm
  exact ⟨h1, h2, h3, h4, h5⟩
theorem fold_len (l : List Item) : ∀ (a : List Item), a.length ≤ 1000 → (l.foldl putItem a).length ≤ 1000 := by
  induction l with
  | nil => intro a h; exact h
  | cons x l ih =>
    intro a h
    rw [List.foldl_cons]
    refine ih _ ?_
    unfold putItem
    split
    · exact h
    · rw [place_len]; omega
theorem fold_take (l : List Item) (a : List Item) (k : Nat) (hk : k < l.length) : (l.take (k + 1)).foldl putItem a = putItem ((l.take k).foldl putItem a) (nth l k) := by
  rw [List.take_succ_eq_append_getElem hk, List.foldl_append, at_eq hk]
  rfl
/-- Due items, of the document's list. -/
theorem due_items (N : Int) : ∀ S : List Slot, (due N S).map item = (S.map item).takeWhile (fun x => decide (x.1 ≤ N)) ∧ (later N S).map item = (S.map item).dropWhile (fun x => decide (x.1 ≤ N))
  | [] => ⟨rfl, rfl⟩
  | x :: S => by
    obtain ⟨h1, h2⟩ := due_items N S
    unfold due later at *
    have e : decide ((item x).1 ≤ N) = decide (x.1 ≤ N) := rfl
    cases hb : decide (x.1 ≤ N) with
    | true =>
      rw [List.takeWhile_cons, List.dropWhile_cons, List.map_cons, List.takeWhile_cons, List.dropWhile_cons, e, hb]
      simp only [if_true, List.map_cons]
      exact ⟨by rw [h1], h2⟩
    | false =>
      rw [List.takeWhile_cons, List.dropWhile_cons, List.map_cons, List.takeWhile_cons, List.dropWhile_cons, e, hb]
      simp
theorem due_old {S : List Slot} {m : Int} (N : Int) (h : Old S m) : Old (later N S) m := h.sub fun y hy => (List.dropWhile_sublist _).mem hy
theorem stays_old {S : List Slot} {m : Int} (id : Int) (h : Old S m) : Old (stays id S) m := h.sub fun y hy => (List.mem_filter.1 hy).1
theorem stays_items (id : Int) (S : List Slot) : (stays id S).map item = (S.map item).filter fun x => !(x.2.2 == id) := by
  unfold stays
  rw [List.filter_map]
  rfl
end Go.Proofs.Ytkpegffoebmhmaa
