/- AgendaSorts: plain law of items in order. -/
import Derived.Test.YtkpegffoebmhmaaAgG
namespace Go.Proofs.Ytkpegffoebmhmaa
open Go.RowKit Go.Vx
set_option linter.unusedVariables false
set_option linter.unusedSimpArgs false

def itLt (x y : Item) : Bool := slLt (x.1, x.2.1, x.2.2, 0) (y.1, y.2.1, y.2.2, 0)
theorem itLin : Lin itLt where
  irr x := slLin.irr _
  tr x y z h k := slLin.tr _ _ _ h k
  tri x y := by
    obtain ⟨a, b, c⟩ := x
    obtain ⟨a', b', c'⟩ := y
    rcases slLin.tri (a, b, c, 0) (a', b', c', 0) with h | h | h
    · exact .inl h
    · right; left
      simp only [Prod.mk.injEq] at h ⊢
      exact ⟨h.1, h.2.1, h.2.2.1⟩
    · exact .inr (.inr h)
theorem itLt_sl {x y : Slot} (h : slLt x y = false) : itLt (item x) (item y) = false := by
  unfold itLt
  rw [slLt_no] at *
  simp only [item]
  omega
theorem items_srt {S : List Slot} (h : Srt slLt S) : Srt itLt (S.map item) := by
  unfold Srt at *
  rw [List.pairwise_map]
  exact h.imp fun h => itLt_sl h
theorem items_eq {S T : List Slot} (h1 : Srt slLt S) (h2 : Srt slLt T) (h : (S.map item).Perm (T.map item)) : S.map item = T.map item := srt_unique itLin (items_srt h1) (items_srt h2) h
theorem AgAt.srt {w : World} {p : Nat} {S : List Slot} {m : Int} {F : List Nat} (h : AgAt w p S m F) : Srt slLt S := by
  obtain ⟨l, h, hr⟩ := h
  exact hr.2.2
theorem puts_items : ∀ (l : List Item) (st : List Slot × Int), st.1.length + l.length ≤ 1000 → ((puts st l).1.map item).Perm (l ++ st.1.map item)
  | [], st, _ => List.Perm.refl _
  | x :: l, st, h => by
    rw [List.length_cons] at h
    have e : put1 st x = (ins slLt (slot x st.2) st.1, st.2 + 1) := by unfold put1; rw [if_pos (by omega)]
    have hl : (ins slLt (slot x st.2) st.1).length = st.1.length + 1 := by rw [(ins_perm _ _).length_eq, List.length_cons]
    rw [puts, e]
    refine (puts_items l _ (by simp only [hl]; omega)).trans ?_
    refine ((ins_perm _ _).map item |>.append_left l).trans ?_
    simp only [List.map_cons, item, slot]
    exact List.perm_middle
theorem puts_cnt : ∀ (l : List Item) (st : List Slot × Int), 0 ≤ st.2 → 0 ≤ (puts st l).2 ∧ (puts st l).2 ≤ st.2 + l.length
  | [], st, h => ⟨h, by show st.2 ≤ st.2 + ((0 : Nat) : Int); omega⟩
  | x :: l, st, h => by
    rw [puts, List.length_cons]
    have h1 : 0 ≤ (put1 st x).2 ∧ (put1 st x).2 ≤ st.2 + 1 := by unfold put1; split <;> first | omega | (simp; omega)
    have := puts_cnt l (put1 st x) h1.1
    omega
theorem slLt_cases {x z : Slot} (h : slLt z x = false) : (decide (z.1 < x.1) = false ∧ (z.1 == x.1) = false) ∨ (decide (z.1 < x.1) = false ∧ (z.1 == x.1) = true ∧ decide (x.2.1 < z.2.1) = false ∧ (z.2.1 == x.2.1) = false) ∨ (decide (z.1 < x.1) = false ∧ (z.1 == x.1) = true ∧ decide (x.2.1 < z.2.1) = false ∧ (z.2.1 == x.2.1) = true ∧ decide (z.2.2.1 < x.2.2.1) = false) := by
  rw [slLt_no] at h
  simp only [decide_eq_false_iff_not, beq_eq_false_iff_ne, beq_iff_eq, ne_eq]
  omega
theorem Src.drop3 {w : World} {ad : Addr} {n k : Nat} {l : List Item} (h : Src w 3 (some ad) n (l.flatMap itEnc)) (hl : l.length = n) (hk : k ≤ n) : Src w 3 (some (ad.add (k * 3))) (n - k) ((l.drop k).flatMap itEnc) := by
  obtain ⟨h1, h2⟩ := h
  have e : (l.drop k).flatMap itEnc = (l.flatMap itEnc).drop (k * 3) := by
    have h3 : l.flatMap itEnc = (l.take k).flatMap itEnc ++ (l.drop k).flatMap itEnc := by rw [← List.flatMap_append, List.take_append_drop]
    have h4 : ((l.take k).flatMap itEnc).length = k * 3 := by
      rw [flatMap_len2 (size := 3) (fun _ => rfl)]
      simp
      omega
    rw [h3, ← h4, List.drop_left]
  rw [e]
  refine ⟨by rw [List.length_drop, h1]; omega, fun h0 => ?_⟩
  obtain ⟨ad', e', hc⟩ := h2 (by omega)
  obtain rfl : ad = ad' := by simpa using e'
  refine ⟨_, rfl, fun j u hu => ?_⟩
  rw [List.getElem?_drop] at hu
  have := hc (k * 3 + j) u hu
  rwa [show (ad.add (k * 3)).add j = ad.add (k * 3 + j) by by_cases h1 : k * 3 = 0 <;> by_cases h2 : j = 0 <;> simp [Addr.add, h1, h2, Nat.add_assoc]]
theorem Src.take3 {w : World} {A : Option Addr} {n k : Nat} {l : List Item} (h : Src w 3 A n (l.flatMap itEnc)) (hl : l.length = n) (hk : k ≤ n) : Src w 3 A k ((l.take k).flatMap itEnc) := by
  obtain ⟨h1, h2⟩ := h
  rw [take_flat (enc := itEnc) (size := 3) (fun _ => rfl) l k]
  refine ⟨by rw [List.length_take, h1]; omega, fun h0 => ?_⟩
  obtain ⟨ad, rfl, hc⟩ := h2 (by omega)
  refine ⟨_, rfl, fun j u hu => ?_⟩
  rw [List.getElem?_take] at hu
  split at hu
  · exact hc j u hu
  · simp at hu
end Go.Proofs.Ytkpegffoebmhmaa
