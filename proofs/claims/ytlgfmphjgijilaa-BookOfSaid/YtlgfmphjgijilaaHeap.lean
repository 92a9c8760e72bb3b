/- A heap in a list: what is put in comes out in its order. No program. -/
import Derived.WalkKit
namespace Go.Vx
set_option linter.unusedVariables false
set_option linter.unusedSimpArgs false

section
variable {α : Type} [Inhabited α]
def nth (l : List α) (k : Nat) : α := l.getD k default
def swapAt (l : List α) (i j : Nat) : List α := (l.set i (nth l j)).set j (nth l i)
theorem at_eq {l : List α} {k : Nat} (h : k < l.length) : nth l k = l[k] := by simp [nth, h]
theorem length_swap (l : List α) (i j : Nat) : (swapAt l i j).length = l.length := by simp [swapAt]
theorem at_set {l : List α} {i k : Nat} {x : α} (hi : i < l.length) : nth (l.set i x) k = if k = i then x else nth l k := by
  unfold nth
  simp only [List.getD_eq_getElem?_getD, List.getElem?_set]
  by_cases h : k = i
  · subst h; simp [hi]
  · simp [h, Ne.symm h]
theorem at_swap {l : List α} {i j k : Nat} (hi : i < l.length) (hj : j < l.length) : nth (swapAt l i j) k = if k = j then nth l i else if k = i then nth l j else nth l k := by
  unfold swapAt
  rw [at_set (by simpa using hj), at_set hi]
theorem ext_at {l m : List α} (h : l.length = m.length) (he : ∀ k, k < l.length → nth l k = nth m k) : l = m := by
  refine List.ext_getElem h fun k h1 h2 => ?_
  have := he k h1
  rwa [at_eq h1, at_eq h2] at this
theorem perm_set_cons {l : List α} {i : Nat} (h : i < l.length) (x : α) : (nth l i :: l.set i x).Perm (x :: l) := by
  induction l generalizing i with
  | nil => simp at h
  | cons y l ih =>
    cases i with
    | zero => simpa [nth] using List.Perm.swap _ _ _
    | succ i =>
      have hi : i < l.length := by simpa using h
      have e : nth (y :: l) (i + 1) = nth l i := by simp [nth]
      rw [e, List.set_cons_succ]
      exact ((List.Perm.swap _ _ _).trans ((ih hi).cons y)).trans (List.Perm.swap _ _ _)
theorem perm_swap {l : List α} {i j : Nat} (hi : i < l.length) (hj : j < l.length) : (swapAt l i j).Perm l := by
  unfold swapAt
  have h1 := perm_set_cons hi (nth l j)
  have h2 := perm_set_cons (l := l.set i (nth l j)) (i := j) (by simpa using hj) (nth l i)
  rw [at_set hi] at h2
  by_cases h : j = i
  · subst h
    simp only [if_true] at h2
    exact ((List.perm_cons _).1 h2).trans ((List.perm_cons _).1 h1)
  · rw [if_neg h] at h2
    exact (List.perm_cons _).1 (h2.trans h1)

variable (lt : α → α → Bool)
structure Lin : Prop where
  irr : ∀ x, lt x x = false
  tr : ∀ x y z, lt x y = true → lt y z = true → lt x z = true
  tri : ∀ x y, lt x y = true ∨ x = y ∨ lt y x = true
variable {lt}
omit [Inhabited α] in
theorem Lin.asym (L : Lin lt) {x y : α} (h : lt x y = true) : lt y x = false := by
  cases e : lt y x with
  | false => rfl
  | true => have := L.tr _ _ _ h e; rw [L.irr] at this; cases this
omit [Inhabited α] in
/-- Not behind: x ≤ y. -/
theorem Lin.le_tr (L : Lin lt) {x y z : α} (h : lt y x = false) (k : lt z y = false) : lt z x = false := by
  cases e : lt z x with
  | false => rfl
  | true =>
    rcases L.tri x y with h1 | h1 | h1
    · rw [L.tr _ _ _ e h1] at k; cases k
    · subst h1; rw [e] at k; cases k
    · rw [h1] at h; cases h
variable (lt)
/-- The parent is never behind. -/
def HeapTo (l : List α) (n : Nat) : Prop := ∀ k, 0 < k → k < n → lt (nth l k) (nth l ((k - 1) / 2)) = false
def upL : Nat → List α → Nat → List α
  | 0, l, _ => l
  | f + 1, l, j => if j = 0 then l else if lt (nth l j) (nth l ((j - 1) / 2)) then upL f (swapAt l ((j - 1) / 2) j) ((j - 1) / 2) else l
def kid (l : List α) (i n : Nat) : Nat := if 2 * i + 2 < n ∧ lt (nth l (2 * i + 2)) (nth l (2 * i + 1)) = true then 2 * i + 2 else 2 * i + 1
def downL : Nat → List α → Nat → Nat → List α
  | 0, l, _, _ => l
  | f + 1, l, i, n => if n ≤ 2 * i + 1 then l else if lt (nth l (kid lt l i n)) (nth l i) then downL f (swapAt l i (kid lt l i n)) (kid lt l i n) n else l
variable {lt}
theorem kid_lt {l : List α} {i n : Nat} (h : 2 * i + 1 < n) : kid lt l i n < n := by unfold kid; split <;> omega
theorem kid_up (l : List α) (i n : Nat) : (kid lt l i n - 1) / 2 = i ∧ i < kid lt l i n := by unfold kid; split <;> omega

theorem upL_spec (L : Lin lt) : ∀ (f : Nat) (l : List α) (j : Nat), j < l.length → j < f →
    (∀ k, 0 < k → k < l.length → k ≠ j → lt (nth l k) (nth l ((k - 1) / 2)) = false) →
    (∀ k, 0 < k → k < l.length → (k - 1) / 2 = j → 0 < j → lt (nth l k) (nth l ((j - 1) / 2)) = false) →
    HeapTo lt (upL lt f l j) l.length ∧ (upL lt f l j).Perm l ∧ (upL lt f l j).length = l.length := by
  intro f
  induction f with
  | zero => intro l j h1 h2; omega
  | succ f ih =>
    intro l j hj hf h1 h2
    simp only [upL]
    by_cases h0 : j = 0
    · rw [if_pos h0]
      subst h0
      exact ⟨fun k hk hkl => h1 k hk hkl (by omega), List.Perm.refl _, rfl⟩
    · rw [if_neg h0]
      cases hlt : lt (nth l j) (nth l ((j - 1) / 2)) with
      | false =>
        rw [if_neg (by simp)]
        refine ⟨fun k hk hkl => ?_, List.Perm.refl _, rfl⟩
        by_cases hkj : k = j
        · subst hkj; exact hlt
        · exact h1 k hk hkl hkj
      | true =>
        simp only [if_true]
        have hi : (j - 1) / 2 < l.length := by omega
        have hij : (j - 1) / 2 ≠ j := by omega
        have key := ih (swapAt l ((j - 1) / 2) j) ((j - 1) / 2) (by rw [length_swap]; exact hi) (by omega) ?_ ?_
        · rw [length_swap] at key
          exact ⟨key.1, key.2.1.trans (perm_swap hi hj), key.2.2⟩
        · intro k hk hkl hki
          rw [length_swap] at hkl
          rw [at_swap hi hj, at_swap hi hj]
          by_cases e1 : k = j
          · subst e1
            rw [if_pos rfl, if_neg (by omega), if_pos rfl]
            exact L.asym hlt
          · rw [if_neg e1, if_neg hki]
            by_cases e2 : (k - 1) / 2 = j
            · rw [if_pos e2]
              exact h2 k hk hkl e2 (by omega)
            · rw [if_neg e2]
              by_cases e3 : (k - 1) / 2 = (j - 1) / 2
              · rw [if_pos e3]
                have := h1 k hk hkl e1
                rw [e3] at this
                exact L.le_tr (L.asym hlt) this
              · rw [if_neg e3]
                exact h1 k hk hkl e1
        · intro k hk hkl hki hi0
          rw [length_swap] at hkl
          rw [at_swap hi hj, at_swap hi hj, if_neg (show ((j - 1) / 2 - 1) / 2 ≠ j by omega), if_neg (show ((j - 1) / 2 - 1) / 2 ≠ (j - 1) / 2 by omega)]
          have hp := h1 ((j - 1) / 2) hi0 hi (by omega)
          by_cases e1 : k = j
          · rw [if_pos e1]; exact hp
          · rw [if_neg e1, if_neg (by omega)]
            have := h1 k hk hkl e1
            rw [hki] at this
            exact L.le_tr hp this

/-- The parent is never behind, for parents from m on. -/
def HeapFrom (lt : α → α → Bool) (l : List α) (m n : Nat) : Prop := ∀ k, 0 < k → k < n → m ≤ (k - 1) / 2 → lt (nth l k) (nth l ((k - 1) / 2)) = false
theorem downL_spec (L : Lin lt) (m : Nat) : ∀ (f : Nat) (l : List α) (i n : Nat), n ≤ l.length → n - i ≤ f → i < n → m ≤ i →
    (∀ k, 0 < k → k < n → m ≤ (k - 1) / 2 → (k - 1) / 2 ≠ i → lt (nth l k) (nth l ((k - 1) / 2)) = false) →
    (∀ k, 0 < k → k < n → (k - 1) / 2 = i → 0 < i → m ≤ (i - 1) / 2 → lt (nth l k) (nth l ((i - 1) / 2)) = false) →
    HeapFrom lt (downL lt f l i n) m n ∧ (downL lt f l i n).Perm l ∧ (downL lt f l i n).length = l.length ∧ ∀ k, n ≤ k → nth (downL lt f l i n) k = nth l k := by
  intro f
  induction f with
  | zero => intro l i n h1 h2 h3; omega
  | succ f ih =>
    intro l i n hn hf hin hmi h1 h2
    simp only [downL]
    by_cases h0 : n ≤ 2 * i + 1
    · rw [if_pos h0]
      exact ⟨fun k hk hkn hm => h1 k hk hkn hm (by omega), List.Perm.refl _, rfl, fun _ _ => rfl⟩
    · rw [if_neg h0]
      obtain ⟨c1, c2⟩ := kid_up (lt := lt) l i n
      have c3 : kid lt l i n < n := kid_lt (by omega)
      have cmin : ∀ k, 0 < k → k < n → (k - 1) / 2 = i → lt (nth l k) (nth l (kid lt l i n)) = false := by
        intro k hk hkn hki
        unfold kid
        have : k = 2 * i + 1 ∨ k = 2 * i + 2 := by omega
        split
        · rename_i hc
          rcases this with rfl | rfl
          · exact L.asym hc.2
          · exact L.irr _
        · rename_i hc
          rcases this with rfl | rfl
          · exact L.irr _
          · cases e : lt (nth l (2 * i + 2)) (nth l (2 * i + 1)) with
            | false => rfl
            | true => exact absurd ⟨hkn, e⟩ hc
      generalize kid lt l i n = j at c1 c2 c3 cmin ⊢
      cases hlt : lt (nth l j) (nth l i) with
      | false =>
        rw [if_neg (by simp)]
        refine ⟨fun k hk hkn hm => ?_, List.Perm.refl _, rfl, fun _ _ => rfl⟩
        by_cases hki : (k - 1) / 2 = i
        · rw [hki]; exact L.le_tr hlt (cmin k hk hkn hki)
        · exact h1 k hk hkn hm hki
      | true =>
        rw [if_pos rfl]
        have hi : i < l.length := by omega
        have hj : j < l.length := by omega
        have key := ih (swapAt l i j) j n (by rw [length_swap]; exact hn) (by omega) c3 (by omega) ?_ ?_
        · rw [length_swap] at key
          refine ⟨key.1, key.2.1.trans (perm_swap hi hj), key.2.2.1, fun k hk => ?_⟩
          rw [key.2.2.2 k hk, at_swap hi hj, if_neg (by omega), if_neg (by omega)]
        · intro k hk hkn hm hkj
          rw [at_swap hi hj, at_swap hi hj]
          by_cases e1 : k = j
          · subst e1
            rw [if_pos rfl, c1, if_neg (by omega), if_pos rfl]
            exact L.asym hlt
          · rw [if_neg e1, if_neg hkj]
            by_cases e2 : k = i
            · subst e2
              rw [if_pos rfl, if_neg (by omega)]
              exact h2 j (by omega) c3 c1 hk hm
            · rw [if_neg e2]
              by_cases e3 : (k - 1) / 2 = i
              · rw [if_pos e3]; exact cmin k hk hkn e3
              · rw [if_neg e3]; exact h1 k hk hkn hm e3
        · intro k hk hkn hkj h0j hm
          rw [at_swap hi hj, at_swap hi hj, c1, if_neg (show i ≠ j by omega), if_pos rfl, if_neg (by omega), if_neg (by omega)]
          have := h1 k hk hkn (by omega) (by omega)
          rwa [hkj] at this

variable (lt)
def Srt (S : List α) : Prop := S.Pairwise fun x y => lt y x = false
def ins (x : α) : List α → List α
  | [] => [x]
  | y :: l => if lt y x then y :: ins x l else x :: y :: l
def sortL : List α → List α
  | [] => []
  | x :: l => ins lt x (sortL l)
variable {lt}
omit [Inhabited α] in
theorem ins_perm (x : α) : ∀ l : List α, (ins lt x l).Perm (x :: l)
  | [] => List.Perm.refl _
  | y :: l => by
    unfold ins
    split
    · exact ((ins_perm x l).cons y).trans (List.Perm.swap _ _ _)
    · exact List.Perm.refl _
omit [Inhabited α] in
theorem ins_srt (L : Lin lt) (x : α) : ∀ l : List α, Srt lt l → Srt lt (ins lt x l)
  | [], _ => by simp [ins, Srt]
  | y :: l, h => by
    have hy := (List.pairwise_cons.1 h).1
    have hl := (List.pairwise_cons.1 h).2
    unfold ins
    split
    · rename_i hyx
      refine List.pairwise_cons.2 ⟨fun z hz => ?_, ins_srt L x l hl⟩
      rcases List.mem_cons.1 ((ins_perm x l).mem_iff.1 hz) with rfl | hz
      · exact L.asym hyx
      · exact hy z hz
    · rename_i hyx
      have hyx : lt y x = false := by simpa using hyx
      refine List.pairwise_cons.2 ⟨fun z hz => ?_, h⟩
      rcases List.mem_cons.1 hz with rfl | hz
      · exact hyx
      · exact L.le_tr hyx (hy z hz)
omit [Inhabited α] in
theorem sortL_perm : ∀ l : List α, (sortL lt l).Perm l
  | [] => List.Perm.refl _
  | x :: l => (ins_perm x _).trans ((sortL_perm l).cons x)
omit [Inhabited α] in
theorem sortL_srt (L : Lin lt) : ∀ l : List α, Srt lt (sortL lt l)
  | [] => by simp [sortL, Srt]
  | x :: l => ins_srt L x _ (sortL_srt L l)
omit [Inhabited α] in
/-- One order alone. -/
theorem srt_unique (L : Lin lt) : ∀ {l m : List α}, Srt lt l → Srt lt m → l.Perm m → l = m
  | [], m, _, _, h => (List.nil_perm.1 h).symm
  | x :: l, [], _, _, h => absurd (List.perm_nil.1 h) (by simp)
  | x :: l, y :: m, h1, h2, h => by
    have hx := (List.pairwise_cons.1 h1).1
    have hy := (List.pairwise_cons.1 h2).1
    have e : x = y := by
      rcases List.mem_cons.1 (h.mem_iff.1 (List.mem_cons_self ..)) with e | e
      · exact e
      · rcases List.mem_cons.1 (h.symm.mem_iff.1 (List.mem_cons_self ..)) with e' | e'
        · exact e'.symm
        · have a := hy x e
          have b := hx y e'
          rcases L.tri x y with t | t | t
          · rw [t] at a; cases a
          · exact t
          · rw [t] at b; cases b
    subst e
    rw [srt_unique L (List.pairwise_cons.1 h1).2 (List.pairwise_cons.1 h2).2 ((List.perm_cons _).1 h)]
variable (lt)
def Rep (l S : List α) : Prop := HeapTo lt l l.length ∧ l.Perm S ∧ Srt lt S
def pushL (l : List α) (x : α) : List α := upL lt (l.length + 2) (l ++ [x]) l.length
def popM (l : List α) : List α := downL lt (l.length - 1) (swapAt l 0 (l.length - 1)) 0 (l.length - 1)
def popL (l : List α) : List α := (popM lt l).take (l.length - 1)
def initL : Nat → List α → List α
  | 0, l => l
  | k + 1, l => initL k (downL lt l.length l k l.length)
variable {lt}
theorem Rep.nil : Rep lt ([] : List α) [] := ⟨by intro k h1 h2; simp at h2, List.Perm.refl _, List.Pairwise.nil⟩
theorem at_append_left {l m : List α} {k : Nat} (h : k < l.length) : nth (l ++ m) k = nth l k := by
  simp [nth, List.getElem?_append_left h]
theorem push_len (L : Lin lt) {l S : List α} (h : Rep lt l S) (x : α) : (pushL lt l x).length = l.length + 1 ∧ Rep lt (pushL lt l x) (ins lt x S) := by
  have key := upL_spec L (l.length + 2) (l ++ [x]) l.length (by simp) (by omega) ?_ ?_
  · change HeapTo lt (pushL lt l x) _ ∧ (pushL lt l x).Perm _ ∧ (pushL lt l x).length = _ at key
    have hl : (pushL lt l x).length = l.length + 1 := by simpa using key.2.2
    refine ⟨hl, ?_, ?_, ins_srt L x S h.2.2⟩
    · rw [hl]; simpa using key.1
    · refine key.2.1.trans ?_
      exact (List.perm_append_comm.trans (h.2.1.cons x)).trans (ins_perm x S).symm
  · intro k hk hkl hne
    simp at hkl
    rw [at_append_left (by omega), at_append_left (by omega)]
    exact h.1 k hk (by omega)
  · intro k hk hkl hp h0
    simp at hkl
    omega
theorem root_least (L : Lin lt) {l : List α} (h : HeapTo lt l l.length) : ∀ k, k < l.length → lt (nth l k) (nth l 0) = false := by
  intro k
  induction k using Nat.strongRecOn with
  | _ k ih =>
    intro hk
    by_cases h0 : k = 0
    · subst h0; exact L.irr _
    · exact L.le_tr (ih ((k - 1) / 2) (by omega) (by omega)) (h k (by omega) hk)
theorem pop_spec (L : Lin lt) {l : List α} {x : α} {S : List α} (h : Rep lt l (x :: S)) : 0 < l.length ∧ (popM lt l).length = l.length ∧ nth (popM lt l) (l.length - 1) = x ∧ Rep lt (popL lt l) S ∧ nth l 0 = x := by
  obtain ⟨h1, h2, h3⟩ := h
  have hlen : l.length = S.length + 1 := by simpa using h2.length_eq
  have h0 : 0 < l.length := by omega
  have hx : nth l 0 = x := by
    have hm : x ∈ l := h2.symm.mem_iff.1 (List.mem_cons_self ..)
    obtain ⟨k, hk, rfl⟩ := List.mem_iff_getElem.1 hm
    have a := root_least L h1 k hk
    rw [at_eq hk] at a
    have hm0 : nth l 0 ∈ l[k] :: S := h2.mem_iff.1 (by rw [at_eq h0]; exact List.getElem_mem _)
    rcases List.mem_cons.1 hm0 with e | e
    · exact e
    · have b := (List.pairwise_cons.1 h3).1 _ e
      rcases L.tri l[k] (nth l 0) with t | t | t
      · rw [t] at a; cases a
      · exact t.symm
      · rw [t] at b; cases b
  have hd : HeapTo lt (popM lt l) (l.length - 1) ∧ (popM lt l).Perm l ∧ (popM lt l).length = l.length ∧ nth (popM lt l) (l.length - 1) = x := by
    have hs0 : 0 < l.length := h0
    have hsn : l.length - 1 < l.length := by omega
    by_cases hn : l.length - 1 = 0
    · refine ⟨fun k hk hkn => by omega, ?_, ?_, ?_⟩
      · unfold popM; rw [hn]; exact perm_swap hs0 hs0
      · unfold popM; rw [hn]; exact length_swap _ _ _
      · unfold popM; rw [hn]
        show nth (swapAt l 0 0) 0 = x
        rw [at_swap hs0 hs0, if_pos rfl]; exact hx
    · have key := downL_spec L 0 (l.length - 1) (swapAt l 0 (l.length - 1)) 0 (l.length - 1) (by rw [length_swap]; omega) (by omega) (by omega) (Nat.le_refl _) ?_ ?_
      · rw [length_swap] at key
        refine ⟨fun k hk hkn => key.1 k hk hkn (Nat.zero_le _), key.2.1.trans (perm_swap hs0 hsn), key.2.2.1, ?_⟩
        unfold popM
        rw [key.2.2.2 _ (Nat.le_refl _), at_swap hs0 hsn, if_pos rfl]
        exact hx
      · intro k hk hkn _ hp
        rw [at_swap hs0 hsn, at_swap hs0 hsn, if_neg (by omega), if_neg (by omega), if_neg (by omega), if_neg hp]
        exact h1 k hk (by omega)
      · intro k hk hkn hp h0'; omega
  obtain ⟨d1, d2, d3, d4⟩ := hd
  have hpl : (popL lt l).length = l.length - 1 := by unfold popL; rw [List.length_take, d3]; omega
  refine ⟨h0, d3, d4, ⟨?_, ?_, (List.pairwise_cons.1 h3).2⟩, hx⟩
  · rw [hpl]
    intro k hk hkn
    have e : ∀ j, j < l.length - 1 → nth (popL lt l) j = nth (popM lt l) j := by
      intro j hj
      unfold popL nth
      simp [List.getElem?_take, hj]
    rw [e k hkn, e _ (by omega)]
    exact d1 k hk hkn
  · have e : popM lt l = popL lt l ++ [x] := by
      refine ext_at (by rw [d3, List.length_append, hpl, List.length_singleton]; omega) fun k hk => ?_
      rw [d3] at hk
      by_cases hkn : k < l.length - 1
      · rw [at_append_left (by omega)]
        unfold popL nth
        simp [List.getElem?_take, hkn]
      · obtain rfl : k = l.length - 1 := by omega
        rw [d4]
        unfold nth
        rw [List.getD_eq_getElem?_getD, List.getElem?_append_right (by omega), hpl]
        simp
    have := d2.trans h2
    rw [e] at this
    exact (List.perm_cons x).1 ((List.perm_append_comm (l₁ := [x])).trans this)
theorem init_spec (L : Lin lt) : ∀ (k : Nat) (l : List α), 2 * k ≤ l.length → HeapFrom lt l k l.length → HeapTo lt (initL lt k l) l.length ∧ (initL lt k l).Perm l ∧ (initL lt k l).length = l.length := by
  intro k
  induction k with
  | zero => intro l _ h; exact ⟨fun j h1 h2 => h j h1 h2 (Nat.zero_le _), List.Perm.refl _, rfl⟩
  | succ k ih =>
    intro l hk h
    have key := downL_spec L k l.length l k l.length (Nat.le_refl _) (by omega) (by omega) (Nat.le_refl _) (fun j h1 h2 h3 h4 => h j h1 h2 (by omega)) (fun j h1 h2 h3 h4 h5 => by omega)
    have k2 := ih (downL lt l.length l k l.length) (by rw [key.2.2.1]; omega) (by rw [key.2.2.1]; exact key.1)
    rw [key.2.2.1] at k2
    exact ⟨k2.1, k2.2.1.trans key.2.1, k2.2.2⟩
theorem init_rep (L : Lin lt) (l : List α) : Rep lt (initL lt (l.length / 2) l) (sortL lt l) ∧ (initL lt (l.length / 2) l).length = l.length := by
  have key := init_spec L (l.length / 2) l (by omega) (fun j h1 h2 h3 => by omega)
  exact ⟨⟨by rw [key.2.2]; exact key.1, key.2.1.trans (sortL_perm l).symm, sortL_srt L l⟩, key.2.2⟩
end
end Go.Vx
