/- The money's Split, what it comes to: plain law. -/
import Derived.Test.YtlkmdmaemjfelaaMonC
namespace Go.Vx
open Go.Proofs.Ytlkmdmaemjfelaa
set_option linter.unusedVariables false
set_option linter.unusedSimpArgs false

def partIs (k : Nat) (x : Cut) : Bool := x.2.toNat == k
theorem bumps_len : ∀ (S : List Cut) (ps : List Nat), (bumps ps S).length = ps.length
  | [], ps => rfl
  | x :: S, ps => by rw [bumps, bumps_len S, bump_len]
theorem bumps_sum : ∀ (S : List Cut) (ps : List Nat), (∀ x ∈ S, x.2.toNat < ps.length) → (bumps ps S).sum = ps.sum + S.length
  | [], ps, _ => rfl
  | x :: S, ps, h => by
    rw [bumps, bumps_sum S _ (fun y hy => by rw [bump_len]; exact h y (by simp [hy])), bump_sum (h x (by simp)), List.length_cons]
    omega
theorem bumps_nth (k : Nat) : ∀ (S : List Cut) (ps : List Nat), (∀ x ∈ S, x.2.toNat < ps.length) → nth (bumps ps S) k = nth ps k + S.countP (partIs k)
  | [], ps, _ => rfl
  | x :: S, ps, h => by
    rw [bumps, bumps_nth k S _ (fun y hy => by rw [bump_len]; exact h y (by simp [hy])), bump, at_set (h x (by simp)), List.countP_cons]
    unfold partIs
    by_cases e : k = x.2.toNat
    · subst e; simp; omega
    · rw [if_neg e]
      have : (x.2.toNat == k) = false := by simp; omega
      simp [this]
theorem cuts_count (N W : Nat) (ws : List Nat) (k : Nat) : ∀ n, (cutsTo N W ws n).countP (partIs k) = if k < n then 1 else 0
  | 0 => by simp [cutsTo]
  | n + 1 => by
    rw [cutsTo, (ins_perm _ _).countP_eq, List.countP_cons, cuts_count N W ws k n]
    unfold partIs
    simp only [Int.toNat_natCast]
    by_cases e : n = k
    · subst e; simp
    · by_cases h : k < n
      · simp [h, e, show k < n + 1 by omega]
      · simp [h, e, show ¬ k < n + 1 by omega]
theorem cuts_srt (N W : Nat) (ws : List Nat) : ∀ n, Srt cutLt (cutsTo N W ws n)
  | 0 => List.Pairwise.nil
  | n + 1 => ins_srt cutLin _ _ (cuts_srt N W ws n)
theorem cuts_sum (N W : Nat) (ws : List Nat) : ∀ n, n ≤ ws.length → ((cutsTo N W ws n).map fun x => x.1.toNat).sum = ((ws.take n).map fun x => N * x % W).sum
  | 0, _ => by simp [cutsTo]
  | n + 1, h => by
    rw [cutsTo, ((ins_perm (lt := cutLt) _ _).map _).sum_nat, List.map_cons, List.sum_cons, cuts_sum N W ws n (by omega), List.take_add_one, List.map_append, List.sum_append]
    have e : rAt N W ws n = N * ws[n] % W := by rw [rAt, at_eq h]
    rw [e]
    simp only [show n < ws.length from h, List.getElem?_eq_getElem, Option.toList_some, List.map_cons, List.map_nil, List.sum_cons, List.sum_nil, Int.toNat_natCast]
    omega
section
variable {N W : Nat} {ws : List Nat} (hW : 0 < W) (hs : ws.sum = W)
include hW hs
theorem left_mul : (N - (parts0 N W ws ws.length).sum) * W = (ws.map fun x => N * x % W).sum := by
  have h1 := sum_mul N W hW ws
  have h3 : parts0 N W ws ws.length = ws.map fun x => N * x / W := by unfold parts0; rw [List.take_length]
  rw [h3, Nat.sub_mul]
  rw [hs] at h1
  omega
omit hW hs in
theorem split_len : (splitN N W ws).length = ws.length := by
  unfold splitN
  rw [bumps_len, parts0_len (Nat.le_refl _)]
omit hW hs in
theorem cut_in (L : Nat) : ∀ x ∈ (cutsTo N W ws ws.length).take L, x.2.toNat < (parts0 N W ws ws.length).length := fun x hx => by
  obtain ⟨i, hi, rfl⟩ := cutsTo_mem N W ws _ x (List.mem_of_mem_take hx)
  rw [parts0_len (Nat.le_refl _)]
  simpa using hi
theorem split_sum : (splitN N W ws).sum = N := by
  have h1 := parts0_sum (N := N) hW hs ws.length
  have h2 := left_le (N := N) hW hs
  unfold splitN
  rw [bumps_sum _ _ (cut_in _), List.length_take, cutsTo_len]
  omega
omit hW hs in
theorem pick_spec {k : Nat} (hk : k < ws.length) :
    (nth (splitN N W ws) k = qAt N W ws k ∧ (((rAt N W ws k : Nat) : Int), ((k : Nat) : Int)) ∈ (cutsTo N W ws ws.length).drop (N - (parts0 N W ws ws.length).sum)) ∨
    (nth (splitN N W ws) k = qAt N W ws k + 1 ∧ (((rAt N W ws k : Nat) : Int), ((k : Nat) : Int)) ∈ (cutsTo N W ws ws.length).take (N - (parts0 N W ws ws.length).sum)) := by
  have hq : nth (parts0 N W ws ws.length) k = qAt N W ws k := by
    have e : parts0 N W ws ws.length = ws.map fun x => N * x / W := by unfold parts0; rw [List.take_length]
    rw [e, at_eq (by simpa using hk), List.getElem_map, qAt, at_eq hk]
  have hc := cuts_count N W ws k ws.length
  rw [if_pos hk] at hc
  have hm := cutsTo_mem N W ws ws.length
  have hn := bumps_nth k ((cutsTo N W ws ws.length).take (N - (parts0 N W ws ws.length).sum)) (parts0 N W ws ws.length) (cut_in _)
  rw [hq] at hn
  have hsp : splitN N W ws = bumps (parts0 N W ws ws.length) ((cutsTo N W ws ws.length).take (N - (parts0 N W ws ws.length).sum)) := rfl
  rw [hsp, hn]
  generalize N - (parts0 N W ws ws.length).sum = L
  generalize cutsTo N W ws ws.length = C at *
  have hsplit : (C.take L).countP (partIs k) + (C.drop L).countP (partIs k) = 1 := by rw [← List.countP_append, List.take_append_drop, hc]
  have hin : ∀ l : List Cut, (∀ x ∈ l, x ∈ C) → 0 < l.countP (partIs k) → (((rAt N W ws k : Nat) : Int), ((k : Nat) : Int)) ∈ l := by
    intro l hl h0
    obtain ⟨x, hx, hp⟩ := List.countP_pos_iff.1 h0
    obtain ⟨i, hi, rfl⟩ := hm x (hl x hx)
    simp [partIs] at hp
    subst hp
    exact hx
  rcases Nat.eq_zero_or_pos ((C.take L).countP (partIs k)) with h | h
  · rw [h]
    exact .inl ⟨rfl, hin _ (fun x hx => List.mem_of_mem_drop hx) (by omega)⟩
  · have e : (C.take L).countP (partIs k) = 1 := by omega
    rw [e]
    exact .inr ⟨rfl, hin _ (fun x hx => List.mem_of_mem_take hx) h⟩
omit hW hs in
theorem cut_order (L : Nat) {x y : Cut} (hx : x ∈ (cutsTo N W ws ws.length).take L) (hy : y ∈ (cutsTo N W ws ws.length).drop L) : cutLt y x = false := by
  have h := cuts_srt N W ws ws.length
  rw [← List.take_append_drop L (cutsTo N W ws ws.length)] at h
  exact (List.pairwise_append.1 h).2.2 x hx y hy
/-- A weight of 0 has nothing. -/
theorem split_zero {k : Nat} (hk : k < ws.length) (h0 : nth ws k = 0) : nth (splitN N W ws) k = 0 := by
  have hq : qAt N W ws k = 0 := by simp [qAt, h0]
  have hr : rAt N W ws k = 0 := by simp [rAt, h0]
  rcases pick_spec hk (N := N) (W := W) with ⟨e, -⟩ | ⟨-, hin⟩
  · rw [e, hq]
  · exfalso
    rw [hr] at hin
    have hL := left_mul (N := N) hW hs
    have hsum := cuts_sum N W ws ws.length (Nat.le_refl _)
    rw [List.take_length, ← hL] at hsum
    have hord := fun y => cut_order (N - (parts0 N W ws ws.length).sum) hin (y := y)
    have hm := cutsTo_mem N W ws ws.length
    generalize N - (parts0 N W ws ws.length).sum = L at *
    generalize cutsTo N W ws ws.length = C at *
    rw [← List.take_append_drop L C, List.map_append, List.sum_append] at hsum
    have hd : ((C.drop L).map fun x => x.1.toNat).sum = 0 := by
      have : ∀ x ∈ C.drop L, x.1.toNat = 0 := fun x hx => by
        have := hord x hx
        simp [cutLt] at this
        omega
      generalize C.drop L = D at *
      clear hsum hord hin
      induction D with
      | nil => rfl
      | cons x D ih => rw [List.map_cons, List.sum_cons, this x (by simp), ih fun y hy => this y (by simp [hy])]
    have ht : ∀ l : List Cut, (∀ x ∈ l, x.1.toNat < W) → ((l.map fun x => x.1.toNat).sum ≤ l.length * W) ∧ ((0, ((k : Nat) : Int)) ∈ l → (l.map fun x => x.1.toNat).sum < l.length * W) := by
      intro l hl
      induction l with
      | nil => simp
      | cons x l ih =>
        obtain ⟨i1, i2⟩ := ih fun y hy => hl y (by simp [hy])
        have h1 := hl x (by simp)
        simp only [List.map_cons, List.sum_cons, List.length_cons, Nat.add_mul, List.mem_cons]
        refine ⟨by omega, fun h => ?_⟩
        rcases h with h | h
        · have e : x.1.toNat = 0 := by rw [← h]; rfl
          omega
        · have := i2 h
          omega
    have hlt := (ht (C.take L) (fun x hx => by
      obtain ⟨i, hi, rfl⟩ := hm x (List.mem_of_mem_take hx)
      simp [rAt]
      exact Nat.mod_lt _ hW)).2 hin
    have hlen : (C.take L).length * W ≤ L * W := Nat.mul_le_mul_right _ (by simp; omega)
    omega
/-- A greater weight never has less. -/
theorem split_mono {i k : Nat} (hi : i < ws.length) (hk : k < ws.length) (h : nth ws k < nth ws i) : nth (splitN N W ws) k ≤ nth (splitN N W ws) i := by
  rcases Nat.eq_zero_or_pos N with hN | hN
  · have h1 := le_sum (ps := splitN N W ws) (i := k) (by rw [split_len]; exact hk)
    rw [split_sum hW hs] at h1
    omega
  have hq : qAt N W ws k ≤ qAt N W ws i := Nat.div_le_div_right (Nat.mul_le_mul_left N (Nat.le_of_lt h))
  rcases pick_spec hk (N := N) (W := W) with ⟨e1, m1⟩ | ⟨e1, m1⟩ <;> rcases pick_spec hi (N := N) (W := W) with ⟨e2, m2⟩ | ⟨e2, m2⟩
  · omega
  · omega
  · rcases Nat.lt_or_ge (qAt N W ws k) (qAt N W ws i) with hlt | hge
    · omega
    · exfalso
      have ho := cut_order _ m1 m2
      have d1 := Nat.div_add_mod (N * nth ws k) W
      have d2 := Nat.div_add_mod (N * nth ws i) W
      have e3 : qAt N W ws k = qAt N W ws i := by omega
      unfold qAt at e3
      rw [e3] at d1
      have h3 : N * nth ws k < N * nth ws i := Nat.mul_lt_mul_of_pos_left h hN
      unfold rAt at ho
      generalize N * nth ws k % W = a at *
      generalize N * nth ws i % W = b at *
      simp [cutLt] at ho
      omega
  · omega
omit hW hs in
theorem split_near {k : Nat} (hk : k < ws.length) : N * nth ws k / W ≤ nth (splitN N W ws) k ∧ nth (splitN N W ws) k ≤ N * nth ws k / W + 1 := by
  rcases pick_spec hk (N := N) (W := W) with ⟨e, -⟩ | ⟨e, -⟩ <;> rw [e] <;> unfold qAt <;> omega
end
/-- An amount's part with its sign. -/
def sg (a : Int) (x : Nat) : Int := if a < 0 then -(x : Int) else x
theorem sg_sum (a : Int) : ∀ T : List Nat, (T.map (sg a)).sum = sg a T.sum
  | [] => by unfold sg; split <;> rfl
  | x :: T => by
    rw [List.map_cons, List.sum_cons, sg_sum a T, List.sum_cons]
    unfold sg
    split <;> omega
theorem sg_abs (a : Int) : sg a a.natAbs = a := by
  unfold sg
  split <;> omega
theorem low_of {N x W : Nat} (hW : 0 < W) : N / W * x + N % W * x / W = N * x / W := by
  have h := Nat.div_add_mod N W
  have : N * x = W * (N / W * x) + N % W * x := by
    conv => lhs; rw [← h]
    rw [Nat.add_mul, Nat.mul_assoc]
  rw [this, Nat.add_comm (W * _), Nat.add_mul_div_left _ _ hW, Nat.add_comm]
end Go.Vx
