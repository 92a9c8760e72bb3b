/- MoneyOrder. -/
import Derived.Test.YtlkmdmaemjfelaaMonF
import Derived.Laws.Slices
import Derived.Deep.Slices
namespace Go.Proofs.Ytlkmdmaemjfelaa
open Go.RowKit Go.Vx
set_option linter.unusedVariables false
set_option linter.unusedSimpArgs false

theorem _root_.Go.Vx.Src.drop {w : World} {ad : Addr} {n k : Nat} {xs : List Value} (h : Src w 1 (some ad) n xs) (hk : k ≤ n) : Src w 1 (some (ad.add k)) (n - k) (xs.drop k) := by
  obtain ⟨h1, h2⟩ := h
  refine ⟨by simp at h1 ⊢; omega, fun h0 => ?_⟩
  obtain ⟨ad', e, hc⟩ := h2 (by omega)
  obtain rfl : ad = ad' := by simpa using e
  refine ⟨_, rfl, fun j u hu => ?_⟩
  rw [List.getElem?_drop] at hu
  have := hc (k + j) u hu
  rwa [show (ad.add k).add j = ad.add (k + j) by by_cases h1 : k = 0 <;> by_cases h2 : j = 0 <;> simp [Addr.add, h1, h2, Nat.add_assoc]]
theorem _root_.Go.Vx.Src.take {w : World} {A : Option Addr} {n k : Nat} {xs : List Value} (h : Src w 1 A n xs) (hk : k ≤ n) : Src w 1 A k (xs.take k) := by
  obtain ⟨h1, h2⟩ := h
  refine ⟨by simp at h1 ⊢; omega, fun h0 => ?_⟩
  obtain ⟨ad, rfl, hc⟩ := h2 (by omega)
  refine ⟨_, rfl, fun j u hu => ?_⟩
  rw [List.getElem?_take] at hu
  split at hu
  · exact hc j u hu
  · simp at hu
theorem addUp_turn (l : List Int) (k : Nat) : addUp (l.drop k ++ l.take k) = addUp l := by
  have h1 : (l.drop k ++ l.take k).Perm l := (List.perm_append_comm).trans (by rw [List.take_append_drop])
  unfold addUp
  have h2 : (l.drop k ++ l.take k).sum = l.sum := by rw [List.sum_append, Int.add_comm, ← List.sum_append, List.take_append_drop]
  rw [h1.all_eq, h2]
theorem addUp_pair {a : Int} (h : okM a = true) : addUp [a, -a] = (0, 0) := by
  have := okM_iff.1 h
  have h2 : okM (-a) = true := okM_iff.2 (by omega)
  unfold addUp told
  have h3 : okM 0 = true := by decide
  simp [h, h2, Int.add_right_neg, h3]
theorem addUp_cases (l : List Int) : (okM l.sum = true ∧ addUp l = (l.sum, 0)) ∨ addUp l = (0, 2) := by
  unfold addUp told
  split
  · split
    · exact .inl ⟨by assumption, rfl⟩
    · exact .inr rfl
  · exact .inr rfl
theorem turn_of (turn : Int) (n : Nat) (h : 0 < n) (hn : n ≤ 100) : ∃ k : Nat, k < n ∧ (turn.tmod n + n).tmod n = (k : Int) ∧ -100 ≤ turn.tmod n ∧ turn.tmod n ≤ 100 := by
  have h1 : -(n : Int) < turn.tmod n ∧ turn.tmod n < n := by
    rcases Int.lt_or_le turn 0 with h0 | h0
    · have e : turn.tmod n = -((-turn) % n) := by rw [← Int.tmod_eq_emod_of_nonneg (by omega), Int.neg_tmod, Int.neg_neg]
      have h2 := Int.emod_nonneg (-turn) (show (n : Int) ≠ 0 by omega)
      have h3 := Int.emod_lt_of_pos (-turn) (show (0 : Int) < n by omega)
      omega
    · rw [Int.tmod_eq_emod_of_nonneg h0]
      have h2 := Int.emod_nonneg turn (show (n : Int) ≠ 0 by omega)
      have h3 := Int.emod_lt_of_pos turn (show (0 : Int) < n by omega)
      omega
  generalize turn.tmod n = t at *
  rw [Int.tmod_eq_emod_of_nonneg (by omega)]
  have h2 := Int.emod_nonneg (t + n) (show (n : Int) ≠ 0 by omega)
  have h3 := Int.emod_lt_of_pos (t + n) (show (0 : Int) < n by omega)
  exact ⟨((t + n) % n).toNat, by omega, by omega, by omega, by omega⟩
set_option maxHeartbeats 6000000 in
set_option maxRecDepth 8000 in
theorem moneyOrder_in {w : World} {A : Option Addr} {n c : Nat} {l : List Int} (hs : Src w 1 A n (l.map (Value.int .i64))) (hn : n ≤ 40) (h0 : 0 < n) (hc : n ≤ c) (turn : Int) :
    Calls Try.prog 9 #[.slice A n c, .int .i64 turn] w fun e w' => e = .returned (.bool true) ∧ Chg [] w w' := by
  have hl : l.length = n := by have := hs.1; simpa using this
  obtain ⟨ad, rfl, hcell⟩ := hs.2 h0
  obtain ⟨k, hk, ek, t1, t2⟩ := turn_of turn n h0 (by omega)
  have nz : ¬ (n : Int) = 0 := by omega
  have b0 : ((n : Int) == 0) = false := by simp; omega
  have h1 := fun w (hs : Src w 1 (some ad) n (l.map (Value.int .i64))) => m_add hs (by omega) (c := c)
  obtain ⟨i0, hi, j0, j1, j2⟩ := info_parts infoInt
  have hs1 := hs.drop (k := k) (by omega)
  have hs2 := hs.take (k := k) (by omega)
  clear hcell
  go_enter Try.func9, Try.ntmps9
  go_wp2_with (go_at_call 10; refine (m_alive _).mono ?_; rintro e w0 ⟨rfl, hc0⟩)
  refine (h1 _ (hs.chg hc0 (by simp))).mono ?_
  rintro e w1 ⟨rfl, hc1⟩
  dsimp only
  go_wp2_with fail
  have hs1' := (hs1.chg hc0 (by simp)).chg hc1 (by simp)
  have hs2' := (hs2.chg hc0 (by simp)).chg hc1 (by simp)
  have hw1 := hc0.trans' hc1
  clear hc0 hc1 hs1 hs2 h1 hs
  have hk1 : k ≤ n := by omega
  have hk2 : k ≤ c := by omega
  have hk3 : ¬ c = k := by omega
  have hs2d : Src w1.drew 1 (some ad) k ((l.map (Value.int .i64)).take k) := hs2'
  have one1 : ∀ u ∈ (l.map (Value.int .i64)).drop k, u.oneCell' = true := fun u hu => by
    obtain ⟨x, -, rfl⟩ := List.mem_map.1 (List.mem_of_mem_drop hu)
    rfl
  have one2 : ∀ u ∈ (l.map (Value.int .i64)).take k, u.oneCell' = true := fun u hu => by
    obtain ⟨x, -, rfl⟩ := List.mem_map.1 (List.mem_of_mem_take hu)
    rfl
  have hadd : ∀ (w : World) (v : Value) (F : List Nat), Fix w 3 1 v (0 + (n - k) + k) ([] ++ (l.map (Value.int .i64)).drop k ++ (l.map (Value.int .i64)).take k) F → Calls Try.prog 20 #[v] w fun e w' => e = .returned (.tuple #[.int .i64 (addUp l).1, .int .i64 (addUp l).2]) ∧ Chg [] w w' := by
    intro w v F hf
    obtain ⟨A, c, rfl⟩ : ∃ A c, v = .slice A (0 + (n - k) + k) c := by obtain ⟨A, c, e, _⟩ := id hf; exact ⟨A, c, e⟩
    have := hf.src
    rw [List.nil_append, ← List.map_drop, ← List.map_take, ← List.map_append] at this
    have h := m_add (c := c) this (by omega)
    rwa [addUp_turn] at h
  replace hl := Lib.hid hl
  rcases addUp_cases l with ⟨ho, hA⟩ | hA
  · rw [hA] at hadd ⊢
    go_region_law (first | (refine step_append_fix rfl _ _ 22 rfl Try.underlying22 hi j0 j1 j2 rfl (by omega) (n := 0) (xs := []) (F := []) rfl (Fix.nil _ _ _) rfl hs1' one1 (by unfold maxLen; omega) (by omega) ?_; intro v1 w2 F1 ha1) | (refine step_append_fix rfl _ _ 22 rfl Try.underlying22 hi j0 j1 j2 rfl (by omega) rfl ha1.fix rfl (hs2d.chg ha1.chg (by simp)) one2 (by unfold maxLen; omega) (by omega) ?_; intro v2 w3 F2 ha2) | (go_simp; go_at_call 20; refine (hadd _ _ _ ha2.fix).mono ?_; rintro e w4 ⟨rfl, hc4⟩))
    all_goals
      have hcc := ((hw1.drew.trans ha1.chg (by simp)).trans ha2.chg (fun g hg => .inr (by rcases ha1.foot with e | e <;> rw [e] at hg <;> simp at hg; have := hw1.size; simp at hg ⊢; omega))).trans' hc4
      have hs4 := okM_iff.1 ho
      have hpair := fun (w : World) (A : Option Addr) (c : Nat) (hs : Src w 1 A 2 ([l.sum, -l.sum].map (Value.int .i64))) => m_add hs (by omega) (c := c)
      rw [addUp_pair ho] at hpair
      have hfit := fits1 l.sum
      rw [ho] at hfit
      generalize l.sum = s at *
      clear hadd hA ho ha1 ha2 hc4 one1 one2 hs1' hs2' hs2d hw1
      go_wp2_with (first | (go_at_call 20; refine (hpair _ _ _ (by exact Src.lit rfl rfl)).mono ?_; rintro e w5 ⟨rfl, hc5⟩) | (go_at_call 19; refine (hfit _ _ (by exact Src.one1 rfl)).mono ?_; rintro e w' ⟨rfl, rfl⟩))
      go_ret
      exact ⟨by trivial, ((hcc.alloc _).trans' hc5).alloc _⟩
  · rw [hA] at hadd ⊢
    go_region_law (first | (refine step_append_fix rfl _ _ 22 rfl Try.underlying22 hi j0 j1 j2 rfl (by omega) (n := 0) (xs := []) (F := []) rfl (Fix.nil _ _ _) rfl hs1' one1 (by unfold maxLen; omega) (by omega) ?_; intro v1 w2 F1 ha1) | (refine step_append_fix rfl _ _ 22 rfl Try.underlying22 hi j0 j1 j2 rfl (by omega) rfl ha1.fix rfl (hs2d.chg ha1.chg (by simp)) one2 (by unfold maxLen; omega) (by omega) ?_; intro v2 w3 F2 ha2) | (go_simp; go_at_call 20; refine (hadd _ _ _ ha2.fix).mono ?_; rintro e w4 ⟨rfl, hc4⟩))
    all_goals
      have hcc := ((hw1.drew.trans ha1.chg (by simp)).trans ha2.chg (fun g hg => .inr (by rcases ha1.foot with e | e <;> rw [e] at hg <;> simp at hg; have := hw1.size; simp at hg ⊢; omega))).trans' hc4
      clear hadd hA ha1 ha2 hc4 one1 one2 hs1' hs2' hs2d hw1
      go_wp2_with fail
      go_ret
      exact ⟨by trivial, hcc⟩
set_option maxHeartbeats 1000000 in
set_option maxRecDepth 8000 in
theorem moneyOrder_out {w : World} {A : Option Addr} {n c : Nat} (hn : 40 < n ∨ n = 0) (hb : n ≤ 140737488351232) (turn : Int) :
    Calls Try.prog 9 #[.slice A n c, .int .i64 turn] w fun e w' => e = .returned (.bool true) ∧ Chg [] w w' := by
  rcases hn with h | rfl
  · have b1 : decide (40 < (n : Int)) = true := by simp; omega
    go_enter Try.func9, Try.ntmps9
    go_wp2_with (go_at_call 10; refine (m_alive _).mono ?_; rintro e w0 ⟨rfl, hc0⟩)
    go_ret
    exact ⟨by trivial, hc0⟩
  · go_enter Try.func9, Try.ntmps9
    go_wp2_with (go_at_call 10; refine (m_alive _).mono ?_; rintro e w0 ⟨rfl, hc0⟩)
    go_ret
    exact ⟨by trivial, hc0⟩
theorem moneyOrder_walk (w : World) (A : Option Addr) (n c : Nat) (l : List Int) (x : l.length = n ∧ n ≤ c ∧ c ≤ maxLen ∧ Src w 1 A n (l.map (Value.int .i64)) ∧ ∀ x ∈ l, (Lit.int .i64 x).wf = true) (y : n * 8 ≤ 140737488351232) (turn : Int) (wt : (Lit.int .i64 turn).wf = true) :
    Calls Try.prog 9 #[.slice A n c, .int .i64 turn] w fun e w' => e = .returned (.bool true) ∧ Chg [] w w' := by
  obtain ⟨h1, h2, h3, h4, h5⟩ := x
  by_cases h : 40 < n ∨ n = 0
  · exact moneyOrder_out h (by omega) turn
  · exact moneyOrder_in h4 (by omega) (by omega) h2 turn
end Go.Proofs.Ytlkmdmaemjfelaa
