/- Journals: the small functions of entries (Fits, Valid out of the texts of money and term). -/
import Derived.Test.YtlgfmphjgijilaaJoA
import Derived.Deep.QuietTactic
import Derived.Deep.RegionLaw
namespace Go.Proofs.Ytlgfmphjgijilaa
open Go.RowKit Go.Vx
set_option linter.unusedVariables false
set_option linter.unusedSimpArgs false

theorem ret_bool {a b : Bool} (h : a = b) : Ending.returned (Value.bool a) = .returned (.bool b) := by rw [h]
theorem jo_entity (n : Int) (w : World) : Calls Try.prog 55 #[.int .i64 n] w fun e w' => e = .returned (.bool (entB n)) ∧ w = w' := by
  have h1 : 1 ≤ n → Hid (decide (n ≤ 9) = entB n) := fun h => Lib.hid (by unfold entB; simp [h])
  have h2 : n < 1 → Hid (false = entB n) := fun h => Lib.hid (by unfold entB; simp; omega)
  go_enter Try.func55, Try.ntmps55
  go_wp2
  · go_ret
    exact ⟨ret_bool (h1 (by omega)).out, rfl⟩
  · go_ret
    exact ⟨ret_bool (h2 (by omega)).out, rfl⟩
theorem jo_valid1 (p : Int) (w : World) : Calls Try.prog 60 #[.int .i64 p] w fun e w' => e = .returned (.bool (perB p)) ∧ w = w' := by
  have h1 : 0 ≤ p → Hid (decide (p ≤ 1199) = perB p) := fun h => Lib.hid (by unfold perB; simp [h])
  have h2 : p < 0 → Hid (false = perB p) := fun h => Lib.hid (by unfold perB; simp; omega)
  go_enter Try.func60, Try.ntmps60
  go_wp2
  · go_ret
    exact ⟨ret_bool (h1 (by omega)).out, rfl⟩
  · go_ret
    exact ⟨ret_bool (h2 (by omega)).out, rfl⟩
set_option maxRecDepth 8000 in
set_option maxHeartbeats 1000000 in
theorem jo_valid {w : World} {A : Option Addr} {n c : Nat} {l : List Int} (h1 : Src w 1 A n (l.map (Value.int .i64))) (hn : n ≤ 1000000) :
    Calls Try.prog 56 #[.slice A n c] w fun e w' => e = .returned (.bool (l.all perB)) ∧ Chg [] w w' := by
  have hl : l.length = n := by have := h1.1; simpa using this
  replace hl := Lib.hid hl
  have hbad : ∀ k, ∀ hk : k < l.length, perB l[k] = false → Hid (false = l.all perB) := fun k hk hb => Lib.hid (by
    symm
    rw [List.all_eq_false]
    exact ⟨l[k], List.getElem_mem hk, by simp [hb]⟩)
  have hgood : (∀ k, ∀ hk : k < l.length, perB l[k] = true) → Hid (true = l.all perB) := fun h => Lib.hid (by
    symm
    rw [List.all_eq_true]
    intro x hx
    obtain ⟨k, hk, rfl⟩ := List.getElem_of_mem hx
    exact h k hk)
  generalize l.all perB = R at *
  go_enter Try.func56, Try.ntmps56
  go_wp2_with fail
  go_loopw [7] (fun iv wr => ∃ k : Nat, k ≤ n ∧ iv = .int .i64 k ∧ (∀ j, j < k → ∀ hj : j < l.length, perB l[j] = true) ∧ Chg [] w wr) (fun iv _ => n - (intOf iv).toNat)
  case atStart => exact ⟨0, by omega, rfl, fun j hj => absurd hj (by omega), Chg.refl _ _⟩
  case round =>
    obtain ⟨k, hk, rfl, hg, hc⟩ := hrel
    by_cases hlt : k < n
    · obtain ⟨a, rfl, c1⟩ := (h1.chg hc (by simp)).2 (by omega)
      have hkl : k < l.length := by rw [hl.out]; exact hlt
      have d1 := c1 k (.int .i64 l[k]) (by simp [hkl])
      clear c1
      have hb := hbad k hkl
      have hnext : perB l[k] = true → Hid (∀ j, j < k + 1 → ∀ hj : j < l.length, perB l[j] = true) := fun h => Lib.hid (fun j hj hjl => by
        rcases Nat.lt_or_ge j k with h2 | h2
        · exact hg j h2 hjl
        · obtain rfl : j = k := by omega
          exact h)
      have hv := jo_valid1 l[k]
      clear hbad hgood hg
      generalize hx : l[k] = x at d1 hb hnext hv
      cases hok : perB x with
      | true =>
        rw [hok] at hv
        have hnx := hnext hok
        clear hnext hb hx
        go_wp2_with (go_at_call 60; refine (hv _).mono ?_; rintro e w' ⟨rfl, rfl⟩)
        go_roundw
        case measure => simp [intOf]; omega
        case rel => exact ⟨k + 1, by omega, by go_num, hnx.out, hc⟩
      | false =>
        rw [hok] at hv
        have hnx := hb hok
        clear hnext hb hx
        go_wp2_with (go_at_call 60; refine (hv _).mono ?_; rintro e w' ⟨rfl, rfl⟩)
        go_ret
        exact ⟨ret_bool hnx.out, hc⟩
    · obtain rfl : k = n := by omega
      have hgd := hgood (fun j hj => hg j (by rw [← hl.out]; exact hj) hj)
      go_wp2_with fail
      go_ret
      exact ⟨ret_bool hgd.out, hc⟩
/-- The call's own list of one month. -/
theorem jo_valid_one {w : World} {p : Int} {t : TypeId} {B : Nat} (hB : w.heap.size = B) :
    Calls Try.prog 56 #[.slice (some ⟨B, 0, none⟩) 1 1] (w.alloc (.cells #[.int .i64 p] t)) fun e w' => e = .returned (.bool (perB p)) ∧ Chg [] w w' :=
  (jo_valid (l := [p]) (Src.one1 hB) (by omega)).mono fun e w' h => ⟨by rw [h.1]; simp, ((Chg.refl [] w).alloc _).trans' h.2⟩
theorem fitM_iff {a : Int} : fitM a = true ↔ -1000000000000000 ≤ a ∧ a ≤ 1000000000000000 := by simp [fitM]
theorem fitM_not {a : Int} : fitM a = false ↔ (a < -1000000000000000 ∨ 1000000000000000 < a) := by
  simp [fitM]
  omega
theorem all_take {α : Type} {p : α → Bool} {l : List α} {k : Nat} (hk : k < l.length) : (l.take (k + 1)).all p = ((l.take k).all p && p l[k]) := by
  rw [List.take_add_one, List.all_append]
  simp [hk]
theorem all_bad {α : Type} {p : α → Bool} {l : List α} {k : Nat} (hk : k < l.length) (h : p l[k] = false) : l.all p = false := by
  rw [List.all_eq_false]
  exact ⟨l[k], List.getElem_mem hk, by simp [h]⟩
theorem jo_fits {w : World} {A : Option Addr} {n c : Nat} {l : List Int} (hs : Src w 1 A n (l.map (Value.int .i64))) (hn : n ≤ 1000000) :
    Calls Try.prog 43 #[.slice A n c] w fun e w' => e = .returned (.bool (l.all fitM)) ∧ w = w' := by
  have hl : l.length = n := by have := hs.1; simpa using this
  go_enter Try.func43, Try.ntmps43
  go_wp2
  go_loopw [7] (fun i wr => ∃ k : Nat, k ≤ n ∧ i = .int .i64 k ∧ (l.take k).all fitM = true ∧ w = wr) (fun i _ => n - (intOf i).toNat)
  case atStart => exact ⟨0, by omega, rfl, by simp, rfl⟩
  case round =>
    obtain ⟨k, hk, rfl, hall, rfl⟩ := hrel
    by_cases hlt : k < n
    · obtain ⟨ad, rfl, hc⟩ := hs.2 (by omega)
      have hck := hc k (.int .i64 (l[k]'(by omega))) (by simp [hl, hlt])
      have e1 := all_take (p := fitM) (l := l) (k := k) (by omega)
      have e2 := all_bad (p := fitM) (l := l) (k := k) (by omega)
      generalize hx : l[k]'(by omega) = x at *
      clear hc
      replace hall := Lib.hid hall
      replace e1 := Lib.hid e1
      cases h1 : fitM x with
      | true =>
        have b1 : decide (x < -1000000000000000) = false := by simp [fitM] at h1; simp; omega
        have b2 : decide (1000000000000000 < x) = false := by simp [fitM] at h1; simp; omega
        clear e2
        replace h1 := Lib.hid h1
        go_wp2
        go_roundw
        case measure => simp [intOf]; omega
        case rel => exact ⟨k + 1, by omega, by go_num, by rw [e1.out, hall.out, h1.out]; rfl, by trivial⟩
      | false =>
        replace e2 := Lib.hid (e2 h1)
        rcases fitM_not.1 h1 with h2 | h2
        · have b1 : decide (x < -1000000000000000) = true := by simpa using h2
          go_wp2
          go_ret
          exact ⟨by rw [e2.out]; rfl, rfl⟩
        · have b1 : decide (x < -1000000000000000) = false := by simp; omega
          have b2 : decide (1000000000000000 < x) = true := by simpa using h2
          go_wp2
          go_ret
          exact ⟨by rw [e2.out]; rfl, rfl⟩
    · obtain rfl : k = n := by omega
      rw [← hl, List.take_length] at hall
      replace hall := Lib.hid hall
      replace hl := Lib.hid hl
      go_wp2
      go_ret
      exact ⟨by rw [hall.out]; rfl, by trivial⟩
theorem ref_bad {s : ByteArray} {k : Nat} (hk : k < s.size) (h : refc s[k] = false) : refB s = false := by
  unfold refB
  have : s.data.toList.all refc = false := by
    rw [List.all_eq_false]
    exact ⟨s[k], Array.mem_toList_iff.2 (Array.getElem_mem _), by simp [h]⟩
  rw [this]
  rfl
theorem ref_good {s : ByteArray} (h : ∀ k (hk : k < s.size), refc s[k] = true) : refB s = decide (s.size ≤ 8) := by
  unfold refB
  have : s.data.toList.all refc = true := by
    rw [List.all_eq_true]
    intro x hx
    obtain ⟨k, hk, rfl⟩ := List.getElem_of_mem hx
    exact h k (by simpa using hk)
  rw [this]
  rfl
theorem refc_cases (c : UInt8) : (refc c = true ∧ decide ((c.toNat : Int) < 65) = false ∧ decide (90 < (c.toNat : Int)) = false) ∨
    (refc c = true ∧ decide ((c.toNat : Int) < 65) = true ∧ decide ((c.toNat : Int) < 48) = false ∧ decide (57 < (c.toNat : Int)) = false) ∨
    (refc c = false ∧ decide ((c.toNat : Int) < 65) = true ∧ decide ((c.toNat : Int) < 48) = true) ∨
    (refc c = false ∧ decide ((c.toNat : Int) < 65) = true ∧ decide ((c.toNat : Int) < 48) = false ∧ decide (57 < (c.toNat : Int)) = true) ∨
    (refc c = false ∧ decide ((c.toNat : Int) < 65) = false ∧ decide (90 < (c.toNat : Int)) = true ∧ decide ((c.toNat : Int) < 48) = false ∧ decide (57 < (c.toNat : Int)) = true) := by
  unfold refc
  simp only [decide_eq_true_eq, decide_eq_false_iff_not, Bool.and_eq_true, Bool.or_eq_true, Bool.or_eq_false_iff, Bool.and_eq_false_iff]
  omega
set_option maxHeartbeats 1000000 in
theorem jo_named (s : ByteArray) (hs : s.size ≤ maxLen) (w : World) : Calls Try.prog 57 #[.string s] w fun e w' => e = .returned (.bool (refB s)) ∧ w = w' := by
  unfold maxLen at hs
  go_enter Try.func57, Try.ntmps57
  go_wp2
  go_loop [7] (fun iv => ∃ k : Nat, k ≤ s.size ∧ iv = .int .i64 k ∧ ∀ j (hj : j < s.size), j < k → refc s[j] = true) (fun iv => s.size - (intOf iv).toNat)
  case atStart => exact ⟨0, by omega, rfl, fun j _ h => by omega⟩
  case round =>
    obtain ⟨k, hk, rfl, hj⟩ := hrel
    by_cases hlt : k < s.size
    · have hj2 : refc s[k] = true → ∀ j (hj : j < s.size), j < k + 1 → refc s[j] = true := fun h j hj1 hj2 => by
        rcases Nat.lt_or_ge j k with h2 | h2
        · exact hj j hj1 h2
        · obtain rfl : j = k := by omega
          exact h
      have hbad : refc s[k] = false → Hid (false = refB s) := fun h => Lib.hid (ref_bad hlt h).symm
      clear hj
      rcases refc_cases s[k] with ⟨h0, h1, h2⟩ | ⟨h0, h1, h2, h3⟩ | ⟨h0, h1, h2⟩ | ⟨h0, h1, h2, h3⟩ | ⟨h0, h1, h2, h3, h4⟩
      · have hj3 := Lib.hid (hj2 h0)
        clear hj2 hbad h0
        go_wp2
        go_round
        case rel => exact ⟨k + 1, by omega, by go_num, hj3.out⟩
        case measure => simp [intOf]; omega
      · have hj3 := Lib.hid (hj2 h0)
        clear hj2 hbad h0
        go_wp2
        go_round
        case rel => exact ⟨k + 1, by omega, by go_num, hj3.out⟩
        case measure => simp [intOf]; omega
      all_goals
        have hb := hbad h0
        clear hj2 hbad h0
        go_wp2
        go_ret
        exact ⟨ret_bool hb.out, rfl⟩
    · obtain rfl : k = s.size := by omega
      have hb : Hid (decide ((s.size : Int) ≤ 8) = refB s) := Lib.hid (by rw [ref_good fun j h => hj j h h]; simp; omega)
      clear hj
      go_wp2
      go_ret
      exact ⟨ret_bool hb.out, rfl⟩
end Go.Proofs.Ytlgfmphjgijilaa
