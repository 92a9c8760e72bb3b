/- Marks: which names may be. -/
import Derived.Test.YtggkeageoljegaaMkB
namespace Go.Proofs.Ytggkeageoljegaa
open Go.RowKit Go.Vx Go.Maps
set_option linter.unusedVariables false
set_option linter.unusedSimpArgs false

theorem ret_bool {a b : Bool} (h : a = b) : Ending.returned (Value.bool a) = .returned (.bool b) := by rw [h]
theorem mk_small (c : UInt8) (w : World) : Calls Try.prog 14 #[.int .u8 (c.toNat : Int)] w fun e w' => e = .returned (.bool (smallB c)) ∧ w = w' := by
  have h1 : (97 : Int) ≤ (c.toNat : Int) → Hid (decide ((c.toNat : Int) ≤ 122) = smallB c) := fun h => Lib.hid (by unfold smallB; rw [Bool.eq_iff_iff]; simp; omega)
  have h2 : (c.toNat : Int) < 97 → Hid (false = smallB c) := fun h => Lib.hid (by unfold smallB; simp; omega)
  go_enter Try.func14, Try.ntmps14
  go_wp2
  · go_ret
    exact ⟨ret_bool (h1 (by omega)).out, rfl⟩
  · go_ret
    exact ⟨ret_bool (h2 (by omega)).out, rfl⟩
theorem mark_bad {s : ByteArray} {k : Nat} (hk : k < s.size) (h : markC s[k] = false) : markB s.data.toList = false := by
  have hm : s[k] ∈ s.data.toList := Array.mem_toList_iff.2 (Array.getElem_mem _)
  unfold markB
  split
  · rfl
  · rename_i c r hc
    rw [hc] at hm
    have : (c :: r).all markC = false := by
      rw [List.all_eq_false]
      exact ⟨s[k], hm, by simp [h]⟩
    rw [this]
    simp
theorem mark_size {s : ByteArray} (h : s.size = 0 ∨ 12 < s.size) : markB s.data.toList = false := by
  have hl : s.data.toList.length = s.size := by rw [Array.length_toList]; rfl
  unfold markB
  split
  · rfl
  · rename_i c r hc
    rw [hc] at hl
    have : decide ((c :: r).length ≤ 12) = false := by
      rw [decide_eq_false_iff_not]
      simp at hl
      simp
      omega
    rw [this]
    simp
theorem mark_first {s : ByteArray} (h0 : 0 < s.size) (h : smallB s[0] = false) : markB s.data.toList = false := by
  have h1 : s.data.toList[0]'(by rw [Array.length_toList]; exact h0) = s[0] := by rw [Array.getElem_toList]; rfl
  unfold markB
  split
  · rfl
  · rename_i c r hc
    simp only [hc, List.getElem_cons_zero] at h1
    rw [h1, h]
    simp
theorem mark_good {s : ByteArray} (h0 : 0 < s.size) (h12 : s.size ≤ 12) (hs : smallB s[0] = true) (h : ∀ k (hk : k < s.size), markC s[k] = true) : markB s.data.toList = true := by
  have hl : s.data.toList.length = s.size := by rw [Array.length_toList]; rfl
  have h1 : s.data.toList[0]'(by rw [Array.length_toList]; exact h0) = s[0] := by rw [Array.getElem_toList]; rfl
  have ha : s.data.toList.all markC = true := by
    rw [List.all_eq_true]
    intro x hx
    obtain ⟨k, hk, rfl⟩ := List.getElem_of_mem hx
    exact h k (by simpa using hk)
  unfold markB
  split
  · rename_i hc
    rw [hc] at hl
    simp at hl
    omega
  · rename_i c r hc
    simp only [hc, List.getElem_cons_zero] at h1
    rw [hc] at ha hl
    rw [ha, h1, hs]
    simp at hl
    simp
    omega
theorem markC_cases (c : UInt8) : (markC c = true ∧ smallB c = true) ∨ (markC c = true ∧ smallB c = false ∧ decide ((c.toNat : Int) < 48) = false ∧ decide (57 < (c.toNat : Int)) = false) ∨ (markC c = true ∧ smallB c = false ∧ decide ((c.toNat : Int) < 48) = true ∧ ((c.toNat : Int) != 45) = false) ∨
    (markC c = false ∧ smallB c = false ∧ decide ((c.toNat : Int) < 48) = true ∧ ((c.toNat : Int) != 45) = true) ∨ (markC c = false ∧ smallB c = false ∧ decide ((c.toNat : Int) < 48) = false ∧ decide (57 < (c.toNat : Int)) = true ∧ ((c.toNat : Int) != 45) = true) := by
  have e : ((c.toNat : Int) != 45) = !(c.toNat == 45) := by
    rw [Bool.eq_iff_iff]
    simp
    omega
  unfold markC
  rw [e]
  cases smallB c with
  | true => exact .inl (by simp)
  | false =>
    right
    simp only [decide_eq_true_eq, decide_eq_false_iff_not, Bool.or_eq_true, Bool.or_eq_false_iff, Bool.and_eq_true, Bool.and_eq_false_iff, beq_iff_eq, beq_eq_false_iff_ne, Bool.not_eq_true', Bool.not_eq_false']
    simp
    omega
set_option maxHeartbeats 2000000 in
theorem mk_valid (s : ByteArray) (hs : s.size ≤ maxLen) (w : World) : Calls Try.prog 10 #[.string s] w fun e w' => e = .returned (.bool (markB s.data.toList)) ∧ w = w' := by
  unfold maxLen at hs
  by_cases hz : s.size = 0 ∨ 12 < s.size
  · have hb := Lib.hid (mark_size hz)
    have hd : decide ((s.size : Int) < 1) = true ∨ (decide ((s.size : Int) < 1) = false ∧ decide (12 < (s.size : Int)) = true) := by simp only [decide_eq_true_eq, decide_eq_false_iff_not]; omega
    clear hz
    rcases hd with h1 | ⟨h1, h2⟩
    all_goals
      go_enter Try.func10, Try.ntmps10
      go_wp2
      go_ret
      exact ⟨ret_bool hb.out.symm, rfl⟩
  · have h0 : 0 < s.size := by omega
    have h12 : s.size ≤ 12 := by omega
    have d1 : decide ((s.size : Int) < 1) = false := by simp; omega
    have d2 : decide (12 < (s.size : Int)) = false := by simp; omega
    clear hz
    have hsm := mk_small s[0]
    cases hc : smallB s[0] with
    | false =>
      have hb := Lib.hid (mark_first h0 hc)
      rw [hc] at hsm
      clear hc
      go_enter Try.func10, Try.ntmps10
      go_wp2_with (go_at_call 14; refine (hsm _).mono ?_; rintro e w' ⟨rfl, rfl⟩)
      go_ret
      exact ⟨ret_bool hb.out.symm, rfl⟩
    | true =>
      rw [hc] at hsm
      replace hc := Lib.hid hc
      go_enter Try.func10, Try.ntmps10
      go_wp2_with (go_at_call 14; refine (hsm _).mono ?_; rintro e w' ⟨rfl, rfl⟩)
      go_loop [21] (fun iv => ∃ k : Nat, k ≤ s.size ∧ iv = .int .i64 k ∧ ∀ j (hj : j < s.size), j < k → markC s[j] = true) (fun iv => s.size - (intOf iv).toNat)
      case atStart => exact ⟨0, by omega, rfl, fun j _ h => by omega⟩
      case round =>
        obtain ⟨k, hk, rfl, hj⟩ := hrel
        clear hsm
        by_cases hlt : k < s.size
        · have hj2 : markC s[k] = true → ∀ j (hj : j < s.size), j < k + 1 → markC s[j] = true := fun h j hj1 hj2 => by
            rcases Nat.lt_or_ge j k with h2 | h2
            · exact hj j hj1 h2
            · obtain rfl : j = k := by omega
              exact h
          have hbad : markC s[k] = false → Hid (false = markB s.data.toList) := fun h => Lib.hid (mark_bad hlt h).symm
          have hsm := mk_small s[k]
          clear hj
          rcases markC_cases s[k] with ⟨a0, a1⟩ | ⟨a0, a1, a2, a3⟩ | ⟨a0, a1, a2, a3⟩ | ⟨a0, a1, a2, a3⟩ | ⟨a0, a1, a2, a3, a4⟩
          · have hj3 := Lib.hid (hj2 a0)
            rw [a1] at hsm
            clear hj2 hbad a0 a1
            go_wp2_with (go_at_call 14; refine (hsm _).mono ?_; rintro e w' ⟨rfl, rfl⟩)
            go_round
            case rel => exact ⟨k + 1, by omega, by go_num, hj3.out⟩
            case measure => simp [intOf]; omega
          · have hj3 := Lib.hid (hj2 a0)
            rw [a1] at hsm
            clear hj2 hbad a0 a1
            go_wp2_with (go_at_call 14; refine (hsm _).mono ?_; rintro e w' ⟨rfl, rfl⟩)
            go_round
            case rel => exact ⟨k + 1, by omega, by go_num, hj3.out⟩
            case measure => simp [intOf]; omega
          · have hj3 := Lib.hid (hj2 a0)
            rw [a1] at hsm
            clear hj2 hbad a0 a1
            go_wp2_with (go_at_call 14; refine (hsm _).mono ?_; rintro e w' ⟨rfl, rfl⟩)
            go_round
            case rel => exact ⟨k + 1, by omega, by go_num, hj3.out⟩
            case measure => simp [intOf]; omega
          · have hb := hbad a0
            rw [a1] at hsm
            clear hj2 hbad a0 a1
            go_wp2_with (go_at_call 14; refine (hsm _).mono ?_; rintro e w' ⟨rfl, rfl⟩)
            go_ret
            exact ⟨ret_bool hb.out, rfl⟩
          · have hb := hbad a0
            rw [a1] at hsm
            clear hj2 hbad a0 a1
            go_wp2_with (go_at_call 14; refine (hsm _).mono ?_; rintro e w' ⟨rfl, rfl⟩)
            go_ret
            exact ⟨ret_bool hb.out, rfl⟩
        · obtain rfl : k = s.size := by omega
          have hg := Lib.hid (mark_good h0 h12 hc.out fun j h => hj j h h)
          clear hj
          go_wp2
          go_ret
          exact ⟨ret_bool hg.out.symm, rfl⟩
end Go.Proofs.Ytggkeageoljegaa
