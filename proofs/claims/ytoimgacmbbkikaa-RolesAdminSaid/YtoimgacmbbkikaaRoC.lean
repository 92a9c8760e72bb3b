/- Roles: who is a user (the document's), what one has. -/
import Derived.Test.YtoimgacmbbkikaaRoB
namespace Go.Proofs.Ytoimgacmbbkikaa
open Go.RowKit Go.Vx Go.Maps
set_option linter.unusedVariables false
set_option linter.unusedSimpArgs false

set_option maxHeartbeats 1000000 in
theorem r17_user (s : ByteArray) (hs : s.size ≤ maxLen) (w : World) : Calls Try.prog 5 #[.string s] w fun e w' => e = .returned (.bool (userB s)) ∧ w = w' := by
  unfold maxLen at hs
  go_enter Try.func5, Try.ntmps5
  go_wp2
  go_loop [3] (fun iv => ∃ k : Nat, k ≤ s.size ∧ iv = .int .i64 k ∧ ∀ j (hj : j < s.size), j < k → okc s[j] = true) (fun iv => s.size - (intOf iv).toNat)
  case atStart => exact ⟨0, by omega, rfl, fun j _ h => by omega⟩
  case round =>
    obtain ⟨k, hk, rfl, hj⟩ := hrel
    by_cases hlt : k < s.size
    · have hj2 : okc s[k] = true → ∀ j (hj : j < s.size), j < k + 1 → okc s[j] = true := fun h j hj1 hj2 => by
        rcases Nat.lt_or_ge j k with h2 | h2
        · exact hj j hj1 h2
        · obtain rfl : j = k := by omega
          exact h
      have hbad : okc s[k] = false → Hid (false = userB s) := fun h => Lib.hid (user_bad hlt h).symm
      clear hj
      rcases okc_cases s[k] with ⟨h0, h1, h2⟩ | ⟨h0, h1⟩ | ⟨h0, h1, h2⟩
      · have hj3 := Lib.hid (hj2 h0)
        clear hj2 hbad h0
        go_wp2
        go_round
        case rel => exact ⟨k + 1, by omega, by go_num, hj3.out⟩
        case measure => simp [intOf]; omega
      · have hb := hbad h0
        clear hj2 hbad h0
        go_wp2
        go_ret
        exact ⟨ret_bool hb.out, rfl⟩
      · have hb := hbad h0
        clear hj2 hbad h0
        go_wp2
        go_ret
        exact ⟨ret_bool hb.out, rfl⟩
    · obtain rfl : k = s.size := by omega
      have hg := Lib.hid (user_good fun j h => hj j h h)
      clear hj
      by_cases h1 : 1 ≤ s.size
      · have hb : Hid (decide ((s.size : Int) ≤ 12) = userB s) := Lib.hid (by rw [hg.out]; simp [h1]; omega)
        go_wp2
        go_ret
        exact ⟨ret_bool hb.out, rfl⟩
      · have hb : Hid (false = userB s) := Lib.hid (by rw [hg.out]; simp [h1])
        go_wp2
        go_ret
        exact ⟨ret_bool hb.out, rfl⟩
theorem ro_of {w : World} {p : Nat} {L : RL} {F : List Nat} (h : RAt w p L F) (s : ByteArray) (hs : s.size ≤ maxLen) : Calls Try.prog 10 #[.pointer (some ⟨p, 0, none⟩), .string s] w fun e w' => e = .returned (.int .i64 (getR L s.data.toList)) ∧ w = w' := by
  obtain ⟨m, c0, hr⟩ := h.read hs
  go_enter Try.func10, Try.ntmps10
  go_wp2
  go_ret
  exact ⟨rfl, rfl⟩
theorem ro_may_bad (p : Nat) (s : ByteArray) (a : Int) (ha : asksB a = false) (w : World) : Calls Try.prog 8 #[.pointer (some ⟨p, 0, none⟩), .string s, .int .i64 a] w fun e w' => e = .returned (.int .i64 1) ∧ w = w' := by
  have hk := ro_asks a
  rw [ha] at hk
  go_enter Try.func8, Try.ntmps8
  go_wp2_with (go_at_call 13; refine (hk _).mono ?_; rintro e w' ⟨rfl, rfl⟩)
  go_ret
  exact ⟨rfl, rfl⟩
theorem ro_had_has {w : World} {p : Nat} {L : RL} {F : List Nat} (h : RAt w p L F) (s : ByteArray) (hs : s.size ≤ maxLen) (a : Int) : Calls Try.prog 15 #[.pointer (some ⟨p, 0, none⟩), .func (.func 16) #[] #[], .string s, .int .i64 a] w fun e w' => e = .returned (.bool (hasB (getR L s.data.toList) a)) ∧ w = w' := by
  obtain ⟨m, c0, hr⟩ := h.read hs
  go_enter Try.func15, Try.ntmps15
  go_wp2_with (go_at_call 16; refine (ro_has _ _ _).mono ?_; rintro e w' ⟨rfl, rfl⟩)
  go_ret
  exact ⟨rfl, rfl⟩
theorem ro_had_meets {w : World} {p : Nat} {L : RL} {F : List Nat} (h : RAt w p L F) (s : ByteArray) (hs : s.size ≤ maxLen) (a : Int) : Calls Try.prog 15 #[.pointer (some ⟨p, 0, none⟩), .func (.func 17) #[] #[], .string s, .int .i64 a] w fun e w' => e = .returned (.bool (meetsB (getR L s.data.toList) a)) ∧ w = w' := by
  obtain ⟨m, c0, hr⟩ := h.read hs
  go_enter Try.func15, Try.ntmps15
  go_wp2_with (go_at_call 17; refine (ro_meets _ _ _).mono ?_; rintro e w' ⟨rfl, rfl⟩)
  go_ret
  exact ⟨rfl, rfl⟩
def mayC (L : RL) (k : List UInt8) (a : Int) : Int := if asksB a then (if hasB (getR L k) a then 0 else 10) else 1
theorem ro_may {w : World} {p : Nat} {L : RL} {F : List Nat} (h : RAt w p L F) (s : ByteArray) (hs : s.size ≤ maxLen) (a : Int) : Calls Try.prog 8 #[.pointer (some ⟨p, 0, none⟩), .string s, .int .i64 a] w fun e w' => e = .returned (.int .i64 (mayC L s.data.toList a)) ∧ w = w' := by
  cases ha : asksB a with
  | false =>
    refine (ro_may_bad p s a ha w).mono ?_
    rintro e w' ⟨rfl, rfl⟩
    exact ⟨by unfold mayC; simp [ha], rfl⟩
  | true =>
    have hk := ro_asks a
    rw [ha] at hk
    have hh := ro_had_has h s hs a
    cases hb : hasB (getR L s.data.toList) a with
    | true =>
      have hfin : Hid (mayC L s.data.toList a = 0) := Lib.hid (by unfold mayC; simp [ha, hb])
      rw [hb] at hh
      clear ha hb
      go_enter Try.func8, Try.ntmps8
      go_wp2_with (first | (go_at_call 13; refine (hk _).mono ?_; rintro e w' ⟨rfl, rfl⟩) | (go_at_call 15; refine hh.mono ?_; rintro e w' ⟨rfl, rfl⟩))
      go_ret
      exact ⟨by rw [hfin.out]; rfl, rfl⟩
    | false =>
      have hfin : Hid (mayC L s.data.toList a = 10) := Lib.hid (by unfold mayC; simp [ha, hb])
      rw [hb] at hh
      clear ha hb
      go_enter Try.func8, Try.ntmps8
      go_wp2_with (first | (go_at_call 13; refine (hk _).mono ?_; rintro e w' ⟨rfl, rfl⟩) | (go_at_call 15; refine hh.mono ?_; rintro e w' ⟨rfl, rfl⟩))
      go_ret
      exact ⟨by rw [hfin.out]; rfl, rfl⟩
end Go.Proofs.Ytoimgacmbbkikaa
