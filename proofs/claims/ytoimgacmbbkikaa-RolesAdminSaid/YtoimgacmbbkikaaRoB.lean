/- Roles: small functions. -/
import Derived.Test.YtoimgacmbbkikaaRoA
namespace Go.Proofs.Ytoimgacmbbkikaa
open Go.RowKit Go.Vx Go.Maps
set_option linter.unusedVariables false
set_option linter.unusedSimpArgs false

def hasB (s o : Int) : Bool := bits BinOp.and IntKind.i64 s o == o
def meetsB (s o : Int) : Bool := bits BinOp.and IntKind.i64 s o != 0
def asksB (a : Int) : Bool := decide (1 ≤ a) && decide (a ≤ 15)
def okc (c : UInt8) : Bool := decide (97 ≤ c.toNat) && decide (c.toNat ≤ 122)
def userB (s : ByteArray) : Bool := s.data.toList.all okc && (decide (1 ≤ s.size) && decide (s.size ≤ 12))
theorem ro_has (s o : Int) (w : World) : Calls Try.prog 16 #[.int .i64 s, .int .i64 o] w fun e w' => e = .returned (.bool (hasB s o)) ∧ w = w' := by
  go_enter Try.func16, Try.ntmps16
  go_wp2
  go_ret
  exact ⟨rfl, rfl⟩
theorem ro_meets (s o : Int) (w : World) : Calls Try.prog 17 #[.int .i64 s, .int .i64 o] w fun e w' => e = .returned (.bool (meetsB s o)) ∧ w = w' := by
  go_enter Try.func17, Try.ntmps17
  go_wp2
  go_ret
  exact ⟨rfl, rfl⟩
theorem ret_bool {a b : Bool} (h : a = b) : Ending.returned (Value.bool a) = .returned (.bool b) := by rw [h]
theorem ro_asks (a : Int) (w : World) : Calls Try.prog 13 #[.int .i64 a] w fun e w' => e = .returned (.bool (asksB a)) ∧ w = w' := by
  have h1 : 1 ≤ a → Hid (decide (a ≤ 15) = asksB a) := fun h => Lib.hid (by unfold asksB; simp [h])
  have h2 : a < 1 → Hid (false = asksB a) := fun h => Lib.hid (by unfold asksB; simp; omega)
  go_enter Try.func13, Try.ntmps13
  go_wp2
  · go_ret
    exact ⟨ret_bool (h1 (by omega)).out, rfl⟩
  · go_ret
    exact ⟨ret_bool (h2 (by omega)).out, rfl⟩
theorem user_bad {s : ByteArray} {k : Nat} (hk : k < s.size) (h : okc s[k] = false) : userB s = false := by
  unfold userB
  have : s.data.toList.all okc = false := by
    rw [List.all_eq_false]
    exact ⟨s[k], Array.mem_toList_iff.2 (Array.getElem_mem _), by simp [h]⟩
  rw [this]
  rfl
theorem user_good {s : ByteArray} (h : ∀ k (hk : k < s.size), okc s[k] = true) : userB s = (decide (1 ≤ s.size) && decide (s.size ≤ 12)) := by
  unfold userB
  have : s.data.toList.all okc = true := by
    rw [List.all_eq_true]
    intro x hx
    obtain ⟨k, hk, rfl⟩ := List.getElem_of_mem hx
    exact h k (by simpa using hk)
  rw [this]
  rfl
theorem okc_cases (c : UInt8) : (okc c = true ∧ decide ((c.toNat : Int) < 97) = false ∧ decide (122 < (c.toNat : Int)) = false) ∨ (okc c = false ∧ decide ((c.toNat : Int) < 97) = true) ∨ (okc c = false ∧ decide ((c.toNat : Int) < 97) = false ∧ decide (122 < (c.toNat : Int)) = true) := by
  unfold okc
  simp only [decide_eq_true_eq, decide_eq_false_iff_not, Bool.and_eq_true, Bool.and_eq_false_iff]
  omega
set_option maxHeartbeats 1000000 in
theorem ro_valid (s : ByteArray) (hs : s.size ≤ maxLen) (w : World) : Calls Try.prog 12 #[.string s] w fun e w' => e = .returned (.bool (userB s)) ∧ w = w' := by
  unfold maxLen at hs
  go_enter Try.func12, Try.ntmps12
  go_wp2
  go_loop [6] (fun iv => ∃ k : Nat, k ≤ s.size ∧ iv = .int .i64 k ∧ ∀ j (hj : j < s.size), j < k → okc s[j] = true) (fun iv => s.size - (intOf iv).toNat)
  case atStart => exact ⟨0, by omega, rfl, fun j _ h => by omega⟩
  case round =>
    obtain ⟨k, hk, rfl, hj⟩ := hrel
    by_cases hlt : k < s.size
    · have hj2 : okc s[k] = true → ∀ j (hj : j < s.size), j < k + 1 → okc s[j] = true := fun h j hj1 hj2 => by
        rcases Nat.lt_or_ge j k with h2 | h2
        · exact hj j hj1 h2
        · obtain rfl : j = k := by omega
          exact h
      have hbad : okc s[k] = false → Hid (false = userB s) := fun h => Lib.hid (user_bad hlt h).symm
      clear hj
      rcases okc_cases s[k] with ⟨h0, h1, h2⟩ | ⟨h0, h1⟩ | ⟨h0, h1, h2⟩
      · have hj3 := Lib.hid (hj2 h0)
        clear hj2 hbad h0
        go_wp2
        go_round
        case rel => exact ⟨k + 1, by omega, by go_num, hj3.out⟩
        case measure => simp [intOf]; omega
      · have hb := hbad h0
        clear hj2 hbad h0
        go_wp2
        go_ret
        exact ⟨ret_bool hb.out, rfl⟩
      · have hb := hbad h0
        clear hj2 hbad h0
        go_wp2
        go_ret
        exact ⟨ret_bool hb.out, rfl⟩
    · obtain rfl : k = s.size := by omega
      have hg := Lib.hid (user_good fun j h => hj j h h)
      clear hj
      by_cases h1 : 1 ≤ s.size
      · have hb : Hid (decide ((s.size : Int) ≤ 12) = userB s) := Lib.hid (by rw [hg.out]; simp [h1]; omega)
        go_wp2
        go_ret
        exact ⟨ret_bool hb.out, rfl⟩
      · have hb : Hid (false = userB s) := Lib.hid (by rw [hg.out]; simp [h1])
        go_wp2
        go_ret
        exact ⟨ret_bool hb.out, rfl⟩
end Go.Proofs.Ytoimgacmbbkikaa
