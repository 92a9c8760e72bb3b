/- Marks: Make, Move, Drop, At. -/
import Derived.Test.YtggkeageoljegaaMkD
namespace Go.Proofs.Ytggkeageoljegaa
open Go.RowKit Go.Vx Go.Maps
set_option linter.unusedVariables false
set_option linter.unusedSimpArgs false

/-- What Make tells. -/
def makeC (L : RL) (k : List UInt8) (v : Int) : Int :=
  if !markB k then 1 else if decide (v < 1) then 1 else if hasR L k then 7 else if decide (12 ≤ (L.length : Int)) then 13 else 0
def moveC (L : RL) (k : List UInt8) (a b : Int) : Int :=
  if !hasR L k then 9 else if decide (b < 1) then 1 else if getR L k != a then 16 else 0
def dropC (L : RL) (k : List UInt8) : Int :=
  if !hasR L k then 9 else if k == [97, 99, 116, 117, 97, 108, 115] then 1 else 0
set_option maxHeartbeats 2000000 in
theorem mk_make_no {w : World} {p : Nat} {L : RL} {F : List Nat} (h : RAt w p L F) (hL : L.length < 100000) (s : ByteArray) (hs : s.size ≤ 1000000) (v : Int) (hc : makeC L s.data.toList v ≠ 0) :
    Calls Try.prog 5 #[.pointer (some ⟨p, 0, none⟩), .string s, .int .i64 v] w fun e w' => e = .returned (.int .i64 (makeC L s.data.toList v)) ∧ w = w' := by
  have hsm : s.size ≤ maxLen := by unfold maxLen; omega
  have hv := mk_valid s hsm
  obtain ⟨m, c0, hlk, hln⟩ := h.read2 hsm 3
  cases h1 : markB s.data.toList with
  | false =>
    have hfin : Hid (makeC L s.data.toList v = 1) := Lib.hid (by unfold makeC; simp [h1])
    rw [h1] at hv
    clear hc h1
    go_enter Try.func5, Try.ntmps5
    go_wp2_with (go_at_call 10; refine (hv _).mono ?_; rintro e w' ⟨rfl, rfl⟩)
    go_ret
    exact ⟨by rw [hfin.out]; rfl, rfl⟩
  | true =>
    rw [h1] at hv
    cases h2 : decide (v < 1) with
    | true =>
      have hfin : Hid (makeC L s.data.toList v = 1) := Lib.hid (by unfold makeC; simp [h1, h2])
      clear hc h1
      go_enter Try.func5, Try.ntmps5
      go_wp2_with (go_at_call 10; refine (hv _).mono ?_; rintro e w' ⟨rfl, rfl⟩)
      go_ret
      exact ⟨by rw [hfin.out]; rfl, rfl⟩
    | false =>
      cases h3 : hasR L s.data.toList with
      | true =>
        have hfin : Hid (makeC L s.data.toList v = 7) := Lib.hid (by unfold makeC; simp only [h1, h2, h3]; rfl)
        rw [h3] at hlk
        clear hc h1 h3
        go_enter Try.func5, Try.ntmps5
        go_wp2_with (go_at_call 10; refine (hv _).mono ?_; rintro e w' ⟨rfl, rfl⟩)
        go_ret
        exact ⟨by rw [hfin.out]; rfl, rfl⟩
      | false =>
        have h4 : decide (12 ≤ (L.length : Int)) = true := by
          unfold makeC at hc
          simp only [h1, h2, h3] at hc
          revert hc
          cases decide (12 ≤ (L.length : Int)) <;> simp
        have hfin : Hid (makeC L s.data.toList v = 13) := Lib.hid (by unfold makeC; simp only [h1, h2, h3, h4]; rfl)
        rw [h3] at hlk
        clear hc h1 h3
        go_enter Try.func5, Try.ntmps5
        go_wp2_with (go_at_call 10; refine (hv _).mono ?_; rintro e w' ⟨rfl, rfl⟩)
        go_ret
        exact ⟨by rw [hfin.out]; rfl, rfl⟩
set_option maxHeartbeats 2000000 in
theorem mk_make {w : World} {p : Nat} {L : RL} {F : List Nat} (h : RAt w p L F) (hL : L.length < 100000) (s : ByteArray) (hs : s.size ≤ 1000000) (v : Int) (hc : makeC L s.data.toList v = 0) (hw : (Lit.int .i64 v).wf = true) :
    Calls Try.prog 5 #[.pointer (some ⟨p, 0, none⟩), .string s, .int .i64 v] w fun e w' => e = .returned (.int .i64 0) ∧ ∃ F', RAt w' p (putR L s.data.toList v) F' ∧ (∀ g, g ∈ F' → g ∈ F ∨ w.heap.size ≤ g) ∧ Chg (p :: F) w w' := by
  have hsm : s.size ≤ maxLen := by unfold maxLen; omega
  have hv := mk_valid s hsm
  obtain ⟨m, c0, hlk, hln⟩ := h.read2 hsm 3
  have hput := mk_put h hL s hs v hw
  have hx : markB s.data.toList = true ∧ decide (v < 1) = false ∧ hasR L s.data.toList = false ∧ decide (12 ≤ (L.length : Int)) = false := by
    unfold makeC at hc
    revert hc
    cases markB s.data.toList <;> cases decide (v < 1) <;> cases hasR L s.data.toList <;> cases decide (12 ≤ (L.length : Int)) <;> simp
  obtain ⟨h1, h2, h3, h4⟩ := hx
  rw [h1] at hv
  rw [h3] at hlk
  clear hc h1 h3
  go_enter Try.func5, Try.ntmps5
  go_wp2_with (first | (go_at_call 10; refine (hv _).mono ?_; rintro e w' ⟨rfl, rfl⟩) | (go_at_call 11; refine hput.mono ?_; rintro e w1 ⟨rfl, F1, hr1, hF1, hc1⟩))
  go_ret
  exact ⟨rfl, F1, hr1, hF1, hc1⟩
theorem mk_at {w : World} {p : Nat} {L : RL} {F : List Nat} (h : RAt w p L F) (s : ByteArray) (hs : s.size ≤ maxLen) : Calls Try.prog 9 #[.pointer (some ⟨p, 0, none⟩), .string s] w fun e w' => e = .returned (.tuple #[.int .i64 (getR L s.data.toList), .bool (hasR L s.data.toList)]) ∧ w = w' := by
  obtain ⟨m, c0, hlk, hln⟩ := h.read2 hs 3
  go_enter Try.func9, Try.ntmps9
  go_wp2
  go_ret2
  exact ⟨rfl, rfl⟩
set_option maxHeartbeats 2000000 in
theorem mk_move_no {w : World} {p : Nat} {L : RL} {F : List Nat} (h : RAt w p L F) (s : ByteArray) (hs : s.size ≤ 1000000) (a b : Int) (hc : moveC L s.data.toList a b ≠ 0) :
    Calls Try.prog 8 #[.pointer (some ⟨p, 0, none⟩), .string s, .int .i64 a, .int .i64 b] w fun e w' => e = .returned (.int .i64 (moveC L s.data.toList a b)) ∧ w = w' := by
  have hsm : s.size ≤ maxLen := by unfold maxLen; omega
  obtain ⟨m, c0, hlk, hln⟩ := h.read2 hsm 3
  cases h3 : hasR L s.data.toList with
  | false =>
    have hfin : Hid (moveC L s.data.toList a b = 9) := Lib.hid (by unfold moveC; simp [h3])
    rw [h3] at hlk
    clear hc h3
    go_enter Try.func8, Try.ntmps8
    go_wp2
    go_ret
    exact ⟨by rw [hfin.out]; rfl, rfl⟩
  | true =>
    rw [h3] at hlk
    cases h2 : decide (b < 1) with
    | true =>
      have hfin : Hid (moveC L s.data.toList a b = 1) := Lib.hid (by unfold moveC; simp [h3, h2])
      clear hc h3
      go_enter Try.func8, Try.ntmps8
      go_wp2
      go_ret
      exact ⟨by rw [hfin.out]; rfl, rfl⟩
    | false =>
      have h4 : (getR L s.data.toList != a) = true := by
        unfold moveC at hc
        simp only [h3, h2] at hc
        revert hc
        cases (getR L s.data.toList != a) <;> simp
      have hfin : Hid (moveC L s.data.toList a b = 16) := Lib.hid (by unfold moveC; simp only [h3, h2, h4]; rfl)
      clear hc h3
      go_enter Try.func8, Try.ntmps8
      go_wp2
      go_ret
      exact ⟨by rw [hfin.out]; rfl, rfl⟩
set_option maxHeartbeats 2000000 in
theorem mk_move {w : World} {p : Nat} {L : RL} {F : List Nat} (h : RAt w p L F) (hL : L.length < 100000) (s : ByteArray) (hs : s.size ≤ 1000000) (a b : Int) (hc : moveC L s.data.toList a b = 0) (hw : (Lit.int .i64 b).wf = true) :
    Calls Try.prog 8 #[.pointer (some ⟨p, 0, none⟩), .string s, .int .i64 a, .int .i64 b] w fun e w' => e = .returned (.int .i64 0) ∧ ∃ F', RAt w' p (putR L s.data.toList b) F' ∧ (∀ g, g ∈ F' → g ∈ F ∨ w.heap.size ≤ g) ∧ Chg (p :: F) w w' := by
  have hsm : s.size ≤ maxLen := by unfold maxLen; omega
  obtain ⟨m, c0, hlk, hln⟩ := h.read2 hsm 3
  have hput := mk_put h hL s hs b hw
  have hx : hasR L s.data.toList = true ∧ decide (b < 1) = false ∧ (getR L s.data.toList != a) = false := by
    unfold moveC at hc
    revert hc
    cases hasR L s.data.toList <;> cases decide (b < 1) <;> cases (getR L s.data.toList != a) <;> simp
  obtain ⟨h1, h2, h3⟩ := hx
  rw [h1] at hlk
  clear hc h1
  go_enter Try.func8, Try.ntmps8
  go_wp2_with (go_at_call 11; refine hput.mono ?_; rintro e w1 ⟨rfl, F1, hr1, hF1, hc1⟩)
  go_ret
  exact ⟨rfl, F1, hr1, hF1, hc1⟩
theorem bytes_act {s : ByteArray} : (s.toList == [97, 99, 116, 117, 97, 108, 115]) = (s.data.toList == [97, 99, 116, 117, 97, 108, 115]) := by rw [ByteArray.toList_eq]
set_option maxHeartbeats 2000000 in
theorem mk_drop_no {w : World} {p : Nat} {L : RL} {F : List Nat} (h : RAt w p L F) (s : ByteArray) (hs : s.size ≤ 1000000) (hc : dropC L s.data.toList ≠ 0) :
    Calls Try.prog 7 #[.pointer (some ⟨p, 0, none⟩), .string s] w fun e w' => e = .returned (.int .i64 (dropC L s.data.toList)) ∧ w = w' := by
  have hsm : s.size ≤ maxLen := by unfold maxLen; omega
  obtain ⟨m, c0, hlk, hln⟩ := h.read2 hsm 3
  cases h3 : hasR L s.data.toList with
  | false =>
    have hfin : Hid (dropC L s.data.toList = 9) := Lib.hid (by unfold dropC; simp [h3])
    rw [h3] at hlk
    clear hc h3
    go_enter Try.func7, Try.ntmps7
    go_wp2
    go_ret
    exact ⟨by rw [hfin.out]; rfl, rfl⟩
  | true =>
    rw [h3] at hlk
    have h4 : (s.data.toList == [97, 99, 116, 117, 97, 108, 115]) = true := by
      unfold dropC at hc
      simp only [h3] at hc
      revert hc
      cases (s.data.toList == [97, 99, 116, 117, 97, 108, 115]) <;> simp
    have hfin : Hid (dropC L s.data.toList = 1) := Lib.hid (by unfold dropC; simp only [h3, h4]; rfl)
    have h5 := bytes_act (s := s)
    rw [h4] at h5
    clear hc h3 h4
    go_enter Try.func7, Try.ntmps7
    go_wp2
    go_ret
    exact ⟨by rw [hfin.out]; rfl, rfl⟩
set_option maxHeartbeats 2000000 in
theorem mk_drop {w : World} {p : Nat} {L : RL} {F : List Nat} (h : RAt w p L F) (s : ByteArray) (hs : s.size ≤ 1000000) (hc : dropC L s.data.toList = 0) :
    Calls Try.prog 7 #[.pointer (some ⟨p, 0, none⟩), .string s] w fun e w' => e = .returned (.int .i64 0) ∧ RAt w' p (delR L s.data.toList) F ∧ Chg (p :: F) w w' := by
  have hsm : s.size ≤ maxLen := by unfold maxLen; omega
  have hx : hasR L s.data.toList = true ∧ (s.data.toList == [97, 99, 116, 117, 97, 108, 115]) = false := by
    unfold dropC at hc
    revert hc
    cases hasR L s.data.toList <;> cases (s.data.toList == [97, 99, 116, 117, 97, 108, 115]) <;> simp
  obtain ⟨h1, h2⟩ := hx
  have h5 := bytes_act (s := s)
  rw [h2] at h5
  rcases h with ⟨-, rfl, -⟩ | ⟨b, hb, hm, rfl⟩
  · simp [hasR] at h1
  have c0 : w.cell? ⟨p, 0, none⟩ = some (.map (some b)) := hb.cell 0
  have hlk := hm.look2 hsm
  have hpb : p ≠ b := by
    rintro rfl
    have h1 := hb
    obtain ⟨es, clock, h2, -⟩ := hm
    unfold Blk at h1
    rw [h1] at h2
    injection h2 with h2
    cases h2
  rw [h1] at hlk
  obtain ⟨w2, hr2, hm2, hc2⟩ := hm.drop hsm 0
  clear hc h1 h2
  go_enter Try.func7, Try.ntmps7
  go_wp2
  go_ret
  exact ⟨rfl, .inr ⟨b, hb.chg hc2 (by simpa using hpb), hm2, rfl⟩, hc2.mono (by simp)⟩
end Go.Proofs.Ytggkeageoljegaa
