/- Roles: Take. -/
import Derived.Test.YtoimgacmbbkikaaRoE
namespace Go.Proofs.Ytoimgacmbbkikaa
open Go.RowKit Go.Vx Go.Maps
set_option linter.unusedVariables false
set_option linter.unusedSimpArgs false

theorem meets0 (a : Int) : meetsB 0 a = false := by
  unfold meetsB bits
  simp
  decide
/-- What Take makes of it, where it goes. -/
def takeL (L : RL) (k : List UInt8) (a : Int) : RL :=
  if getR (putR L k (lessI (getR L k) a)) k == 0 then delR (putR L k (lessI (getR L k) a)) k else putR L k (lessI (getR L k) a)
/-- What Take tells. -/
def takeC (L : RL) (k : List UInt8) (a : Int) : Int :=
  if !meetsB (getR L k) a then 9 else if hasB a 8 && hasB (getR L k) 8 && ((adm L : Int) == 1) then 11 else 0
theorem ro_take_bad (p : Nat) (s : ByteArray) (hs : s.size ≤ maxLen) (a : Int) (ha : (userB s && asksB a) = false) (w : World) : Calls Try.prog 9 #[.pointer (some ⟨p, 0, none⟩), .string s, .int .i64 a] w fun e w' => e = .returned (.int .i64 1) ∧ w = w' := by
  have hv := ro_valid s hs
  have hk := ro_asks a
  cases hu : userB s with
  | false =>
    rw [hu] at hv
    clear ha hu
    go_enter Try.func9, Try.ntmps9
    go_wp2_with (go_at_call 12; refine (hv _).mono ?_; rintro e w' ⟨rfl, rfl⟩)
    go_ret
    exact ⟨rfl, rfl⟩
  | true =>
    rw [hu] at hv ha
    simp at ha
    rw [ha] at hk
    clear ha hu
    go_enter Try.func9, Try.ntmps9
    go_wp2_with (first | (go_at_call 12; refine (hv _).mono ?_; rintro e w' ⟨rfl, rfl⟩) | (go_at_call 13; refine (hk _).mono ?_; rintro e w' ⟨rfl, rfl⟩))
    go_ret
    exact ⟨rfl, rfl⟩
set_option maxHeartbeats 4000000 in
/-- Nothing is taken. -/
theorem ro_take_no {w : World} {p : Nat} {L : RL} {F : List Nat} (h : RAt w p L F) (hL : L.length < 100000) (s : ByteArray) (hs : s.size ≤ 1000000) (a : Int) (ha : (userB s && asksB a) = true) (hc : ¬ takeC L s.data.toList a = 0) :
    Calls Try.prog 9 #[.pointer (some ⟨p, 0, none⟩), .string s, .int .i64 a] w fun e w' => e = .returned (.int .i64 (takeC L s.data.toList a)) ∧ Chg [] w w' := by
  have hsm : s.size ≤ maxLen := by unfold maxLen; omega
  have hv := ro_valid s hsm
  have hk := ro_asks a
  obtain ⟨hu, hka⟩ : userB s = true ∧ asksB a = true := by simpa using ha
  rw [hu] at hv
  rw [hka] at hk
  clear ha hu hka
  have hmt := ro_had_meets h s hsm a
  obtain ⟨m, c0, hlk⟩ := h.read hsm
  cases hb : meetsB (getR L s.data.toList) a with
  | false =>
    have hfin : Hid (takeC L s.data.toList a = 9) := Lib.hid (by unfold takeC; simp [hb])
    rw [hb] at hmt
    clear hb hc
    go_enter Try.func9, Try.ntmps9
    go_wp2_with (first | (go_at_call 12; refine (hv _).mono ?_; rintro e w' ⟨rfl, rfl⟩) | (go_at_call 13; refine (hk _).mono ?_; rintro e w' ⟨rfl, rfl⟩) | (go_at_call 15; refine hmt.mono ?_; rintro e w' ⟨rfl, rfl⟩))
    go_ret
    exact ⟨by rw [hfin.out]; rfl, Chg.refl _ _⟩
  | true =>
    have h8 : hasB a 8 = true ∧ hasB (getR L s.data.toList) 8 = true ∧ ((adm L : Int) == 1) = true := by
      unfold takeC at hc
      rw [hb] at hc
      revert hc
      cases hasB a 8 <;> cases hasB (getR L s.data.toList) 8 <;> cases ((adm L : Int) == 1) <;> simp
    obtain ⟨h1, h2, h3⟩ := h8
    have hfin : Hid (takeC L s.data.toList a = 11) := Lib.hid (by unfold takeC; simp [hb, h1, h2, h3])
    have hh1 := ro_has a 8
    have hh2 := ro_has (getR L s.data.toList) 8
    rw [h1] at hh1
    rw [h2] at hh2
    rw [hb] at hmt
    rcases h with ⟨-, rfl, -⟩ | ⟨b, hbk, hm, rfl⟩
    · have : meetsB (getR [] s.data.toList) a = false := meets0 a
      rw [this] at hb
      cases hb
    have had := ro_admins hbk hm (by omega)
    clear hb hc h1 h2
    go_enter Try.func9, Try.ntmps9
    go_wp2_with (first | (go_at_call 12; refine (hv _).mono ?_; rintro e w' ⟨rfl, rfl⟩) | (go_at_call 13; refine (hk _).mono ?_; rintro e w' ⟨rfl, rfl⟩) | (go_at_call 15; refine hmt.mono ?_; rintro e w' ⟨rfl, rfl⟩) | (go_at_call 16; refine (hh1 _).mono ?_; rintro e w' ⟨rfl, rfl⟩) | (go_at_call 16; refine (hh2 _).mono ?_; rintro e w' ⟨rfl, rfl⟩) | (go_at_call 18; refine had.mono ?_; rintro e w1 ⟨rfl, hc1⟩))
    go_ret
    exact ⟨by rw [hfin.out]; rfl, hc1⟩
set_option maxHeartbeats 8000000 in
/-- Something is taken. -/
theorem ro_take {w : World} {p : Nat} {L : RL} {F : List Nat} (h : RAt w p L F) (hL : L.length < 100000) (s : ByteArray) (hs : s.size ≤ 1000000) (a : Int) (ha : (userB s && asksB a) = true) (hc : takeC L s.data.toList a = 0) (hw : (Lit.int .i64 (lessI (getR L s.data.toList) a)).wf = true) :
    Calls Try.prog 9 #[.pointer (some ⟨p, 0, none⟩), .string s, .int .i64 a] w fun e w' => e = .returned (.int .i64 0) ∧ RAt w' p (takeL L s.data.toList a) F ∧ Chg (p :: F) w w' := by
  have hsm : s.size ≤ maxLen := by unfold maxLen; omega
  have hv := ro_valid s hsm
  have hk := ro_asks a
  obtain ⟨hu, hka⟩ : userB s = true ∧ asksB a = true := by simpa using ha
  rw [hu] at hv
  rw [hka] at hk
  clear ha hu hka
  have hmt := ro_had_meets h s hsm a
  have hb : meetsB (getR L s.data.toList) a = true := by
    unfold takeC at hc
    revert hc
    cases meetsB (getR L s.data.toList) a <;> simp
  rcases h with ⟨-, rfl, -⟩ | ⟨b, hbk, hm, rfl⟩
  · have : meetsB (getR [] s.data.toList) a = false := meets0 a
    rw [this] at hb
    cases hb
  have hlk := hm.look hsm
  have c0 : w.cell? ⟨p, 0, none⟩ = some (.map (some b)) := hbk.cell 0
  have hpb : p ≠ b := by
    rintro rfl
    have h1 := hbk
    obtain ⟨es, clock, h2, -⟩ := hm
    unfold Blk at h1
    rw [h1] at h2
    injection h2 with h2
    cases h2
  rw [hb] at hmt
  have hhs := fun x => ro_has x 8
  have had := ro_admins hbk hm (by omega)
  have hless : bits BinOp.andNot IntKind.i64 (getR L s.data.toList) a = lessI (getR L s.data.toList) a := rfl
  have h8 : (hasB a 8 = false) ∨ (hasB a 8 = true ∧ hasB (getR L s.data.toList) 8 = false) ∨ (hasB a 8 = true ∧ hasB (getR L s.data.toList) 8 = true ∧ ((adm L : Int) == 1) = false) := by
    unfold takeC at hc
    rw [hb] at hc
    revert hc
    cases hasB a 8 <;> cases hasB (getR L s.data.toList) 8 <;> cases ((adm L : Int) == 1) <;> simp
  clear hb hc
  go_enter Try.func9, Try.ntmps9
  go_upto_block 0 with (first | (go_at_call 12; refine (hv _).mono ?_; rintro e w' ⟨rfl, rfl⟩) | (go_at_call 13; refine (hk _).mono ?_; rintro e w' ⟨rfl, rfl⟩))
  go_cut [7] (fun v wx => v = .int .i64 (getR L s.data.toList) ∧ Chg [] w wx)
  case first =>
    rcases h8 with h1 | ⟨h1, h2⟩ | ⟨h1, h2, h3⟩
    · have hh1 := hhs a
      rw [h1] at hh1
      clear h1
      go_wp2_with (first | (go_at_call 15; refine hmt.mono ?_; rintro e w' ⟨rfl, rfl⟩) | (go_at_call 16; refine (hh1 _).mono ?_; rintro e w' ⟨rfl, rfl⟩))
      go_meet
      exact ⟨rfl, Chg.refl _ _⟩
    · have hh1 := hhs a
      have hh2 := hhs (getR L s.data.toList)
      rw [h1] at hh1
      rw [h2] at hh2
      clear h1 h2
      go_wp2_with (first | (go_at_call 15; refine hmt.mono ?_; rintro e w' ⟨rfl, rfl⟩) | (go_at_call 16; refine (hh1 _).mono ?_; rintro e w' ⟨rfl, rfl⟩) | (go_at_call 16; refine (hh2 _).mono ?_; rintro e w' ⟨rfl, rfl⟩))
      go_meet
      exact ⟨rfl, Chg.refl _ _⟩
    · have hh1 := hhs a
      have hh2 := hhs (getR L s.data.toList)
      rw [h1] at hh1
      rw [h2] at hh2
      clear h1 h2
      go_wp2_with (first | (go_at_call 15; refine hmt.mono ?_; rintro e w' ⟨rfl, rfl⟩) | (go_at_call 16; refine (hh1 _).mono ?_; rintro e w' ⟨rfl, rfl⟩) | (go_at_call 16; refine (hh2 _).mono ?_; rintro e w' ⟨rfl, rfl⟩) | (go_at_call 18; refine had.mono ?_; rintro e w1 ⟨rfl, hc1⟩))
      go_meet
      exact ⟨rfl, hc1⟩
  case rest =>
    obtain ⟨rfl, hz⟩ := hcut
    have hb1 := hbk.chg hz (by simp)
    have hm1 := hm.chg hz (by simp)
    have c1 : wc.cell? ⟨p, 0, none⟩ = some (.map (some b)) := hb1.cell 0
    obtain ⟨w2, hr2, hm2, hc2⟩ := hm1.store hsm (by omega) hw
    have hb2 := hb1.chg hc2 (by simpa using hpb)
    have c2 : w2.cell? ⟨p, 0, none⟩ = some (.map (some b)) := hb2.cell 0
    have hl2 := hm2.look hsm
    have hz2 : Chg (p :: [b]) w w2 := (hz.mono (by simp)).trans' (hc2.mono (by simp))
    cases he : (getR (putR L s.data.toList (lessI (getR L s.data.toList) a)) s.data.toList == 0) with
    | true =>
      obtain ⟨w3, hr3, hm3, hc3⟩ := hm2.drop hsm 0
      have hfin : Hid (takeL L s.data.toList a = delR (putR L s.data.toList (lessI (getR L s.data.toList) a)) s.data.toList) := Lib.hid (by unfold takeL; rw [he]; rfl)
      go_wp2_with fail
      go_ret
      exact ⟨rfl, .inr ⟨b, hb2.chg hc3 (by simpa using hpb), by rw [hfin.out]; exact hm3, rfl⟩, hz2.trans' (hc3.mono (by simp))⟩
    | false =>
      have hfin : Hid (takeL L s.data.toList a = putR L s.data.toList (lessI (getR L s.data.toList) a)) := Lib.hid (by unfold takeL; rw [he]; rfl)
      go_wp2_with fail
      go_ret
      exact ⟨rfl, .inr ⟨b, hb2, by rw [hfin.out]; exact hm2, rfl⟩, hz2⟩
end Go.Proofs.Ytoimgacmbbkikaa
