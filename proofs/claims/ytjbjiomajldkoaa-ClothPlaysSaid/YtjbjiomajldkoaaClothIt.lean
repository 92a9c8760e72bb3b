/- Is: a cloth and the reference's are the same. -/
import Derived.Test.YtjbjiomajldkoaaClothIs
namespace Go.Proofs.Ytjbjiomajldkoaa
open Go.RowKit Go.Vx
set_option linter.unusedVariables false
set_option linter.unusedSimpArgs false
theorem quiet_same {P : Program} {f : FuncId} {args : Array Value} {w : World} {n : Nat} {v : Value}
    (h : Calls P f args (w.drewN n) fun e w' => e = .returned v ∧ w.drewN n = w') : Calls P f args (w.drewN n) fun e w'' => e = .returned v ∧ ∃ m, w'' = w.drewN m :=
  h.mono fun _ _ ⟨he, hm⟩ => ⟨he, n, hm.symm⟩
theorem ClothAt.drewN {w : World} {p : Nat} {pr lo ke : Value} {c : ClothS} {F G H : List Nat} (h : ClothAt w p pr lo ke c F G H) (n : Nat) : ClothAt (w.drewN n) p pr lo ke c F G H :=
  h.chg (S := []) ((Chg.refl _ _).drewN n) (by simp)
set_option maxHeartbeats 400000 in
theorem is_at {w : World} {p q : Nat} {pr lo ke now last lo2 ke2 : Value} {c : ClothS} {F G H Fn Fl G2 H2 : List Nat} {n : Int} {kl : List Bool} (h : ClothAt w p pr lo ke c F G H) (r : RefAt w q now last lo2 ke2 c n kl Fn Fl G2 H2)
    (hl : c.loose.length ≤ 1000000) (hok : RowsOk c.pressed.length c.loose) :
    Calls Try.prog 19 #[.pointer (some ⟨p, 0, none⟩), .pointer (some ⟨q, 0, none⟩)] w fun e w' => e = .returned (.bool true) ∧ Chg [] w w' := by
  obtain ⟨N0, nc, rfl, -, hn1, hn2, -⟩ := id r.hn
  obtain ⟨L2, lc2, rfl, -, hl1, hl2, -⟩ := id r.hlo
  unfold maxLen at hn2 hl2
  have d0 : w.cell? ⟨q, 0, none⟩ = some (.slice N0 c.pressed.length nc) := r.blk.cell 0
  have d2 : w.cell? ⟨q, 2, none⟩ = some (.slice L2 c.loose.length lc2) := r.blk.cell 2
  have d3 : w.cell? ⟨q, 3, none⟩ = some (.bool c.torn) := r.blk.cell 3
  have hb : ((!c.torn) == c.torn) = false := by cases c.torn <;> rfl
  go_enter Try.func19, Try.ntmps19
  go_wp2_with fail
  go_quiet (first | (go_at_call 17; exact quiet_same (on_at (h.drewN _))) | (go_at_call 22; exact quiet_same (rows_at (h.drewN _))) | (go_at_call 12; exact quiet_same (loose_at (h.drewN _))))
  have h' := h.drewN nq
  have r' := r.chg (S := []) ((Chg.refl _ w).drewN nq) (by simp)
  have hw' : Chg [] w (w.drewN nq) := (Chg.refl _ w).drewN nq
  clear h r d0 d2 d3
  generalize w.drewN nq = w1 at h' r' hw' ⊢
  go_wp2_with fail
  go_loopw [5] (fun i wr => ∃ k : Int, -1 ≤ k ∧ k ≤ 60 ∧ k ≤ c.pressed.length + 1 ∧ i = .int .i64 k ∧ Chg [] w1 wr) (fun i _ => (60 - intOf i).toNat)
  case atStart => exact ⟨-1, by omega, by omega, by omega, rfl, Chg.refl _ _⟩
  case round =>
    obtain ⟨k, k1, k2, k3, rfl, hw⟩ := hrel
    have hc := h'.chg hw (by simp)
    have rc := r'.chg hw (by simp)
    have d0 : wr.cell? ⟨q, 0, none⟩ = some (.slice N0 c.pressed.length nc) := rc.blk.cell 0
    by_cases hk : k ≤ c.pressed.length
    · by_cases hk2 : k < 60
      · by_cases hm : c.may k = 0
        · obtain ⟨m0, m1, m2⟩ := may_zero hm
          clear m0
          have hkk : ((k.toNat : Nat) : Int) = k := by omega
          have ht := text_press hok k.toNat (by omega)
          have rd := read_at hc k.toNat (by rw [hkk]; exact hm) hl
          rw [hkk] at rd
          go_wp2_with fail
          refine rd.mono ?_
          rintro e w2 ⟨rfl, hw2⟩
          have rr := rread_ok (rc.chg hw2 (by simp)) k.toNat (by rw [hkk]; exact hm)
          rw [← ht, hkk] at rr
          generalize c.text k.toNat = s at rr ⊢
          clear hkk ht rd
          go_wp2_with fail
          refine rr.mono ?_
          rintro e w' ⟨rfl, rfl⟩
          go_wp2_with fail
          go_roundw
          case measure => simp [intOf]; omega
          case rel => exact ⟨k + 1, by omega, by omega, by omega, by go_num, hw.trans hw2 (by simp)⟩
        · have hne : (c.may k != c.may k) = false := by simp
          go_wp2_with fail
          refine (read_may hc k hm).mono ?_
          rintro e w2 ⟨rfl, hw2⟩
          have rr := rread_bad (rc.chg hw2 (by simp)) k hm
          generalize c.may k = s at rr hne ⊢
          go_wp2_with fail
          refine rr.mono ?_
          rintro e w' ⟨rfl, rfl⟩
          go_wp2_with fail
          go_roundw
          case measure => simp [intOf]; omega
          case rel => exact ⟨k + 1, by omega, by omega, by omega, by go_num, hw.trans hw2 (by simp)⟩
      · go_wp2_with fail
        go_ret
        exact ⟨rfl, hw'.trans hw (by simp)⟩
    · go_wp2_with fail
      go_ret
      exact ⟨rfl, hw'.trans hw (by simp)⟩
end Go.Proofs.Ytjbjiomajldkoaa
