/- TermTexts: the walk. -/
import Derived.Test.YtpiaijnjglhggaaDoorTmU
import Derived.Test.YtpiaijnjglhggaaDoorTmL
namespace Go.Proofs.YtpiaijnjglhggaaDoor
open Go.RowKit Go.Vx
set_option linter.unusedVariables false
set_option linter.unusedSimpArgs false

theorem text_inj {a b : Nat} (ha : a ≤ 1199) (hb : b ≤ 1199) (h : textC a = textC b) : a = b := by
  obtain ⟨h1, h2, h3, -⟩ := parse_text a ha (textC a) rfl
  obtain ⟨k1, k2, k3, -⟩ := parse_text b hb (textC a) h.symm
  rw [h1] at k1
  injection k1 with e1 e2
  injection e2 with e2 e3
  rw [e1] at h2
  rw [e2] at h3
  rw [h2] at k2
  rw [h3] at k3
  injection k2 with k2
  injection k3 with k3
  omega
/-- What the two say of one text. -/
def Pair (r q e : Int) : Prop := (r = -1 ∧ q = 0 ∧ e = 15) ∨ (0 ≤ r ∧ r ≤ 1199 ∧ e = 0 ∧ q = r)
theorem pair_of {s : ByteArray} {r q e : Int} (h1 : ReadIs s r) (h2 : ParseIs s q e) : Pair r q e := by
  rcases h1 with ⟨rfl, h1⟩ | ⟨r0, r1, h1⟩ <;> rcases h2 with ⟨rfl, rfl, h2⟩ | ⟨rfl, q0, q1, h2⟩
  · exact .inl ⟨rfl, rfl, rfl⟩
  · obtain ⟨n, rfl⟩ := Int.eq_ofNat_of_zero_le q0
    exact absurd h2 (h1 n (by omega))
  · obtain ⟨n, rfl⟩ := Int.eq_ofNat_of_zero_le r0
    exact absurd h1 (h2 n (by omega))
  · obtain ⟨n, rfl⟩ := Int.eq_ofNat_of_zero_le r0
    obtain ⟨m, rfl⟩ := Int.eq_ofNat_of_zero_le q0
    have := text_inj (show m ≤ 1199 by omega) (show n ≤ 1199 by omega) (h2.trans h1.symm)
    exact .inr ⟨r0, r1, rfl, by omega⟩
/-- A month's text parses to it, no month's to none. -/
theorem back_of {p u f : Int} (h : ParseIs (textC p) u f) : (okM p = true ∧ f = 0 ∧ u = p) ∨ (okM p = false ∧ f = 15 ∧ u = 0) := by
  cases hp : okM p with
  | true =>
    obtain ⟨h0, h1⟩ := okM_of hp
    obtain ⟨n, rfl⟩ := Int.eq_ofNat_of_zero_le h0
    rcases h with ⟨-, -, h⟩ | ⟨rfl, u0, u1, h⟩
    · exact absurd rfl (h n (by omega))
    · obtain ⟨m, rfl⟩ := Int.eq_ofNat_of_zero_le u0
      have := text_inj (show m ≤ 1199 by omega) (show n ≤ 1199 by omega) h
      exact .inl ⟨rfl, rfl, by omega⟩
  | false =>
    have he : textC p = ⟨#[]⟩ := by simp [textC, hp]
    rcases h with ⟨rfl, rfl, -⟩ | ⟨rfl, u0, u1, h⟩
    · exact .inr ⟨rfl, rfl, rfl⟩
    · have := text_size u u0 u1
      rw [h, he] at this
      cases this
def Cell0 (w : World) : Prop := ∃ m, w.cell? ⟨0, 0, none⟩ = some (.int .i64 m)
theorem Cell0.chg {w w' : World} (h : Cell0 w) (k : Chg [] w w') : Cell0 w' := by
  obtain ⟨m, h⟩ := h
  exact ⟨m, (k.cell (World.block_lt_of_cell? w _ h) (by simp)).trans h⟩
theorem tm_text_size (p : Int) : (textC p).size ≤ 1000 := by
  cases hp : okM p with
  | true => obtain ⟨h0, h1⟩ := okM_of hp; rw [text_size p h0 h1]; omega
  | false => simp [textC, hp]; decide
set_option maxRecDepth 8000 in
set_option maxHeartbeats 4000000 in
theorem termTexts_far {w : World} (ht : Tab w) (p : Int) (s : ByteArray) (hs : 40 < s.size) (hs2 : s.size ≤ 140737488351232) :
    Calls Tryd.prog 6 #[.int .i64 p, .string s] w fun e w' => e = .returned (.bool true) ∧ Chg [] w w' := by
  have ha := tm_alive ht
  have b1 : decide ((40 : Int) < s.size) = true := by simp; omega
  go_enter Tryd.func6, Tryd.ntmps6
  go_wp2_with fail
  refine ha.mono ?_
  rintro e w1 ⟨rfl, hc1⟩
  dsimp only
  go_wp2_with fail
  go_ret
  exact ⟨by trivial, hc1⟩
set_option maxRecDepth 8000 in
set_option maxHeartbeats 8000000 in
theorem termTexts_near {w : World} (ht : Tab w) (he : Errs w) (hm : Cell0 w) (p : Int) (s : ByteArray) (hs : s.size ≤ 40) :
    Calls Tryd.prog 6 #[.int .i64 p, .string s] w fun e w' => e = .returned (.bool true) ∧ Chg [] w w' := by
  have ha := tm_alive ht
  have b1 : decide ((40 : Int) < s.size) = false := by simp; omega
  have hte := fun w (h : Tab w) => tm_text h p
  have hpa := fun w (h : Tab w) (h2 : Errs w) (h3 : Cell0 w) => tm_parse h h2 h3.choose_spec s (by omega)
  have hre := fun w => r1_readMonth s (by omega) w
  have hpb := fun w (h : Tab w) (h2 : Errs w) (h3 : Cell0 w) => tm_parse h h2 h3.choose_spec (textC p) (tm_text_size p)
  have hmo := r1_month p
  have hva := r1_valid p
  have hbk := fun u f => back_of (p := p) (u := u) (f := f)
  generalize textC p = T at *
  generalize hok : okM p = ok at *
  replace hok := Lib.hid hok
  replace hbk := Lib.hid hbk
  go_enter Tryd.func6, Tryd.ntmps6
  go_wp2_with fail
  refine ha.mono ?_
  rintro e w1 ⟨rfl, hc1⟩
  dsimp only
  go_wp2_with fail
  refine (hte _ (ht.chg hc1)).mono ?_
  rintro e w2 ⟨rfl, hc2⟩
  have hz2 := hc1.trans' hc2
  clear hc1 hc2
  dsimp only
  go_wp2_with fail
  refine (hpa _ (ht.chg hz2) (he.chg hz2) (hm.chg hz2)).mono ?_
  rintro e w3 ⟨q, f, rfl, hp3, hc3⟩
  have hz3 := hz2.trans' hc3
  clear hz2 hc3
  dsimp only
  go_wp2_with fail
  refine (hre _).mono ?_
  rintro e w4 ⟨r, rfl, hp4, hc4⟩
  have hz4 := hz3.trans' hc4
  clear hz3 hc4
  dsimp only
  rcases pair_of hp4 hp3 with ⟨rfl, rfl, rfl⟩ | ⟨r0, r1, rfl, rfl⟩
  all_goals
    clear hp3 hp4
    go_wp2_with fail
    refine (hpb _ (ht.chg hz4) (he.chg hz4) (hm.chg hz4)).mono ?_
    rintro e w5 ⟨u, f2, rfl, hp5, hc5⟩
    have hz5 := hz4.trans' hc5
    have hb := hbk.out u f2 hp5
    clear hp5 hc5 hz4
    dsimp only
    rcases hb with ⟨rfl, rfl, rfl⟩ | ⟨rfl, rfl, rfl⟩
    all_goals
      go_wp2_with fail
      refine (hmo _).mono ?_
      rintro e w6 ⟨rfl, hc6⟩
      have hz6 := hz5.trans' hc6
      clear hc6 hz5
      dsimp only
      go_wp2_with fail
      refine (hva _).mono ?_
      rintro e w7 ⟨rfl, rfl⟩
      dsimp only
      go_wp2_with fail
      go_ret
      exact ⟨by trivial, hz6⟩
end Go.Proofs.YtpiaijnjglhggaaDoor
