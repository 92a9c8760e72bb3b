/- Journals: Fit. -/
import Derived.Test.YtlgfmphjgijilaaJrI
namespace Go.Proofs.Ytlgfmphjgijilaa
open Go.RowKit Go.Vx
set_option linter.unusedVariables false
set_option linter.unusedSimpArgs false

def stepF (most : Int) (acc : List Jn) (j : Jn) : List Jn := if (acc.length : Int) < most ∧ j.lines.length ≤ 8 ∧ postN acc j = 0 then putR acc j else acc
def fitN (L : List Jn) (most : Int) : List Jn := L.foldl (stepF most) []
theorem fit_stuck (most : Int) : ∀ (L acc : List Jn), ¬ (acc.length : Int) < most → L.foldl (stepF most) acc = acc
  | [], _, _ => rfl
  | j :: L, acc, h => by
    rw [List.foldl_cons]
    have : stepF most acc j = acc := by unfold stepF; rw [if_neg (fun h2 => h h2.1)]
    rw [this]
    exact fit_stuck most L acc h
/-- What Fit leaves. -/
def FitPost (w : World) (L : List Jn) (e : Ending) (w' : World) : Prop := ∃ X v F, e = .returned v ∧ Fix w' 31 6 v X.length (X.flatMap jvEnc) F ∧ jns X = L ∧ (∀ x ∈ X, JAp w' F x) ∧ (∀ g ∈ F, w.heap.size ≤ g) ∧ Chg [] w w'
def FitAt (w : World) (L : List Jn) (v : Value) (W : World) : Prop := ∃ X F, Fix W 31 6 v X.length (X.flatMap jvEnc) F ∧ jns X = L ∧ (∀ x ∈ X, JAp W F x) ∧ (∀ g ∈ F, w.heap.size ≤ g) ∧ Chg [] w W
set_option maxRecDepth 100000 in
set_option maxHeartbeats 4000000 in
theorem l6_fit {w : World} {A : Option Addr} {n c : Nat} {Q : List JV} (hs : Go.Vx.Src w 6 A n (Q.flatMap jvEnc)) (hn : n ≤ 100000) (ho : ∀ q ∈ Q, JOk w q) (hb : ∀ q ∈ Q, q.j.lines.length ≤ 1000000 ∧ q.j.ref.size ≤ maxLen) {most : Int} (hm : 0 ≤ most ∧ most ≤ 1000) :
    Calls Try.prog 11 #[.slice A n c, .int .i64 most] w (FitPost w (fitN (jns Q) most)) := by
  have hl : Q.length = n := by have := hs.1; rw [flatMap_len jvEnc_len] at this; omega
  obtain ⟨PP, hPP⟩ : ∃ PP, PP = FitPost w (fitN (jns Q) most) := ⟨_, rfl⟩
  rw [← hPP]
  replace hPP := Lib.hid hPP
  replace hl := Lib.hid hl
  replace ho := Lib.hid ho
  replace hb := Lib.hid hb
  go_enter Try.func11, Try.ntmps11
  go_wp2_with fail
  go_loopw [5, 6] (fun ov iv wr => ∃ (k : Nat) (L : List Jn), k ≤ n ∧ iv = .int .i64 k ∧ FitAt w L ov wr ∧ ((jns Q).drop k).foldl (stepF most) L = fitN (jns Q) most) (fun _ iv _ => n - (intOf iv).toNat)
  case atStart => exact ⟨0, [], by omega, rfl, ⟨[], [], Fix.nil _ _ _, rfl, by simp, by simp, Chg.refl _ _⟩, rfl⟩
  case round =>
    obtain ⟨k, L, hk, rfl, ⟨X, F, hfx, rfl, hX, hF, hz⟩, hfit⟩ := hrel
    obtain ⟨A5, c5, rfl, -, hnc5, hcm5, -⟩ := _root_.id hfx
    unfold maxLen at hcm5
    have hdone : Hid (fitN (jns Q) most = jns X) → FitPost w (fitN (jns Q) most) (.returned (.slice A5 X.length c5)) wr := fun h => by rw [h.out]; exact ⟨X, _, F, rfl, hfx, rfl, hX, hF, hz⟩
    by_cases hlt : k < n
    · by_cases hmo : (X.length : Int) < most
      · have hkl : k < Q.length := by rw [hl.out]; exact hlt
        have hlt2 : (k : Int) < (n : Int) := by omega
        have hkw : IntKind.i64.wrap ((k : Int) + 1) = (k : Int) + 1 := by rw [IntKind.wrap_i64]; omega
        obtain ⟨ad, rfl, c0, c1, c2, c3, c4, c5'⟩ := jv_cells (hs.chg hz (by simp)) hkl
        obtain ⟨Ap, cp, hpp, hsp⟩ := ho.out _ (List.getElem_mem hkl)
        obtain ⟨hb1, hb2⟩ := hb.out _ (List.getElem_mem hkl)
        rw [hpp] at c4
        have hdr : (jns Q).drop k = Q[k].j :: (jns Q).drop (k + 1) := by
          rw [List.drop_eq_getElem_cons (by rw [List.length_map]; exact hkl)]
          simp
        rw [hdr, List.foldl_cons] at hfit
        have hst : stepF most (jns X) Q[k].j = if ((jns X).length : Int) < most ∧ Q[k].j.lines.length ≤ 8 ∧ postN (jns X) Q[k].j = 0 then putR (jns X) Q[k].j else jns X := rfl
        replace hpp := Lib.hid hpp
        clear hdr
        have hpost := r1_post (c := c5) (Fix.src hfx) (by omega) (fun x hx => (hX x hx).ok) Q[k].j (c1 := cp) (hsp.chg hz (by simp)) hb1 hb2
        have hput := fun W (z : Chg [] wr W) => r1_put (c := c5) (Fix.src (hfx.chg z (by simp))) (by omega) (fun x hx => ((hX x hx).keep z).ok) Q[k].j (c1 := cp) (hsp.chg (hz.trans' z) (by simp)) hb1
        rw [post_jns] at hpost
        have hcell := fun W (z : Chg [] w W) => jv_cells (hs.chg z (by simp)) hkl
        generalize Q[k].j = x at *
        generalize Q[k] = y at *
        obtain ⟨i, e, r, s, l, v⟩ := x
        unfold jnV at hpost hput
        dsimp only at *
        have hFA : ∀ W, Chg [] wr W → FitAt w (jns X) (.slice A5 X.length c5) W := fun W z => ⟨X, F, hfx.chg z (by simp), rfl, fun x hx => (hX x hx).keep z, hF, hz.trans' z⟩
        replace hFA := Lib.hid hFA
        by_cases h8 : l.length ≤ 8
        · have h82 : (l.length : Int) ≤ 8 := by omega
          by_cases h0 : postN (jns X) ⟨i, e, r, s, l, v⟩ = 0
          · rw [if_pos ⟨by rw [List.length_map]; exact hmo, h8, h0⟩] at hst
            rw [hst] at hfit
            rw [h0] at hpost
            have hsz0 := hz.size
            replace hfit := Lib.hid hfit
            replace hput := Lib.hid hput
            replace hcell := Lib.hid hcell
            clear hst h0 h8 hdone hfx hX hF hsp hb1 hb2
            go_wp2_with fail
            refine hpost.mono ?_
            rintro e' w2 ⟨rfl, hz2⟩
            clear hpost
            obtain ⟨ad', ha', d0, d1, d2, d3, d4, d5⟩ := hcell.out _ (hz.trans' hz2)
            injection ha' with ha'
            subst ha'
            rw [hpp.out] at d4
            clear c0 c1 c2 c3 c4 c5'
            have hzz := hz.trans' hz2
            have hsz := hzz.size
            go_wp2_with fail
            refine (hput.out _ hz2).mono ?_
            rintro e' w3 ⟨X2, v2, F2, rfl, hfx2, hX2, hJ2, hF2, hz3⟩
            have hF3 : ∀ g ∈ F2, w.heap.size ≤ g := fun g hg => by have := hF2 g hg; omega
            have hFA2 : FitAt w (putR (jns X) ⟨i, e, r, s, l, v⟩) v2 w3 := ⟨X2, F2, hfx2, hX2, hJ2, hF3, hzz.trans' hz3⟩
            replace hFA2 := Lib.hid hFA2
            clear hfx2 hX2 hJ2 hF2 hF3 hz3
            go_wp2_with fail
            exact ⟨⟨k + 1, _, by omega, by go_num, hFA2.out, hfit.out⟩, by simp [intOf]; omega⟩
          · rw [if_neg (fun h => h0 h.2.2)] at hst
            rw [hst] at hfit
            have hb0 : (postN (jns X) ⟨i, e, r, s, l, v⟩ == 0) = false := by simp [h0]
            generalize postN (jns X) ⟨i, e, r, s, l, v⟩ = E at *
            replace hfit := Lib.hid hfit
            clear hst h0 h8 hdone hfx hX hF hsp hb1 hb2 hput hcell
            go_wp2_with fail
            refine hpost.mono ?_
            rintro e' w2 ⟨rfl, hz2⟩
            clear hpost
            go_wp2_with fail
            exact ⟨⟨k + 1, jns X, by omega, by go_num, hFA.out _ hz2, hfit.out⟩, by simp [intOf]; omega⟩
        · rw [if_neg (fun h => h8 h.2.1)] at hst
          rw [hst] at hfit
          have h82 : decide ((l.length : Int) ≤ 8) = false := by simp; omega
          replace hfit := Lib.hid hfit
          clear hst h8 hdone hfx hX hF hsp hb1 hb2 hput hcell hpost
          go_wp2_with fail
          exact ⟨⟨k + 1, jns X, by omega, by go_num, hFA.out _ (Chg.refl _ _), hfit.out⟩, by simp [intOf]; omega⟩
      · have hR := hdone (Lib.hid (by rw [← hfit]; exact fit_stuck most _ _ (by rw [List.length_map]; exact hmo)))
        have hb0 : decide ((X.length : Int) < most) = false := by simpa using hmo
        have hlt2 : (k : Int) < (n : Int) := by omega
        replace hR := Lib.hid hR
        clear hdone hfit hfx hX hF hmo
        go_wp2_with fail
        rw [hPP.out]
        exact hR.out
    · obtain rfl : k = n := by omega
      have hdr : (jns Q).drop k = [] := List.drop_eq_nil_of_le (by rw [List.length_map, hl.out]; exact Nat.le_refl _)
      rw [hdr] at hfit
      have hR := hdone (Lib.hid hfit.symm)
      replace hR := Lib.hid hR
      clear hdone hfit hfx hX hF hdr
      go_wp2_with fail
      rw [hPP.out]
      exact hR.out
end Go.Proofs.Ytlgfmphjgijilaa
