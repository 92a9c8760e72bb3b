/- RolesParts. -/
import Derived.Test.YtoimgacmbbkikaaRoF
namespace Go.Proofs.Ytoimgacmbbkikaa
open Go.RowKit Go.Vx Go.Maps
set_option linter.unusedVariables false
set_option linter.unusedSimpArgs false

def ann : List UInt8 := [97, 110, 110]
def zzz : List UInt8 := [122, 122, 122]
theorem al1 : giveL [] ann 8 = [(ann, 8)] := by decide +kernel
theorem al2 : takeC [(ann, 8)] ann 8 = 11 := by decide +kernel
theorem al3 : mayC [(ann, 8)] ann 2 = 10 := by decide +kernel
theorem al4 : mayC [(ann, 8)] ann 8 = 0 := by decide +kernel
theorem al5 : userB ⟨#[97, 110, 110]⟩ = true := by decide +kernel
theorem al6 : asksB 8 = true := by decide
theorem al7 : (Lit.int .i64 (orI (getR [] ann) 8)).wf = true := by decide +kernel
set_option maxHeartbeats 1000000 in
theorem l22_alive (w : World) : Calls Try.prog 6 #[] w fun e w' => e = .returned (.bool true) ∧ Chg [] w w' := by
  have hg := ro_give (RAt.new w) (by intro x hx; simp at hx) (by simp) ⟨#[97, 110, 110]⟩ (by decide) 8 (by rw [al5, al6]; rfl) al7
  have he : giveL [] (⟨#[97, 110, 110]⟩ : ByteArray).data.toList 8 = [(ann, 8)] := al1
  rw [he] at hg
  have hv := ro_valid ⟨#[97, 110, 110]⟩ (by decide)
  rw [al5] at hv
  clear he
  go_enter Try.func6, Try.ntmps6
  go_wp2_with fail
  refine hg.mono ?_
  rintro e w1 ⟨rfl, F1, h1, hF1, hc1⟩
  have htk := ro_take_no h1 (by simp) ⟨#[97, 110, 110]⟩ (by decide) 8 (by rw [al5, al6]; rfl) (by show ¬ takeC [(ann, 8)] ann 8 = 0; rw [al2]; decide)
  have e1 : takeC [(ann, 8)] (⟨#[97, 110, 110]⟩ : ByteArray).data.toList 8 = 11 := al2
  rw [e1] at htk
  have hm1 := fun w2 (k : Chg [] w1 w2) => ro_may (h1.chg k (by simp)) ⟨#[97, 110, 110]⟩ (by decide) 2
  have hm2 := fun w2 (k : Chg [] w1 w2) => ro_may (h1.chg k (by simp)) ⟨#[97, 110, 110]⟩ (by decide) 8
  have e2 : mayC [(ann, 8)] (⟨#[97, 110, 110]⟩ : ByteArray).data.toList 2 = 10 := al3
  have e3 : mayC [(ann, 8)] (⟨#[97, 110, 110]⟩ : ByteArray).data.toList 8 = 0 := al4
  rw [e2] at hm1
  rw [e3] at hm2
  clear e1 e2 e3 hg
  dsimp only
  go_wp2_with fail
  refine htk.mono ?_
  rintro e w2 ⟨rfl, hc2⟩
  dsimp only
  go_wp2_with fail
  refine (hm1 _ hc2).mono ?_
  rintro e w3 ⟨rfl, rfl⟩
  dsimp only
  go_wp2_with fail
  refine (hm2 _ hc2).mono ?_
  rintro e w3 ⟨rfl, rfl⟩
  dsimp only
  go_wp2_with fail
  refine (hv _).mono ?_
  rintro e w3 ⟨rfl, rfl⟩
  dsimp only
  go_wp2_with fail
  go_ret
  refine ⟨by trivial, ?_⟩
  exact (((Chg.refl [] w).alloc _).trans hc1 (fun g hg => by simp at hg; subst hg; exact .inr (Nat.le_refl _))).trans' hc2
end Go.Proofs.Ytoimgacmbbkikaa
