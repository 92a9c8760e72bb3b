/- Journals: is a reference another one's? -/
import Derived.Test.YtlgfmphjgijilaaJoG
import Derived.StillTailTactics
namespace Go.Proofs.Ytlgfmphjgijilaa
open Go.RowKit Go.Vx
set_option linter.unusedVariables false
set_option linter.unusedSimpArgs false

set_option maxRecDepth 100000 in
set_option maxHeartbeats 4000000 in
theorem jb_if {w : World} {A : Option Addr} {n c : Nat} {Q : List JV} (hs : Src w 6 A n (Q.flatMap jvEnc)) (hn : n ≤ 1000) (h : Jn) (hv : Value) :
    Calls Try.prog 58 #[.slice A n c, .func (.func 47) #[jnV h hv] #[]] w fun e w' => ∃ r : Int, e = .returned (.int .i64 r) ∧ decide (0 ≤ r) = (Q.any fun q => holdsB h q.j) ∧ Chg [] w w' := by
  have hl : Q.length = n := by have := hs.1; rw [flatMap_len jvEnc_len] at this; omega
  replace hl := Lib.hid hl
  have hho := fun (q : JV) W => jb_holds h q.j hv q.pv W
  generalize hhB : holdsB h = HB at *
  replace hhB := Lib.hid hhB
  unfold jnV at *
  go_enter Try.func58, Try.ntmps58
  go_wp2_with fail
  go_loopw [8] (fun iv wr => ∃ k : Nat, k ≤ n ∧ iv = .int .i64 k ∧ ((Q.take k).any fun q => HB q.j) = false ∧ Chg [] w wr) (fun iv _ => n - (intOf iv).toNat)
  case atStart => exact ⟨0, by omega, rfl, by simp, Chg.refl _ _⟩
  case round =>
    obtain ⟨k, hk, rfl, hno, hz⟩ := hrel
    by_cases hlt : k < n
    · have hkl : k < Q.length := by rw [hl.out]; exact hlt
      obtain ⟨ad, rfl, c0, c1, c2, c3, c4, c5⟩ := jv_cells (hs.chg hz (by simp)) hkl
      have htk : ((Q.take (k + 1)).any fun q => HB q.j) = (((Q.take k).any fun q => HB q.j) || HB Q[k].j) := by
        rw [List.take_succ_eq_append_getElem hkl, List.any_append]
        simp
      have hyes : HB Q[k].j = true → Hid ((Q.any fun q => HB q.j) = true) := fun e => Lib.hid (List.any_eq_true.2 ⟨_, List.getElem_mem hkl, e⟩)
      have hhk := hho Q[k]
      rw [hno] at htk
      clear hho hno
      generalize Q[k] = x at *
      cases hb : HB x.j with
      | true =>
        rw [hb] at hhk
        have hy := hyes hb
        clear htk hyes hb
        go_wp2_with fail
        refine (hhk _).mono ?_
        rintro e w2 ⟨rfl, hz2⟩
        clear hhk
        go_wp2_with fail
        go_ret
        exact ⟨k, rfl, by rw [hy.out]; simp, hz.trans' hz2⟩
      | false =>
        rw [hb] at hhk htk
        replace htk := Lib.hid htk
        clear hyes hb
        go_wp2_with fail
        refine (hhk _).mono ?_
        rintro e w2 ⟨rfl, hz2⟩
        clear hhk
        go_wp2_with fail
        exact ⟨⟨k + 1, by omega, by go_num, by rw [htk.out]; rfl, hz.trans' hz2⟩, by simp [intOf]; omega⟩
    · obtain rfl : k = n := by omega
      rw [List.take_of_length_le (by rw [hl.out]; exact Nat.le_refl _)] at hno
      replace hno := Lib.hid hno
      clear hho
      go_wp2_with fail
      go_ret
      exact ⟨-1, rfl, by rw [hno.out]; rfl, hz⟩
theorem jb_cf {w : World} {A : Option Addr} {n c : Nat} {Q : List JV} (hs : Src w 6 A n (Q.flatMap jvEnc)) (hn : n ≤ 1000) (h : Jn) (hv : Value) :
    Calls Try.prog 46 #[.slice A n c, .func (.func 47) #[jnV h hv] #[]] w fun e w' => e = .returned (.bool (Q.any fun q => holdsB h q.j)) ∧ Chg [] w w' := by
  have hi := jb_if (c := c) hs hn h hv
  generalize (Q.any fun q => holdsB h q.j) = R at *
  unfold jnV at *
  go_enter Try.func46, Try.ntmps46
  go_wp2_with fail
  refine hi.mono ?_
  rintro e w2 ⟨r, rfl, hr, hz⟩
  replace hr := Lib.hid hr
  go_wp2_with fail
  go_ret
  exact ⟨by rw [← hr.out]; rfl, hz⟩
end Go.Proofs.Ytlgfmphjgijilaa
