/- Journals: Ref; entry.Same. -/
import Derived.Test.YtlgfmphjgijilaaJoV
namespace Go.Proofs.Ytlgfmphjgijilaa
open Go.RowKit Go.Vx
set_option linter.unusedVariables false
set_option linter.unusedSimpArgs false

/-- Who has a reference. -/
def refJ (Q : List JV) (s : ByteArray) : Int := if s.toList = [] then 0 else match Q.find? (fun q => !q.j.void && (q.j.ref.toList == s.toList)) with | none => 0 | some q => q.j.id
theorem refJ_no (Q : List JV) (s : ByteArray) (h : s.toList = []) : refJ Q s = 0 := by unfold refJ; rw [if_pos h]
set_option maxRecDepth 100000 in
set_option maxHeartbeats 4000000 in
theorem jb_ref {w : World} {p : Nat} {Q : List JV} {R : List Nat} (hb : BAt w p Q R) (hn : Q.length ≤ 1000) (s : ByteArray) :
    Calls Try.prog 28 #[.pointer (some ⟨p, 0, none⟩), .string s] w fun e w' => e = .returned (.int .i64 (refJ Q s)) ∧ Chg [] w w' := by
  obtain ⟨A, c, Ft, ca, -, hfx, -, -, hle, hcm⟩ := hb.head
  by_cases hs : s.toList = []
  · rw [refJ_no Q s hs]
    have hcmp : (s.toList == []) = true := by rw [hs]; rfl
    clear hs hfx hb
    go_enter Try.func28, Try.ntmps28
    go_wp2_with fail
    go_ret
    exact ⟨rfl, Chg.refl _ _⟩
  · have hpv : ∀ q ∈ Q, ∃ A m c, q.pv = .slice A m c := fun q hq => by
      obtain ⟨A, c, h, -⟩ := hb.each q hq
      exact ⟨A, _, c, h⟩
    have hcmp : (s.toList == []) = false := by simpa using hs
    have hcmp' : (s.toList != []) = true := by simpa using hs
    have hsrc := Fix.src hfx
    obtain ⟨RR, hR⟩ : ∃ RR, refJ Q s = RR := ⟨_, rfl⟩
    rw [hR]
    have hR' : Hid ((match Q.find? (fun q => !q.j.void && (q.j.ref.toList == s.toList)) with | none => (0 : Int) | some q => q.j.id) = RR) := Lib.hid (by rw [← hR]; unfold refJ; rw [if_neg hs])
    obtain ⟨n, hnn⟩ : ∃ n, Q.length = n := ⟨_, rfl⟩
    rw [hnn] at ca hle hsrc hn
    replace hnn := Lib.hid hnn
    clear hs hfx hb hR
    replace hpv := Lib.hid hpv
    go_enter Try.func28, Try.ntmps28
    go_wp2_with fail
    go_loopw [18] (fun iv wr => ∃ i : Nat, i ≤ n ∧ iv = .int .i64 i ∧ (∀ k, (hk : k < Q.length) → k < i → (!Q[k].j.void && (Q[k].j.ref.toList == s.toList)) = false) ∧ Chg [] w wr) (fun iv _ => n - (intOf iv).toNat)
    case atStart => exact ⟨0, by omega, rfl, fun k _ h => by omega, Chg.refl _ _⟩
    case round =>
      obtain ⟨i, hin, rfl, hno, hz⟩ := hrel
      by_cases hlt : i < n
      · have hil : i < Q.length := by rw [hnn.out]; exact hlt
        obtain ⟨ad, rfl, c0, c1, c2, c3, c4, c5⟩ := jv_cells (hsrc.chg hz (by simp)) hil
        obtain ⟨Ap, mp, cp, hpp⟩ := hpv.out _ (List.getElem_mem hil)
        rw [hpp] at c4
        clear hpp
        have hi2 : (i : Int) < (n : Int) := by omega
        have hiw : IntKind.i64.wrap ((i : Int) + 1) = (i : Int) + 1 := by rw [IntKind.wrap_i64]; omega
        cases hh : (!Q[i].j.void && (Q[i].j.ref.toList == s.toList)) with
        | true =>
          have hre : Hid (RR = Q[i].j.id) := Lib.hid (by
            rw [← hR'.out]
            have : Q.find? (fun q => !q.j.void && (q.j.ref.toList == s.toList)) = some Q[i] := by
              rw [List.find?_eq_some_iff_getElem]
              exact ⟨hh, i, hil, rfl, fun k hk => by rw [hno k (by omega) hk]; rfl⟩
            rw [this])
          simp only [Bool.and_eq_true, Bool.not_eq_true'] at hh
          obtain ⟨h1, h2⟩ := hh
          rw [h1] at c5
          clear hno h1 hnn hR'
          generalize Q[i] = x at *
          go_wp2_with fail
          go_ret
          exact ⟨by rw [hre.out]; rfl, hz.alloc _⟩
        | false =>
          have hno2 : ∀ k, (hk : k < Q.length) → k < i + 1 → (!Q[k].j.void && (Q[k].j.ref.toList == s.toList)) = false := fun k hk hk2 => by
            by_cases e : k = i
            · subst e; exact hh
            · exact hno k hk (by omega)
          replace hno2 := Lib.hid hno2
          cases hv : Q[i].j.void with
          | true =>
            rw [hv] at c5
            clear hno hnn hR' hv hh
            generalize Q[i] = x at *
            go_wp2_with fail
            exact ⟨⟨i + 1, by omega, by rw [Value.int.injEq]; exact ⟨rfl, by omega⟩, hno2.out, hz.alloc _⟩, by simp [intOf]; omega⟩
          | false =>
            rw [hv] at c5
            have h2 : (Q[i].j.ref.toList == s.toList) = false := by simpa [hv] using hh
            clear hno hnn hR' hv hh
            generalize Q[i] = x at *
            go_wp2_with fail
            exact ⟨⟨i + 1, by omega, by rw [Value.int.injEq]; exact ⟨rfl, by omega⟩, hno2.out, hz.alloc _⟩, by simp [intOf]; omega⟩
      · have hre : Hid (RR = 0) := Lib.hid (by
          rw [← hR'.out]
          have : Q.find? (fun q => !q.j.void && (q.j.ref.toList == s.toList)) = none := by
            rw [List.find?_eq_none]
            intro q hq
            obtain ⟨k, hk, rfl⟩ := List.getElem_of_mem hq
            rw [hno k hk (by have := hnn.out; omega)]
            simp
          rw [this])
        clear hno hnn hR'
        go_wp2_with fail
        go_ret
        exact ⟨by rw [hre.out]; rfl, hz⟩
end Go.Proofs.Ytlgfmphjgijilaa
