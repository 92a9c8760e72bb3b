/- Journals: find, at any number. -/
import Derived.Test.YtlgfmphjgijilaaJoO
namespace Go.Proofs.Ytlgfmphjgijilaa
open Go.RowKit Go.Vx
set_option linter.unusedVariables false
set_option linter.unusedSimpArgs false

set_option maxRecDepth 100000 in
set_option maxHeartbeats 4000000 in
theorem jb_bsf_out {w : World} {A : Option Addr} {n c : Nat} {Q : List JV} (hs : Go.Vx.Src w 6 A n (Q.flatMap jvEnc)) (hn : n ≤ 1000) (hid : ∀ q ∈ Q, 1 ≤ q.j.id ∧ q.j.id ≤ 999999) {id : Int} (hI : -9223372036854775808 ≤ id ∧ id ≤ 9223372036854775807) (h1 : ¬ (1 ≤ id ∧ id ≤ 999999)) :
    Calls Try.prog 44 #[.slice A n c, .int .i64 id, .func (.func 45) #[] #[]] w fun e w' => ∃ i : Nat, i ≤ n ∧ e = .returned (.tuple #[.int .i64 i, .bool false]) ∧ Chg [] w w' := by
  have hl : Q.length = n := by have := hs.1; rw [flatMap_len jvEnc_len] at this; omega
  replace hl := Lib.hid hl
  replace hid := Lib.hid hid
  replace h1 := Lib.hid h1
  replace hI := Lib.hid hI
  go_enter Try.func44, Try.ntmps44
  go_wp2_with fail
  go_loopw [9, 10] (fun iv jv wr => ∃ i j : Nat, i ≤ j ∧ j ≤ n ∧ iv = .int .i64 i ∧ jv = .int .i64 j ∧ Chg [] w wr) (fun iv jv _ => (intOf jv).toNat - (intOf iv).toNat)
  case atStart => exact ⟨0, n, by omega, by omega, rfl, rfl, Chg.refl _ _⟩
  case round =>
    obtain ⟨i, j, hij, hjn, rfl, rfl, hz⟩ := hrel
    by_cases hlt : i < j
    · obtain ⟨h, hh⟩ : ∃ h, (i + j) / 2 = h := ⟨_, rfl⟩
      have hh1 : i ≤ h := by omega
      have hh2 : h < j := by omega
      have hhl : h < Q.length := by rw [hl.out]; omega
      have q1 : IntKind.i64.wrap ((i : Int) + j) = (i : Int) + j := by rw [IntKind.wrap_i64]; omega
      have q2 : IntKind.u64.wrap ((i : Int) + j) = (i : Int) + j := by rw [IntKind.wrap_u64]; omega
      have q4 : IntKind.i64.wrap (h : Int) = h := by rw [IntKind.wrap_i64]; omega
      obtain ⟨ad, rfl, c0, c1, c2, c3, c4, c5⟩ := jv_cells (hs.chg hz (by simp)) hhl
      obtain ⟨d, hd⟩ : ∃ d, IntKind.i64.wrap (Q[h].j.id - id) = d := ⟨_, rfl⟩
      have hah := fun W => jb_ahead Q[h].j.id Q[h].j.ent Q[h].j.per Q[h].j.ref Q[h].pv Q[h].j.void id (d := d) hd W
      clear hd
      by_cases hcmp : d < 0
      · have b1 : decide (d < 0) = true := by simp; omega
        clear hcmp
        generalize Q[h] = x at *
        go_wp2_with fail
        refine (hah _).mono ?_
        rintro e w2 ⟨rfl, hz2⟩
        clear hah
        go_wp2_with fail
        exact ⟨⟨h + 1, j, by omega, hjn, by rw [Value.int.injEq]; exact ⟨rfl, by omega⟩, rfl, hz.trans' hz2⟩, by simp [intOf]; omega⟩
      · have b1 : decide (d < 0) = false := by simp; omega
        clear hcmp
        generalize Q[h] = x at *
        go_wp2_with fail
        refine (hah _).mono ?_
        rintro e w2 ⟨rfl, hz2⟩
        clear hah
        go_wp2_with fail
        exact ⟨⟨i, h, by omega, by omega, rfl, by rw [Value.int.injEq]; exact ⟨rfl, by omega⟩, hz.trans' hz2⟩, by simp [intOf]; omega⟩
    · obtain rfl : i = j := by omega
      by_cases hin : i < n
      · have hil : i < Q.length := by rw [hl.out]; exact hin
        have hb := hid.out _ (List.getElem_mem hil)
        obtain ⟨ad, rfl, c0, c1, c2, c3, c4, c5⟩ := jv_cells (hs.chg hz (by simp)) hil
        obtain ⟨d, hd⟩ : ∃ d, IntKind.i64.wrap (Q[i].j.id - id) = d := ⟨_, rfl⟩
        have hah := fun W => jb_ahead Q[i].j.id Q[i].j.ent Q[i].j.per Q[i].j.ref Q[i].pv Q[i].j.void id (d := d) hd W
        have hd0 : (d == 0) = false := by
          rw [← hd, IntKind.wrap_i64]
          have := h1.out
          have := hI.out
          simp
          omega
        clear hd hb
        generalize Q[i] = x at *
        go_wp2_with fail
        refine (hah _).mono ?_
        rintro e w2 ⟨rfl, hz2⟩
        clear hah
        go_wp2_with fail
        go_ret2
        exact ⟨i, by omega, by first | rfl | (rw [hd0]; rfl), hz.trans' hz2⟩
      · go_wp2_with fail
        go_ret2
        exact ⟨i, by omega, rfl, hz⟩
/-- What find answers, at any number. -/
def FindAny (w : World) (Q : List JV) (id : Int) (e : Ending) (w' : World) : Prop := ∃ i : Nat, i ≤ Q.length ∧ e = .returned (.tuple #[.int .i64 i, .bool (foundB Q id)]) ∧ (foundB Q id = true → ∃ h : i < Q.length, Q[i].j.id = id) ∧ Chg [] w w'
theorem jb_find_any {w : World} {p : Nat} {Q : List JV} {R : List Nat} (h : BAt w p Q R) (hn : Q.length ≤ 1000) (hQ : SrtJ Q) (hid : Ids Q) {id : Int} (hI : -9223372036854775808 ≤ id ∧ id ≤ 9223372036854775807) : Calls Try.prog 30 #[.pointer (some ⟨p, 0, none⟩), .int .i64 id] w (FindAny w Q id) := by
  by_cases h1 : 1 ≤ id ∧ id ≤ 999999
  · refine (jb_find h hn hQ hid h1.1 h1.2).mono ?_
    rintro e w' ⟨i, hi, rfl, hlo, hhi, hz⟩
    refine ⟨i, hi, rfl, fun hf => ?_, hz⟩
    obtain ⟨q, hq, he⟩ := List.any_eq_true.1 hf
    obtain ⟨k, hk, rfl⟩ := List.getElem_of_mem hq
    simp only [beq_iff_eq] at he
    have h2 : i ≤ k := by
      rcases Nat.lt_or_ge k i with h | h
      · have := hlo k hk h; omega
      · exact h
    refine ⟨by omega, ?_⟩
    have h4 := hhi i (by omega) (Nat.le_refl _)
    by_cases e : k = i
    · subst e; exact he
    · have h3 := List.pairwise_iff_getElem.1 hQ i k (by omega) hk (by omega)
      omega
  · obtain ⟨A, c, Ft, c0, -, hf, -, -, -, -⟩ := h.head
    have hb := jb_bsf_out (c := c) (Fix.src hf) hn hid hI h1
    have hno : foundB Q id = false := by
      cases hx : foundB Q id with
      | false => rfl
      | true =>
        obtain ⟨q, hq, he⟩ := List.any_eq_true.1 hx
        simp only [beq_iff_eq] at he
        have := hid q hq
        omega
    unfold FindAny
    rw [hno]
    clear h hid h1 hI hno
    go_enter Try.func30, Try.ntmps30
    go_wp2_with fail
    refine hb.mono ?_
    rintro e w' ⟨i, hi, rfl, hz⟩
    clear hb
    go_wp2_with fail
    go_ret2
    exact ⟨i, hi, rfl, by simp, hz⟩
end Go.Proofs.Ytlgfmphjgijilaa
