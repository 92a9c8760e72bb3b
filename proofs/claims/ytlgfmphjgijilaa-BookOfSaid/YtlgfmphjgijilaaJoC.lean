/- Journals: row, front. -/
import Derived.Test.YtlgfmphjgijilaaJoB
namespace Go.Proofs.Ytlgfmphjgijilaa
open Go.RowKit Go.Vx
set_option linter.unusedVariables false
set_option linter.unusedSimpArgs false

set_option maxHeartbeats 1000000 in
theorem jo_row (a m p of : Int) (w : World) : Calls Try.prog 42 #[.agg #[.int .i64 a, .int .i64 m, .int .i64 p], .int .i64 of] w fun e w' => e = .returned (.bool (lineB of ⟨a, m, p⟩)) ∧ Chg [] w w' := by
  have hz := (Chg.refl [] w).alloc (.cells #[.int .i64 a, .int .i64 m, .int .i64 p] 28)
  have he := jo_entity p
  have key : ∀ b, lineB of ⟨a, m, p⟩ = b → Hid (lineB of ⟨a, m, p⟩ = b) := fun b h => Lib.hid h
  rcases Int.lt_or_le a 1 with h1 | h1
  · have hf := key false (by simp [lineB]; omega)
    have b1 : decide (1 ≤ a) = false := by simp; omega
    rw [hf.out]
    go_enter Try.func42, Try.ntmps42
    go_wp2_with fail
    go_ret
    exact ⟨rfl, hz⟩
  have b1 : decide (1 ≤ a) = true := by simpa using h1
  rcases Int.lt_or_le 9999 a with h2 | h2
  · have hf := key false (by simp [lineB]; omega)
    have b2 : decide (a ≤ 9999) = false := by simp; omega
    rw [hf.out]
    go_enter Try.func42, Try.ntmps42
    go_wp2_with fail
    go_ret
    exact ⟨rfl, hz⟩
  have b2 : decide (a ≤ 9999) = true := by simpa using h2
  by_cases h3 : m = 0
  · have hf := key false (by simp [lineB, h3])
    have b3 : (m != 0) = false := by simp [h3]
    rw [hf.out]
    clear h3
    go_enter Try.func42, Try.ntmps42
    go_wp2_with fail
    go_ret
    exact ⟨rfl, hz⟩
  have b3 : (m != 0) = true := by simp [h3]
  by_cases h4 : p = 0
  · have hf := key true (by simp [lineB, h1, h2, h3, h4])
    have b4 : (p == 0) = true := by simp [h4]
    rw [hf.out]
    clear h4 h3
    go_enter Try.func42, Try.ntmps42
    go_wp2_with fail
    go_ret
    exact ⟨rfl, hz⟩
  have b4 : (p == 0) = false := by simp [h4]
  cases h5 : entB p with
  | false =>
    have hf := key false (by simp [lineB, h4, h5])
    rw [h5] at he
    rw [hf.out]
    clear h4 h3 h5
    go_enter Try.func42, Try.ntmps42
    go_wp2_with fail
    refine (he _).mono ?_
    rintro e w' ⟨rfl, rfl⟩
    go_wp2_with fail
    go_ret
    exact ⟨rfl, hz⟩
  | true =>
    have hf := key (p != of) (by simp [lineB, h1, h2, b3, b4, h5])
    rw [h5] at he
    rw [hf.out]
    clear h4 h3 h5
    go_enter Try.func42, Try.ntmps42
    go_wp2_with fail
    refine (he _).mono ?_
    rintro e w' ⟨rfl, rfl⟩
    go_wp2_with fail
    go_ret
    exact ⟨by first | rfl | simp, hz⟩
set_option maxHeartbeats 4000000 in
theorem jo_front (j : Jn) {A : Option Addr} {n c : Nat} (hn : j.lines.length = n) (hr : j.ref.size ≤ maxLen) (w : World) : Calls Try.prog 41 #[jnV j (.slice A n c)] w fun e w' => e = .returned (.bool (frontB j)) ∧ Chg [] w w' := by
  obtain ⟨id, ent, per, ref, lines, void⟩ := j
  dsimp only at hn hr
  unfold jnV
  dsimp only
  have hz := (Chg.refl [] w).alloc (.cells #[.int .i64 id, .int .i64 ent, .int .i64 per, .string ref, .slice A n c, .bool void] 31)
  have he := jo_entity ent
  have hna := fun w => jo_named ref hr w
  have hva := fun (W : World) (B : Nat) (hB : W.heap.size = B) => jo_valid_one (w := W) (p := per) (t := 3) hB
  have key : ∀ b, frontB ⟨id, ent, per, ref, lines, void⟩ = b → Hid (frontB ⟨id, ent, per, ref, lines, void⟩ = b) := fun b h => Lib.hid h
  rcases Int.lt_or_le id 1 with h1 | h1
  · have hf := key false (by simp [frontB]; omega)
    have b1 : decide (1 ≤ id) = false := by simp; omega
    rw [hf.out]
    go_enter Try.func41, Try.ntmps41
    go_wp2_with fail
    go_ret
    exact ⟨rfl, hz⟩
  have b1 : decide (1 ≤ id) = true := by simpa using h1
  rcases Int.lt_or_le 999999 id with h2 | h2
  · have hf := key false (by simp [frontB]; omega)
    have b2 : decide (id ≤ 999999) = false := by simp; omega
    rw [hf.out]
    go_enter Try.func41, Try.ntmps41
    go_wp2_with fail
    go_ret
    exact ⟨rfl, hz⟩
  have b2 : decide (id ≤ 999999) = true := by simpa using h2
  cases h3 : entB ent with
  | false =>
    have hf := key false (by simp [frontB, h3])
    rw [h3] at he
    rw [hf.out]
    clear h3
    go_enter Try.func41, Try.ntmps41
    go_wp2_with fail
    refine (he _).mono ?_
    rintro e w' ⟨rfl, rfl⟩
    go_wp2_with fail
    go_ret
    exact ⟨rfl, hz⟩
  | true =>
  rw [h3] at he
  cases h4 : perB per with
  | false =>
    have hf := key false (by simp [frontB, h4])
    rw [h4] at hva
    rw [hf.out]
    clear h3 h4
    go_enter Try.func41, Try.ntmps41
    go_wp2_with fail
    refine (he _).mono ?_
    rintro e w' ⟨rfl, rfl⟩
    go_wp2_with fail
    refine (hva (w.alloc (.cells #[.int .i64 id, .int .i64 ent, .int .i64 per, .string ref, .slice A n c, .bool void] 31)) _ (by simp)).mono ?_
    rintro e w2 ⟨rfl, hz2⟩
    go_wp2_with fail
    go_ret
    exact ⟨rfl, hz.trans' hz2⟩
  | true =>
  rw [h4] at hva
  cases h5 : refB ref with
  | false =>
    have hf := key false (by simp [frontB, h5])
    rw [h5] at hna
    rw [hf.out]
    clear h3 h4 h5
    go_enter Try.func41, Try.ntmps41
    go_wp2_with fail
    refine (he _).mono ?_
    rintro e w' ⟨rfl, rfl⟩
    go_wp2_with fail
    refine (hva (w.alloc (.cells #[.int .i64 id, .int .i64 ent, .int .i64 per, .string ref, .slice A n c, .bool void] 31)) _ (by simp)).mono ?_
    rintro e w2 ⟨rfl, hz2⟩
    have hb2 := (Blk.new w 31 #[.int .i64 id, .int .i64 ent, .int .i64 per, .string ref, .slice A n c, .bool void]).chg hz2 (by simp)
    have d3 : w2.cell? ⟨w.heap.size, 3, none⟩ = some (.string ref) := hb2.cell 3
    go_wp2_with fail
    refine (hna _).mono ?_
    rintro e w3 ⟨rfl, rfl⟩
    go_wp2_with fail
    go_ret
    exact ⟨rfl, hz.trans' hz2⟩
  | true =>
    rw [h5] at hna
    have hf := key (decide ((2 : Int) ≤ n) && decide ((n : Int) ≤ 8)) (by simp [frontB, h1, h2, h3, h4, h5, hn]; rw [decide_eq_decide.2 (show 2 ≤ n ↔ (2 : Int) ≤ n by omega), decide_eq_decide.2 (show n ≤ 8 ↔ (n : Int) ≤ 8 by omega)])
    rw [hf.out]
    clear h3 h4 h5
    go_enter Try.func41, Try.ntmps41
    go_wp2_with fail
    refine (he _).mono ?_
    rintro e w' ⟨rfl, rfl⟩
    go_wp2_with fail
    refine (hva (w.alloc (.cells #[.int .i64 id, .int .i64 ent, .int .i64 per, .string ref, .slice A n c, .bool void] 31)) _ (by simp)).mono ?_
    rintro e w2 ⟨rfl, hz2⟩
    have hb2 := (Blk.new w 31 #[.int .i64 id, .int .i64 ent, .int .i64 per, .string ref, .slice A n c, .bool void]).chg hz2 (by simp)
    have d3 : w2.cell? ⟨w.heap.size, 3, none⟩ = some (.string ref) := hb2.cell 3
    have d4 : w2.cell? ⟨w.heap.size, 4, none⟩ = some (.slice A n c) := hb2.cell 4
    go_wp2_with fail
    refine (hna _).mono ?_
    rintro e w3 ⟨rfl, rfl⟩
    rcases Int.lt_or_le (n : Int) 2 with h6 | h6
    · have b6 : decide ((2 : Int) ≤ n) = false := by simp; omega
      go_wp2_with fail
      go_ret
      exact ⟨by rw [b6]; rfl, hz.trans' hz2⟩
    · have b6 : decide ((2 : Int) ≤ n) = true := by simp; omega
      go_wp2_with fail
      go_ret
      exact ⟨by rw [b6]; rfl, hz.trans' hz2⟩
end Go.Proofs.Ytlgfmphjgijilaa
