/- Journals: is a reference taken? -/
import Derived.Test.YtlgfmphjgijilaaJoH
import Derived.StillTailTactics
import Derived.Deep.RegionLaw
namespace Go.Proofs.Ytlgfmphjgijilaa
open Go.RowKit Go.Vx
set_option linter.unusedVariables false
set_option linter.unusedSimpArgs false

def takenB (Q : List JV) (j : Jn) : Bool := !j.void && ((j.ref.toList != []) && Q.any fun q => holdsB j q.j)
set_option maxRecDepth 100000 in
set_option maxHeartbeats 4000000 in
theorem jb_taken {w : World} {p : Nat} {Q : List JV} {R : List Nat} (hb : BAt w p Q R) (hn : Q.length ≤ 1000) (j : Jn) (jv : Value) :
    Calls Try.prog 31 #[.pointer (some ⟨p, 0, none⟩), jnV j jv] w fun e w' => e = .returned (.bool (takenB Q j)) ∧ Chg [] w w' := by
  obtain ⟨id, ent, per, ref, l, void⟩ := j
  have key : ∀ x, takenB Q ⟨id, ent, per, ref, l, void⟩ = x → Hid (takenB Q ⟨id, ent, per, ref, l, void⟩ = x) := fun x h => Lib.hid h
  unfold jnV
  dsimp only
  have hz := (Chg.refl [] w).alloc (.cells #[.int .i64 id, .int .i64 ent, .int .i64 per, .string ref, jv, .bool void] 31)
  have hB := Blk.new w 31 #[.int .i64 id, .int .i64 ent, .int .i64 per, .string ref, jv, .bool void]
  have hb1 := hb.keep hz
  cases void with
  | true =>
    have hf := key false (by simp [takenB])
    rw [hf.out]
    obtain ⟨w1, hw1⟩ : ∃ w1, w1 = w.alloc (.cells #[.int .i64 id, .int .i64 ent, .int .i64 per, .string ref, jv, .bool true] 31) := ⟨_, rfl⟩
    have d5 : w1.cell? ⟨w.heap.size, 5, none⟩ = some (.bool true) := by rw [hw1]; exact hB.cell 5
    have hzd := hz
    rw [← hw1] at hzd
    have d5' : w1.drew.cell? ⟨w.heap.size, 5, none⟩ = some (.bool true) := d5
    replace hw1 := Lib.hid hw1
    clear hf key hb1 hB hb hz
    go_enter Try.func31, Try.ntmps31
    go_wp2_with fail
    rw [← hw1.out]
    clear hw1
    go_region
    go_wp2_with fail
    go_ret
    exact ⟨rfl, hzd.drew⟩
  | false =>
    obtain ⟨w1, hw1⟩ : ∃ w1, w1 = w.alloc (.cells #[.int .i64 id, .int .i64 ent, .int .i64 per, .string ref, jv, .bool false] 31) := ⟨_, rfl⟩
    have d5 : w1.cell? ⟨w.heap.size, 5, none⟩ = some (.bool false) := by rw [hw1]; exact hB.cell 5
    have d3 : w1.cell? ⟨w.heap.size, 3, none⟩ = some (.string ref) := by rw [hw1]; exact hB.cell 3
    have hzd := hz
    rw [← hw1] at hzd
    have d5' : w1.drew.cell? ⟨w.heap.size, 5, none⟩ = some (.bool false) := d5
    have d3' : w1.drew.cell? ⟨w.heap.size, 3, none⟩ = some (.string ref) := d3
    by_cases hr : ref.toList = []
    · have hf := key false (by simp [takenB, hr])
      rw [hf.out]
      have hcmp : (ref.toList == []) = true := by rw [hr]; rfl
      have hcmp' : (ref.toList != []) = false := by rw [hr]; rfl
      replace hw1 := Lib.hid hw1
      clear hf key hr hb1 hB hb hz
      go_enter Try.func31, Try.ntmps31
      go_wp2_with fail
      rw [← hw1.out]
      clear hw1
      go_region
      go_wp2_with fail
      go_ret
      exact ⟨rfl, hzd.drew⟩
    · have hcmp : (ref.toList == []) = false := by simpa using hr
      have hcmp' : (ref.toList != []) = true := by simpa using hr
      have hf := key (Q.any fun q => holdsB ⟨id, ent, per, ref, l, false⟩ q.j) (by simp [takenB, hr])
      rw [hf.out]
      rw [← hw1] at hb1
      have hb2 : BAt w1.drew p Q R := hb1.keep (Chg.refl [] w1).drew
      obtain ⟨A, c, Ft, ca, -, hfx, -, -, -, -⟩ := hb2.head
      have ca' : w1.cell? ⟨p, 0, none⟩ = some (.slice A Q.length c) := ca
      have d0 : w1.drew.cell? ⟨w.heap.size, 0, none⟩ = some (.int .i64 id) := by rw [hw1]; exact hB.cell 0
      have d1 : w1.drew.cell? ⟨w.heap.size, 1, none⟩ = some (.int .i64 ent) := by rw [hw1]; exact hB.cell 1
      have d2 : w1.drew.cell? ⟨w.heap.size, 2, none⟩ = some (.int .i64 per) := by rw [hw1]; exact hB.cell 2
      have d4 : w1.drew.cell? ⟨w.heap.size, 4, none⟩ = some jv := by rw [hw1]; exact hB.cell 4
      have hcf := jb_cf (c := c) (Fix.src hfx) hn ⟨id, ent, per, ref, l, false⟩ jv
      generalize (Q.any fun q => holdsB ⟨id, ent, per, ref, l, false⟩ q.j) = RR at *
      unfold jnV at hcf
      dsimp only at hcf
      replace hw1 := Lib.hid hw1
      clear hf key hr hb1 hB hb hz hb2 hfx
      go_enter Try.func31, Try.ntmps31
      go_wp2_with fail
      rw [← hw1.out]
      clear hw1
      go_region_law (go_simp; refine hcf.mono ?_; rintro e w2 ⟨rfl, hz2⟩)
      all_goals
        go_wp2_with fail
        go_ret
        exact ⟨rfl, hzd.drew.trans' hz2⟩
end Go.Proofs.Ytlgfmphjgijilaa
