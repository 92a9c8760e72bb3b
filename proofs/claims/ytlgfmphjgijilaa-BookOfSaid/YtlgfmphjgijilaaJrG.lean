/- Journals: the reference's Same. -/
import Derived.Test.YtlgfmphjgijilaaJrF
import Derived.Laws.StructEq
namespace Go.Proofs.Ytlgfmphjgijilaa
open Go.RowKit Go.Vx
set_option linter.unusedVariables false
set_option linter.unusedSimpArgs false

theorem line_eql (x y : Ln) (w : World) : (Op.equalIn 10000 28 (.agg #[.int .i64 x.acct, .int .i64 x.amt, .int .i64 x.part]) (.agg #[.int .i64 y.acct, .int .i64 y.amt, .int .i64 y.part])).run Try.prog w = .ok (decide (x = y)) w := by
  obtain ⟨a, m, p⟩ := x
  obtain ⟨b, n, q⟩ := y
  dsimp only
  rw [show (10000 : Nat) = 9999 + 1 from rfl, run_equalIn_agg w 9999 28 _ _ (by kernel_rfl) (by kernel_rfl)]
  simp only [Program.fieldsOf, Try.underlying28]
  have e1 := fun a b w => run_equalIn_int (P := Try.prog) w 9998 3 .i64 .i64 a b Try.underlying3
  have p0 : ∀ (x y z : Int) w, (part 3 #[.int .i64 x, .int .i64 y, .int .i64 z] 0).run Try.prog w = .ok (.int .i64 x) w := fun x y z w => by kernel_rfl
  have p1 : ∀ (x y z : Int) w, (part 3 #[.int .i64 x, .int .i64 y, .int .i64 z] 1).run Try.prog w = .ok (.int .i64 y) w := fun x y z w => by kernel_rfl
  have p2 : ∀ (x y z : Int) w, (part 3 #[.int .i64 x, .int .i64 y, .int .i64 z] 2).run Try.prog w = .ok (.int .i64 z) w := fun x y z w => by kernel_rfl
  by_cases h1 : a = b
  · by_cases h2 : m = n
    · by_cases h3 : p = q
      · simp [Op.eqFields, Sem.run_bind, p0, p1, p2, e1, Result.andThen, h1, h2, h3]
      · simp [Op.eqFields, Sem.run_bind, p0, p1, p2, e1, Result.andThen, h1, h2, h3]
    · simp [Op.eqFields, Sem.run_bind, p0, p1, p2, e1, Result.andThen, h1, h2]
  · simp [Op.eqFields, Sem.run_bind, p0, p1, p2, e1, Result.andThen, h1]
theorem line_neq (x y : Ln) (w : World) : (binOp .neq 28 (.agg #[.int .i64 x.acct, .int .i64 x.amt, .int .i64 x.part]) (.agg #[.int .i64 y.acct, .int .i64 y.amt, .int .i64 y.part])).run Try.prog w = .ok (.bool (!decide (x = y))) w := by
  rw [run_neq_struct, line_eql]
  rfl
/-- Are two journals alike? -/
def sameN (a b : Jn) : Bool := (a.id == b.id) && ((a.ent == b.ent) && ((a.per == b.per) && ((a.ref.toList == b.ref.toList) && ((a.void == b.void) && decide (a.lines = b.lines)))))
set_option maxRecDepth 100000 in
set_option maxHeartbeats 8000000 in
theorem r1_same (a b : Jn) {w : World} {A B : Option Addr} {c d : Nat} (ha : Go.Vx.Src w 3 A a.lines.length (a.lines.flatMap lnEnc)) (hb : Go.Vx.Src w 3 B b.lines.length (b.lines.flatMap lnEnc)) (hm : a.lines.length ≤ 1000000) (hm2 : b.lines.length ≤ 1000000) :
    Calls Try.prog 18 #[jnV a (.slice A a.lines.length c), jnV b (.slice B b.lines.length d)] w fun e w' => e = .returned (.bool (sameN a b)) ∧ Chg [] w w' := by
  obtain ⟨R, hR⟩ : ∃ R, sameN a b = R := ⟨_, rfl⟩
  have hRs : R = ((a.id == b.id) && ((a.ent == b.ent) && ((a.per == b.per) && ((a.ref.toList == b.ref.toList) && ((a.void == b.void) && decide (a.lines = b.lines)))))) := by rw [← hR]; rfl
  rw [hR]
  clear hR
  obtain ⟨i1, e1, r1, s1, l1, v1⟩ := a
  obtain ⟨i2, e2, r2, s2, l2, v2⟩ := b
  unfold jnV
  dsimp only at *
  have hz := ((Chg.refl [] w).alloc (.cells #[.int .i64 i1, .int .i64 e1, .int .i64 r1, .string s1, .slice A l1.length c, .bool v1] 31)).alloc (.cells #[.int .i64 i2, .int .i64 e2, .int .i64 r2, .string s2, .slice B l2.length d, .bool v2] 31)
  cases p0 : (i1 != i2) with
  | true =>
    have hR : Hid (R = false) := Lib.hid (by rw [hRs, show (i1 == i2) = false from by simpa using p0]; rfl)
    clear hRs
    go_enter Try.func18, Try.ntmps18
    go_wp2_with fail
    go_ret
    exact ⟨by rw [hR.out]; rfl, hz⟩
  | false =>
  cases p1 : (e1 != e2) with
  | true =>
    have hR : Hid (R = false) := Lib.hid (by rw [hRs, show (e1 == e2) = false from by simpa using p1]; simp)
    clear hRs
    go_enter Try.func18, Try.ntmps18
    go_wp2_with fail
    go_ret
    exact ⟨by rw [hR.out]; rfl, hz⟩
  | false =>
  cases p2 : (r1 != r2) with
  | true =>
    have hR : Hid (R = false) := Lib.hid (by rw [hRs, show (r1 == r2) = false from by simpa using p2]; simp)
    clear hRs
    go_enter Try.func18, Try.ntmps18
    go_wp2_with fail
    go_ret
    exact ⟨by rw [hR.out]; rfl, hz⟩
  | false =>
  cases p3 : (s1.toList != s2.toList) with
  | true =>
    have hR : Hid (R = false) := Lib.hid (by rw [hRs, show (s1.toList == s2.toList) = false from by simpa using p3]; simp)
    have p3' : (s1.toList == s2.toList) = false := by simpa using p3
    clear hRs
    go_enter Try.func18, Try.ntmps18
    go_wp2_with fail
    go_ret
    exact ⟨by rw [hR.out]; rfl, hz⟩
  | false =>
  have p3' : (s1.toList == s2.toList) = true := by simpa using p3
  cases p4 : (v1 != v2) with
  | true =>
    have hR : Hid (R = false) := Lib.hid (by rw [hRs, show (v1 == v2) = false from by simpa using p4]; simp)
    have p4' : (v1 == v2) = false := by simpa using p4
    clear hRs
    go_enter Try.func18, Try.ntmps18
    go_wp2_with fail
    go_ret
    exact ⟨by rw [hR.out]; rfl, hz⟩
  | false =>
  have p4' : (v1 == v2) = true := by simpa using p4
  obtain rfl : v1 = v2 := by simpa using p4
  have hRl : R = decide (l1 = l2) := by rw [hRs, p3', show (i1 == i2) = true from by simpa using p0, show (e1 == e2) = true from by simpa using p1, show (r1 == r2) = true from by simpa using p2]; simp
  clear hRs p4 p4'
  by_cases hn : l1.length = l2.length
  · rw [← hn] at hb ⊢
    rw [← hn] at hz
    obtain ⟨n, hn1⟩ : ∃ n, l1.length = n := ⟨_, rfl⟩
    rw [hn1] at ha hb hz hm ⊢
    have hn2 : l2.length = n := by rw [← hn, hn1]
    replace hn1 := Lib.hid hn1
    replace hn2 := Lib.hid hn2
    replace hRl := Lib.hid hRl
    have hB := (Blk.new w 31 #[.int .i64 i1, .int .i64 e1, .int .i64 r1, .string s1, .slice A n c, .bool v1]).alloc (.cells #[.int .i64 i2, .int .i64 e2, .int .i64 r2, .string s2, .slice B n d, .bool v1] 31)
    have hB2 : Blk ((w.alloc (.cells #[.int .i64 i1, .int .i64 e1, .int .i64 r1, .string s1, .slice A n c, .bool v1] 31)).alloc (.cells #[.int .i64 i2, .int .i64 e2, .int .i64 r2, .string s2, .slice B n d, .bool v1] 31)) (w.heap.size + 1) 31 _ := Blk.new_at (by simp)
    clear hn hm2
    go_enter Try.func18, Try.ntmps18
    go_wp2_with fail
    obtain ⟨w1, hw1⟩ : ∃ w1, w1 = (w.alloc (.cells #[.int .i64 i1, .int .i64 e1, .int .i64 r1, .string s1, .slice A n c, .bool v1] 31)).alloc (.cells #[.int .i64 i2, .int .i64 e2, .int .i64 r2, .string s2, .slice B n d, .bool v1] 31) := ⟨_, rfl⟩
    rw [← hw1] at hB hB2 hz ⊢
    clear hw1
    obtain ⟨jb, hjb⟩ : ∃ jb, w.heap.size = jb := ⟨_, rfl⟩
    rw [hjb] at hB hB2 ⊢
    clear hjb
    have hBc := fun W (k : Chg [] w1 W) => hB.chg k (by simp)
    have hBc2 := fun W (k : Chg [] w1 W) => hB2.chg k (by simp)
    replace hBc := Lib.hid hBc
    replace hBc2 := Lib.hid hBc2
    clear hB hB2
    go_loopw [5] (fun iv wr => ∃ k : Nat, k ≤ n ∧ iv = .int .i64 k ∧ (∀ i, (h1 : i < l1.length) → (h2 : i < l2.length) → i < k → l1[i] = l2[i]) ∧ Chg [] w1 wr) (fun iv _ => n - (intOf iv).toNat)
    case atStart => exact ⟨0, by omega, rfl, fun i _ _ h => by omega, Chg.refl _ _⟩
    case round =>
      obtain ⟨k, hk, rfl, hj, hzr⟩ := hrel
      have hzw := hz.trans' hzr
      have g4 : wr.cell? ⟨jb, 4, none⟩ = some (.slice A n c) := (hBc.out _ hzr).cell 4
      have g4' : wr.drew.cell? ⟨jb, 4, none⟩ = some (.slice A n c) := g4
      have k4 : wr.cell? ⟨jb + 1, 4, none⟩ = some (.slice B n d) := (hBc2.out _ hzr).cell 4
      have k4' : wr.drew.cell? ⟨jb + 1, 4, none⟩ = some (.slice B n d) := k4
      by_cases hlt : k < n
      · have hk1 : k < l1.length := by rw [hn1.out]; exact hlt
        have hk2 : k < l2.length := by rw [hn2.out]; exact hlt
        obtain ⟨ad, rfl, c0, c1, c2⟩ := line_cells (ha.chg hzw (by simp)) hk1
        obtain ⟨bd, rfl, d0, d1, d2⟩ := line_cells (hb.chg hzw (by simp)) hk2
        have hlt2 : (k : Int) < (n : Int) := by omega
        have hkw : IntKind.i64.wrap ((k : Int) + 1) = (k : Int) + 1 := by rw [IntKind.wrap_i64]; omega
        have hne := line_neq l1[k] l2[k]
        by_cases hx : l1[k] = l2[k]
        · have hj2 : ∀ i, (h1 : i < l1.length) → (h2 : i < l2.length) → i < k + 1 → l1[i] = l2[i] := fun i h1 h2 h3 => by
            by_cases e : i = k
            · subst e; exact hx
            · exact hj i h1 h2 (by omega)
          replace hj2 := Lib.hid hj2
          rw [decide_eq_true hx] at hne
          clear hj hx
          generalize l1[k] = x at *
          generalize l2[k] = y at *
          obtain ⟨xa, xm, xp⟩ := x
          obtain ⟨ya, ym, yp⟩ := y
          dsimp only at *
          have c0' : wr.drew.cell? (ad.add (k * 3)) = _ := c0
          have c1' : wr.drew.cell? ⟨(ad.add (k * 3)).block, (ad.add (k * 3)).off + 1, none⟩ = _ := c1
          have c2' : wr.drew.cell? ⟨(ad.add (k * 3)).block, (ad.add (k * 3)).off + 2, none⟩ = _ := c2
          have d0' : wr.drew.cell? (bd.add (k * 3)) = _ := d0
          have d1' : wr.drew.cell? ⟨(bd.add (k * 3)).block, (bd.add (k * 3)).off + 1, none⟩ = _ := d1
          have d2' : wr.drew.cell? ⟨(bd.add (k * 3)).block, (bd.add (k * 3)).off + 2, none⟩ = _ := d2
          go_wp2_with fail
          go_region
          go_wp2_with fail
          exact ⟨⟨k + 1, by omega, by go_num, hj2.out, hzr.drew⟩, by simp [intOf]; omega⟩
        · have hR : Hid (R = false) := Lib.hid (by
            rw [hRl.out, decide_eq_false_iff_not]
            intro e
            subst e
            exact hx rfl)
          rw [decide_eq_false hx] at hne
          clear hj hx
          generalize l1[k] = x at *
          generalize l2[k] = y at *
          obtain ⟨xa, xm, xp⟩ := x
          obtain ⟨ya, ym, yp⟩ := y
          dsimp only at *
          have c0' : wr.drew.cell? (ad.add (k * 3)) = _ := c0
          have c1' : wr.drew.cell? ⟨(ad.add (k * 3)).block, (ad.add (k * 3)).off + 1, none⟩ = _ := c1
          have c2' : wr.drew.cell? ⟨(ad.add (k * 3)).block, (ad.add (k * 3)).off + 2, none⟩ = _ := c2
          have d0' : wr.drew.cell? (bd.add (k * 3)) = _ := d0
          have d1' : wr.drew.cell? ⟨(bd.add (k * 3)).block, (bd.add (k * 3)).off + 1, none⟩ = _ := d1
          have d2' : wr.drew.cell? ⟨(bd.add (k * 3)).block, (bd.add (k * 3)).off + 2, none⟩ = _ := d2
          go_wp2_with fail
          go_region
          go_wp2_with fail
          go_ret
          exact ⟨by rw [hR.out]; rfl, hzw.drew⟩
      · obtain rfl : k = n := by omega
        have hR : Hid (R = true) := Lib.hid (by
          rw [hRl.out, decide_eq_true_iff]
          exact List.ext_getElem (by rw [hn1.out, hn2.out]) (fun i h1 h2 => hj i h1 h2 (by rw [hn1.out] at h1; exact h1)))
        clear hj
        go_wp2_with fail
        go_ret
        exact ⟨by rw [hR.out]; rfl, hzw⟩
  · have hR : Hid (R = false) := Lib.hid (by rw [hRl, decide_eq_false_iff_not]; intro e; exact hn (by rw [e]))
    have p5 : ((l1.length : Int) != (l2.length : Int)) = true := by simp; omega
    clear hRl hn
    go_enter Try.func18, Try.ntmps18
    go_wp2_with fail
    go_ret
    exact ⟨by rw [hR.out]; rfl, hz⟩
end Go.Proofs.Ytlgfmphjgijilaa
