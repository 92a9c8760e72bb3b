/- Journals: a book of journals (book.Of), and the law's. -/
import Derived.Test.YtlgfmphjgijilaaJrH
namespace Go.Proofs.Ytlgfmphjgijilaa
open Go.RowKit Go.Vx
set_option linter.unusedVariables false
set_option linter.unusedSimpArgs false

/-- Journals posted one behind the other: what is there, or the first error. -/
def ofN (B : List Jn) : List Jn → List Jn × Int
  | [] => (B, 0)
  | j :: l => if postN B j = 0 then ofN (insN B j) l else (B, postN B j)
/-- What Of leaves. -/
def OfPost (w : World) (L : List Jn) (e : Ending) (w' : World) : Prop := ((ofN [] L).2 ≠ 0 → e = .returned (.tuple #[.pointer none, .int .i64 (ofN [] L).2]) ∧ Chg [] w w') ∧
  ((ofN [] L).2 = 0 → ∃ p R, e = .returned (.tuple #[.pointer (some ⟨p, 0, none⟩), .int .i64 0]) ∧ BN w' p (ofN [] L).1 R ∧ w.heap.size ≤ p ∧ (∀ g ∈ R, w.heap.size ≤ g) ∧ Chg [] w w')
set_option maxRecDepth 100000 in
set_option maxHeartbeats 4000000 in
theorem jb_of {w : World} {A : Option Addr} {n c : Nat} {Q : List JV} (hs : Go.Vx.Src w 6 A n (Q.flatMap jvEnc)) (hn : n ≤ 100000) (ho : ∀ q ∈ Q, JOk w q) (hb : ∀ q ∈ Q, q.j.lines.length ≤ 1000000 ∧ q.j.ref.size ≤ maxLen) :
    Calls Try.prog 21 #[.slice A n c] w (OfPost w (jns Q)) := by
  have hl : Q.length = n := by have := hs.1; rw [flatMap_len jvEnc_len] at this; omega
  obtain ⟨PP, hPP⟩ : ∃ PP, PP = OfPost w (jns Q) := ⟨_, rfl⟩
  rw [← hPP]
  replace hPP := Lib.hid hPP
  replace hl := Lib.hid hl
  replace ho := Lib.hid ho
  replace hb := Lib.hid hb
  have hz0 := (Chg.refl [] w).alloc (.cells #[.slice none 0 0] 26)
  have hB0 := BN.new w
  go_enter Try.func21, Try.ntmps21
  go_wp2_with fail
  obtain ⟨w1, hw1⟩ : ∃ w1, w1 = w.alloc (.cells #[.slice none 0 0] 26) := ⟨_, rfl⟩
  rw [← hw1] at hB0 hz0 ⊢
  clear hw1
  obtain ⟨p, hp⟩ : ∃ p, w.heap.size = p := ⟨_, rfl⟩
  rw [hp] at hB0 ⊢
  replace hp := Lib.hid hp
  go_loopw [15] (fun iv wr => ∃ (k : Nat) (B : List Jn) (R : List Nat), k ≤ n ∧ iv = .int .i64 k ∧ BN wr p B R ∧ ofN B ((jns Q).drop k) = ofN [] (jns Q) ∧ (∀ g ∈ R, w.heap.size ≤ g) ∧ Chg [] w wr) (fun iv _ => n - (intOf iv).toNat)
  case atStart => exact ⟨0, [], [], by omega, rfl, hB0, rfl, by simp, hz0⟩
  case round =>
    clear hB0 hz0
    obtain ⟨k, B, R, hk, rfl, hB, hof, hR, hz⟩ := hrel
    by_cases hlt : k < n
    · have hkl : k < Q.length := by rw [hl.out]; exact hlt
      have hlt2 : (k : Int) < (n : Int) := by omega
      have hkw : IntKind.i64.wrap ((k : Int) + 1) = (k : Int) + 1 := by rw [IntKind.wrap_i64]; omega
      obtain ⟨ad, rfl, c0, c1, c2, c3, c4, c5⟩ := jv_cells (hs.chg hz (by simp)) hkl
      obtain ⟨Ap, cp, hpp, hsp⟩ := ho.out _ (List.getElem_mem hkl)
      obtain ⟨hb1, hb2⟩ := hb.out _ (List.getElem_mem hkl)
      rw [hpp] at c4
      have hdr : (jns Q).drop k = Q[k].j :: (jns Q).drop (k + 1) := by
        rw [List.drop_eq_getElem_cons (by rw [List.length_map]; exact hkl)]
        simp
      rw [hdr] at hof
      have hst : ofN B (Q[k].j :: (jns Q).drop (k + 1)) = if postN B Q[k].j = 0 then ofN (insN B Q[k].j) ((jns Q).drop (k + 1)) else (B, postN B Q[k].j) := rfl
      rw [hst] at hof
      clear hst hdr hpp
      have hpost := fun W (z : Chg [] wr W) => bn_post (hB.keep z) Q[k].j (n := Q[k].j.lines.length) (c := cp) (hsp.chg (hz.trans' z) (by simp)) hb1 hb2
      generalize Q[k].j = x at *
      generalize Q[k] = y at *
      obtain ⟨i, e, r, s, l, v⟩ := x
      unfold jnV at hpost
      dsimp only at *
      have hpost2 := hpost _ ((Chg.refl [] wr).alloc (.cells #[.int .i64 i, .int .i64 e, .int .i64 r, .string s, .slice Ap l.length cp, .bool v] 31))
      have hzz := hz.alloc (.cells #[.int .i64 i, .int .i64 e, .int .i64 r, .string s, .slice Ap l.length cp, .bool v] 31)
      have hlt3 := hB.lt
      replace hof := Lib.hid hof
      replace hR := Lib.hid hR
      clear hpost hsp hb1 hb2 hB hz
      go_wp2_with fail
      refine hpost2.mono ?_
      rintro e' w2 ⟨rfl, R2, hB2, hf2, hz2⟩
      clear hpost2
      have hs1 := hzz.size
      have hzn := hzz.trans hz2 (fun g hg => .inr (by
        rcases List.mem_cons.1 hg with h | h
        · rw [h, ← hp.out]; exact Nat.le_refl _
        · exact hR.out g h))
      have hR2 : ∀ g ∈ R2, w.heap.size ≤ g := fun g hg => (hf2 g hg).elim (hR.out g) (fun h => by omega)
      replace hR2 := Lib.hid hR2
      replace hB2 := Lib.hid hB2
      clear hf2 hz2 hzz hR
      by_cases h0 : postN B ⟨i, e, r, s, l, v⟩ = 0
      · rw [h0]
        have hof2 := hof.out
        rw [if_pos h0] at hof2
        have hB3 := hB2.out
        rw [if_pos h0] at hB3
        replace hof2 := Lib.hid hof2
        replace hB3 := Lib.hid hB3
        clear hof hB2 h0
        go_wp2_with fail
        exact ⟨⟨k + 1, insN B ⟨i, e, r, s, l, v⟩, R2, by omega, by go_num, hB3.out, hof2.out, hR2.out, hzn⟩, by simp [intOf]; omega⟩
      · have hof2 := hof.out
        rw [if_neg h0] at hof2
        have hb0 : (postN B ⟨i, e, r, s, l, v⟩ != 0) = true := by simp [h0]
        replace h0 := Lib.hid h0
        generalize postN B ⟨i, e, r, s, l, v⟩ = E at *
        replace hof2 := Lib.hid hof2
        clear hof hB2
        go_wp2_with fail
        rw [hPP.out]
        refine ⟨fun _ => ⟨by rw [← hof2.out]; rfl, hzn⟩, fun h => absurd (by rw [← hof2.out] at h; exact h) h0.out⟩
    · obtain rfl : k = n := by omega
      have hdr : (jns Q).drop k = [] := List.drop_eq_nil_of_le (by rw [List.length_map, hl.out]; exact Nat.le_refl _)
      rw [hdr] at hof
      replace hof : (B, (0 : Int)) = ofN [] (jns Q) := hof
      replace hof := Lib.hid hof
      clear hdr
      go_wp2_with fail
      rw [hPP.out]
      refine ⟨fun h => absurd (by rw [← hof.out]) h, fun _ => ⟨p, R, rfl, by rw [← hof.out]; exact hB, by rw [hp.out]; exact Nat.le_refl _, hR, hz⟩⟩
set_option maxRecDepth 100000 in
set_option maxHeartbeats 4000000 in
theorem l6_of {w : World} {A : Option Addr} {n c : Nat} {Q : List JV} (hs : Go.Vx.Src w 6 A n (Q.flatMap jvEnc)) (hn : n ≤ 100000) (ho : ∀ q ∈ Q, JOk w q) (hb : ∀ q ∈ Q, q.j.lines.length ≤ 1000000 ∧ q.j.ref.size ≤ maxLen) (h0 : (ofN [] (jns Q)).2 = 0) :
    Calls Try.prog 12 #[.slice A n c] w fun e w' => ∃ p R, e = .returned (.pointer (some ⟨p, 0, none⟩)) ∧ BN w' p (ofN [] (jns Q)).1 R ∧ w.heap.size ≤ p ∧ (∀ g ∈ R, w.heap.size ≤ g) ∧ Chg [] w w' := by
  have hof := jb_of (c := c) hs hn ho hb
  unfold OfPost at hof
  rw [h0] at hof
  generalize (ofN [] (jns Q)).1 = L at *
  clear hs ho hb h0
  go_enter Try.func12, Try.ntmps12
  go_wp2_with fail
  refine hof.mono ?_
  rintro e w1 ⟨-, h⟩
  obtain ⟨p, R, rfl, hB, hp, hR, hz⟩ := h (by trivial)
  clear h hof
  replace hR := Lib.hid hR
  go_wp2_with fail
  go_ret
  exact ⟨p, R, rfl, hB, hp, hR.out, hz⟩
end Go.Proofs.Ytlgfmphjgijilaa
