/- BookOf: the reference's loop. -/
import Derived.Test.YtlgfmphjgijilaaJsF
namespace Go.Proofs.Ytlgfmphjgijilaa
open Go.RowKit Go.Vx
set_option linter.unusedVariables false
set_option linter.unusedSimpArgs false

/-- A block of a text, by its number. -/
def blockAt (n : Nat) : Code → Option Code
  | .block i c => if i = n then some (.block i c) else blockAt n c
  | .seq a b => match blockAt n a with
    | some c => some c
    | none => blockAt n b
  | .cond _ a b => match blockAt n a with
    | some c => some c
    | none => blockAt n b
  | .loop c => blockAt n c
  | .scope c => blockAt n c
  | _ => none
/-- What stands in a block. -/
def inAt (n : Nat) (c : Code) : Option Code := match blockAt n c with
  | some (.block _ c) => some c
  | _ => none
noncomputable def boBlock0 : Code := (Try.f5.body.bind (inAt 0)).getD .skip
set_option maxRecDepth 100000 in
set_option maxHeartbeats 8000000 in
theorem bo_loop {w w0 : World} {A : Option Addr} {n c : Nat} {l : List JV} (ha : RowOk w A n l) (hn : n ≤ 1000) (hb : ∀ q ∈ l, q.j.ref.size ≤ maxLen) (hz0 : Chg [] w w0)
    (x1 x2 x3 x4 x5 x6 x7 x11 x12 x13 x14 x15 x16 x17 x18 x19 x20 x21 x22 x23 x24 x25 x26 x27 x28 x29 x30 x31 x32 x33 x34 x35 x36 x37 x38 x39 x40 x41 x42 x43 x44 x45 x46 x47 x48 x49 x50 x51 x52 x53 x54 x55 x56 x57 x58 x59 x60 x61 x62 x63 x64 x65 x66 x67 x68 x69 x70 x71 x72 x73 x74 x75 x76 x77 x78 x79 x80 x81 x82 x83 x84 x85 x86 x87 x88 x89 x90 x91 x92 x93 x94 x95 x96 x97 x98 x99 x100 x101 x102 x103 x104 x105 x106 x107 x108 x109 x110 x111 x112 x113 x114 x115 x116 x117 x118 x119 : Value) (Q : Exit → Act → World → Prop)
    (hQ : ∀ (wx : World) (B : List Jn) (E : Int) (rv : Value) (y10 y29 y30 y31 y32 y33 y34 y35 y36 y37 y38 y39 y40 y41 y42 y43 y44 y45 y46 y47 y48 y49 y50 y51 y52 : Value), ofN [] (jns l) = (B, E) → FitAt w B rv wx → Q (.exit 0) ⟨#[.slice A n c, x1, x2, x3, x4, x5, x6, x7, rv, .int .i64 E, y10, x11, x12, x13, x14, x15, x16, x17, x18, x19, x20, x21, x22, x23, x24, x25, x26, x27, x28, y29, y30, y31, y32, y33, y34, y35, y36, y37, y38, y39, y40, y41, y42, y43, y44, y45, y46, y47, y48, y49, y50, y51, y52, x53, x54, x55, x56, x57, x58, x59, x60, x61, x62, x63, x64, x65, x66, x67, x68, x69, x70, x71, x72, x73, x74, x75, x76, x77, x78, x79, x80, x81, x82, x83, x84, x85, x86, x87, x88, x89, x90, x91, x92, x93, x94, x95, x96, x97, x98, x99, x100, x101, x102, x103, x104, x105, x106, x107, x108, x109, x110, x111, x112, x113, x114, x115, x116, x117, x118, x119], []⟩ wx) :
    Code.wp Try.prog boBlock0 Q ⟨#[.slice A n c, x1, x2, x3, x4, x5, x6, x7, .slice none 0 0, .int .i64 0, .int .i64 0, x11, x12, x13, x14, x15, x16, x17, x18, x19, x20, x21, x22, x23, x24, x25, x26, x27, x28, x29, x30, x31, x32, x33, x34, x35, x36, x37, x38, x39, x40, x41, x42, x43, x44, x45, x46, x47, x48, x49, x50, x51, x52, x53, x54, x55, x56, x57, x58, x59, x60, x61, x62, x63, x64, x65, x66, x67, x68, x69, x70, x71, x72, x73, x74, x75, x76, x77, x78, x79, x80, x81, x82, x83, x84, x85, x86, x87, x88, x89, x90, x91, x92, x93, x94, x95, x96, x97, x98, x99, x100, x101, x102, x103, x104, x105, x106, x107, x108, x109, x110, x111, x112, x113, x114, x115, x116, x117, x118, x119], []⟩ w0 := by
  conv => arg 2; whnf
  dsimp only at hQ ⊢
  replace hQ := Lib.hid hQ
  have hl := Lib.hid ha.2.2.2
  replace ha := Lib.hid ha
  replace hb := Lib.hid hb
  go_loopw [8, 9, 10] (fun ov bv iv wr => ∃ (k : Nat) (acc : List Jn) (bad : Int), k ≤ n ∧ iv = .int .i64 k ∧ bv = .int .i64 bad ∧ FitAt w acc ov wr ∧ Good acc ∧ acc.length ≤ k ∧ ((bad = 0 ∧ ofN acc ((jns l).drop k) = ofN [] (jns l)) ∨ (bad ≠ 0 ∧ ofN [] (jns l) = (acc, bad)))) (fun _ bv iv _ => n - (intOf iv).toNat)
  case atStart => exact ⟨0, [], 0, by omega, rfl, rfl, ⟨[], [], Fix.nil _ _ _, rfl, by simp, by simp, hz0⟩, Good.nil, by simp, .inl ⟨rfl, rfl⟩⟩
  case round =>
    obtain ⟨k, acc, bad, hk, rfl, rfl, hfa, hg, hal, hof⟩ := hrel
    rcases hof with ⟨rfl, hof⟩ | ⟨hb0, hof⟩
    · by_cases hlt : k < n
      · obtain ⟨X, F, hfx, rfl, hX, hF, hz⟩ := hfa
        obtain ⟨A5, c5, rfl, -, -, -, -⟩ := _root_.id hfx
        have hXl : X.length ≤ 1000 := by rw [List.length_map] at hal; omega
        have hkl : k < l.length := by rw [hl.out]; exact hlt
        have hlt2 : (k : Int) < (n : Int) := by omega
        have hkw : IntKind.i64.wrap ((k : Int) + 1) = (k : Int) + 1 := by rw [IntKind.wrap_i64]; omega
        obtain ⟨ad, Ap, cp, rfl, c0, c1, c2, c3, c4, c5', hsp, hm⟩ := (ha.out.keep hz).cells hkl
        have hr := hb.out _ (List.getElem_mem hkl)
        have hcell := fun W (z : Chg [] w W) => jv_cells (ha.out.1.chg z (by simp)) hkl
        obtain ⟨Aq, cq, hpp, -⟩ := ha.out.2.1 _ (List.getElem_mem hkl)
        have hdr : (jns l).drop k = l[k].j :: (jns l).drop (k + 1) := by
          rw [List.drop_eq_getElem_cons (by rw [List.length_map]; exact hkl)]
          simp
        rw [hdr] at hof
        have hst : ofN (jns X) (l[k].j :: (jns l).drop (k + 1)) = if postN (jns X) l[k].j = 0 then ofN (insN (jns X) l[k].j) ((jns l).drop (k + 1)) else (jns X, postN (jns X) l[k].j) := rfl
        rw [hst] at hof
        obtain ⟨ad0, e0, -, -, -, -, d4, -⟩ := hcell _ hz
        injection e0 with e0
        subst e0
        rw [hpp] at d4
        have hpe : Value.slice Aq l[k].j.lines.length cq = .slice Ap l[k].j.lines.length cp := by
          rw [c4] at d4
          injection d4 with d4
          exact d4.symm
        injection hpe with q1 _ q3
        subst q1 q3
        have hpost := r1_post (c := c5) (Fix.src hfx) (by omega) (fun x hx => (hX x hx).ok) l[k].j (c1 := cq) hsp hm hr
        have hput := fun W (z : Chg [] wr W) => r1_put (c := c5) (Fix.src (hfx.chg z (by simp))) (by omega) (fun x hx => ((hX x hx).keep z).ok) l[k].j (c1 := cq) (hsp.chg z (by simp)) hm
        rw [post_jns] at hpost
        have hgi := hg.ins (j := l[k].j)
        have hln := len_insN l[k].j (jns X)
        have hFA : ∀ W, Chg [] wr W → FitAt w (jns X) (.slice A5 X.length c5) W := fun W z => ⟨X, F, hfx.chg z (by simp), rfl, fun x hx => (hX x hx).keep z, hF, hz.trans' z⟩
        have hsz0 := hz.size
        replace hFA := Lib.hid hFA
        replace hpp := Lib.hid hpp
        replace hput := Lib.hid hput
        replace hcell := Lib.hid hcell
        replace hgi := Lib.hid hgi
        replace hg := Lib.hid hg
        replace hal := Lib.hid hal
        replace hln := Lib.hid hln
        clear hst hdr hsp hm hr hfx hX hF d4
        generalize l[k].j = j at *
        generalize l[k] = y at *
        obtain ⟨i, e, r, s, ll, v⟩ := j
        unfold jnV at hpost hput
        dsimp only at *
        by_cases h0 : postN (jns X) ⟨i, e, r, s, ll, v⟩ = 0
        · rw [if_pos h0] at hof
          rw [h0] at hpost
          have hgi2 := hgi.out h0
          replace hof := Lib.hid hof
          replace hgi2 := Lib.hid hgi2
          clear hgi h0
          go_wp2_with fail
          refine hpost.mono ?_
          rintro e' w2 ⟨rfl, hz2⟩
          clear hpost
          obtain ⟨ad', ha', d0, d1, d2, d3, d4, d5⟩ := hcell.out _ (hz.trans' hz2)
          injection ha' with ha'
          subst ha'
          rw [hpp.out] at d4
          clear c0 c1 c2 c3 c4 c5'
          have hzz := hz.trans' hz2
          have hsz := hzz.size
          go_wp2_with fail
          refine (hput.out _ hz2).mono ?_
          rintro e' w3 ⟨X2, v2, F2, rfl, hfx2, hX2, hJ2, hF2, hz3⟩
          have hF3 : ∀ g ∈ F2, w.heap.size ≤ g := fun g hg => by have := hF2 g hg; omega
          rw [hgi2.out.1] at hX2
          have hFA2 : FitAt w (insN (jns X) ⟨i, e, r, s, ll, v⟩) v2 w3 := ⟨X2, F2, hfx2, hX2, hJ2, hF3, hzz.trans' hz3⟩
          replace hFA2 := Lib.hid hFA2
          clear hfx2 hX2 hJ2 hF2 hF3 hz3
          go_wp2_with fail
          exact ⟨⟨k + 1, _, 0, by omega, by go_num, rfl, hFA2.out, hgi2.out.2, by rw [hln.out]; have := hal.out; omega, .inl ⟨rfl, hof.out⟩⟩, by simp [intOf]; omega⟩
        · rw [if_neg h0] at hof
          have hb0 : (postN (jns X) ⟨i, e, r, s, ll, v⟩ == 0) = false := by simp [h0]
          replace h0 := Lib.hid h0
          generalize postN (jns X) ⟨i, e, r, s, ll, v⟩ = E at *
          replace hof := Lib.hid hof
          clear hput hcell hgi
          go_wp2_with fail
          refine hpost.mono ?_
          rintro e' w2 ⟨rfl, hz2⟩
          clear hpost
          go_wp2_with fail
          exact ⟨⟨k + 1, jns X, E, by omega, by go_num, rfl, hFA.out _ hz2, hg.out, by have := hal.out; omega, .inr ⟨h0.out, hof.out.symm⟩⟩, by simp [intOf]; omega⟩
      · obtain rfl : k = n := by omega
        have hdr : (jns l).drop k = [] := List.drop_eq_nil_of_le (by rw [List.length_map, hl.out]; exact Nat.le_refl _)
        rw [hdr] at hof
        have hof2 : ofN [] (jns l) = (acc, 0) := hof.symm
        replace hof2 := Lib.hid hof2
        clear hof hdr hg hal
        go_wp2_with fail
        exact hQ.out _ _ _ _ _ _ _ _ _ _ _ _ _ _ _ _ _ _ _ _ _ _ _ _ _ _ _ _ _ hof2.out hfa
    · have hb1 : (bad == 0) = false := by simp [hb0]
      replace hof := Lib.hid hof
      clear hb0 hg hal
      by_cases hlt : k < n
      · have hlt2 : (k : Int) < (n : Int) := by omega
        go_wp2_with fail
        exact hQ.out _ _ _ _ _ _ _ _ _ _ _ _ _ _ _ _ _ _ _ _ _ _ _ _ _ _ _ _ _ hof.out hfa
      · have hlt2 : ¬ (k : Int) < (n : Int) := by omega
        go_wp2_with fail
        exact hQ.out _ _ _ _ _ _ _ _ _ _ _ _ _ _ _ _ _ _ _ _ _ _ _ _ _ _ _ _ _ hof.out hfa
end Go.Proofs.Ytlgfmphjgijilaa
