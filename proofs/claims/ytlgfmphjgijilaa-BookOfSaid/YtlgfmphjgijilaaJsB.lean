/- Journals: All, Same of books. -/
import Derived.Test.YtlgfmphjgijilaaJsA
namespace Go.Proofs.Ytlgfmphjgijilaa
open Go.RowKit Go.Vx
set_option linter.unusedVariables false
set_option linter.unusedSimpArgs false

def AllAt (w : World) (Q : List JV) (k : Nat) (v : Value) (W : World) : Prop := ∃ X F, Fix W 31 6 v X.length (X.flatMap jvEnc) F ∧ jns X = (jns Q).take k ∧ (∀ x ∈ X, JAp W F x) ∧ (∀ g ∈ F, w.heap.size ≤ g) ∧ Chg [] w W
set_option maxRecDepth 100000 in
set_option maxHeartbeats 4000000 in
theorem jb_all {w : World} {p : Nat} {Q : List JV} {R : List Nat} (hb : BAt w p Q R) (hn : Q.length ≤ 1000) (hll : ∀ q ∈ Q, q.j.lines.length ≤ 1000000) :
    Calls Try.prog 26 #[.pointer (some ⟨p, 0, none⟩)] w (FitPost w (jns Q)) := by
  obtain ⟨i1, hi1, k0, k1, k2⟩ := info_parts jnInfo
  obtain ⟨A, c, Ft, ca, -, hfx, -, -, hle, hcm⟩ := hb.head
  have hsrc := Fix.src hfx
  have hok : ∀ q ∈ Q, JOk w q := fun q hq => by
    have h := hb.each q hq
    obtain ⟨A, c, hv, -⟩ := _root_.id h
    rw [hv] at h
    exact ⟨A, c, hv, Fix.src h⟩
  obtain ⟨PP, hPP⟩ : ∃ PP, PP = FitPost w (jns Q) := ⟨_, rfl⟩
  rw [← hPP]
  obtain ⟨n, hnn⟩ : ∃ n, Q.length = n := ⟨_, rfl⟩
  rw [hnn] at ca hle hsrc hn
  replace hnn := Lib.hid hnn
  replace hPP := Lib.hid hPP
  replace hok := Lib.hid hok
  replace hll := Lib.hid hll
  clear hfx hb
  go_enter Try.func26, Try.ntmps26
  go_wp2_with fail
  go_loopw [3, 13] (fun ov iv wr => ∃ k : Nat, k ≤ n ∧ iv = .int .i64 k ∧ AllAt w Q k ov wr) (fun _ iv _ => n - (intOf iv).toNat)
  case atStart => exact ⟨0, by omega, rfl, [], [], Fix.nil _ _ _, rfl, by simp, by simp, Chg.refl _ _⟩
  case round =>
    obtain ⟨k, hk, rfl, X, F, hfx, hX, hJ, hF, hz⟩ := hrel
    have hXl : X.length = k := by
      have := congrArg List.length hX
      rw [List.length_map, List.length_take, List.length_map, hnn.out] at this
      omega
    by_cases hlt : k < n
    · have hkl : k < Q.length := by rw [hnn.out]; exact hlt
      have hlt2 : (k : Int) < (n : Int) := by omega
      have hkw : IntKind.i64.wrap ((k : Int) + 1) = (k : Int) + 1 := by rw [IntKind.wrap_i64]; omega
      obtain ⟨ad, rfl, c0, c1, c2, c3, c4, c5⟩ := jv_cells (hsrc.chg hz (by simp)) hkl
      obtain ⟨Ap, cp, hpp, hsp⟩ := hok.out _ (List.getElem_mem hkl)
      have hm := hll.out _ (List.getElem_mem hkl)
      rw [hpp] at c4
      have htk : (jns Q).take (k + 1) = (jns Q).take k ++ [Q[k].j] := by
        rw [List.take_succ_eq_append_getElem (by rw [List.length_map]; exact hkl)]
        simp
      have hcp := fun W (z : Chg [] wr W) => jo_copy Q[k].j (c := cp) (hsp.chg (hz.trans' z) (by simp)) hm
      have hone : ∀ u ∈ X.flatMap jvEnc, u.oneCell' = true := fun u hu => by
        obtain ⟨x, hx, hu⟩ := List.mem_flatMap.1 hu
        exact (hJ x hx).one u hu
      clear hpp hsp hm
      generalize Q[k].j = j at *
      generalize Q[k] = y at *
      obtain ⟨i, e, r, s, l, v⟩ := j
      unfold jnV at hcp
      dsimp only at *
      have hcp2 := hcp _ ((Chg.refl [] wr).alloc (.cells #[.int .i64 i, .int .i64 e, .int .i64 r, .string s, .slice Ap l.length cp, .bool v] 31))
      have hw1 := (Chg.refl [] wr).alloc (.cells #[.int .i64 i, .int .i64 e, .int .i64 r, .string s, .slice Ap l.length cp, .bool v] 31)
      replace hfx := Lib.hid hfx
      replace hJ := Lib.hid hJ
      replace hF := Lib.hid hF
      replace hX := Lib.hid hX
      replace hXl := Lib.hid hXl
      replace htk := Lib.hid htk
      replace hz := Lib.hid hz
      replace hw1 := Lib.hid hw1
      clear hcp hone
      go_wp2_with fail
      refine hcp2.mono ?_
      rintro e' w2 ⟨vj, Fj, rfl, hfj, hFj, hz2⟩
      obtain ⟨Aj, cj, rfl, -⟩ := _root_.id hfj
      clear hcp2
      have hw2 := (hw1.out.trans' hz2).alloc (.cells #[.int .i64 i, .int .i64 e, .int .i64 r, .string s, .slice Aj l.length cj, .bool v] 31)
      have hX2 : ∀ x ∈ X, JAp (w2.alloc (.cells #[.int .i64 i, .int .i64 e, .int .i64 r, .string s, .slice Aj l.length cj, .bool v] 31)) F x := fun x hx => (hJ.out x hx).keep hw2
      have hfx2 := hfx.out.chg hw2 (by simp)
      have hz2w := hz.out.trans' hw2
      have hyj := fix_jap (j := ⟨i, e, r, s, l, v⟩) (hfj.alloc (.cells #[.int .i64 i, .int .i64 e, .int .i64 r, .string s, .slice Aj l.length cj, .bool v] 31)) hfx2
      have hpush3 := fun v v3 w3 F3 => put_push (w1 := w) (v := v) (v' := v3) (W' := w3) (F' := F3) hX2 hF.out hz2w hyj
      replace hpush3 := Lib.hid hpush3
      replace hfx2 := Lib.hid hfx2
      clear hX2 hw2 hz2w hyj hfj hFj hz2
      go_wp2_with (
        at_builtin
        refine wpList_append_fix rfl (.tmp 17) (.tmp 20) 24 rfl Try.underlying24 hi1 k0 k1 k2 rfl (by omega) rfl hfx2.out rfl (show Go.Vx.Src _ 6 (some ⟨w2.heap.size, 0, none⟩) 1 (jvEnc ⟨⟨i, e, r, s, l, v⟩, .slice Aj l.length cj, Fj⟩) from blk_src (size := 6) (Blk.new_at rfl) rfl) (one_jv rfl) (by unfold maxLen; have := hXl.out; omega) (by have := hXl.out; omega) ?_
        intro v3 w3 F3 hA3
        have hp3 := hpush3.out _ v3 w3 F3 hA3
        clear hA3
        replace hp3 := Lib.hid hp3)
      exact ⟨⟨k + 1, by omega, by go_num, _, F3, hp3.out.1, by rw [htk.out, ← hX.out]; simp [jns], hp3.out.2.1, hp3.out.2.2.1, hp3.out.2.2.2⟩, by simp [intOf]; omega⟩
    · obtain rfl : k = n := by omega
      rw [List.take_of_length_le (by rw [List.length_map, hnn.out]; exact Nat.le_refl _)] at hX
      replace hfx := Lib.hid hfx
      replace hJ := Lib.hid hJ
      replace hF := Lib.hid hF
      replace hX := Lib.hid hX
      clear hXl
      go_wp2_with fail
      rw [hPP.out]
      exact ⟨X, _, F, rfl, hfx.out, hX.out, hJ.out, hF.out, hz⟩
theorem fit_row {w w' : World} {X : List JV} {F : List Nat} {A : Option Addr} {c : Nat} (h1 : Fix w 31 6 (.slice A X.length c) X.length (X.flatMap jvEnc) F) (h2 : ∀ x ∈ X, JAp w F x) (h3 : ∀ x ∈ X, x.j.lines.length ≤ 1000000) : RowOk w A X.length X := ⟨Fix.src h1, fun x hx => (h2 x hx).ok, h3, rfl⟩
theorem bn_all {w : World} {p : Nat} {L : List Jn} {R : List Nat} (h : BN w p L R) : Calls Try.prog 26 #[.pointer (some ⟨p, 0, none⟩)] w (FitPost w L) := by
  obtain ⟨Q, rfl, h1, h2, h3, h4, h5⟩ := h
  exact jb_all h1 (by omega) (fun q hq => by have := h4 q hq; omega)
theorem BN.lines {w : World} {p : Nat} {L : List Jn} {R : List Nat} (h : BN w p L R) : ∀ j ∈ L, j.lines.length ≤ 8 := by
  obtain ⟨Q, rfl, h1, h2, h3, h4, h5⟩ := h
  intro j hj
  obtain ⟨q, hq, rfl⟩ := List.mem_map.1 hj
  exact h4 q hq
set_option maxRecDepth 100000 in
set_option maxHeartbeats 4000000 in
theorem bn_same {w : World} {p p2 : Nat} {L : List Jn} {R R2 : List Nat} (h : BN w p L R) (h2 : BN w p2 L R2) : Calls Try.prog 27 #[.pointer (some ⟨p, 0, none⟩), .pointer (some ⟨p2, 0, none⟩)] w fun e w' => e = .returned (.bool true) ∧ Chg [] w w' := by
  have ha := bn_all h
  have hb := fun W (z : Chg [] w W) => bn_all (h2.keep z)
  have hl := h.lines
  have hlen := h.len
  replace hb := Lib.hid hb
  replace hl := Lib.hid hl
  replace hlen := Lib.hid hlen
  clear h h2
  go_enter Try.func27, Try.ntmps27
  go_wp2_with fail
  refine ha.mono ?_
  rintro e w1 ⟨X, v, F, rfl, hfx, hX, hJ, hF, hz1⟩
  obtain ⟨A, c, rfl, -⟩ := _root_.id hfx
  have hlX : ∀ x ∈ X, x.j.lines.length ≤ 1000000 := fun x hx => by have := hl.out x.j (by rw [← hX]; exact List.mem_map.2 ⟨x, hx, rfl⟩); omega
  have hrow := fit_row (w' := w1) hfx hJ hlX
  have hXl : X.length = L.length := by rw [← hX, List.length_map]
  replace hrow := Lib.hid hrow
  replace hX := Lib.hid hX
  replace hXl := Lib.hid hXl
  clear hfx hJ hF hlX ha
  go_wp2_with fail
  refine (hb.out _ hz1).mono ?_
  rintro e w2 ⟨Y, v2, F2, rfl, hfy, hY, hJ2, hF2, hz2⟩
  obtain ⟨B, d, rfl, -⟩ := _root_.id hfy
  have hlY : ∀ x ∈ Y, x.j.lines.length ≤ 1000000 := fun x hx => by have := hl.out x.j (by rw [← hY]; exact List.mem_map.2 ⟨x, hx, rfl⟩); omega
  have hrow2 := fit_row (w' := w2) hfy hJ2 hlY
  have hYl : Y.length = X.length := by rw [hXl.out, ← hY, List.length_map]
  rw [hYl] at hrow2 ⊢
  have heq := jb_eqf (c := c) (d := d) (hrow.out.keep hz2) hrow2 (by have := hXl.out; have := hlen.out; omega) (by rw [hX.out, hY])
  clear hfy hJ2 hF2 hlY hY hYl hrow2
  go_wp2_with fail
  refine heq.mono ?_
  rintro e w3 ⟨rfl, hz3⟩
  go_wp2_with fail
  go_ret
  exact ⟨rfl, (hz1.trans' hz2).trans' hz3⟩
end Go.Proofs.Ytlgfmphjgijilaa
