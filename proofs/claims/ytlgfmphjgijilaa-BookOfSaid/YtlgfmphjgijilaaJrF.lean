/- Journals: the reference's Put, walked. Printed by wip/jrf.py. -/
import Derived.Test.YtlgfmphjgijilaaJrE
namespace Go.Proofs.Ytlgfmphjgijilaa
open Go.RowKit Go.Vx
set_option linter.unusedVariables false
set_option linter.unusedSimpArgs false

theorem JAp.push {W W' : World} {F F' : List Nat} {x : JV} (h : JAp W F x) (k : Chg F W W') (hF : ∀ g ∈ F', g ∈ F ∨ W.heap.size ≤ g) : JAp W' F' x := by
  have h1 := h.chg k (fun g hg => .inl hg)
  obtain ⟨A, c, e1, e2, e3⟩ := h
  obtain ⟨A', c', f1, f2, f3⟩ := h1
  rw [e1] at f1
  injection f1 with f1 _ f4
  subst f1 f4
  exact ⟨A, c, e1, f2, fun ad ha hl => ⟨fun hm => (hF _ hm).elim (e3 ad ha hl).1 (fun h => by have := (e3 ad ha hl).2; omega), (f3 ad ha hl).2⟩⟩
theorem put_push {w1 W W' : World} {X : List JV} {v v' : Value} {F F' : List Nat} {y : JV} (hX : ∀ x ∈ X, JAp W F x) (hF : ∀ g ∈ F, w1.heap.size ≤ g) (hz : Chg [] w1 W) (hy : JAp W F y)
    (hA : Appended W W' 31 6 v v' X.length 1 (X.flatMap jvEnc) (jvEnc y) F F') :
    Fix W' 31 6 v' (X ++ [y]).length ((X ++ [y]).flatMap jvEnc) F' ∧ (∀ x ∈ X ++ [y], JAp W' F' x) ∧ (∀ g ∈ F', w1.heap.size ≤ g) ∧ Chg [] w1 W' := by
  have hzs := hz.size
  have hmv : ∀ g ∈ F', g ∈ F ∨ W.heap.size ≤ g := fun g hg => by
    rcases hA.foot with h | h
    · exact .inl (h ▸ hg)
    · rw [h, List.mem_singleton] at hg; exact .inr (by omega)
  refine ⟨by have := hA.fix; simpa using this, fun x hx => ?_, fun g hg => (hmv g hg).elim (hF g) (fun h => by omega), hz.trans hA.chg (fun g hg => .inr (hF g hg))⟩
  rcases List.mem_append.1 hx with hx | hx
  · exact (hX x hx).push hA.chg hmv
  · rw [List.mem_singleton.1 hx]; exact hy.push hA.chg hmv
theorem fix_jap {W : World} {F Fj : List Nat} {v u : Value} {n : Nat} {xs : List Value} {j : Jn} (hj : Fix W 28 3 v j.lines.length (j.lines.flatMap lnEnc) Fj) (hf : Fix W 31 6 u n xs F) : JAp W F ⟨j, v, Fj⟩ := by
  have hd := hj.disj hf (by decide)
  have hlt := hj.lt
  obtain ⟨A, c, rfl, -, h1, -, h4⟩ := id hj
  refine ⟨A, c, rfl, Fix.src hj, fun ad ha hl => ?_⟩
  have hp := List.length_pos_iff.2 hl
  rcases h4 with ⟨h0, -⟩ | ⟨g, cur, h, rfl, -⟩
  · dsimp only at hp; omega
  · rw [h] at ha
    injection ha with ha
    subst ha
    exact ⟨hd g (by simp), hlt g (by simp)⟩
theorem put_next {w1 W : World} {Q X : List JV} {J : Jn} {k : Nat} {v : Value} {d : Bool} {F : List Nat} {L : List Jn} (h1 : Fix W 31 6 v X.length (X.flatMap jvEnc) F) (h2 : ∀ x ∈ X, JAp W F x) (h3 : ∀ g ∈ F, w1.heap.size ≤ g) (h4 : X.length ≤ 2 * (k + 1)) (h5 : Chg [] w1 W) (h6 : jns X = L)
    (h7 : Hid (stP ((jns Q).take (k + 1)) J = (L, d))) : PutAt w1 Q J (k + 1) v d W := ⟨X, F, h1, by rw [h7.out, h6], by rw [h7.out], h2, h3, h4, h5⟩
set_option maxRecDepth 100000 in
set_option maxHeartbeats 8000000 in
theorem r1_put {w : World} {A : Option Addr} {n c : Nat} {Q : List JV} (hs : Go.Vx.Src w 6 A n (Q.flatMap jvEnc)) (hn : n ≤ 100000) (ho : ∀ q ∈ Q, JOk w q) (j : Jn) {A1 : Option Addr} {c1 : Nat} (hj : Go.Vx.Src w 3 A1 j.lines.length (j.lines.flatMap lnEnc)) (hm : j.lines.length ≤ 1000000) :
    Calls Try.prog 23 #[.slice A n c, jnV j (.slice A1 j.lines.length c1)] w (PutPost w Q j) := by
  obtain ⟨i1, hi1, k0, k1, k2⟩ := info_parts jnInfo
  have hl : Q.length = n := by have := hs.1; rw [flatMap_len jvEnc_len] at this; omega
  have hcp := fun W (k : Chg [] w W) => r1_copy j (c := c1) (hj.chg k (by simp)) hm
  obtain ⟨PP, hPP⟩ : ∃ PP, PP = PutPost w Q j := ⟨_, rfl⟩
  rw [← hPP]
  obtain ⟨id, ent, per, ref, ll, void⟩ := j
  obtain ⟨J, hJ⟩ : ∃ J : Jn, J = ⟨id, ent, per, ref, ll, void⟩ := ⟨_, rfl⟩
  rw [← hJ] at hPP
  unfold jnV at *
  dsimp only at *
  have hB := Blk.new w 31 #[.int .i64 id, .int .i64 ent, .int .i64 per, .string ref, .slice A1 ll.length c1, .bool void]
  have hz0 := (Chg.refl [] w).alloc (.cells #[.int .i64 id, .int .i64 ent, .int .i64 per, .string ref, .slice A1 ll.length c1, .bool void] 31)
  replace hPP := Lib.hid hPP
  replace hl := Lib.hid hl
  replace ho := Lib.hid ho
  replace hcp := Lib.hid hcp
  replace hJ := Lib.hid hJ
  clear hj
  go_enter Try.func23, Try.ntmps23
  go_wp2_with fail
  obtain ⟨w1, hw1⟩ : ∃ w1, w1 = w.alloc (.cells #[.int .i64 id, .int .i64 ent, .int .i64 per, .string ref, .slice A1 ll.length c1, .bool void] 31) := ⟨_, rfl⟩
  have hsz1 : w1.heap.size = w.heap.size + 1 := by rw [hw1]; simp
  rw [← hw1] at hB hz0 ⊢
  clear hw1
  obtain ⟨jb, hjb⟩ : ∃ jb, w.heap.size = jb := ⟨_, rfl⟩
  rw [hjb] at hB hsz1 ⊢
  replace hjb := Lib.hid hjb
  replace hsz1 := Lib.hid hsz1
  have hBc := fun W (k : Chg [] w1 W) => hB.chg k (by simp)
  replace hBc := Lib.hid hBc
  clear hB
  go_loopw [5, 6, 7] (fun ov dv iv wr => ∃ (k : Nat) (d : Bool), k ≤ n ∧ iv = .int .i64 k ∧ dv = .bool d ∧ PutAt w1 Q J k ov d wr) (fun _ _ iv _ => n - (intOf iv).toNat)
  case atStart => exact ⟨0, false, by omega, rfl, rfl, [], [], Fix.nil _ _ _, rfl, rfl, by simp, by simp, by simp, Chg.refl _ _⟩
  case round =>
    obtain ⟨k, d, hk, rfl, rfl, X, F, hfx, hX, hd, hJ0, hF, hXl, hzr⟩ := hrel
    have hzw := hz0.trans' hzr
    have hone : ∀ u ∈ X.flatMap jvEnc, u.oneCell' = true := fun u hu => by
      obtain ⟨x, hx, hu⟩ := List.mem_flatMap.1 hu
      exact (hJ0 x hx).one u hu
    have hB2 := hBc.out _ hzr
    have d0 : wr.cell? ⟨jb, 0, none⟩ = some (.int .i64 id) := hB2.cell 0
    have d0' : wr.drew.cell? ⟨jb, 0, none⟩ = some (.int .i64 id) := d0
    have d1' : wr.drew.cell? ⟨jb, 1, none⟩ = some (.int .i64 ent) := hB2.cell 1
    have d2' : wr.drew.cell? ⟨jb, 2, none⟩ = some (.int .i64 per) := hB2.cell 2
    have d3' : wr.drew.cell? ⟨jb, 3, none⟩ = some (.string ref) := hB2.cell 3
    have d4' : wr.drew.cell? ⟨jb, 4, none⟩ = some (.slice A1 ll.length c1) := hB2.cell 4
    have d5' : wr.drew.cell? ⟨jb, 5, none⟩ = some (.bool void) := hB2.cell 5
    clear hB2
    by_cases hlt : k < n
    · have hkl : k < Q.length := by rw [hl.out]; exact hlt
      have hlt2 : (k : Int) < (n : Int) := by omega
      have hkw : IntKind.i64.wrap ((k : Int) + 1) = (k : Int) + 1 := by rw [IntKind.wrap_i64]; omega
      have hstep := stP_take (jns Q) J (k := k) (by rw [List.length_map]; exact hkl)
      have hqj : (jns Q)[k]'(by rw [List.length_map]; exact hkl) = Q[k].j := List.getElem_map _
      rw [hqj] at hstep
      clear hqj
      have hcl := fun W (z : Chg [] w1 W) => jv_cells (hs.chg (hz0.trans' z) (by simp)) hkl
      obtain ⟨ad, hA, -⟩ := hcl _ hzr
      subst hA
      have hok := ho.out _ (List.getElem_mem hkl)
      have hyq := fun F (hF : ∀ g ∈ F, w1.heap.size ≤ g) W (z : Chg [] w1 W) => (hok.ap (F := F) (fun g hg => by have := hF g hg; have := hz0.size; omega)).keep (hz0.trans' z)
      generalize Q[k] = q at *
      obtain ⟨Aq, cq, hqp, -⟩ := _root_.id hok
      clear hok
      obtain ⟨⟨qi, qe, qp, qr, ql, qv⟩, qpv, qF⟩ := q
      dsimp only at hstep hcl hqp
      subst hqp
      have hcl' : ∀ W, Chg [] w1 W → W.cell? (ad.add (k * 6)) = some (.int .i64 qi) ∧ W.cell? ⟨(ad.add (k * 6)).block, (ad.add (k * 6)).off + 1, none⟩ = some (.int .i64 qe) ∧ W.cell? ⟨(ad.add (k * 6)).block, (ad.add (k * 6)).off + 2, none⟩ = some (.int .i64 qp) ∧
          W.cell? ⟨(ad.add (k * 6)).block, (ad.add (k * 6)).off + 3, none⟩ = some (.string qr) ∧ W.cell? ⟨(ad.add (k * 6)).block, (ad.add (k * 6)).off + 4, none⟩ = some (.slice Aq ql.length cq) ∧ W.cell? ⟨(ad.add (k * 6)).block, (ad.add (k * 6)).off + 5, none⟩ = some (.bool qv) := fun W z => by
        obtain ⟨ad', ha, h⟩ := hcl W z
        injection ha with ha
        subst ha
        exact h
      have c0 : wr.cell? (ad.add (k * 6)) = some (.int .i64 qi) := (hcl' _ hzr).1
      have c0' : wr.drew.cell? (ad.add (k * 6)) = some (.int .i64 qi) := c0
      have hE1 : ∀ b a d' : Bool, (!d && decide (id ≤ qi)) = b → (qi != id) = a → (d || decide (id ≤ qi)) = d' → ∀ L : List Jn, (jns X ++ (if b = true then [J] else [])) ++ (if a = true then [⟨qi, qe, qp, qr, ql, qv⟩] else []) = L → Hid (stP ((jns Q).take (k + 1)) J = (L, d')) := fun b a d' hb ha hd' L hL => Lib.hid (by
        have hid : J.id = id := by rw [hJ.out]
        rw [hstep]
        unfold stepP
        dsimp only
        rw [← hX, ← hd, hid, hb, ha, hd', hL])
      replace hcl' := Lib.hid hcl'
      replace hyq := Lib.hid hyq
      replace hfx := Lib.hid hfx
      replace hJ0 := Lib.hid hJ0
      replace hF := Lib.hid hF
      replace hone := Lib.hid hone
      replace hXl := Lib.hid hXl
      replace hzw := Lib.hid hzw
      replace hzr := Lib.hid hzr
      replace hE1 := Lib.hid hE1
      clear hcl hX hd hstep
      have hXd : ∀ x ∈ X, JAp wr.drew F x := fun x hx => (hJ0.out x hx).keep (Chg.refl [] _).drew
      replace hXd := Lib.hid hXd
      cases d with
      | true =>
        cases p1 : decide (id ≤ qi) with
        | false =>
          go_wp2_with fail
          go_region
          have a0 : wr.drew.cell? (ad.add (k * 6)) = some (.int .i64 qi) := (hcl'.out _ hzr.out.drew).1
          have a0' : wr.drew.drew.cell? (ad.add (k * 6)) = some (.int .i64 qi) := a0
          have a1 : wr.drew.cell? ⟨jb, 0, none⟩ = some (.int .i64 id) := (hBc.out _ hzr.out.drew).cell 0
          have a1' : wr.drew.drew.cell? ⟨jb, 0, none⟩ = some (.int .i64 id) := a1
          have e0 : wr.drew.drew.cell? (ad.add (k * 6)) = some (.int .i64 qi) := (hcl'.out _ hzr.out.drew).1
          have e1 : wr.drew.drew.cell? ⟨(ad.add (k * 6)).block, (ad.add (k * 6)).off + 1, none⟩ = some (.int .i64 qe) := (hcl'.out _ hzr.out.drew).2.1
          have e2 : wr.drew.drew.cell? ⟨(ad.add (k * 6)).block, (ad.add (k * 6)).off + 2, none⟩ = some (.int .i64 qp) := (hcl'.out _ hzr.out.drew).2.2.1
          have e3 : wr.drew.drew.cell? ⟨(ad.add (k * 6)).block, (ad.add (k * 6)).off + 3, none⟩ = some (.string qr) := (hcl'.out _ hzr.out.drew).2.2.2.1
          have e4 : wr.drew.drew.cell? ⟨(ad.add (k * 6)).block, (ad.add (k * 6)).off + 4, none⟩ = some (.slice Aq ql.length cq) := (hcl'.out _ hzr.out.drew).2.2.2.2.1
          have e5 : wr.drew.drew.cell? ⟨(ad.add (k * 6)).block, (ad.add (k * 6)).off + 5, none⟩ = some (.bool qv) := (hcl'.out _ hzr.out.drew).2.2.2.2.2
          cases p2 : (qi != id) with
          | false =>
            have hL := hE1.out false false true (by simp [p1]) p2 (by simp [p1]) (jns (X)) (by simp [jns])
            go_wp2_with fail
            go_region
            go_wp2_with fail
            refine ⟨⟨k + 1, _, by omega, by go_num, rfl, put_next (W := wr.drew.drew) hfx.out.drew.drew (fun x hx => (hXd.out x hx).keep (Chg.refl [] _).drew) hF.out (by have := hXl.out; simp at *; omega) hzr.out.drew.drew rfl hL⟩, by simp [intOf]; omega⟩
          | true =>
            have hL := hE1.out false true true (by simp [p1]) p2 (by simp [p1]) (jns (X ++ [⟨⟨qi, qe, qp, qr, ql, qv⟩, .slice Aq ql.length cq, qF⟩])) (by simp [jns])
            have hy := hyq.out _ hF.out _ (hzr.out.drew.drew.alloc (.cells #[.int .i64 qi, .int .i64 qe, .int .i64 qp, .string qr, .slice Aq ql.length cq, .bool qv] 31))
            have hpush := fun v v5 w5 F5 => put_push (w1 := w1) (v := v) (v' := v5) (W' := w5) (F' := F5) (fun x hx => (hXd.out x hx).keep ((Chg.refl [] wr.drew).drew.alloc (.cells #[.int .i64 qi, .int .i64 qe, .int .i64 qp, .string qr, .slice Aq ql.length cq, .bool qv] 31))) hF.out (hzr.out.drew.drew.alloc _) hy
            replace hpush := Lib.hid hpush
            clear hy
            go_wp2_with fail
            go_region
            go_wp2_with (
              at_builtin
              refine wpList_append_fix rfl (.tmp 39) (.tmp 44) 24 rfl Try.underlying24 hi1 k0 k1 k2 rfl (by omega) rfl (hfx.out.drew.drew.alloc _) rfl (show Go.Vx.Src _ 6 (some ⟨wr.drew.drew.heap.size, 0, none⟩) 1 (jvEnc ⟨⟨qi, qe, qp, qr, ql, qv⟩, .slice Aq ql.length cq, qF⟩) from blk_src (size := 6) (Blk.new_at rfl) rfl) (one_jv rfl) (by unfold maxLen; have := hXl.out; simp at *; omega) (by have := hXl.out; simp at *; omega) ?_
              intro v5 w5 F5 hA5
              have hp5 := hpush.out _ v5 w5 F5 hA5
              clear hA5
              replace hp5 := Lib.hid hp5)
            exact ⟨⟨k + 1, _, by omega, by go_num, rfl, put_next hp5.out.1 hp5.out.2.1 hp5.out.2.2.1 (by have := hXl.out; simp at *; omega) hp5.out.2.2.2 rfl hL⟩, by simp [intOf]; omega⟩
        | true =>
          go_wp2_with fail
          go_region
          have a0 : wr.drew.cell? (ad.add (k * 6)) = some (.int .i64 qi) := (hcl'.out _ hzr.out.drew).1
          have a0' : wr.drew.drew.cell? (ad.add (k * 6)) = some (.int .i64 qi) := a0
          have a1 : wr.drew.cell? ⟨jb, 0, none⟩ = some (.int .i64 id) := (hBc.out _ hzr.out.drew).cell 0
          have a1' : wr.drew.drew.cell? ⟨jb, 0, none⟩ = some (.int .i64 id) := a1
          have e0 : wr.drew.drew.cell? (ad.add (k * 6)) = some (.int .i64 qi) := (hcl'.out _ hzr.out.drew).1
          have e1 : wr.drew.drew.cell? ⟨(ad.add (k * 6)).block, (ad.add (k * 6)).off + 1, none⟩ = some (.int .i64 qe) := (hcl'.out _ hzr.out.drew).2.1
          have e2 : wr.drew.drew.cell? ⟨(ad.add (k * 6)).block, (ad.add (k * 6)).off + 2, none⟩ = some (.int .i64 qp) := (hcl'.out _ hzr.out.drew).2.2.1
          have e3 : wr.drew.drew.cell? ⟨(ad.add (k * 6)).block, (ad.add (k * 6)).off + 3, none⟩ = some (.string qr) := (hcl'.out _ hzr.out.drew).2.2.2.1
          have e4 : wr.drew.drew.cell? ⟨(ad.add (k * 6)).block, (ad.add (k * 6)).off + 4, none⟩ = some (.slice Aq ql.length cq) := (hcl'.out _ hzr.out.drew).2.2.2.2.1
          have e5 : wr.drew.drew.cell? ⟨(ad.add (k * 6)).block, (ad.add (k * 6)).off + 5, none⟩ = some (.bool qv) := (hcl'.out _ hzr.out.drew).2.2.2.2.2
          cases p2 : (qi != id) with
          | false =>
            have hL := hE1.out false false true (by simp [p1]) p2 (by simp [p1]) (jns (X)) (by simp [jns])
            go_wp2_with fail
            go_region
            go_wp2_with fail
            refine ⟨⟨k + 1, _, by omega, by go_num, rfl, put_next (W := wr.drew.drew) hfx.out.drew.drew (fun x hx => (hXd.out x hx).keep (Chg.refl [] _).drew) hF.out (by have := hXl.out; simp at *; omega) hzr.out.drew.drew rfl hL⟩, by simp [intOf]; omega⟩
          | true =>
            have hL := hE1.out false true true (by simp [p1]) p2 (by simp [p1]) (jns (X ++ [⟨⟨qi, qe, qp, qr, ql, qv⟩, .slice Aq ql.length cq, qF⟩])) (by simp [jns])
            have hy := hyq.out _ hF.out _ (hzr.out.drew.drew.alloc (.cells #[.int .i64 qi, .int .i64 qe, .int .i64 qp, .string qr, .slice Aq ql.length cq, .bool qv] 31))
            have hpush := fun v v5 w5 F5 => put_push (w1 := w1) (v := v) (v' := v5) (W' := w5) (F' := F5) (fun x hx => (hXd.out x hx).keep ((Chg.refl [] wr.drew).drew.alloc (.cells #[.int .i64 qi, .int .i64 qe, .int .i64 qp, .string qr, .slice Aq ql.length cq, .bool qv] 31))) hF.out (hzr.out.drew.drew.alloc _) hy
            replace hpush := Lib.hid hpush
            clear hy
            go_wp2_with fail
            go_region
            go_wp2_with (
              at_builtin
              refine wpList_append_fix rfl (.tmp 39) (.tmp 44) 24 rfl Try.underlying24 hi1 k0 k1 k2 rfl (by omega) rfl (hfx.out.drew.drew.alloc _) rfl (show Go.Vx.Src _ 6 (some ⟨wr.drew.drew.heap.size, 0, none⟩) 1 (jvEnc ⟨⟨qi, qe, qp, qr, ql, qv⟩, .slice Aq ql.length cq, qF⟩) from blk_src (size := 6) (Blk.new_at rfl) rfl) (one_jv rfl) (by unfold maxLen; have := hXl.out; simp at *; omega) (by have := hXl.out; simp at *; omega) ?_
              intro v5 w5 F5 hA5
              have hp5 := hpush.out _ v5 w5 F5 hA5
              clear hA5
              replace hp5 := Lib.hid hp5)
            exact ⟨⟨k + 1, _, by omega, by go_num, rfl, put_next hp5.out.1 hp5.out.2.1 hp5.out.2.2.1 (by have := hXl.out; simp at *; omega) hp5.out.2.2.2 rfl hL⟩, by simp [intOf]; omega⟩
      | false =>
        cases p1 : decide (id ≤ qi) with
        | false =>
          go_wp2_with fail
          go_region
          have a0 : wr.drew.cell? (ad.add (k * 6)) = some (.int .i64 qi) := (hcl'.out _ hzr.out.drew).1
          have a0' : wr.drew.drew.cell? (ad.add (k * 6)) = some (.int .i64 qi) := a0
          have a1 : wr.drew.cell? ⟨jb, 0, none⟩ = some (.int .i64 id) := (hBc.out _ hzr.out.drew).cell 0
          have a1' : wr.drew.drew.cell? ⟨jb, 0, none⟩ = some (.int .i64 id) := a1
          have e0 : wr.drew.drew.cell? (ad.add (k * 6)) = some (.int .i64 qi) := (hcl'.out _ hzr.out.drew).1
          have e1 : wr.drew.drew.cell? ⟨(ad.add (k * 6)).block, (ad.add (k * 6)).off + 1, none⟩ = some (.int .i64 qe) := (hcl'.out _ hzr.out.drew).2.1
          have e2 : wr.drew.drew.cell? ⟨(ad.add (k * 6)).block, (ad.add (k * 6)).off + 2, none⟩ = some (.int .i64 qp) := (hcl'.out _ hzr.out.drew).2.2.1
          have e3 : wr.drew.drew.cell? ⟨(ad.add (k * 6)).block, (ad.add (k * 6)).off + 3, none⟩ = some (.string qr) := (hcl'.out _ hzr.out.drew).2.2.2.1
          have e4 : wr.drew.drew.cell? ⟨(ad.add (k * 6)).block, (ad.add (k * 6)).off + 4, none⟩ = some (.slice Aq ql.length cq) := (hcl'.out _ hzr.out.drew).2.2.2.2.1
          have e5 : wr.drew.drew.cell? ⟨(ad.add (k * 6)).block, (ad.add (k * 6)).off + 5, none⟩ = some (.bool qv) := (hcl'.out _ hzr.out.drew).2.2.2.2.2
          cases p2 : (qi != id) with
          | false =>
            have hL := hE1.out false false false (by simp [p1]) p2 (by simp [p1]) (jns (X)) (by simp [jns])
            go_wp2_with fail
            go_region
            go_wp2_with fail
            refine ⟨⟨k + 1, _, by omega, by go_num, rfl, put_next (W := wr.drew.drew) hfx.out.drew.drew (fun x hx => (hXd.out x hx).keep (Chg.refl [] _).drew) hF.out (by have := hXl.out; simp at *; omega) hzr.out.drew.drew rfl hL⟩, by simp [intOf]; omega⟩
          | true =>
            have hL := hE1.out false true false (by simp [p1]) p2 (by simp [p1]) (jns (X ++ [⟨⟨qi, qe, qp, qr, ql, qv⟩, .slice Aq ql.length cq, qF⟩])) (by simp [jns])
            have hy := hyq.out _ hF.out _ (hzr.out.drew.drew.alloc (.cells #[.int .i64 qi, .int .i64 qe, .int .i64 qp, .string qr, .slice Aq ql.length cq, .bool qv] 31))
            have hpush := fun v v5 w5 F5 => put_push (w1 := w1) (v := v) (v' := v5) (W' := w5) (F' := F5) (fun x hx => (hXd.out x hx).keep ((Chg.refl [] wr.drew).drew.alloc (.cells #[.int .i64 qi, .int .i64 qe, .int .i64 qp, .string qr, .slice Aq ql.length cq, .bool qv] 31))) hF.out (hzr.out.drew.drew.alloc _) hy
            replace hpush := Lib.hid hpush
            clear hy
            go_wp2_with fail
            go_region
            go_wp2_with (
              at_builtin
              refine wpList_append_fix rfl (.tmp 39) (.tmp 44) 24 rfl Try.underlying24 hi1 k0 k1 k2 rfl (by omega) rfl (hfx.out.drew.drew.alloc _) rfl (show Go.Vx.Src _ 6 (some ⟨wr.drew.drew.heap.size, 0, none⟩) 1 (jvEnc ⟨⟨qi, qe, qp, qr, ql, qv⟩, .slice Aq ql.length cq, qF⟩) from blk_src (size := 6) (Blk.new_at rfl) rfl) (one_jv rfl) (by unfold maxLen; have := hXl.out; simp at *; omega) (by have := hXl.out; simp at *; omega) ?_
              intro v5 w5 F5 hA5
              have hp5 := hpush.out _ v5 w5 F5 hA5
              clear hA5
              replace hp5 := Lib.hid hp5)
            exact ⟨⟨k + 1, _, by omega, by go_num, rfl, put_next hp5.out.1 hp5.out.2.1 hp5.out.2.2.1 (by have := hXl.out; simp at *; omega) hp5.out.2.2.2 rfl hL⟩, by simp [intOf]; omega⟩
        | true =>
          go_wp2_with fail
          go_region
          have hcp2 := hcp.out _ hzw.out.drew
          go_wp2_with fail
          refine hcp2.mono ?_
          rintro e w2 ⟨vj, Fj, rfl, hfj, hFj, hz2⟩
          obtain ⟨Aj, cj, rfl, -⟩ := _root_.id hfj
          clear hcp2
          have hw2 := ((Chg.refl [] wr).drew.trans' hz2).alloc (.cells #[.int .i64 id, .int .i64 ent, .int .i64 per, .string ref, .slice Aj ll.length cj, .bool void] 31)
          have hX2 : ∀ x ∈ X, JAp (w2.alloc (.cells #[.int .i64 id, .int .i64 ent, .int .i64 per, .string ref, .slice Aj ll.length cj, .bool void] 31)) F x := fun x hx => (hJ0.out x hx).keep hw2
          have hfx2 := hfx.out.chg hw2 (by simp)
          have hz2w := hzr.out.trans' hw2
          have hyj := fix_jap (j := ⟨id, ent, per, ref, ll, void⟩) (hfj.alloc (.cells #[.int .i64 id, .int .i64 ent, .int .i64 per, .string ref, .slice Aj ll.length cj, .bool void] 31)) hfx2
          have hpush3 := fun v v3 w3 F3 => put_push (w1 := w1) (v := v) (v' := v3) (W' := w3) (F' := F3) hX2 hF.out hz2w hyj
          replace hpush3 := Lib.hid hpush3
          replace hfx2 := Lib.hid hfx2
          clear hX2 hw2 hz2w hyj hfj hFj hz2
          go_wp2_with (
            at_builtin
            refine wpList_append_fix rfl (.tmp 26) (.tmp 29) 24 rfl Try.underlying24 hi1 k0 k1 k2 rfl (by omega) rfl hfx2.out rfl (show Go.Vx.Src _ 6 (some ⟨w2.heap.size, 0, none⟩) 1 (jvEnc ⟨⟨id, ent, per, ref, ll, void⟩, .slice Aj ll.length cj, Fj⟩) from blk_src (size := 6) (Blk.new_at rfl) rfl) (one_jv rfl) (by unfold maxLen; have := hXl.out; simp at *; omega) (by have := hXl.out; simp at *; omega) ?_
            intro v3 w3 F3 hA3
            have hp3 := hpush3.out _ v3 w3 F3 hA3
            clear hA3
            replace hp3 := Lib.hid hp3)
          have a0 : w3.cell? (ad.add (k * 6)) = some (.int .i64 qi) := (hcl'.out _ hp3.out.2.2.2).1
          have a0' : w3.drew.cell? (ad.add (k * 6)) = some (.int .i64 qi) := a0
          have a1 : w3.cell? ⟨jb, 0, none⟩ = some (.int .i64 id) := (hBc.out _ hp3.out.2.2.2).cell 0
          have a1' : w3.drew.cell? ⟨jb, 0, none⟩ = some (.int .i64 id) := a1
          have e0 : w3.drew.cell? (ad.add (k * 6)) = some (.int .i64 qi) := (hcl'.out _ hp3.out.2.2.2).1
          have e1 : w3.drew.cell? ⟨(ad.add (k * 6)).block, (ad.add (k * 6)).off + 1, none⟩ = some (.int .i64 qe) := (hcl'.out _ hp3.out.2.2.2).2.1
          have e2 : w3.drew.cell? ⟨(ad.add (k * 6)).block, (ad.add (k * 6)).off + 2, none⟩ = some (.int .i64 qp) := (hcl'.out _ hp3.out.2.2.2).2.2.1
          have e3 : w3.drew.cell? ⟨(ad.add (k * 6)).block, (ad.add (k * 6)).off + 3, none⟩ = some (.string qr) := (hcl'.out _ hp3.out.2.2.2).2.2.2.1
          have e4 : w3.drew.cell? ⟨(ad.add (k * 6)).block, (ad.add (k * 6)).off + 4, none⟩ = some (.slice Aq ql.length cq) := (hcl'.out _ hp3.out.2.2.2).2.2.2.2.1
          have e5 : w3.drew.cell? ⟨(ad.add (k * 6)).block, (ad.add (k * 6)).off + 5, none⟩ = some (.bool qv) := (hcl'.out _ hp3.out.2.2.2).2.2.2.2.2
          cases p2 : (qi != id) with
          | false =>
            have hL := hE1.out true false true (by simp [p1]) p2 (by simp [p1]) (jns (X ++ [⟨⟨id, ent, per, ref, ll, void⟩, .slice Aj ll.length cj, Fj⟩])) (by rw [hJ.out]; simp [jns])
            go_wp2_with fail
            go_region
            go_wp2_with fail
            refine ⟨⟨k + 1, _, by omega, by go_num, rfl, put_next (W := w3.drew) hp3.out.1.drew (fun x hx => (hp3.out.2.1 x hx).keep (Chg.refl [] _).drew) hp3.out.2.2.1 (by have := hXl.out; simp at *; omega) hp3.out.2.2.2.drew rfl hL⟩, by simp [intOf]; omega⟩
          | true =>
            have hL := hE1.out true true true (by simp [p1]) p2 (by simp [p1]) (jns (X ++ [⟨⟨id, ent, per, ref, ll, void⟩, .slice Aj ll.length cj, Fj⟩] ++ [⟨⟨qi, qe, qp, qr, ql, qv⟩, .slice Aq ql.length cq, qF⟩])) (by rw [hJ.out]; simp [jns])
            have hy := hyq.out _ hp3.out.2.2.1 _ (hp3.out.2.2.2.drew.alloc (.cells #[.int .i64 qi, .int .i64 qe, .int .i64 qp, .string qr, .slice Aq ql.length cq, .bool qv] 31))
            have hpush := fun v v5 w5 F5 => put_push (w1 := w1) (v := v) (v' := v5) (W' := w5) (F' := F5) (fun x hx => (hp3.out.2.1 x hx).keep ((Chg.refl [] w3).drew.alloc (.cells #[.int .i64 qi, .int .i64 qe, .int .i64 qp, .string qr, .slice Aq ql.length cq, .bool qv] 31))) hp3.out.2.2.1 (hp3.out.2.2.2.drew.alloc _) hy
            replace hpush := Lib.hid hpush
            clear hy
            go_wp2_with fail
            go_region
            go_wp2_with (
              at_builtin
              refine wpList_append_fix rfl (.tmp 39) (.tmp 44) 24 rfl Try.underlying24 hi1 k0 k1 k2 rfl (by omega) rfl (hp3.out.1.drew.alloc _) rfl (show Go.Vx.Src _ 6 (some ⟨w3.drew.heap.size, 0, none⟩) 1 (jvEnc ⟨⟨qi, qe, qp, qr, ql, qv⟩, .slice Aq ql.length cq, qF⟩) from blk_src (size := 6) (Blk.new_at rfl) rfl) (one_jv rfl) (by unfold maxLen; have := hXl.out; simp at *; omega) (by have := hXl.out; simp at *; omega) ?_
              intro v5 w5 F5 hA5
              have hp5 := hpush.out _ v5 w5 F5 hA5
              clear hA5
              replace hp5 := Lib.hid hp5)
            exact ⟨⟨k + 1, _, by omega, by go_num, rfl, put_next hp5.out.1 hp5.out.2.1 hp5.out.2.2.1 (by have := hXl.out; simp at *; omega) hp5.out.2.2.2 rfl hL⟩, by simp [intOf]; omega⟩
    · obtain rfl : k = n := by omega
      have htk : (jns Q).take k = jns Q := List.take_of_length_le (by rw [List.length_map, hl.out]; exact Nat.le_refl _)
      rw [htk] at hX hd
      have hR : ∀ b : Bool, d = b → Hid (putR (jns Q) J = jns X ++ (if b = true then [] else [J])) := fun b hb => Lib.hid (by unfold putR; rw [← hX, ← hd, hb])
      have hFw : ∀ g ∈ F, w.heap.size ≤ g := fun g hg => by have := hF g hg; have := hz0.size; omega
      cases d with
      | true =>
        have hR2 := hR true rfl
        replace hfx := Lib.hid hfx
        replace hJ0 := Lib.hid hJ0
        replace hFw := Lib.hid hFw
        clear hR hX hd htk hF hone
        go_wp2_with fail
        rw [hPP.out]
        exact ⟨X, _, F, rfl, hfx.out, by rw [hR2.out]; simp, hJ0.out, hFw.out, hzw⟩
      | false =>
        have hR2 := hR false rfl
        have hcp2 := hcp.out _ hzw
        have d1 : wr.cell? ⟨jb, 1, none⟩ = some (.int .i64 ent) := d1'
        have d2 : wr.cell? ⟨jb, 2, none⟩ = some (.int .i64 per) := d2'
        have d3 : wr.cell? ⟨jb, 3, none⟩ = some (.string ref) := d3'
        have d4 : wr.cell? ⟨jb, 4, none⟩ = some (.slice A1 ll.length c1) := d4'
        have d5 : wr.cell? ⟨jb, 5, none⟩ = some (.bool void) := d5'
        replace hfx := Lib.hid hfx
        replace hJ0 := Lib.hid hJ0
        replace hFw := Lib.hid hFw
        replace hF := Lib.hid hF
        replace hXl := Lib.hid hXl
        replace hzw := Lib.hid hzw
        replace hzr := Lib.hid hzr
        clear hR hX hd htk hone d0' d1' d2' d3' d4' d5'
        go_wp2_with fail
        refine hcp2.mono ?_
        rintro e w2 ⟨vj, Fj, rfl, hfj, hFj, hz2⟩
        obtain ⟨Aj, cj, rfl, -⟩ := _root_.id hfj
        clear hcp2
        have hw2 := hz2.alloc (.cells #[.int .i64 id, .int .i64 ent, .int .i64 per, .string ref, .slice Aj ll.length cj, .bool void] 31)
        have hX2 : ∀ x ∈ X, JAp (w2.alloc (.cells #[.int .i64 id, .int .i64 ent, .int .i64 per, .string ref, .slice Aj ll.length cj, .bool void] 31)) F x := fun x hx => (hJ0.out x hx).keep hw2
        have hfx2 := hfx.out.chg hw2 (by simp)
        have hz2w := hzr.out.trans' hw2
        have hyj := fix_jap (j := ⟨id, ent, per, ref, ll, void⟩) (hfj.alloc (.cells #[.int .i64 id, .int .i64 ent, .int .i64 per, .string ref, .slice Aj ll.length cj, .bool void] 31)) hfx2
        have hpush3 := fun v v3 w3 F3 => put_push (w1 := w1) (v := v) (v' := v3) (W' := w3) (F' := F3) hX2 hF.out hz2w hyj
        replace hpush3 := Lib.hid hpush3
        replace hfx2 := Lib.hid hfx2
        clear hX2 hw2 hz2w hyj hfj hFj hz2
        go_wp2_with (
          at_builtin
          refine wpList_append_fix rfl (.tmp 48) (.tmp 51) 24 rfl Try.underlying24 hi1 k0 k1 k2 rfl (by omega) rfl hfx2.out rfl (show Go.Vx.Src _ 6 (some ⟨w2.heap.size, 0, none⟩) 1 (jvEnc ⟨⟨id, ent, per, ref, ll, void⟩, .slice Aj ll.length cj, Fj⟩) from blk_src (size := 6) (Blk.new_at rfl) rfl) (one_jv rfl) (by unfold maxLen; have := hXl.out; simp at *; omega) (by have := hXl.out; simp at *; omega) ?_
          intro v3 w3 F3 hA3
          have hp3 := hpush3.out _ v3 w3 F3 hA3
          clear hA3
          replace hp3 := Lib.hid hp3)
        rw [hPP.out]
        exact ⟨_, _, F3, rfl, hp3.out.1, by rw [hR2.out, hJ.out]; simp [jns], hp3.out.2.1, fun g hg => by have := hp3.out.2.2.1 g hg; have := hsz1.out; have := hjb.out; omega, hz0.trans' hp3.out.2.2.2⟩
end Go.Proofs.Ytlgfmphjgijilaa
