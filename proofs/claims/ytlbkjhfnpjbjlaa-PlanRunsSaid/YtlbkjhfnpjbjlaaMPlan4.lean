/- Parts of the proofs of Plan: contracts of the functions that they reach, in their order. -/
import Derived.Test.YtlbkjhfnpjbjlaaMPlan3
import Derived.Test.YtlbkjhfnpjbjlaaProg
import Derived.Deep.RegionLaw
import Derived.Deep.QuietTactic
/- Plan: Periods. -/
namespace Go.Proofs.Ytlbkjhfnpjbjlaa
open Go.RowKit Go.Vx
set_option linter.unusedVariables false
set_option linter.unusedSimpArgs false

/-- How many periods a template has. -/
def cntT (t : Tp) : Nat := (t.til - t.frm).toNat / t.every.toNat + 1
def perAt (t : Tp) (k : Nat) : List Int := (List.range k).map fun i : Nat => t.frm + (i : Int) * t.every
def perL (t : Tp) : List Int := if checkT t = true then perAt t (cntT t) else []
theorem check_front {t : Tp} (h : checkT t = true) : 0 ≤ t.frm ∧ t.frm ≤ t.til ∧ t.til ≤ 1199 ∧ 1 ≤ t.every ∧ t.every ≤ 60 ∧ 1 ≤ t.amt ∧ t.amt ≤ 1000000000000000 ∧ 1 ≤ t.ent ∧ t.ent ≤ 9 ∧ codeB t.cred = true := by
  unfold checkT at h
  rw [Bool.and_eq_true] at h
  have h := h.1
  unfold frontT perB at h
  simp only [Bool.and_eq_true, decide_eq_true_eq] at h
  obtain ⟨h1, h2, h3, h4, ⟨⟨h5, h6⟩, h7, h8⟩, h9, h10, h11, h12, h13, h14⟩ := h
  exact ⟨h5, h9, h8, h10, h11, h12, h13, h3, h4, h14⟩
theorem cnt_lt {t : Tp} (h : checkT t = true) {k : Nat} : k < cntT t ↔ t.frm + (k : Int) * t.every ≤ t.til := by
  obtain ⟨h1, h2, h3, h4, h5, -⟩ := check_front h
  unfold cntT
  obtain ⟨e, he⟩ : ∃ e : Nat, t.every = (e : Int) := ⟨t.every.toNat, by omega⟩
  obtain ⟨d, hd⟩ : ∃ d : Nat, t.til - t.frm = (d : Int) := ⟨(t.til - t.frm).toNat, by omega⟩
  rw [he, hd]
  simp only [Int.toNat_natCast]
  rw [Nat.lt_succ_iff, Nat.le_div_iff_mul_le (by omega)]
  have : ((k * e : Nat) : Int) = (k : Int) * (e : Int) := by push_cast; rfl
  omega
theorem per_succ (t : Tp) (k : Nat) : perAt t (k + 1) = perAt t k ++ [t.frm + (k : Int) * t.every] := by unfold perAt; rw [List.range_succ, List.map_append]; rfl
theorem per_len (t : Tp) (k : Nat) : (perAt t k).length = k := by simp [perAt]
/-- What Periods leaves. -/
def PerPost (w : World) (l : List Int) (e : Ending) (w' : World) : Prop := ∃ v F, e = .returned v ∧ Fix w' 3 1 v l.length (l.map (Value.int .i64)) F ∧ (∀ g ∈ F, w.heap.size ≤ g) ∧ Chg [] w w'
set_option maxRecDepth 100000 in
set_option maxHeartbeats 8000000 in
theorem pl_periods (t : Tp) {tA wA : Option Addr} {tn wn tc wc : Nat} {w : World} (ht : Src w 1 tA tn (t.tg.map (Value.int .i64))) (hw : Src w 1 wA wn (t.wt.map (Value.int .i64))) (htn : tn ≤ 1000000) (hwn : wn ≤ 1000000) :
    Calls Try.prog 13 #[tpV t (.slice tA tn tc) (.slice wA wn wc)] w (PerPost w (perL t)) := by
  obtain ⟨i0, hi0, z0, z1, z2⟩ := info_parts infoInt
  have hck := fun W (z : Chg [] w W) => pl_check t (tc := tc) (wc := wc) (ht.chg z (by simp)) (hw.chg z (by simp)) htn hwn
  obtain ⟨PP, hPP⟩ : ∃ PP, PP = PerPost w (perL t) := ⟨_, rfl⟩
  rw [← hPP]
  have hcE : chkE t = if checkT t = true then 0 else 1 := rfl
  have hpl : perL t = if checkT t = true then perAt t (cntT t) else [] := rfl
  have hcf := @check_front t
  have hcl := @cnt_lt t
  have hps := per_succ t
  have hpn := per_len t
  have hp0 : perAt t 0 = [] := rfl
  generalize cntT t = N at *
  generalize checkT t = cb at *
  generalize perL t = PL at *
  generalize chkE t = CE at *
  generalize perAt t = PA at *
  obtain ⟨kind, id, ent, frm, til, every, amt, deb, cred, tg, wt, rank⟩ := t
  unfold tpV at *
  dsimp only at *
  clear ht hw
  have hz := (Chg.refl [] w).alloc (.cells #[.int .i64 kind, .int .i64 id, .int .i64 ent, .int .i64 frm, .int .i64 til, .int .i64 every, .int .i64 amt, .int .i64 deb, .int .i64 cred, .slice tA tn tc, .slice wA wn wc, .int .i64 rank] 24)
  have hB := Blk.new w 24 #[.int .i64 kind, .int .i64 id, .int .i64 ent, .int .i64 frm, .int .i64 til, .int .i64 every, .int .i64 amt, .int .i64 deb, .int .i64 cred, .slice tA tn tc, .slice wA wn wc, .int .i64 rank]
  have hck1 := hck _ hz
  rw [hcE] at hck1
  replace hPP := Lib.hid hPP
  replace hpl := Lib.hid hpl
  replace hcf := Lib.hid hcf
  replace hcl := Lib.hid hcl
  replace hps := Lib.hid hps
  replace hpn := Lib.hid hpn
  replace hp0 := Lib.hid hp0
  clear hck hcE
  go_enter Try.func13, Try.ntmps13
  go_wp2_with fail
  refine hck1.mono ?_
  rintro e w1 ⟨rfl, hz1⟩
  clear hck1
  have hB1 := hB.chg hz1 (by simp)
  have hzw := hz.trans' hz1
  clear hz hz1 hB
  cases cb with
  | false =>
    have hpl2 : Hid (PL = []) := Lib.hid (by rw [hpl.out]; rfl)
    rw [if_neg (by simp)]
    go_wp2_with fail
    rw [hPP.out, hpl2.out]
    exact ⟨_, [], rfl, Fix.nil _ _ _, by simp, hzw⟩
  | true =>
    have hpl2 : Hid (PL = PA N) := Lib.hid (by rw [hpl.out]; rfl)
    obtain ⟨h1, h2, h3, h4, h5, -⟩ := hcf.out rfl
    have hcl2 := fun k => hcl.out rfl (k := k)
    replace hcl2 := Lib.hid hcl2
    obtain ⟨jb, hjb⟩ : ∃ jb, w.heap.size = jb := ⟨_, rfl⟩
    rw [hjb] at hB1 ⊢
    clear hjb
    have hBc := fun W (k : Chg [] w1 W) => hB1.chg k (by simp)
    replace hBc := Lib.hid hBc
    have d3 := hB1.cell 3
    have hws := hzw.size
    rw [if_pos rfl]
    clear hB1 hcf hcl hpl
    go_wp2_with fail
    go_loopw [3, 4] (fun ov pv wr => ∃ (k : Nat) (F : List Nat), k ≤ N ∧ pv = .int .i64 (frm + (k : Int) * every) ∧ Fix wr 3 1 ov k ((PA k).map (Value.int .i64)) F ∧ (∀ g ∈ F, w1.heap.size ≤ g) ∧ Chg [] w1 wr) (fun _ pv _ => 1300 - (intOf pv).toNat)
    case atStart => exact ⟨0, [], by omega, by simp, by rw [hp0.out]; exact Fix.nil _ _ _, by simp, Chg.refl _ _⟩
    case round =>
      obtain ⟨k, F, hk, rfl, hf, hF, hzr⟩ := hrel
      have hB2 := hBc.out _ hzr
      have d4 : wr.cell? ⟨jb, 4, none⟩ = some (.int .i64 til) := hB2.cell 4
      have hkk := hcl2.out k
      by_cases hlt : k < N
      · have hle := hkk.1 hlt
        have hke : 0 ≤ (k : Int) * every := Int.mul_nonneg (by omega) (by omega)
        have hnx : frm + ((k + 1 : Nat) : Int) * every = frm + (k : Int) * every + every := by push_cast; rw [Int.add_mul]; omega
        have hk2 : k ≤ 1199 := by
          have : (k : Int) * 1 ≤ (k : Int) * every := Int.mul_le_mul_of_nonneg_left (by omega) (by omega)
          omega
        have hpk := hps.out k
        generalize hX : frm + (k : Int) * every = X at *
        have hw1 : IntKind.i64.wrap (X + every) = X + every := by rw [IntKind.wrap_i64]; omega
        have hX0 : 0 ≤ X := by omega
        replace hX := Lib.hid hX
        replace hnx := Lib.hid hnx
        replace hpk := Lib.hid hpk
        replace hF := Lib.hid hF
        replace hke := Lib.hid hke
        have hle2 := Lib.hid hle
        have hX02 := Lib.hid hX0
        clear hkk d3 hX0
        have hmade : ∀ (v0 v3 : Value) (w3 : World) (F3 : List Nat), Appended (wr.alloc (.cells #[.int .i64 X] 3)) w3 3 1 v0 v3 k 1 ((PA k).map (Value.int .i64)) [.int .i64 X] F F3 → Fix w3 3 1 v3 (k + 1) ((PA (k + 1)).map (Value.int .i64)) F3 ∧ (∀ g ∈ F3, w1.heap.size ≤ g) ∧ Chg [] w1 w3 := fun v0 v3 w3 F3 hA => by
          have hs := hzr.size
          refine ⟨?_, fun g hg => ?_, (hzr.alloc _).trans hA.chg (fun g hg => .inr (hF.out g hg))⟩
          · have := hA.fix
            rw [hpk.out, List.map_append]
            exact this
          · rcases hA.foot with h | h
            · rw [h] at hg; exact hF.out g hg
            · rw [h, List.mem_singleton] at hg; rw [hg]; simp; omega
        have d5 : ∀ W, Chg [] w1 W → W.cell? ⟨jb, 5, none⟩ = some (.int .i64 every) := fun W z => (hBc.out _ z).cell 5
        replace hmade := Lib.hid hmade
        replace d5 := Lib.hid d5
        have hfa := hf.alloc (.cells #[.int .i64 X] 3)
        replace hfa := Lib.hid hfa
        clear hf hB2
        go_wp2_with (
          at_builtin
          refine wpList_append_fix rfl (.tmp 18) (.tmp 20) 22 rfl Try.underlying22 hi0 z0 z1 z2 rfl (by omega) rfl hfa.out rfl (Src.one1 rfl) (by simp [Value.oneCell']) (by unfold maxLen; omega) (by omega) ?_
          intro v3 w3 F3 hA3
          have hm3 := hmade.out _ v3 w3 F3 hA3
          have e5 := d5.out w3 hm3.2.2
          clear hA3
          replace hm3 := Lib.hid hm3)
        exact ⟨⟨k + 1, F3, by omega, by rw [hnx.out], hm3.out.1, hm3.out.2.1, hm3.out.2.2⟩, by have := hle2.out; have := hX02.out; simp [intOf]; omega⟩
      · obtain rfl : k = N := by omega
        have hgt : decide (frm + (k : Int) * every ≤ til) = false := by simp; omega
        generalize frm + (k : Int) * every = X at *
        replace hf := Lib.hid hf
        replace hF := Lib.hid hF
        clear hkk hlt d3
        go_wp2_with fail
        rw [hPP.out, hpl2.out]
        refine ⟨_, F, rfl, ?_, fun g hg => by have := hF.out g hg; omega, hzw.trans' hzr⟩
        rw [hpn.out]
        exact hf.out
end Go.Proofs.Ytlbkjhfnpjbjlaa
/- Journals: the other way round (entry.Reverse). -/
namespace Go.Proofs.Ytlbkjhfnpjbjlaa
open Go.RowKit Go.Vx
set_option linter.unusedVariables false
set_option linter.unusedSimpArgs false

def negLn (x : Ln) : Ln := ⟨x.acct, -x.amt, x.part⟩
def revJ (j : Jn) (id per : Int) : Jn := ⟨id, j.ent, per, ⟨#[]⟩, j.lines.map negLn, false⟩
def revE (j : Jn) (id per : Int) : Int := if checkE j ≠ 0 then checkE j else checkE (revJ j id per)
def negLs (l : List Ln) (k : Nat) : List Ln := (l.take k).map negLn ++ l.drop k
theorem negLs_set (l : List Ln) {k : Nat} (hk : k < l.length) : (negLs l k).set k (negLn l[k]) = negLs l (k + 1) := by
  unfold negLs
  have h1 : ((l.take k).map negLn).length = k := by simp; omega
  rw [List.set_append_right _ _ (by omega), h1, Nat.sub_self, List.drop_eq_getElem_cons hk, List.set_cons_zero, List.take_succ_eq_append_getElem hk, List.map_append, List.append_assoc]
  rfl
theorem negLs_at (l : List Ln) {k : Nat} (hk : k < l.length) : (negLs l k)[k]'(by simp [negLs]; omega) = l[k] := by
  unfold negLs
  rw [List.getElem_append_right (by simp; omega)]
  simp [List.length_take, Nat.min_eq_left (Nat.le_of_lt hk)]
theorem negLs_len (l : List Ln) (k : Nat) : (negLs l k).length = l.length := by simp [negLs]; omega
theorem negLs_end (l : List Ln) : negLs l l.length = l.map negLn := by simp [negLs]
theorem set_flatL : ∀ (l : List Ln) (k : Nat) (hk : k < l.length) (v : Value) (y : Ln), lnEnc y = (lnEnc l[k]).set 1 v → (l.flatMap lnEnc).set (k * 3 + 1) v = (l.set k y).flatMap lnEnc
  | x :: l, 0, _, v, y, hy => by
    simp only [List.flatMap_cons, List.set_cons_zero, Nat.zero_mul, Nat.zero_add]
    rw [List.set_append_left _ _ (by rw [lnEnc_len]; omega), hy]
    rfl
  | x :: l, k + 1, hk, v, y, hy => by
    simp only [List.flatMap_cons, List.set_cons_succ]
    rw [List.set_append_right _ _ (by rw [lnEnc_len]; omega), lnEnc_len, show (k + 1) * 3 + 1 - 3 = k * 3 + 1 by omega, set_flatL l k (by simpa using hk) v y (by simpa using hy)]
theorem check_fits {j : Jn} (h : checkE j = 0) : j.lines.length ≤ 8 ∧ ∀ x ∈ j.lines, -1000000000000000 ≤ x.amt ∧ x.amt ≤ 1000000000000000 := by
  unfold checkE at h
  cases hf : frontB j with
  | false => rw [hf] at h; simp at h
  | true =>
    rw [hf] at h
    cases hl : j.lines.all (lineB j.ent) with
    | false => rw [hl] at h; simp at h
    | true =>
      rw [hl] at h
      cases hm : j.lines.all (fun x => fitM x.amt) with
      | false => rw [hm] at h; simp at h
      | true =>
        refine ⟨frontB_len hf, fun x hx => ?_⟩
        have := List.all_eq_true.1 hm x hx
        exact fitM_iff.1 this
def zeroJV : Value := .agg #[.int .i64 0, .int .i64 0, .int .i64 0, .string ⟨#[]⟩, .slice none 0 0, .bool false]
/-- What Reverse leaves. -/
def RevPost (w : World) (j : Jn) (id per : Int) (e : Ending) (w' : World) : Prop := (revE j id per ≠ 0 → e = .returned (.tuple #[zeroJV, .int .i64 (revE j id per)]) ∧ Chg [] w w') ∧
  (revE j id per = 0 → ∃ v F, e = .returned (.tuple #[jnV (revJ j id per) v, .int .i64 0]) ∧ Fix w' 40 3 v j.lines.length ((j.lines.map negLn).flatMap lnEnc) F ∧ (∀ g ∈ F, w.heap.size ≤ g) ∧ Chg [] w w')
set_option maxRecDepth 100000 in
set_option maxHeartbeats 8000000 in
theorem jo_reverse (j : Jn) (rid rper : Int) {w : World} {A : Option Addr} {n c : Nat} (hs : Src w 3 A n (j.lines.flatMap lnEnc)) (hn : n ≤ 1000000) (hr : j.ref.size ≤ maxLen) :
    Calls Try.prog 53 #[jnV j (.slice A n c), .int .i64 rid, .int .i64 rper] w (RevPost w j rid rper) := by
  obtain rfl : n = j.lines.length := by have := hs.1; rw [flatMap_len lnEnc_len] at this; omega
  have hck := fun W (z : Chg [] w W) => jo_check (c := c) j (hs.chg z (by simp)) hn hr
  have hcp := fun W (z : Chg [] w W) => jo_copy (c := c) j (hs.chg z (by simp)) hn
  have hcf := @check_fits j
  have hRE : ∀ E, checkE j = E → E ≠ 0 → Hid (revE j rid rper = E) := fun E h h0 => Lib.hid (by unfold revE; rw [if_pos (by rw [h]; exact h0)]; exact h)
  have hRE2 : checkE j = 0 → Hid (revE j rid rper = checkE (revJ j rid rper)) := fun h => Lib.hid (by unfold revE; rw [if_neg (by simp [h])])
  obtain ⟨PP, hPP⟩ : ∃ PP, PP = RevPost w j rid rper := ⟨_, rfl⟩
  rw [← hPP]
  have hck2 := fun W A2 c2 (h : Src W 3 A2 j.lines.length ((j.lines.map negLn).flatMap lnEnc)) => jo_check (c := c2) (revJ j rid rper) h hn (by show ByteArray.size ⟨#[]⟩ ≤ maxLen; decide)
  obtain ⟨E, hE⟩ : ∃ E, checkE j = E := ⟨_, rfl⟩
  rw [hE] at hck
  obtain ⟨id, ent, per, ref, l, void⟩ := j
  unfold revJ at hck2
  unfold jnV at *
  dsimp only at *
  have hz := ((Chg.refl [] w).alloc (.cells #[.int .i64 id, .int .i64 ent, .int .i64 per, .string ref, .slice A l.length c, .bool void] 38)).alloc (.cells #[.int .i64 0, .int .i64 0, .int .i64 0, .string ⟨#[]⟩, .slice none 0 0, .bool false] 38)
  have hB := (Blk.new w 38 #[.int .i64 id, .int .i64 ent, .int .i64 per, .string ref, .slice A l.length c, .bool void]).alloc (.cells #[.int .i64 0, .int .i64 0, .int .i64 0, .string ⟨#[]⟩, .slice none 0 0, .bool false] 38)
  have hB2 := Blk.new (w.alloc (.cells #[.int .i64 id, .int .i64 ent, .int .i64 per, .string ref, .slice A l.length c, .bool void] 38)) 38 #[.int .i64 0, .int .i64 0, .int .i64 0, .string ⟨#[]⟩, .slice none 0 0, .bool false]
  rw [World.size_alloc] at hB2
  have hck1 := hck _ hz
  replace hPP := Lib.hid hPP
  replace hcf := Lib.hid hcf
  replace hRE := Lib.hid hRE
  replace hRE2 := Lib.hid hRE2
  replace hcp := Lib.hid hcp
  replace hck2 := Lib.hid hck2
  clear hck hs
  go_enter Try.func53, Try.ntmps53
  go_wp2_with fail
  refine hck1.mono ?_
  rintro e w1 ⟨rfl, hz1⟩
  clear hck1
  have hBx := hB.chg hz1 (by simp)
  have hB2x := hB2.chg hz1 (by simp)
  have hzw := hz.trans' hz1
  obtain ⟨jb, hjb⟩ : ∃ jb, w.heap.size = jb := ⟨_, rfl⟩
  rw [hjb] at hBx hB2x ⊢
  have hjs := Lib.hid hjb
  clear hz hz1 hB hB2 hjb
  have g0 := hB2x.cell 0
  have g1 := hB2x.cell 1
  have g2 := hB2x.cell 2
  have g3 := hB2x.cell 3
  have g4 := hB2x.cell 4
  have g5 := hB2x.cell 5
  have k0 := hB2x.frozen 0
  have k1 := hB2x.frozen 1
  have k2 := hB2x.frozen 2
  have k3 := hB2x.frozen 3
  have k4 := hB2x.frozen 4
  have k5 := hB2x.frozen 5
  by_cases h0 : E = 0
  · subst h0
    have hR2 := hRE2.out hE
    obtain ⟨hl8, hfit⟩ := hcf.out hE
    have hcp1 := hcp.out _ hzw
    have d0 := hBx.cell 0
    have d1 := hBx.cell 1
    have d2 := hBx.cell 2
    have d3 := hBx.cell 3
    have d4 := hBx.cell 4
    have d5 := hBx.cell 5
    replace hfit := Lib.hid hfit
    replace hE := Lib.hid hE
    clear hcf hRE hRE2 hcp
    go_wp2_with fail
    refine hcp1.mono ?_
    rintro e w2 ⟨v, F, rfl, hf, hF, hz2⟩
    obtain ⟨A2, c2, rfl, -⟩ := _root_.id hf
    clear hcp1 d0 d1 d2 d3 d4 d5 g0 g1 g2 g3 g4 g5 k0 k1 k2 k3 k4 k5
    go_wp2_with fail
    have hBr := Blk.new w2 38 #[.int .i64 rid, .int .i64 ent, .int .i64 rper, .string ⟨#[]⟩, .slice A2 l.length c2, .bool false]
    have hz3 := hz2.alloc (.cells #[.int .i64 rid, .int .i64 ent, .int .i64 rper, .string ⟨#[]⟩, .slice A2 l.length c2, .bool false] 38)
    have hzw3 := hzw.trans' hz3
    have hB6 := hB2x.chg hz3 (by simp)
    have hf3 := hf.alloc (.cells #[.int .i64 rid, .int .i64 ent, .int .i64 rper, .string ⟨#[]⟩, .slice A2 l.length c2, .bool false] 38)
    have hFw : ∀ g ∈ F, w.heap.size ≤ g := fun g hg => by have := hF g hg; have := hzw.size; omega
    have hs2 := hzw3.size
    obtain ⟨r0, hr0⟩ : ∃ r0, w2.heap.size = r0 := ⟨_, rfl⟩
    rw [hr0] at hBr
    try rw [hr0]
    clear hr0 hz2 hz3 hf hB2x hBx
    generalize w2.alloc (.cells #[.int .i64 rid, .int .i64 ent, .int .i64 rper, .string ⟨#[]⟩, .slice A2 l.length c2, .bool false] 38) = wa at *
    obtain ⟨n, hnn⟩ : ∃ n, l.length = n := ⟨_, rfl⟩
    rw [hnn] at hBr hf3 hn hl8 ⊢
    replace hnn := Lib.hid hnn
    replace hFw := Lib.hid hFw
    replace hF := Lib.hid hF
    have hrF : r0 ∉ F := hf3.ne_blk hBr (by decide)
    have hjF : jb + 1 ∉ F := hf3.ne_blk hB6 (by decide)
    have hBrc := fun W (k : Chg F wa W) => hBr.chg k hrF
    have hB6c := fun W (k : Chg F wa W) => hB6.chg k hjF
    replace hBrc := Lib.hid hBrc
    replace hB6c := Lib.hid hB6c
    replace hR2 := Lib.hid hR2.out
    clear hBr hB6 hrF hjF
    go_loopw [29] (fun iv wr => ∃ k : Nat, k ≤ n ∧ iv = .int .i64 k ∧ Fix wr 40 3 (.slice A2 n c2) n ((negLs l k).flatMap lnEnc) F ∧ Chg F wa wr) (fun iv _ => n - (intOf iv).toNat)
    case atStart => exact ⟨0, by omega, rfl, by simpa [negLs] using hf3, Chg.refl _ _⟩
    case round =>
      clear hf3
      obtain ⟨k, hk, rfl, hf, hzr⟩ := hrel
      have e4 : wr.cell? ⟨r0, 4, none⟩ = some (.slice A2 n c2) := (hBrc.out _ hzr).cell 4
      have e4' : wr.drew.cell? ⟨r0, 4, none⟩ = some (.slice A2 n c2) := e4
      by_cases hlt : k < n
      · have hkl : k < l.length := by rw [hnn.out]; exact hlt
        have hlt2 : (k : Int) < (n : Int) := by omega
        have hkw : IntKind.i64.wrap ((k : Int) + 1) = (k : Int) + 1 := by rw [IntKind.wrap_i64]; omega
        obtain ⟨g, c', hv, -, -, hFg, hc1, hfz1⟩ := hf.at_ (k := k) (j := 1) hlt (by omega)
        injection hv with hA2 _ hcc
        subst hA2 hcc
        have hel : ((negLs l k).flatMap lnEnc)[k * 3 + 1]? = some (.int .i64 l[k].amt) := by
          rw [flatMap_at lnEnc_len (negLs l k) k (by rw [negLs_len]; exact hkl) 1 (by omega), at_eq (by rw [negLs_len]; exact hkl), negLs_at l hkl]
          rfl
        rw [hel] at hc1
        have hst := hf.store rfl (k * 3 + 1) (.int .i64 (-l[k].amt))
        rw [set_flatL (negLs l k) k (by rw [negLs_len]; exact hkl) (.int .i64 (-l[k].amt)) (negLn l[k]) (by rw [negLs_at l hkl]; rfl), negLs_set l hkl] at hst
        have hb := hfit.out _ (List.getElem_mem hkl)
        have hng : IntKind.i64.wrap (-l[k].amt) = -l[k].amt := by rw [IntKind.wrap_i64]; omega
        have hgm : g ∈ F ∨ wa.heap.size ≤ g := .inl (by rw [hFg]; simp)
        have hst2 : Fix (wr.drew.setCell ⟨g, k * 3 + 1, none⟩ (.int .i64 (-l[k].amt))) 40 3 (.slice (some ⟨g, 0, none⟩) n c2) n ((negLs l (k + 1)).flatMap lnEnc) F := hst
        have hch := hzr.drew.setCell (p := ⟨g, k * 3 + 1, none⟩) hgm (.int .i64 (-l[k].amt))
        have hc1' : wr.drew.cell? ⟨g, k * 3 + 1, none⟩ = some (.int .i64 l[k].amt) := hc1
        have hfz1' : wr.drew.frozen? ⟨g, k * 3 + 1, none⟩ = false := hfz1
        replace hst2 := Lib.hid hst2
        replace hch := Lib.hid hch
        clear hst hb hel hf hgm hFg
        generalize l[k].amt = am at *
        go_wp2_with fail
        go_region
        go_wp2_with fail
        exact ⟨⟨k + 1, by omega, by go_num, hst2.out, hch.out⟩, by simp [intOf]; omega⟩
      · obtain rfl : k = n := by omega
        have hend : negLs l k = l.map negLn := by rw [← hnn.out]; exact negLs_end l
        rw [hend] at hf
        have hc2 := hck2.out wr A2 c2
        rw [hnn.out] at hc2
        have hc3 := hc2 (Fix.src hf)
        have hRv : revE ⟨id, ent, per, ref, l, void⟩ rid rper = checkE ⟨rid, ent, rper, ⟨#[]⟩, l.map negLn, false⟩ := hR2.out
        have hBr := hBrc.out _ hzr
        have q0 := hBr.cell 0
        have q1 := hBr.cell 1
        have q2 := hBr.cell 2
        have q3 := hBr.cell 3
        have q5 := hBr.cell 5
        have hzwr : Chg [] w wr := hzw3.trans hzr (fun g hg => .inr (hFw.out g hg))
        have hB6r := hB6c.out _ hzr
        generalize checkE ⟨rid, ent, rper, ⟨#[]⟩, l.map negLn, false⟩ = E2 at *
        replace hf := Lib.hid hf
        replace hRv := Lib.hid hRv
        clear hc2 hend hck2 hE
        go_wp2_with fail
        refine hc3.mono ?_
        rintro e w5 ⟨rfl, hz5⟩
        clear hc3 q0 q1 q2 q3 q5 e4 e4'
        have hB65 := hB6r.chg hz5 (by simp)
        have hBr5 := hBr.chg hz5 (by simp)
        have hz05 := hzwr.trans' hz5
        have g0 := hB65.cell 0
        have g1 := hB65.cell 1
        have g2 := hB65.cell 2
        have g3 := hB65.cell 3
        have g4 := hB65.cell 4
        have g5 := hB65.cell 5
        have k0 := hB65.frozen 0
        have k1 := hB65.frozen 1
        have k2 := hB65.frozen 2
        have k3 := hB65.frozen 3
        have k4 := hB65.frozen 4
        have k5 := hB65.frozen 5
        have q0 := hBr5.cell 0
        have q1 := hBr5.cell 1
        have q2 := hBr5.cell 2
        have q3 := hBr5.cell 3
        have q4 := hBr5.cell 4
        have q5 := hBr5.cell 5
        have hjm : jb + 1 ∈ ([] : List Nat) ∨ w.heap.size ≤ jb + 1 := .inr (by rw [hjs.out]; omega)
        have hjF2 := fun (g : Nat) (hg : g ∈ F) => (show g ∉ [jb + 1] from fun hm => by
          have e := List.mem_singleton.1 hm
          rw [e] at hg
          exact (hf.out.ne_blk hB6r (by decide)) hg)
        replace hjF2 := Lib.hid hjF2
        replace hz05 := Lib.hid hz05
        clear hB65 hBr5 hBr hB6r
        by_cases h2 : E2 = 0
        · have hb0 : (E2 != 0) = false := by simp [h2]
          replace h2 := Lib.hid h2
          go_wp2_with fail
          refine bodyPost_ret (v := .tuple #[.agg #[.int .i64 rid, .int .i64 ent, .int .i64 rper, .string ⟨#[]⟩, .slice A2 k c2, .bool false], .int .i64 0]) (by rw [results_cell_tmp rfl]; go_simp) rfl ?_
          rw [hPP.out]
          have hch := (((((((Chg.refl [jb + 1] w5).setCell (p := ⟨jb + 1, 0, none⟩) (.inl (by simp)) (.int .i64 rid)).setCell (p := ⟨jb + 1, 1, none⟩) (.inl (by simp)) (.int .i64 ent)).setCell (p := ⟨jb + 1, 2, none⟩) (.inl (by simp)) (.int .i64 rper)).setCell (p := ⟨jb + 1, 3, none⟩) (.inl (by simp)) (.string ⟨#[]⟩)).setCell (p := ⟨jb + 1, 4, none⟩) (.inl (by simp)) (.slice A2 k c2)).setCell (p := ⟨jb + 1, 5, none⟩) (.inl (by simp)) (.bool false))
          refine ⟨fun h => absurd (by rw [hRv.out]; exact h2.out) h, fun _ => ⟨.slice A2 k c2, F, rfl, ?_, hFw.out, hz05.out.trans hch (fun g hg => by rw [List.mem_singleton.1 hg]; exact hjm)⟩⟩
          have hfe := (hf.out.chg hz5 (by simp)).chg hch hjF2.out
          dsimp only
          rw [hnn.out]
          exact hfe
        · have hb0 : (E2 != 0) = true := by simp [h2]
          replace h2 := Lib.hid h2
          go_wp2_with fail
          refine bodyPost_ret (v := .tuple #[.agg #[.int .i64 0, .int .i64 0, .int .i64 0, .string ⟨#[]⟩, .slice none 0 0, .bool false], .int .i64 E2]) (by rw [results_cell_tmp rfl]; go_simp) rfl ?_
          rw [hPP.out]
          refine ⟨fun _ => ⟨by rw [hRv.out]; rfl, (((((hz05.out.setCell hjm _).setCell hjm _).setCell hjm _).setCell hjm _).setCell hjm _).setCell hjm _⟩, fun h => absurd (by rw [← hRv.out]; exact h) h2.out⟩
  · have hR := hRE.out E hE h0
    have hb0 : (E != 0) = true := by simp [h0]
    replace h0 := Lib.hid h0
    clear hcf hRE hRE2 hcp hck2 hE
    go_wp2_with fail
    refine bodyPost_ret (v := .tuple #[.agg #[.int .i64 0, .int .i64 0, .int .i64 0, .string ⟨#[]⟩, .slice none 0 0, .bool false], .int .i64 E]) (by rw [results_cell_tmp rfl]; go_simp) rfl ?_
    rw [hPP.out]
    have hjm : jb + 1 ∈ ([] : List Nat) ∨ w.heap.size ≤ jb + 1 := .inr (by rw [hjs.out]; omega)
    refine ⟨fun _ => ⟨by rw [hR.out]; rfl, ?_⟩, fun h => absurd (by rw [← hR.out]; exact h) h0.out⟩
    exact (((((hzw.setCell hjm _).setCell hjm _).setCell hjm _).setCell hjm _).setCell hjm _).setCell hjm _
end Go.Proofs.Ytlbkjhfnpjbjlaa
/- Journals: a book in memory; find. -/
namespace Go.Proofs.Ytlbkjhfnpjbjlaa
open Go.RowKit Go.Vx
set_option linter.unusedVariables false
set_option linter.unusedSimpArgs false

/-- A journal of a book. -/
structure JV where
  j : Jn
  pv : Value
  pF : List Nat
def jvEnc (x : JV) : List Value := [.int .i64 x.j.id, .int .i64 x.j.ent, .int .i64 x.j.per, .string x.j.ref, x.pv, .bool x.j.void]
theorem jvEnc_len (x : JV) : (jvEnc x).length = 6 := rfl
instance : Inhabited Jn := ⟨⟨0, 0, 0, ⟨#[]⟩, [], false⟩⟩
instance : Inhabited JV := ⟨⟨default, .slice none 0 0, []⟩⟩
def SrtJ (Q : List JV) : Prop := Q.Pairwise fun x y => x.j.id < y.j.id
theorem jv_cells {w : World} {A : Option Addr} {n : Nat} {Q : List JV} (hs : Src w 6 A n (Q.flatMap jvEnc)) {i : Nat} (hi : i < Q.length) : ∃ ad, A = some ad ∧ w.cell? (ad.add (i * 6)) = some (.int .i64 Q[i].j.id) ∧ w.cell? ⟨(ad.add (i * 6)).block, (ad.add (i * 6)).off + 1, none⟩ = some (.int .i64 Q[i].j.ent) ∧ w.cell? ⟨(ad.add (i * 6)).block, (ad.add (i * 6)).off + 2, none⟩ = some (.int .i64 Q[i].j.per) ∧
    w.cell? ⟨(ad.add (i * 6)).block, (ad.add (i * 6)).off + 3, none⟩ = some (.string Q[i].j.ref) ∧ w.cell? ⟨(ad.add (i * 6)).block, (ad.add (i * 6)).off + 4, none⟩ = some Q[i].pv ∧ w.cell? ⟨(ad.add (i * 6)).block, (ad.add (i * 6)).off + 5, none⟩ = some (.bool Q[i].j.void) := by
  have hl : Q.length = n := by have := hs.1; rw [flatMap_len jvEnc_len] at this; omega
  obtain ⟨ad, rfl, hc⟩ := hs.2 (by omega)
  have key : ∀ j u, j < 6 → (jvEnc Q[i])[j]? = some u → w.cell? (ad.add (i * 6 + j)) = some u := fun j u hj hu => by
    apply hc
    rw [flatMap_at jvEnc_len Q i hi j hj, at_eq hi]
    exact hu
  have e : ∀ j, j ≠ 0 → ad.add (i * 6 + j) = ⟨(ad.add (i * 6)).block, (ad.add (i * 6)).off + j, none⟩ := fun j hj => by
    unfold Addr.add
    by_cases hks : i * 6 = 0 <;> simp [hks, hj, Nat.add_assoc]
  exact ⟨ad, rfl, key 0 _ (by omega) rfl, by rw [← e 1 (by omega)]; exact key 1 _ (by omega) rfl, by rw [← e 2 (by omega)]; exact key 2 _ (by omega) rfl, by rw [← e 3 (by omega)]; exact key 3 _ (by omega) rfl, by rw [← e 4 (by omega)]; exact key 4 _ (by omega) rfl, by rw [← e 5 (by omega)]; exact key 5 _ (by omega) rfl⟩
/-- A journal's lines are there. -/
def JOk (w : World) (q : JV) : Prop := ∃ A c, q.pv = .slice A q.j.lines.length c ∧ Go.Vx.Src w 3 A q.j.lines.length (q.j.lines.flatMap lnEnc)
theorem JOk.chg {w w' : World} {q : JV} {S : List Nat} (h : JOk w q) (k : Chg S w w') (hS : ∀ g ∈ S, w.heap.size ≤ g) : JOk w' q := by
  obtain ⟨A, c, h1, h2⟩ := h
  refine ⟨A, c, h1, ?_⟩
  refine h2.keep fun ad ha j v hv => ?_
  have hb := World.block_lt_of_cell? w _ hv
  rw [k.cell hb (fun hm => by have := hS _ hm; omega)]
  exact hv
theorem JOk.keep {w w' : World} {q : JV} (h : JOk w q) (k : Chg [] w w') : JOk w' q := h.chg k (by simp)
theorem src_new {w w' : World} {size m : Nat} {A : Option Addr} {news : List Value} {S : List Nat} (h : Go.Vx.Src w size A m news) (k : Chg S w w') (hS : ∀ g ∈ S, w.heap.size ≤ g) : Go.Vx.Src w' size A m news :=
  h.keep fun ad ha j v hv => by
    have hb := World.block_lt_of_cell? w _ hv
    rw [k.cell hb (fun hm => by have := hS _ hm; omega)]
    exact hv
abbrev jns (Q : List JV) : List Jn := Q.map fun q => q.j
theorem Blk.new_at {w : World} {t : TypeId} {cs : Array Value} {B : Nat} (h : w.heap.size = B) : Blk (w.alloc (.cells cs t)) B t cs := by subst h; exact Blk.new w t cs
end Go.Proofs.Ytlbkjhfnpjbjlaa
/- Plan: accrue. -/
namespace Go.Proofs.Ytlbkjhfnpjbjlaa
open Go.RowKit Go.Vx
set_option linter.unusedVariables false
set_option linter.unusedSimpArgs false

def accJ (t : Tp) (j : Jn) : Jn := { j with lines := [⟨t.deb, t.amt, 0⟩, ⟨t.cred, -t.amt, 0⟩] }
def accL (t : Tp) (j : Jn) : List Jn := if (onC j.per 1).2 ≠ 0 then [accJ t j] else if revE (accJ t j) (IntKind.i64.wrap (j.id + 1)) (onC j.per 1).1 ≠ 0 then [] else [accJ t j, revJ (accJ t j) (IntKind.i64.wrap (j.id + 1)) (onC j.per 1).1]
/-- Journals that were made just now. -/
def MadePost (w : World) (L : List Jn) (e : Ending) (w' : World) : Prop := ∃ (X : List JV) (v : Value) (F : List Nat), e = .returned v ∧ Fix w' 38 6 v X.length (X.flatMap jvEnc) F ∧ (X.map fun q => q.j) = L ∧ (∀ x ∈ X, Fix w' 40 3 x.pv x.j.lines.length (x.j.lines.flatMap lnEnc) x.pF) ∧ (∀ g ∈ F, w.heap.size ≤ g) ∧ (∀ x ∈ X, ∀ g ∈ x.pF, w.heap.size ≤ g) ∧ Chg [] w w'
theorem Blk.new_at2 {w : World} {t : TypeId} {cs : Array Value} {B : Nat} (h : w.heap.size = B) : Blk (w.alloc (.cells cs t)) B t cs := by subst h; exact Blk.new w t cs
theorem fix_lit {w : World} {g n size : Nat} {t : TypeId} {cs : Array Value} (h : Blk w g t cs) (hs : cs.size = n * size) (hn : n ≤ 100) : Fix w t size (.slice (some ⟨g, 0, none⟩) n n) n cs.toList [g] :=
  ⟨_, n, rfl, by simp [hs], Nat.le_refl _, by unfold maxLen; omega, .inr ⟨g, cs, rfl, rfl, h, hs, by rw [List.take_of_length_le (by simp [hs])]⟩⟩
set_option maxRecDepth 100000 in
set_option maxHeartbeats 8000000 in
theorem pl_accrue (t : Tp) (j : Jn) (tv wv : Option Addr) (tn tc wn wc : Nat) (h1 : 1 ≤ t.amt) (h2 : t.amt ≤ 1000000000000000) (hr : j.ref.size ≤ maxLen) (w : World) :
    Calls Try.prog 41 #[tpV t (.slice tv tn tc) (.slice wv wn wc), jnV j (.slice none 0 0)] w (MadePost w (accL t j)) := by
  have hng : IntKind.i64.wrap (-t.amt) = -t.amt := by rw [IntKind.wrap_i64]; omega
  obtain ⟨PP, hPP⟩ : ∃ PP, PP = MadePost w (accL t j) := ⟨_, rfl⟩
  rw [← hPP]
  obtain ⟨rid, hrid⟩ : ∃ r, IntKind.i64.wrap (j.id + 1) = r := ⟨_, rfl⟩
  have hL : accL t j = if (onC j.per 1).2 ≠ 0 then [accJ t j] else if revE (accJ t j) rid (onC j.per 1).1 ≠ 0 then [] else [accJ t j, revJ (accJ t j) rid (onC j.per 1).1] := by rw [← hrid]; rfl
  have hsh := tm_shift j.per 1
  have hrv := fun W A (hs : Src W 3 A 2 [.int .i64 t.deb, .int .i64 t.amt, .int .i64 0, .int .i64 t.cred, .int .i64 (-t.amt), .int .i64 0]) => jo_reverse (accJ t j) rid (onC j.per 1).1 (A := A) (n := 2) (c := 2) hs (by omega) hr
  generalize (onC j.per 1).1 = a at *
  generalize (onC j.per 1).2 = b at *
  unfold RevPost at hrv
  generalize hE : revE (accJ t j) rid a = E at *
  unfold revJ accJ jnV at hrv
  obtain ⟨kind, id', ent', frm, til, every, amt, deb, cred, tg, wt, rank⟩ := t
  obtain ⟨id, ent, per, ref, ll, void⟩ := j
  unfold accJ revJ at hL
  unfold tpV jnV
  dsimp only at *
  replace hPP := Lib.hid hPP
  replace hL := Lib.hid hL
  replace hrv := Lib.hid hrv
  clear h1 h2 hE
  go_enter Try.func41, Try.ntmps41
  go_wp2_with fail
  refine (hsh _).mono ?_
  rintro e w2 ⟨rfl, rfl⟩
  clear hsh
  obtain ⟨T, hT⟩ : ∃ T, T = w.alloc (.cells #[.int .i64 kind, .int .i64 id', .int .i64 ent', .int .i64 frm, .int .i64 til, .int .i64 every, .int .i64 amt, .int .i64 deb, .int .i64 cred, .slice tv tn tc, .slice wv wn wc, .int .i64 rank] 24) := ⟨_, rfl⟩
  have hTs : T.heap.size = w.heap.size + 1 := by rw [hT, World.size_alloc]
  have hTz : Chg [] w T := by rw [hT]; exact (Chg.refl _ _).alloc _
  have hB0 : Blk (T.alloc (.cells #[.int .i64 id, .int .i64 ent, .int .i64 per, .string ref, .slice (some ⟨w.heap.size + 1 + 1, 0, none⟩) 2 2, .bool void] 38)) (w.heap.size + 1) 38 #[.int .i64 id, .int .i64 ent, .int .i64 per, .string ref, .slice (some ⟨w.heap.size + 1 + 1, 0, none⟩) 2 2, .bool void] := Blk.new_at2 hTs
  have hB1 : Blk ((T.alloc (.cells #[.int .i64 id, .int .i64 ent, .int .i64 per, .string ref, .slice (some ⟨w.heap.size + 1 + 1, 0, none⟩) 2 2, .bool void] 38)).alloc (.cells #[.int .i64 deb, .int .i64 amt, .int .i64 0, .int .i64 cred, .int .i64 (-amt), .int .i64 0] 40)) (w.heap.size + 1 + 1) 40 #[.int .i64 deb, .int .i64 amt, .int .i64 0, .int .i64 cred, .int .i64 (-amt), .int .i64 0] := Blk.new_at2 (by rw [World.size_alloc, hTs])
  have hB2 := hB0.alloc (.cells #[.int .i64 deb, .int .i64 amt, .int .i64 0, .int .i64 cred, .int .i64 (-amt), .int .i64 0] 40)
  have hsW : ((T.alloc (.cells #[.int .i64 id, .int .i64 ent, .int .i64 per, .string ref, .slice (some ⟨w.heap.size + 1 + 1, 0, none⟩) 2 2, .bool void] 38)).alloc (.cells #[.int .i64 deb, .int .i64 amt, .int .i64 0, .int .i64 cred, .int .i64 (-amt), .int .i64 0] 40)).heap.size = w.heap.size + 1 + 1 + 1 := by rw [World.size_alloc, World.size_alloc, hTs]
  have hzW := (hTz.alloc (.cells #[.int .i64 id, .int .i64 ent, .int .i64 per, .string ref, .slice (some ⟨w.heap.size + 1 + 1, 0, none⟩) 2 2, .bool void] 38)).alloc (.cells #[.int .i64 deb, .int .i64 amt, .int .i64 0, .int .i64 cred, .int .i64 (-amt), .int .i64 0] 40)
  rw [← hT]
  generalize hWW : (T.alloc (.cells #[.int .i64 id, .int .i64 ent, .int .i64 per, .string ref, .slice (some ⟨w.heap.size + 1 + 1, 0, none⟩) 2 2, .bool void] 38)).alloc (.cells #[.int .i64 deb, .int .i64 amt, .int .i64 0, .int .i64 cred, .int .i64 (-amt), .int .i64 0] 40) = W at *
  have hfl := fix_lit (n := 2) (size := 3) hB1 rfl (by omega)
  clear hB0 hWW hT hTs hTz
  have c0 := hB2.cell 0
  have c1 := hB2.cell 1
  have c2 := hB2.cell 2
  have c3 := hB2.cell 3
  have c4 := hB2.cell 4
  have c5 := hB2.cell 5
  cases hb : (b != 0) with
  | true =>
    go_wp2_with fail
    have hb' : b ≠ 0 := by simpa using hb
    rw [hPP.out, hL.out, if_pos hb']
    refine ⟨[⟨⟨id, ent, per, ref, [⟨deb, amt, 0⟩, ⟨cred, -amt, 0⟩], void⟩, .slice (some ⟨w.heap.size + 1 + 1, 0, none⟩) 2 2, [w.heap.size + 1 + 1]⟩], .slice (some ⟨w.heap.size + 1 + 1 + 1, 0, none⟩) 1 1, [w.heap.size + 1 + 1 + 1], rfl, fix_lit (n := 1) (size := 6) (Blk.new_at2 hsW) rfl (by omega), rfl, ?_, by simp; omega, by simp; omega, hzW.alloc _⟩
    intro x hx
    rw [List.mem_singleton.1 hx]
    exact hfl.alloc _
  | false =>
    have hb' : ¬ b ≠ 0 := by simpa using hb
    replace hL := hL.out
    rw [if_neg hb'] at hL
    have hrv1 := hrv.out _ _ (Fix.src hfl)
    clear hrv
    replace hL := Lib.hid hL
    replace hb' := Lib.hid hb'
    go_wp2_with fail
    clear c0 c1 c2 c3 c4 c5
    refine hrv1.mono ?_
    rintro e w1 ⟨hp, hq⟩
    unfold zeroJV at hp
    clear hrv1
    by_cases h0 : E = 0
    · obtain ⟨v, F, rfl, hfv, hF, hz1⟩ := hq h0
      obtain ⟨A2, cc, rfl, -⟩ := _root_.id hfv
      have hB3 := (hB2.chg hz1 (by simp)).alloc (.cells #[.int .i64 rid, .int .i64 ent, .int .i64 a, .string ⟨#[]⟩, .slice A2 2 cc, .bool false] 38)
      have hC := Blk.new w1 38 #[.int .i64 rid, .int .i64 ent, .int .i64 a, .string ⟨#[]⟩, .slice A2 2 cc, .bool false]
      have e0 := hC.cell 0
      have e1 := hC.cell 1
      have e2 := hC.cell 2
      have e3 := hC.cell 3
      have e4 := hC.cell 4
      have e5 := hC.cell 5
      have c0 := hB3.cell 0
      have c1 := hB3.cell 1
      have c2 := hB3.cell 2
      have c3 := hB3.cell 3
      have c4 := hB3.cell 4
      have c5 := hB3.cell 5
      have hfl1 := hfl.chg hz1 (by simp)
      have hzw1 := hzW.trans' hz1
      have hs1 : W.heap.size ≤ w1.heap.size := hz1.size
      have hL2 := hL.out
      rw [if_neg (by simp [h0])] at hL2
      replace hL2 := Lib.hid hL2
      replace h0 := Lib.hid h0
      clear hL hp hq hB2 hfl hz1 hzW hB3 hC
      go_wp2_with fail
      rw [hPP.out, hL2.out]
      refine ⟨[⟨⟨id, ent, per, ref, [⟨deb, amt, 0⟩, ⟨cred, -amt, 0⟩], void⟩, .slice (some ⟨w.heap.size + 1 + 1, 0, none⟩) 2 2, [w.heap.size + 1 + 1]⟩, ⟨⟨rid, ent, a, ⟨#[]⟩, List.map negLn [⟨deb, amt, 0⟩, ⟨cred, -amt, 0⟩], false⟩, .slice A2 2 cc, F⟩], .slice (some ⟨w1.heap.size + 1, 0, none⟩) 2 2, [w1.heap.size + 1], rfl, fix_lit (n := 2) (size := 6) (Blk.new_at2 (World.size_alloc _ _)) rfl (by omega), rfl, ?_, ?_, ?_, (hzw1.alloc _).alloc _⟩
      · intro x hx
        rcases List.mem_cons.1 hx with rfl | hx
        · exact (hfl1.alloc _).alloc _
        · rw [List.mem_singleton.1 hx]
          exact (hfv.alloc _).alloc _
      · intro g hg
        rw [List.mem_singleton.1 hg]
        omega
      · intro x hx
        rcases List.mem_cons.1 hx with rfl | hx
        · intro g hg
          rw [List.mem_singleton.1 hg]
          omega
        · rw [List.mem_singleton.1 hx]
          intro g hg
          have := hF g hg
          omega
    · obtain ⟨rfl, hz1⟩ := hp h0
      have hzw1 := hzW.trans' hz1
      have hL2 := hL.out
      rw [if_pos h0] at hL2
      have hb0 : (E != 0) = true := by simp [h0]
      clear hL hp hq hB2 hfl hz1 hzW
      replace hL2 := Lib.hid hL2
      go_wp2_with fail
      rw [hPP.out, hL2.out]
      exact ⟨[], .slice none 0 0, [], rfl, Fix.nil _ _ _, rfl, by simp, by simp, by simp, hzw1.alloc _⟩
end Go.Proofs.Ytlbkjhfnpjbjlaa
/- Plan: allocate. -/
namespace Go.Proofs.Ytlbkjhfnpjbjlaa
open Go.RowKit Go.Vx
set_option linter.unusedVariables false
set_option linter.unusedSimpArgs false

def sgI (a : Int) (T : List Nat) : List Int := T.map fun x : Nat => if a < 0 then -(x : Int) else x
theorem signed_sgI (a : Int) (T : List Nat) : signedAll a T = (sgI a T).map (Value.int .i64) := by
  unfold signedAll sgI
  rw [List.map_map]
  rfl
/-- The shares of an allocation. -/
def shT (t : Tp) : List Int := sgI t.amt (splitN t.amt.natAbs (weigh t.wt).toNat (t.wt.map Int.toNat))
def legsN (tg S : List Int) (k : Nat) : List Ln := (List.range k).flatMap fun i => if S.getD i 0 = 0 then [] else [⟨tg.getD i 0, S.getD i 0, 0⟩]
theorem legs_succ (tg S : List Int) (k : Nat) : legsN tg S (k + 1) = legsN tg S k ++ (if S.getD k 0 = 0 then [] else [⟨tg.getD k 0, S.getD k 0, 0⟩]) := by
  unfold legsN
  rw [List.range_succ, List.flatMap_append, List.flatMap_singleton]
theorem legs_len (tg S : List Int) : ∀ k, (legsN tg S k).length ≤ k
  | 0 => by simp [legsN]
  | k + 1 => by
    rw [legs_succ, List.length_append]
    have := legs_len tg S k
    split <;> simp <;> omega
def allJ (t : Tp) (j : Jn) : Jn := { j with lines := legsN t.tg (shT t) t.tg.length ++ [⟨t.cred, -t.amt, 0⟩] }
set_option maxRecDepth 100000 in
set_option maxHeartbeats 8000000 in
theorem pl_allocate (t : Tp) (j : Jn) {tA wA : Option Addr} {tc wc : Nat} {w : World} (ht : Src w 1 tA t.tg.length (t.tg.map (Value.int .i64))) (hw : Src w 1 wA t.tg.length (t.wt.map (Value.int .i64))) (hal : allB t = true) (h1 : 1 ≤ t.amt) (h2 : t.amt ≤ 1000000000000000) :
    Calls Try.prog 43 #[tpV t (.slice tA t.tg.length tc) (.slice wA t.tg.length wc), jnV j (.slice none 0 0)] w (MadePost w [allJ t j]) := by
  have hng : IntKind.i64.wrap (-t.amt) = -t.amt := by rw [IntKind.wrap_i64]; omega
  obtain ⟨i0, hi0, z0, z1, z2⟩ := info_parts lineInfo
  obtain ⟨PP, hPP⟩ : ∃ PP, PP = MadePost w [allJ t j] := ⟨_, rfl⟩
  rw [← hPP]
  have hok : okM t.amt = true ∧ weigh t.wt ≠ 0 ∧ t.tg.length < 8 := by
    unfold allB at hal
    simp only [Bool.and_eq_true, decide_eq_true_eq, bne_iff_ne] at hal
    exact ⟨hal.2.2.2.2.1, hal.2.2.2.2.2, hal.2.1⟩
  obtain ⟨n, hn⟩ : ∃ n, t.tg.length = n := ⟨_, rfl⟩
  have hJ : allJ t j = { j with lines := legsN t.tg (shT t) n ++ [⟨t.cred, -t.amt, 0⟩] } := by rw [← hn]; rfl
  have hsp := fun W (z : Chg [] w W) => split_good (c := wc) (hw.chg z (by simp)) hok.1 hok.2.1
  rw [signed_sgI] at hsp
  change ∀ W, Chg [] w W → Calls Try.prog 54 _ W (fun e w' => ∃ v F, e = .returned (.tuple #[v, .int .i64 0]) ∧ Fix w' 3 1 v t.tg.length ((shT t).map (Value.int .i64)) F ∧ (∀ g, g ∈ F → W.heap.size ≤ g) ∧ Chg [] W w') at hsp
  have hcell : ∀ W, Chg [] w W → ∀ i, i < n → ∃ ad, tA = some ad ∧ W.cell? (ad.add i) = some (.int .i64 (t.tg.getD i 0)) := fun W z i hi => by
    obtain ⟨ad, rfl, hc⟩ := (ht.chg z (by simp)).2 (by omega)
    refine ⟨ad, rfl, hc i _ ?_⟩
    rw [List.getElem?_map, List.getElem?_eq_getElem (by omega)]
    simp [List.getD, List.getElem?_eq_getElem (show i < t.tg.length by omega)]
  have hL1 := legs_succ t.tg (shT t)
  have hL2 := legs_len t.tg (shT t)
  have hL0 : legsN t.tg (shT t) 0 = [] := rfl
  generalize legsN t.tg (shT t) = LG at *
  generalize shT t = S at *
  obtain ⟨kind, id', ent', frm, til, every, amt, deb, cred, tg, wt, rank⟩ := t
  obtain ⟨id, ent, per, ref, ll, void⟩ := j
  unfold tpV jnV
  dsimp only at *
  rw [hn] at hsp ⊢
  obtain ⟨-, -, h8⟩ := hok
  rw [hn] at h8
  replace hPP := Lib.hid hPP
  replace hJ := Lib.hid hJ
  replace hcell := Lib.hid hcell
  replace hL1 := Lib.hid hL1
  replace hL2 := Lib.hid hL2
  replace hL0 := Lib.hid hL0
  replace hn := Lib.hid hn
  have hzW : Chg [] w ((w.alloc (.cells #[.int .i64 kind, .int .i64 id', .int .i64 ent', .int .i64 frm, .int .i64 til, .int .i64 every, .int .i64 amt, .int .i64 deb, .int .i64 cred, .slice tA n tc, .slice wA n wc, .int .i64 rank] 24)).alloc (.cells #[.int .i64 id, .int .i64 ent, .int .i64 per, .string ref, .slice none 0 0, .bool void] 38)) := ((Chg.refl _ _).alloc _).alloc _
  have hBt := (Blk.new w 24 #[.int .i64 kind, .int .i64 id', .int .i64 ent', .int .i64 frm, .int .i64 til, .int .i64 every, .int .i64 amt, .int .i64 deb, .int .i64 cred, .slice tA n tc, .slice wA n wc, .int .i64 rank]).alloc (.cells #[.int .i64 id, .int .i64 ent, .int .i64 per, .string ref, .slice none 0 0, .bool void] 38)
  have hBj : Blk ((w.alloc (.cells #[.int .i64 kind, .int .i64 id', .int .i64 ent', .int .i64 frm, .int .i64 til, .int .i64 every, .int .i64 amt, .int .i64 deb, .int .i64 cred, .slice tA n tc, .slice wA n wc, .int .i64 rank] 24)).alloc (.cells #[.int .i64 id, .int .i64 ent, .int .i64 per, .string ref, .slice none 0 0, .bool void] 38)) (w.heap.size + 1) 38 #[.int .i64 id, .int .i64 ent, .int .i64 per, .string ref, .slice none 0 0, .bool void] := Blk.new_at2 (World.size_alloc _ _)
  have hsp1 := hsp _ hzW
  clear hsp ht hw hal h1 h2
  go_enter Try.func43, Try.ntmps43
  go_wp2_with fail
  refine hsp1.mono ?_
  rintro e w1 ⟨v, Fp, rfl, hp, hFp, hz1⟩
  clear hsp1
  have hSl : S.length = n := by have := hp.choose_spec; obtain ⟨A, c, -, h, -⟩ := _root_.id hp; simpa using h
  obtain ⟨pA, pc, rfl, -⟩ := _root_.id hp
  have hBt1 := hBt.chg hz1 (by simp)
  have hBj1 := hBj.chg hz1 (by simp)
  have hzw1 := hzW.trans' hz1
  have hs1 : w.heap.size + 1 < w1.heap.size := hBj1.lt
  obtain ⟨jb, hjb⟩ : ∃ jb, w.heap.size + 1 = jb := ⟨_, rfl⟩
  rw [hjb] at hBj1 hs1 ⊢
  obtain ⟨tb, htb⟩ : ∃ tb, w.heap.size = tb := ⟨_, rfl⟩
  rw [htb] at hBt1 ⊢
  have htj : tb ≠ jb := hBt1.ne_ hBj1 (by decide)
  have hjp : jb ∉ Fp := hp.ne_blk hBj1 (by decide)
  have hpart : ∀ W, Chg [jb] w1 W → ∀ i, i < n → ∃ ad, pA = some ad ∧ W.cell? (ad.add i) = some (.int .i64 (S.getD i 0)) := fun W z i hi => by
    obtain ⟨ad, rfl, hc⟩ := (Fix.src (hp.chg z (fun g hg hm => hjp (by rw [← List.mem_singleton.1 hm]; exact hg)))).2 (by omega)
    refine ⟨ad, rfl, hc i _ ?_⟩
    rw [List.getElem?_map, List.getElem?_eq_getElem (by omega)]
    simp [List.getD, List.getElem?_eq_getElem (show i < S.length by omega)]
  have hBtc := fun W (z : Chg [jb] w1 W) => hBt1.chg z (by simpa using htj)
  have hzc : ∀ W, Chg [jb] w1 W → Chg [] w W := fun W z => hzw1.trans z (fun g hg => .inr (by rw [List.mem_singleton.1 hg]; omega))
  replace hpart := Lib.hid hpart
  replace hBtc := Lib.hid hBtc
  replace hzc := Lib.hid hzc
  replace hjb := Lib.hid hjb
  replace htb := Lib.hid htb
  clear hz1 hzW hBt hBj hp hFp hjp
  go_wp2_with fail
  go_loopw [19] (fun iv wr => ∃ (k : Nat) (lv : Value) (F : List Nat), k ≤ n ∧ iv = .int .i64 k ∧ Blk wr jb 38 #[.int .i64 id, .int .i64 ent, .int .i64 per, .string ref, lv, .bool void] ∧ Fix wr 40 3 lv (LG k).length ((LG k).flatMap lnEnc) F ∧ (∀ g ∈ F, w1.heap.size ≤ g) ∧ Chg [jb] w1 wr) (fun iv _ => n - (intOf iv).toNat)
  case atStart => exact ⟨0, .slice none 0 0, [], by omega, rfl, hBj1, by rw [hL0.out]; exact Fix.nil _ _ _, by simp, Chg.refl _ _⟩
  case round =>
    obtain ⟨k, lv, F, hk, rfl, hBr, hf, hF, hzr⟩ := hrel
    obtain ⟨lA, lc, rfl, -⟩ := _root_.id hf
    clear hBj1
    by_cases hlt : k < n
    · obtain ⟨ad, rfl, hcp⟩ := hpart.out _ hzr k hlt
      obtain ⟨ad2, rfl, hct⟩ := hcell.out _ (hzc.out _ hzr) k hlt
      have hkw : IntKind.i64.wrap ((k : Int) + 1) = (k : Int) + 1 := by rw [IntKind.wrap_i64]; omega
      have hlt2 : (k : Int) < (n : Int) := by omega
      have hLk := hL1.out k
      have hLn := hL2.out k
      generalize S.getD k 0 = s at *
      generalize tg.getD k 0 = tk at *
      by_cases h0 : s = 0
      · subst h0
        rw [if_pos rfl, List.append_nil] at hLk
        replace hLk := Lib.hid hLk
        go_wp2_with fail
        exact ⟨⟨k + 1, _, F, by omega, by go_num, hBr, by rw [hLk.out]; exact hf, hF, hzr⟩, by simp [intOf]; omega⟩
      · rw [if_neg h0] at hLk
        have hb : (s != 0) = true := by simp [h0]
        have hBtr := hBtc.out _ hzr
        have d9 := hBtr.cell 9
        have c4 : wr.drew.cell? ⟨jb, 4, none⟩ = some (.slice lA (LG k).length lc) := hBr.cell 4
        have ca := cell_al c4
        have ca2 : ∀ o, (wr.alloc o).drew.cell? ⟨jb, 4, none⟩ = some (.slice lA (LG k).length lc) := fun o => ca o
        have f4 := hBr.frozen 4
        have hsr := hzr.size
        replace hLk := Lib.hid hLk
        replace h0 := Lib.hid h0
        clear hBtr
        go_wp2_with fail
        have hfd : Fix wr.drew 40 3 (.slice lA (LG k).length lc) (LG k).length ((LG k).flatMap lnEnc) F := hf
        have hBd : Blk wr.drew jb 38 #[.int .i64 id, .int .i64 ent, .int .i64 per, .string ref, .slice lA (LG k).length lc, .bool void] := hBr
        have hzd := hzr.drew
        have hjF : jb ∉ F := hf.ne_blk hBr (by decide)
        have d9' : wr.drew.cell? ⟨tb, 9, none⟩ = some (.slice (some ad2) n tc) := d9
        have hct' : wr.drew.cell? (ad2.add k) = some (.int .i64 tk) := hct
        clear hf hBr
        go_region_law (refine step_append_fix rfl _ _ 36 rfl Try.underlying36 hi0 z0 z1 z2 rfl (by omega) (n := (LG k).length) (xs := (LG k).flatMap lnEnc) (F := F) rfl (hfd.alloc _) rfl (Src.one3 rfl) (by simp [Value.oneCell']) (by unfold maxLen; omega) (by omega) ?_; intro v3 w3 F3 hA; obtain ⟨g1, k1, rfl, rfl⟩ := hA.head (by omega); have hb3 := (hBd.alloc (.cells #[.int .i64 tk, .int .i64 s, .int .i64 0] 40)).chg hA.chg hjF; have g4 := hb3.cell 4; have gf := hb3.frozen 4)
        all_goals
          go_wp2_with fail
          have hq : Chg [jb] w3 (w3.setCell ⟨jb, 4, none⟩ (.slice (some ⟨g1, 0, none⟩) ((LG k).length + 1) k1)) := (Chg.refl _ _).setCell (.inl (by simp)) _
          refine ⟨⟨k + 1, .slice (some ⟨g1, 0, none⟩) ((LG k).length + 1) k1, [g1], by omega, by go_num, ?_, ?_, ?_, ?_⟩, by simp [intOf]; omega⟩
          · have := hb3.set_ 4 (.slice (some ⟨g1, 0, none⟩) ((LG k).length + 1) k1)
            simpa using this
          · have := hA.fix.chg hq (hA.fix.not_mem hb3 (by decide))
            rw [hLk.out, List.flatMap_append, List.length_append]
            exact this
          · intro g hg
            rcases hA.foot with h | h
            · rw [h] at hg; exact hF g hg
            · rw [h, List.mem_singleton] at hg; rw [hg]; simp [World.size_alloc]; omega
          · exact ((hzd.alloc (.cells #[.int .i64 tk, .int .i64 s, .int .i64 0] 40)).trans hA.chg (fun g hg => .inr (hF g hg))).trans hq (fun g hg => .inl hg)
    · obtain rfl : k = n := by omega
      have hBtr := hBtc.out _ hzr
      have d8 := hBtr.cell 8
      have d6 := hBtr.cell 6
      have c4 : wr.cell? ⟨jb, 4, none⟩ = some (.slice lA (LG k).length lc) := hBr.cell 4
      have hLn := hL2.out k
      have hsr := hzr.size
      have hjF : jb ∉ F := hf.ne_blk hBr (by decide)
      have hzwr := hzc.out _ hzr
      have hfa := Lib.hid (hf.alloc (.cells #[.int .i64 cred, .int .i64 (-amt), .int .i64 0] 40))
      have hBa := Lib.hid (hBr.alloc (.cells #[.int .i64 cred, .int .i64 (-amt), .int .i64 0] 40))
      have hza := Lib.hid (hzwr.alloc (.cells #[.int .i64 cred, .int .i64 (-amt), .int .i64 0] 40))
      have hFw : ∀ g ∈ F, w.heap.size ≤ g := fun g hg => by have := hF g hg; have := hjb.out; omega
      replace hF := Lib.hid hF
      replace hFw := Lib.hid hFw
      clear hBtr hf hBr hlt
      go_wp2_with (
        at_builtin
        refine wpList_append_fix rfl (.tmp 40) (.tmp 47) 36 rfl Try.underlying36 hi0 z0 z1 z2 rfl (by omega) rfl hfa.out rfl (Src.one3 rfl) (by simp [Value.oneCell']) (by unfold maxLen; omega) (by omega) ?_
        intro v3 w3 F3 hA
        obtain ⟨g1, k1, rfl, rfl⟩ := hA.head (by omega)
        have hb3 := hBa.out.chg hA.chg hjF
        have g4 := hb3.cell 4
        have gf := hb3.frozen 4
        have q0 := hb3.cell 0
        have q1 := hb3.cell 1
        have q2 := hb3.cell 2
        have q3 := hb3.cell 3
        have q5 := hb3.cell 5
        replace hA := Lib.hid hA
        replace hb3 := Lib.hid hb3)
      rw [hPP.out, hJ.out]
      have hA' := hA.out
      have hq : Chg [jb] w3 (w3.setCell ⟨jb, 4, none⟩ (.slice (some ⟨g1, 0, none⟩) ((LG k).length + 1) k1)) := (Chg.refl _ _).setCell (.inl (by simp)) _
      have hfx := hA'.fix.chg hq (hA'.fix.not_mem hb3.out (by decide))
      have hg1 : w.heap.size ≤ g1 := by
        rcases hA'.foot with h | h
        · exact hFw.out g1 (by rw [← h]; simp)
        · rw [List.singleton_inj.1 h]; simp [World.size_alloc]; have := hjb.out; omega
      have hch : Chg [] w (w3.setCell ⟨jb, 4, none⟩ (.slice (some ⟨g1, 0, none⟩) ((LG k).length + 1) k1)) := ((hza.out.trans hA'.chg (fun g hg => .inr (hFw.out g hg)))).trans hq (fun g hg => .inr (by rw [List.mem_singleton.1 hg]; have := hjb.out; omega))
      have hw3 := hch.size
      have hss : (w3.setCell ⟨jb, 4, none⟩ (.slice (some ⟨g1, 0, none⟩) ((LG k).length + 1) k1)).heap.size = w3.heap.size := by simp
      refine ⟨[⟨⟨id, ent, per, ref, LG k ++ [⟨cred, -amt, 0⟩], void⟩, .slice (some ⟨g1, 0, none⟩) ((LG k).length + 1) k1, [g1]⟩], .slice (some ⟨w3.heap.size, 0, none⟩) 1 1, [w3.heap.size], rfl, fix_lit (n := 1) (size := 6) (Blk.new_at2 hss) rfl (by omega), rfl, ?_, ?_, ?_, hch.alloc _⟩
      · intro x hx
        rw [List.mem_singleton.1 hx]
        dsimp only
        rw [List.flatMap_append, List.length_append]
        exact hfx.alloc _
      · intro g hg
        rw [List.mem_singleton.1 hg]
        omega
      · intro x hx g hg
        rw [List.mem_singleton.1 hx] at hg
        rw [List.mem_singleton.1 hg]
        exact hg1
end Go.Proofs.Ytlbkjhfnpjbjlaa
/- Plan: Contains, and what Make calls. -/
namespace Go.Proofs.Ytlbkjhfnpjbjlaa
open Go.RowKit Go.Vx
set_option linter.unusedVariables false
set_option linter.unusedSimpArgs false

def j0T (t : Tp) (per id : Int) : Jn := ⟨id, t.ent, per, ⟨#[]⟩, [], false⟩
def rawL (t : Tp) (per id : Int) : List Jn := if t.kind = 1 then accL t (j0T t per id) else [allJ t (j0T t per id)]
def goodL (L : List Jn) : Bool := L.all fun j => decide (checkE j = 0)
def makeL (t : Tp) (per id : Int) : List Jn := if checkT t = true then (if (perL t).contains per = true then (if goodL (rawL t per id) = true then rawL t per id else []) else []) else []
def MkPost (w : World) (L : List Jn) (e : Ending) (w' : World) : Prop := ∃ (X : List JV) (v : Value) (F : List Nat), e = .returned (.tuple #[v, .int .i64 (if L = [] then 1 else 0)]) ∧ Fix w' 38 6 v X.length (X.flatMap jvEnc) F ∧ jns X = L ∧ (∀ x ∈ X, Fix w' 40 3 x.pv x.j.lines.length (x.j.lines.flatMap lnEnc) x.pF) ∧ (∀ g ∈ F, w.heap.size ≤ g) ∧ (∀ x ∈ X, ∀ g ∈ x.pF, w.heap.size ≤ g) ∧ Chg [] w w'
theorem acc_ref {t : Tp} {per id : Int} : ∀ j ∈ accL t (j0T t per id), j.ref = ⟨#[]⟩ ∧ j.lines.length = 2 := by
  intro j hj
  unfold accL at hj
  split at hj
  · rw [List.mem_singleton.1 hj]; exact ⟨rfl, rfl⟩
  · split at hj
    · cases hj
    · rcases List.mem_cons.1 hj with h | h
      · rw [h]; exact ⟨rfl, rfl⟩
      · rw [List.mem_singleton.1 h]; exact ⟨rfl, rfl⟩
theorem raw_ref {t : Tp} {per id : Int} (h : checkT t = true) : ∀ j ∈ rawL t per id, j.ref = ⟨#[]⟩ ∧ j.lines.length ≤ 9 := by
  intro j hj
  unfold rawL at hj
  split at hj
  · obtain ⟨h1, h2⟩ := acc_ref j hj
    exact ⟨h1, by omega⟩
  · rename_i hk
    rw [List.mem_singleton.1 hj]
    have h8 : t.tg.length < 8 := by
      unfold checkT at h
      rw [if_neg hk, Bool.and_eq_true] at h
      have h := h.2
      split at h
      · unfold allB at h
        simp only [Bool.and_eq_true, decide_eq_true_eq] at h
        exact h.2.1
      · cases h
    refine ⟨rfl, ?_⟩
    unfold allJ
    dsimp only
    rw [List.length_append]
    have := legs_len t.tg (shT t) t.tg.length
    simp only [List.length_singleton]
    omega
theorem mk_call (t : Tp) (per id : Int) {tA wA : Option Addr} {tn wn tc wc : Nat} {w : World} (ht : Src w 1 tA tn (t.tg.map (Value.int .i64))) (hw : Src w 1 wA wn (t.wt.map (Value.int .i64))) (h : checkT t = true) :
    ∃ fid, (t.kind = 1 → fid = 41) ∧ (t.kind = 2 → fid = 43) ∧ (t.kind = 1 ∨ t.kind = 2) ∧ (∀ args W, (callFunc fid args).run Try.prog W = .ok (.enter fid args) W) ∧ ∀ W, Chg [] w W → Calls Try.prog fid #[tpV t (.slice tA tn tc) (.slice wA wn wc), jnV (j0T t per id) (.slice none 0 0)] W (MadePost W (rawL t per id)) := by
  obtain ⟨-, -, -, -, -, h1, h2, -⟩ := check_front h
  have hlt : t.tg.length = tn := by have := ht.1; simpa using this
  by_cases hk : t.kind = 1
  · refine ⟨41, fun _ => rfl, fun h => absurd (hk.symm.trans h) (by decide), .inl hk, fun _ _ => by kernel_rfl, fun W z => ?_⟩
    have := pl_accrue t (j0T t per id) tA wA tn tc wn wc h1 h2 (by show ByteArray.size ⟨#[]⟩ ≤ maxLen; decide) W
    unfold rawL
    rw [if_pos hk]
    exact this
  · have h' := h
    unfold checkT at h'
    rw [if_neg hk, Bool.and_eq_true] at h'
    have h3 := h'.2
    by_cases hk2 : t.kind = 2
    · rw [if_pos hk2] at h3
      have hwl : t.wt.length = t.tg.length := by
        unfold allB at h3
        simp only [Bool.and_eq_true, decide_eq_true_eq] at h3
        exact h3.2.2.1
      have hlw : t.wt.length = wn := by have := hw.1; simpa using this
      have hwn : wn = t.tg.length := by omega
      subst hwn
      subst hlt
      refine ⟨43, fun h => absurd h hk, fun _ => rfl, .inr hk2, fun _ _ => by kernel_rfl, fun W z => ?_⟩
      have := pl_allocate t (j0T t per id) (tc := tc) (wc := wc) (ht.chg z (by simp)) (hw.chg z (by simp)) h3 h1 h2
      unfold rawL
      rw [if_neg hk]
      exact this
    · rw [if_neg hk2] at h3
      cases h3
theorem good_take {L : List Jn} {k : Nat} (hk : k < L.length) (h : checkE L[k] ≠ 0) : goodL L = false := by
  unfold goodL
  exact List.all_eq_false.2 ⟨L[k], List.getElem_mem hk, by simpa using h⟩
theorem good_all {L : List Jn} (h : ∀ i (hi : i < L.length), checkE L[i] = 0) : goodL L = true := by
  unfold goodL
  rw [List.all_eq_true]
  intro j hj
  obtain ⟨i, hi, rfl⟩ := List.getElem_of_mem hj
  simpa using h i hi
end Go.Proofs.Ytlbkjhfnpjbjlaa
/- Plan: Make. -/
namespace Go.Proofs.Ytlbkjhfnpjbjlaa
open Go.RowKit Go.Vx
set_option linter.unusedVariables false
set_option linter.unusedSimpArgs false

theorem sl_contains {w : World} {e : TypeId} {v : Value} {F : List Nat} {l : List Int} (h : Fix w e 1 v l.length (l.map (Value.int .i64)) F) (x : Int) (hn : l.length ≤ 1000000) :
    Calls Try.prog 27 #[v, .int .i64 x] w fun e w' => e = .returned (.bool (l.contains x)) ∧ w' = w := by
  obtain ⟨A, c, rfl, -, -, -, hh⟩ := _root_.id h
  rcases Nat.eq_zero_or_pos l.length with hz | hz
  · have : l = [] := List.eq_nil_of_length_eq_zero hz
    subst this
    exact Try.slices_Contains_int_empty _ _ _ _
  · obtain ⟨ad, rfl, hc⟩ := (Fix.src h).2 hz
    rcases hh with ⟨hc0, -⟩ | ⟨g, cur, ha, -⟩
    · obtain ⟨A', c', hv, -, h2, -⟩ := h
      cases hv
      omega
    · cases ha
      have := Try.slices_Contains_int g 0 l.length c l x w (by simp) (by omega) (fun j hj => by
        have := hc j (.int .i64 (l.getD j 0)) (by simp [List.getD_eq_getElem?_getD, hj])
        rw [← this]
        congr 1
        unfold Addr.add
        by_cases hj0 : j = 0 <;> simp [hj0])
      rwa [List.take_of_length_le (by simp)] at this
set_option maxRecDepth 100000 in
set_option maxHeartbeats 8000000 in
theorem pl_make (t : Tp) (per id : Int) {tA wA : Option Addr} {tn wn tc wc : Nat} {w : World} (ht : Src w 1 tA tn (t.tg.map (Value.int .i64))) (hw : Src w 1 wA wn (t.wt.map (Value.int .i64))) (htn : tn ≤ 1000000) (hwn : wn ≤ 1000000) :
    Calls Try.prog 11 #[tpV t (.slice tA tn tc) (.slice wA wn wc), .int .i64 per, .int .i64 id] w (MkPost w (makeL t per id)) := by
  obtain ⟨PP, hPP⟩ : ∃ PP, PP = MkPost w (makeL t per id) := ⟨_, rfl⟩
  rw [← hPP]
  have hml : makeL t per id = if checkT t = true then (if (perL t).contains per = true then (if goodL (rawL t per id) = true then rawL t per id else []) else []) else [] := rfl
  have hbad : makeL t per id = [] → Hid (∀ W, Chg [] w W → PP (.returned (.tuple #[.slice none 0 0, .int .i64 1])) W) := fun h => Lib.hid fun W z => by
    rw [hPP, h]
    exact ⟨[], _, [], rfl, Fix.nil _ _ _, rfl, by simp, by simp, by simp, z⟩
  have hck := fun W (z : Chg [] w W) => pl_check t (tc := tc) (wc := wc) (ht.chg z (by simp)) (hw.chg z (by simp)) htn hwn
  have hpr := fun W (z : Chg [] w W) => pl_periods t (tc := tc) (wc := wc) (ht.chg z (by simp)) (hw.chg z (by simp)) htn hwn
  have hway := fun W => pl_way t tA wA tn wn tc wc W
  have hmk := fun h => mk_call t per id (tc := tc) (wc := wc) ht hw h
  have hcE : chkE t = if checkT t = true then 0 else 1 := rfl
  have hpl : (perL t).length ≤ 1000000 := by
    unfold perL
    split
    · rename_i hc
      rw [per_len]
      have := @cnt_lt t hc (cntT t - 1)
      obtain ⟨h1, h2, h3, h4, h5, -⟩ := check_front hc
      unfold cntT
      have : (t.til - t.frm).toNat / t.every.toNat ≤ (t.til - t.frm).toNat := Nat.div_le_self _ _
      omega
    · simp
  have href := fun h => @raw_ref t per id h
  have hgt := fun k => @good_take (rawL t per id) k
  have hga := @good_all (rawL t per id)
  generalize checkT t = cb at *
  generalize perL t = PL at *
  generalize chkE t = CE at *
  generalize hL : rawL t per id = RL at *
  generalize makeL t per id = ML at *
  unfold j0T at hmk
  clear hL ht hw
  obtain ⟨kind, id', ent, frm, til, every, amt, deb, cred, tg, wt, rank⟩ := t
  unfold tpV jnV at *
  dsimp only at *
  have hz := (Chg.refl [] w).alloc (.cells #[.int .i64 kind, .int .i64 id', .int .i64 ent, .int .i64 frm, .int .i64 til, .int .i64 every, .int .i64 amt, .int .i64 deb, .int .i64 cred, .slice tA tn tc, .slice wA wn wc, .int .i64 rank] 24)
  have hB := Blk.new w 24 #[.int .i64 kind, .int .i64 id', .int .i64 ent, .int .i64 frm, .int .i64 til, .int .i64 every, .int .i64 amt, .int .i64 deb, .int .i64 cred, .slice tA tn tc, .slice wA wn wc, .int .i64 rank]
  have hck1 := hck _ hz
  rw [hcE] at hck1
  replace hPP := Lib.hid hPP
  replace hml := Lib.hid hml
  replace hbad := Lib.hid hbad
  replace hmk := Lib.hid hmk
  replace hpr := Lib.hid hpr
  replace hpl := Lib.hid hpl
  replace href := Lib.hid href
  replace hgt := Lib.hid hgt
  replace hga := Lib.hid hga
  replace hway := Lib.hid hway
  clear hck hcE
  go_enter Try.func11, Try.ntmps11
  go_wp2_with fail
  obtain ⟨w1, hw1⟩ : ∃ w1, w1 = w.alloc (.cells #[.int .i64 kind, .int .i64 id', .int .i64 ent, .int .i64 frm, .int .i64 til, .int .i64 every, .int .i64 amt, .int .i64 deb, .int .i64 cred, .slice tA tn tc, .slice wA wn wc, .int .i64 rank] 24) := ⟨_, rfl⟩
  rw [← hw1] at hB hz hck1 ⊢
  clear hw1
  obtain ⟨jb, hjb⟩ : ∃ jb, w.heap.size = jb := ⟨_, rfl⟩
  rw [hjb] at hB ⊢
  clear hjb
  have hBc := fun W (k : Chg [] w1 W) => hB.chg k (by simp)
  replace hBc := Lib.hid hBc
  clear hB
  refine hck1.mono ?_
  rintro e w2 ⟨rfl, hz2⟩
  have hzw2 := hz.trans' hz2
  clear hck1
  cases cb with
  | false =>
    have hb := hbad.out (by rw [hml.out]; rfl)
    rw [if_neg (by simp)]
    go_wp2_with fail
    exact hb.out _ hzw2
  | true =>
  rw [if_pos rfl]
  have hml2 : Hid (ML = if PL.contains per = true then (if goodL RL = true then RL else []) else []) := Lib.hid (by rw [hml.out, if_pos rfl])
  obtain ⟨fid, hf1, hf2, hkk, hcf, hmk2⟩ := hmk.out rfl
  have href2 := Lib.hid (href.out rfl)
  replace hmk2 := Lib.hid hmk2
  replace hcf := Lib.hid hcf
  clear hml hmk href
  have hpr2 := hpr.out _ hzw2
  have d0 := (hBc.out _ hz2).cell 0
  have d1 := (hBc.out _ hz2).cell 1
  have d2 := (hBc.out _ hz2).cell 2
  have d3 := (hBc.out _ hz2).cell 3
  have d4 := (hBc.out _ hz2).cell 4
  have d5 := (hBc.out _ hz2).cell 5
  have d6 := (hBc.out _ hz2).cell 6
  have d7 := (hBc.out _ hz2).cell 7
  have d8 := (hBc.out _ hz2).cell 8
  have d9 := (hBc.out _ hz2).cell 9
  have d10 := (hBc.out _ hz2).cell 10
  have d11 := (hBc.out _ hz2).cell 11
  go_wp2_with fail
  refine hpr2.mono ?_
  rintro e w3 ⟨pv, pF, rfl, hpf, hpF, hz3⟩
  clear hpr2 d0 d1 d2 d3 d4 d5 d6 d7 d8 d9 d10 d11
  have hct := sl_contains hpf per hpl.out
  go_wp2_with fail
  refine hct.mono ?_
  rintro e w4 ⟨rfl, rfl⟩
  clear hct
  cases hc : PL.contains per with
  | false =>
    have hb := hbad.out (by rw [hml2.out, hc]; rfl)
    clear hc
    go_wp2_with fail
    exact hb.out _ (hzw2.trans' hz3)
  | true =>
  have hml3 : Hid (ML = if goodL RL = true then RL else []) := Lib.hid (by rw [hml2.out, if_pos hc])
  have hz13 := hz2.trans' hz3
  have hzw3 := hzw2.trans' hz3
  replace hpf := Lib.hid hpf
  clear hml2 hc hpF
  have d0 := (hBc.out _ hz13).cell 0
  have d1 := (hBc.out _ hz13).cell 1
  have d2 := (hBc.out _ hz13).cell 2
  have d3 := (hBc.out _ hz13).cell 3
  have d4 := (hBc.out _ hz13).cell 4
  have d5 := (hBc.out _ hz13).cell 5
  have d6 := (hBc.out _ hz13).cell 6
  have d7 := (hBc.out _ hz13).cell 7
  have d8 := (hBc.out _ hz13).cell 8
  have d9 := (hBc.out _ hz13).cell 9
  have d10 := (hBc.out _ hz13).cell 10
  have d11 := (hBc.out _ hz13).cell 11
  go_wp2_with fail
  refine (hway.out _).mono ?_
  rintro e w5 ⟨⟨a, b, rfl, ha, hb, hk1, hk2⟩, hz5⟩
  clear hway d0 d1 d2 d3 d4 d5 d6 d7 d8 d9 d10 d11
  obtain rfl : b = .func (.func fid) #[] #[] := by
    rcases hkk with h | h
    · rw [(hk1 h).2, hf1 h]; rfl
    · rw [(hk2 h).2, hf2 h]; rfl
  have hz6 := hz5.alloc (.cells #[a, .func (.func fid) #[] #[]] 69)
  obtain ⟨s1, s2, hBl⟩ := store_ways w5 w5.heap.size rfl ha hb
  have c1 := hBl.cell 1
  have hz16 := hz13.trans' hz6
  have hzw6 := hzw3.trans' hz6
  have hmk3 := hmk2.out _ hzw6
  have d0 := (hBc.out _ hz16).cell 0
  have d1 := (hBc.out _ hz16).cell 1
  have d2 := (hBc.out _ hz16).cell 2
  have d3 := (hBc.out _ hz16).cell 3
  have d4 := (hBc.out _ hz16).cell 4
  have d5 := (hBc.out _ hz16).cell 5
  have d6 := (hBc.out _ hz16).cell 6
  have d7 := (hBc.out _ hz16).cell 7
  have d8 := (hBc.out _ hz16).cell 8
  have d9 := (hBc.out _ hz16).cell 9
  have d10 := (hBc.out _ hz16).cell 10
  have d11 := (hBc.out _ hz16).cell 11
  replace ha := Lib.hid ha
  replace hb := Lib.hid hb
  clear hk1 hk2 hkk hf1 hf2 hBl hmk2
  have hcf2 := hcf.out
  go_wp2_with fail
  try rw [hcf2]
  refine Calls.mono hmk3 ?_
  rintro e w7 ⟨X, v, F, rfl, hfx, hjx, hlx, hF, hpF, hz7⟩
  clear hmk3 hcf hcf2 d0 d1 d2 d3 d4 d5 d6 d7 d8 d9 d10 d11 s1 s2 c1
  obtain ⟨vA, vc, rfl, -, hvc, hvm, -⟩ := _root_.id hfx
  have hzw7 := hzw6.trans' hz7
  have hnx : RL.length = X.length := by rw [← hjx, List.length_map]
  have hcells : ∀ W, Chg [] w7 W → ∀ k, k < X.length → ∃ ad pA pc q, (k < RL.length) ∧ vA = some ad ∧ W.cell? (ad.add (k * 6)) = some (.int .i64 q.id) ∧ W.cell? ⟨(ad.add (k * 6)).block, (ad.add (k * 6)).off + 1, none⟩ = some (.int .i64 q.ent) ∧ W.cell? ⟨(ad.add (k * 6)).block, (ad.add (k * 6)).off + 2, none⟩ = some (.int .i64 q.per) ∧
      W.cell? ⟨(ad.add (k * 6)).block, (ad.add (k * 6)).off + 3, none⟩ = some (.string q.ref) ∧ W.cell? ⟨(ad.add (k * 6)).block, (ad.add (k * 6)).off + 4, none⟩ = some (.slice pA q.lines.length pc) ∧ W.cell? ⟨(ad.add (k * 6)).block, (ad.add (k * 6)).off + 5, none⟩ = some (.bool q.void) ∧
      Hid ((checkE q ≠ 0 → goodL RL = false) ∧ (∀ i (hi : i < RL.length), i < k + 1 → i < k ∨ RL[i] = q)) ∧ (∀ W2, Chg [] W W2 → Calls Try.prog 29 #[jnV q (.slice pA q.lines.length pc)] W2 fun e w' => e = .returned (.int .i64 (checkE q)) ∧ Chg [] W2 w') := by
    intro W z k hk
    obtain ⟨ad, hA, c0, c1, c2, c3, c4, c5⟩ := jv_cells (Fix.src (hfx.chg z (by simp))) hk
    have hmem := List.getElem_mem hk
    have hl := (hlx _ hmem).chg z (by simp)
    obtain ⟨pA, pc, hp, -⟩ := _root_.id hl
    rw [hp] at c4 hl
    have hkr : k < RL.length := by omega
    have hq : RL[k] = X[k].j := by
      have : (X.map fun q => q.j)[k]'(by simpa using hk) = X[k].j := List.getElem_map _
      rw [← this]
      congr 1
      exact hjx.symm
    have hrr := href2.out RL[k] (List.getElem_mem hkr)
    rw [hq] at hrr
    refine ⟨ad, pA, pc, X[k].j, hkr, hA, c0, c1, c2, c3, c4, c5, Lib.hid ⟨fun h => hgt.out _ hkr (by rw [hq]; exact h), fun i hi hik => ?_⟩, fun W2 z2 => jo_check _ (Fix.src (hl.chg z2 (by simp))) (by omega) (by rw [hrr.1]; decide)⟩
    by_cases he : i = k
    · subst he; exact .inr hq
    · exact .inl (by omega)
  have hfin : goodL RL = true → Hid (∀ W, Chg [] w7 W → X.length ≠ 0 → PP (.returned (.tuple #[.slice vA X.length vc, .int .i64 0])) W) := fun h => Lib.hid fun W z h0 => by
    rw [hPP.out, hml3.out, if_pos h]
    exact ⟨X, _, F, by rw [if_neg (by intro hc; rw [hc] at hnx; exact h0 hnx.symm)], hfx.chg z (by simp), hjx, fun x hx => (hlx x hx).chg z (by simp), fun g hg => by have := hF g hg; have := hzw6.size; omega, fun x hx g hg => by have := hpF x hx g hg; have := hzw6.size; omega, hzw7.trans' z⟩
  have hbg : goodL RL = false → Hid (∀ W, Chg [] w7 W → PP (.returned (.tuple #[.slice none 0 0, .int .i64 1])) W) := fun h => Lib.hid fun W z => (hbad.out (by rw [hml3.out, h]; rfl)).out _ (hzw7.trans' z)
  have hb0 : X.length = 0 → Hid (∀ W, Chg [] w7 W → PP (.returned (.tuple #[.slice none 0 0, .int .i64 1])) W) := fun h => Lib.hid fun W z => (hbad.out (by rw [hml3.out, List.eq_nil_of_length_eq_zero (hnx.trans h)]; simp)).out _ (hzw7.trans' z)
  have hnm : X.length ≤ 9223372036854775807 := by unfold maxLen at hvm; omega
  generalize X.length = n at *
  replace hcells := Lib.hid hcells
  replace hnx := Lib.hid hnx
  clear hfx hjx hlx hF hpF hvc hvm
  go_wp2_with fail
  go_loopw [39] (fun iv wr => ∃ k : Nat, k ≤ n ∧ iv = .int .i64 k ∧ Hid (∀ i (hi : i < RL.length), i < k → checkE RL[i] = 0) ∧ Chg [] w7 wr) (fun iv _ => n - (intOf iv).toNat)
  case atStart => exact ⟨0, by omega, rfl, Lib.hid (fun i _ h => by omega), Chg.refl _ _⟩
  case round =>
    obtain ⟨k, hk, rfl, hj, hzr⟩ := hrel
    by_cases hlt : k < n
    · obtain ⟨ad, pA, pc, q, hkr, rfl, c0, c1, c2, c3, c4, c5, hq, hcc⟩ := hcells.out _ hzr k hlt
      have hlt2 : (k : Int) < (n : Int) := by omega
      have hkw : IntKind.i64.wrap ((k : Int) + 1) = (k : Int) + 1 := by rw [IntKind.wrap_i64]; omega
      have hcc2 := hcc _ ((Chg.refl _ _).alloc (.cells #[.int .i64 q.id, .int .i64 q.ent, .int .i64 q.per, .string q.ref, .slice pA q.lines.length pc, .bool q.void] 38))
      have hza := hzr.alloc (.cells #[.int .i64 q.id, .int .i64 q.ent, .int .i64 q.per, .string q.ref, .slice pA q.lines.length pc, .bool q.void] 38)
      generalize hE : checkE q = E at *
      unfold jnV at hcc2
      generalize q.id = q0 at *
      generalize q.ent = q1 at *
      generalize q.per = q2 at *
      generalize q.ref = q3 at *
      generalize q.lines.length = q4 at *
      generalize q.void = q5 at *
      replace hE := Lib.hid hE
      clear hcc hkr
      by_cases h0 : E = 0
      · subst h0
        go_wp2_with fail
        refine hcc2.mono ?_
        rintro e w8 ⟨rfl, hz8⟩
        clear hcc2 c0 c1 c2 c3 c4 c5
        go_wp2_with fail
        exact ⟨⟨k + 1, by omega, by go_num, Lib.hid (fun i hi hik => (hq.out.2 i hi hik).elim (fun h => hj.out i hi h) (fun h => by rw [h]; exact hE.out)), hza.trans' hz8⟩, by simp [intOf]; omega⟩
      · have hb : (E != 0) = true := by simpa using h0
        have hg := hbg (hq.out.1 h0)
        go_wp2_with fail
        refine hcc2.mono ?_
        rintro e w8 ⟨rfl, hz8⟩
        clear hcc2 c0 c1 c2 c3 c4 c5
        go_wp2_with fail
        exact hg.out _ (hza.trans' hz8)
    · obtain rfl : k = n := by omega
      have hgd : goodL RL = true := hga.out fun i hi => hj.out i hi (by have := hnx.out; omega)
      have hf := hfin hgd
      clear hfin hgd hbg
      by_cases h0 : k = 0
      · have hb := hb0 h0
        have hb1 : ((k : Int) == 0) = true := by simp; omega
        clear hb0 hf h0
        go_wp2_with fail
        exact hb.out _ hzr
      · have hb1 : ((k : Int) == 0) = false := by simp; omega
        clear hb0
        replace h0 := Lib.hid h0
        go_wp2_with fail
        exact hf.out _ hzr h0.out
end Go.Proofs.Ytlbkjhfnpjbjlaa
/- The agenda's heap: its order, Len, Less. -/
namespace Go.Proofs.Ytlbkjhfnpjbjlaa
open Go.RowKit Go.Vx
set_option linter.unusedVariables false
set_option linter.unusedSimpArgs false

/-- A slot: its period, its rank, its number, when it came. -/
abbrev Slot := Int × Int × Int × Int
def slEnc (x : Slot) : List Value := [.int .i64 x.1, .int .i64 x.2.1, .int .i64 x.2.2.1, .int .i64 x.2.2.2]
def slLt (x y : Slot) : Bool :=
  decide (x.1 < y.1) || (x.1 == y.1 && (decide (y.2.1 < x.2.1) || (x.2.1 == y.2.1 && (decide (x.2.2.1 < y.2.2.1) || (x.2.2.1 == y.2.2.1 && decide (x.2.2.2 < y.2.2.2))))))
theorem slLt_iff {x y : Slot} : slLt x y = true ↔ (x.1 < y.1 ∨ (x.1 = y.1 ∧ (y.2.1 < x.2.1 ∨ (x.2.1 = y.2.1 ∧ (x.2.2.1 < y.2.2.1 ∨ (x.2.2.1 = y.2.2.1 ∧ x.2.2.2 < y.2.2.2)))))) := by
  simp [slLt]
theorem slLt_no {x y : Slot} : slLt x y = false ↔ ¬ (x.1 < y.1 ∨ (x.1 = y.1 ∧ (y.2.1 < x.2.1 ∨ (x.2.1 = y.2.1 ∧ (x.2.2.1 < y.2.2.1 ∨ (x.2.2.1 = y.2.2.1 ∧ x.2.2.2 < y.2.2.2)))))) := by
  rw [← slLt_iff]
  simp
theorem slLin : Lin slLt where
  irr x := by rw [slLt_no]; omega
  tr x y z h k := by rw [slLt_iff] at *; omega
  tri x y := by
    obtain ⟨a, b, c, d⟩ := x
    obtain ⟨a', b', c', d'⟩ := y
    simp only [slLt_iff, Prod.mk.injEq]
    omega
theorem encLen (x : Slot) : (slEnc x).length = 4 := rfl
theorem infoSlot : (Try.prog.info? 85).map (fun i => (i.zero, i.size, i.bytes)) = some (some (.agg #[.int .i64 0, .int .i64 0, .int .i64 0, .int .i64 0]), 4, 32) := by kernel_rfl
abbrev HS := HAt 85 4 slEnc

theorem sl_len (A : Option Addr) (n c : Nat) (w : World) (hn : n ≤ maxLen) : Calls Try.prog 87 #[.slice A n c] w fun e w' => e = .returned (.int .i64 n) ∧ w = w' := by
  unfold maxLen at hn
  go_enter Try.func87, Try.ntmps87
  go_wp2
  go_ret
  exact ⟨rfl, rfl⟩
set_option maxRecDepth 8000 in
set_option maxHeartbeats 4000000 in
theorem sl_before (x y : Slot) (w : World) :
    Calls Try.prog 90 #[.agg #[.int .i64 x.1, .int .i64 x.2.1, .int .i64 x.2.2.1, .int .i64 x.2.2.2], .agg #[.int .i64 y.1, .int .i64 y.2.1, .int .i64 y.2.2.1, .int .i64 y.2.2.2]] w fun e w' => e = .returned (.bool (slLt x y)) ∧ Chg [] w w' := by
  have hfin : ∀ b, slLt x y = b → Hid (Ending.returned (Value.bool b) = Ending.returned (Value.bool (slLt x y))) := by rintro b rfl; exact Lib.hid rfl
  have hcase : ∃ b : Bool, slLt x y = b := ⟨_, rfl⟩
  by_cases h1 : x.1 = y.1
  · have b1 : (x.1 != y.1) = false := by simp [h1]
    by_cases h2 : x.2.1 = y.2.1
    · have b2 : (x.2.1 != y.2.1) = false := by simp [h2]
      by_cases h3 : x.2.2.1 = y.2.2.1
      · have b3 : (x.2.2.1 != y.2.2.1) = false := by simp [h3]
        have e := hfin (decide (x.2.2.2 < y.2.2.2)) (by simp [slLt, h1, h2, h3])
        clear hfin hcase h1 h2 h3
        go_enter Try.func90, Try.ntmps90
        go_wp2_with fail
        go_ret
        exact ⟨e.out, ((Chg.refl _ _).alloc _).alloc _⟩
      · have b3 : (x.2.2.1 != y.2.2.1) = true := by simp [h3]
        have e := hfin (decide (x.2.2.1 < y.2.2.1)) (by simp [slLt, h1, h2, h3])
        clear hfin hcase h1 h2 h3
        go_enter Try.func90, Try.ntmps90
        go_wp2_with fail
        go_ret
        exact ⟨e.out, ((Chg.refl _ _).alloc _).alloc _⟩
    · have b2 : (x.2.1 != y.2.1) = true := by simp [h2]
      have e := hfin (decide (y.2.1 < x.2.1)) (by simp [slLt, h1, h2])
      clear hfin hcase h1 h2
      go_enter Try.func90, Try.ntmps90
      go_wp2_with fail
      go_ret
      exact ⟨e.out, ((Chg.refl _ _).alloc _).alloc _⟩
  · have b1 : (x.1 != y.1) = true := by simp [h1]
    have e := hfin (decide (x.1 < y.1)) (by simp [slLt, h1])
    clear hfin hcase h1
    go_enter Try.func90, Try.ntmps90
    go_wp2_with fail
    go_ret
    exact ⟨e.out, ((Chg.refl _ _).alloc _).alloc _⟩
end Go.Proofs.Ytlbkjhfnpjbjlaa
/- The agenda's heap: Less. -/
namespace Go.Proofs.Ytlbkjhfnpjbjlaa
open Go.RowKit Go.Vx
set_option linter.unusedVariables false
set_option linter.unusedSimpArgs false

set_option maxRecDepth 8000 in
set_option maxHeartbeats 4000000 in
theorem sl_less {w : World} {v : Value} {l : List Slot} {F : List Nat} (h : Fix w 85 4 v l.length (l.flatMap slEnc) F) {i k : Nat} (hi : i < l.length) (hk : k < l.length) (hl : l.length ≤ 1000000) :
    Calls Try.prog 88 #[v, .int .i64 i, .int .i64 k] w fun e w' => e = .returned (.bool (slLt (nth l i) (nth l k))) ∧ Chg [] w w' := by
  obtain ⟨g, c, rfl, rfl, hci⟩ := h.elem encLen (by omega) hi
  obtain ⟨g', c', hv, hF, hck⟩ := h.elem encLen (by omega) hk
  obtain rfl : g = g' := by simpa using hF
  have i0 := (hci 0 (by omega)).1
  have i1 := (hci 1 (by omega)).1
  have i2 := (hci 2 (by omega)).1
  have i3 := (hci 3 (by omega)).1
  have k0 := (hck 0 (by omega)).1
  have k1 := (hck 1 (by omega)).1
  have k2 := (hck 2 (by omega)).1
  have k3 := (hck 3 (by omega)).1
  simp only [slEnc, List.getElem?_cons_zero, List.getElem?_cons_succ, Nat.add_zero] at i0 i1 i2 i3 k0 k1 k2 k3
  have hb := sl_before (nth l i) (nth l k)
  generalize slLt (nth l i) (nth l k) = b at *
  generalize nth l i = x at *
  generalize nth l k = y at *
  generalize l.length = n at *
  clear hci hck h hv hF
  go_enter Try.func88, Try.ntmps88
  go_wp2_with fail
  go_region_law (go_simp; go_at_call 90; refine (hb _).mono ?_; rintro e w' ⟨rfl, hc⟩)
  all_goals
    go_wp2_with fail
    go_ret
    exact ⟨by trivial, (Chg.refl _ _).drew.trans' hc⟩
end Go.Proofs.Ytlbkjhfnpjbjlaa
/- The agenda's heap: its swap, push, pop. -/
namespace Go.Proofs.Ytlbkjhfnpjbjlaa
open Go.RowKit Go.Vx
set_option linter.unusedVariables false
set_option linter.unusedSimpArgs false

set_option maxRecDepth 8000 in
set_option maxHeartbeats 4000000 in
theorem sl_swap {w : World} {v : Value} {l : List Slot} {F : List Nat} (h : Fix w 85 4 v l.length (l.flatMap slEnc) F) {i k : Nat} (hi : i < l.length) (hk : k < l.length) (hl : l.length ≤ 1000000) :
    Calls Try.prog 89 #[v, .int .i64 i, .int .i64 k] w fun e w' => e = .returned (.tuple #[]) ∧ Fix w' 85 4 v (swapAt l i k).length ((swapAt l i k).flatMap slEnc) F ∧ Chg F w w' := by
  obtain ⟨g, c, rfl, rfl, hci⟩ := h.elem encLen (by omega) hi
  obtain ⟨g', c', hv, hF, hck⟩ := h.elem encLen (by omega) hk
  obtain rfl : g = g' := by simpa using hF
  obtain ⟨i0, fi0⟩ := hci 0 (by omega)
  obtain ⟨i1, fi1⟩ := hci 1 (by omega)
  obtain ⟨i2, fi2⟩ := hci 2 (by omega)
  obtain ⟨i3, fi3⟩ := hci 3 (by omega)
  obtain ⟨k0, fk0⟩ := hck 0 (by omega)
  obtain ⟨k1, fk1⟩ := hck 1 (by omega)
  obtain ⟨k2, fk2⟩ := hck 2 (by omega)
  obtain ⟨k3, fk3⟩ := hck 3 (by omega)
  simp only [slEnc, List.getElem?_cons_zero, List.getElem?_cons_succ, Nat.add_zero] at i0 i1 i2 i3 k0 k1 k2 k3 fi0 fk0
  have e1 := set_flat4 encLen l i hi (nth l k) rfl
  have e2 := set_flat4 encLen (l.set i (nth l k)) k (by simpa using hk) (nth l i) rfl
  have hs : Hid (Fix ((((((((w.setCell ⟨g, i * 4, none⟩ (.int .i64 (nth l k).1)).setCell ⟨g, i * 4 + 1, none⟩ (.int .i64 (nth l k).2.1)).setCell ⟨g, i * 4 + 2, none⟩ (.int .i64 (nth l k).2.2.1)).setCell ⟨g, i * 4 + 3, none⟩ (.int .i64 (nth l k).2.2.2)).setCell ⟨g, k * 4, none⟩ (.int .i64 (nth l i).1)).setCell ⟨g, k * 4 + 1, none⟩ (.int .i64 (nth l i).2.1)).setCell ⟨g, k * 4 + 2, none⟩ (.int .i64 (nth l i).2.2.1)).setCell ⟨g, k * 4 + 3, none⟩ (.int .i64 (nth l i).2.2.2)) 85 4 (.slice (some ⟨g, 0, none⟩) l.length c) (swapAt l i k).length ((swapAt l i k).flatMap slEnc) [g]) := by
    have := ((((((((h.store rfl (i * 4) (.int .i64 (nth l k).1)).store rfl (i * 4 + 1) (.int .i64 (nth l k).2.1)).store rfl (i * 4 + 2) (.int .i64 (nth l k).2.2.1)).store rfl (i * 4 + 3) (.int .i64 (nth l k).2.2.2)).store rfl (k * 4) (.int .i64 (nth l i).1)).store rfl (k * 4 + 1) (.int .i64 (nth l i).2.1)).store rfl (k * 4 + 2) (.int .i64 (nth l i).2.2.1)).store rfl (k * 4 + 3) (.int .i64 (nth l i).2.2.2))
    show Fix _ _ _ _ _ _ _
    rw [length_swap, swapAt, ← e2, ← e1]
    exact this
  clear e1 e2 hci hck h hv hF
  generalize hsw : (swapAt l i k).length = n2 at hs ⊢
  generalize (swapAt l i k).flatMap slEnc = xs at hs ⊢
  have hxy : i = k → nth l i = nth l k := by rintro rfl; rfl
  generalize nth l i = x at *
  generalize nth l k = y at *
  clear hsw
  generalize l.length = n at *
  go_enter Try.func89, Try.ntmps89
  go_wp2_with fail
  by_cases hik : i = k
  · obtain rfl := hxy hik
    subst hik
    go_region_law (fail)
    all_goals
      go_wp2_with fail
      go_end0
      exact ⟨rfl, hs.out.drew, (((((((((Chg.refl _ _).setCell (by simp) _).setCell (by simp) _).setCell (by simp) _).setCell (by simp) _).setCell (by simp) _).setCell (by simp) _).setCell (by simp) _).setCell (by simp) _).drew⟩
  have n01 : ¬ k * 4 = i * 4 + 1 := by omega
  have n02 : ¬ k * 4 = i * 4 + 2 := by omega
  have n03 : ¬ k * 4 = i * 4 + 3 := by omega
  have n10 : ¬ k * 4 + 1 = i * 4 := by omega
  have n12 : ¬ k * 4 + 1 = i * 4 + 2 := by omega
  have n13 : ¬ k * 4 + 1 = i * 4 + 3 := by omega
  have n20 : ¬ k * 4 + 2 = i * 4 := by omega
  have n21 : ¬ k * 4 + 2 = i * 4 + 1 := by omega
  have n23 : ¬ k * 4 + 2 = i * 4 + 3 := by omega
  have n30 : ¬ k * 4 + 3 = i * 4 := by omega
  have n31 : ¬ k * 4 + 3 = i * 4 + 1 := by omega
  have n32 : ¬ k * 4 + 3 = i * 4 + 2 := by omega
  have n00 : ¬ k * 4 = i * 4 := by omega
  have n4 : ¬ k = i := by omega
  go_region_law (fail)
  all_goals
    go_wp2_with fail
    go_end0
    exact ⟨rfl, hs.out.drew, (((((((((Chg.refl _ _).setCell (by simp) _).setCell (by simp) _).setCell (by simp) _).setCell (by simp) _).setCell (by simp) _).setCell (by simp) _).setCell (by simp) _).setCell (by simp) _).drew⟩
set_option maxRecDepth 8000 in
set_option maxHeartbeats 4000000 in
theorem sl_push {w : World} {p o : Nat} {t : TypeId} {cs : Array Value} {l : List Slot} {F : List Nat} (h : HS w p o t cs l F) (x : Slot) (hl : l.length < 1000000) :
    Calls Try.prog 92 #[.pointer (some ⟨p, o, none⟩), .iface 85 (.agg #[.int .i64 x.1, .int .i64 x.2.1, .int .i64 x.2.2.1, .int .i64 x.2.2.2])] w fun e w' => e = .returned (.tuple #[]) ∧ ∃ F', HS w' p o t cs (l ++ [x]) F' ∧ Chg (p :: F) w w' ∧ ∀ g, g ∈ F' → g ∈ F ∨ w.heap.size ≤ g := by
  obtain ⟨i0, hi, j0, j1, j2⟩ := info_parts infoSlot
  obtain ⟨A, c, c0, f0, hb, hf, h1, h2⟩ := h.cell
  obtain ⟨v, -, ho, -, hne⟩ := h
  unfold maxLen at h2
  have ca := cell_al c0
  have hta : ∀ (a b c d : Value) (w : World), (Instr.typeAssert (.iface 85 (.agg #[a, b, c, d])) 20 85 false).run Try.prog w = .ok (.agg #[a, b, c, d]) w := fun a b c d w => by kernel_rfl
  go_enter Try.func92, Try.ntmps92
  go_wp2_with fail
  go_region_law (refine step_append_fix rfl _ _ 79 rfl Try.underlying79 hi j0 j1 j2 rfl (by omega) (n := l.length) (xs := l.flatMap slEnc) (F := F) rfl (hf.alloc _) rfl (Src.one4 rfl) (by simp [Value.oneCell']) (by unfold maxLen; omega) (by omega) ?_; intro v' w1 F1 ha; obtain ⟨g1, k1, rfl, rfl⟩ := ha.head (by omega); have hb1 := (hb.alloc (.cells #[.int .i64 x.1, .int .i64 x.2.1, .int .i64 x.2.2.1, .int .i64 x.2.2.2] 85)).drew.chg ha.chg (hf.ne_blk hb hne); have d0 : w1.cell? ⟨p, o, none⟩ = some (.slice A l.length c) := (by rw [hb1.cell]; simp [ho]); have e0 := hb1.frozen o)
  all_goals
    go_wp2_with fail
    go_end0
    have hq : Chg [p] w1 (w1.setCell ⟨p, o, none⟩ (.slice (some ⟨g1, 0, none⟩) (l.length + 1) k1)) := (Chg.refl _ _).setCell (by simp) _
    refine ⟨rfl, [g1], ⟨.slice (some ⟨g1, 0, none⟩) (l.length + 1) k1, ?_, ho, ?_, hne⟩, ?_, ?_⟩
    · have := hb1.set_ o (.slice (some ⟨g1, 0, none⟩) (l.length + 1) k1)
      simpa using this
    · have := ha.fix.chg hq (ha.fix.not_mem hb1 hne)
      simpa [slEnc] using this
    · exact ((((Chg.refl (p :: F) w).alloc (.cells #[.int .i64 x.1, .int .i64 x.2.1, .int .i64 x.2.2.1, .int .i64 x.2.2.2] 85)).drew.trans ha.chg (by intro g hg; left; simp [hg])).trans hq (by simp))
    · intro g hg
      rcases ha.foot with e | e
      · left; rw [← e]; exact hg
      · right; rw [e] at hg; simp at hg; omega
set_option maxRecDepth 8000 in
set_option maxHeartbeats 4000000 in
theorem sl_pop {w : World} {p o : Nat} {t : TypeId} {cs : Array Value} {l : List Slot} {F : List Nat} (h : HS w p o t cs l F) (h0 : 0 < l.length) (hl : l.length ≤ 1000000) :
    Calls Try.prog 91 #[.pointer (some ⟨p, o, none⟩)] w fun e w' => e = .returned (.iface 85 (.agg #[.int .i64 (nth l (l.length - 1)).1, .int .i64 (nth l (l.length - 1)).2.1, .int .i64 (nth l (l.length - 1)).2.2.1, .int .i64 (nth l (l.length - 1)).2.2.2])) ∧ HS w' p o t cs (l.take (l.length - 1)) F ∧ Chg [p] w w' := by
  obtain ⟨A, c, c0, f0, hb, hf, h1, h2⟩ := h.cell
  obtain ⟨v, -, ho, -, hne⟩ := h
  unfold maxLen at h2
  obtain ⟨m, hm⟩ : ∃ m, l.length = m + 1 := ⟨l.length - 1, by omega⟩
  rw [hm] at c0 hb h1 ⊢
  simp only [Nat.add_sub_cancel] at *
  obtain ⟨g, c', hv, hF, hcl⟩ := hf.elem encLen (by omega) (k := m) (by omega)
  injection hv with hA _ hc
  subst hA hc hF
  have x0 := (hcl 0 (by omega)).1
  have x1 := (hcl 1 (by omega)).1
  have x2 := (hcl 2 (by omega)).1
  have x3 := (hcl 3 (by omega)).1
  simp only [slEnc, List.getElem?_cons_zero, List.getElem?_cons_succ, Nat.add_zero] at x0 x1 x2 x3
  have y0 := cell_al x0
  have y1 := cell_al x1
  have y2 := cell_al x2
  have y3 := cell_al x3
  have c1 := cell_al c0
  have f1 : ∀ o', (w.alloc o').frozen? ⟨p, o, none⟩ = false := fun o' => (hb.alloc o').frozen o
  have hpn : ¬ w.heap.size = p := by have := hb.lt; omega
  have hpn2 : ¬ p = w.heap.size := by have := hb.lt; omega
  clear hcl
  generalize nth l m = x at *
  go_enter Try.func91, Try.ntmps91
  go_wp2_with fail
  go_ret
  have hq : Chg [p] w ((w.alloc (.cells #[.int .i64 x.1, .int .i64 x.2.1, .int .i64 x.2.2.1, .int .i64 x.2.2.2] 85)).setCell ⟨p, o, none⟩ (.slice (some ⟨g, 0, none⟩) m c)) := ((Chg.refl _ _).alloc _).setCell (by simp) _
  have hlm : (l.take m).length = m := by simp; omega
  refine ⟨rfl, ⟨.slice (some ⟨g, 0, none⟩) m c, ?_, ho, ?_, hne⟩, hq⟩
  · have := (hb.alloc (.cells #[.int .i64 x.1, .int .i64 x.2.1, .int .i64 x.2.2.1, .int .i64 x.2.2.2] 85)).set_ o (.slice (some ⟨g, 0, none⟩) m c)
    simpa using this
  · rw [hlm, take_flat encLen]
    exact (hf.shorter (m := m) (by omega)).chg hq (hf.not_mem hb hne)
end Go.Proofs.Ytlbkjhfnpjbjlaa
