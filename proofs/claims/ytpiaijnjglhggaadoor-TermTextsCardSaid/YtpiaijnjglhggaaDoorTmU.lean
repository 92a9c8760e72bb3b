/- Parse: the walk. -/
import Derived.Test.YtpiaijnjglhggaaDoorTmT
namespace Go.Proofs.YtpiaijnjglhggaaDoor
open Go.RowKit Go.Vx
set_option linter.unusedVariables false
set_option linter.unusedSimpArgs false

theorem cut_small {s : List UInt8} {A B : List UInt8} {ok : Bool} (h : Lib.cut s [45] = (A, B, ok)) : A.length ≤ s.length ∧ B.length ≤ s.length := by
  unfold Lib.cut at h
  split at h
  · injection h with h1 h2
    injection h2 with h2 h3
    subst h1 h2
    exact ⟨List.length_take_le' _ _, by rw [List.length_drop]; omega⟩
  · injection h with h1 h2
    injection h2 with h2 h3
    subst h1 h2
    exact ⟨Nat.le_refl _, by simp⟩
theorem size_arr (l : List UInt8) : (⟨l.toArray⟩ : ByteArray).size = l.length := rfl
theorem err_not_nil (T : TypeId) (v : Value) (w : World) : (binOp BinOp.neq 42 (.iface T v) .nilIface).run Tryd.prog w = .ok (.bool true) w := by kernel_rfl
/-- What is no month's text. -/
def No (s : ByteArray) : Prop := ∀ j : Nat, j ≤ 1199 → textC j ≠ s
section
variable {w : World} (s : ByteArray) (hs : s.size ≤ 1000) {A B : List UInt8}
include hs
theorem tm_parse1 {m : Int} (hm : w.cell? ⟨0, 0, none⟩ = some (.int .i64 m)) (hcut : Lib.cut s.data.toList [45] = (A, B, false)) :
    Calls Tryd.prog 15 #[.string s] w fun e w' => e = .returned (.tuple #[.int .i64 0, .int .i64 15]) ∧ Chg [] w w' := by
  have hc := tm_cut hs hm hcut
  go_enter Tryd.func15, Tryd.ntmps15
  go_wp2_with fail
  refine hc.mono ?_
  rintro e w1 ⟨rfl, n, rfl⟩
  dsimp only
  go_wp2_with fail
  go_ret2
  exact ⟨by trivial, (Chg.refl _ _).drewN _⟩
theorem tm_parse2 {m : Int} (hm : w.cell? ⟨0, 0, none⟩ = some (.int .i64 m)) (hcut : Lib.cut s.data.toList [45] = (A, B, true)) (h4 : A.length ≠ 4) :
    Calls Tryd.prog 15 #[.string s] w fun e w' => e = .returned (.tuple #[.int .i64 0, .int .i64 15]) ∧ Chg [] w w' := by
  have hc := tm_cut hs hm hcut
  have b1 : ((((⟨A.toArray⟩ : ByteArray).size : Nat) : Int) == 4) = false := by rw [size_arr]; simp; omega
  have b2 : ((((⟨A.toArray⟩ : ByteArray).size : Nat) : Int) != 4) = true := by rw [size_arr]; simp; omega
  go_enter Tryd.func15, Tryd.ntmps15
  go_wp2_with fail
  refine hc.mono ?_
  rintro e w1 ⟨rfl, n, rfl⟩
  dsimp only
  go_wp2_with fail
  go_ret2
  exact ⟨by trivial, (Chg.refl _ _).drewN _⟩
theorem tm_parse3 {m : Int} (hm : w.cell? ⟨0, 0, none⟩ = some (.int .i64 m)) (he : Errs w) (hcut : Lib.cut s.data.toList [45] = (A, B, true)) (h4 : A.length = 4) (hA : ∀ v, Lib.atoiAll A ≠ .ok v) :
    Calls Tryd.prog 15 #[.string s] w fun e w' => e = .returned (.tuple #[.int .i64 0, .int .i64 15]) ∧ Chg [] w w' := by
  have hc := tm_cut hs hm hcut
  have e4 : (⟨A.toArray⟩ : ByteArray).size = 4 := h4
  have hat := fun w (he : Errs w) => tm_atoi_bad (s := ⟨A.toArray⟩) (by rw [e4]; omega) he (by simpa using hA)
  have hnn := err_not_nil
  clear h4 hA hcut
  go_enter Tryd.func15, Tryd.ntmps15
  go_wp2_with fail
  refine hc.mono ?_
  rintro e w1 ⟨rfl, n, rfl⟩
  dsimp only
  go_wp2_with fail
  refine (hat _ (he.chg ((Chg.refl _ _).drewN _))).mono ?_
  rintro e w2 ⟨v, T, N, rfl, hc2⟩
  dsimp only
  go_wp2_with fail
  go_ret2
  exact ⟨by trivial, ((Chg.refl _ _).drewN _).trans' hc2⟩
theorem tm_parse4 {m : Int} (hm : w.cell? ⟨0, 0, none⟩ = some (.int .i64 m)) (he : Errs w) (hcut : Lib.cut s.data.toList [45] = (A, B, true)) (h4 : A.length = 4) {y : Int} (hA : Lib.atoiAll A = .ok y) (hB : ∀ v, Lib.atoiAll B ≠ .ok v) :
    Calls Tryd.prog 15 #[.string s] w fun e w' => e = .returned (.tuple #[.int .i64 0, .int .i64 15]) ∧ Chg [] w w' := by
  have hc := tm_cut hs hm hcut
  have e4 : (⟨A.toArray⟩ : ByteArray).size = 4 := h4
  have hl := (cut_small hcut).2
  have hs' : s.data.toList.length = s.size := rfl
  have hat := fun w => tm_atoi_ok (s := ⟨A.toArray⟩) (by rw [e4]; omega) (v := y) (by simpa using hA) w
  have hat2 := fun w (he : Errs w) => tm_atoi_bad (s := ⟨B.toArray⟩) (by rw [size_arr]; omega) he (by simpa using hB)
  have hnn := err_not_nil
  clear h4 hA hcut hB hl hs'
  go_enter Tryd.func15, Tryd.ntmps15
  go_wp2_with fail
  refine hc.mono ?_
  rintro e w1 ⟨rfl, n, rfl⟩
  dsimp only
  go_wp2_with fail
  refine (hat _).mono ?_
  rintro e w2 ⟨rfl, hc2⟩
  dsimp only
  go_wp2_with fail
  refine (hat2 _ ((he.chg ((Chg.refl _ _).drewN _)).chg hc2)).mono ?_
  rintro e w3 ⟨v, T, N, rfl, hc3⟩
  dsimp only
  go_wp2_with fail
  go_ret2
  exact ⟨by trivial, (((Chg.refl _ _).drewN _).trans' hc2).trans' hc3⟩
theorem tm_parse5 (ht : Tab w) {m : Int} (hm : w.cell? ⟨0, 0, none⟩ = some (.int .i64 m)) (hcut : Lib.cut s.data.toList [45] = (A, B, true)) (h4 : A.length = 4) {y z : Int} (hA : Lib.atoiAll A = .ok y) (hB : Lib.atoiAll B = .ok z) {R : Int × Int}
    (hR : (ofC y z = (0, 1) ∧ R = (0, 15)) ∨ ∃ p : Int, ofC y z = (p, 0) ∧ ((textC p = s ∧ R = (p, 0)) ∨ ((textC p).toList == s.toList) = false ∧ R = (0, 15))) :
    Calls Tryd.prog 15 #[.string s] w fun e w' => e = .returned (.tuple #[.int .i64 R.1, .int .i64 R.2]) ∧ Chg [] w w' := by
  have hc := tm_cut hs hm hcut
  have e4 : (⟨A.toArray⟩ : ByteArray).size = 4 := h4
  have hl := (cut_small hcut).2
  have hs' : s.data.toList.length = s.size := rfl
  have hat := fun w => tm_atoi_ok (s := ⟨A.toArray⟩) (by rw [e4]; omega) (v := y) (by simpa using hA) w
  have hat2 := fun w => tm_atoi_ok (s := ⟨B.toArray⟩) (by rw [size_arr]; omega) (v := z) (by simpa using hB) w
  have hof := tm_of y z
  have hte := fun w (h : Tab w) p => tm_text h p
  clear h4 hA hcut hB hl hs'
  rcases hR with ⟨hR, rfl⟩ | ⟨p, hR, ⟨hR2, rfl⟩ | ⟨hR2, rfl⟩⟩
  · rw [hR] at hof
    clear hR
    go_enter Tryd.func15, Tryd.ntmps15
    go_wp2_with fail
    refine hc.mono ?_
    rintro e w1 ⟨rfl, n, rfl⟩
    dsimp only
    go_wp2_with fail
    refine (hat _).mono ?_
    rintro e w2 ⟨rfl, hc2⟩
    dsimp only
    go_wp2_with fail
    refine (hat2 _).mono ?_
    rintro e w3 ⟨rfl, hc3⟩
    dsimp only
    go_wp2_with fail
    refine (hof _).mono ?_
    rintro e w4 ⟨rfl, rfl⟩
    dsimp only
    go_wp2_with fail
    go_ret2
    exact ⟨by trivial, (((Chg.refl _ _).drewN _).trans' hc2).trans' hc3⟩
  all_goals
    rw [hR] at hof
    clear hR
    have hte2 := fun w (h : Tab w) => hte w h p
    clear hte
    first
    | (rw [hR2] at hte2)
    | (replace hR2 := hR2)
    generalize textC p = T at *
    go_enter Tryd.func15, Tryd.ntmps15
    go_wp2_with fail
    refine hc.mono ?_
    rintro e w1 ⟨rfl, n, rfl⟩
    dsimp only
    go_wp2_with fail
    refine (hat _).mono ?_
    rintro e w2 ⟨rfl, hc2⟩
    dsimp only
    go_wp2_with fail
    refine (hat2 _).mono ?_
    rintro e w3 ⟨rfl, hc3⟩
    dsimp only
    go_wp2_with fail
    refine (hof _).mono ?_
    rintro e w4 ⟨rfl, rfl⟩
    dsimp only
    go_wp2_with fail
    refine (hte2 _ (((ht.chg ((Chg.refl _ _).drewN _)).chg hc2).chg hc3)).mono ?_
    rintro e w5 ⟨rfl, hc5⟩
    dsimp only
    go_wp2_with fail
    go_ret2
    exact ⟨by trivial, ((((Chg.refl _ _).drewN _).trans' hc2).trans' hc3).trans' hc5⟩
end
theorem tm_parse {w : World} (ht : Tab w) (he : Errs w) {m : Int} (hm : w.cell? ⟨0, 0, none⟩ = some (.int .i64 m)) (s : ByteArray) (hs : s.size ≤ 1000) :
    Calls Tryd.prog 15 #[.string s] w fun e w' => ∃ a b, e = .returned (.tuple #[.int .i64 a, .int .i64 b]) ∧ ParseIs s a b ∧ Chg [] w w' := by
  by_cases hno : No s
  · have hfin : ∀ R : Int × Int, R = (0, 15) → (Calls Tryd.prog 15 #[.string s] w fun e w' => e = .returned (.tuple #[.int .i64 R.1, .int .i64 R.2]) ∧ Chg [] w w') →
        Calls Tryd.prog 15 #[.string s] w fun e w' => ∃ a b, e = .returned (.tuple #[.int .i64 a, .int .i64 b]) ∧ ParseIs s a b ∧ Chg [] w w' := by
      rintro R rfl h
      exact h.mono fun e w' ⟨h1, h2⟩ => ⟨0, 15, h1, .inl ⟨rfl, rfl, hno⟩, h2⟩
    rcases hcut : Lib.cut s.data.toList [45] with ⟨A, B, ok⟩
    cases ok with
    | false => exact hfin (0, 15) rfl (tm_parse1 s hs hm hcut)
    | true =>
      by_cases h4 : A.length = 4
      · by_cases hA : ∃ y, Lib.atoiAll A = .ok y
        · obtain ⟨y, hA⟩ := hA
          by_cases hB : ∃ z, Lib.atoiAll B = .ok z
          · obtain ⟨z, hB⟩ := hB
            refine hfin (0, 15) rfl (tm_parse5 s hs ht hm hcut h4 hA hB (R := (0, 15)) ?_)
            rcases ofC_ok y z with h | ⟨h0, h1, h2⟩
            · exact .inl ⟨h, rfl⟩
            · refine .inr ⟨(ofC y z).1, by rw [← h2], .inr ⟨?_, rfl⟩⟩
              obtain ⟨n, hn⟩ := Int.eq_ofNat_of_zero_le h0
              rw [hn] at h1 ⊢
              exact (bytes_ne (hno n (by omega))).1
          · exact hfin (0, 15) rfl (tm_parse4 s hs hm he hcut h4 hA fun v hv => hB ⟨v, hv⟩)
        · exact hfin (0, 15) rfl (tm_parse3 s hs hm he hcut h4 fun v hv => hA ⟨v, hv⟩)
      · exact hfin (0, 15) rfl (tm_parse2 s hs hm hcut h4)
  · have : ∃ n : Nat, n ≤ 1199 ∧ textC n = s := by
      apply Classical.byContradiction
      intro h
      exact hno fun j hj e => h ⟨j, hj, e⟩
    obtain ⟨n, hn, hts⟩ := this
    obtain ⟨h1, h2, h3, h4⟩ := parse_text n hn s hts
    exact (tm_parse5 s hs ht hm h1 rfl h2 h3 (R := ((n : Int), 0)) (.inr ⟨n, h4, .inl ⟨hts, rfl⟩⟩)).mono fun e w' ⟨e1, e2⟩ => ⟨n, 0, e1, .inr ⟨rfl, by omega, by omega, hts⟩, e2⟩
end Go.Proofs.YtpiaijnjglhggaaDoor
