/- container/heap over one kind of heap: push, pop, init. -/
import Derived.Test.YtlkmdmaemjfelaaCutN
namespace Go.Proofs.Ytlkmdmaemjfelaa
open Go.RowKit Go.Vx
set_option linter.unusedVariables false
set_option linter.unusedSimpArgs false

section
variable {w : World} {p o : Nat} {t : TypeId} {cs : Array Value} {l : List Cut} {F : List Nat}
theorem ct_nil (a : Addr) (w : World) : (nilAhead 268 64 (.pointer (some a)) "Len").run Try.prog w = .ok (some false) w ∧ (nilAhead 268 64 (.pointer (some a)) "Less").run Try.prog w = .ok (some false) w ∧ (nilAhead 268 64 (.pointer (some a)) "Swap").run Try.prog w = .ok (some false) w ∧
    (nilAhead 268 64 (.pointer (some a)) "Push").run Try.prog w = .ok (some false) w ∧ (nilAhead 268 64 (.pointer (some a)) "Pop").run Try.prog w = .ok (some false) w := by
  refine ⟨?_, ?_, ?_, ?_, ?_⟩ <;> kernel_rfl
theorem ct_mpush (a : Addr) (w : World) : (method 268 64 (.pointer (some a)) "Push").run Try.prog w = .ok (118, .pointer (some a)) w := by kernel_rfl
theorem ct_mpop (a : Addr) (w : World) : (method 268 64 (.pointer (some a)) "Pop").run Try.prog w = .ok (117, .pointer (some a)) w := by kernel_rfl
theorem ct_mlen {p o : Nat} {w : World} {v : Value} (h : w.cell? ⟨p, o, none⟩ = some v) : (method 268 64 (.pointer (some ⟨p, o, none⟩)) "Len").run Try.prog w = .ok (114, v) w := by
  have e : (method 268 64 (.pointer (some ⟨p, o, none⟩)) "Len").run Try.prog w = ((load ⟨p, o, none⟩) >>= fun v => pure (114, v)).run Try.prog w := by kernel_rfl
  rw [e]
  simp [go_sem, h]
theorem ct_mless {p o : Nat} {w : World} {v : Value} (h : w.cell? ⟨p, o, none⟩ = some v) : (method 268 64 (.pointer (some ⟨p, o, none⟩)) "Less").run Try.prog w = .ok (115, v) w := by
  have e : (method 268 64 (.pointer (some ⟨p, o, none⟩)) "Less").run Try.prog w = ((load ⟨p, o, none⟩) >>= fun v => pure (115, v)).run Try.prog w := by kernel_rfl
  rw [e]
  simp [go_sem, h]
theorem ct_mswap {p o : Nat} {w : World} {v : Value} (h : w.cell? ⟨p, o, none⟩ = some v) : (method 268 64 (.pointer (some ⟨p, o, none⟩)) "Swap").run Try.prog w = .ok (116, v) w := by
  have e : (method 268 64 (.pointer (some ⟨p, o, none⟩)) "Swap").run Try.prog w = ((load ⟨p, o, none⟩) >>= fun v => pure (116, v)).run Try.prog w := by kernel_rfl
  rw [e]
  simp [go_sem, h]

theorem ct_put {w w' : World} {p o : Nat} {t : TypeId} {cs : Array Value} {l' : List Cut} {F : List Nat} {v : Value} (h : Blk w p t (cs.setIfInBounds o v)) (ho : o < cs.size) (hne : 66 ≠ t) (h2 : Fix w' 66 2 v l'.length (l'.flatMap cutEnc) F) (hw : Chg F w w') (hp : p ∉ F) : HC w' p o t cs l' F :=
  ⟨v, h.chg hw hp, ho, h2, hne⟩
set_option maxHeartbeats 4000000 in
/-- up. -/
theorem ct_up (h : HC w p o t cs l F) (j : Nat) (hj : j < l.length) (hl : l.length ≤ 1000000) :
    Calls Try.prog 74 #[.iface 64 (.pointer (some ⟨p, o, none⟩)), .int .i64 j] w fun e w' => e = .returned (.tuple #[]) ∧ HC w' p o t cs (upL cutLt (l.length + 1) l j) F ∧ Chg F w w' := by
  obtain ⟨-, nLess, nSwap, -, -⟩ := ct_nil ⟨p, o, none⟩ w
  have nLess := fun w => (ct_nil ⟨p, o, none⟩ w).2.1
  have nSwap := fun w => (ct_nil ⟨p, o, none⟩ w).2.2.1
  have hpF := h.ne
  obtain ⟨R, hR⟩ : ∃ R, R = upL cutLt (l.length + 1) l j := ⟨_, rfl⟩
  rw [← hR]
  go_enter Try.func74, Try.ntmps74
  go_wp2_with fail
  go_loopw [1] (fun i wr => ∃ (k : Nat) (l' : List Cut) (f : Nat), i = .int .i64 k ∧ k < l'.length ∧ l'.length = l.length ∧ k < f ∧ upL cutLt f l' k = R ∧ HC wr p o t cs l' F ∧ Chg F w wr) (fun i _ => (intOf i).toNat)
  case atStart => exact ⟨j, l, l.length + 1, rfl, hj, rfl, by omega, hR.symm, h, Chg.refl _ _⟩
  case round =>
    clear nLess nSwap
    have nLess := fun w => (ct_nil ⟨p, o, none⟩ w).2.1
    have nSwap := fun w => (ct_nil ⟨p, o, none⟩ w).2.2.1
    obtain ⟨k, l', f, rfl, hk, hll, hkf, hup, hr, hw⟩ := hrel
    have hl2 : l'.length ≤ 1000000 := by omega
    replace hll := Lib.hid hll
    obtain ⟨A, c, c0, f0, hb, hf, h1, h2⟩ := hr.cell
    obtain ⟨v, -, ho, -, hne⟩ := hr
    have mLess := ct_mless c0
    obtain ⟨f, rfl⟩ : ∃ f', f = f' + 1 := ⟨f - 1, by omega⟩
    simp only [upL] at hup
    by_cases h0 : k = 0
    · subst h0
      rw [if_pos rfl] at hup
      go_wp2_with fail
      go_end0
      refine ⟨rfl, ?_, hw⟩
      rw [← hup]
      exact ct_put hb ho hne hf (Chg.refl _ _) hpF
    · rw [if_neg h0] at hup
      go_upto_region 1 with fail
      rw [show ((k : Int) - 1) / 2 = (((k - 1) / 2 : Nat) : Int) by omega]
      have hik : (k - 1) / 2 < k := by omega
      generalize (k - 1) / 2 = i at hup hik ⊢
      have hb1 : ((i : Int) == (k : Int)) = false := by simp; omega
      go_wp2_with fail
      refine (ct_less hf hk (by omega) hl2).mono ?_
      intro e w1 hpost
      obtain ⟨he, hw1⟩ := hpost
      subst he
      have mSwap := ct_mswap (p := p) (o := o) (w := w1) (v := .slice A l'.length c) ((hw1.cell (World.block_lt_of_cell? _ _ c0) (by simp)).trans c0)
      have hb2 := hb.chg hw1 (by simp)
      have hf2 := hf.chg hw1 (by simp)
      cases hlt : cutLt (nth l' k) (nth l' i) with
      | false =>
        rw [hlt] at hup
        rw [if_neg (by simp)] at hup
        go_wp2_with fail
        go_end0
        refine ⟨rfl, ?_, hw.trans hw1 (by simp)⟩
        rw [← hup]
        exact ct_put hb2 ho hne hf2 (Chg.refl _ _) hpF
      | true =>
        rw [hlt, if_pos rfl] at hup
        have hil : i < l'.length := by omega
        have hs := ct_swap hf2 hil hk hl2
        go_wp2_with fail
        refine hs.mono ?_
        rintro e w2 ⟨rfl, hf3, hw2⟩
        go_wp2_with fail
        go_roundw
        case measure => simp [intOf]; omega
        case rel => exact ⟨i, swapAt l' i k, f, by go_num, by rw [length_swap]; exact hil, by rw [length_swap]; exact hll.out, by omega, hup, ct_put hb2 ho hne hf3 hw2 hpF, (hw.trans hw1 (by simp)).trans' hw2⟩
set_option maxHeartbeats 4000000 in
/-- down. -/
theorem ct_down (h : HC w p o t cs l F) (i n : Nat) (hn : n ≤ l.length) (hin : i < n ∨ (n = 0 ∧ i = 0)) (hl : l.length ≤ 1000000) :
    Calls Try.prog 75 #[.iface 64 (.pointer (some ⟨p, o, none⟩)), .int .i64 i, .int .i64 n] w fun e w' => (∃ b, e = .returned (.bool b)) ∧ HC w' p o t cs (downL cutLt n l i n) F ∧ Chg F w w' := by
  have hpF := h.ne
  obtain ⟨R, hR⟩ : ∃ R, R = downL cutLt n l i n := ⟨_, rfl⟩
  suffices hs : Calls Try.prog 75 #[.iface 64 (.pointer (some ⟨p, o, none⟩)), .int .i64 i, .int .i64 n] w fun e w' => (∃ b, e = .returned (.bool b)) ∧ HC w' p o t cs R F ∧ Chg F w w' from
    hs.mono fun e w' ⟨h1, h2, h3⟩ => ⟨h1, hR ▸ h2, h3⟩
  have nLess := fun w => (ct_nil ⟨p, o, none⟩ w).2.1
  have nSwap := fun w => (ct_nil ⟨p, o, none⟩ w).2.2.1
  go_enter Try.func75, Try.ntmps75
  go_wp2_with fail
  go_loopw [7] (fun iv wr => ∃ (k : Nat) (l' : List Cut) (f : Nat), iv = .int .i64 k ∧ (k < n ∨ (n = 0 ∧ k = 0)) ∧ l'.length = l.length ∧ n - k ≤ f ∧ downL cutLt f l' k n = R ∧ HC wr p o t cs l' F ∧ Chg F w wr) (fun iv _ => n - (intOf iv).toNat)
  case atStart => exact ⟨i, l, n, rfl, hin, rfl, by omega, hR.symm, h, Chg.refl _ _⟩
  case round =>
    obtain ⟨k, l', f, rfl, hk, hll, hkf, hup, hr, hw⟩ := hrel
    have hl2 : l'.length ≤ 1000000 := by omega
    have hn2 : n ≤ l'.length := by omega
    replace hll := Lib.hid hll
    obtain ⟨A, c, c0, f0, hb, hf, h1, h2⟩ := hr.cell
    obtain ⟨v, -, ho, -, hne⟩ := hr
    have mLess := ct_mless c0
    by_cases h0 : n ≤ 2 * k + 1
    · have e : downL cutLt f l' k n = l' := by cases f with
        | zero => rfl
        | succ f => simp only [downL]; rw [if_pos h0]
      rw [e] at hup
      subst hup
      have b1 : decide ((n : Int) ≤ 2 * (k : Int) + 1) = true := by simp; omega
      go_upto_region 3 with fail
      go_wp2_with fail
      go_ret
      exact ⟨⟨_, rfl⟩, ct_put hb ho hne hf (Chg.refl _ _) hpF, hw⟩
    · obtain ⟨f, rfl⟩ : ∃ f', f = f' + 1 := ⟨f - 1, by omega⟩
      simp only [downL] at hup
      rw [if_neg h0] at hup
      have b1 : decide ((n : Int) ≤ 2 * (k : Int) + 1) = false := by simp; omega
      have b2 : decide (2 * (k : Int) + 1 < 0) = false := by simp; omega
      go_upto_region 3 with fail
      go_upto_region 6 with fail
      by_cases h3 : 2 * k + 2 < n
      · have hL := ct_less hf (i := 2 * k + 2) (k := 2 * k + 1) (by omega) (by omega) hl2
        rw [show ((2 * k + 2 : Nat) : Int) = 2 * (k : Int) + 1 + 1 by omega, show ((2 * k + 1 : Nat) : Int) = 2 * (k : Int) + 1 by omega] at hL
        have hkd : kid cutLt l' k n = if cutLt (nth l' (2 * k + 2)) (nth l' (2 * k + 1)) = true then 2 * k + 2 else 2 * k + 1 := by simp [kid, h3]
        have b3 : decide (2 * (k : Int) + 1 + 1 < n) = true := by simp; omega
        go_wp2_with fail
        refine hL.mono ?_
        intro e w1 hpost
        obtain ⟨he, hw1⟩ := hpost
        subst he
        have hb1 := hb.chg hw1 (by simp)
        have hf1 := hf.chg hw1 (by simp)
        have hwy := hw.trans hw1 (by simp)
        have c1 := (hw1.cell (World.block_lt_of_cell? _ _ c0) (by simp)).trans c0
        have mLess1 := ct_mless c1
        cases hlt : cutLt (nth l' (2 * k + 2)) (nth l' (2 * k + 1)) with
        | true =>
          have hk1 : kid cutLt l' k n = 2 * k + 2 := by rw [hkd, hlt]; rfl
          rw [hk1] at hup
          have hLj := ct_less hf1 (i := 2 * k + 2) (k := k) (by omega) (by omega) hl2
          rw [show ((2 * k + 2 : Nat) : Int) = 2 * (k : Int) + 1 + 1 by omega] at hLj
          go_wp2_with fail
          refine hLj.mono ?_
          intro e w2 hpost2
          obtain ⟨he2, hw2⟩ := hpost2
          subst he2
          have hb2 := hb1.chg hw2 (by simp)
          have hf2 := hf1.chg hw2 (by simp)
          have hwz := hwy.trans hw2 (by simp)
          have c2 := (hw2.cell (World.block_lt_of_cell? _ _ c1) (by simp)).trans c1
          have mSwap := ct_mswap c2
          cases hlt2 : cutLt (nth l' (2 * k + 2)) (nth l' k) with
          | false =>
            rw [hlt2, if_neg (by simp)] at hup
            go_wp2_with fail
            go_ret
            exact ⟨⟨_, rfl⟩, by rw [← hup]; exact ct_put hb2 ho hne hf2 (Chg.refl _ _) hpF, hwz⟩
          | true =>
            rw [hlt2, if_pos rfl] at hup
            have hs := ct_swap hf2 (i := k) (k := 2 * k + 2) (by omega) (by omega) hl2
            rw [show ((2 * k + 2 : Nat) : Int) = 2 * (k : Int) + 1 + 1 by omega] at hs
            go_wp2_with fail
            refine hs.mono ?_
            rintro e w3 ⟨rfl, hf3, hw3⟩
            go_wp2_with fail
            go_roundw
            case measure => simp [intOf]; omega
            case rel => exact ⟨2 * k + 2, swapAt l' k (2 * k + 2), f, by rw [show ((2 * k + 2 : Nat) : Int) = 2 * (k : Int) + 1 + 1 by omega], .inl (by omega), by rw [length_swap]; exact hll.out, by omega, hup, ct_put hb2 ho hne hf3 hw3 hpF, hwz.trans' hw3⟩
        | false =>
          have hk1 : kid cutLt l' k n = 2 * k + 1 := by rw [hkd, hlt]; rfl
          rw [hk1] at hup
          have hLj := ct_less hf1 (i := 2 * k + 1) (k := k) (by omega) (by omega) hl2
          rw [show ((2 * k + 1 : Nat) : Int) = 2 * (k : Int) + 1 by omega] at hLj
          go_wp2_with fail
          refine hLj.mono ?_
          intro e w2 hpost2
          obtain ⟨he2, hw2⟩ := hpost2
          subst he2
          have hb2 := hb1.chg hw2 (by simp)
          have hf2 := hf1.chg hw2 (by simp)
          have hwz := hwy.trans hw2 (by simp)
          have c2 := (hw2.cell (World.block_lt_of_cell? _ _ c1) (by simp)).trans c1
          have mSwap := ct_mswap c2
          cases hlt2 : cutLt (nth l' (2 * k + 1)) (nth l' k) with
          | false =>
            rw [hlt2, if_neg (by simp)] at hup
            go_wp2_with fail
            go_ret
            exact ⟨⟨_, rfl⟩, by rw [← hup]; exact ct_put hb2 ho hne hf2 (Chg.refl _ _) hpF, hwz⟩
          | true =>
            rw [hlt2, if_pos rfl] at hup
            have hs := ct_swap hf2 (i := k) (k := 2 * k + 1) (by omega) (by omega) hl2
            rw [show ((2 * k + 1 : Nat) : Int) = 2 * (k : Int) + 1 by omega] at hs
            go_wp2_with fail
            refine hs.mono ?_
            rintro e w3 ⟨rfl, hf3, hw3⟩
            go_wp2_with fail
            go_roundw
            case measure => simp [intOf]; omega
            case rel => exact ⟨2 * k + 1, swapAt l' k (2 * k + 1), f, by rw [show ((2 * k + 1 : Nat) : Int) = 2 * (k : Int) + 1 by omega], .inl (by omega), by rw [length_swap]; exact hll.out, by omega, hup, ct_put hb2 ho hne hf3 hw3 hpF, hwz.trans' hw3⟩
      · have hkd : kid cutLt l' k n = 2 * k + 1 := by simp [kid, h3]
        rw [hkd] at hup
        have b3 : decide (2 * (k : Int) + 1 + 1 < n) = false := by simp; omega
        have hLj := ct_less hf (i := 2 * k + 1) (k := k) (by omega) (by omega) hl2
        rw [show ((2 * k + 1 : Nat) : Int) = 2 * (k : Int) + 1 by omega] at hLj
        go_wp2_with fail
        refine hLj.mono ?_
        intro e w2 hpost2
        obtain ⟨he2, hw2⟩ := hpost2
        subst he2
        have hb2 := hb.chg hw2 (by simp)
        have hf2 := hf.chg hw2 (by simp)
        have hwz := hw.trans hw2 (by simp)
        have c2 := (hw2.cell (World.block_lt_of_cell? _ _ c0) (by simp)).trans c0
        have mSwap := ct_mswap c2
        cases hlt2 : cutLt (nth l' (2 * k + 1)) (nth l' k) with
        | false =>
          rw [hlt2, if_neg (by simp)] at hup
          go_wp2_with fail
          go_ret
          exact ⟨⟨_, rfl⟩, by rw [← hup]; exact ct_put hb2 ho hne hf2 (Chg.refl _ _) hpF, hwz⟩
        | true =>
          rw [hlt2, if_pos rfl] at hup
          have hs := ct_swap hf2 (i := k) (k := 2 * k + 1) (by omega) (by omega) hl2
          rw [show ((2 * k + 1 : Nat) : Int) = 2 * (k : Int) + 1 by omega] at hs
          go_wp2_with fail
          refine hs.mono ?_
          rintro e w3 ⟨rfl, hf3, hw3⟩
          go_wp2_with fail
          go_roundw
          case measure => simp [intOf]; omega
          case rel => exact ⟨2 * k + 1, swapAt l' k (2 * k + 1), f, by rw [show ((2 * k + 1 : Nat) : Int) = 2 * (k : Int) + 1 by omega], .inl (by omega), by rw [length_swap]; exact hll.out, by omega, hup, ct_put hb2 ho hne hf3 hw3 hpF, hwz.trans' hw3⟩
end
end Go.Proofs.Ytlkmdmaemjfelaa
