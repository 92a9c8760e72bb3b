/- Parts of the proofs of Plan: contracts of the functions that they reach, in their order. -/
import Derived.Test.YtlbkjhfnpjbjlaaMPlan4
import Derived.Laws.ResultCell
import Derived.Deep.RegionLaw
/- container/heap over one kind of heap: push, pop, init. -/
namespace Go.Proofs.Ytlbkjhfnpjbjlaa
open Go.RowKit Go.Vx
set_option linter.unusedVariables false
set_option linter.unusedSimpArgs false

section
variable {w : World} {p o : Nat} {t : TypeId} {cs : Array Value} {l : List Slot} {F : List Nat}
theorem sl_nil (a : Addr) (w : World) : (nilAhead 249 87 (.pointer (some a)) "Len").run Try.prog w = .ok (some false) w ∧ (nilAhead 249 87 (.pointer (some a)) "Less").run Try.prog w = .ok (some false) w ∧ (nilAhead 249 87 (.pointer (some a)) "Swap").run Try.prog w = .ok (some false) w ∧
    (nilAhead 249 87 (.pointer (some a)) "Push").run Try.prog w = .ok (some false) w ∧ (nilAhead 249 87 (.pointer (some a)) "Pop").run Try.prog w = .ok (some false) w := by
  refine ⟨?_, ?_, ?_, ?_, ?_⟩ <;> kernel_rfl
theorem sl_mpush (a : Addr) (w : World) : (method 249 87 (.pointer (some a)) "Push").run Try.prog w = .ok (92, .pointer (some a)) w := by kernel_rfl
theorem sl_mpop (a : Addr) (w : World) : (method 249 87 (.pointer (some a)) "Pop").run Try.prog w = .ok (91, .pointer (some a)) w := by kernel_rfl
theorem sl_mlen {p o : Nat} {w : World} {v : Value} (h : w.cell? ⟨p, o, none⟩ = some v) : (method 249 87 (.pointer (some ⟨p, o, none⟩)) "Len").run Try.prog w = .ok (87, v) w := by
  have e : (method 249 87 (.pointer (some ⟨p, o, none⟩)) "Len").run Try.prog w = ((load ⟨p, o, none⟩) >>= fun v => pure (87, v)).run Try.prog w := by kernel_rfl
  rw [e]
  simp [go_sem, h]
theorem sl_mless {p o : Nat} {w : World} {v : Value} (h : w.cell? ⟨p, o, none⟩ = some v) : (method 249 87 (.pointer (some ⟨p, o, none⟩)) "Less").run Try.prog w = .ok (88, v) w := by
  have e : (method 249 87 (.pointer (some ⟨p, o, none⟩)) "Less").run Try.prog w = ((load ⟨p, o, none⟩) >>= fun v => pure (88, v)).run Try.prog w := by kernel_rfl
  rw [e]
  simp [go_sem, h]
theorem sl_mswap {p o : Nat} {w : World} {v : Value} (h : w.cell? ⟨p, o, none⟩ = some v) : (method 249 87 (.pointer (some ⟨p, o, none⟩)) "Swap").run Try.prog w = .ok (89, v) w := by
  have e : (method 249 87 (.pointer (some ⟨p, o, none⟩)) "Swap").run Try.prog w = ((load ⟨p, o, none⟩) >>= fun v => pure (89, v)).run Try.prog w := by kernel_rfl
  rw [e]
  simp [go_sem, h]

theorem sl_put {w w' : World} {p o : Nat} {t : TypeId} {cs : Array Value} {l' : List Slot} {F : List Nat} {v : Value} (h : Blk w p t (cs.setIfInBounds o v)) (ho : o < cs.size) (hne : 85 ≠ t) (h2 : Fix w' 85 4 v l'.length (l'.flatMap slEnc) F) (hw : Chg F w w') (hp : p ∉ F) : HS w' p o t cs l' F :=
  ⟨v, h.chg hw hp, ho, h2, hne⟩
set_option maxHeartbeats 4000000 in
/-- up. -/
theorem sl_up (h : HS w p o t cs l F) (j : Nat) (hj : j < l.length) (hl : l.length ≤ 1000000) :
    Calls Try.prog 59 #[.iface 87 (.pointer (some ⟨p, o, none⟩)), .int .i64 j] w fun e w' => e = .returned (.tuple #[]) ∧ HS w' p o t cs (upL slLt (l.length + 1) l j) F ∧ Chg F w w' := by
  obtain ⟨-, nLess, nSwap, -, -⟩ := sl_nil ⟨p, o, none⟩ w
  have nLess := fun w => (sl_nil ⟨p, o, none⟩ w).2.1
  have nSwap := fun w => (sl_nil ⟨p, o, none⟩ w).2.2.1
  have hpF := h.ne
  obtain ⟨R, hR⟩ : ∃ R, R = upL slLt (l.length + 1) l j := ⟨_, rfl⟩
  rw [← hR]
  go_enter Try.func59, Try.ntmps59
  go_wp2_with fail
  go_loopw [1] (fun i wr => ∃ (k : Nat) (l' : List Slot) (f : Nat), i = .int .i64 k ∧ k < l'.length ∧ l'.length = l.length ∧ k < f ∧ upL slLt f l' k = R ∧ HS wr p o t cs l' F ∧ Chg F w wr) (fun i _ => (intOf i).toNat)
  case atStart => exact ⟨j, l, l.length + 1, rfl, hj, rfl, by omega, hR.symm, h, Chg.refl _ _⟩
  case round =>
    clear nLess nSwap
    have nLess := fun w => (sl_nil ⟨p, o, none⟩ w).2.1
    have nSwap := fun w => (sl_nil ⟨p, o, none⟩ w).2.2.1
    obtain ⟨k, l', f, rfl, hk, hll, hkf, hup, hr, hw⟩ := hrel
    have hl2 : l'.length ≤ 1000000 := by omega
    replace hll := Lib.hid hll
    obtain ⟨A, c, c0, f0, hb, hf, h1, h2⟩ := hr.cell
    obtain ⟨v, -, ho, -, hne⟩ := hr
    have mLess := sl_mless c0
    obtain ⟨f, rfl⟩ : ∃ f', f = f' + 1 := ⟨f - 1, by omega⟩
    simp only [upL] at hup
    by_cases h0 : k = 0
    · subst h0
      rw [if_pos rfl] at hup
      go_wp2_with fail
      go_end0
      refine ⟨rfl, ?_, hw⟩
      rw [← hup]
      exact sl_put hb ho hne hf (Chg.refl _ _) hpF
    · rw [if_neg h0] at hup
      go_upto_region 1 with fail
      rw [show ((k : Int) - 1) / 2 = (((k - 1) / 2 : Nat) : Int) by omega]
      have hik : (k - 1) / 2 < k := by omega
      generalize (k - 1) / 2 = i at hup hik ⊢
      have hb1 : ((i : Int) == (k : Int)) = false := by simp; omega
      go_wp2_with fail
      refine (sl_less hf hk (by omega) hl2).mono ?_
      intro e w1 hpost
      obtain ⟨he, hw1⟩ := hpost
      subst he
      have mSwap := sl_mswap (p := p) (o := o) (w := w1) (v := .slice A l'.length c) ((hw1.cell (World.block_lt_of_cell? _ _ c0) (by simp)).trans c0)
      have hb2 := hb.chg hw1 (by simp)
      have hf2 := hf.chg hw1 (by simp)
      cases hlt : slLt (nth l' k) (nth l' i) with
      | false =>
        rw [hlt] at hup
        rw [if_neg (by simp)] at hup
        go_wp2_with fail
        go_end0
        refine ⟨rfl, ?_, hw.trans hw1 (by simp)⟩
        rw [← hup]
        exact sl_put hb2 ho hne hf2 (Chg.refl _ _) hpF
      | true =>
        rw [hlt, if_pos rfl] at hup
        have hil : i < l'.length := by omega
        have hs := sl_swap hf2 hil hk hl2
        go_wp2_with fail
        refine hs.mono ?_
        rintro e w2 ⟨rfl, hf3, hw2⟩
        go_wp2_with fail
        go_roundw
        case measure => simp [intOf]; omega
        case rel => exact ⟨i, swapAt l' i k, f, by go_num, by rw [length_swap]; exact hil, by rw [length_swap]; exact hll.out, by omega, hup, sl_put hb2 ho hne hf3 hw2 hpF, (hw.trans hw1 (by simp)).trans' hw2⟩
set_option maxHeartbeats 4000000 in
/-- down. -/
theorem sl_down (h : HS w p o t cs l F) (i n : Nat) (hn : n ≤ l.length) (hin : i < n ∨ (n = 0 ∧ i = 0)) (hl : l.length ≤ 1000000) :
    Calls Try.prog 51 #[.iface 87 (.pointer (some ⟨p, o, none⟩)), .int .i64 i, .int .i64 n] w fun e w' => (∃ b, e = .returned (.bool b)) ∧ HS w' p o t cs (downL slLt n l i n) F ∧ Chg F w w' := by
  have hpF := h.ne
  obtain ⟨R, hR⟩ : ∃ R, R = downL slLt n l i n := ⟨_, rfl⟩
  suffices hs : Calls Try.prog 51 #[.iface 87 (.pointer (some ⟨p, o, none⟩)), .int .i64 i, .int .i64 n] w fun e w' => (∃ b, e = .returned (.bool b)) ∧ HS w' p o t cs R F ∧ Chg F w w' from
    hs.mono fun e w' ⟨h1, h2, h3⟩ => ⟨h1, hR ▸ h2, h3⟩
  have nLess := fun w => (sl_nil ⟨p, o, none⟩ w).2.1
  have nSwap := fun w => (sl_nil ⟨p, o, none⟩ w).2.2.1
  go_enter Try.func51, Try.ntmps51
  go_wp2_with fail
  go_loopw [7] (fun iv wr => ∃ (k : Nat) (l' : List Slot) (f : Nat), iv = .int .i64 k ∧ (k < n ∨ (n = 0 ∧ k = 0)) ∧ l'.length = l.length ∧ n - k ≤ f ∧ downL slLt f l' k n = R ∧ HS wr p o t cs l' F ∧ Chg F w wr) (fun iv _ => n - (intOf iv).toNat)
  case atStart => exact ⟨i, l, n, rfl, hin, rfl, by omega, hR.symm, h, Chg.refl _ _⟩
  case round =>
    obtain ⟨k, l', f, rfl, hk, hll, hkf, hup, hr, hw⟩ := hrel
    have hl2 : l'.length ≤ 1000000 := by omega
    have hn2 : n ≤ l'.length := by omega
    replace hll := Lib.hid hll
    obtain ⟨A, c, c0, f0, hb, hf, h1, h2⟩ := hr.cell
    obtain ⟨v, -, ho, -, hne⟩ := hr
    have mLess := sl_mless c0
    by_cases h0 : n ≤ 2 * k + 1
    · have e : downL slLt f l' k n = l' := by cases f with
        | zero => rfl
        | succ f => simp only [downL]; rw [if_pos h0]
      rw [e] at hup
      subst hup
      have b1 : decide ((n : Int) ≤ 2 * (k : Int) + 1) = true := by simp; omega
      go_upto_region 3 with fail
      go_wp2_with fail
      go_ret
      exact ⟨⟨_, rfl⟩, sl_put hb ho hne hf (Chg.refl _ _) hpF, hw⟩
    · obtain ⟨f, rfl⟩ : ∃ f', f = f' + 1 := ⟨f - 1, by omega⟩
      simp only [downL] at hup
      rw [if_neg h0] at hup
      have b1 : decide ((n : Int) ≤ 2 * (k : Int) + 1) = false := by simp; omega
      have b2 : decide (2 * (k : Int) + 1 < 0) = false := by simp; omega
      go_upto_region 3 with fail
      go_upto_region 6 with fail
      by_cases h3 : 2 * k + 2 < n
      · have hL := sl_less hf (i := 2 * k + 2) (k := 2 * k + 1) (by omega) (by omega) hl2
        rw [show ((2 * k + 2 : Nat) : Int) = 2 * (k : Int) + 1 + 1 by omega, show ((2 * k + 1 : Nat) : Int) = 2 * (k : Int) + 1 by omega] at hL
        have hkd : kid slLt l' k n = if slLt (nth l' (2 * k + 2)) (nth l' (2 * k + 1)) = true then 2 * k + 2 else 2 * k + 1 := by simp [kid, h3]
        have b3 : decide (2 * (k : Int) + 1 + 1 < n) = true := by simp; omega
        go_wp2_with fail
        refine hL.mono ?_
        intro e w1 hpost
        obtain ⟨he, hw1⟩ := hpost
        subst he
        have hb1 := hb.chg hw1 (by simp)
        have hf1 := hf.chg hw1 (by simp)
        have hwy := hw.trans hw1 (by simp)
        have c1 := (hw1.cell (World.block_lt_of_cell? _ _ c0) (by simp)).trans c0
        have mLess1 := sl_mless c1
        cases hlt : slLt (nth l' (2 * k + 2)) (nth l' (2 * k + 1)) with
        | true =>
          have hk1 : kid slLt l' k n = 2 * k + 2 := by rw [hkd, hlt]; rfl
          rw [hk1] at hup
          have hLj := sl_less hf1 (i := 2 * k + 2) (k := k) (by omega) (by omega) hl2
          rw [show ((2 * k + 2 : Nat) : Int) = 2 * (k : Int) + 1 + 1 by omega] at hLj
          go_wp2_with fail
          refine hLj.mono ?_
          intro e w2 hpost2
          obtain ⟨he2, hw2⟩ := hpost2
          subst he2
          have hb2 := hb1.chg hw2 (by simp)
          have hf2 := hf1.chg hw2 (by simp)
          have hwz := hwy.trans hw2 (by simp)
          have c2 := (hw2.cell (World.block_lt_of_cell? _ _ c1) (by simp)).trans c1
          have mSwap := sl_mswap c2
          cases hlt2 : slLt (nth l' (2 * k + 2)) (nth l' k) with
          | false =>
            rw [hlt2, if_neg (by simp)] at hup
            go_wp2_with fail
            go_ret
            exact ⟨⟨_, rfl⟩, by rw [← hup]; exact sl_put hb2 ho hne hf2 (Chg.refl _ _) hpF, hwz⟩
          | true =>
            rw [hlt2, if_pos rfl] at hup
            have hs := sl_swap hf2 (i := k) (k := 2 * k + 2) (by omega) (by omega) hl2
            rw [show ((2 * k + 2 : Nat) : Int) = 2 * (k : Int) + 1 + 1 by omega] at hs
            go_wp2_with fail
            refine hs.mono ?_
            rintro e w3 ⟨rfl, hf3, hw3⟩
            go_wp2_with fail
            go_roundw
            case measure => simp [intOf]; omega
            case rel => exact ⟨2 * k + 2, swapAt l' k (2 * k + 2), f, by rw [show ((2 * k + 2 : Nat) : Int) = 2 * (k : Int) + 1 + 1 by omega], .inl (by omega), by rw [length_swap]; exact hll.out, by omega, hup, sl_put hb2 ho hne hf3 hw3 hpF, hwz.trans' hw3⟩
        | false =>
          have hk1 : kid slLt l' k n = 2 * k + 1 := by rw [hkd, hlt]; rfl
          rw [hk1] at hup
          have hLj := sl_less hf1 (i := 2 * k + 1) (k := k) (by omega) (by omega) hl2
          rw [show ((2 * k + 1 : Nat) : Int) = 2 * (k : Int) + 1 by omega] at hLj
          go_wp2_with fail
          refine hLj.mono ?_
          intro e w2 hpost2
          obtain ⟨he2, hw2⟩ := hpost2
          subst he2
          have hb2 := hb1.chg hw2 (by simp)
          have hf2 := hf1.chg hw2 (by simp)
          have hwz := hwy.trans hw2 (by simp)
          have c2 := (hw2.cell (World.block_lt_of_cell? _ _ c1) (by simp)).trans c1
          have mSwap := sl_mswap c2
          cases hlt2 : slLt (nth l' (2 * k + 1)) (nth l' k) with
          | false =>
            rw [hlt2, if_neg (by simp)] at hup
            go_wp2_with fail
            go_ret
            exact ⟨⟨_, rfl⟩, by rw [← hup]; exact sl_put hb2 ho hne hf2 (Chg.refl _ _) hpF, hwz⟩
          | true =>
            rw [hlt2, if_pos rfl] at hup
            have hs := sl_swap hf2 (i := k) (k := 2 * k + 1) (by omega) (by omega) hl2
            rw [show ((2 * k + 1 : Nat) : Int) = 2 * (k : Int) + 1 by omega] at hs
            go_wp2_with fail
            refine hs.mono ?_
            rintro e w3 ⟨rfl, hf3, hw3⟩
            go_wp2_with fail
            go_roundw
            case measure => simp [intOf]; omega
            case rel => exact ⟨2 * k + 1, swapAt l' k (2 * k + 1), f, by rw [show ((2 * k + 1 : Nat) : Int) = 2 * (k : Int) + 1 by omega], .inl (by omega), by rw [length_swap]; exact hll.out, by omega, hup, sl_put hb2 ho hne hf3 hw3 hpF, hwz.trans' hw3⟩
      · have hkd : kid slLt l' k n = 2 * k + 1 := by simp [kid, h3]
        rw [hkd] at hup
        have b3 : decide (2 * (k : Int) + 1 + 1 < n) = false := by simp; omega
        have hLj := sl_less hf (i := 2 * k + 1) (k := k) (by omega) (by omega) hl2
        rw [show ((2 * k + 1 : Nat) : Int) = 2 * (k : Int) + 1 by omega] at hLj
        go_wp2_with fail
        refine hLj.mono ?_
        intro e w2 hpost2
        obtain ⟨he2, hw2⟩ := hpost2
        subst he2
        have hb2 := hb.chg hw2 (by simp)
        have hf2 := hf.chg hw2 (by simp)
        have hwz := hw.trans hw2 (by simp)
        have c2 := (hw2.cell (World.block_lt_of_cell? _ _ c0) (by simp)).trans c0
        have mSwap := sl_mswap c2
        cases hlt2 : slLt (nth l' (2 * k + 1)) (nth l' k) with
        | false =>
          rw [hlt2, if_neg (by simp)] at hup
          go_wp2_with fail
          go_ret
          exact ⟨⟨_, rfl⟩, by rw [← hup]; exact sl_put hb2 ho hne hf2 (Chg.refl _ _) hpF, hwz⟩
        | true =>
          rw [hlt2, if_pos rfl] at hup
          have hs := sl_swap hf2 (i := k) (k := 2 * k + 1) (by omega) (by omega) hl2
          rw [show ((2 * k + 1 : Nat) : Int) = 2 * (k : Int) + 1 by omega] at hs
          go_wp2_with fail
          refine hs.mono ?_
          rintro e w3 ⟨rfl, hf3, hw3⟩
          go_wp2_with fail
          go_roundw
          case measure => simp [intOf]; omega
          case rel => exact ⟨2 * k + 1, swapAt l' k (2 * k + 1), f, by rw [show ((2 * k + 1 : Nat) : Int) = 2 * (k : Int) + 1 by omega], .inl (by omega), by rw [length_swap]; exact hll.out, by omega, hup, sl_put hb2 ho hne hf3 hw3 hpF, hwz.trans' hw3⟩
end
end Go.Proofs.Ytlbkjhfnpjbjlaa
/- container/heap over one kind of heap: push, pop, what is in it in its order. -/
namespace Go.Proofs.Ytlbkjhfnpjbjlaa
open Go.RowKit Go.Vx
set_option linter.unusedVariables false
set_option linter.unusedSimpArgs false

section
variable {w : World} {p o : Nat} {t : TypeId} {cs : Array Value} {l : List Slot} {F : List Nat}
/-- What is in it, in its order. -/
def slS (w : World) (p o : Nat) (t : TypeId) (cs : Array Value) (S : List Slot) (F : List Nat) : Prop := ∃ l, HS w p o t cs l F ∧ Rep slLt l S
theorem slS.len {S : List Slot} (h : HS w p o t cs l F) (hr : Rep slLt l S) : l.length = S.length := hr.2.1.length_eq
set_option maxHeartbeats 4000000 in
theorem sl_Push {S : List Slot} (h : slS w p o t cs S F) (x : Slot) (hl : S.length < 999999) :
    Calls Try.prog 50 #[.iface 87 (.pointer (some ⟨p, o, none⟩)), .iface 85 (.agg #[.int .i64 x.1, .int .i64 x.2.1, .int .i64 x.2.2.1, .int .i64 x.2.2.2])] w fun e w' => e = .returned (.tuple #[]) ∧ ∃ F', slS w' p o t cs (ins slLt x S) F' ∧ Chg (p :: F) w w' ∧ ∀ g, g ∈ F' → g ∈ F ∨ w.heap.size ≤ g := by
  obtain ⟨l, h, hr⟩ := h
  have hll := slS.len h hr
  have nPush := fun w => (sl_nil ⟨p, o, none⟩ w).2.2.2.1
  have nLen := fun w => (sl_nil ⟨p, o, none⟩ w).1
  have mPush := sl_mpush ⟨p, o, none⟩
  have hp := sl_push h x (by omega)
  have hpl := push_len slLin hr x
  have hll2 : l.length < 999999 := by omega
  clear hll
  go_enter Try.func50, Try.ntmps50
  go_wp2_with fail
  refine hp.mono ?_
  rintro e w1 ⟨rfl, F1, h1, hw1, hF1⟩
  obtain ⟨A, c, c0, f0, hb, hf, h3, h4⟩ := h1.cell
  have mLen := sl_mlen c0
  have hlen : (l ++ [x]).length = l.length + 1 := by simp
  rw [hlen] at mLen h3
  have hL := sl_len A (l.length + 1) c w1 (by omega)
  have hU := sl_up h1 l.length (by omega) (by omega)
  rw [hlen] at hU
  clear c0 f0 hb hf h3 h4 hlen
  go_wp2_with fail
  refine hL.mono ?_
  rintro e w2 ⟨rfl, rfl⟩
  go_wp2_with fail
  refine hU.mono ?_
  rintro e w3 ⟨rfl, h5, hw3⟩
  go_wp2_with fail
  go_end0
  rw [show l.length + 1 + 1 = l.length + 2 from rfl] at h5
  refine ⟨rfl, F1, ⟨_, h5, hpl.2⟩, hw1.trans hw3 ?_, hF1⟩
  intro g hg
  rcases hF1 g hg with h | h
  · exact .inl (by simp [h])
  · exact .inr h
set_option maxHeartbeats 4000000 in
theorem sl_Pop {x : Slot} {S : List Slot} (h : slS w p o t cs (x :: S) F) (hl : S.length < 999999) :
    Calls Try.prog 38 #[.iface 87 (.pointer (some ⟨p, o, none⟩))] w fun e w' => e = .returned (.iface 85 (.agg #[.int .i64 x.1, .int .i64 x.2.1, .int .i64 x.2.2.1, .int .i64 x.2.2.2])) ∧ slS w' p o t cs S F ∧ Chg (p :: F) w w' := by
  obtain ⟨l, h, hr⟩ := h
  have hll := slS.len h hr
  rw [List.length_cons] at hll
  obtain ⟨q1, q2, q3, q4, q5⟩ := pop_spec slLin hr
  have nSwap := fun w => (sl_nil ⟨p, o, none⟩ w).2.2.1
  have nPop := fun w => (sl_nil ⟨p, o, none⟩ w).2.2.2.2
  have nLen := fun w => (sl_nil ⟨p, o, none⟩ w).1
  have mPop := sl_mpop ⟨p, o, none⟩
  have hpF := h.ne
  obtain ⟨A, c, c0, f0, hb, hf, h3, h4⟩ := h.cell
  obtain ⟨v, -, ho, -, hne⟩ := h
  obtain ⟨m, hm⟩ : ∃ m, l.length = m + 1 := ⟨l.length - 1, by omega⟩
  have mLen := sl_mlen c0
  have hL := sl_len A l.length c w (by omega)
  have mSwap := sl_mswap c0
  have hS := sl_swap hf (i := 0) (k := m) (by omega) (by omega) (by omega)
  have hml : m < 999999 := by omega
  rw [hm] at mLen hL mSwap hS q2 q3
  simp only [Nat.add_sub_cancel] at q2 q3
  have hpm : popM slLt l = downL slLt m (swapAt l 0 m) 0 m := by unfold popM; rw [hm]; rfl
  rw [hpm] at q2 q3
  clear hll
  go_enter Try.func38, Try.ntmps38
  go_wp2_with fail
  refine hL.mono ?_
  rintro e w0 ⟨rfl, rfl⟩
  go_wp2_with fail
  refine hS.mono ?_
  rintro e w1 ⟨rfl, hf1, hw1⟩
  have h1 := sl_put hb ho hne (hm ▸ hf1) hw1 hpF
  have hD := sl_down h1 0 m (by rw [length_swap, hm]; omega) (by omega) (by rw [length_swap, hm]; omega)
  clear mSwap mLen hL hS
  go_wp2_with fail
  refine hD.mono ?_
  rintro e w2 ⟨⟨b, rfl⟩, h2, hw2⟩
  have hP := sl_pop h2 (by omega) (by omega)
  rw [q2] at hP
  simp only [Nat.add_sub_cancel] at hP
  rw [q3] at hP
  go_wp2_with fail
  refine hP.mono ?_
  rintro e w3 ⟨rfl, h5, hw3⟩
  go_wp2_with fail
  go_ret
  refine ⟨rfl, ⟨_, h5, ?_⟩, ?_⟩
  · have := q4
    unfold popL at this
    rw [hpm, hm] at this
    exact this
  · exact ((hw1.mono (by simp +contextual)).trans' (hw2.mono (by simp +contextual))).trans' (hw3.mono (by simp))
end
end Go.Proofs.Ytlbkjhfnpjbjlaa
/- The agenda's Init, Len. -/
namespace Go.Proofs.Ytlbkjhfnpjbjlaa
open Go.RowKit Go.Vx
set_option linter.unusedVariables false
set_option linter.unusedSimpArgs false

theorem down_len {α : Type} [Inhabited α] (lt : α → α → Bool) : ∀ (f : Nat) (l : List α) (i n : Nat), (downL lt f l i n).length = l.length
  | 0, l, i, n => rfl
  | f + 1, l, i, n => by
    rw [downL]
    split
    · rfl
    · split
      · rw [down_len lt f, length_swap]
      · rfl
/-- An agenda in memory: its slots in their order, how many came. -/
def AgAt (w : World) (p : Nat) (S : List Slot) (m : Int) (F : List Nat) : Prop := slS w p 0 81 #[.slice none 0 0, .int .i64 m] S F
theorem slS.chg {w w' : World} {p o : Nat} {t : TypeId} {cs : Array Value} {S : List Slot} {F G : List Nat} (h : slS w p o t cs S F) (k : Chg G w w') (hd : ∀ g, g ∈ p :: F → g ∉ G) : slS w' p o t cs S F := by
  obtain ⟨l, h, hr⟩ := h
  exact ⟨l, h.chg k hd, hr⟩
theorem AgAt.chg {w w' : World} {p : Nat} {S : List Slot} {m : Int} {F G : List Nat} (h : AgAt w p S m F) (k : Chg G w w') (hd : ∀ g, g ∈ p :: F → g ∉ G) : AgAt w' p S m F := slS.chg h k hd
theorem AgAt.lt {w : World} {p : Nat} {S : List Slot} {m : Int} {F : List Nat} (h : AgAt w p S m F) : ∀ g, g ∈ p :: F → g < w.heap.size := by
  obtain ⟨l, h, hr⟩ := h
  exact h.lt
/-- What stands in an agenda's cells. -/
theorem AgAt.cells {w : World} {p : Nat} {S : List Slot} {m : Int} {F : List Nat} (h : AgAt w p S m F) : ∃ A c, w.cell? ⟨p, 0, none⟩ = some (.slice A S.length c) ∧ w.cell? ⟨p, 1, none⟩ = some (.int .i64 m) ∧ w.frozen? ⟨p, 0, none⟩ = false ∧ w.frozen? ⟨p, 1, none⟩ = false ∧ S.length ≤ c ∧ c ≤ maxLen := by
  obtain ⟨l, h, hr⟩ := h
  have hll := slS.len h hr
  obtain ⟨A, c, c0, f0, hb, hf, h1, h2⟩ := h.cell
  rw [hll] at c0 h1
  refine ⟨A, c, c0, ?_, f0, hb.frozen 1, h1, h2⟩
  rw [hb.cell]
  rfl
theorem AgAt.len1 {w : World} {p : Nat} {S : List Slot} {m : Int} {F : List Nat} (h : AgAt w p S m F) : ∃ A c, w.cell? ⟨p, 0, none⟩ = some (.slice A S.length c) := by
  obtain ⟨A, c, h, -⟩ := h.cells
  exact ⟨A, c, h⟩
/-- The counter goes on. -/
theorem AgAt.bump {w : World} {p : Nat} {S : List Slot} {m : Int} {F : List Nat} (h : AgAt w p S m F) (m' : Int) : AgAt (w.setCell ⟨p, 1, none⟩ (.int .i64 m')) p S m' F := by
  obtain ⟨l, ⟨v, hb, ho, hf, hne⟩, hr⟩ := h
  refine ⟨l, ⟨v, ?_, by simp, hf.chg (S := [p]) ((Chg.refl _ _).setCell (by simp) _) (hf.not_mem hb hne), hne⟩, hr⟩
  exact hb.set_ 1 _
theorem AgAt.new (w : World) : AgAt (w.alloc (.cells #[.slice none 0 0, .int .i64 0] 81)) w.heap.size [] 0 [] :=
  ⟨[], ⟨.slice none 0 0, Blk.new _ _ _, by simp, Fix.nil _ _ _, by decide⟩, Rep.nil⟩
theorem ag_len {w : World} {p : Nat} {S : List Slot} {m : Int} {F : List Nat} (h : AgAt w p S m F) : Calls Try.prog 21 #[.pointer (some ⟨p, 0, none⟩)] w fun e w' => e = .returned (.int .i64 S.length) ∧ w = w' := by
  obtain ⟨A, c, c0, -, -, -, h1, h2⟩ := h.cells
  unfold maxLen at h2
  go_enter Try.func21, Try.ntmps21
  go_wp2
  go_ret
  exact ⟨rfl, rfl⟩
set_option maxRecDepth 8000 in
set_option maxHeartbeats 1000000 in
theorem ag_next_none {w : World} {p : Nat} {m : Int} {F : List Nat} (h : AgAt w p [] m F) : Calls Try.prog 32 #[.pointer (some ⟨p, 0, none⟩)] w fun e w' => e = .returned (.tuple #[.agg #[.int .i64 0, .int .i64 0, .int .i64 0], .bool false]) ∧ Chg [] w w' := by
  have hl := fun w' (k : Chg [] w w') => ag_len (h.chg k (by simp))
  go_enter Try.func32, Try.ntmps32
  go_wp2_with (go_at_call 21; refine (hl _ ((Chg.refl _ _).alloc _)).mono ?_; rintro e w' ⟨rfl, rfl⟩)
  refine bodyPost_ret (v := .tuple #[.agg #[.int .i64 0, .int .i64 0, .int .i64 0], .bool false]) (by rw [results_cell_tmp rfl]; go_simp) rfl ?_
  exact ⟨rfl, (Chg.refl _ _).alloc _⟩
set_option maxRecDepth 8000 in
set_option maxHeartbeats 1000000 in
theorem ag_next {w : World} {p : Nat} {x : Slot} {S : List Slot} {m : Int} {F : List Nat} (h : AgAt w p (x :: S) m F) (hS : S.length < 999999) :
    Calls Try.prog 32 #[.pointer (some ⟨p, 0, none⟩)] w fun e w' => e = .returned (.tuple #[.agg #[.int .i64 x.1, .int .i64 x.2.1, .int .i64 x.2.2.1], .bool true]) ∧ AgAt w' p S m F ∧ Chg (p :: F) w w' := by
  have hl := fun w' (k : Chg [] w w') => ag_len (h.chg k (by simp))
  have hpop := fun w' (k : Chg [] w w') => sl_Pop (h.chg k (by simp) : AgAt w' p (x :: S) m F) hS
  have hta : ∀ (a b c d : Value) (w : World), (Instr.typeAssert (.iface 85 (.agg #[a, b, c, d])) 20 85 false).run Try.prog w = .ok (.agg #[a, b, c, d]) w := fun a b c d w => by kernel_rfl
  have hfld : ∀ (a b c d : Value) (w : World), (Instr.field 85 (.agg #[a, b, c, d]) 0).run Try.prog w = .ok (.agg #[a, b, c]) w := fun a b c d w => by kernel_rfl
  have hlt := h.lt
  have hb0 := Blk.new w 62 #[.int .i64 0, .int .i64 0, .int .i64 0]
  have hne : ∀ w', Chg (p :: F) (w.alloc (.cells #[.int .i64 0, .int .i64 0, .int .i64 0] 62)) w' → Blk w' w.heap.size 62 #[.int .i64 0, .int .i64 0, .int .i64 0] := fun w' k => hb0.chg k (fun hg => Nat.lt_irrefl _ (hlt _ hg))
  have hsz : (x :: S).length = S.length + 1 := rfl
  rw [hsz] at hl
  have b1 : (((S.length + 1 : Nat) : Int) == 0) = false := by simp; omega
  have hne2 : ∀ g, g ∈ p :: F → ¬ g = w.heap.size := fun g hg e => by have := hlt g hg; omega
  clear hsz hlt
  go_enter Try.func32, Try.ntmps32
  go_wp2_with (first | (go_at_call 21; refine (hl _ ((Chg.refl _ _).alloc _)).mono ?_; rintro e w' ⟨rfl, rfl⟩) | (go_at_call 38; refine (hpop _ ((Chg.refl _ _).alloc _)).mono ?_; rintro e w1 ⟨rfl, hS1, hc1⟩; have hb1 := hne w1 hc1; have z0 := hb1.cell 0; have z1 := hb1.cell 1; have z2 := hb1.cell 2; have y0 := hb1.frozen 0; have y1 := hb1.frozen 1; have y2 := hb1.frozen 2; simp at z0 z1 z2))
  refine bodyPost_ret (v := .tuple #[.agg #[.int .i64 x.1, .int .i64 x.2.1, .int .i64 x.2.2.1], .bool true]) (by rw [results_cell_tmp rfl]; go_simp) rfl ?_
  refine ⟨rfl, ?_, ?_⟩
  · refine AgAt.chg (G := [w.heap.size]) hS1 ((((Chg.refl _ _).setCell (by simp) _).setCell (by simp) _).setCell (by simp) _) ?_
    intro g hg
    simpa using hne2 g hg
  · have := ((Chg.refl (p :: F) w).alloc (.cells #[.int .i64 0, .int .i64 0, .int .i64 0] 62)).trans' hc1
    exact ((this.setCell (.inr (by simp)) _).setCell (.inr (by simp)) _).setCell (.inr (by simp)) _
end Go.Proofs.Ytlbkjhfnpjbjlaa
/- The agenda's Put. -/
namespace Go.Proofs.Ytlbkjhfnpjbjlaa
open Go.RowKit Go.Vx
set_option linter.unusedVariables false
set_option linter.unusedSimpArgs false

/-- The cells of an element of a source. -/
theorem _root_.Go.Vx.Src.elem {w : World} {α : Type} {e : α → List Value} {size m : Nat} {A : Option Addr} {l : List α} (h : Src w size A m (l.flatMap e)) (he : ∀ x, (e x).length = size) (h00 : 0 < size) {k : Nat} (hk : k < l.length) (hm : l.length = m) :
    ∃ ad, A = some ad ∧ w.cell? (ad.add (k * size)) = (e l[k])[0]? ∧ ∀ j, 0 < j → j < size → w.cell? ⟨(ad.add (k * size)).block, (ad.add (k * size)).off + j, none⟩ = (e l[k])[j]? := by
  obtain ⟨ad, ha, hc⟩ := h.2 (by omega)
  have key : ∀ (j : Nat) (hj : j < size) (l : List α) (k : Nat) (hk : k < l.length), (l.flatMap e)[k * size + j]? = (e l[k])[j]? := by
    intro j hj l
    induction l with
    | nil => intro k hk; simp at hk
    | cons x l ih =>
      intro k hk
      rw [List.flatMap_cons]
      cases k with
      | zero => rw [List.getElem?_append_left (by rw [he]; omega)]; simp
      | succ k =>
        rw [List.getElem?_append_right (by rw [he, Nat.add_mul]; omega), he]
        have := ih k (by simpa using hk)
        rw [show (k + 1) * size + j - size = k * size + j by rw [Nat.add_mul]; omega]
        simpa using this
  have main : ∀ j, j < size → w.cell? (ad.add (k * size + j)) = (e l[k])[j]? := by
    intro j hj
    have hlt : j < (e l[k]).length := by rw [he]; exact hj
    rw [List.getElem?_eq_getElem hlt]
    exact hc _ _ (by rw [key j hj l k hk, List.getElem?_eq_getElem hlt])
  refine ⟨ad, ha, ?_, fun j h0 hj => ?_⟩
  · exact main 0 h00
  · rw [← main j hj]
    congr 1
    unfold Addr.add
    by_cases hks : k * size = 0 <;> simp [hks, show j ≠ 0 by omega, Nat.add_assoc]

/-- An item: its period, its rank, its number. -/
abbrev Item := Int × Int × Int
def itEnc (x : Item) : List Value := [.int .i64 x.1, .int .i64 x.2.1, .int .i64 x.2.2]
def slot (x : Item) (m : Int) : Slot := (x.1, x.2.1, x.2.2, m)
def put1 (st : List Slot × Int) (x : Item) : List Slot × Int := if st.1.length < 1000 then (ins slLt (slot x st.2) st.1, st.2 + 1) else st
def puts : List Slot × Int → List Item → List Slot × Int
  | st, [] => st
  | st, x :: l => puts (put1 st x) l
theorem put1_len {st : List Slot × Int} {x : Item} (h : st.1.length ≤ 1000) : (put1 st x).1.length ≤ 1000 := by
  unfold put1
  split
  · rw [(ins_perm _ _).length_eq, List.length_cons]; omega
  · exact h
theorem puts_take (l : List Item) : ∀ (k : Nat) (st : List Slot × Int) (hk : k < l.length), puts st (l.take (k + 1)) = put1 (puts st (l.take k)) l[k] := by
  induction l with
  | nil => intro k st hk; simp at hk
  | cons x l ih =>
    intro k st hk
    cases k with
    | zero => rfl
    | succ k =>
      rw [List.take_succ_cons, puts, List.take_succ_cons, puts, ih k _ (by simpa using hk)]
      rfl
set_option maxRecDepth 8000 in
set_option maxHeartbeats 4000000 in
theorem ag_put {w : World} {p : Nat} {S : List Slot} {m : Int} {F : List Nat} (h : AgAt w p S m F) (hS : S.length ≤ 1000) (hm0 : 0 ≤ m) (hm : m ≤ 1000000000) {A : Option Addr} {n c : Nat} {l : List Item} (hs : Src w 3 A n (l.flatMap itEnc)) (hl : l.length = n) (hn : n ≤ 10000) (hA : 0 < n → ∀ ad, A = some ad → ad.block ∉ p :: F) :
    Calls Try.prog 36 #[.pointer (some ⟨p, 0, none⟩), .slice A n c] w fun e w' => e = .returned (.int .i64 (puts (S, m) l).1.length) ∧ ∃ F', AgAt w' p (puts (S, m) l).1 (puts (S, m) l).2 F' ∧ Chg (p :: F) w w' ∧ ∀ g, g ∈ F' → g ∈ F ∨ w.heap.size ≤ g := by
  replace hl := Lib.hid hl
  go_enter Try.func36, Try.ntmps36
  go_wp2_with fail
  go_loopw [11] (fun iv wr => ∃ (k : Nat) (S' : List Slot) (m' : Int) (F' : List Nat), k ≤ n ∧ iv = .int .i64 k ∧ (S', m') = puts (S, m) (l.take k) ∧ S'.length ≤ 1000 ∧ 0 ≤ m' ∧ m' ≤ m + k ∧ AgAt wr p S' m' F' ∧ Chg (p :: F) w wr ∧ ∀ g, g ∈ F' → g ∈ F ∨ w.heap.size ≤ g) (fun iv _ => n - (intOf iv).toNat)
  case atStart => exact ⟨0, S, m, F, by omega, rfl, rfl, hS, hm0, by omega, h, Chg.refl _ _, fun g hg => .inl hg⟩
  case round =>
    obtain ⟨k, S', m', F', hk, rfl, hst, hS', hm1, hm2, hh, hc, hF⟩ := hrel
    have hlt0 := h.lt
    clear h
    obtain ⟨B, cB, c0, c1, f0, f1, q1, q2⟩ := hh.cells
    unfold maxLen at q2
    by_cases hkn : k < n
    · have hpt := puts_take l k (S, m) (by rw [hl.out]; exact hkn)
      have hsrc := hs.chg hc (fun ad e hg => hA (by omega) ad e hg)
      obtain ⟨ad, rfl, d0, hcel⟩ := hsrc.elem (fun _ => rfl) (by omega) (k := k) (by rw [hl.out]; exact hkn) hl.out
      have d1 := hcel 1 (by omega) (by omega)
      have d2 := hcel 2 (by omega) (by omega)
      simp only [itEnc, List.getElem?_cons_zero, List.getElem?_cons_succ] at d0 d1 d2
      generalize l[k]'(by rw [hl.out]; exact hkn) = x at *
      rw [← hst] at hpt
      clear hcel hst
      replace hpt := Lib.hid hpt
      by_cases hfull : S'.length < 1000
      · have b1 : decide ((S'.length : Int) < 1000) = true := by simp; omega
        have hpl := hh.lt p (by simp)
        have a0 := cell_al c0
        have a1 := cell_al c1
        have g0 : ∀ o, (wr.alloc o).frozen? ⟨p, 0, none⟩ = false := fun o => by rw [((Chg.refl [] wr).alloc o).frozen hpl (by simp), f0]
        have g1 : ∀ o, (wr.alloc o).frozen? ⟨p, 1, none⟩ = false := fun o => by rw [((Chg.refl [] wr).alloc o).frozen hpl (by simp), f1]
        have a1d : ∀ o, (wr.alloc o).drew.cell? ⟨p, 1, none⟩ = some (.int .i64 m') := a1
        have hpush := fun w1 (k : Chg [] wr w1) => sl_Push (hh.chg k (by simp) : AgAt w1 p S' m' F') (slot x m') (by omega)
        go_upto_region 7 with fail
        go_region_law (go_simp; go_at_call 50; refine (hpush _ ((Chg.refl _ _).alloc _).drew).mono ?_; rintro e w1 ⟨rfl, F1, hS1, hc1, hF1⟩)
        all_goals
          have hA1 : AgAt w1 p (ins slLt (slot x m') S') m' F1 := hS1
          have hil : (ins slLt (slot x m') S').length = S'.length + 1 := by rw [(ins_perm _ _).length_eq, List.length_cons]
          have hcw : Chg (p :: F) w w1 := by
            refine (((hc.alloc (.cells #[.int .i64 x.1, .int .i64 x.2.1, .int .i64 x.2.2] 62)).drew).trans hc1 ?_)
            intro g hg
            rcases List.mem_cons.1 hg with rfl | hg
            · exact .inl (by simp)
            · rcases hF g hg with h | h
              · exact .inl (by simp [h])
              · exact .inr h
          obtain ⟨B1, cB1, e0, e1, e2, e3, -, -⟩ := hA1.cells
          rw [hil] at e0
          have hb := hA1.bump (m' + 1)
          have hp1 : put1 (S', m') x = (ins slLt (slot x m') S', m' + 1) := by unfold put1; rw [if_pos hfull]
          replace hb := Lib.hid hb
          replace hil := Lib.hid hil
          clear hpush a0 a1 g0 g1 a1d c0 c1 f0 f1 hsrc d0 d1 d2 hA1 hS1 hh
          go_wp2_with fail
          go_roundw
          case measure => simp [intOf]; omega
          case rel =>
            refine ⟨k + 1, ins slLt (slot x m') S', m' + 1, F1, by omega, by go_num, by rw [hpt.out, hp1], by rw [hil.out]; omega, by omega, by omega, hb.out, hcw.setCell (.inl (by simp)) _, ?_⟩
            intro g hg
            rcases hF1 g hg with h | h
            · exact hF g h
            · have := hc.size
              simp at h
              exact .inr (by omega)
      · have b1 : decide ((S'.length : Int) < 1000) = false := by simp; omega
        have hpl := hh.lt p (by simp)
        have a0 := cell_al c0
        have hp1 : put1 (S', m') x = (S', m') := by unfold put1; rw [if_neg hfull]
        have hh2 := hh.chg ((Chg.refl [] wr).alloc (.cells #[.int .i64 x.1, .int .i64 x.2.1, .int .i64 x.2.2] 62)) (by simp)
        replace hh2 := Lib.hid hh2
        replace hp1 := Lib.hid hp1
        go_wp2_with fail
        go_roundw
        case measure => simp [intOf]; omega
        case rel => exact ⟨k + 1, S', m', F', by omega, by go_num, by rw [hpt.out, hp1.out], hS', hm1, by omega, hh2.out, hc.alloc _, hF⟩
    · obtain rfl : k = n := by omega
      rw [List.take_of_length_le (by rw [hl.out]; omega)] at hst
      replace hst := Lib.hid hst
      replace hh := Lib.hid hh
      go_wp2_with fail
      go_ret
      rw [← hst.out]
      exact ⟨rfl, F', hh.out, hc, hF⟩
end Go.Proofs.Ytlbkjhfnpjbjlaa
/- The agenda's Due. -/
namespace Go.Proofs.Ytlbkjhfnpjbjlaa
open Go.RowKit Go.Vx
set_option linter.unusedVariables false
set_option linter.unusedSimpArgs false

/-- How long the slice in a cell is. -/
def lenAt (w : World) (a : Addr) : Nat := match w.cell? a with | some (.slice _ n _) => n | _ => 0
theorem lenAt_of {w : World} {a : Addr} {A : Option Addr} {n c : Nat} (h : w.cell? a = some (.slice A n c)) : lenAt w a = n := by
  unfold lenAt
  rw [h]
theorem rep_head {x : Slot} {l S : List Slot} (h : Rep slLt l (x :: S)) : 0 < l.length ∧ nth l 0 = x := by
  obtain ⟨h1, h2, h3⟩ := h
  have hl : 0 < l.length := by rw [h2.length_eq]; simp
  refine ⟨hl, ?_⟩
  have hr := root_least slLin h1
  obtain ⟨k, hk, e⟩ := List.mem_iff_getElem.1 (h2.mem_iff.2 (List.mem_cons_self (a := x) (l := S)))
  have a1 := hr k hk
  rw [at_eq hk, e] at a1
  have hm : nth l 0 ∈ x :: S := h2.mem_iff.1 (by rw [at_eq hl]; exact List.getElem_mem hl)
  rcases List.mem_cons.1 hm with h | h
  · exact h
  · have a2 := (List.pairwise_cons.1 h3).1 _ h
    rcases slLin.tri x (nth l 0) with t | t | t
    · rw [t] at a1; cases a1
    · exact t.symm
    · rw [t] at a2; cases a2
theorem AgAt.head {w : World} {p : Nat} {x : Slot} {S : List Slot} {m : Int} {F : List Nat} (h : AgAt w p (x :: S) m F) : ∃ g c, w.cell? ⟨p, 0, none⟩ = some (.slice (some ⟨g, 0, none⟩) (S.length + 1) c) ∧ w.cell? ⟨g, 0, none⟩ = some (.int .i64 x.1) := by
  obtain ⟨l, h, hr⟩ := h
  have hll := slS.len h hr
  obtain ⟨hl, hx⟩ := rep_head hr
  obtain ⟨A, c, c0, f0, hb, hf, h1, h2⟩ := h.cell
  obtain ⟨g, c', e, -, hc⟩ := hf.elem encLen (by omega) (k := 0) hl
  injection e with e1 e2 e3
  subst e1
  have h0 := (hc 0 (by omega)).1
  rw [hx] at h0
  rw [hll] at c0
  refine ⟨g, c, c0, ?_⟩
  simpa [slEnc] using h0
def item (x : Slot) : Item := (x.1, x.2.1, x.2.2.1)
theorem infoItem : (Try.prog.info? 62).map (fun i => (i.zero, i.size, i.bytes)) = some (some (.agg #[.int .i64 0, .int .i64 0, .int .i64 0]), 3, 24) := by kernel_rfl
/-- The items of some slots in memory. -/
def Items (w : World) (v : Value) (D : List Slot) (FO : List Nat) : Prop := Fix w 62 3 v D.length ((D.map item).flatMap itEnc) FO
theorem Items.chg {w w' : World} {v : Value} {D : List Slot} {FO S : List Nat} (h : Items w v D FO) (k : Chg S w w') (hd : ∀ g, g ∈ FO → g ∉ S) : Items w' v D FO := Fix.chg h k hd
/-- How many are due. -/
def due (period : Int) (S : List Slot) : List Slot := S.takeWhile fun x => decide (x.1 ≤ period)
def later (period : Int) (S : List Slot) : List Slot := S.dropWhile fun x => decide (x.1 ≤ period)
theorem due_split {period : Int} : ∀ {D S : List Slot}, (∀ d ∈ D, d.1 ≤ period) → (S = [] ∨ ∃ x S', S = x :: S' ∧ ¬ x.1 ≤ period) → due period (D ++ S) = D ∧ later period (D ++ S) = S
  | [], S, _, h => by
    unfold due later
    rcases h with rfl | ⟨x, S', rfl, hx⟩
    · exact ⟨rfl, rfl⟩
    · simp [hx]
  | d :: D, S, hd, h => by
    obtain ⟨h1, h2⟩ := due_split (fun x hx => hd x (List.mem_cons_of_mem _ hx)) h
    have := hd d (by simp)
    unfold due later at *
    simp [this, h1, h2]
end Go.Proofs.Ytlbkjhfnpjbjlaa
/- The agenda's All. -/
namespace Go.Proofs.Ytlbkjhfnpjbjlaa
open Go.RowKit Go.Vx
set_option linter.unusedVariables false
set_option linter.unusedSimpArgs false
attribute [local go_sem] Lib.run_eql_slice_nil run_neq_slice_nil_any run_eql_nil_slice run_neq_nil_slice

theorem oneSlots (l : List Slot) : ∀ u ∈ l.flatMap slEnc, u.oneCell' = true := fun u hu => by
  obtain ⟨x, -, h⟩ := List.mem_flatMap.1 hu
  simp [slEnc] at h
  rcases h with rfl | rfl | rfl | rfl <;> rfl
set_option maxRecDepth 8000 in
set_option maxHeartbeats 1000000 in
theorem sl_clone {w : World} {v : Value} {l : List Slot} {F : List Nat} (h : Fix w 85 4 v l.length (l.flatMap slEnc) F) (hl : l.length ≤ 1000) :
    Calls Try.prog 37 #[v] w fun e w' => ∃ v' F', e = .returned v' ∧ Fix w' 85 4 v' l.length (l.flatMap slEnc) F' ∧ (∀ g, g ∈ F' → w.heap.size ≤ g) ∧ Chg [] w w' := by
  obtain ⟨i0, hi, j0, j1, j2⟩ := info_parts infoSlot
  have hsrc : ∀ A c, v = .slice A l.length c → Src w 4 A l.length (l.flatMap slEnc) := by rintro A c rfl; exact h.src
  have hnil : ∀ c, v = .slice none l.length c → l.length = 0 := by
    rintro c rfl
    obtain ⟨A, c', e, h1, h2, h3, h4⟩ := h
    injection e with e1 _ e3
    subst e1 e3
    rcases h4 with ⟨h5, -⟩ | ⟨g, cur, h5, -⟩
    · omega
    · cases h5
  have h0 := h
  obtain ⟨A, c, rfl, -⟩ := h0
  have hs := hsrc A c rfl
  have hone := oneSlots l
  clear hsrc
  cases A with
  | none =>
    have hn := hnil c rfl
    have hnl : l = [] := List.length_eq_zero_iff.1 hn
    subst hnl
    clear hnil hn
    go_enter Try.func37, Try.ntmps37
    go_wp2_with fail
    go_ret
    exact ⟨_, [], rfl, Fix.nil _ _ _, by simp, Chg.refl _ _⟩
  | some a =>
    clear hnil
    go_enter Try.func37, Try.ntmps37
    go_wp2_with (at_builtin; refine wpList_append_fix rfl _ _ 79 rfl Try.underlying79 hi j0 j1 j2 rfl (by omega) (n := 0) (xs := []) rfl (Fix.empty _ _ _ _) rfl (hs.alloc _) hone (by unfold maxLen; omega) (by omega) ?_; intro v' w1 F1 ha)
    go_ret
    refine ⟨v', F1, rfl, ?_, ?_, ((Chg.refl _ _).alloc _).trans' ha.chg⟩
    · have := ha.fix
      rwa [Nat.zero_add, List.nil_append] at this
    · intro g hg
      rcases ha.foot with e | e <;> rw [e] at hg <;> simp at hg
      omega
set_option maxRecDepth 8000 in
set_option maxHeartbeats 4000000 in
theorem ag_all {w : World} {p : Nat} {S : List Slot} {m : Int} {F : List Nat} (h : AgAt w p S m F) (hS : S.length ≤ 1000) :
    Calls Try.prog 22 #[.pointer (some ⟨p, 0, none⟩)] w fun e w' => ∃ v FO, e = .returned v ∧ Items w' v S FO ∧ (∀ g, g ∈ FO → w.heap.size ≤ g) ∧ Chg [] w w' := by
  obtain ⟨i0, hi, j0, j1, j2⟩ := info_parts infoItem
  have h0 := h
  obtain ⟨l, hh, hr⟩ := h0
  have hll := slS.len hh hr
  obtain ⟨A, c, c0, f0, hb, hf, q1, q2⟩ := hh.cell
  have hcl := sl_clone hf (by omega)
  have hta : ∀ (a b c d : Value) (w : World), (Instr.typeAssert (.iface 85 (.agg #[a, b, c, d])) 20 85 false).run Try.prog w = .ok (.agg #[a, b, c, d]) w := fun a b c d w => by kernel_rfl
  have hfld : ∀ (a b c d : Value) (w : World), (Instr.field 85 (.agg #[a, b, c, d]) 0).run Try.prog w = .ok (.agg #[a, b, c]) w := fun a b c d w => by kernel_rfl
  replace hll := Lib.hid hll
  clear f0 hb hf
  go_enter Try.func22, Try.ntmps22
  go_wp2_with fail
  refine hcl.mono ?_
  rintro e w1 ⟨v1, F1, rfl, hf1, hF1, hc1⟩
  have hf1' := hf1
  obtain ⟨A1, k1, rfl, -⟩ := hf1'
  dsimp only
  go_wp2_with fail
  have hb1 := Blk.new w1 79 #[.slice A1 l.length k1]
  have hq1 : Chg [] w1 (w1.alloc (.cells #[.slice A1 l.length k1] 79)) := (Chg.refl _ _).alloc _
  have hstart : slS (w1.alloc (.cells #[.slice A1 l.length k1] 79)) w1.heap.size 0 79 #[.slice none 0 0] S F1 := by
    refine ⟨l, ⟨.slice A1 l.length k1, hb1, by simp, hf1.chg hq1 (by simp), by decide⟩, hr⟩
  have hcz := hc1.trans' hq1
  have hq2 : w.heap.size ≤ w1.heap.size := hc1.size
  clear hb1 hq1 hf1 hc1
  go_loopw [4] (fun v wr => ∃ (D S' : List Slot) (FO : List Nat), S = D ++ S' ∧ slS wr w1.heap.size 0 79 #[.slice none 0 0] S' F1 ∧ Items wr v D FO ∧ (∀ g, g ∈ FO → w.heap.size ≤ g ∧ g ∉ w1.heap.size :: F1) ∧ Chg [] w wr) (fun _ wr => lenAt wr ⟨w1.heap.size, 0, none⟩)
  case atStart => exact ⟨[], S, [], rfl, hstart, Fix.nil _ _ _, by simp, hcz⟩
  case round =>
    obtain ⟨D, S', FO, hsp, hh1, ho, hO, hc⟩ := hrel
    clear hstart h hh c0
    have hlen : D.length + S'.length = S.length := by rw [hsp, List.length_append]
    replace hsp := Lib.hid hsp
    have hh2 := hh1
    obtain ⟨l', hx, hr'⟩ := hh2
    have hl' := slS.len hx hr'
    obtain ⟨A2, k2, c0, -, -, -, q3, q4⟩ := hx.cell
    rw [hl'] at c0 q3
    unfold maxLen at q4
    clear hx hr' hl'
    cases S' with
    | nil =>
      have hfin : D = S := by rw [hsp.out, List.append_nil]
      rw [List.length_nil] at c0
      go_wp2_with fail
      go_ret
      exact ⟨_, FO, rfl, by rw [← hfin]; exact ho, fun g hg => (hO g hg).1, hc⟩
    | cons x S' =>
      rw [List.length_cons] at c0 hlen q3
      have hpop := sl_Pop hh1 (by omega)
      have hltq : ∀ g, g ∈ w1.heap.size :: F1 → g < wr.heap.size := by obtain ⟨l', hx, -⟩ := hh1; exact hx.lt
      have hla := lenAt_of c0
      go_wp2_with fail
      refine hpop.mono ?_
      rintro e w2 ⟨rfl, hh2, hc2⟩
      have hdis : ∀ g, g ∈ FO → g ∉ w1.heap.size :: F1 := fun g hg => (hO g hg).2
      have ho1 := (show Fix wr 62 3 _ D.length ((D.map item).flatMap itEnc) FO from ho).chg hc2 hdis
      dsimp only
      go_wp2_with (at_builtin; refine wpList_append_fix rfl (.tmp 15) (.tmp 20) 60 rfl Try.underlying60 hi j0 j1 j2 rfl (by omega) rfl (ho1.alloc _) rfl (Src.one3 (by simp)) (by simp [Value.oneCell']) (by unfold maxLen; omega) (by omega) ?_; intro v' w3 F3 ha)
      have hw3 : Chg FO w2 w3 := ((Chg.refl FO w2).alloc _).trans' ha.chg
      have hh3 := slS.chg hh2 hw3 (fun g hg hg' => hdis g hg' hg)
      have hh4 := hh3
      obtain ⟨l', hx, hr'⟩ := hh4
      have hl' := slS.len hx hr'
      obtain ⟨A3, k3, e3, -⟩ := hx.cell
      rw [hl'] at e3
      have z1 := hc2.size
      have z2 := hc.size
      refine ⟨⟨D ++ [x], S', F3, by rw [hsp.out]; simp, hh3, ?_, ?_, ?_⟩, by rw [lenAt_of e3, hla]; omega⟩
      · have := ha.fix
        unfold Items
        rw [List.length_append, List.map_append, List.flatMap_append]
        exact this
      · intro g hg
        rcases ha.foot with e | e
        · exact hO g (by rw [← e]; exact hg)
        · rw [e] at hg
          simp at hg
          exact ⟨by omega, fun hg' => by have := hltq g hg'; omega⟩
      · refine (hc.trans hc2 ?_).trans hw3 (fun g hg => .inr (hO g hg).1)
        intro g hg
        right
        rcases List.mem_cons.1 hg with rfl | hg
        · exact hq2
        · have := hF1 g hg
          omega
end Go.Proofs.Ytlbkjhfnpjbjlaa
/- The agenda: plain laws of items. -/
namespace Go.Proofs.Ytlbkjhfnpjbjlaa
open Go.RowKit Go.Vx
set_option linter.unusedVariables false
set_option linter.unusedSimpArgs false

theorem Fix.cap {w : World} {e : TypeId} {size n k : Nat} {A : Option Addr} {xs : List Value} {F : List Nat} (h : Fix w e size (.slice A n k) n xs F) : n ≤ k ∧ k ≤ maxLen := by
  obtain ⟨_, _, e, _, h1, h2, _⟩ := h
  injection e with _ _ e
  subst e
  exact ⟨h1, h2⟩
theorem Items.cells {w : World} {v : Value} {D : List Slot} {FO : List Nat} (h : Items w v D FO) {k : Nat} (hk : k < D.length) : ∃ g c, v = .slice (some ⟨g, 0, none⟩) D.length c ∧ FO = [g] ∧ D.length ≤ c ∧ c ≤ maxLen ∧ w.cell? ⟨g, k * 3, none⟩ = some (.int .i64 (nth D k).1) ∧ w.cell? ⟨g, k * 3 + 1, none⟩ = some (.int .i64 (nth D k).2.1) ∧ w.cell? ⟨g, k * 3 + 2, none⟩ = some (.int .i64 (nth D k).2.2.1) := by
  have hl : (D.map item).length = D.length := by simp
  have h' : Fix w 62 3 v (D.map item).length ((D.map item).flatMap itEnc) FO := by rw [hl]; exact h
  obtain ⟨g, c, e, hF, hc⟩ := h'.elem (fun _ => rfl) (by omega) (k := k) (by rw [hl]; exact hk)
  have hn : nth (D.map item) k = item (nth D k) := by rw [at_eq (by rw [hl]; exact hk), at_eq hk, List.getElem_map]
  rw [hn] at hc
  rw [hl] at e
  subst e
  obtain ⟨q1, q2⟩ := Fix.cap h
  refine ⟨g, c, rfl, hF, q1, q2, ?_, ?_, ?_⟩
  · simpa [itEnc, item] using (hc 0 (by omega)).1
  · simpa [itEnc, item] using (hc 1 (by omega)).1
  · simpa [itEnc, item] using (hc 2 (by omega)).1
theorem Items.nilv {w : World} {v : Value} {D : List Slot} {FO : List Nat} (h : Items w v D FO) : ∃ A c, v = .slice A D.length c ∧ D.length ≤ c ∧ c ≤ maxLen := by
  obtain ⟨A, c, rfl, -⟩ := id (show Fix w 62 3 v D.length ((D.map item).flatMap itEnc) FO from h)
  obtain ⟨q1, q2⟩ := Fix.cap h
  exact ⟨A, c, rfl, q1, q2⟩
theorem puts_len : ∀ (l : List Item) (st : List Slot × Int), st.1.length + l.length ≤ 1000 → (puts st l).1.length = st.1.length + l.length ∧ (puts st l).2 = st.2 + l.length
  | [], st, _ => ⟨rfl, by simp [puts]⟩
  | x :: l, st, h => by
    rw [List.length_cons] at h ⊢
    have e : put1 st x = (ins slLt (slot x st.2) st.1, st.2 + 1) := by unfold put1; rw [if_pos (by omega)]
    have hl : (ins slLt (slot x st.2) st.1).length = st.1.length + 1 := by rw [(ins_perm _ _).length_eq, List.length_cons]
    rw [puts, e]
    obtain ⟨h1, h2⟩ := puts_len l (ins slLt (slot x st.2) st.1, st.2 + 1) (by simp only [hl]; omega)
    rw [h1, h2]
    simp only [hl]
    exact ⟨by omega, by omega⟩
theorem Items.lt {w : World} {v : Value} {D : List Slot} {FO : List Nat} (h : Items w v D FO) : ∀ g, g ∈ FO → g < w.heap.size := Fix.lt h
def itLt (x y : Item) : Bool := slLt (x.1, x.2.1, x.2.2, 0) (y.1, y.2.1, y.2.2, 0)
theorem itLin : Lin itLt where
  irr x := slLin.irr _
  tr x y z h k := slLin.tr _ _ _ h k
  tri x y := by
    obtain ⟨a, b, c⟩ := x
    obtain ⟨a', b', c'⟩ := y
    rcases slLin.tri (a, b, c, 0) (a', b', c', 0) with h | h | h
    · exact .inl h
    · right; left
      simp only [Prod.mk.injEq] at h ⊢
      exact ⟨h.1, h.2.1, h.2.2.1⟩
    · exact .inr (.inr h)
theorem itLt_sl {x y : Slot} (h : slLt x y = false) : itLt (item x) (item y) = false := by
  unfold itLt
  rw [slLt_no] at *
  simp only [item]
  omega
theorem items_srt {S : List Slot} (h : Srt slLt S) : Srt itLt (S.map item) := by
  unfold Srt at *
  rw [List.pairwise_map]
  exact h.imp fun h => itLt_sl h
theorem items_eq {S T : List Slot} (h1 : Srt slLt S) (h2 : Srt slLt T) (h : (S.map item).Perm (T.map item)) : S.map item = T.map item := srt_unique itLin (items_srt h1) (items_srt h2) h
theorem AgAt.srt {w : World} {p : Nat} {S : List Slot} {m : Int} {F : List Nat} (h : AgAt w p S m F) : Srt slLt S := by
  obtain ⟨l, h, hr⟩ := h
  exact hr.2.2
theorem puts_items : ∀ (l : List Item) (st : List Slot × Int), st.1.length + l.length ≤ 1000 → ((puts st l).1.map item).Perm (l ++ st.1.map item)
  | [], st, _ => List.Perm.refl _
  | x :: l, st, h => by
    rw [List.length_cons] at h
    have e : put1 st x = (ins slLt (slot x st.2) st.1, st.2 + 1) := by unfold put1; rw [if_pos (by omega)]
    have hl : (ins slLt (slot x st.2) st.1).length = st.1.length + 1 := by rw [(ins_perm _ _).length_eq, List.length_cons]
    rw [puts, e]
    refine (puts_items l _ (by simp only [hl]; omega)).trans ?_
    refine ((ins_perm _ _).map item |>.append_left l).trans ?_
    simp only [List.map_cons, item, slot]
    exact List.perm_middle
theorem puts_cnt : ∀ (l : List Item) (st : List Slot × Int), 0 ≤ st.2 → 0 ≤ (puts st l).2 ∧ (puts st l).2 ≤ st.2 + l.length
  | [], st, h => ⟨h, by show st.2 ≤ st.2 + ((0 : Nat) : Int); omega⟩
  | x :: l, st, h => by
    rw [puts, List.length_cons]
    have h1 : 0 ≤ (put1 st x).2 ∧ (put1 st x).2 ≤ st.2 + 1 := by unfold put1; split <;> first | omega | (simp; omega)
    have := puts_cnt l (put1 st x) h1.1
    omega
theorem Src.drop3 {w : World} {ad : Addr} {n k : Nat} {l : List Item} (h : Src w 3 (some ad) n (l.flatMap itEnc)) (hl : l.length = n) (hk : k ≤ n) : Src w 3 (some (ad.add (k * 3))) (n - k) ((l.drop k).flatMap itEnc) := by
  obtain ⟨h1, h2⟩ := h
  have e : (l.drop k).flatMap itEnc = (l.flatMap itEnc).drop (k * 3) := by
    have h3 : l.flatMap itEnc = (l.take k).flatMap itEnc ++ (l.drop k).flatMap itEnc := by rw [← List.flatMap_append, List.take_append_drop]
    have h4 : ((l.take k).flatMap itEnc).length = k * 3 := by
      rw [flatMap_len2 (size := 3) (fun _ => rfl)]
      simp
      omega
    rw [h3, ← h4, List.drop_left]
  rw [e]
  refine ⟨by rw [List.length_drop, h1]; omega, fun h0 => ?_⟩
  obtain ⟨ad', e', hc⟩ := h2 (by omega)
  obtain rfl : ad = ad' := by simpa using e'
  refine ⟨_, rfl, fun j u hu => ?_⟩
  rw [List.getElem?_drop] at hu
  have := hc (k * 3 + j) u hu
  rwa [show (ad.add (k * 3)).add j = ad.add (k * 3 + j) by by_cases h1 : k * 3 = 0 <;> by_cases h2 : j = 0 <;> simp [Addr.add, h1, h2, Nat.add_assoc]]
theorem Src.take3 {w : World} {A : Option Addr} {n k : Nat} {l : List Item} (h : Src w 3 A n (l.flatMap itEnc)) (hl : l.length = n) (hk : k ≤ n) : Src w 3 A k ((l.take k).flatMap itEnc) := by
  obtain ⟨h1, h2⟩ := h
  rw [take_flat (enc := itEnc) (size := 3) (fun _ => rfl) l k]
  refine ⟨by rw [List.length_take, h1]; omega, fun h0 => ?_⟩
  obtain ⟨ad, rfl, hc⟩ := h2 (by omega)
  refine ⟨_, rfl, fun j u hu => ?_⟩
  rw [List.getElem?_take] at hu
  split at hu
  · exact hc j u hu
  · simp at hu
end Go.Proofs.Ytlbkjhfnpjbjlaa
/- Plan: templates in memory; Items. -/
namespace Go.Proofs.Ytlbkjhfnpjbjlaa
open Go.RowKit Go.Vx
set_option linter.unusedVariables false
set_option linter.unusedSimpArgs false

instance : Inhabited Tp := ⟨⟨0, 0, 0, 0, 0, 0, 0, 0, 0, [], [], 0⟩⟩
/-- A template in memory. -/
structure TV where
  t : Tp
  tA : Option Addr
  tc : Nat
  wA : Option Addr
  wc : Nat
instance : Inhabited TV := ⟨⟨default, none, 0, none, 0⟩⟩
def tvEnc (x : TV) : List Value := [.int .i64 x.t.kind, .int .i64 x.t.id, .int .i64 x.t.ent, .int .i64 x.t.frm, .int .i64 x.t.til, .int .i64 x.t.every, .int .i64 x.t.amt, .int .i64 x.t.deb, .int .i64 x.t.cred, .slice x.tA x.t.tg.length x.tc, .slice x.wA x.t.wt.length x.wc, .int .i64 x.t.rank]
theorem tvEnc_len (x : TV) : (tvEnc x).length = 12 := rfl
def TOk (w : World) (x : TV) : Prop := Src w 1 x.tA x.t.tg.length (x.t.tg.map (Value.int .i64)) ∧ Src w 1 x.wA x.t.wt.length (x.t.wt.map (Value.int .i64)) ∧ x.t.tg.length ≤ 1000000 ∧ x.t.wt.length ≤ 1000000
theorem TOk.keep {w w' : World} {x : TV} (h : TOk w x) (k : Chg [] w w') : TOk w' x := ⟨h.1.chg k (by simp), h.2.1.chg k (by simp), h.2.2⟩
def TRow (w : World) (A : Option Addr) (n : Nat) (T : List TV) : Prop := Src w 12 A n (T.flatMap tvEnc) ∧ (∀ x ∈ T, TOk w x) ∧ T.length = n
theorem TRow.keep {w w' : World} {A : Option Addr} {n : Nat} {T : List TV} (h : TRow w A n T) (k : Chg [] w w') : TRow w' A n T := ⟨h.1.chg k (by simp), fun x hx => (h.2.1 x hx).keep k, h.2.2⟩
theorem TRow.cells {w : World} {A : Option Addr} {n : Nat} {T : List TV} (h : TRow w A n T) {i : Nat} (hi : i < n) : ∃ ad, A = some ad ∧ TOk w (T.getD i default) ∧ w.cell? (ad.add (i * 12)) = some (.int .i64 (T.getD i default).t.kind) ∧
    (∀ j u, 0 < j → j < 12 → (tvEnc (T.getD i default))[j]? = some u → w.cell? ⟨(ad.add (i * 12)).block, (ad.add (i * 12)).off + j, none⟩ = some u) := by
  obtain ⟨hs, hok, hl⟩ := h
  subst hl
  obtain ⟨ad, rfl, hc⟩ := hs.2 (by omega)
  have hg : T.getD i default = T[i] := by simp [List.getD, List.getElem?_eq_getElem hi]
  rw [hg]
  have key : ∀ j u, j < 12 → (tvEnc T[i])[j]? = some u → w.cell? (ad.add (i * 12 + j)) = some u := fun j u hj hu => by
    apply hc
    rw [flatMap_at tvEnc_len T i hi j hj, at_eq hi]
    exact hu
  have e : ∀ j, j ≠ 0 → ad.add (i * 12 + j) = ⟨(ad.add (i * 12)).block, (ad.add (i * 12)).off + j, none⟩ := fun j hj => by
    unfold Addr.add
    by_cases hks : i * 12 = 0 <;> simp [hks, hj, Nat.add_assoc]
  exact ⟨ad, rfl, hok _ (List.getElem_mem hi), key 0 _ (by omega) rfl, fun j u h0 hj hu => by rw [← e j (by omega)]; exact key j u hj hu⟩
theorem perL_len (t : Tp) : (perL t).length ≤ 1200 := by
  unfold perL
  split
  · rename_i hc
    rw [per_len]
    obtain ⟨h1, h2, h3, h4, h5, -⟩ := check_front hc
    unfold cntT
    have : (t.til - t.frm).toNat / t.every.toNat ≤ (t.til - t.frm).toNat := Nat.div_le_self _ _
    omega
  · simp
def perIt (t : Tp) (i : Nat) : List Item := (perL t).map fun p => (p, t.rank, (i : Int))
def itsN (T : List TV) (k : Nat) : List Item := (List.range k).flatMap fun i => perIt (T.getD i default).t i
theorem its_succ (T : List TV) (k : Nat) : itsN T (k + 1) = itsN T k ++ perIt (T.getD k default).t k := by
  unfold itsN
  rw [List.range_succ, List.flatMap_append, List.flatMap_singleton]
theorem per_it_succ (t : Tp) (i : Nat) {j : Nat} (hj : j < (perL t).length) : (perIt t i).take (j + 1) = (perIt t i).take j ++ [((perL t).getD j 0, t.rank, (i : Int))] := by
  unfold perIt
  rw [List.take_succ_eq_append_getElem (by simpa using hj), List.getElem_map]
  simp [List.getD, List.getElem?_eq_getElem hj]
theorem puts_app : ∀ (l m : List Item) (st : List Slot × Int), puts st (l ++ m) = puts (puts st l) m
  | [], m, st => rfl
  | x :: l, m, st => by rw [List.cons_append, puts, puts, puts_app l m]
theorem puts_few : ∀ (l : List Item) (st : List Slot × Int), st.1.length ≤ 1000 → (puts st l).1.length ≤ 1000
  | [], st, h => h
  | x :: l, st, h => by rw [puts]; exact puts_few l _ (put1_len h)
theorem its_len (T : List TV) : ∀ k, (itsN T k).length ≤ k * 1200
  | 0 => by simp [itsN]
  | k + 1 => by
    rw [its_succ, List.length_append]
    have := its_len T k
    have h2 : (perIt (T.getD k default).t k).length ≤ 1200 := by unfold perIt; rw [List.length_map]; exact perL_len _
    omega
/-- The agenda behind some items. -/
def AgIs (w : World) (p : Nat) (L : List Item) (F : List Nat) : Prop := AgAt w p (puts ([], 0) L).1 (puts ([], 0) L).2 F
theorem AgIs.keep {w w' : World} {p : Nat} {L : List Item} {F G : List Nat} (h : AgIs w p L F) (k : Chg G w w') (hd : ∀ g, g ∈ p :: F → g ∉ G) : AgIs w' p L F := AgAt.chg h k hd
theorem ag_put1 {w : World} {p : Nat} {L : List Item} {F : List Nat} (h : AgIs w p L F) (hL : L.length ≤ 100000) {x : Item} {A : Addr} {c : Nat} (hs : Src w 3 (some A) 1 (itEnc x)) (hA : A.block ∉ p :: F) :
    Calls Try.prog 36 #[.pointer (some ⟨p, 0, none⟩), .slice (some A) 1 c] w fun e w' => (∃ r, e = .returned (.int .i64 r)) ∧ ∃ F', AgIs w' p (L ++ [x]) F' ∧ Chg (p :: F) w w' ∧ ∀ g, g ∈ F' → g ∈ F ∨ w.heap.size ≤ g := by
  have hc := puts_cnt L ([], 0) (Int.le_refl _)
  have := ag_put h (puts_few L _ (by simp)) hc.1 (by omega) (A := some A) (n := 1) (c := c) (l := [x]) (by simpa using hs) rfl (by omega) (fun _ ad ha => by cases ha; exact hA)
  refine this.mono ?_
  rintro e w' ⟨rfl, F', h1, h2, h3⟩
  refine ⟨⟨_, rfl⟩, F', ?_, h2, h3⟩
  unfold AgIs
  rw [puts_app]
  exact h1
end Go.Proofs.Ytlbkjhfnpjbjlaa
/- Plan: Items. -/
namespace Go.Proofs.Ytlbkjhfnpjbjlaa
open Go.RowKit Go.Vx
set_option linter.unusedVariables false
set_option linter.unusedSimpArgs false

set_option maxRecDepth 100000 in
set_option maxHeartbeats 8000000 in
theorem pl_items {T : List TV} {A : Option Addr} {n c : Nat} {w : World} (h : TRow w A n T) (hn : n ≤ 50) :
    Calls Try.prog 20 #[.slice A n c] w fun e w' => ∃ p F, e = .returned (.pointer (some ⟨p, 0, none⟩)) ∧ AgIs w' p (itsN T n) F ∧ (∀ g ∈ p :: F, w.heap.size ≤ g) ∧ Chg [] w w' := by
  obtain ⟨PP, hPP⟩ : ∃ PP : Ending → World → Prop, PP = fun e w' => ∃ p F, e = .returned (.pointer (some ⟨p, 0, none⟩)) ∧ AgIs w' p (itsN T n) F ∧ (∀ g ∈ p :: F, w.heap.size ≤ g) ∧ Chg [] w w' := ⟨_, rfl⟩
  rw [← hPP]
  replace hPP := Lib.hid hPP
  have h0 : AgIs (w.alloc (.cells #[.slice none 0 0, .int .i64 0] 81)) w.heap.size (itsN T 0) [] := AgAt.new w
  have hz0 := (Chg.refl [] w).alloc (.cells #[.slice none 0 0, .int .i64 0] 81)
  obtain ⟨w1, hw1⟩ : ∃ w1, w1 = w.alloc (.cells #[.slice none 0 0, .int .i64 0] 81) := ⟨_, rfl⟩
  obtain ⟨p, hp⟩ : ∃ p, w.heap.size = p := ⟨_, rfl⟩
  have hs1 : w1.heap.size = p + 1 := by rw [hw1, World.size_alloc, hp]
  rw [← hw1] at h0 hz0
  rw [hp] at h0
  have hcell := fun W (z : Chg [] w W) k (hk : k < n) => (h.keep z).cells hk
  have hits := its_succ T
  have hlen := its_len T
  generalize itsN T = IT at *
  replace hcell := Lib.hid hcell
  replace hits := Lib.hid hits
  replace hlen := Lib.hid hlen
  replace hs1 := Lib.hid hs1
  replace hw1 := Lib.hid hw1
  clear h
  go_enter Try.func20, Try.ntmps20
  go_wp2_with fail
  rw [← hw1.out]
  replace hp := Lib.hid hp
  go_loopw [12] (fun iv wr => ∃ (k : Nat) (F : List Nat), k ≤ n ∧ iv = .int .i64 k ∧ AgIs wr p (IT k) F ∧ (∀ g ∈ p :: F, p ≤ g) ∧ Chg [] w wr) (fun iv _ => n - (intOf iv).toNat)
  case atStart => exact ⟨0, [], by omega, rfl, h0, by simp, hz0⟩
  case round =>
    obtain ⟨k, F, hk, rfl, hag, hF, hzr⟩ := hrel
    by_cases hlt : k < n
    · obtain ⟨ad, rfl, hok, c0, hcj⟩ := hcell.out _ hzr k hlt
      have hlt2 : (k : Int) < (n : Int) := by omega
      have hkw : IntKind.i64.wrap ((k : Int) + 1) = (k : Int) + 1 := by rw [IntKind.wrap_i64]; omega
      have hitk := hits.out k
      generalize T.getD k default = x at *
      have c1 := hcj 1 _ (by omega) (by omega) rfl
      have c2 := hcj 2 _ (by omega) (by omega) rfl
      have c3 := hcj 3 _ (by omega) (by omega) rfl
      have c4 := hcj 4 _ (by omega) (by omega) rfl
      have c5 := hcj 5 _ (by omega) (by omega) rfl
      have c6 := hcj 6 _ (by omega) (by omega) rfl
      have c7 := hcj 7 _ (by omega) (by omega) rfl
      have c8 := hcj 8 _ (by omega) (by omega) rfl
      have c9 := hcj 9 _ (by omega) (by omega) rfl
      have c10 := hcj 10 _ (by omega) (by omega) rfl
      have c11 := hcj 11 _ (by omega) (by omega) rfl
      clear hcj
      obtain ⟨t, tA, tc, wA, wc⟩ := x
      unfold TOk at hok
      dsimp only at *
      have hpr := fun W (z : Chg [] wr W) => pl_periods t (tc := tc) (wc := wc) (hok.1.chg z (by simp)) (hok.2.1.chg z (by simp)) hok.2.2.1 hok.2.2.2
      have hpn := perL_len t
      have hsu := fun j => @per_it_succ t k j
      have hp0 : (perIt t k).take 0 = [] := rfl
      have hpe : (perIt t k).take (perL t).length = perIt t k := List.take_of_length_le (by unfold perIt; rw [List.length_map]; exact Nat.le_refl _)
      have hln : ∀ j, ((perIt t k).take j).length ≤ 1200 := fun j => by rw [List.length_take]; unfold perIt; rw [List.length_map]; omega
      have hlk := hlen.out k
      generalize perIt t k = PI at *
      generalize perL t = PL at *
      obtain ⟨kind, id', ent, frm, til, every, amt, deb, cred, tg, wt, rank⟩ := t
      unfold tpV at hpr
      dsimp only at *
      generalize tg.length = tn at *
      generalize wt.length = wn at *
      obtain ⟨OT, hOT⟩ : ∃ O : Obj, O = .cells #[.int .i64 kind, .int .i64 id', .int .i64 ent, .int .i64 frm, .int .i64 til, .int .i64 every, .int .i64 amt, .int .i64 deb, .int .i64 cred, .slice tA tn tc, .slice wA wn wc, .int .i64 rank] 24 := ⟨_, rfl⟩
      have hz1 := (Chg.refl [] wr).alloc OT
      have hpr2 := hpr _ hz1
      have hB := Blk.new wr 24 #[.int .i64 kind, .int .i64 id', .int .i64 ent, .int .i64 frm, .int .i64 til, .int .i64 every, .int .i64 amt, .int .i64 deb, .int .i64 cred, .slice tA tn tc, .slice wA wn wc, .int .i64 rank]
      rw [← hOT] at hB
      have hag1 := hag.keep hz1 (by simp)
      have hFl : ∀ g ∈ p :: F, g < wr.heap.size := AgAt.lt hag
      replace hpr2 := Lib.hid hpr2
      replace hsu := Lib.hid hsu
      replace hp0 := Lib.hid hp0
      replace hpe := Lib.hid hpe
      replace hln := Lib.hid hln
      replace hitk := Lib.hid hitk
      replace hlk := Lib.hid hlk
      replace hF := Lib.hid hF
      replace hFl := Lib.hid hFl
      replace hpn := Lib.hid hpn
      clear hpr hok hag
      go_wp2_with fail
      rw [← hOT]
      refine hpr2.out.mono ?_
      rintro e w2 ⟨pv, pF, rfl, hpf, hpF, hz2⟩
      obtain ⟨pA, pc, rfl, -, hpl, hpm, -⟩ := _root_.id hpf
      have hz12 := hz1.trans' hz2
      have hag2 := hag1.keep hz2 (by simp)
      obtain ⟨tb, htb⟩ : ∃ tb, wr.heap.size = tb := ⟨_, rfl⟩
      have hB2 := hB.chg hz2 (by simp)
      rw [htb] at hB2 ⊢
      have hs2 := hz12.size
      rw [htb] at hs2
      have hpF2 : ∀ g ∈ pF, tb < g := fun g hg => by have := hpF g hg; rw [World.size_alloc, htb] at this; omega
      have hFl2 : ∀ g ∈ p :: F, g < tb := by rw [← htb]; exact hFl.out
      have hzw2 := hzr.trans' hz12
      have hs2' := hB2.lt
      clear hpr2 c0 c1 c2 c3 c4 c5 c6 c7 c8 c9 c10 c11 hB hFl hag1 hpF hOT hz1 hz2 htb
      replace hpf := Lib.hid hpf
      replace hB2 := Lib.hid hB2
      replace hFl2 := Lib.hid hFl2
      replace hpF2 := Lib.hid hpF2
      have hPn : PL.length ≤ 1200 := hpn.out
      generalize hPm : PL.length = m at *
      replace hPm := Lib.hid hPm
      clear hpl hpm
      go_wp2_with fail
      go_loopw [20] (fun jv wr => ∃ (j : Nat) (F' : List Nat), j ≤ m ∧ jv = .int .i64 j ∧ AgIs wr p (IT k ++ PI.take j) F' ∧ (∀ g ∈ F', g ∈ F ∨ w2.heap.size ≤ g) ∧ Chg (p :: F) w2 wr) (fun jv _ => m - (intOf jv).toNat)
      case atStart => exact ⟨0, F, by omega, rfl, by rw [hp0.out, List.append_nil]; exact hag2, fun g hg => .inl hg, Chg.refl _ _⟩
      case round =>
        obtain ⟨j, F', hj, rfl, hag3, hF', hz3⟩ := hrel
        have hpf3 := hpf.out.chg hz3 (fun g hg hh => by have := hpF2.out g hg; have := hFl2.out g hh; omega)
        have hB3 := hB2.out.chg hz3 (fun hh => by have := hFl2.out _ hh; omega)
        have hFw : ∀ g ∈ p :: F', g ∈ p :: F ∨ w2.heap.size ≤ g := fun g hg => by
          rcases List.mem_cons.1 hg with h | h
          · exact .inl (by rw [h]; simp)
          · exact (hF' g h).imp (fun h => by simp [h]) (fun h => h)
        by_cases hjl : j < m
        · obtain ⟨qa, rfl, hqc⟩ := (Fix.src hpf3).2 (by omega)
          have q0 : wr.cell? (qa.add j) = some (.int .i64 (PL.getD j 0)) := by
            refine hqc j _ ?_
            have : j < PL.length := by have := hPm.out; omega
            simp [List.getD, List.getElem?_eq_getElem this]
          have hjl2 : (j : Int) < (m : Int) := by omega
          have hjw : IntKind.i64.wrap ((j : Int) + 1) = (j : Int) + 1 := by rw [IntKind.wrap_i64]; omega
          have hsj := hsu.out j (by have := hPm.out; omega)
          have hlj := hln.out j
          have hlt3 : ∀ g ∈ p :: F', g < wr.heap.size := AgAt.lt hag3
          generalize PL.getD j 0 = y at *
          have b11 : wr.cell? ⟨tb, 11, none⟩ = some (.int .i64 rank) := hB3.cell 11
          have hput := ag_put1 (hag3.keep ((Chg.refl [] wr).alloc (.cells #[.int .i64 y, .int .i64 rank, .int .i64 (k : Int)] 62)) (by simp)) (by rw [List.length_append]; have := hlk.out; omega) (x := (y, rank, (k : Int))) (A := ⟨wr.heap.size, 0, none⟩) (c := 1) (Src.one3 rfl) (fun hh => by have := hlt3 _ hh; dsimp only at this; omega)
          have hss := hz3.size
          replace hput := Lib.hid hput
          replace hsj := Lib.hid hsj
          replace hFw := Lib.hid hFw
          replace hlt3 := Lib.hid hlt3
          clear hpf3 hB3 hqc hag3 hlj
          go_wp2_with fail
          refine hput.out.mono ?_
          rintro e w4 ⟨⟨r, rfl⟩, F4, hag4, hz4, hF4⟩
          clear hput
          go_wp2_with fail
          refine ⟨⟨j + 1, F4, by omega, by go_num, ?_, ?_, ?_⟩, by simp [intOf]; omega⟩
          · rw [hsj.out, ← List.append_assoc]; exact hag4
          · intro g hg
            rcases hF4 g hg with h | h
            · exact hF' g h
            · rw [World.size_alloc] at h; exact .inr (by omega)
          · exact (hz3.alloc _).trans hz4 (fun g hg => hFw.out g hg)
        · obtain rfl : j = m := by omega
          have hpe2 := hpe.out
          rw [hpe2, ← hitk.out] at hag3
          replace hFw := Lib.hid hFw
          clear hpf3 hB3 hjl
          go_wp2_with fail
          refine ⟨⟨k + 1, F', by omega, by go_num, hag3, ?_, ?_⟩, by simp [intOf]; omega⟩
          · intro g hg
            rcases hFw.out g hg with h | h
            · exact hF.out g h
            · have := hFl2.out p (by simp); omega
          · exact hzw2.trans hz3 (fun g hg => .inr (by have := hF.out g hg; have := hp.out; omega))
    · obtain rfl : k = n := by omega
      replace hF := Lib.hid hF
      clear hlt
      go_wp2_with fail
      rw [hPP.out]
      exact ⟨p, F, rfl, hag, fun g hg => by have := hF.out g hg; have := hp.out; omega, hzr⟩
end Go.Proofs.Ytlbkjhfnpjbjlaa
/- Plan: Run, plain part. -/
namespace Go.Proofs.Ytlbkjhfnpjbjlaa
open Go.RowKit Go.Vx
set_option linter.unusedVariables false
set_option linter.unusedSimpArgs false

def mkS (T : List TV) (x : Slot) (f : Int) : List Jn := makeL (T.getD x.2.2.1.toNat default).t x.1 f
def runN (T : List TV) : List Slot → Int → Option (List Jn)
  | [], _ => some []
  | x :: D, f => if mkS T x f = [] then none else (runN T D (f + (mkS T x f).length)).map (mkS T x f ++ ·)
def runE (o : Option (List Jn)) : Int := match o with | none => 1 | some _ => 0
def RunPost (w : World) (o : Option (List Jn)) (e : Ending) (w' : World) : Prop := ∃ (X : List JV) (v : Value) (F : List Nat), e = .returned (.tuple #[v, .int .i64 (runE o)]) ∧ Fix w' 38 6 v X.length (X.flatMap jvEnc) F ∧ jns X = o.getD [] ∧ (∀ x ∈ X, Fix w' 40 3 x.pv x.j.lines.length (x.j.lines.flatMap lnEnc) x.pF) ∧ (∀ g ∈ F, w.heap.size ≤ g) ∧ (∀ x ∈ X, ∀ g ∈ x.pF, w.heap.size ≤ g) ∧ Chg [] w w'
theorem mkS_at (T : List TV) (per rk mm f : Int) (k : Nat) : mkS T (per, rk, (k : Int), mm) f = makeL (T.getD k default).t per f := rfl
theorem puts_mem : ∀ (l : List Item) (st : List Slot × Int) (x : Slot), x ∈ (puts st l).1 → x ∈ st.1 ∨ item x ∈ l
  | [], st, x, h => .inl h
  | y :: l, st, x, h => by
    rw [puts] at h
    rcases puts_mem l _ x h with h | h
    · unfold put1 at h
      split at h
      · rcases List.mem_cons.1 ((ins_perm _ _).mem_iff.1 h) with h | h
        · right; rw [h]; simp [slot, item]
        · exact .inl h
      · exact .inl h
    · exact .inr (by simp [h])
theorem its_mem (T : List TV) (n : Nat) (y : Item) (h : y ∈ itsN T n) : ∃ k : Nat, k < n ∧ y.2.2 = (k : Int) ∧ y.1 ∈ perL (T.getD k default).t ∧ y.2.1 = (T.getD k default).t.rank := by
  unfold itsN at h
  obtain ⟨k, hk, h⟩ := List.mem_flatMap.1 h
  unfold perIt at h
  obtain ⟨q, hq, rfl⟩ := List.mem_map.1 h
  exact ⟨k, List.mem_range.1 hk, rfl, hq, rfl⟩
theorem slots_in (T : List TV) (n : Nat) : ∀ x ∈ (puts ([], 0) (itsN T n)).1, ∃ k : Nat, k < n ∧ x.2.2.1 = (k : Int) := fun x hx => by
  rcases puts_mem _ _ _ hx with h | h
  · cases h
  · obtain ⟨k, hk, h, -⟩ := its_mem T n _ h
    exact ⟨k, hk, h⟩
theorem makeL_len (t : Tp) (per id : Int) : (makeL t per id).length ≤ 2 := by
  have h : (rawL t per id).length ≤ 2 := by
    unfold rawL accL
    split
    · split
      · simp
      · split <;> simp
    · simp
  unfold makeL
  repeat' split
  all_goals first | exact h | simp
def hdS (D : List Slot) : Slot := D.headD (0, 0, 0, 0)
def isS (D : List Slot) : Bool := !D.isEmpty
theorem ag_nxt {w : World} {p : Nat} {D : List Slot} {m : Int} {F : List Nat} (h : AgAt w p D m F) (hS : D.length < 999999) :
    Calls Try.prog 32 #[.pointer (some ⟨p, 0, none⟩)] w fun e w' => e = .returned (.tuple #[.agg #[.int .i64 (hdS D).1, .int .i64 (hdS D).2.1, .int .i64 (hdS D).2.2.1], .bool (isS D)]) ∧ AgAt w' p D.tail m F ∧ Chg (p :: F) w w' := by
  cases D with
  | nil => exact (ag_next_none h).mono fun e w' ⟨h1, h2⟩ => ⟨h1, h.chg h2 (by simp), h2.mono (by simp)⟩
  | cons x D => exact ag_next (S := D) h (by rw [List.length_cons] at hS; omega)
theorem AgAt.lenAt {w : World} {p : Nat} {S : List Slot} {m : Int} {F : List Nat} (h : AgAt w p S m F) : Go.Proofs.Ytlbkjhfnpjbjlaa.lenAt w ⟨p, 0, none⟩ = S.length := by
  obtain ⟨A, c, h1, -⟩ := h.cells
  exact lenAt_of h1
theorem journalInfo : (Try.prog.info? 38).map (fun i => (i.zero, i.size, i.bytes)) = some (some zeroJV, 6, 72) := by kernel_rfl
theorem jv_one {w : World} {X : List JV} {e : TypeId} (h : ∀ x ∈ X, Fix w e 3 x.pv x.j.lines.length (x.j.lines.flatMap lnEnc) x.pF) : ∀ u ∈ X.flatMap jvEnc, u.oneCell' = true := fun u hu => by
  obtain ⟨x, hx, hu⟩ := List.mem_flatMap.1 hu
  obtain ⟨A, c, hp, -⟩ := h x hx
  simp only [jvEnc, List.mem_cons, List.not_mem_nil, or_false] at hu
  rcases hu with rfl | rfl | rfl | rfl | rfl | rfl <;> first | rfl | (rw [hp]; rfl)
/-- The journals so far. -/
def Outs (w : World) (b : Nat) (v : Value) (X : List JV) (F : List Nat) : Prop := Fix w 38 6 v X.length (X.flatMap jvEnc) F ∧ (∀ x ∈ X, Fix w 40 3 x.pv x.j.lines.length (x.j.lines.flatMap lnEnc) x.pF) ∧ (∀ g ∈ F, b ≤ g) ∧ (∀ x ∈ X, ∀ g ∈ x.pF, b ≤ g ∧ g ∉ F)
theorem Outs.nil (w : World) (b : Nat) : Outs w b (.slice none 0 0) [] [] := ⟨Fix.nil _ _ _, by simp, by simp, by simp⟩
theorem Outs.chg {w w' : World} {b : Nat} {v : Value} {X : List JV} {F G : List Nat} (h : Outs w b v X F) (k : Chg G w w') (hG : ∀ g ∈ G, g < b) : Outs w' b v X F :=
  ⟨h.1.chg k (fun g hg hh => by have := h.2.2.1 g hg; have := hG g hh; omega), fun x hx => (h.2.1 x hx).chg k (fun g hg hh => by have := (h.2.2.2 x hx g hg).1; have := hG g hh; omega), h.2.2⟩
theorem Outs.chg2 {w w' : World} {b : Nat} {v : Value} {X : List JV} {F G : List Nat} (h : Outs w b v X F) (k : Chg G w w') (hF : ∀ g ∈ F, g ∉ G) (hp : ∀ x ∈ X, ∀ g ∈ x.pF, g ∉ G) : Outs w' b v X F :=
  ⟨h.1.chg k hF, fun x hx => (h.2.1 x hx).chg k (hp x hx), h.2.2⟩
/-- Some more journals. -/
theorem Outs.app {w w' : World} {b : Nat} {v v' : Value} {X Y : List JV} {F F' : List Nat} (h : Outs w b v X F) (hY : ∀ x ∈ Y, Fix w 40 3 x.pv x.j.lines.length (x.j.lines.flatMap lnEnc) x.pF) (hYF : ∀ x ∈ Y, ∀ g ∈ x.pF, b ≤ g ∧ g ∉ F) (hb : b ≤ w.heap.size) (ha : Appended w w' 38 6 v v' X.length Y.length (X.flatMap jvEnc) (Y.flatMap jvEnc) F F') : Outs w' b v' (X ++ Y) F' := by
  have hall : ∀ x ∈ X ++ Y, Fix w 40 3 x.pv x.j.lines.length (x.j.lines.flatMap lnEnc) x.pF ∧ ∀ g ∈ x.pF, b ≤ g ∧ g ∉ F := fun x hx => by
    rcases List.mem_append.1 hx with hx | hx
    · exact ⟨h.2.1 x hx, h.2.2.2 x hx⟩
    · exact ⟨hY x hx, hYF x hx⟩
  refine ⟨by rw [List.length_append, List.flatMap_append]; exact ha.fix, fun x hx => (hall x hx).1.chg ha.chg (fun g hg => ((hall x hx).2 g hg).2), fun g hg => ?_, fun x hx g hg => ⟨((hall x hx).2 g hg).1, fun hh => ?_⟩⟩
  · rcases ha.foot with hf | hf
    · exact h.2.2.1 g (hf ▸ hg)
    · rw [hf, List.mem_singleton] at hg; omega
  · rcases ha.foot with hf | hf
    · exact ((hall x hx).2 g hg).2 (hf ▸ hh)
    · rw [hf, List.mem_singleton] at hh
      have := (hall x hx).1.lt g hg
      omega
def cntB (v : Value) : Nat := match v with | .bool true => 1 | _ => 0
end Go.Proofs.Ytlbkjhfnpjbjlaa
/- Plan: Run. -/
namespace Go.Proofs.Ytlbkjhfnpjbjlaa
open Go.RowKit Go.Vx
set_option linter.unusedVariables false
set_option linter.unusedSimpArgs false

set_option maxRecDepth 100000 in
set_option maxHeartbeats 8000000 in
theorem pl_run {T : List TV} {A : Option Addr} {n c : Nat} {w : World} (h : TRow w A n T) (hn : n ≤ 50) (first : Int) (h1 : -1000000000000 ≤ first) (h2 : first ≤ 2000000000000) :
    Calls Try.prog 15 #[.int .i64 first, .slice A n c] w (RunPost w (runN T (puts ([], 0) (itsN T n)).1 first)) := by
  obtain ⟨i0, hi0, z0, z1, z2⟩ := info_parts journalInfo
  obtain ⟨PP, hPP⟩ : ∃ PP, PP = RunPost w (runN T (puts ([], 0) (itsN T n)).1 first) := ⟨_, rfl⟩
  rw [← hPP]
  have hit := fun W (z : Chg [] w W) => pl_items (c := c) (h.keep z) hn
  have hSl : (puts ([], 0) (itsN T n)).1.length ≤ 1000 := puts_few _ _ (by simp)
  have hSi := slots_in T n
  obtain ⟨S, hS⟩ : ∃ S, (puts ([], 0) (itsN T n)).1 = S := ⟨_, rfl⟩
  obtain ⟨m, hm⟩ : ∃ m, (puts ([], 0) (itsN T n)).2 = m := ⟨_, rfl⟩
  unfold AgIs at hit
  rw [hS] at hPP hit hSl hSi
  rw [hm] at hit
  clear hS hm
  have hmk : ∀ W, Chg [] w W → ∀ (k : Nat) (per f : Int), k < n → ∃ ad, A = some ad ∧ W.cell? (ad.add (k * 12)) = some (.int .i64 (T.getD k default).t.kind) ∧
      (∀ j u, 0 < j → j < 12 → (tvEnc (T.getD k default))[j]? = some u → W.cell? ⟨(ad.add (k * 12)).block, (ad.add (k * 12)).off + j, none⟩ = some u) ∧
      ∀ W2, Chg [] w W2 → Calls Try.prog 11 #[tpV (T.getD k default).t (.slice (T.getD k default).tA (T.getD k default).t.tg.length (T.getD k default).tc) (.slice (T.getD k default).wA (T.getD k default).t.wt.length (T.getD k default).wc), .int .i64 per, .int .i64 f] W2 (MkPost W2 (makeL (T.getD k default).t per f)) := by
    intro W z k per f hx
    obtain ⟨ad, hA, -, c0, hcj⟩ := (h.keep z).cells hx
    refine ⟨ad, hA, c0, hcj, fun W2 z2 => ?_⟩
    obtain ⟨_, _, hk2, -⟩ := (h.keep z2).cells hx
    exact pl_make _ per f hk2.1 hk2.2.1 hk2.2.2.1 hk2.2.2.2
  replace hPP := Lib.hid hPP
  replace hmk := Lib.hid hmk
  replace hSi := Lib.hid hSi
  clear h
  go_enter Try.func15, Try.ntmps15
  go_wp2_with fail
  refine (hit _ (Chg.refl _ _)).mono ?_
  rintro e w2 ⟨p, F, rfl, hag, hF, hz2⟩
  clear hit
  have hnx := ag_nxt hag (by omega)
  have hag0 := Lib.hid hag
  clear hag
  go_wp2_with fail
  refine hnx.mono ?_
  rintro e w3 ⟨rfl, hag, hz3⟩
  clear hnx
  have hFl : ∀ g ∈ p :: F, g < w2.heap.size := AgAt.lt hag0.out
  replace hFl := Lib.hid hFl
  replace hF := Lib.hid hF
  have hB3 := Blk.new w3 62 #[.int .i64 (hdS S).1, .int .i64 (hdS S).2.1, .int .i64 (hdS S).2.2.1]
  have hag4 := hag.chg ((Chg.refl [] w3).alloc (.cells #[.int .i64 (hdS S).1, .int .i64 (hdS S).2.1, .int .i64 (hdS S).2.2.1] 62)) (by simp)
  have hz4 := hz3.alloc (.cells #[.int .i64 (hdS S).1, .int .i64 (hdS S).2.1, .int .i64 (hdS S).2.2.1] 62)
  have hs3 := hz3.size
  clear hag hag0
  go_wp2_with fail
  go_loopw [0, 6, 8, 9] (fun fv ov tv bv wr => ∃ (D : List Slot) (X : List JV) (xF : List Nat) (f : Int) (tb : Nat), fv = .int .i64 f ∧ tv = .pointer (some ⟨tb, 0, none⟩) ∧ bv = .bool (isS D) ∧ Outs wr w2.heap.size ov X xF ∧ AgAt wr p D.tail m F ∧ Blk wr tb 62 #[.int .i64 (hdS D).1, .int .i64 (hdS D).2.1, .int .i64 (hdS D).2.2.1] ∧ w2.heap.size ≤ tb ∧
    Hid (runN T S first = (runN T D f).map (jns X ++ ·)) ∧ Hid (∀ x ∈ D, ∃ k : Nat, k < n ∧ x.2.2.1 = (k : Int)) ∧ D.length ≤ S.length ∧ X.length + 2 * D.length ≤ 2 * S.length ∧ first ≤ f ∧ f + 2 * D.length ≤ first + 2 * S.length ∧ Chg (p :: F) w2 wr) (fun _ _ _ bv wr => lenAt wr ⟨p, 0, none⟩ + cntB bv)
  case atStart =>
    refine ⟨S, [], [], first, w3.heap.size, rfl, rfl, rfl, Outs.nil _ _, hag4, hB3, hs3, Lib.hid ?_, hSi, Nat.le_refl _, by simp, by omega, by omega, hz4⟩
    cases runN T S first <;> simp [jns]
  case round =>
    obtain ⟨D, X, xF, f, tb, rfl, rfl, rfl, hout, hag, hB, htb, hrun, hD, hDl, hXl, hf1, hf2, hzr⟩ := hrel
    have hzw := hz2.trans hzr (fun g hg => .inr (hF.out g hg))
    cases D with
    | nil =>
      have hb : isS [] = false := rfl
      rw [hb]
      have ho : Hid (runN T S first = some (jns X)) := Lib.hid (by rw [hrun.out]; simp [runN])
      have hb2 := hz2.size
      replace hb2 := Lib.hid hb2
      replace hout := Lib.hid hout
      clear hB hag hrun hD hXl hDl
      go_wp2_with fail
      rw [hPP.out]
      refine ⟨X, _, xF, by rw [ho.out]; rfl, hout.out.1, by rw [ho.out]; rfl, hout.out.2.1, fun g hg => ?_, fun x hx g hg => ?_, hzw⟩
      · have := hout.out.2.2.1 g hg; have := hb2.out; omega
      · have := (hout.out.2.2.2 x hx g hg).1; have := hb2.out; omega
    | cons x D =>
      obtain ⟨k, hk, hxk⟩ := hD.out x (by simp)
      obtain ⟨per, rk, k', mm⟩ := x
      dsimp only at hxk
      subst hxk
      have hb : isS ((per, rk, (k : Int), mm) :: D) = true := rfl
      have hh : hdS ((per, rk, (k : Int), mm) :: D) = (per, rk, (k : Int), mm) := rfl
      rw [hh] at hB
      rw [List.tail_cons] at hag
      rw [hb]
      obtain ⟨ad, rfl, c0, hcj, hmk2⟩ := hmk.out wr hzw k per f hk
      have hrn : runN T ((per, rk, (k : Int), mm) :: D) f = if makeL (T.getD k default).t per f = [] then none else (runN T D (f + (makeL (T.getD k default).t per f).length)).map (makeL (T.getD k default).t per f ++ ·) := rfl
      have hml := makeL_len (T.getD k default).t per f
      have hkl : (k : Int) < (n : Int) := by omega
      have b0 := hB.cell 0
      have b1 := hB.cell 1
      have b2 := hB.cell 2
      dsimp only at b0 b1 b2
      rw [List.length_cons] at hDl hXl hf2
      have hmS := (hag.lenAt)
      have hD2 := Lib.hid (fun y (hy : y ∈ D) => hD.out y (by simp [hy]))
      generalize makeL (T.getD k default).t per f = ML at *
      generalize T.getD k default = x at *
      have c1 := hcj 1 _ (by omega) (by omega) rfl
      have c2 := hcj 2 _ (by omega) (by omega) rfl
      have c3 := hcj 3 _ (by omega) (by omega) rfl
      have c4 := hcj 4 _ (by omega) (by omega) rfl
      have c5 := hcj 5 _ (by omega) (by omega) rfl
      have c6 := hcj 6 _ (by omega) (by omega) rfl
      have c7 := hcj 7 _ (by omega) (by omega) rfl
      have c8 := hcj 8 _ (by omega) (by omega) rfl
      have c9 := hcj 9 _ (by omega) (by omega) rfl
      have c10 := hcj 10 _ (by omega) (by omega) rfl
      have c11 := hcj 11 _ (by omega) (by omega) rfl
      have hmd := hmk2 wr.drew hzw.drew
      clear hcj hmk2 hD hb hh
      obtain ⟨t, tA, tc, wA, wc⟩ := x
      dsimp only at *
      obtain ⟨kind, id', ent, frm, til, every, amt, deb, cred, tg, wt, rank⟩ := t
      unfold tpV at hmd
      dsimp only at *
      generalize tg.length = tn at *
      generalize wt.length = wn at *
      replace hmd := Lib.hid hmd
      replace hrun := Lib.hid hrun
      replace hrn := Lib.hid hrn
      replace hout := Lib.hid hout
      replace hag := Lib.hid hag
      replace hB := Lib.hid hB
      replace hDl := Lib.hid hDl
      replace hXl := Lib.hid hXl
      replace hf1 := Lib.hid hf1
      replace hf2 := Lib.hid hf2
      replace hml := Lib.hid hml
      replace htb := Lib.hid htb
      replace hmS := Lib.hid hmS
      have a0 : wr.drew.cell? (ad.add (k * 12)) = _ := c0
      have a1 : wr.drew.cell? ⟨(ad.add (k * 12)).block, (ad.add (k * 12)).off + 1, none⟩ = _ := c1
      have a2 : wr.drew.cell? ⟨(ad.add (k * 12)).block, (ad.add (k * 12)).off + 2, none⟩ = _ := c2
      have a3 : wr.drew.cell? ⟨(ad.add (k * 12)).block, (ad.add (k * 12)).off + 3, none⟩ = _ := c3
      have a4 : wr.drew.cell? ⟨(ad.add (k * 12)).block, (ad.add (k * 12)).off + 4, none⟩ = _ := c4
      have a5 : wr.drew.cell? ⟨(ad.add (k * 12)).block, (ad.add (k * 12)).off + 5, none⟩ = _ := c5
      have a6 : wr.drew.cell? ⟨(ad.add (k * 12)).block, (ad.add (k * 12)).off + 6, none⟩ = _ := c6
      have a7 : wr.drew.cell? ⟨(ad.add (k * 12)).block, (ad.add (k * 12)).off + 7, none⟩ = _ := c7
      have a8 : wr.drew.cell? ⟨(ad.add (k * 12)).block, (ad.add (k * 12)).off + 8, none⟩ = _ := c8
      have a9 : wr.drew.cell? ⟨(ad.add (k * 12)).block, (ad.add (k * 12)).off + 9, none⟩ = _ := c9
      have a10 : wr.drew.cell? ⟨(ad.add (k * 12)).block, (ad.add (k * 12)).off + 10, none⟩ = _ := c10
      have a11 : wr.drew.cell? ⟨(ad.add (k * 12)).block, (ad.add (k * 12)).off + 11, none⟩ = _ := c11
      have e0 : wr.drew.cell? ⟨tb, 0, none⟩ = _ := b0
      have e2 : wr.drew.cell? ⟨tb, 2, none⟩ = _ := b2
      go_wp2_with fail
      go_region_law (go_simp; go_at_call 11; refine hmd.out.mono ?_; rintro e' w5 ⟨Y, yv, yF, rfl, hy, hyj, hyl, hyF, hypF, hz5⟩)
      all_goals
        have hz15 := (Chg.refl [] wr).drew.trans' hz5
        have hout5 := hout.out.chg hz15 (by simp)
        have hB5 := hB.out.chg hz15 (by simp)
        have hag5 := hag.out.chg hz15 (by simp)
        have htbF : tb ∉ xF := hout5.1.ne_blk hB5 (by decide)
        have hsr := hzr.size
        have hs5 := hz15.size
        have hYF : ∀ x ∈ Y, ∀ g ∈ x.pF, w2.heap.size ≤ g ∧ g ∉ xF := fun x hx g hg => by
          have h9 : wr.heap.size ≤ g := hypF x hx g hg
          exact ⟨by omega, fun hh => by have := hout.out.1.lt g hh; omega⟩
        have hYn : Y.length = ML.length := by rw [← hyj, List.length_map]
        obtain ⟨oA, oc, rfl, -⟩ := _root_.id hout5.1
        obtain ⟨yA, yc, rfl, -⟩ := _root_.id hy
        replace hYF := Lib.hid hYF
        replace hyl := Lib.hid hyl
        replace hout5 := Lib.hid hout5
        replace hB5 := Lib.hid hB5
        replace hag5 := Lib.hid hag5
        replace hy := Lib.hid hy
        replace htbF := Lib.hid htbF
        clear c0 c1 c2 c3 c4 c5 c6 c7 c8 c9 c10 c11 a0 a1 a2 a3 a4 a5 a6 a7 a8 a9 a10 a11 b0 b1 b2 e0 e2 hyF hypF hmd
        by_cases h0 : ML = []
        · rw [if_pos h0]
          have ho : Hid (runN T S first = none) := Lib.hid (by rw [hrun.out, hrn.out, if_pos h0]; rfl)
          clear h0
          go_wp2_with fail
          rw [hPP.out]
          exact ⟨[], _, [], by rw [ho.out]; rfl, Fix.nil _ _ _, by rw [ho.out]; rfl, by simp, by simp, by simp, hzw.trans' hz15⟩
        · rw [if_neg h0]
          have hYl : Y.length ≤ 2 := by have := hml.out; omega
          have hXn : X.length + Y.length ≤ 2000 := by have := hXl.out; omega
          have hfw : IntKind.i64.wrap (f + (Y.length : Int)) = f + (Y.length : Int) := by have := hf1.out; have := hf2.out; rw [IntKind.wrap_i64]; omega
          have hone := Lib.hid (jv_one hyl.out)
          have hrun2 : Hid (runN T S first = (runN T D (f + (Y.length : Int))).map (jns (X ++ Y) ++ ·)) := Lib.hid (by
            rw [hrun.out, hrn.out, if_neg h0, hYn]
            unfold jns
            rw [List.map_append]
            unfold jns at hyj
            rw [hyj]
            cases runN T D (f + (ML.length : Int)) <;> simp)
          have hfx5 := Lib.hid hout5.out.1
          generalize hn1 : X.length = xn at *
          generalize hn2 : Y.length = yn at *
          replace hn1 := Lib.hid hn1
          replace hn2 := Lib.hid hn2
          replace h0 := Lib.hid h0
          replace hYn := Lib.hid hYn
          go_wp2_with (
            at_builtin
            refine wpList_append_fix rfl (.tmp 40) (.tmp 41) 30 rfl Try.underlying30 hi0 z0 z1 z2 rfl (by omega) rfl hfx5.out rfl (Fix.src hy.out) hone.out (by unfold maxLen; omega) (by omega) ?_
            intro v6 w6 F6 hA6
            have hA6' : Appended w5 w6 38 6 (.slice oA xn oc) v6 X.length Y.length (X.flatMap jvEnc) (Y.flatMap jvEnc) xF F6 := by rw [hn1.out, hn2.out]; exact hA6
            clear hA6
            have hs6 := hA6'.chg.size
            have hout6 := hout5.out.app hyl.out hYF.out (by omega) hA6'
            have hB6 := hB5.out.chg hA6'.chg htbF.out
            have hag6 := hag5.out.chg hA6'.chg (fun g hg hh => by have := hFl.out g hg; have := hout5.out.2.2.1 g hh; omega)
            have hz26 := (hzr.trans hz15 (by simp)).trans hA6'.chg (fun g hg => .inr (hout5.out.2.2.1 g hg))
            have g0 := hB6.cell 0
            have g1 := hB6.cell 1
            have g2 := hB6.cell 2
            clear hA6'
            replace hout6 := Lib.hid hout6
            replace hB6 := Lib.hid hB6
            replace hag6 := Lib.hid hag6
            replace hz26 := Lib.hid hz26)
          have hnx7 := ag_nxt (hag6.out.chg ((Chg.refl [] w6).alloc (.cells #[.int .i64 per, .int .i64 rk, .int .i64 (k : Int)] 62)) (by simp)) (by have := hDl.out; omega)
          refine hnx7.mono ?_
          rintro e w7 ⟨rfl, hag7, hz7⟩
          clear hnx7
          have hBn : Blk w7 w6.heap.size 62 #[.int .i64 per, .int .i64 rk, .int .i64 (k : Int)] := (Blk.new w6 _ _).chg hz7 (fun hh => by have := hFl.out _ hh; omega)
          have n0 := hBn.cell 0
          have n1 := hBn.cell 1
          have n2 := hBn.cell 2
          have r0 := hBn.frozen 0
          have r1 := hBn.frozen 1
          have r2 := hBn.frozen 2
          replace hBn := Lib.hid hBn
          replace hag7 := Lib.hid hag7
          replace hz7 := Lib.hid hz7
          clear g0 g1 g2
          go_wp2_with fail
          have hch : Chg [w6.heap.size] w7 (((w7.setCell ⟨w6.heap.size, 0, none⟩ (.int .i64 (hdS D).1)).setCell ⟨w6.heap.size, 1, none⟩ (.int .i64 (hdS D).2.1)).setCell ⟨w6.heap.size, 2, none⟩ (.int .i64 (hdS D).2.2.1)) := (((Chg.refl _ _).setCell (by simp) _).setCell (by simp) _).setCell (by simp) _
          have hbb : w2.heap.size ≤ w6.heap.size := by omega
          have hag8 := hag7.out.chg hch (fun g hg hh => by have := hFl.out g hg; rw [List.mem_singleton.1 hh] at this; omega)
          have hm8 := hag8.lenAt
          refine ⟨⟨D, X ++ Y, F6, f + (yn : Int), w6.heap.size, rfl, rfl, rfl, ?_, hag8, ?_, hbb, hrun2, hD2, by have := hDl.out; omega, by rw [List.length_append, hn1.out, hn2.out]; have := hXl.out; omega, by have := hf1.out; omega, by have := hf2.out; push_cast at this; omega, ?_⟩, ?_⟩
          · refine Outs.chg2 ((hout6.out.chg ((Chg.refl [] w6).alloc _) (by simp)).chg hz7.out (fun g hg => hFl.out g hg)) hch (fun g hg hh => ?_) (fun x hx g hg hh => ?_)
            · have := hout6.out.1.lt g hg; have := List.mem_singleton.1 hh; omega
            · have := (hout6.out.2.1 x hx).lt g hg; have := List.mem_singleton.1 hh; omega
          · have := ((hBn.out.set_ 0 (.int .i64 (hdS D).1)).set_ 1 (.int .i64 (hdS D).2.1)).set_ 2 (.int .i64 (hdS D).2.2.1)
            simpa using this
          · exact ((hz26.out.alloc _).trans' hz7.out).trans hch (fun g hg => .inr (by rw [List.mem_singleton.1 hg]; exact hbb))
          · rw [hm8, hmS.out]
            cases D <;> simp [cntB, isS]
end Go.Proofs.Ytlbkjhfnpjbjlaa
/- Plan: the law's Ref. -/
namespace Go.Proofs.Ytlbkjhfnpjbjlaa
open Go.RowKit Go.Vx
set_option linter.unusedVariables false
set_option linter.unusedSimpArgs false

set_option maxRecDepth 100000 in
set_option maxHeartbeats 4000000 in
theorem pl_ref (t : Tp) (tA wA : Option Addr) (tn wn tc wc : Nat) (w : World) : Calls Try.prog 9 #[tpV t (.slice tA tn tc) (.slice wA wn wc)] w fun e w' => e = .returned (tpV t (.slice tA tn tc) (.slice wA wn wc)) ∧ Chg [] w w' := by
  obtain ⟨kind, id, ent, frm, til, every, amt, deb, cred, tg, wt, rank⟩ := t
  unfold tpV
  dsimp only
  have hz := ((Chg.refl [] w).alloc (.cells #[.int .i64 kind, .int .i64 id, .int .i64 ent, .int .i64 frm, .int .i64 til, .int .i64 every, .int .i64 amt, .int .i64 deb, .int .i64 cred, .slice tA tn tc, .slice wA wn wc, .int .i64 rank] 24)).alloc (.cells #[.int .i64 kind, .int .i64 id, .int .i64 ent, .int .i64 frm, .int .i64 til, .int .i64 every, .int .i64 amt, .int .i64 deb, .int .i64 cred, .slice tA tn tc, .slice wA wn wc, .int .i64 rank] 27)
  go_enter Try.func9, Try.ntmps9
  go_wp2_with fail
  refine bodyPost_ret (v := .agg #[.int .i64 kind, .int .i64 id, .int .i64 ent, .int .i64 frm, .int .i64 til, .int .i64 every, .int .i64 amt, .int .i64 deb, .int .i64 cred, .slice tA tn tc, .slice wA wn wc, .int .i64 rank]) (by rw [results_cell1 rfl]; go_simp) rfl ?_
  exact ⟨rfl, hz⟩
end Go.Proofs.Ytlbkjhfnpjbjlaa
