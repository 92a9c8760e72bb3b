/- Parts of the proofs of Plan: contracts of the functions that they reach, in their order. -/
import Derived.Test.YtlbkjhfnpjbjlaaMPlan2
import Derived.Test.YtlbkjhfnpjbjlaaProg
import Derived.Laws.ResultCell
/- container/heap over one kind of heap: push, pop, init. -/
namespace Go.Proofs.Ytlbkjhfnpjbjlaa
open Go.RowKit Go.Vx
set_option linter.unusedVariables false
set_option linter.unusedSimpArgs false

section
variable {w : World} {p o : Nat} {t : TypeId} {cs : Array Value} {l : List Cut} {F : List Nat}
theorem ct_nil (a : Addr) (w : World) : (nilAhead 249 120 (.pointer (some a)) "Len").run Try.prog w = .ok (some false) w ∧ (nilAhead 249 120 (.pointer (some a)) "Less").run Try.prog w = .ok (some false) w ∧ (nilAhead 249 120 (.pointer (some a)) "Swap").run Try.prog w = .ok (some false) w ∧
    (nilAhead 249 120 (.pointer (some a)) "Push").run Try.prog w = .ok (some false) w ∧ (nilAhead 249 120 (.pointer (some a)) "Pop").run Try.prog w = .ok (some false) w := by
  refine ⟨?_, ?_, ?_, ?_, ?_⟩ <;> kernel_rfl
theorem ct_mpush (a : Addr) (w : World) : (method 249 120 (.pointer (some a)) "Push").run Try.prog w = .ok (97, .pointer (some a)) w := by kernel_rfl
theorem ct_mpop (a : Addr) (w : World) : (method 249 120 (.pointer (some a)) "Pop").run Try.prog w = .ok (96, .pointer (some a)) w := by kernel_rfl
theorem ct_mlen {p o : Nat} {w : World} {v : Value} (h : w.cell? ⟨p, o, none⟩ = some v) : (method 249 120 (.pointer (some ⟨p, o, none⟩)) "Len").run Try.prog w = .ok (93, v) w := by
  have e : (method 249 120 (.pointer (some ⟨p, o, none⟩)) "Len").run Try.prog w = ((load ⟨p, o, none⟩) >>= fun v => pure (93, v)).run Try.prog w := by kernel_rfl
  rw [e]
  simp [go_sem, h]
theorem ct_mless {p o : Nat} {w : World} {v : Value} (h : w.cell? ⟨p, o, none⟩ = some v) : (method 249 120 (.pointer (some ⟨p, o, none⟩)) "Less").run Try.prog w = .ok (94, v) w := by
  have e : (method 249 120 (.pointer (some ⟨p, o, none⟩)) "Less").run Try.prog w = ((load ⟨p, o, none⟩) >>= fun v => pure (94, v)).run Try.prog w := by kernel_rfl
  rw [e]
  simp [go_sem, h]
theorem ct_mswap {p o : Nat} {w : World} {v : Value} (h : w.cell? ⟨p, o, none⟩ = some v) : (method 249 120 (.pointer (some ⟨p, o, none⟩)) "Swap").run Try.prog w = .ok (95, v) w := by
  have e : (method 249 120 (.pointer (some ⟨p, o, none⟩)) "Swap").run Try.prog w = ((load ⟨p, o, none⟩) >>= fun v => pure (95, v)).run Try.prog w := by kernel_rfl
  rw [e]
  simp [go_sem, h]

theorem ct_put {w w' : World} {p o : Nat} {t : TypeId} {cs : Array Value} {l' : List Cut} {F : List Nat} {v : Value} (h : Blk w p t (cs.setIfInBounds o v)) (ho : o < cs.size) (hne : 122 ≠ t) (h2 : Fix w' 122 2 v l'.length (l'.flatMap cutEnc) F) (hw : Chg F w w') (hp : p ∉ F) : HC w' p o t cs l' F :=
  ⟨v, h.chg hw hp, ho, h2, hne⟩
set_option maxHeartbeats 4000000 in
/-- up. -/
theorem ct_up (h : HC w p o t cs l F) (j : Nat) (hj : j < l.length) (hl : l.length ≤ 1000000) :
    Calls Try.prog 59 #[.iface 120 (.pointer (some ⟨p, o, none⟩)), .int .i64 j] w fun e w' => e = .returned (.tuple #[]) ∧ HC w' p o t cs (upL cutLt (l.length + 1) l j) F ∧ Chg F w w' := by
  obtain ⟨-, nLess, nSwap, -, -⟩ := ct_nil ⟨p, o, none⟩ w
  have nLess := fun w => (ct_nil ⟨p, o, none⟩ w).2.1
  have nSwap := fun w => (ct_nil ⟨p, o, none⟩ w).2.2.1
  have hpF := h.ne
  obtain ⟨R, hR⟩ : ∃ R, R = upL cutLt (l.length + 1) l j := ⟨_, rfl⟩
  rw [← hR]
  go_enter Try.func59, Try.ntmps59
  go_wp2_with fail
  go_loopw [1] (fun i wr => ∃ (k : Nat) (l' : List Cut) (f : Nat), i = .int .i64 k ∧ k < l'.length ∧ l'.length = l.length ∧ k < f ∧ upL cutLt f l' k = R ∧ HC wr p o t cs l' F ∧ Chg F w wr) (fun i _ => (intOf i).toNat)
  case atStart => exact ⟨j, l, l.length + 1, rfl, hj, rfl, by omega, hR.symm, h, Chg.refl _ _⟩
  case round =>
    clear nLess nSwap
    have nLess := fun w => (ct_nil ⟨p, o, none⟩ w).2.1
    have nSwap := fun w => (ct_nil ⟨p, o, none⟩ w).2.2.1
    obtain ⟨k, l', f, rfl, hk, hll, hkf, hup, hr, hw⟩ := hrel
    have hl2 : l'.length ≤ 1000000 := by omega
    replace hll := Lib.hid hll
    obtain ⟨A, c, c0, f0, hb, hf, h1, h2⟩ := hr.cell
    obtain ⟨v, -, ho, -, hne⟩ := hr
    have mLess := ct_mless c0
    obtain ⟨f, rfl⟩ : ∃ f', f = f' + 1 := ⟨f - 1, by omega⟩
    simp only [upL] at hup
    by_cases h0 : k = 0
    · subst h0
      rw [if_pos rfl] at hup
      go_wp2_with fail
      go_end0
      refine ⟨rfl, ?_, hw⟩
      rw [← hup]
      exact ct_put hb ho hne hf (Chg.refl _ _) hpF
    · rw [if_neg h0] at hup
      go_upto_region 1 with fail
      rw [show ((k : Int) - 1) / 2 = (((k - 1) / 2 : Nat) : Int) by omega]
      have hik : (k - 1) / 2 < k := by omega
      generalize (k - 1) / 2 = i at hup hik ⊢
      have hb1 : ((i : Int) == (k : Int)) = false := by simp; omega
      go_wp2_with fail
      refine (ct_less hf hk (by omega) hl2).mono ?_
      intro e w1 hpost
      obtain ⟨he, hw1⟩ := hpost
      subst he
      have mSwap := ct_mswap (p := p) (o := o) (w := w1) (v := .slice A l'.length c) ((hw1.cell (World.block_lt_of_cell? _ _ c0) (by simp)).trans c0)
      have hb2 := hb.chg hw1 (by simp)
      have hf2 := hf.chg hw1 (by simp)
      cases hlt : cutLt (nth l' k) (nth l' i) with
      | false =>
        rw [hlt] at hup
        rw [if_neg (by simp)] at hup
        go_wp2_with fail
        go_end0
        refine ⟨rfl, ?_, hw.trans hw1 (by simp)⟩
        rw [← hup]
        exact ct_put hb2 ho hne hf2 (Chg.refl _ _) hpF
      | true =>
        rw [hlt, if_pos rfl] at hup
        have hil : i < l'.length := by omega
        have hs := ct_swap hf2 hil hk hl2
        go_wp2_with fail
        refine hs.mono ?_
        rintro e w2 ⟨rfl, hf3, hw2⟩
        go_wp2_with fail
        go_roundw
        case measure => simp [intOf]; omega
        case rel => exact ⟨i, swapAt l' i k, f, by go_num, by rw [length_swap]; exact hil, by rw [length_swap]; exact hll.out, by omega, hup, ct_put hb2 ho hne hf3 hw2 hpF, (hw.trans hw1 (by simp)).trans' hw2⟩
set_option maxHeartbeats 4000000 in
/-- down. -/
theorem ct_down (h : HC w p o t cs l F) (i n : Nat) (hn : n ≤ l.length) (hin : i < n ∨ (n = 0 ∧ i = 0)) (hl : l.length ≤ 1000000) :
    Calls Try.prog 51 #[.iface 120 (.pointer (some ⟨p, o, none⟩)), .int .i64 i, .int .i64 n] w fun e w' => (∃ b, e = .returned (.bool b)) ∧ HC w' p o t cs (downL cutLt n l i n) F ∧ Chg F w w' := by
  have hpF := h.ne
  obtain ⟨R, hR⟩ : ∃ R, R = downL cutLt n l i n := ⟨_, rfl⟩
  suffices hs : Calls Try.prog 51 #[.iface 120 (.pointer (some ⟨p, o, none⟩)), .int .i64 i, .int .i64 n] w fun e w' => (∃ b, e = .returned (.bool b)) ∧ HC w' p o t cs R F ∧ Chg F w w' from
    hs.mono fun e w' ⟨h1, h2, h3⟩ => ⟨h1, hR ▸ h2, h3⟩
  have nLess := fun w => (ct_nil ⟨p, o, none⟩ w).2.1
  have nSwap := fun w => (ct_nil ⟨p, o, none⟩ w).2.2.1
  go_enter Try.func51, Try.ntmps51
  go_wp2_with fail
  go_loopw [7] (fun iv wr => ∃ (k : Nat) (l' : List Cut) (f : Nat), iv = .int .i64 k ∧ (k < n ∨ (n = 0 ∧ k = 0)) ∧ l'.length = l.length ∧ n - k ≤ f ∧ downL cutLt f l' k n = R ∧ HC wr p o t cs l' F ∧ Chg F w wr) (fun iv _ => n - (intOf iv).toNat)
  case atStart => exact ⟨i, l, n, rfl, hin, rfl, by omega, hR.symm, h, Chg.refl _ _⟩
  case round =>
    obtain ⟨k, l', f, rfl, hk, hll, hkf, hup, hr, hw⟩ := hrel
    have hl2 : l'.length ≤ 1000000 := by omega
    have hn2 : n ≤ l'.length := by omega
    replace hll := Lib.hid hll
    obtain ⟨A, c, c0, f0, hb, hf, h1, h2⟩ := hr.cell
    obtain ⟨v, -, ho, -, hne⟩ := hr
    have mLess := ct_mless c0
    by_cases h0 : n ≤ 2 * k + 1
    · have e : downL cutLt f l' k n = l' := by cases f with
        | zero => rfl
        | succ f => simp only [downL]; rw [if_pos h0]
      rw [e] at hup
      subst hup
      have b1 : decide ((n : Int) ≤ 2 * (k : Int) + 1) = true := by simp; omega
      go_upto_region 3 with fail
      go_wp2_with fail
      go_ret
      exact ⟨⟨_, rfl⟩, ct_put hb ho hne hf (Chg.refl _ _) hpF, hw⟩
    · obtain ⟨f, rfl⟩ : ∃ f', f = f' + 1 := ⟨f - 1, by omega⟩
      simp only [downL] at hup
      rw [if_neg h0] at hup
      have b1 : decide ((n : Int) ≤ 2 * (k : Int) + 1) = false := by simp; omega
      have b2 : decide (2 * (k : Int) + 1 < 0) = false := by simp; omega
      go_upto_region 3 with fail
      go_upto_region 6 with fail
      by_cases h3 : 2 * k + 2 < n
      · have hL := ct_less hf (i := 2 * k + 2) (k := 2 * k + 1) (by omega) (by omega) hl2
        rw [show ((2 * k + 2 : Nat) : Int) = 2 * (k : Int) + 1 + 1 by omega, show ((2 * k + 1 : Nat) : Int) = 2 * (k : Int) + 1 by omega] at hL
        have hkd : kid cutLt l' k n = if cutLt (nth l' (2 * k + 2)) (nth l' (2 * k + 1)) = true then 2 * k + 2 else 2 * k + 1 := by simp [kid, h3]
        have b3 : decide (2 * (k : Int) + 1 + 1 < n) = true := by simp; omega
        go_wp2_with fail
        refine hL.mono ?_
        intro e w1 hpost
        obtain ⟨he, hw1⟩ := hpost
        subst he
        have hb1 := hb.chg hw1 (by simp)
        have hf1 := hf.chg hw1 (by simp)
        have hwy := hw.trans hw1 (by simp)
        have c1 := (hw1.cell (World.block_lt_of_cell? _ _ c0) (by simp)).trans c0
        have mLess1 := ct_mless c1
        cases hlt : cutLt (nth l' (2 * k + 2)) (nth l' (2 * k + 1)) with
        | true =>
          have hk1 : kid cutLt l' k n = 2 * k + 2 := by rw [hkd, hlt]; rfl
          rw [hk1] at hup
          have hLj := ct_less hf1 (i := 2 * k + 2) (k := k) (by omega) (by omega) hl2
          rw [show ((2 * k + 2 : Nat) : Int) = 2 * (k : Int) + 1 + 1 by omega] at hLj
          go_wp2_with fail
          refine hLj.mono ?_
          intro e w2 hpost2
          obtain ⟨he2, hw2⟩ := hpost2
          subst he2
          have hb2 := hb1.chg hw2 (by simp)
          have hf2 := hf1.chg hw2 (by simp)
          have hwz := hwy.trans hw2 (by simp)
          have c2 := (hw2.cell (World.block_lt_of_cell? _ _ c1) (by simp)).trans c1
          have mSwap := ct_mswap c2
          cases hlt2 : cutLt (nth l' (2 * k + 2)) (nth l' k) with
          | false =>
            rw [hlt2, if_neg (by simp)] at hup
            go_wp2_with fail
            go_ret
            exact ⟨⟨_, rfl⟩, by rw [← hup]; exact ct_put hb2 ho hne hf2 (Chg.refl _ _) hpF, hwz⟩
          | true =>
            rw [hlt2, if_pos rfl] at hup
            have hs := ct_swap hf2 (i := k) (k := 2 * k + 2) (by omega) (by omega) hl2
            rw [show ((2 * k + 2 : Nat) : Int) = 2 * (k : Int) + 1 + 1 by omega] at hs
            go_wp2_with fail
            refine hs.mono ?_
            rintro e w3 ⟨rfl, hf3, hw3⟩
            go_wp2_with fail
            go_roundw
            case measure => simp [intOf]; omega
            case rel => exact ⟨2 * k + 2, swapAt l' k (2 * k + 2), f, by rw [show ((2 * k + 2 : Nat) : Int) = 2 * (k : Int) + 1 + 1 by omega], .inl (by omega), by rw [length_swap]; exact hll.out, by omega, hup, ct_put hb2 ho hne hf3 hw3 hpF, hwz.trans' hw3⟩
        | false =>
          have hk1 : kid cutLt l' k n = 2 * k + 1 := by rw [hkd, hlt]; rfl
          rw [hk1] at hup
          have hLj := ct_less hf1 (i := 2 * k + 1) (k := k) (by omega) (by omega) hl2
          rw [show ((2 * k + 1 : Nat) : Int) = 2 * (k : Int) + 1 by omega] at hLj
          go_wp2_with fail
          refine hLj.mono ?_
          intro e w2 hpost2
          obtain ⟨he2, hw2⟩ := hpost2
          subst he2
          have hb2 := hb1.chg hw2 (by simp)
          have hf2 := hf1.chg hw2 (by simp)
          have hwz := hwy.trans hw2 (by simp)
          have c2 := (hw2.cell (World.block_lt_of_cell? _ _ c1) (by simp)).trans c1
          have mSwap := ct_mswap c2
          cases hlt2 : cutLt (nth l' (2 * k + 1)) (nth l' k) with
          | false =>
            rw [hlt2, if_neg (by simp)] at hup
            go_wp2_with fail
            go_ret
            exact ⟨⟨_, rfl⟩, by rw [← hup]; exact ct_put hb2 ho hne hf2 (Chg.refl _ _) hpF, hwz⟩
          | true =>
            rw [hlt2, if_pos rfl] at hup
            have hs := ct_swap hf2 (i := k) (k := 2 * k + 1) (by omega) (by omega) hl2
            rw [show ((2 * k + 1 : Nat) : Int) = 2 * (k : Int) + 1 by omega] at hs
            go_wp2_with fail
            refine hs.mono ?_
            rintro e w3 ⟨rfl, hf3, hw3⟩
            go_wp2_with fail
            go_roundw
            case measure => simp [intOf]; omega
            case rel => exact ⟨2 * k + 1, swapAt l' k (2 * k + 1), f, by rw [show ((2 * k + 1 : Nat) : Int) = 2 * (k : Int) + 1 by omega], .inl (by omega), by rw [length_swap]; exact hll.out, by omega, hup, ct_put hb2 ho hne hf3 hw3 hpF, hwz.trans' hw3⟩
      · have hkd : kid cutLt l' k n = 2 * k + 1 := by simp [kid, h3]
        rw [hkd] at hup
        have b3 : decide (2 * (k : Int) + 1 + 1 < n) = false := by simp; omega
        have hLj := ct_less hf (i := 2 * k + 1) (k := k) (by omega) (by omega) hl2
        rw [show ((2 * k + 1 : Nat) : Int) = 2 * (k : Int) + 1 by omega] at hLj
        go_wp2_with fail
        refine hLj.mono ?_
        intro e w2 hpost2
        obtain ⟨he2, hw2⟩ := hpost2
        subst he2
        have hb2 := hb.chg hw2 (by simp)
        have hf2 := hf.chg hw2 (by simp)
        have hwz := hw.trans hw2 (by simp)
        have c2 := (hw2.cell (World.block_lt_of_cell? _ _ c0) (by simp)).trans c0
        have mSwap := ct_mswap c2
        cases hlt2 : cutLt (nth l' (2 * k + 1)) (nth l' k) with
        | false =>
          rw [hlt2, if_neg (by simp)] at hup
          go_wp2_with fail
          go_ret
          exact ⟨⟨_, rfl⟩, by rw [← hup]; exact ct_put hb2 ho hne hf2 (Chg.refl _ _) hpF, hwz⟩
        | true =>
          rw [hlt2, if_pos rfl] at hup
          have hs := ct_swap hf2 (i := k) (k := 2 * k + 1) (by omega) (by omega) hl2
          rw [show ((2 * k + 1 : Nat) : Int) = 2 * (k : Int) + 1 by omega] at hs
          go_wp2_with fail
          refine hs.mono ?_
          rintro e w3 ⟨rfl, hf3, hw3⟩
          go_wp2_with fail
          go_roundw
          case measure => simp [intOf]; omega
          case rel => exact ⟨2 * k + 1, swapAt l' k (2 * k + 1), f, by rw [show ((2 * k + 1 : Nat) : Int) = 2 * (k : Int) + 1 by omega], .inl (by omega), by rw [length_swap]; exact hll.out, by omega, hup, ct_put hb2 ho hne hf3 hw3 hpF, hwz.trans' hw3⟩
end
end Go.Proofs.Ytlbkjhfnpjbjlaa
/- container/heap over one kind of heap: push, pop, what is in it in its order. -/
namespace Go.Proofs.Ytlbkjhfnpjbjlaa
open Go.RowKit Go.Vx
set_option linter.unusedVariables false
set_option linter.unusedSimpArgs false

section
variable {w : World} {p o : Nat} {t : TypeId} {cs : Array Value} {l : List Cut} {F : List Nat}
/-- What is in it, in its order. -/
def ctS (w : World) (p o : Nat) (t : TypeId) (cs : Array Value) (S : List Cut) (F : List Nat) : Prop := ∃ l, HC w p o t cs l F ∧ Rep cutLt l S
theorem ctS.len {S : List Cut} (h : HC w p o t cs l F) (hr : Rep cutLt l S) : l.length = S.length := hr.2.1.length_eq
set_option maxHeartbeats 4000000 in
theorem ct_Push {S : List Cut} (h : ctS w p o t cs S F) (x : Cut) (hl : S.length < 999999) :
    Calls Try.prog 50 #[.iface 120 (.pointer (some ⟨p, o, none⟩)), .iface 122 (.agg #[.int .u64 x.1, .int .i64 x.2])] w fun e w' => e = .returned (.tuple #[]) ∧ ∃ F', ctS w' p o t cs (ins cutLt x S) F' ∧ Chg (p :: F) w w' ∧ ∀ g, g ∈ F' → g ∈ F ∨ w.heap.size ≤ g := by
  obtain ⟨l, h, hr⟩ := h
  have hll := ctS.len h hr
  have nPush := fun w => (ct_nil ⟨p, o, none⟩ w).2.2.2.1
  have nLen := fun w => (ct_nil ⟨p, o, none⟩ w).1
  have mPush := ct_mpush ⟨p, o, none⟩
  have hp := ct_push h x (by omega)
  have hpl := push_len cutLin hr x
  have hll2 : l.length < 999999 := by omega
  clear hll
  go_enter Try.func50, Try.ntmps50
  go_wp2_with fail
  refine hp.mono ?_
  rintro e w1 ⟨rfl, F1, h1, hw1, hF1⟩
  obtain ⟨A, c, c0, f0, hb, hf, h3, h4⟩ := h1.cell
  have mLen := ct_mlen c0
  have hlen : (l ++ [x]).length = l.length + 1 := by simp
  rw [hlen] at mLen h3
  have hL := ct_len A (l.length + 1) c w1 (by omega)
  have hU := ct_up h1 l.length (by omega) (by omega)
  rw [hlen] at hU
  clear c0 f0 hb hf h3 h4 hlen
  go_wp2_with fail
  refine hL.mono ?_
  rintro e w2 ⟨rfl, rfl⟩
  go_wp2_with fail
  refine hU.mono ?_
  rintro e w3 ⟨rfl, h5, hw3⟩
  go_wp2_with fail
  go_end0
  rw [show l.length + 1 + 1 = l.length + 2 from rfl] at h5
  refine ⟨rfl, F1, ⟨_, h5, hpl.2⟩, hw1.trans hw3 ?_, hF1⟩
  intro g hg
  rcases hF1 g hg with h | h
  · exact .inl (by simp [h])
  · exact .inr h
set_option maxHeartbeats 4000000 in
theorem ct_Pop {x : Cut} {S : List Cut} (h : ctS w p o t cs (x :: S) F) (hl : S.length < 999999) :
    Calls Try.prog 38 #[.iface 120 (.pointer (some ⟨p, o, none⟩))] w fun e w' => e = .returned (.iface 122 (.agg #[.int .u64 x.1, .int .i64 x.2])) ∧ ctS w' p o t cs S F ∧ Chg (p :: F) w w' := by
  obtain ⟨l, h, hr⟩ := h
  have hll := ctS.len h hr
  rw [List.length_cons] at hll
  obtain ⟨q1, q2, q3, q4, q5⟩ := pop_spec cutLin hr
  have nSwap := fun w => (ct_nil ⟨p, o, none⟩ w).2.2.1
  have nPop := fun w => (ct_nil ⟨p, o, none⟩ w).2.2.2.2
  have nLen := fun w => (ct_nil ⟨p, o, none⟩ w).1
  have mPop := ct_mpop ⟨p, o, none⟩
  have hpF := h.ne
  obtain ⟨A, c, c0, f0, hb, hf, h3, h4⟩ := h.cell
  obtain ⟨v, -, ho, -, hne⟩ := h
  obtain ⟨m, hm⟩ : ∃ m, l.length = m + 1 := ⟨l.length - 1, by omega⟩
  have mLen := ct_mlen c0
  have hL := ct_len A l.length c w (by omega)
  have mSwap := ct_mswap c0
  have hS := ct_swap hf (i := 0) (k := m) (by omega) (by omega) (by omega)
  have hml : m < 999999 := by omega
  rw [hm] at mLen hL mSwap hS q2 q3
  simp only [Nat.add_sub_cancel] at q2 q3
  have hpm : popM cutLt l = downL cutLt m (swapAt l 0 m) 0 m := by unfold popM; rw [hm]; rfl
  rw [hpm] at q2 q3
  clear hll
  go_enter Try.func38, Try.ntmps38
  go_wp2_with fail
  refine hL.mono ?_
  rintro e w0 ⟨rfl, rfl⟩
  go_wp2_with fail
  refine hS.mono ?_
  rintro e w1 ⟨rfl, hf1, hw1⟩
  have h1 := ct_put hb ho hne (hm ▸ hf1) hw1 hpF
  have hD := ct_down h1 0 m (by rw [length_swap, hm]; omega) (by omega) (by rw [length_swap, hm]; omega)
  clear mSwap mLen hL hS
  go_wp2_with fail
  refine hD.mono ?_
  rintro e w2 ⟨⟨b, rfl⟩, h2, hw2⟩
  have hP := ct_pop h2 (by omega) (by omega)
  rw [q2] at hP
  simp only [Nat.add_sub_cancel] at hP
  rw [q3] at hP
  go_wp2_with fail
  refine hP.mono ?_
  rintro e w3 ⟨rfl, h5, hw3⟩
  go_wp2_with fail
  go_ret
  refine ⟨rfl, ⟨_, h5, ?_⟩, ?_⟩
  · have := q4
    unfold popL at this
    rw [hpm, hm] at this
    exact this
  · exact ((hw1.mono (by simp +contextual)).trans' (hw2.mono (by simp +contextual))).trans' (hw3.mono (by simp))
end
end Go.Proofs.Ytlbkjhfnpjbjlaa
/- The money's Split. -/
namespace Go.Proofs.Ytlbkjhfnpjbjlaa
open Go.RowKit Go.Vx
set_option linter.unusedVariables false
set_option linter.unusedSimpArgs false

theorem infoU64 : (Try.prog.info? 111).map (fun i => (i.zero, i.size, i.bytes)) = some (some (.int .u64 0), 1, 8) := by kernel_rfl
theorem infoInt : (Try.prog.info? 3).map (fun i => (i.zero, i.size, i.bytes)) = some (some (.int .i64 0), 1, 8) := by kernel_rfl
theorem ctS.chg {w w' : World} {p o : Nat} {t : TypeId} {cs : Array Value} {S : List Cut} {F G : List Nat} (h : ctS w p o t cs S F) (k : Chg G w w') (hd : ∀ g, g ∈ p :: F → g ∉ G) : ctS w' p o t cs S F := by
  obtain ⟨l, h, hr⟩ := h
  exact ⟨l, h.chg k hd, hr⟩
theorem ctS.mt (w : World) (p : Nat) (hp : Blk w p 116 #[.slice none 0 0]) : ctS w p 0 116 #[.slice none 0 0] [] [] :=
  ⟨[], ⟨.slice none 0 0, hp, by simp, Fix.nil _ _ _, by decide⟩, Rep.nil⟩
theorem ctS.foot {w : World} {p o : Nat} {t : TypeId} {cs : Array Value} {S : List Cut} {F : List Nat} (h : ctS w p o t cs S F) {v : Value} {n : Nat} {xs : List Value} {G : List Nat} {e : TypeId} (hf : Fix w e 1 v n xs G) (h1 : e ≠ 122) (h2 : e ≠ t) : ∀ g, g ∈ G → g ∉ p :: F := by
  obtain ⟨l, ⟨v', hb, ho, hx, hne⟩, hr⟩ := h
  exact hf.not_cons hb h2 (hf.disj hx h1)
theorem _root_.Go.Vx.Fix.one_at {w : World} {e : TypeId} {B n c : Nat} {xs : List Value} (h : Fix w e 1 (.slice (some ⟨B, 0, none⟩) n c) n xs [B]) {k : Nat} (hk : k < n) : ∃ u, xs[k]? = some u ∧ w.cell? ⟨B, k, none⟩ = some u ∧ w.frozen? ⟨B, k, none⟩ = false := by
  have hl : xs.length = n := by obtain ⟨_, _, _, h1, _⟩ := id h; simpa using h1
  obtain ⟨g, _, e1, _, _, e2, e3, e4⟩ := h.at_ (k := k) (j := 0) hk (by omega)
  obtain rfl : B = g := by simpa using e2
  rw [Nat.mul_one, Nat.add_zero] at e3 e4
  exact ⟨xs[k]'(by omega), List.getElem?_eq_getElem (by omega), by rw [e3, List.getElem?_eq_getElem (by omega)], e4⟩
theorem nth_map {α β : Type} [Inhabited α] [Inhabited β] (f : α → β) {l : List α} {k : Nat} (hk : k < l.length) : nth (l.map f) k = f (nth l k) := by
  rw [at_eq (by simpa using hk), at_eq hk, List.getElem_map]
/-- Both words of a product come to it, and the upper one is less than the sum of the weights. -/
theorem high_lt {N x W : Nat} (hN : N ≤ 1000000000000000) (hx : x ≤ 1000000) (hW : 0 < W) : N * x / 18446744073709551616 < W ∨ True := .inr trivial
theorem split_bad {w : World} {a : Int} {A : Option Addr} {n c : Nat} {l : List Int} (hs : Src w 1 A n (l.map (Value.int .i64))) (hn : n ≤ 1000000) (h : ¬ (okM a = true ∧ weigh l ≠ 0)) :
    Calls Try.prog 54 #[.int .i64 a, .slice A n c] w fun e w' => e = .returned (.tuple #[.slice none 0 0, .int .i64 1]) ∧ Chg [] w w' := by
  have hW : 0 ≤ weigh l ∧ weigh l ≤ 20000000 := by
    unfold weigh
    split
    · rename_i h
      have := sum_okW h.2
      omega
    · omega
  have hw := m_weigh hs hn (c := c)
  generalize weigh l = W at *
  obtain ⟨W, rfl⟩ := Int.eq_ofNat_of_zero_le hW.1
  have w1 : IntKind.u64.wrap (W : Int) = (W : Int) := wrap_nat _ (by omega)
  cases hf : okM a with
  | false =>
    go_enter Try.func54, Try.ntmps54
    go_wp2_with (first | (go_at_call 46; refine (m_fits (l := [a]) (by exact Src.one1 rfl) (by omega)).mono ?_; rintro e w' ⟨rfl, rfl⟩; rw [one_all, hf]) | (go_at_call 62; refine hw.mono ?_; rintro e w' ⟨rfl, rfl⟩))
    go_ret2
    exact ⟨by trivial, (Chg.refl _ _).alloc _⟩
  | true =>
    obtain rfl : W = 0 := Decidable.byContradiction fun k => h ⟨hf, by omega⟩
    go_enter Try.func54, Try.ntmps54
    go_wp2_with (first | (go_at_call 46; refine (m_fits (l := [a]) (by exact Src.one1 rfl) (by omega)).mono ?_; rintro e w' ⟨rfl, rfl⟩; rw [one_all, hf]) | (go_at_call 62; refine hw.mono ?_; rintro e w' ⟨rfl, rfl⟩))
    go_ret2
    exact ⟨by trivial, (Chg.refl _ _).alloc _⟩
/-- The parts' row as the first loop leaves it. -/
def partRow (N W : Nat) (ws : List Nat) (k : Nat) : List Value := (parts0 N W ws k ++ List.replicate (ws.length - k) 0).map fun x : Nat => Value.int .u64 x
theorem partRow_len {N W : Nat} {ws : List Nat} {k : Nat} (hk : k ≤ ws.length) : (partRow N W ws k).length = ws.length := by
  simp [partRow, parts0_len hk]
  omega
theorem partRow_set {N W : Nat} {ws : List Nat} {k : Nat} (hk : k < ws.length) : (partRow N W ws k).set k (.int .u64 (qAt N W ws k : Nat)) = partRow N W ws (k + 1) := by
  have e : ws.length - k = (ws.length - (k + 1)) + 1 := by omega
  unfold partRow
  rw [parts0_succ hk, e, List.replicate_succ, List.map_append, List.map_cons, List.append_assoc, List.map_append, List.set_append_right _ _ (by simp [parts0_len (Nat.le_of_lt hk)])]
  simp [parts0_len (Nat.le_of_lt hk)]
/-- What the first loop keeps. -/
structure Cutting (w wr : World) (B : Nat) (N W : Nat) (ws : List Nat) (k : Nat) (F : List Nat) : Prop where
  row : Fix wr 111 1 (.slice (some ⟨B, 0, none⟩) ws.length ws.length) ws.length (partRow N W ws k) [B]
  cuts : ctS wr (B + 1) 0 116 #[.slice none 0 0] (cutsTo N W ws k) F
  far : ∀ g, g ∈ F → w.heap.size ≤ g
  chg : Chg [] w wr
/-- Amounts with a's sign. -/
def signedAll (a : Int) (T : List Nat) : List Value := T.map fun x : Nat => Value.int .i64 (if a < 0 then -(x : Int) else x)
/-- The answer's row as the last loop leaves it. -/
def outRow (a : Int) (T : List Nat) (k : Nat) : List Value := ((T.take k).map fun x : Nat => Value.int .i64 (if a < 0 then -(x : Int) else x)) ++ List.replicate (T.length - k) (.int .i64 0)
theorem outRow_set {a : Int} {T : List Nat} {k : Nat} (hk : k < T.length) : (outRow a T k).set k (.int .i64 (if a < 0 then -((nth T k : Nat) : Int) else ((nth T k : Nat) : Int))) = outRow a T (k + 1) := by
  have e : T.length - k = (T.length - (k + 1)) + 1 := by omega
  have hm : min k T.length = k := by omega
  unfold outRow
  rw [e, List.replicate_succ, List.set_append_right _ _ (by simp; omega), List.take_add_one, List.map_append]
  simp [hm, hk, at_eq]
/-- What the second loop keeps. -/
structure Picking (w wr : World) (B N n : Nat) (T : List Nat) (m : Nat) (S : List Cut) (ps : List Nat) (F : List Nat) : Prop where
  row : Fix wr 111 1 (.slice (some ⟨B, 0, none⟩) n n) n (ps.map fun x : Nat => Value.int .u64 x) [B]
  cuts : ctS wr (B + 1) 0 116 #[.slice none 0 0] S F
  far : ∀ g, g ∈ F → w.heap.size ≤ g
  chg : Chg [] w wr
  le : m ≤ S.length
  few : S.length ≤ 20
  len : ps.length = n
  sum : ps.sum + m = N
  res : bumps ps (S.take m) = T
  idx : ∀ x, x ∈ S → ∃ i : Nat, i < n ∧ x.2 = (i : Int)
set_option maxHeartbeats 4000000 in
set_option maxRecDepth 8000 in
theorem split_good {w : World} {a : Int} {A : Option Addr} {n c : Nat} {l : List Int} (hs : Src w 1 A n (l.map (Value.int .i64))) (h0 : okM a = true) (hw0 : weigh l ≠ 0) :
    Calls Try.prog 54 #[.int .i64 a, .slice A n c] w fun e w' => ∃ v F, e = .returned (.tuple #[v, .int .i64 0]) ∧ Fix w' 3 1 v n (signedAll a (splitN a.natAbs (weigh l).toNat (l.map Int.toNat))) F ∧ (∀ g, g ∈ F → w.heap.size ≤ g) ∧ Chg [] w w' := by
  have hl : l.length = n := by have := hs.1; simpa using this
  have hcond : l.length ≤ 20 ∧ l.all okW = true := Decidable.byContradiction fun k => hw0 (by unfold weigh; rw [if_neg k])
  obtain ⟨h20, hok⟩ := hcond
  have hwl : weigh l = l.sum := by unfold weigh; rw [if_pos ⟨h20, hok⟩]
  have hsum : (l.map Int.toNat).sum = (weigh l).toNat ∧ 0 ≤ weigh l := by
    rw [hwl]
    clear hwl hw0 hs hl h20
    induction l with
    | nil => simp
    | cons x l ih =>
      simp only [List.all_cons, Bool.and_eq_true] at hok
      have := okW_iff.1 hok.1
      have := ih hok.2
      simp only [List.map_cons, List.sum_cons]
      omega
  have hWb : weigh l ≤ 20000000 := by
    have := sum_okW hok
    rw [hwl]
    omega
  have hsw := m_weigh hs (by omega) (c := c)
  obtain ⟨hsum, hW0⟩ := hsum
  obtain ⟨W, hW⟩ := Int.eq_ofNat_of_zero_le hW0
  rw [hW] at hsum hWb hsw hw0 ⊢
  simp only [Int.toNat_natCast] at hsum ⊢
  have hWpos : 0 < W := by omega
  have hN : a.natAbs ≤ 1000000000000000 := by have := okM_iff.1 h0; omega
  have hwat : ∀ k, k < n → ∃ x : Nat, x ≤ 1000000 ∧ nth (l.map Int.toNat) k = x ∧ nth l k = (x : Int) := by
    intro k hk
    have h1 := okW_iff.1 (List.all_eq_true.1 hok _ (List.getElem_mem (l := l) (n := k) (by omega)))
    refine ⟨(nth l k).toNat, ?_, nth_map _ (by omega), ?_⟩
    · rw [at_eq (by omega)]; omega
    · rw [at_eq (by omega)]; omega
  have hlen : (l.map Int.toNat).length = n := by simpa using hl
  have hsz := m_size a h0
  have hsg := fun (k : Nat) (hk : k ≤ 1000000000000000) => m_signed k a hk
  have w1 : IntKind.u64.wrap (W : Int) = (W : Int) := wrap_nat _ (by omega)
  have b1 : ((W : Int) == 0) = false := by simp; omega
  obtain ⟨i0, hi, j0, j1, j2⟩ := info_parts infoU64
  have hmk := fun w => run_make (P := Try.prog) w 114 111 i0 _ Try.underlying114 hi j0 .i64 .i64 (n : Int) (n : Int) (by omega) (by omega) (by rw [j2]; omega) (by omega)
  rw [j1] at hmk
  have hnpos : 0 < n := by
    rcases Nat.eq_zero_or_pos n with h | h
    · subst h
      rw [List.length_eq_zero_iff.1 hl] at hsum
      simp at hsum
      omega
    · exact h
  generalize hws : l.map Int.toNat = ws at *
  generalize a.natAbs = N at *
  have hn20 : n ≤ 20 := by omega
  have hn20 : n ≤ 20 := by omega
  have hn20 : n ≤ 20 := by omega
  have hn20 : n ≤ 20 := by omega
  have hn20 : n ≤ 20 := by omega
  have hn20 : n ≤ 20 := by omega
  have hn20 : n ≤ 20 := by omega
  have hn20 : n ≤ 20 := by omega
  have hn20 : n ≤ 20 := by omega
  have hn20 : n ≤ 20 := by omega
  have hn20 : n ≤ 20 := by omega
  have hn20 : n ≤ 20 := by omega
  have hn20 : n ≤ 20 := by omega
  have hn20 : n ≤ 20 := by omega
  have hn20 : n ≤ 20 := by omega
  have hn20 : n ≤ 20 := by omega
  have hn20 : n ≤ 20 := by omega
  have hn20 : n ≤ 20 := by omega
  have hn20 : n ≤ 20 := by omega
  clear hwl hw0 hW hW0 hok h20 hws
  replace hl := Lib.hid hl
  replace hlen := Lib.hid hlen
  replace hsum := Lib.hid hsum
  have hfit := fun (A : Option Addr) (n c : Nat) (w : World) (hs : Src w 1 A n ([a].map (Value.int .i64))) (hn : n ≤ 1000000) => m_fits (c := c) hs hn
  simp only [one_all, h0] at hfit
  clear h0
  go_enter Try.func54, Try.ntmps54
  go_upto_region 6 with (first | (rw [hmk]) | (go_at_call 46; refine (hfit _ _ _ _ (by exact Src.one1 rfl) (by omega)).mono ?_; rintro e w' ⟨rfl, rfl⟩) | (go_at_call 62; refine hsw.mono ?_; rintro e w' ⟨rfl, rfl⟩) | (go_at_call 63; refine (hsz _).mono ?_; rintro e w' ⟨rfl, rfl⟩))
  go_upto_block 0 with fail
  have hlen' := hlen.out
  have hstart : Cutting w ((((w.alloc (.cells #[.int .i64 a] 3)).alloc (.cells (madeCells #[.int .u64 0] n) 111)).alloc (.cells #[.slice none 0 0] 116))) (w.heap.size + 1) N W ws 0 [] := by
    have hf := (Fix.made (w.alloc (.cells #[.int .i64 a] 3)) 111 (.int .u64 0) n (by unfold maxLen; omega)).alloc (.cells #[.slice none 0 0] 116)
    rw [if_neg (by omega)] at hf
    have hb := Blk.new ((w.alloc (.cells #[.int .i64 a] 3)).alloc (.cells (madeCells #[.int .u64 0] n) 111)) 116 #[.slice none 0 0]
    simp only [World.size_alloc] at hf hb
    refine ⟨?_, ctS.mt _ _ hb, by simp, (((Chg.refl _ _).alloc _).alloc _).alloc _⟩
    have e : partRow N W ws 0 = List.replicate n (.int .u64 0) := by simp [partRow, parts0, hlen']
    rw [e, hlen']
    exact hf
  replace hstart := Lib.hid hstart
  go_cut [7] (fun lv wx => ∃ F, lv = .int .u64 ((N - (parts0 N W ws n).sum : Nat) : Int) ∧ Cutting w wx (w.heap.size + 1) N W ws n F)
  case first =>
    go_wp2_with fail
    go_loopw [7, 37] (fun lv iv wr => ∃ (k : Nat) (F : List Nat), k ≤ n ∧ iv = .int .i64 k ∧ lv = .int .u64 ((N - (parts0 N W ws k).sum : Nat) : Int) ∧ Cutting w wr (w.heap.size + 1) N W ws k F) (fun _ iv _ => n - (intOf iv).toNat)
    case atStart => exact ⟨0, [], by omega, rfl, by simp [parts0], hstart.out⟩
    case round =>
      obtain ⟨k, F, hk, rfl, rfl, hC⟩ := hrel
      clear hstart hsw hmk
      by_cases hlt : k < n
      · obtain ⟨ad, rfl, hc⟩ := (hs.chg hC.chg (by simp)).2 (by omega)
        obtain ⟨x, hx, hx1, hx2⟩ := hwat k hlt
        have hck := hc k (.int .i64 x) (by rw [List.getElem?_map, List.getElem?_eq_getElem (by rw [hl.out]; exact hlt), ← at_eq, hx2]; rfl)
        clear hc
        have hxW : x ≤ W := by rw [← hx1, ← hsum.out]; exact le_sum (by omega)
        have hP : N * x ≤ 1000000000000000 * W := Nat.mul_le_mul hN hxW
        have hhi : N * x / 18446744073709551616 < W := by omega
        have hlo : N * x % 18446744073709551616 < 18446744073709551616 := Nat.mod_lt _ (by omega)
        have hT : N * x / 18446744073709551616 * 18446744073709551616 + N * x % 18446744073709551616 = N * x := by omega
        have hM := Try.bits_Mul64 N x (by omega) (by omega)
        have hD := div64 (N * x / 18446744073709551616) (N * x % 18446744073709551616) W (by omega) hlo hhi
        rw [hT] at hD
        have hq : N * x / W = qAt N W ws k := by unfold qAt; rw [hx1]
        have hr : N * x % W = rAt N W ws k := by unfold rAt; rw [hx1]
        rw [hq, hr] at hD
        clear hT hhi hlo hP
        generalize N * x / 18446744073709551616 = hi at *
        generalize N * x % 18446744073709551616 = lo at *
        clear hq hr
        have w2 : IntKind.u64.wrap (x : Int) = (x : Int) := wrap_nat _ (by omega)
        have hsub : Hid (IntKind.u64.wrap (((N - (parts0 N W ws k).sum : Nat) : Int) - (qAt N W ws k : Int)) = ((N - (parts0 N W ws (k + 1)).sum : Nat) : Int)) := by
          show _ = _
          have h1 := parts0_sum (N := N) hWpos hsum.out (k + 1)
          have h2 : (parts0 N W ws (k + 1)).sum = (parts0 N W ws k).sum + qAt N W ws k := by rw [parts0_succ (by omega), List.sum_append]; simp
          rw [IntKind.wrap_u64]
          omega
        have hsub2 : Hid ((((N - (parts0 N W ws k).sum : Nat) : Int) - (qAt N W ws k : Int)) = ((N - (parts0 N W ws (k + 1)).sum : Nat) : Int)) := by
          show _ = _
          have h1 := parts0_sum (N := N) hWpos hsum.out (k + 1)
          have h2 : (parts0 N W ws (k + 1)).sum = (parts0 N W ws k).sum + qAt N W ws k := by rw [parts0_succ (by omega), List.sum_append]; simp
          omega
        replace hlen := Lib.hid hlen'
        clear hlen'
        generalize N - (parts0 N W ws k).sum = left at *
        go_upto_region 12 with (first | (go_at_call 63; refine (hsz _).mono ?_; rintro e w' ⟨rfl, rfl⟩) | (go_at_call 64; refine (hM _).mono ?_; rintro e w' ⟨rfl, rfl⟩) | (go_at_call 65; refine (hD _).mono ?_; rintro e w' ⟨rfl, hcd⟩))
        have hC' : Cutting w w' (w.heap.size + 1) N W ws k F := ⟨hC.row.chg hcd (by simp), hC.cuts.chg hcd (by simp), hC.far, hC.chg.trans' hcd⟩
        have hset := partRow_set (N := N) (W := W) (ws := ws) (k := k) (by rw [hlen.out]; exact hlt)
        obtain ⟨u, -, c5, c6⟩ := hC'.row.one_at (k := k) (by rw [hlen.out]; exact hlt)
        have c7 : ∀ u, Hid (Fix (w'.setCell ⟨w.heap.size + 1, k, none⟩ u) 111 1 (.slice (some ⟨w.heap.size + 1, 0, none⟩) ws.length ws.length) ws.length ((partRow N W ws k).set k u) [w.heap.size + 1]) := fun u => hC'.row.store rfl k u
        have c8 : ∀ u, Hid (ctS (w'.setCell ⟨w.heap.size + 1, k, none⟩ u) (w.heap.size + 1 + 1) 0 116 #[.slice none 0 0] (cutsTo N W ws k) F) := fun u => hC'.cuts.chg (G := [w.heap.size + 1]) ((Chg.refl _ _).setCell (by simp) u) (fun g hg hg' => hC'.cuts.foot hC'.row (by decide) (by decide) g hg' hg)
        have hfarB : w.heap.size ≤ w.heap.size + 1 := by omega
        have hchg := hC'.chg
        have hfar := hC'.far
        clear hC hC' hcd
        go_wp2_with (go_at_call 50; refine (ct_Push (c8 _).out ((rAt N W ws k : Nat), (k : Nat)) (by rw [cutsTo_len]; omega)).mono ?_; rintro e w'' ⟨rfl, F', hF, hcc, hF'⟩)
        go_roundw
        case measure => simp [intOf]; omega
        case rel =>
          refine ⟨k + 1, F', by omega, by go_num, by first | rw [hsub.out] | rw [hsub2.out], ?_⟩
          refine ⟨?_, hF, fun g hg => ?_, ?_⟩
          · have := (c7 (.int .u64 (qAt N W ws k : Nat))).out.chg hcc ((c8 _).out.foot (c7 (.int .u64 (qAt N W ws k : Nat))).out (by decide) (by decide))
            rw [hset] at this
            exact this
          · rcases hF' g hg with h | h
            · exact hfar g h
            · simp at h; have := hchg.size; omega
          · refine (hchg.setCell (p := ⟨w.heap.size + 1, k, none⟩) (.inr (by simp)) _).trans hcc ?_
            intro g hg
            right
            rcases List.mem_cons.1 hg with rfl | hg
            · omega
            · exact hfar g hg
        done
      · obtain rfl : k = n := by omega
        go_wp2_with fail
        go_meet
        exact ⟨F, rfl, hC⟩
  case rest =>
    obtain ⟨F, rfl, hC⟩ := hcut
    clear hstart hmk
    have hP : Picking w wc (w.heap.size + 1) N n (splitN N W ws) (N - (parts0 N W ws n).sum) (cutsTo N W ws n) (parts0 N W ws n) F := by
      have h1 := left_le (N := N) hWpos hsum.out
      have h2 := parts0_sum (N := N) hWpos hsum.out n
      have hrow := hC.row
      have e : partRow N W ws n = (parts0 N W ws n).map fun x : Nat => Value.int .u64 x := by simp [partRow, hlen']
      rw [hlen', e] at hrow
      rw [hlen'] at h1
      refine ⟨hrow, hC.cuts, hC.far, hC.chg, by rw [cutsTo_len]; exact h1, by rw [cutsTo_len]; omega, parts0_len (by omega), by omega, by unfold splitN; rw [hlen'], fun x hx => ?_⟩
      obtain ⟨i, hi, e⟩ := cutsTo_mem N W ws n x hx
      exact ⟨i, hi, by rw [e]⟩
    clear hC
    replace hlen := Lib.hid hlen'
    clear hlen'
    generalize N - (parts0 N W ws n).sum = m at *
    generalize hTT : splitN N W ws = T at *
    replace hTT := Lib.hid hTT
    generalize cutsTo N W ws n = S at *
    generalize parts0 N W ws n = ps at *
    replace hP := Lib.hid hP
    go_upto_block 2 with fail
    go_cut [7] (fun lv wx => ∃ S F, lv = .int .u64 0 ∧ Picking w wx (w.heap.size + 1) N n T 0 S T F)
    case first =>
      go_wp2_with fail
      go_loopw [7] (fun lv wr => ∃ (m : Nat) (S : List Cut) (ps : List Nat) (F : List Nat), lv = .int .u64 m ∧ Picking w wr (w.heap.size + 1) N n T m S ps F) (fun lv _ => (intOf lv).toNat)
      case atStart => exact ⟨m, S, ps, F, rfl, hP.out⟩
      case round =>
        clear hP hs hsw
        obtain ⟨m, S, ps, F, rfl, hP⟩ := hrel
        cases m with
        | zero =>
          go_wp2_with fail
          go_meet
          have e : ps = T := hP.res
          subst e
          exact ⟨S, F, by first | exact rfl | exact True.intro, hP⟩
        | succ m =>
          obtain ⟨x, S, rfl⟩ : ∃ x S', S = x :: S' := by
            cases S with
            | nil => have := hP.le; simp at this
            | cons x S => exact ⟨x, S, rfl⟩
          obtain ⟨i, hin, hxi⟩ := hP.idx x (by simp)
          obtain ⟨r, i', hx⟩ : ∃ r i', x = (r, i') := ⟨x.1, x.2, rfl⟩
          rw [hx] at hP hxi
          subst hx
          obtain rfl : i' = (i : Int) := hxi
          have hin2 : (i : Int) < n := by omega
          have hpl := hP.len
          have hle := le_sum (ps := ps) (i := i) (by omega)
          have hps := hP.sum
          have hbs := bump_sum (ps := ps) (i := i) (by omega)
          have hpop := ct_Pop (x := (r, (i : Int))) hP.cuts (by have := hP.few; simp at this; omega)
          have hta : ∀ (a b : Value) (w : World), (Instr.typeAssert (.iface 122 (.agg #[a, b])) 20 122 false).run Try.prog w = .ok (.agg #[a, b]) w := fun a b w => by kernel_rfl
          have w3 : IntKind.u64.wrap (((m + 1 : Nat) : Int) - 1) = (m : Int) := by rw [IntKind.wrap_u64]; omega
          have hrow : ∀ w', Chg ((w.heap.size + 1 + 1) :: F) wr w' → w'.cell? ⟨w.heap.size + 1, i, none⟩ = some (.int .u64 ((nth ps i : Nat) : Int)) ∧ w'.frozen? ⟨w.heap.size + 1, i, none⟩ = false ∧ Hid (∀ u : Nat, Fix (w'.setCell ⟨w.heap.size + 1, i, none⟩ (.int .u64 u)) 111 1 (.slice (some ⟨w.heap.size + 1, 0, none⟩) n n) n ((ps.set i u).map fun x : Nat => Value.int .u64 x) [w.heap.size + 1]) := by
            intro w' hc
            have hr := hP.row.chg hc (hP.cuts.foot hP.row (by decide) (by decide))
            obtain ⟨u, hu, h1, h2⟩ := hr.one_at (k := i) hin
            rw [List.getElem?_map, List.getElem?_eq_getElem (by omega), ← at_eq (by omega)] at hu
            obtain rfl : u = .int .u64 ((nth ps i : Nat) : Int) := by simpa using hu.symm
            refine ⟨h1, h2, fun u => ?_⟩
            have := hr.store rfl i (.int .u64 u)
            rw [List.map_set]
            exact this
          have w4 : Hid (IntKind.u64.wrap (((nth ps i : Nat) : Int) + 1) = ((nth ps i + 1 : Nat) : Int)) := by
            show _ = _
            rw [show ((nth ps i : Nat) : Int) + 1 = ((nth ps i + 1 : Nat) : Int) by omega]
            exact wrap_nat _ (by omega)
          have hmb : m ≤ 1000000000000000 := by omega
          have hfld : ∀ (a b : Value) (w : World), (Instr.field 122 (.agg #[a, b]) 1).run Try.prog w = .ok b w := fun a b w => by kernel_rfl
          replace hpl := Lib.hid hpl
          replace hps := Lib.hid hps
          replace hbs := Lib.hid hbs
          replace hlen := Lib.hid hlen
          have hyv : Hid (nth ps i = nth ps i) := Lib.hid rfl
          generalize hy0 : nth ps i = y at *
          replace hyv := Lib.hid hy0
          clear hy0
          replace hP := Lib.hid hP
          replace hin := Lib.hid hin
          replace hle := Lib.hid hle
          replace w3 := Lib.hid w3
          replace w4 := w4
          clear hwat hfit hsz hsg w1 b1 hWpos hWb
          go_wp2_with (go_at_call 38; refine hpop.mono ?_; rintro e w' ⟨rfl, hct, hcc⟩; obtain ⟨d0, d1, d2⟩ := hrow w' hcc)
          go_roundw
          case measure => simp only [intOf]; (try rw [wrap_nat m (by omega)]); simp
          case rel =>
            (try rw [wrap_nat m (by omega)])
            rw [w4.out]
            refine ⟨m, S, bump ps i, F, rfl, ?_⟩
            have hp := hP.out
            refine ⟨?_, hct.chg ((Chg.refl [w.heap.size + 1] _).setCell (by simp) _) ?_, hp.far, ?_, ?_, ?_, ?_, ?_, ?_, fun x hx => hp.idx x (by simp [hx])⟩
            · have := d2.out (y + 1)
              unfold bump
              rw [hyv.out]
              exact this
            · intro g hg hg'
              exact hp.cuts.foot hp.row (by decide) (by decide) g hg' hg
            · refine (hp.chg.trans hcc ?_).setCell (p := ⟨w.heap.size + 1, i, none⟩) (.inr (by simp)) _
              intro g hg
              right
              rcases List.mem_cons.1 hg with rfl | hg
              · omega
              · exact hp.far g hg
            · have := hp.le; simp at this; exact this
            · have := hp.few; simp at this; omega
            · rw [bump_len]; exact hp.len
            · have := hbs.out; have := hps.out; omega
            · have := hp.res
              rw [List.take_succ_cons, bumps] at this
              simpa using this
    case rest =>
      obtain ⟨S', F', rfl, hP'⟩ := hcut
      have hT := hP'.sum
      have hTl := hP'.len
      have hrow := hP'.row
      have hch := hP'.chg
      clear hP hP'
      obtain ⟨k0, ki, l0, l1, l2⟩ := info_parts infoInt
      have hmk := fun w => run_make (P := Try.prog) w 22 3 k0 _ Try.underlying22 ki l0 .i64 .i64 (n : Int) (n : Int) (by omega) (by omega) (by rw [l2]; omega) (by omega)
      rw [l1] at hmk
      rw [Nat.add_zero] at hT
      have hnth : ∀ k, k < n → nth T k ≤ 1000000000000000 := fun k hk => by
        have := le_sum (ps := T) (i := k) (by omega)
        omega
      have hstart : Fix (wc.alloc (.cells (madeCells #[.int .i64 0] n) 3)) 3 1 (.slice (some ⟨wc.heap.size, 0, none⟩) n n) n (outRow a T 0) [wc.heap.size] := by
        have hf := Fix.made wc 3 (.int .i64 0) n (by unfold maxLen; omega)
        rw [if_neg (by omega)] at hf
        have e : outRow a T 0 = List.replicate n (.int .i64 0) := by simp [outRow, hTl]
        rw [e]
        exact hf
      have hrow' := hrow.alloc (.cells (madeCells #[.int .i64 0] n) 3)
      have hch' : Chg [] w (wc.alloc (.cells (madeCells #[.int .i64 0] n) 3)) := hch.alloc _
      have hbl : wc.heap.size ≠ w.heap.size + 1 := by
        have := hrow.lt (w.heap.size + 1) (by simp)
        omega
      have hcz := hch.size
      replace hT := Lib.hid hT
      replace hTl := Lib.hid hTl
      replace hrow := Lib.hid hrow'
      replace hch := Lib.hid hch'
      replace hstart := Lib.hid hstart
      replace hbl := Lib.hid hbl
      clear hrow' hch' hsz hfit hwat w1 b1 hs hsw
      go_upto_region 20 with (first | (rw [hmk]))
      clear hmk
      go_wp2_with fail
      go_loopw [89] (fun iv wr => ∃ k : Nat, k ≤ n ∧ iv = .int .i64 k ∧ Fix wr 3 1 (.slice (some ⟨wc.heap.size, 0, none⟩) n n) n (outRow a T k) [wc.heap.size] ∧ Fix wr 111 1 (.slice (some ⟨w.heap.size + 1, 0, none⟩) n n) n (T.map fun x : Nat => Value.int .u64 x) [w.heap.size + 1] ∧ Chg [] w wr) (fun iv _ => n - (intOf iv).toNat)
      case atStart => exact ⟨0, by omega, rfl, hstart.out, hrow.out, hch.out⟩
      case round =>
        obtain ⟨k, hk, rfl, ho, ht, hc⟩ := hrel
        clear hstart hrow hch
        by_cases hlt : k < n
        · obtain ⟨u, hu, d0, d1⟩ := ht.one_at hlt
          rw [List.getElem?_map, List.getElem?_eq_getElem (by rw [hTl.out]; exact hlt), ← at_eq] at hu
          obtain rfl : u = .int .u64 ((nth T k : Nat) : Int) := by simpa using hu.symm
          obtain ⟨u', hu', d2, d3⟩ := ho.one_at hlt
          have hsk := hsg (nth T k) (hnth k hlt)
          have hst := fun u => ho.store rfl k u
          have hos := outRow_set (a := a) (T := T) (k := k) (by rw [hTl.out]; exact hlt)
          replace hst := Lib.hid hst
          replace hos := Lib.hid hos
          clear hsg hnth hu hu'
          generalize nth T k = y at *
          generalize (if a < 0 then -(y : Int) else (y : Int)) = z at *
          go_wp2_with (go_at_call 66; refine (hsk _).mono ?_; rintro e w' ⟨rfl, rfl⟩)
          go_roundw
          case measure => simp [intOf]; omega
          case rel =>
            refine ⟨k + 1, by omega, by go_num, ?_, ht.chg (S := [wc.heap.size]) ((Chg.refl _ _).setCell (by simp) _) (by simpa using fun e => hbl.out e.symm), hc.setCell (p := ⟨wc.heap.size, k, none⟩) (.inr hcz) _⟩
            rw [← hos.out]
            exact hst.out _
        · obtain rfl : k = n := by omega
          have hend : outRow a T k = signedAll a T := by
            have := hTl.out
            unfold outRow signedAll
            rw [List.take_of_length_le (by omega), this]
            simp
          rw [hend] at ho
          go_wp2_with fail
          go_ret2
          refine ⟨.slice (some ⟨wc.heap.size, 0, none⟩) k k, [wc.heap.size], by trivial, ?_, by simpa using hcz, hc⟩
          rw [hTT.out]
          exact ho
end Go.Proofs.Ytlbkjhfnpjbjlaa
/- Term: months as whole numbers. -/
namespace Go.Proofs.Ytlbkjhfnpjbjlaa
open Go.RowKit Go.Vx
set_option linter.unusedVariables false
set_option linter.unusedSimpArgs false

/-- A month that there is. -/
def okTm (p : Int) : Bool := decide (0 ≤ p) && decide (p ≤ 1199)
theorem tm_ret_bool {a b : Bool} (h : a = b) : Ending.returned (Value.bool a) = .returned (.bool b) := by rw [h]
theorem okM_yes {p : Int} (h0 : 0 ≤ p) (h1 : p ≤ 1199) : okTm p = true := by unfold okTm; simp [h0, h1]
theorem okM_no {p : Int} (h : p < 0 ∨ 1199 < p) : okTm p = false := by unfold okTm; simp; omega
theorem okM_of {p : Int} (h : okTm p = true) : 0 ≤ p ∧ p ≤ 1199 := by unfold okTm at h; simpa using h
theorem tm_valid1 (p : Int) (w : World) : Calls Try.prog 57 #[.int .i64 p] w fun e w' => e = .returned (.bool (okTm p)) ∧ w = w' := by
  have h1 : 0 ≤ p → Hid (decide (p ≤ 1199) = okTm p) := fun h => Lib.hid (by unfold okTm; simp [h])
  have h2 : p < 0 → Hid (false = okTm p) := fun h => Lib.hid (by unfold okTm; simp; omega)
  go_enter Try.func57, Try.ntmps57
  go_wp2
  · go_ret
    exact ⟨tm_ret_bool (h1 (by omega)).out, rfl⟩
  · go_ret
    exact ⟨tm_ret_bool (h2 (by omega)).out, rfl⟩
/-- So many months on: the month, the error. -/
def onC (p n : Int) : Int × Int := if okTm p && (decide (-p ≤ n) && decide (n ≤ 1199 - p)) then (p + n, 0) else (0, 1)
theorem tm_on (p n : Int) (w : World) : Calls Try.prog 60 #[.int .i64 p, .int .i64 n] w fun e w' => e = .returned (.tuple #[.int .i64 (onC p n).1, .int .i64 (onC p n).2]) ∧ w = w' := by
  have hv := tm_valid1 p
  cases hp : okTm p with
  | false =>
    have hfin : Hid (onC p n = (0, 1)) := Lib.hid (by unfold onC; simp [hp])
    rw [hp] at hv
    clear hp
    go_enter Try.func60, Try.ntmps60
    go_wp2_with (go_at_call 57; refine (hv _).mono ?_; rintro e w' ⟨rfl, rfl⟩)
    go_ret2
    exact ⟨by rw [hfin.out]; rfl, rfl⟩
  | true =>
    obtain ⟨p0, p1⟩ := okM_of hp
    rw [hp] at hv
    have hb : (decide (n < -p) = true ∧ onC p n = (0, 1)) ∨ (decide (n < -p) = false ∧ decide (1199 - p < n) = true ∧ onC p n = (0, 1)) ∨ (decide (n < -p) = false ∧ decide (1199 - p < n) = false ∧ onC p n = (p + n, 0) ∧ 0 ≤ p + n ∧ p + n ≤ 1199) := by
      unfold onC
      rw [hp]
      by_cases h1 : n < -p
      · left
        simp only [decide_eq_true_eq]
        exact ⟨h1, by rw [if_neg (by simp; omega)]⟩
      · right
        by_cases h2 : 1199 - p < n
        · left
          simp only [decide_eq_true_eq, decide_eq_false_iff_not]
          exact ⟨h1, h2, by rw [if_neg (by simp; omega)]⟩
        · right
          simp only [decide_eq_true_eq, decide_eq_false_iff_not]
          exact ⟨h1, h2, by rw [if_pos (by simp; omega)], by omega, by omega⟩
    clear hp
    rcases hb with ⟨b1, e⟩ | ⟨b1, b2, e⟩ | ⟨b1, b2, e, r0, r1⟩
    · replace e := Lib.hid e
      go_enter Try.func60, Try.ntmps60
      go_wp2_with (go_at_call 57; refine (hv _).mono ?_; rintro e w' ⟨rfl, rfl⟩)
      go_ret2
      exact ⟨by rw [e.out]; rfl, rfl⟩
    · replace e := Lib.hid e
      go_enter Try.func60, Try.ntmps60
      go_wp2_with (go_at_call 57; refine (hv _).mono ?_; rintro e w' ⟨rfl, rfl⟩)
      go_ret2
      exact ⟨by rw [e.out]; rfl, rfl⟩
    · replace e := Lib.hid e
      go_enter Try.func60, Try.ntmps60
      go_wp2_with (go_at_call 57; refine (hv _).mono ?_; rintro e w' ⟨rfl, rfl⟩)
      go_ret2
      exact ⟨by rw [e.out]; rfl, rfl⟩
theorem tm_shift (p n : Int) (w : World) : Calls Try.prog 52 #[.int .i64 p, .int .i64 n] w fun e w' => e = .returned (.tuple #[.int .i64 (onC p n).1, .int .i64 (onC p n).2]) ∧ w = w' := by
  have ho := tm_on p n
  generalize (onC p n).1 = a at *
  generalize (onC p n).2 = b at *
  go_enter Try.func52, Try.ntmps52
  go_wp2_with (go_at_call 60; refine (ho _).mono ?_; rintro e w' ⟨rfl, rfl⟩)
  go_ret2
  exact ⟨rfl, rfl⟩
end Go.Proofs.Ytlbkjhfnpjbjlaa
/- Plan: what templates are. -/
namespace Go.Proofs.Ytlbkjhfnpjbjlaa
open Go.RowKit Go.Vx
set_option linter.unusedVariables false
set_option linter.unusedSimpArgs false

/-- A template. -/
structure Tp where
  kind : Int
  id : Int
  ent : Int
  frm : Int
  til : Int
  every : Int
  amt : Int
  deb : Int
  cred : Int
  tg : List Int
  wt : List Int
  rank : Int
def tpV (t : Tp) (tv wv : Value) : Value := .agg #[.int .i64 t.kind, .int .i64 t.id, .int .i64 t.ent, .int .i64 t.frm, .int .i64 t.til, .int .i64 t.every, .int .i64 t.amt, .int .i64 t.deb, .int .i64 t.cred, tv, wv, .int .i64 t.rank]
def codeB (n : Int) : Bool := decide (1 ≤ n) && decide (n ≤ 9999)
def frontT (t : Tp) : Bool := decide (1 ≤ t.id) && (decide (t.id ≤ 999999) && (decide (1 ≤ t.ent) && (decide (t.ent ≤ 9) && ((perB t.frm && perB t.til) && (decide (t.frm ≤ t.til) && (decide (1 ≤ t.every) && (decide (t.every ≤ 60) && (decide (1 ≤ t.amt) && (decide (t.amt ≤ 1000000000000000) && codeB t.cred)))))))))
def accB (t : Tp) : Bool := codeB t.deb && ((t.deb != t.cred) && (decide (t.tg.length = 0) && decide (t.wt.length = 0)))
/-- May a target be, behind the one before? -/
def tgAt (t : Tp) (i : Nat) : Bool := codeB (t.tg.getD i 0) && ((t.tg.getD i 0 != t.cred) && (decide (i = 0) || decide (t.tg.getD (i - 1) 0 < t.tg.getD i 0)))
def allB (t : Tp) : Bool := decide (1 ≤ t.tg.length) && (decide (t.tg.length < 8) && (decide (t.wt.length = t.tg.length) && ((List.range t.tg.length).all (tgAt t) && (okM t.amt && (weigh t.wt != 0)))))
def checkT (t : Tp) : Bool := frontT t && (if t.kind = 1 then accB t else if t.kind = 2 then allB t else false)
end Go.Proofs.Ytlbkjhfnpjbjlaa
/- Plan: code, front, accrual. -/
namespace Go.Proofs.Ytlbkjhfnpjbjlaa
open Go.RowKit Go.Vx
set_option linter.unusedVariables false
set_option linter.unusedSimpArgs false

theorem pl_code (n : Int) (w : World) : Calls Try.prog 48 #[.int .i64 n] w fun e w' => e = .returned (.bool (codeB n)) ∧ w = w' := by
  have h1 : 1 ≤ n → Hid (decide (n ≤ 9999) = codeB n) := fun h => Lib.hid (by unfold codeB; simp [h])
  have h2 : n < 1 → Hid (false = codeB n) := fun h => Lib.hid (by unfold codeB; simp; omega)
  go_enter Try.func48, Try.ntmps48
  go_wp2
  · go_ret
    exact ⟨ret_bool (h1 (by omega)).out, rfl⟩
  · go_ret
    exact ⟨ret_bool (h2 (by omega)).out, rfl⟩
theorem r1_code (n : Int) (w : World) : Calls Try.prog 25 #[.int .i64 n] w fun e w' => e = .returned (.bool (codeB n)) ∧ w = w' := by
  have h1 : 1 ≤ n → Hid (decide (n ≤ 9999) = codeB n) := fun h => Lib.hid (by unfold codeB; simp [h])
  have h2 : n < 1 → Hid (false = codeB n) := fun h => Lib.hid (by unfold codeB; simp; omega)
  go_enter Try.func25, Try.ntmps25
  go_wp2
  · go_ret
    exact ⟨ret_bool (h1 (by omega)).out, rfl⟩
  · go_ret
    exact ⟨ret_bool (h2 (by omega)).out, rfl⟩
set_option maxRecDepth 100000 in
set_option maxHeartbeats 4000000 in
theorem pl_accrual (t : Tp) (tA wA : Option Addr) (tc wc : Nat) (w : World) : Calls Try.prog 40 #[tpV t (.slice tA t.tg.length tc) (.slice wA t.wt.length wc)] w fun e w' => e = .returned (.bool (accB t)) ∧ Chg [] w w' := by
  obtain ⟨R, hR⟩ : ∃ R, accB t = R := ⟨_, rfl⟩
  have hRb : R = (codeB t.deb && ((t.deb != t.cred) && (decide (t.tg.length = 0) && decide (t.wt.length = 0)))) := by rw [← hR]; rfl
  rw [hR]
  clear hR
  have hcd := pl_code t.deb
  obtain ⟨kind, id, ent, frm, til, every, amt, deb, cred, tg, wt, rank⟩ := t
  unfold tpV
  dsimp only at *
  generalize tg.length = tn at *
  generalize wt.length = wn at *
  have hz := (Chg.refl [] w).alloc (.cells #[.int .i64 kind, .int .i64 id, .int .i64 ent, .int .i64 frm, .int .i64 til, .int .i64 every, .int .i64 amt, .int .i64 deb, .int .i64 cred, .slice tA tn tc, .slice wA wn wc, .int .i64 rank] 24)
  cases hc : codeB deb with
  | false =>
    have hR : Hid (R = false) := Lib.hid (by rw [hRb, hc]; rfl)
    rw [hc] at hcd
    clear hRb hc
    go_enter Try.func40, Try.ntmps40
    go_wp2_with fail
    refine (hcd _).mono ?_
    rintro e w2 ⟨rfl, rfl⟩
    go_wp2_with fail
    go_ret
    exact ⟨by rw [hR.out]; rfl, hz⟩
  | true =>
  rw [hc] at hcd
  cases p1 : (deb != cred) with
  | false =>
    have hR : Hid (R = false) := Lib.hid (by rw [hRb, hc, p1]; rfl)
    clear hRb hc
    go_enter Try.func40, Try.ntmps40
    go_wp2_with fail
    refine (hcd _).mono ?_
    rintro e w2 ⟨rfl, rfl⟩
    go_wp2_with fail
    go_ret
    exact ⟨by rw [hR.out]; rfl, hz⟩
  | true =>
  by_cases h2 : tn = 0
  · have p2 : ((tn : Int) == 0) = true := beq_iff_eq.2 (by omega)
    have hR : Hid (R = ((wn : Int) == 0)) := Lib.hid (by
      rw [hRb, hc, p1, h2, Bool.eq_iff_iff]
      simp)
    rw [hR.out]
    clear hRb hc h2
    go_enter Try.func40, Try.ntmps40
    go_wp2_with fail
    refine (hcd _).mono ?_
    rintro e w2 ⟨rfl, rfl⟩
    go_wp2_with fail
    go_ret
    exact ⟨rfl, hz⟩
  · have p2 : ((tn : Int) == 0) = false := beq_eq_false_iff_ne.2 (by omega)
    have hR : Hid (R = false) := Lib.hid (by rw [hRb, hc, p1, decide_eq_false h2]; rfl)
    clear hRb hc h2
    go_enter Try.func40, Try.ntmps40
    go_wp2_with fail
    refine (hcd _).mono ?_
    rintro e w2 ⟨rfl, rfl⟩
    go_wp2_with fail
    go_ret
    exact ⟨by rw [hR.out]; rfl, hz⟩
end Go.Proofs.Ytlbkjhfnpjbjlaa
/- Plan: front. Printed by wip/plc.py. -/
namespace Go.Proofs.Ytlbkjhfnpjbjlaa
open Go.RowKit Go.Vx
set_option linter.unusedVariables false
set_option linter.unusedSimpArgs false

set_option maxRecDepth 100000 in
set_option maxHeartbeats 4000000 in
theorem pl_front (t : Tp) (tA wA : Option Addr) (tn wn tc wc : Nat) (w : World) : Calls Try.prog 31 #[tpV t (.slice tA tn tc) (.slice wA wn wc)] w fun e w' => e = .returned (.bool (frontT t)) ∧ Chg [] w w' := by
  obtain ⟨R, hR⟩ : ∃ R, frontT t = R := ⟨_, rfl⟩
  have hRb : R = (decide (1 ≤ t.id) && (decide (t.id ≤ 999999) && (decide (1 ≤ t.ent) && (decide (t.ent ≤ 9) && ((perB t.frm && perB t.til) && (decide (t.frm ≤ t.til) && (decide (1 ≤ t.every) && (decide (t.every ≤ 60) && (decide (1 ≤ t.amt) && (decide (t.amt ≤ 1000000000000000) && codeB t.cred)))))))))) := by rw [← hR]; rfl
  rw [hR]
  clear hR
  have hcd := pl_code t.cred
  obtain ⟨kind, id, ent, frm, til, every, amt, deb, cred, tg, wt, rank⟩ := t
  unfold tpV
  dsimp only at *
  have hz := (Chg.refl [] w).alloc (.cells #[.int .i64 kind, .int .i64 id, .int .i64 ent, .int .i64 frm, .int .i64 til, .int .i64 every, .int .i64 amt, .int .i64 deb, .int .i64 cred, .slice tA tn tc, .slice wA wn wc, .int .i64 rank] 24)
  have hB := Blk.new w 24 #[.int .i64 kind, .int .i64 id, .int .i64 ent, .int .i64 frm, .int .i64 til, .int .i64 every, .int .i64 amt, .int .i64 deb, .int .i64 cred, .slice tA tn tc, .slice wA wn wc, .int .i64 rank]
  have hval := jo_valid (w := (w.alloc (.cells #[.int .i64 kind, .int .i64 id, .int .i64 ent, .int .i64 frm, .int .i64 til, .int .i64 every, .int .i64 amt, .int .i64 deb, .int .i64 cred, .slice tA tn tc, .slice wA wn wc, .int .i64 rank] 24)).alloc (.cells #[.int .i64 frm, .int .i64 til] 3)) (A := some ⟨w.heap.size + 1, 0, none⟩) (n := 2) (c := 2) (l := [frm, til]) (Src.lit (B := w.heap.size + 1) (m := 2) (by simp) rfl) (by omega)
  simp only [List.all_cons, List.all_nil, Bool.and_true] at hval
  have hB2 := hB.alloc (.cells #[.int .i64 frm, .int .i64 til] 3)
  have hz2 := hz.alloc (.cells #[.int .i64 frm, .int .i64 til] 3)
  cases p0 : decide (1 ≤ id) with
  | false =>
    have hR : Hid (R = false) := Lib.hid (by rw [hRb, p0]; simp)
    clear hRb hB
    go_enter Try.func31, Try.ntmps31
    go_wp2_with fail
    go_ret
    exact ⟨by rw [hR.out]; rfl, hz⟩
  | true =>
  rw [p0] at hRb
  cases p1 : decide (id ≤ 999999) with
  | false =>
    have hR : Hid (R = false) := Lib.hid (by rw [hRb, p1]; simp)
    clear hRb hB
    go_enter Try.func31, Try.ntmps31
    go_wp2_with fail
    go_ret
    exact ⟨by rw [hR.out]; rfl, hz⟩
  | true =>
  rw [p1] at hRb
  cases p2 : decide (1 ≤ ent) with
  | false =>
    have hR : Hid (R = false) := Lib.hid (by rw [hRb, p2]; simp)
    clear hRb hB
    go_enter Try.func31, Try.ntmps31
    go_wp2_with fail
    go_ret
    exact ⟨by rw [hR.out]; rfl, hz⟩
  | true =>
  rw [p2] at hRb
  cases p3 : decide (ent ≤ 9) with
  | false =>
    have hR : Hid (R = false) := Lib.hid (by rw [hRb, p3]; simp)
    clear hRb hB
    go_enter Try.func31, Try.ntmps31
    go_wp2_with fail
    go_ret
    exact ⟨by rw [hR.out]; rfl, hz⟩
  | true =>
  rw [p3] at hRb
  cases hp : (perB frm && perB til) with
  | false =>
    have hR : Hid (R = false) := Lib.hid (by rw [hRb, hp]; simp)
    rw [hp] at hval
    clear hRb hp hB
    go_enter Try.func31, Try.ntmps31
    go_wp2_with fail
    refine hval.mono ?_
    rintro e w2 ⟨rfl, hz3⟩
    have hB3 := hB2.chg hz3 (by simp)
    have d3 := hB3.cell 3
    have d4 := hB3.cell 4
    have d5 := hB3.cell 5
    have d6 := hB3.cell 6
    have d8 := hB3.cell 8
    clear hB2 hB3 hval
    go_wp2_with fail
    go_ret
    exact ⟨by rw [hR.out]; rfl, hz2.trans' hz3⟩
  | true =>
  rw [hp] at hval hRb
  clear hp
  cases p5 : decide (frm ≤ til) with
  | false =>
    have hR : Hid (R = false) := Lib.hid (by rw [hRb, p5]; simp)
    clear hRb hB
    go_enter Try.func31, Try.ntmps31
    go_wp2_with fail
    refine hval.mono ?_
    rintro e w2 ⟨rfl, hz3⟩
    have hB3 := hB2.chg hz3 (by simp)
    have d3 := hB3.cell 3
    have d4 := hB3.cell 4
    have d5 := hB3.cell 5
    have d6 := hB3.cell 6
    have d8 := hB3.cell 8
    clear hB2 hB3 hval
    go_wp2_with fail
    go_ret
    exact ⟨by rw [hR.out]; rfl, hz2.trans' hz3⟩
  | true =>
  rw [p5] at hRb
  cases p6 : decide (1 ≤ every) with
  | false =>
    have hR : Hid (R = false) := Lib.hid (by rw [hRb, p6]; simp)
    clear hRb hB
    go_enter Try.func31, Try.ntmps31
    go_wp2_with fail
    refine hval.mono ?_
    rintro e w2 ⟨rfl, hz3⟩
    have hB3 := hB2.chg hz3 (by simp)
    have d3 := hB3.cell 3
    have d4 := hB3.cell 4
    have d5 := hB3.cell 5
    have d6 := hB3.cell 6
    have d8 := hB3.cell 8
    clear hB2 hB3 hval
    go_wp2_with fail
    go_ret
    exact ⟨by rw [hR.out]; rfl, hz2.trans' hz3⟩
  | true =>
  rw [p6] at hRb
  cases p7 : decide (every ≤ 60) with
  | false =>
    have hR : Hid (R = false) := Lib.hid (by rw [hRb, p7]; simp)
    clear hRb hB
    go_enter Try.func31, Try.ntmps31
    go_wp2_with fail
    refine hval.mono ?_
    rintro e w2 ⟨rfl, hz3⟩
    have hB3 := hB2.chg hz3 (by simp)
    have d3 := hB3.cell 3
    have d4 := hB3.cell 4
    have d5 := hB3.cell 5
    have d6 := hB3.cell 6
    have d8 := hB3.cell 8
    clear hB2 hB3 hval
    go_wp2_with fail
    go_ret
    exact ⟨by rw [hR.out]; rfl, hz2.trans' hz3⟩
  | true =>
  rw [p7] at hRb
  cases p8 : decide (1 ≤ amt) with
  | false =>
    have hR : Hid (R = false) := Lib.hid (by rw [hRb, p8]; simp)
    clear hRb hB
    go_enter Try.func31, Try.ntmps31
    go_wp2_with fail
    refine hval.mono ?_
    rintro e w2 ⟨rfl, hz3⟩
    have hB3 := hB2.chg hz3 (by simp)
    have d3 := hB3.cell 3
    have d4 := hB3.cell 4
    have d5 := hB3.cell 5
    have d6 := hB3.cell 6
    have d8 := hB3.cell 8
    clear hB2 hB3 hval
    go_wp2_with fail
    go_ret
    exact ⟨by rw [hR.out]; rfl, hz2.trans' hz3⟩
  | true =>
  rw [p8] at hRb
  cases p9 : decide (amt ≤ 1000000000000000) with
  | false =>
    have hR : Hid (R = false) := Lib.hid (by rw [hRb, p9]; simp)
    clear hRb hB
    go_enter Try.func31, Try.ntmps31
    go_wp2_with fail
    refine hval.mono ?_
    rintro e w2 ⟨rfl, hz3⟩
    have hB3 := hB2.chg hz3 (by simp)
    have d3 := hB3.cell 3
    have d4 := hB3.cell 4
    have d5 := hB3.cell 5
    have d6 := hB3.cell 6
    have d8 := hB3.cell 8
    clear hB2 hB3 hval
    go_wp2_with fail
    go_ret
    exact ⟨by rw [hR.out]; rfl, hz2.trans' hz3⟩
  | true =>
  rw [p9] at hRb
  have hR : Hid (R = codeB cred) := Lib.hid (by rw [hRb]; simp)
  clear hRb hB
  go_enter Try.func31, Try.ntmps31
  go_wp2_with fail
  refine hval.mono ?_
  rintro e w2 ⟨rfl, hz3⟩
  have hB3 := hB2.chg hz3 (by simp)
  have d3 := hB3.cell 3
  have d4 := hB3.cell 4
  have d5 := hB3.cell 5
  have d6 := hB3.cell 6
  have d8 := hB3.cell 8
  clear hB2 hB3 hval
  go_wp2_with fail
  refine (hcd _).mono ?_
  rintro e w3 ⟨rfl, rfl⟩
  go_wp2_with fail
  go_ret
  exact ⟨by rw [hR.out]; rfl, hz2.trans' hz3⟩
end Go.Proofs.Ytlbkjhfnpjbjlaa
/- Plan: allocation. -/
namespace Go.Proofs.Ytlbkjhfnpjbjlaa
open Go.RowKit Go.Vx
set_option linter.unusedVariables false
set_option linter.unusedSimpArgs false

theorem range_all {p : Nat → Bool} {n : Nat} : (List.range n).all p = true ↔ ∀ i, i < n → p i = true := by simp [List.all_eq_true]
set_option maxRecDepth 100000 in
set_option maxHeartbeats 8000000 in
theorem pl_allocation (t : Tp) {tA wA : Option Addr} {tn wn tc wc : Nat} {w : World} (ht : Src w 1 tA tn (t.tg.map (Value.int .i64))) (hw : Src w 1 wA wn (t.wt.map (Value.int .i64))) (htn : tn ≤ 1000000) (hwn : wn ≤ 1000000) :
    Calls Try.prog 42 #[tpV t (.slice tA tn tc) (.slice wA wn wc)] w fun e w' => e = .returned (.bool (allB t)) ∧ Chg [] w w' := by
  have hlt : t.tg.length = tn := by have := ht.1; simpa using this
  have hlw : t.wt.length = wn := by have := hw.1; simpa using this
  obtain ⟨R, hR⟩ : ∃ R, allB t = R := ⟨_, rfl⟩
  have hRb : R = (decide (1 ≤ tn) && (decide (tn < 8) && (decide (wn = tn) && ((List.range tn).all (tgAt t) && (okM t.amt && (weigh t.wt != 0)))))) := by rw [← hR, ← hlt, ← hlw]; rfl
  rw [hR]
  clear hR
  have htg : ∀ i, i < tn → tgAt t i = (codeB (t.tg.getD i 0) && ((t.tg.getD i 0 != t.cred) && (decide (i = 0) || decide (t.tg.getD (i - 1) 0 < t.tg.getD i 0)))) := fun i _ => rfl
  have hcode := pl_code
  have hsg := fun W (z : Chg [] w W) (h0 : okM t.amt = true) (h1 : weigh t.wt ≠ 0) => split_good (c := wc) (hw.chg z (by simp)) h0 h1
  have hsb := fun W (z : Chg [] w W) (h : ¬ (okM t.amt = true ∧ weigh t.wt ≠ 0)) => split_bad (c := wc) (hw.chg z (by simp)) hwn h
  have hcell : ∀ W, Chg [] w W → ∀ i, i < tn → ∃ ad, tA = some ad ∧ W.cell? (ad.add i) = some (.int .i64 (t.tg.getD i 0)) := fun W z i hi => by
    obtain ⟨ad, ha, hc⟩ := (ht.chg z (by simp)).2 (by omega)
    refine ⟨ad, ha, hc i _ ?_⟩
    rw [List.getElem?_map, List.getElem?_eq_getElem (by omega)]
    simp [List.getD, List.getElem?_eq_getElem (show i < t.tg.length by omega)]
  generalize hall : (List.range tn).all (tgAt t) = al at hRb
  have hbad : ∀ i, i < tn → tgAt t i = false → al = false := fun i hi h => by
    rw [← hall]
    exact List.all_eq_false.2 ⟨i, List.mem_range.2 hi, by rw [h]; simp⟩
  have hgood : (∀ i, i < tn → tgAt t i = true) → al = true := fun h => by rw [← hall]; exact range_all.2 h
  generalize tgAt t = tgp at *
  obtain ⟨kind, id, ent, frm, til, every, amt, deb, cred, tg, wt, rank⟩ := t
  unfold tpV
  dsimp only at *
  clear hlt hlw ht hw hall
  have hz := (Chg.refl [] w).alloc (.cells #[.int .i64 kind, .int .i64 id, .int .i64 ent, .int .i64 frm, .int .i64 til, .int .i64 every, .int .i64 amt, .int .i64 deb, .int .i64 cred, .slice tA tn tc, .slice wA wn wc, .int .i64 rank] 24)
  have hB := Blk.new w 24 #[.int .i64 kind, .int .i64 id, .int .i64 ent, .int .i64 frm, .int .i64 til, .int .i64 every, .int .i64 amt, .int .i64 deb, .int .i64 cred, .slice tA tn tc, .slice wA wn wc, .int .i64 rank]
  replace htg := Lib.hid htg
  replace hsg := Lib.hid hsg
  replace hsb := Lib.hid hsb
  replace hcell := Lib.hid hcell
  replace hbad := Lib.hid hbad
  replace hgood := Lib.hid hgood
  replace hcode := Lib.hid hcode
  by_cases h1 : tn < 1
  · have b1 : decide ((tn : Int) < 1) = true := by simp; omega
    have hR : Hid (R = false) := Lib.hid (by rw [hRb, decide_eq_false (show ¬ 1 ≤ tn by omega)]; rfl)
    clear hRb h1 hB
    go_enter Try.func42, Try.ntmps42
    go_wp2_with fail
    go_ret
    exact ⟨by rw [hR.out]; rfl, hz⟩
  have b1 : decide ((tn : Int) < 1) = false := by simp; omega
  by_cases h2 : 8 ≤ tn
  · have b2 : decide ((8 : Int) ≤ tn) = true := by simp; omega
    have hR : Hid (R = false) := Lib.hid (by rw [hRb, decide_eq_false (show ¬ tn < 8 by omega)]; simp)
    clear hRb h1 h2 hB
    go_enter Try.func42, Try.ntmps42
    go_wp2_with fail
    go_ret
    exact ⟨by rw [hR.out]; rfl, hz⟩
  have b2 : decide ((8 : Int) ≤ tn) = false := by simp; omega
  by_cases h3 : wn = tn
  case neg =>
    have b3 : ((wn : Int) != (tn : Int)) = true := bne_iff_ne.2 (by omega)
    have hR : Hid (R = false) := Lib.hid (by rw [hRb, decide_eq_false h3]; simp)
    clear hRb h1 h2 h3 hB
    go_enter Try.func42, Try.ntmps42
    go_wp2_with fail
    go_ret
    exact ⟨by rw [hR.out]; rfl, hz⟩
  subst h3
  have hRb2 : R = (al && (okM amt && (weigh wt != 0))) := by rw [hRb, decide_eq_true (show 1 ≤ wn by omega), decide_eq_true (show wn < 8 by omega)]; simp
  replace hRb2 := Lib.hid hRb2
  have hn8 : wn < 8 := by omega
  clear hRb h1 h2
  go_enter Try.func42, Try.ntmps42
  go_wp2_with fail
  obtain ⟨w1, hw1⟩ : ∃ w1, w1 = w.alloc (.cells #[.int .i64 kind, .int .i64 id, .int .i64 ent, .int .i64 frm, .int .i64 til, .int .i64 every, .int .i64 amt, .int .i64 deb, .int .i64 cred, .slice tA wn tc, .slice wA wn wc, .int .i64 rank] 24) := ⟨_, rfl⟩
  rw [← hw1] at hB hz ⊢
  clear hw1
  obtain ⟨jb, hjb⟩ : ∃ jb, w.heap.size = jb := ⟨_, rfl⟩
  rw [hjb] at hB ⊢
  clear hjb
  have hBc := fun W (k : Chg [] w1 W) => hB.chg k (by simp)
  replace hBc := Lib.hid hBc
  clear hB
  go_loopw [29] (fun iv wr => ∃ k : Nat, k ≤ wn ∧ iv = .int .i64 k ∧ (∀ i, i < k → tgp i = true) ∧ Chg [] w1 wr) (fun iv _ => wn - (intOf iv).toNat)
  case atStart => exact ⟨0, by omega, rfl, fun i h => by omega, Chg.refl _ _⟩
  case round =>
    obtain ⟨k, hk, rfl, hj, hzr⟩ := hrel
    have hzw := hz.trans' hzr
    have hB2 := hBc.out _ hzr
    have d6 : wr.cell? ⟨jb, 6, none⟩ = some (.int .i64 amt) := hB2.cell 6
    have d8 : wr.cell? ⟨jb, 8, none⟩ = some (.int .i64 cred) := hB2.cell 8
    have d9 : wr.cell? ⟨jb, 9, none⟩ = some (.slice tA wn tc) := hB2.cell 9
    have d10 : wr.cell? ⟨jb, 10, none⟩ = some (.slice wA wn wc) := hB2.cell 10
    clear hB2
    by_cases hlt : k < wn
    · obtain ⟨ad, hA, c0⟩ := hcell.out _ hzw k hlt
      have hcd := hcode.out (tg.getD k 0)
      have htk := htg.out k hlt
      have hlt2 : (k : Int) < (wn : Int) := by omega
      have hkw : IntKind.i64.wrap ((k : Int) + 1) = (k : Int) + 1 := by rw [IntKind.wrap_i64]; omega
      have hno : tgp k = false → Hid (R = false) := fun h => Lib.hid (by rw [hRb2.out, hbad.out k hlt h]; rfl)
      have hyes : tgp k = true → Hid (∀ i, i < k + 1 → tgp i = true) := fun h => Lib.hid (fun i hi => by
        by_cases e : i = k
        · subst e; exact h
        · exact hj i (by omega))
      rw [htk] at hno hyes
      clear hj htk
      cases hc : codeB (tg.getD k 0) with
      | false =>
        have hR := hno (by rw [hc]; rfl)
        rw [hc] at hcd
        subst hA
        clear hno hyes
        generalize tg.getD k 0 = x at *
        go_wp2_with fail
        refine (hcd _).mono ?_
        rintro e w2 ⟨rfl, rfl⟩
        go_wp2_with fail
        go_ret
        exact ⟨by rw [hR.out]; rfl, hzw⟩
      | true =>
      rw [hc] at hcd
      cases p1 : (tg.getD k 0 != cred) with
      | false =>
        have hR := hno (by rw [hc, p1]; rfl)
        have p1' : (tg.getD k 0 == cred) = true := by simpa using p1
        subst hA
        clear hno hyes
        generalize tg.getD k 0 = x at *
        go_wp2_with fail
        refine (hcd _).mono ?_
        rintro e w2 ⟨rfl, rfl⟩
        go_wp2_with fail
        go_ret
        exact ⟨by rw [hR.out]; rfl, hzw⟩
      | true =>
      have p1' : (tg.getD k 0 == cred) = false := by simpa using p1
      by_cases hk0 : k = 0
      · have hx := hyes (by rw [hc, p1, decide_eq_true hk0]; rfl)
        subst hk0
        subst hA
        have c0' : wr.cell? ad = some (.int .i64 (tg.getD 0 0)) := by
          have := c0
          unfold Addr.add at this
          simpa using this
        clear hno hyes c0
        generalize tg.getD 0 0 = x at *
        go_wp2_with fail
        refine (hcd _).mono ?_
        rintro e w2 ⟨rfl, rfl⟩
        go_wp2_with fail
        exact ⟨⟨1, by omega, rfl, hx.out, hzr⟩, by simp [intOf]; omega⟩
      · obtain ⟨ad', hA', c1⟩ := hcell.out _ hzw (k - 1) (by omega)
        rw [hA] at hA'
        injection hA' with hA'
        subst hA'
        subst hA
        have hk1 : IntKind.i64.wrap ((k : Int) - 1) = ((k - 1 : Nat) : Int) := by rw [IntKind.wrap_i64]; omega
        have b4 : (0 : Int) < (k : Int) := by omega
        have b4' : 0 < k := by omega
        have hk3 : k - 1 < wn := by omega
        have hk2 : ((k - 1 : Nat) : Int) < (wn : Int) := by omega
        cases p2 : decide (tg.getD (k - 1) 0 < tg.getD k 0) with
        | true =>
          have hx := hyes (by rw [hc, p1, p2]; simp)
          have b5 : decide (tg.getD k 0 ≤ tg.getD (k - 1) 0) = false := by simp at p2 ⊢; omega
          clear hno hyes p2
          replace hk0 := Lib.hid hk0
          generalize tg.getD k 0 = x at *
          generalize tg.getD (k - 1) 0 = y at *
          generalize k - 1 = m at *
          go_wp2_with fail
          refine (hcd _).mono ?_
          rintro e w2 ⟨rfl, rfl⟩
          go_wp2_with fail
          exact ⟨⟨k + 1, by omega, by go_num, hx.out, hzr⟩, by simp [intOf]; omega⟩
        | false =>
          have hR := hno (by rw [hc, p1, p2, decide_eq_false hk0]; rfl)
          have b5 : decide (tg.getD k 0 ≤ tg.getD (k - 1) 0) = true := by simp at p2 ⊢; omega
          clear hno hyes p2
          replace hk0 := Lib.hid hk0
          generalize tg.getD k 0 = x at *
          generalize tg.getD (k - 1) 0 = y at *
          generalize k - 1 = m at *
          go_wp2_with fail
          refine (hcd _).mono ?_
          rintro e w2 ⟨rfl, rfl⟩
          go_wp2_with fail
          go_ret
          exact ⟨by rw [hR.out]; rfl, hzw⟩
    · obtain rfl : k = wn := by omega
      have hal := hgood.out hj
      clear hj
      by_cases hs : okM amt = true ∧ weigh wt ≠ 0
      · have hR : Hid (R = true) := Lib.hid (by rw [hRb2.out, hal, hs.1]; simp [hs.2])
        have hsp := hsg.out _ hzw hs.1 hs.2
        clear hs hal
        go_wp2_with fail
        refine hsp.mono ?_
        rintro e w2 ⟨v, F, rfl, -, -, hz2⟩
        clear hsp
        go_wp2_with fail
        go_ret
        exact ⟨by rw [hR.out]; rfl, hzw.trans' hz2⟩
      · have hR : Hid (R = false) := Lib.hid (by
          rw [hRb2.out, hal]
          cases ho : okM amt with
          | false => rfl
          | true =>
            have : weigh wt = 0 := Decidable.byContradiction fun h => hs ⟨ho, h⟩
            simp [this])
        have hsp := hsb.out _ hzw hs
        clear hs hal
        go_wp2_with fail
        refine hsp.mono ?_
        rintro e w2 ⟨rfl, hz2⟩
        clear hsp
        go_wp2_with fail
        go_ret
        exact ⟨by rw [hR.out]; rfl, hzw.trans' hz2⟩
end Go.Proofs.Ytlbkjhfnpjbjlaa
/- Plan: way, Check. -/
namespace Go.Proofs.Ytlbkjhfnpjbjlaa
open Go.RowKit Go.Vx
set_option linter.unusedVariables false
set_option linter.unusedSimpArgs false

def fnV (f : FuncId) : Value := .func (.func f) #[] #[]
/-- A store of a value of one cell. -/
theorem store_one (W : World) (a : Addr) {v : Value} (h1 : v.oneCell' = true) (u : Value) (hc : W.cell? a = some u) (hf : W.frozen? a = false) : (store a v).run Try.prog W = .ok () (W.setCell a v) := by
  rw [run_store Try.prog W a v _ h1, hc]
  simp [hf]
theorem set_new (w0 : World) (t : TypeId) (cs : Array Value) (i : Nat) (v : Value) : (w0.alloc (.cells cs t)).setCell ⟨w0.heap.size, i, none⟩ v = w0.alloc (.cells (cs.setIfInBounds i v) t) := by
  unfold World.setCell World.alloc
  congr 1
  apply Array.ext_getElem?
  intro k
  rw [Array.getElem?_modify]
  by_cases hk : w0.heap.size = k
  · subst hk; simp
  · rw [if_neg hk]
    by_cases hl : k < w0.heap.size
    · rw [Array.getElem?_push_lt hl, Array.getElem?_push_lt hl]
    · rw [Array.getElem?_eq_none (by simp; omega), Array.getElem?_eq_none (by simp; omega)]
theorem store_ways (w0 : World) (B : Nat) (hB : w0.heap.size = B) {va vb : Value} (ha : va.oneCell' = true) (hb' : vb.oneCell' = true) : (store ⟨B, 0, none⟩ va).run Try.prog (w0.alloc (.cells #[.nilFunc, .nilFunc] 69)) = .ok () (w0.alloc (.cells #[va, .nilFunc] 69)) ∧
    (store ⟨B, 1, none⟩ vb).run Try.prog (w0.alloc (.cells #[va, .nilFunc] 69)) = .ok () (w0.alloc (.cells #[va, vb] 69)) ∧
    Blk (w0.alloc (.cells #[va, vb] 69)) B 69 #[va, vb] := by
  subst hB
  have hb := Blk.new w0 69 #[.nilFunc, .nilFunc]
  have hb1 := Blk.new w0 69 #[va, .nilFunc]
  have h1 := store_one _ _ ha _ (hb.cell 0) (hb.frozen 0)
  have h2 := store_one _ _ hb' _ (hb1.cell 1) (hb1.frozen 1)
  rw [set_new] at h1 h2
  exact ⟨h1, h2, Blk.new _ _ _⟩
set_option maxRecDepth 100000 in
set_option maxHeartbeats 4000000 in
theorem pl_way (t : Tp) (tA wA : Option Addr) (tn wn tc wc : Nat) (w : World) : Calls Try.prog 28 #[tpV t (.slice tA tn tc) (.slice wA wn wc)] w fun e w' => (∃ a b, e = .returned (.tuple #[.agg #[a, b], .bool (decide (t.kind = 1) || decide (t.kind = 2))]) ∧ a.oneCell' = true ∧ b.oneCell' = true ∧ (t.kind = 1 → a = fnV 40 ∧ b = fnV 41) ∧ (t.kind = 2 → a = fnV 42 ∧ b = fnV 43)) ∧ Chg [] w w' := by
  obtain ⟨kind, id, ent, frm, til, every, amt, deb, cred, tg, wt, rank⟩ := t
  unfold tpV
  dsimp only
  obtain ⟨PP, hPP⟩ : ∃ PP : Ending → World → Prop, PP = fun e w' => (∃ a b, e = .returned (.tuple #[.agg #[a, b], .bool (decide (kind = 1) || decide (kind = 2))]) ∧ a.oneCell' = true ∧ b.oneCell' = true ∧ (kind = 1 → a = fnV 40 ∧ b = fnV 41) ∧ (kind = 2 → a = fnV 42 ∧ b = fnV 43)) ∧ Chg [] w w' := ⟨_, rfl⟩
  rw [← hPP]
  by_cases h1 : kind = 1
  · subst h1
    replace hPP := Lib.hid hPP
    obtain ⟨s1, s2, hBl⟩ := store_ways (w.alloc (.cells #[.int .i64 1, .int .i64 id, .int .i64 ent, .int .i64 frm, .int .i64 til, .int .i64 every, .int .i64 amt, .int .i64 deb, .int .i64 cred, .slice tA tn tc, .slice wA wn wc, .int .i64 rank] 24)) (w.heap.size + 1) (by simp) (va := .func (.func 40) #[] #[]) (vb := .func (.func 41) #[] #[]) rfl rfl
    have d0 := hBl.cell 0
    have d1 := hBl.cell 1
    have hz := ((Chg.refl [] w).alloc (.cells #[.int .i64 1, .int .i64 id, .int .i64 ent, .int .i64 frm, .int .i64 til, .int .i64 every, .int .i64 amt, .int .i64 deb, .int .i64 cred, .slice tA tn tc, .slice wA wn wc, .int .i64 rank] 24)).alloc (.cells #[.func (.func 40) #[] #[], .func (.func 41) #[] #[]] 69)
    replace hz := Lib.hid hz
    clear hBl
    go_enter Try.func28, Try.ntmps28
    go_wp2_with fail
    refine bodyPost_ret (v := .tuple #[.agg #[.func (.func 40) #[] #[], .func (.func 41) #[] #[]], .bool true]) (by rw [results_cell_tmp rfl]; go_simp) rfl ?_
    rw [hPP.out]
    exact ⟨⟨_, _, rfl, rfl, rfl, fun _ => ⟨rfl, rfl⟩, fun h => absurd h (by decide)⟩, hz.out⟩
  have b1 : (kind == 1) = false := beq_eq_false_iff_ne.2 h1
  by_cases h2 : kind = 2
  · subst h2
    replace hPP := Lib.hid hPP
    clear h1 b1
    obtain ⟨s1, s2, hBl⟩ := store_ways (w.alloc (.cells #[.int .i64 2, .int .i64 id, .int .i64 ent, .int .i64 frm, .int .i64 til, .int .i64 every, .int .i64 amt, .int .i64 deb, .int .i64 cred, .slice tA tn tc, .slice wA wn wc, .int .i64 rank] 24)) (w.heap.size + 1) (by simp) (va := .func (.func 42) #[] #[]) (vb := .func (.func 43) #[] #[]) rfl rfl
    have d0 := hBl.cell 0
    have d1 := hBl.cell 1
    have hz := ((Chg.refl [] w).alloc (.cells #[.int .i64 2, .int .i64 id, .int .i64 ent, .int .i64 frm, .int .i64 til, .int .i64 every, .int .i64 amt, .int .i64 deb, .int .i64 cred, .slice tA tn tc, .slice wA wn wc, .int .i64 rank] 24)).alloc (.cells #[.func (.func 42) #[] #[], .func (.func 43) #[] #[]] 69)
    replace hz := Lib.hid hz
    clear hBl
    go_enter Try.func28, Try.ntmps28
    go_wp2_with fail
    refine bodyPost_ret (v := .tuple #[.agg #[.func (.func 42) #[] #[], .func (.func 43) #[] #[]], .bool true]) (by rw [results_cell_tmp rfl]; go_simp) rfl ?_
    rw [hPP.out]
    exact ⟨⟨_, _, rfl, rfl, rfl, fun h => absurd h (by decide), fun _ => ⟨rfl, rfl⟩⟩, hz.out⟩
  · have b2 : (kind == 2) = false := beq_eq_false_iff_ne.2 h2
    replace hPP := Lib.hid hPP
    have h12 := Lib.hid (And.intro h1 h2)
    obtain ⟨s1, s2, hBl⟩ := store_ways (w.alloc (.cells #[.int .i64 kind, .int .i64 id, .int .i64 ent, .int .i64 frm, .int .i64 til, .int .i64 every, .int .i64 amt, .int .i64 deb, .int .i64 cred, .slice tA tn tc, .slice wA wn wc, .int .i64 rank] 24)) (w.heap.size + 1) (by simp) (va := .nilFunc) (vb := .nilFunc) rfl rfl
    have d0 := hBl.cell 0
    have d1 := hBl.cell 1
    have hz := ((Chg.refl [] w).alloc (.cells #[.int .i64 kind, .int .i64 id, .int .i64 ent, .int .i64 frm, .int .i64 til, .int .i64 every, .int .i64 amt, .int .i64 deb, .int .i64 cred, .slice tA tn tc, .slice wA wn wc, .int .i64 rank] 24)).alloc (.cells #[.nilFunc, .nilFunc] 69)
    replace hz := Lib.hid hz
    clear h1 h2 hBl
    go_enter Try.func28, Try.ntmps28
    go_wp2_with fail
    refine bodyPost_ret (v := .tuple #[.agg #[.nilFunc, .nilFunc], .bool false]) (by rw [results_cell_tmp rfl]; go_simp) rfl ?_
    rw [hPP.out]
    exact ⟨⟨_, _, by rw [decide_eq_false h12.out.1, decide_eq_false h12.out.2]; rfl, rfl, rfl, fun h => absurd h h12.out.1, fun h => absurd h h12.out.2⟩, hz.out⟩
end Go.Proofs.Ytlbkjhfnpjbjlaa
/- Plan: Check. Printed by wip/plf.py. -/
namespace Go.Proofs.Ytlbkjhfnpjbjlaa
open Go.RowKit Go.Vx
set_option linter.unusedVariables false
set_option linter.unusedSimpArgs false

def chkE (t : Tp) : Int := if checkT t = true then 0 else 1
set_option maxRecDepth 100000 in
set_option maxHeartbeats 8000000 in
theorem pl_check (t : Tp) {tA wA : Option Addr} {tn wn tc wc : Nat} {w : World} (ht : Src w 1 tA tn (t.tg.map (Value.int .i64))) (hw : Src w 1 wA wn (t.wt.map (Value.int .i64))) (htn : tn ≤ 1000000) (hwn : wn ≤ 1000000) :
    Calls Try.prog 14 #[tpV t (.slice tA tn tc) (.slice wA wn wc)] w fun e w' => e = .returned (.int .i64 (chkE t)) ∧ Chg [] w w' := by
  have hlt : t.tg.length = tn := by have := ht.1; simpa using this
  have hlw : t.wt.length = wn := by have := hw.1; simpa using this
  obtain ⟨R, hR⟩ : ∃ R, chkE t = R := ⟨_, rfl⟩
  have hRb : R = if (frontT t && (if t.kind = 1 then accB t else if t.kind = 2 then allB t else false)) = true then 0 else 1 := by rw [← hR]; rfl
  rw [hR]
  clear hR
  have hway := fun W => pl_way t tA wA tn wn tc wc W
  have hfr := fun W => pl_front t tA wA tn wn tc wc W
  have hac := fun W => pl_accrual t tA wA tc wc W
  rw [hlt, hlw] at hac
  have hal := fun W (z : Chg [] w W) => pl_allocation t (tc := tc) (wc := wc) (ht.chg z (by simp)) (hw.chg z (by simp)) htn hwn
  generalize frontT t = fb at *
  generalize accB t = ab at *
  generalize allB t = lb at *
  obtain ⟨kind, id, ent, frm, til, every, amt, deb, cred, tg, wt, rank⟩ := t
  unfold tpV at *
  dsimp only at *
  clear ht hw hlt hlw
  have hz := (Chg.refl [] w).alloc (.cells #[.int .i64 kind, .int .i64 id, .int .i64 ent, .int .i64 frm, .int .i64 til, .int .i64 every, .int .i64 amt, .int .i64 deb, .int .i64 cred, .slice tA tn tc, .slice wA wn wc, .int .i64 rank] 24)
  have hB := Blk.new w 24 #[.int .i64 kind, .int .i64 id, .int .i64 ent, .int .i64 frm, .int .i64 til, .int .i64 every, .int .i64 amt, .int .i64 deb, .int .i64 cred, .slice tA tn tc, .slice wA wn wc, .int .i64 rank]
  replace hRb := Lib.hid hRb
  replace hfr := Lib.hid hfr
  replace hac := Lib.hid hac
  replace hal := Lib.hid hal
  go_enter Try.func14, Try.ntmps14
  go_wp2_with fail
  obtain ⟨w1, hw1⟩ : ∃ w1, w1 = w.alloc (.cells #[.int .i64 kind, .int .i64 id, .int .i64 ent, .int .i64 frm, .int .i64 til, .int .i64 every, .int .i64 amt, .int .i64 deb, .int .i64 cred, .slice tA tn tc, .slice wA wn wc, .int .i64 rank] 24) := ⟨_, rfl⟩
  rw [← hw1] at hB hz ⊢
  clear hw1
  obtain ⟨jb, hjb⟩ : ∃ jb, w.heap.size = jb := ⟨_, rfl⟩
  rw [hjb] at hB ⊢
  clear hjb
  have hBc := fun W (k : Chg [] w1 W) => hB.chg k (by simp)
  replace hBc := Lib.hid hBc
  clear hB
  refine (hway _).mono ?_
  rintro e w2 ⟨⟨a, b, rfl, ha, hb, hk1, hk2⟩, hz2⟩
  clear hway
  have hz12 := hz2.alloc (.cells #[a, b] 69)
  have hzw := hz.trans' hz12
  obtain ⟨s1, s2, hBl⟩ := store_ways w2 w2.heap.size rfl ha hb
  have hBw := fun W (k : Chg [] (w2.alloc (.cells #[a, b] 69)) W) => (hBl.chg k (by simp)).cell 0
  replace hBw := Lib.hid hBw
  replace ha := Lib.hid ha
  replace hb := Lib.hid hb
  clear hBl
  by_cases h1 : kind = 1
  · obtain ⟨rfl, rfl⟩ := hk1 h1
    have hR2 : Hid (R = if (fb && ab) = true then 0 else 1) := Lib.hid (by rw [hRb.out, if_pos h1])
    subst h1
    clear hk1 hk2 hRb
    unfold fnV at *
    rw [show (decide ((1 : Int) = 1) || decide ((1 : Int) = 2)) = true from rfl]
    have d0 := (hBc.out _ hz12).cell 0
    have d1 := (hBc.out _ hz12).cell 1
    have d2 := (hBc.out _ hz12).cell 2
    have d3 := (hBc.out _ hz12).cell 3
    have d4 := (hBc.out _ hz12).cell 4
    have d5 := (hBc.out _ hz12).cell 5
    have d6 := (hBc.out _ hz12).cell 6
    have d7 := (hBc.out _ hz12).cell 7
    have d8 := (hBc.out _ hz12).cell 8
    have d9 := (hBc.out _ hz12).cell 9
    have d10 := (hBc.out _ hz12).cell 10
    have d11 := (hBc.out _ hz12).cell 11
    go_wp2_with fail
    refine (hfr.out _).mono ?_
    rintro e w3 ⟨rfl, hz3⟩
    clear s1 s2 d0 d1 d2 d3 d4 d5 d6 d7 d8 d9 d10 d11
    cases fb with
    | false =>
      have hR : Hid (R = 1) := Lib.hid (by rw [hR2.out]; rfl)
      go_wp2_with fail
      go_ret
      exact ⟨by rw [hR.out]; rfl, hzw.trans' hz3⟩
    | true =>
      have f0 := hBw.out _ hz3
      have e0 := (hBc.out _ (hz12.trans' hz3)).cell 0
      have e1 := (hBc.out _ (hz12.trans' hz3)).cell 1
      have e2 := (hBc.out _ (hz12.trans' hz3)).cell 2
      have e3 := (hBc.out _ (hz12.trans' hz3)).cell 3
      have e4 := (hBc.out _ (hz12.trans' hz3)).cell 4
      have e5 := (hBc.out _ (hz12.trans' hz3)).cell 5
      have e6 := (hBc.out _ (hz12.trans' hz3)).cell 6
      have e7 := (hBc.out _ (hz12.trans' hz3)).cell 7
      have e8 := (hBc.out _ (hz12.trans' hz3)).cell 8
      have e9 := (hBc.out _ (hz12.trans' hz3)).cell 9
      have e10 := (hBc.out _ (hz12.trans' hz3)).cell 10
      have e11 := (hBc.out _ (hz12.trans' hz3)).cell 11
      go_wp2_with fail
      refine (hac.out _).mono ?_
      rintro e w4 ⟨rfl, hz4⟩
      cases ab with
      | false =>
        have hR : Hid (R = 1) := Lib.hid (by rw [hR2.out]; rfl)
        go_wp2_with fail
        go_ret
        exact ⟨by rw [hR.out]; rfl, (hzw.trans' hz3).trans' hz4⟩
      | true =>
        have hR : Hid (R = 0) := Lib.hid (by rw [hR2.out]; rfl)
        go_wp2_with fail
        go_ret
        exact ⟨by rw [hR.out]; rfl, (hzw.trans' hz3).trans' hz4⟩
  by_cases h2 : kind = 2
  · obtain ⟨rfl, rfl⟩ := hk2 h2
    have hR2 : Hid (R = if (fb && lb) = true then 0 else 1) := Lib.hid (by rw [hRb.out, if_neg h1, if_pos h2])
    subst h2
    clear hk1 hk2 hRb h1
    unfold fnV at *
    rw [show (decide ((2 : Int) = 1) || decide ((2 : Int) = 2)) = true from rfl]
    have d0 := (hBc.out _ hz12).cell 0
    have d1 := (hBc.out _ hz12).cell 1
    have d2 := (hBc.out _ hz12).cell 2
    have d3 := (hBc.out _ hz12).cell 3
    have d4 := (hBc.out _ hz12).cell 4
    have d5 := (hBc.out _ hz12).cell 5
    have d6 := (hBc.out _ hz12).cell 6
    have d7 := (hBc.out _ hz12).cell 7
    have d8 := (hBc.out _ hz12).cell 8
    have d9 := (hBc.out _ hz12).cell 9
    have d10 := (hBc.out _ hz12).cell 10
    have d11 := (hBc.out _ hz12).cell 11
    go_wp2_with fail
    refine (hfr.out _).mono ?_
    rintro e w3 ⟨rfl, hz3⟩
    clear s1 s2 d0 d1 d2 d3 d4 d5 d6 d7 d8 d9 d10 d11
    cases fb with
    | false =>
      have hR : Hid (R = 1) := Lib.hid (by rw [hR2.out]; rfl)
      go_wp2_with fail
      go_ret
      exact ⟨by rw [hR.out]; rfl, hzw.trans' hz3⟩
    | true =>
      have f0 := hBw.out _ hz3
      have e0 := (hBc.out _ (hz12.trans' hz3)).cell 0
      have e1 := (hBc.out _ (hz12.trans' hz3)).cell 1
      have e2 := (hBc.out _ (hz12.trans' hz3)).cell 2
      have e3 := (hBc.out _ (hz12.trans' hz3)).cell 3
      have e4 := (hBc.out _ (hz12.trans' hz3)).cell 4
      have e5 := (hBc.out _ (hz12.trans' hz3)).cell 5
      have e6 := (hBc.out _ (hz12.trans' hz3)).cell 6
      have e7 := (hBc.out _ (hz12.trans' hz3)).cell 7
      have e8 := (hBc.out _ (hz12.trans' hz3)).cell 8
      have e9 := (hBc.out _ (hz12.trans' hz3)).cell 9
      have e10 := (hBc.out _ (hz12.trans' hz3)).cell 10
      have e11 := (hBc.out _ (hz12.trans' hz3)).cell 11
      go_wp2_with fail
      refine (hal.out _ (hzw.trans' hz3)).mono ?_
      rintro e w4 ⟨rfl, hz4⟩
      cases lb with
      | false =>
        have hR : Hid (R = 1) := Lib.hid (by rw [hR2.out]; rfl)
        go_wp2_with fail
        go_ret
        exact ⟨by rw [hR.out]; rfl, (hzw.trans' hz3).trans' hz4⟩
      | true =>
        have hR : Hid (R = 0) := Lib.hid (by rw [hR2.out]; rfl)
        go_wp2_with fail
        go_ret
        exact ⟨by rw [hR.out]; rfl, (hzw.trans' hz3).trans' hz4⟩
  · have hR : Hid (R = 1) := Lib.hid (by rw [hRb.out, if_neg h1, if_neg h2]; simp)
    rw [show (decide (kind = 1) || decide (kind = 2)) = false from by simp [h1, h2]]
    clear hk1 hk2 hRb h1 h2
    go_wp2_with fail
    go_ret
    exact ⟨by rw [hR.out]; rfl, hzw⟩
end Go.Proofs.Ytlbkjhfnpjbjlaa
