/- Lineage: container/heap over the versions that are next. -/
import Derived.Test.YtaabkapjdmceaaaLnD
namespace Go.Proofs.Ytaabkapjdmceaaa
open Go.RowKit Go.Vx
set_option linter.unusedVariables false
set_option linter.unusedSimpArgs false

section
variable {w : World} {p lp bs : Nat} {Q : List LC} {R : List Nat} {l : List Nat} {F : List Nat}
theorem cm_nil (a : Addr) (w : World) : (nilAhead 217 59 (.pointer (some a)) "Len").run Try.prog w = .ok (some false) w ∧ (nilAhead 217 59 (.pointer (some a)) "Less").run Try.prog w = .ok (some false) w ∧ (nilAhead 217 59 (.pointer (some a)) "Swap").run Try.prog w = .ok (some false) w ∧
    (nilAhead 217 59 (.pointer (some a)) "Push").run Try.prog w = .ok (some false) w ∧ (nilAhead 217 59 (.pointer (some a)) "Pop").run Try.prog w = .ok (some false) w := by
  refine ⟨?_, ?_, ?_, ?_, ?_⟩ <;> kernel_rfl
theorem cm_meth (a : Addr) (w : World) : (method 217 59 (.pointer (some a)) "Len").run Try.prog w = .ok (26, .pointer (some a)) w ∧ (method 217 59 (.pointer (some a)) "Less").run Try.prog w = .ok (71, .pointer (some a)) w ∧ (method 217 59 (.pointer (some a)) "Swap").run Try.prog w = .ok (74, .pointer (some a)) w ∧
    (method 217 59 (.pointer (some a)) "Push").run Try.prog w = .ok (73, .pointer (some a)) w ∧ (method 217 59 (.pointer (some a)) "Pop").run Try.prog w = .ok (72, .pointer (some a)) w := by
  refine ⟨?_, ?_, ?_, ?_, ?_⟩ <;> kernel_rfl
set_option maxHeartbeats 4000000 in
/-- up. -/
theorem cm_up (h : CmAt w p lp bs Q R l F) (j : Nat) (hj : j < l.length) (hl : l.length ≤ 1000000) :
    Calls Try.prog 46 #[.iface 59 (.pointer (some ⟨p, 0, none⟩)), .int .i64 j] w fun e w' => e = .returned (.tuple #[]) ∧ CmAt w' p lp bs Q R (upL (lnLt (comsOf Q)) (l.length + 1) l j) F ∧ Chg F w w' := by
  have nLess := fun w => (cm_nil ⟨p, 0, none⟩ w).2.1
  have nSwap := fun w => (cm_nil ⟨p, 0, none⟩ w).2.2.1
  have mLess := fun w => (cm_meth ⟨p, 0, none⟩ w).2.1
  have mSwap := fun w => (cm_meth ⟨p, 0, none⟩ w).2.2.1
  obtain ⟨U, hU⟩ : ∃ U, U = upL (lnLt (comsOf Q)) (l.length + 1) l j := ⟨_, rfl⟩
  rw [← hU]
  go_enter Try.func46, Try.ntmps46
  go_wp2_with fail
  go_loopw [1] (fun i wr => ∃ (k : Nat) (l' : List Nat) (f : Nat), i = .int .i64 k ∧ k < l'.length ∧ l'.length = l.length ∧ k < f ∧ upL (lnLt (comsOf Q)) f l' k = U ∧ CmAt wr p lp bs Q R l' F ∧ Chg F w wr) (fun i _ => (intOf i).toNat)
  case atStart => exact ⟨j, l, l.length + 1, rfl, hj, rfl, by omega, hU.symm, h, Chg.refl _ _⟩
  case round =>
    obtain ⟨k, l', f, rfl, hk, hll, hkf, hup, hr, hw⟩ := hrel
    have hl2 : l'.length ≤ 1000000 := by omega
    replace hll := Lib.hid hll
    obtain ⟨f, rfl⟩ : ∃ f', f = f' + 1 := ⟨f - 1, by omega⟩
    simp only [upL] at hup
    by_cases h0 : k = 0
    · subst h0
      rw [if_pos rfl] at hup
      go_wp2_with fail
      go_end0
      exact ⟨rfl, hup ▸ hr, hw⟩
    · rw [if_neg h0] at hup
      go_upto_region 1 with fail
      rw [show ((k : Int) - 1) / 2 = (((k - 1) / 2 : Nat) : Int) by omega]
      have hik : (k - 1) / 2 < k := by omega
      generalize (k - 1) / 2 = i at hup hik ⊢
      have hb1 : ((i : Int) == (k : Int)) = false := by simp; omega
      go_wp2_with fail
      refine (cm_less hr hk (by omega) hl2).mono ?_
      intro e w1 hpost
      obtain ⟨he, hw1⟩ := hpost
      subst he
      have hr1 := hr.keep hw1
      cases hlt : lnLt (comsOf Q) (nth l' k) (nth l' i) with
      | false =>
        rw [hlt] at hup
        rw [if_neg (by simp)] at hup
        go_wp2_with fail
        go_end0
        exact ⟨rfl, hup ▸ hr1, hw.trans hw1 (by simp)⟩
      | true =>
        rw [hlt, if_pos rfl] at hup
        have hil : i < l'.length := by omega
        have hs := cm_swap hr1 hil hk hl2
        go_wp2_with fail
        refine hs.mono ?_
        rintro e w2 ⟨rfl, hr2, hw2⟩
        go_wp2_with fail
        go_roundw
        case measure => simp [intOf]; omega
        case rel => exact ⟨i, swapAt l' i k, f, by go_num, by rw [length_swap]; exact hil, by rw [length_swap]; exact hll.out, by omega, hup, hr2, (hw.trans hw1 (by simp)).trans' hw2⟩
set_option maxHeartbeats 4000000 in
/-- down. -/
theorem cm_down (h : CmAt w p lp bs Q R l F) (i n : Nat) (hn : n ≤ l.length) (hin : i < n ∨ (n = 0 ∧ i = 0)) (hl : l.length ≤ 1000000) :
    Calls Try.prog 33 #[.iface 59 (.pointer (some ⟨p, 0, none⟩)), .int .i64 i, .int .i64 n] w fun e w' => (∃ b, e = .returned (.bool b)) ∧ CmAt w' p lp bs Q R (downL (lnLt (comsOf Q)) n l i n) F ∧ Chg F w w' := by
  obtain ⟨U, hU⟩ : ∃ U, U = downL (lnLt (comsOf Q)) n l i n := ⟨_, rfl⟩
  suffices hs : Calls Try.prog 33 #[.iface 59 (.pointer (some ⟨p, 0, none⟩)), .int .i64 i, .int .i64 n] w fun e w' => (∃ b, e = .returned (.bool b)) ∧ CmAt w' p lp bs Q R U F ∧ Chg F w w' from
    hs.mono fun e w' ⟨h1, h2, h3⟩ => ⟨h1, hU ▸ h2, h3⟩
  have nLess := fun w => (cm_nil ⟨p, 0, none⟩ w).2.1
  have nSwap := fun w => (cm_nil ⟨p, 0, none⟩ w).2.2.1
  have mLess := fun w => (cm_meth ⟨p, 0, none⟩ w).2.1
  have mSwap := fun w => (cm_meth ⟨p, 0, none⟩ w).2.2.1
  go_enter Try.func33, Try.ntmps33
  go_wp2_with fail
  go_loopw [7] (fun iv wr => ∃ (k : Nat) (l' : List Nat) (f : Nat), iv = .int .i64 k ∧ (k < n ∨ (n = 0 ∧ k = 0)) ∧ l'.length = l.length ∧ n - k ≤ f ∧ downL (lnLt (comsOf Q)) f l' k n = U ∧ CmAt wr p lp bs Q R l' F ∧ Chg F w wr) (fun iv _ => n - (intOf iv).toNat)
  case atStart => exact ⟨i, l, n, rfl, hin, rfl, by omega, hU.symm, h, Chg.refl _ _⟩
  case round =>
    obtain ⟨k, l', f, rfl, hk, hll, hkf, hup, hr, hw⟩ := hrel
    have hl2 : l'.length ≤ 1000000 := by omega
    have hn2 : n ≤ l'.length := by omega
    replace hll := Lib.hid hll
    by_cases h0 : n ≤ 2 * k + 1
    · have e : downL (lnLt (comsOf Q)) f l' k n = l' := by cases f with
        | zero => rfl
        | succ f => simp only [downL]; rw [if_pos h0]
      rw [e] at hup
      subst hup
      have b1 : decide ((n : Int) ≤ 2 * (k : Int) + 1) = true := by simp; omega
      go_upto_region 3 with fail
      go_wp2_with fail
      go_ret
      exact ⟨⟨_, rfl⟩, hr, hw⟩
    · obtain ⟨f, rfl⟩ : ∃ f', f = f' + 1 := ⟨f - 1, by omega⟩
      simp only [downL] at hup
      rw [if_neg h0] at hup
      have b1 : decide ((n : Int) ≤ 2 * (k : Int) + 1) = false := by simp; omega
      have b2 : decide (2 * (k : Int) + 1 < 0) = false := by simp; omega
      go_upto_region 3 with fail
      go_upto_region 6 with fail
      by_cases h3 : 2 * k + 2 < n
      · have hL := cm_less hr (i := 2 * k + 2) (k := 2 * k + 1) (by omega) (by omega) hl2
        rw [show ((2 * k + 2 : Nat) : Int) = 2 * (k : Int) + 1 + 1 by omega, show ((2 * k + 1 : Nat) : Int) = 2 * (k : Int) + 1 by omega] at hL
        have hkd : kid (lnLt (comsOf Q)) l' k n = if lnLt (comsOf Q) (nth l' (2 * k + 2)) (nth l' (2 * k + 1)) = true then 2 * k + 2 else 2 * k + 1 := by simp [kid, h3]
        have b3 : decide (2 * (k : Int) + 1 + 1 < n) = true := by simp; omega
        go_wp2_with fail
        refine hL.mono ?_
        intro e w1 hpost
        obtain ⟨he, hw1⟩ := hpost
        subst he
        have hr1 := hr.keep hw1
        have hwy := hw.trans hw1 (by simp)
        cases hlt : lnLt (comsOf Q) (nth l' (2 * k + 2)) (nth l' (2 * k + 1)) with
        | true =>
          have hk1 : kid (lnLt (comsOf Q)) l' k n = 2 * k + 2 := by rw [hkd, hlt]; rfl
          rw [hk1] at hup
          have hLj := cm_less hr1 (i := 2 * k + 2) (k := k) (by omega) (by omega) hl2
          rw [show ((2 * k + 2 : Nat) : Int) = 2 * (k : Int) + 1 + 1 by omega] at hLj
          go_wp2_with fail
          refine hLj.mono ?_
          intro e w2 hpost2
          obtain ⟨he2, hw2⟩ := hpost2
          subst he2
          have hr2 := hr1.keep hw2
          have hwz := hwy.trans hw2 (by simp)
          cases hlt2 : lnLt (comsOf Q) (nth l' (2 * k + 2)) (nth l' k) with
          | false =>
            rw [hlt2, if_neg (by simp)] at hup
            go_wp2_with fail
            go_ret
            exact ⟨⟨_, rfl⟩, hup ▸ hr2, hwz⟩
          | true =>
            rw [hlt2, if_pos rfl] at hup
            have hs := cm_swap hr2 (i := k) (k := 2 * k + 2) (by omega) (by omega) hl2
            rw [show ((2 * k + 2 : Nat) : Int) = 2 * (k : Int) + 1 + 1 by omega] at hs
            go_wp2_with fail
            refine hs.mono ?_
            rintro e w3 ⟨rfl, hr3, hw3⟩
            go_wp2_with fail
            go_roundw
            case measure => simp [intOf]; omega
            case rel => exact ⟨2 * k + 2, swapAt l' k (2 * k + 2), f, by rw [show ((2 * k + 2 : Nat) : Int) = 2 * (k : Int) + 1 + 1 by omega], .inl (by omega), by rw [length_swap]; exact hll.out, by omega, hup, hr3, hwz.trans' hw3⟩
        | false =>
          have hk1 : kid (lnLt (comsOf Q)) l' k n = 2 * k + 1 := by rw [hkd, hlt]; rfl
          rw [hk1] at hup
          have hLj := cm_less hr1 (i := 2 * k + 1) (k := k) (by omega) (by omega) hl2
          rw [show ((2 * k + 1 : Nat) : Int) = 2 * (k : Int) + 1 by omega] at hLj
          go_wp2_with fail
          refine hLj.mono ?_
          intro e w2 hpost2
          obtain ⟨he2, hw2⟩ := hpost2
          subst he2
          have hr2 := hr1.keep hw2
          have hwz := hwy.trans hw2 (by simp)
          cases hlt2 : lnLt (comsOf Q) (nth l' (2 * k + 1)) (nth l' k) with
          | false =>
            rw [hlt2, if_neg (by simp)] at hup
            go_wp2_with fail
            go_ret
            exact ⟨⟨_, rfl⟩, hup ▸ hr2, hwz⟩
          | true =>
            rw [hlt2, if_pos rfl] at hup
            have hs := cm_swap hr2 (i := k) (k := 2 * k + 1) (by omega) (by omega) hl2
            rw [show ((2 * k + 1 : Nat) : Int) = 2 * (k : Int) + 1 by omega] at hs
            go_wp2_with fail
            refine hs.mono ?_
            rintro e w3 ⟨rfl, hr3, hw3⟩
            go_wp2_with fail
            go_roundw
            case measure => simp [intOf]; omega
            case rel => exact ⟨2 * k + 1, swapAt l' k (2 * k + 1), f, by rw [show ((2 * k + 1 : Nat) : Int) = 2 * (k : Int) + 1 by omega], .inl (by omega), by rw [length_swap]; exact hll.out, by omega, hup, hr3, hwz.trans' hw3⟩
      · have hkd : kid (lnLt (comsOf Q)) l' k n = 2 * k + 1 := by simp [kid, h3]
        rw [hkd] at hup
        have b3 : decide (2 * (k : Int) + 1 + 1 < n) = false := by simp; omega
        have hLj := cm_less hr (i := 2 * k + 1) (k := k) (by omega) (by omega) hl2
        rw [show ((2 * k + 1 : Nat) : Int) = 2 * (k : Int) + 1 by omega] at hLj
        go_wp2_with fail
        refine hLj.mono ?_
        intro e w2 hpost2
        obtain ⟨he2, hw2⟩ := hpost2
        subst he2
        have hr2 := hr.keep hw2
        have hwz := hw.trans hw2 (by simp)
        cases hlt2 : lnLt (comsOf Q) (nth l' (2 * k + 1)) (nth l' k) with
        | false =>
          rw [hlt2, if_neg (by simp)] at hup
          go_wp2_with fail
          go_ret
          exact ⟨⟨_, rfl⟩, hup ▸ hr2, hwz⟩
        | true =>
          rw [hlt2, if_pos rfl] at hup
          have hs := cm_swap hr2 (i := k) (k := 2 * k + 1) (by omega) (by omega) hl2
          rw [show ((2 * k + 1 : Nat) : Int) = 2 * (k : Int) + 1 by omega] at hs
          go_wp2_with fail
          refine hs.mono ?_
          rintro e w3 ⟨rfl, hr3, hw3⟩
          go_wp2_with fail
          go_roundw
          case measure => simp [intOf]; omega
          case rel => exact ⟨2 * k + 1, swapAt l' k (2 * k + 1), f, by rw [show ((2 * k + 1 : Nat) : Int) = 2 * (k : Int) + 1 by omega], .inl (by omega), by rw [length_swap]; exact hll.out, by omega, hup, hr3, hwz.trans' hw3⟩
/-- What is next, in its order. -/
def CmS (w : World) (p lp bs : Nat) (Q : List LC) (R : List Nat) (S : List Nat) (F : List Nat) : Prop := ∃ l, CmAt w p lp bs Q R l F ∧ Rep (lnLt (comsOf Q)) l S
theorem CmS.keep {w w' : World} {S : List Nat} (h : CmS w p lp bs Q R S F) (k : Chg [] w w') : CmS w' p lp bs Q R S F := by
  obtain ⟨l, h1, h2⟩ := h
  exact ⟨l, h1.keep k, h2⟩
set_option maxHeartbeats 4000000 in
theorem cm_Push {S : List Nat} (h : CmS w p lp bs Q R S F) (x : Nat) (hx : isThere (comsOf Q) x = true) (hl : S.length < 999999) :
    Calls Try.prog 32 #[.iface 59 (.pointer (some ⟨p, 0, none⟩)), .iface 3 (.int .i64 x)] w fun e w' => e = .returned (.tuple #[]) ∧ ∃ F', CmS w' p lp bs Q R (ins (lnLt (comsOf Q)) x S) F' ∧ Chg (p :: F) w w' ∧ ∀ g, g ∈ F' → g ∈ F ∨ w.heap.size ≤ g := by
  obtain ⟨l, h, hr⟩ := h
  have hll := hr.2.1.length_eq
  have nPush := fun w => (cm_nil ⟨p, 0, none⟩ w).2.2.2.1
  have nLen := fun w => (cm_nil ⟨p, 0, none⟩ w).1
  have mPush := fun w => (cm_meth ⟨p, 0, none⟩ w).2.2.2.1
  have mLen := fun w => (cm_meth ⟨p, 0, none⟩ w).1
  have hp := cm_push h x hx (by omega)
  have hpl := push_len (lnLin (comsOf Q)) hr x
  have hll2 : l.length < 999999 := by omega
  clear hll
  go_enter Try.func32, Try.ntmps32
  go_wp2_with fail
  refine hp.mono ?_
  rintro e w1 ⟨rfl, F1, h1, hw1, hF1⟩
  have hlen : (l ++ [x]).length = l.length + 1 := by simp
  have hL := cm_len h1 (by rw [hlen]; omega)
  have hU := cm_up h1 l.length (by omega) (by omega)
  rw [hlen] at hU hL
  clear hlen
  go_wp2_with fail
  refine hL.mono ?_
  rintro e w2 ⟨rfl, rfl⟩
  go_wp2_with fail
  refine hU.mono ?_
  rintro e w3 ⟨rfl, h5, hw3⟩
  go_wp2_with fail
  go_end0
  rw [show l.length + 1 + 1 = l.length + 2 from rfl] at h5
  refine ⟨rfl, F1, ⟨_, h5, hpl.2⟩, hw1.trans hw3 ?_, hF1⟩
  intro g hg
  rcases hF1 g hg with h | h
  · exact .inl (by simp [h])
  · exact .inr h
set_option maxHeartbeats 4000000 in
theorem cm_Pop {x : Nat} {S : List Nat} (h : CmS w p lp bs Q R (x :: S) F) (hl : S.length < 999999) :
    Calls Try.prog 27 #[.iface 59 (.pointer (some ⟨p, 0, none⟩))] w fun e w' => e = .returned (.iface 3 (.int .i64 x)) ∧ CmS w' p lp bs Q R S F ∧ Chg (p :: F) w w' := by
  obtain ⟨l, h, hr⟩ := h
  have hll := hr.2.1.length_eq
  rw [List.length_cons] at hll
  obtain ⟨q1, q2, q3, q4, q5⟩ := pop_spec (lnLin (comsOf Q)) hr
  have nSwap := fun w => (cm_nil ⟨p, 0, none⟩ w).2.2.1
  have nPop := fun w => (cm_nil ⟨p, 0, none⟩ w).2.2.2.2
  have nLen := fun w => (cm_nil ⟨p, 0, none⟩ w).1
  have mPop := fun w => (cm_meth ⟨p, 0, none⟩ w).2.2.2.2
  have mSwap := fun w => (cm_meth ⟨p, 0, none⟩ w).2.2.1
  have mLen := fun w => (cm_meth ⟨p, 0, none⟩ w).1
  obtain ⟨m, hm⟩ : ∃ m, l.length = m + 1 := ⟨l.length - 1, by omega⟩
  have hL := cm_len h (by omega)
  have hS := cm_swap h (i := 0) (k := m) (by omega) (by omega) (by omega)
  have hml : m < 999999 := by omega
  rw [hm] at hL q2 q3
  simp only [Nat.add_sub_cancel] at q2 q3
  have hpm : popM (lnLt (comsOf Q)) l = downL (lnLt (comsOf Q)) m (swapAt l 0 m) 0 m := by unfold popM; rw [hm]; rfl
  rw [hpm] at q2 q3
  clear hll
  go_enter Try.func27, Try.ntmps27
  go_wp2_with fail
  refine hL.mono ?_
  rintro e w0 ⟨rfl, rfl⟩
  go_wp2_with fail
  refine hS.mono ?_
  rintro e w1 ⟨rfl, h1, hw1⟩
  have hD := cm_down h1 0 m (by rw [length_swap, hm]; omega) (by omega) (by rw [length_swap, hm]; omega)
  clear hL hS
  go_wp2_with fail
  refine hD.mono ?_
  rintro e w2 ⟨⟨b, rfl⟩, h2, hw2⟩
  have hP := cm_pop h2 (by omega) (by omega)
  rw [q2] at hP
  simp only [Nat.add_sub_cancel] at hP
  rw [q3] at hP
  go_wp2_with fail
  refine hP.mono ?_
  rintro e w3 ⟨rfl, h5, hw3⟩
  go_wp2_with fail
  go_ret
  refine ⟨rfl, ⟨_, h5, ?_⟩, ?_⟩
  · have := q4
    unfold popL at this
    rw [hpm, hm] at this
    exact this
  · exact ((hw1.mono (by simp +contextual)).trans' (hw2.mono (by simp +contextual))).trans' (hw3.mono (by simp))
end
end Go.Proofs.Ytaabkapjdmceaaa
