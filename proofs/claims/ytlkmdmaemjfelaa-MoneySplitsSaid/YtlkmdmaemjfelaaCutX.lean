/- container/heap over one kind of heap: push, pop, what is in it in its order. -/
import Derived.Test.YtlkmdmaemjfelaaCutW
namespace Go.Proofs.Ytlkmdmaemjfelaa
open Go.RowKit Go.Vx
set_option linter.unusedVariables false
set_option linter.unusedSimpArgs false

section
variable {w : World} {p o : Nat} {t : TypeId} {cs : Array Value} {l : List Cut} {F : List Nat}
/-- What is in it, in its order. -/
def ctS (w : World) (p o : Nat) (t : TypeId) (cs : Array Value) (S : List Cut) (F : List Nat) : Prop := ∃ l, HC w p o t cs l F ∧ Rep cutLt l S
theorem ctS.len {S : List Cut} (h : HC w p o t cs l F) (hr : Rep cutLt l S) : l.length = S.length := hr.2.1.length_eq
set_option maxHeartbeats 4000000 in
theorem ct_Push {S : List Cut} (h : ctS w p o t cs S F) (x : Cut) (hl : S.length < 999999) :
    Calls Try.prog 28 #[.iface 64 (.pointer (some ⟨p, o, none⟩)), .iface 66 (.agg #[.int .u64 x.1, .int .i64 x.2])] w fun e w' => e = .returned (.tuple #[]) ∧ ∃ F', ctS w' p o t cs (ins cutLt x S) F' ∧ Chg (p :: F) w w' ∧ ∀ g, g ∈ F' → g ∈ F ∨ w.heap.size ≤ g := by
  obtain ⟨l, h, hr⟩ := h
  have hll := ctS.len h hr
  have nPush := fun w => (ct_nil ⟨p, o, none⟩ w).2.2.2.1
  have nLen := fun w => (ct_nil ⟨p, o, none⟩ w).1
  have mPush := ct_mpush ⟨p, o, none⟩
  have hp := ct_push h x (by omega)
  have hpl := push_len cutLin hr x
  have hll2 : l.length < 999999 := by omega
  clear hll
  go_enter Try.func28, Try.ntmps28
  go_wp2_with fail
  refine hp.mono ?_
  rintro e w1 ⟨rfl, F1, h1, hw1, hF1⟩
  obtain ⟨A, c, c0, f0, hb, hf, h3, h4⟩ := h1.cell
  have mLen := ct_mlen c0
  have hlen : (l ++ [x]).length = l.length + 1 := by simp
  rw [hlen] at mLen h3
  have hL := ct_len A (l.length + 1) c w1 (by omega)
  have hU := ct_up h1 l.length (by omega) (by omega)
  rw [hlen] at hU
  clear c0 f0 hb hf h3 h4 hlen
  go_wp2_with fail
  refine hL.mono ?_
  rintro e w2 ⟨rfl, rfl⟩
  go_wp2_with fail
  refine hU.mono ?_
  rintro e w3 ⟨rfl, h5, hw3⟩
  go_wp2_with fail
  go_end0
  rw [show l.length + 1 + 1 = l.length + 2 from rfl] at h5
  refine ⟨rfl, F1, ⟨_, h5, hpl.2⟩, hw1.trans hw3 ?_, hF1⟩
  intro g hg
  rcases hF1 g hg with h | h
  · exact .inl (by simp [h])
  · exact .inr h
set_option maxHeartbeats 4000000 in
theorem ct_Pop {x : Cut} {S : List Cut} (h : ctS w p o t cs (x :: S) F) (hl : S.length < 999999) :
    Calls Try.prog 29 #[.iface 64 (.pointer (some ⟨p, o, none⟩))] w fun e w' => e = .returned (.iface 66 (.agg #[.int .u64 x.1, .int .i64 x.2])) ∧ ctS w' p o t cs S F ∧ Chg (p :: F) w w' := by
  obtain ⟨l, h, hr⟩ := h
  have hll := ctS.len h hr
  rw [List.length_cons] at hll
  obtain ⟨q1, q2, q3, q4, q5⟩ := pop_spec cutLin hr
  have nSwap := fun w => (ct_nil ⟨p, o, none⟩ w).2.2.1
  have nPop := fun w => (ct_nil ⟨p, o, none⟩ w).2.2.2.2
  have nLen := fun w => (ct_nil ⟨p, o, none⟩ w).1
  have mPop := ct_mpop ⟨p, o, none⟩
  have hpF := h.ne
  obtain ⟨A, c, c0, f0, hb, hf, h3, h4⟩ := h.cell
  obtain ⟨v, -, ho, -, hne⟩ := h
  obtain ⟨m, hm⟩ : ∃ m, l.length = m + 1 := ⟨l.length - 1, by omega⟩
  have mLen := ct_mlen c0
  have hL := ct_len A l.length c w (by omega)
  have mSwap := ct_mswap c0
  have hS := ct_swap hf (i := 0) (k := m) (by omega) (by omega) (by omega)
  have hml : m < 999999 := by omega
  rw [hm] at mLen hL mSwap hS q2 q3
  simp only [Nat.add_sub_cancel] at q2 q3
  have hpm : popM cutLt l = downL cutLt m (swapAt l 0 m) 0 m := by unfold popM; rw [hm]; rfl
  rw [hpm] at q2 q3
  clear hll
  go_enter Try.func29, Try.ntmps29
  go_wp2_with fail
  refine hL.mono ?_
  rintro e w0 ⟨rfl, rfl⟩
  go_wp2_with fail
  refine hS.mono ?_
  rintro e w1 ⟨rfl, hf1, hw1⟩
  have h1 := ct_put hb ho hne (hm ▸ hf1) hw1 hpF
  have hD := ct_down h1 0 m (by rw [length_swap, hm]; omega) (by omega) (by rw [length_swap, hm]; omega)
  clear mSwap mLen hL hS
  go_wp2_with fail
  refine hD.mono ?_
  rintro e w2 ⟨⟨b, rfl⟩, h2, hw2⟩
  have hP := ct_pop h2 (by omega) (by omega)
  rw [q2] at hP
  simp only [Nat.add_sub_cancel] at hP
  rw [q3] at hP
  go_wp2_with fail
  refine hP.mono ?_
  rintro e w3 ⟨rfl, h5, hw3⟩
  go_wp2_with fail
  go_ret
  refine ⟨rfl, ⟨_, h5, ?_⟩, ?_⟩
  · have := q4
    unfold popL at this
    rw [hpm, hm] at this
    exact this
  · exact ((hw1.mono (by simp +contextual)).trans' (hw2.mono (by simp +contextual))).trans' (hw3.mono (by simp))
end
end Go.Proofs.Ytlkmdmaemjfelaa
