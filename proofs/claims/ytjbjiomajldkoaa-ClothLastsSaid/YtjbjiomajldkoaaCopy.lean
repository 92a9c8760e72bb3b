/- The builtin copy between two rows of one length. No program. -/
import Derived.Test.YtjbjiomajldkoaaRows2
import Derived.Laws.CopyOwn
namespace Go.Vx
open Go.RowKit
set_option linter.unusedVariables false
set_option linter.unusedSimpArgs false

theorem Chg.setRow {F : List Nat} {a w : World} (h : Chg F a w) {g : Nat} (hp : g ∈ F ∨ a.heap.size ≤ g) (cs : Array Value) : Chg F a (w.setRow g cs) :=
  h.trans (G := [g]) ⟨rfl, rfl, rfl, by simp [World.setRow], fun k _ hn => setRow_other w g k cs (by simpa using hn)⟩ (by simpa using hp)
theorem wpList_copy_fix {P : Program} {w : World} {ops : Array Oper} {rest : List Oper} {o : Oper} {a : Act} {Q : Exit → Act → World → Prop} (hgd : o.guard = none) (d s : Operand) (dT sT : TypeId)
    (ho : o.op = .call { callee := .builtin .copy, args := #[d, s], argTypes := #[dT, sT] }) {elem e' : TypeId} (hu : P.underlying dT = some (.slice elem)) (hsz : (P.info? elem).map (·.size) = some 1)
    {dv sv : Value} {n : Nat} {xs ys : List Value} {F G : List Nat} (hd : a.eval d = dv) (hs : a.eval s = sv) (h : Fix w elem 1 dv n xs F) (k : Fix w e' 1 sv n ys G) (h1 : ∀ v ∈ ys, v.oneCell' = true)
    (hk : ∀ w', Fix w' elem 1 dv n ys F → Chg F w w' → wpList P ops Q rest (a.put o.dst (goInt n)) w') : wpList P ops Q (o :: rest) a w := by
  obtain ⟨A, c, rfl, a1, a2, a3, a4⟩ := id h
  obtain ⟨B, m, rfl, b1, b2, b3, b4⟩ := id k
  rcases Nat.eq_zero_or_pos n with rfl | hn
  · obtain rfl : xs = [] := List.eq_nil_of_length_eq_zero (by simpa using a1)
    obtain rfl : ys = [] := List.eq_nil_of_length_eq_zero (by simpa using b1)
    exact wpList_copy_nothing hgd d s dT sT ho elem hu hsz A B 0 c 0 m hd hs (by simp) (hk w h (Chg.refl _ _))
  · rcases a4 with ⟨rfl, _⟩ | ⟨g, cur, rfl, rfl, hb, hs1, ht⟩
    · omega
    rcases b4 with ⟨rfl, _⟩ | ⟨g2, cur2, rfl, rfl, hb2, hs2, ht2⟩
    · omega
    refine wpList_copy_own hgd d s dT sT ho elem hu hsz g 0 n c ⟨g2, 0, none⟩ n m hd hs cur elem hb ys (by simp [b1]) ?_ (by omega) h1 ?_
    · intro j v hj
      have hjn : j < n := by have := (List.getElem?_eq_some_iff.1 hj).1; omega
      have : (Addr.mk g2 0 none).add j = ⟨g2, j, none⟩ := by unfold Addr.add; by_cases h0 : j = 0 <;> simp [h0]
      rw [this, hb2.cell, ← hj, ← ht2, List.getElem?_take, if_pos (by omega)]
      simp
    · have hl : ys.length = n := by omega
      rw [hl]
      refine hk _ ⟨_, _, rfl, by omega, a2, a3, .inr ⟨g, _, rfl, rfl, setRow_heap _ _ _ _ _ _ hb, ?_, ?_⟩⟩ ((Chg.refl _ _).setRow (by simp) _)
      · simp; omega
      · simp
        rw [List.take_left']
        omega
end Go.Vx
