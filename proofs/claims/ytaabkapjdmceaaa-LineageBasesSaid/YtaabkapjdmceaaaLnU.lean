/- Lineage: the document's own, in memory; from some versions to all of those of which they came. -/
import Derived.Test.YtaabkapjdmceaaaLnM
namespace Go.Proofs.Ytaabkapjdmceaaa
open Go.RowKit Go.Vx Go.Maps
set_option linter.unusedVariables false
set_option linter.unusedSimpArgs false

/-- A version of the document's own in memory. -/
structure RC where
  com : Com
  pv : Value
  pF : List Nat
instance : Inhabited RC := ⟨⟨default, .slice none 0 0, []⟩⟩
def rcEnc (x : RC) : List Value := [.int .i64 x.com.gen, .int .i64 x.com.root, .string x.com.author, x.pv]
theorem rcEnc_len (x : RC) : (rcEnc x).length = 4 := rfl
structure RLin (w : World) (p : Nat) (Q : List RC) (R : List Nat) : Prop where
  ex : ∃ v Ft, Blk w p 53 #[v] ∧ Fix w 67 4 v Q.length (Q.flatMap rcEnc) Ft ∧ ∀ g ∈ Ft, g ∈ R
  each : ∀ q ∈ Q, Fix w 3 1 q.pv q.com.par.length (natVals q.com.par) q.pF
  foot : ∀ q ∈ Q, ∀ g ∈ q.pF, g ∈ R
abbrev rcoms (Q : List RC) : Lin0 := Q.map RC.com
theorem RLin.chg {w w' : World} {p : Nat} {Q : List RC} {R S : List Nat} (h : RLin w p Q R) (k : Chg S w w') (hp : p ∉ S) (hd : ∀ g ∈ R, g ∉ S) : RLin w' p Q R := by
  obtain ⟨v, Ft, h1, h2, h3⟩ := h.ex
  exact ⟨⟨v, Ft, h1.chg k hp, h2.chg k (fun g hg => hd g (h3 g hg)), h3⟩, fun q hq => (h.each q hq).chg k (fun g hg => hd g (h.foot q hq g hg)), h.foot⟩
theorem RLin.keep {w w' : World} {p : Nat} {Q : List RC} {R : List Nat} (h : RLin w p Q R) (k : Chg [] w w') : RLin w' p Q R := h.chg k (by simp) (by simp)
theorem RLin.new (w : World) : RLin (w.alloc (.cells #[.slice none 0 0] 53)) w.heap.size [] [] :=
  ⟨⟨_, [], Blk.new _ _ _, Fix.nil _ _ _, by simp⟩, by simp, by simp⟩
theorem RLin.head {w : World} {p : Nat} {Q : List RC} {R : List Nat} (h : RLin w p Q R) : ∃ A c, w.cell? ⟨p, 0, none⟩ = some (.slice A Q.length c) ∧ Blk w p 53 #[.slice A Q.length c] ∧ Q.length ≤ c ∧ c ≤ maxLen ∧ ∃ Ft, Fix w 67 4 (.slice A Q.length c) Q.length (Q.flatMap rcEnc) Ft ∧ (∀ g ∈ Ft, g ∈ R) ∧ p ∉ Ft := by
  obtain ⟨v, Ft, h1, h2, h3⟩ := h.ex
  obtain ⟨A, c, rfl, -, h4, h5, -⟩ := id h2
  exact ⟨A, c, h1.cell 0, h1, h4, h5, Ft, h2, h3, h2.ne_blk h1 (by decide)⟩
theorem RLin.cells {w : World} {p : Nat} {Q : List RC} {R : List Nat} (h : RLin w p Q R) {k : Nat} (hk : k < Q.length) : ∃ g c, w.cell? ⟨p, 0, none⟩ = some (.slice (some ⟨g, 0, none⟩) Q.length c) ∧ Q.length ≤ c ∧ c ≤ maxLen ∧
    w.cell? ⟨g, k * 4, none⟩ = some (.int .i64 (Q[k].com.gen : Nat)) ∧ w.cell? ⟨g, k * 4 + 3, none⟩ = some Q[k].pv := by
  obtain ⟨A, c, c0, hb, h1, h2, Ft, hf, -, -⟩ := h.head
  obtain ⟨g, rfl, rfl, hc⟩ := hf.el hk
  have key := fun j (hj : j < 4) => (hc j hj).1.trans (flatMap_at rcEnc_len Q k hk j hj)
  rw [at_eq hk] at key
  refine ⟨g, c, c0, h1, h2, ?_, ?_⟩
  · exact (by have := key 0 (by omega); rwa [Nat.add_zero] at this)
  · exact key 3 (by omega)
/-- A version is added. -/
theorem RLin.push {w w' : World} {p : Nat} {Q : List RC} {R F1 F2 : List Nat} {A : Option Addr} {c : Nat} {com : Com} {pv : Value} (h : RLin w p Q R)
    (hb : Blk w' p 53 #[.slice A (Q.length + 1) c]) (hf : Fix w' 67 4 (.slice A (Q.length + 1) c) (Q.length + 1) (Q.flatMap rcEnc ++ rcEnc ⟨com, pv, F1⟩) F2)
    (hp : Fix w' 3 1 pv com.par.length (natVals com.par) F1) (ho : ∀ q ∈ Q, Fix w' 3 1 q.pv q.com.par.length (natVals q.com.par) q.pF) :
    RLin w' p (Q ++ [⟨com, pv, F1⟩]) (R ++ (F1 ++ F2)) := by
  have hl : (Q ++ [⟨com, pv, F1⟩] : List RC).length = Q.length + 1 := by simp
  refine ⟨⟨_, F2, hb, ?_, by simp +contextual⟩, ?_, ?_⟩
  · rw [hl, List.flatMap_append]
    simpa using hf
  · intro q hq
    rcases List.mem_append.1 hq with hq | hq
    · exact ho q hq
    · obtain rfl := List.mem_singleton.1 hq
      exact hp
  · intro q hq g hg
    rcases List.mem_append.1 hq with hq | hq
    · have := h.foot q hq g hg
      simp [this]
    · obtain rfl := List.mem_singleton.1 hq
      simp only [List.mem_append]
      exact .inr (.inl hg)
end Go.Proofs.Ytaabkapjdmceaaa
