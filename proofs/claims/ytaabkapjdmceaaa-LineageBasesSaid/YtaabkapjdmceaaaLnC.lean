/- Lineage in memory: the versions, what was seen. -/
import Derived.Test.YtaabkapjdmceaaaProg
import Derived.Test.YtaabkapjdmceaaaLnB
import Derived.Test.YtaabkapjdmceaaaBkA
import Derived.Test.YtaabkapjdmceaaaHeapAt
import Derived.Maps.Own
import Derived.Maps.OwnOps
import Derived.Maps.OwnSet
import Derived.Maps.Ext
import Derived.WalkArith
namespace Go.Proofs.Ytaabkapjdmceaaa
open Go.RowKit Go.Vx Go.Maps
set_option linter.unusedVariables false
set_option linter.unusedSimpArgs false

/-- A version in memory: its number, what it is, its parents' slice, where that lies. -/
structure LC where
  id : Nat
  com : Com
  pv : Value
  pF : List Nat
instance : Inhabited LC := ⟨⟨0, default, .slice none 0 0, []⟩⟩
def natVals (l : List Nat) : List Value := l.map fun n : Nat => Value.int .i64 n
theorem natVals_len (l : List Nat) : (natVals l).length = l.length := by simp [natVals]
theorem oneNats (l : List Nat) : ∀ u ∈ natVals l, u.oneCell' = true := fun u hu => by
  obtain ⟨x, -, rfl⟩ := List.mem_map.1 hu
  rfl
def lcEnc (x : LC) : List Value := [.int .i64 x.id, .int .i64 x.com.gen, x.pv, .int .i64 x.com.root, .string x.com.author]
theorem lcEnc_len (x : LC) : (lcEnc x).length = 5 := rfl
def LC.At (w : World) (x : LC) : Prop := Fix w 3 1 x.pv x.com.par.length (natVals x.com.par) x.pF
/-- The lineage at p: its versions, the blocks that they lie in. -/
structure LinAt (w : World) (p : Nat) (Q : List LC) (R : List Nat) : Prop where
  ex : ∃ v Ft, Blk w p 26 #[v] ∧ Fix w 43 5 v Q.length (Q.flatMap lcEnc) Ft ∧ ∀ g ∈ Ft, g ∈ R
  each : ∀ q ∈ Q, q.At w
  foot : ∀ q ∈ Q, ∀ g ∈ q.pF, g ∈ R
  lt : ∀ g ∈ R, g < w.heap.size
  ids : ∀ k (hk : k < Q.length), Q[k].id = k + 1
  wf : WfL (Q.map LC.com)
  gens : ∀ q ∈ Q, q.com.gen ≤ q.id
  two : ∀ q ∈ Q, q.com.par.length ≤ 2
abbrev comsOf (Q : List LC) : Lin0 := Q.map LC.com
theorem LinAt.chg {w w' : World} {p : Nat} {Q : List LC} {R S : List Nat} (h : LinAt w p Q R) (k : Chg S w w') (hp : p ∉ S) (hd : ∀ g ∈ R, g ∉ S) : LinAt w' p Q R := by
  obtain ⟨v, Ft, h1, h2, h3⟩ := h.ex
  exact ⟨⟨v, Ft, h1.chg k hp, h2.chg k (fun g hg => hd g (h3 g hg)), h3⟩, fun q hq => (show Fix _ _ _ _ _ _ _ from (h.each q hq)).chg k (fun g hg => hd g (h.foot q hq g hg)), h.foot, fun g hg => Nat.lt_of_lt_of_le (h.lt g hg) k.size, h.ids, h.wf, h.gens, h.two⟩
theorem LinAt.keep {w w' : World} {p : Nat} {Q : List LC} {R : List Nat} (h : LinAt w p Q R) (k : Chg [] w w') : LinAt w' p Q R := h.chg k (by simp) (by simp)
theorem LinAt.plt {w : World} {p : Nat} {Q : List LC} {R : List Nat} (h : LinAt w p Q R) : p < w.heap.size := by
  obtain ⟨v, Ft, h1, -⟩ := h.ex
  exact h1.lt
theorem LinAt.new (w : World) : LinAt (w.alloc (.cells #[.slice none 0 0] 26)) w.heap.size [] [] :=
  ⟨⟨_, [], Blk.new _ _ _, Fix.nil _ _ _, by simp⟩, by simp, by simp, by simp, by simp, fun id h => by simp [isThere] at h; omega, by simp, by simp⟩
/-- What stands in the struct. -/
theorem LinAt.head {w : World} {p : Nat} {Q : List LC} {R : List Nat} (h : LinAt w p Q R) : ∃ A c, w.cell? ⟨p, 0, none⟩ = some (.slice A Q.length c) ∧ Blk w p 26 #[.slice A Q.length c] ∧ Q.length ≤ c ∧ c ≤ maxLen ∧ ∃ Ft, Fix w 43 5 (.slice A Q.length c) Q.length (Q.flatMap lcEnc) Ft ∧ (∀ g ∈ Ft, g ∈ R) ∧ p ∉ Ft := by
  obtain ⟨v, Ft, h1, h2, h3⟩ := h.ex
  obtain ⟨A, c, rfl, -, h4, h5, -⟩ := id h2
  exact ⟨A, c, h1.cell 0, h1, h4, h5, Ft, h2, h3, h2.ne_blk h1 (by decide)⟩
/-- A version's cells. -/
theorem LinAt.cells {w : World} {p : Nat} {Q : List LC} {R : List Nat} (h : LinAt w p Q R) {k : Nat} (hk : k < Q.length) : ∃ g c, w.cell? ⟨p, 0, none⟩ = some (.slice (some ⟨g, 0, none⟩) Q.length c) ∧ Q.length ≤ c ∧ c ≤ maxLen ∧
    w.cell? ⟨g, k * 5, none⟩ = some (.int .i64 ((k + 1 : Nat) : Int)) ∧ w.cell? ⟨g, k * 5 + 1, none⟩ = some (.int .i64 (Q[k].com.gen : Nat)) ∧ w.cell? ⟨g, k * 5 + 2, none⟩ = some Q[k].pv ∧ w.cell? ⟨g, k * 5 + 3, none⟩ = some (.int .i64 Q[k].com.root) ∧ w.cell? ⟨g, k * 5 + 4, none⟩ = some (.string Q[k].com.author) := by
  obtain ⟨A, c, c0, hb, h1, h2, Ft, hf, -, -⟩ := h.head
  obtain ⟨g, rfl, rfl, hc⟩ := hf.el hk
  have key := fun j (hj : j < 5) => (hc j hj).1.trans (flatMap_at lcEnc_len Q k hk j hj)
  rw [at_eq hk] at key
  have hid := h.ids k hk
  refine ⟨g, c, c0, h1, h2, ?_, ?_, ?_, ?_, ?_⟩
  · have := key 0 (by omega); simpa [lcEnc, hid] using this
  · have := key 1 (by omega); simpa [lcEnc] using this
  · have := key 2 (by omega); simpa [lcEnc] using this
  · have := key 3 (by omega); simpa [lcEnc] using this
  · have := key 4 (by omega); simpa [lcEnc] using this
theorem LinAt.gen_at {w : World} {p : Nat} {Q : List LC} {R : List Nat} (h : LinAt w p Q R) {k : Nat} (hk : k < Q.length) : genAt (comsOf Q) (k + 1) = Q[k].com.gen ∧ parAt (comsOf Q) (k + 1) = Q[k].com.par ∧ Q[k].com.gen ≤ k + 1 := by
  have e : comAt (comsOf Q) (k + 1) = Q[k].com := by
    unfold comAt
    rw [Nat.add_sub_cancel, at_eq (by simpa using hk), List.getElem_map]
  refine ⟨by unfold genAt; rw [e], by unfold parAt; rw [e], ?_⟩
  have := h.gens _ (List.getElem_mem hk)
  rw [h.ids k hk] at this
  exact this
/-- Block b holds 1 for just these numbers. -/
def SeenAt (w : World) (b : Nat) (S : List Nat) : Prop :=
  ∃ (n : Nat) (D : DataW Unit), w.ownsMap Try.prog 3 (plainElem Try.prog 3) b n D ∧ n ≤ S.length ∧ ∀ i : Nat, D.atKey (.int .i64 i) (.lit (.int .i64 0)) = .lit (.int .i64 (if i ∈ S then 1 else 0))
theorem snKeyed : Keyed Try.prog 3 := int_keyed Try.underlying3
theorem wf_nat {n : Nat} (h : n ≤ 1000000) : (Lit.int .i64 (n : Int)).wf = true := WalkArith.wf_i64 (by omega)
theorem snKey {n : Nat} (h : n ≤ 1000000) : keyOf Try.prog 3 (.int .i64 n) = some (.int .i64 n) := keyOf_int_mk Try.underlying3 (wf_nat h)
theorem snZero (w : World) : (zeroValue 3).run Try.prog w = .ok (.int .i64 0) w := by kernel_rfl
theorem SeenAt.lt {w : World} {b : Nat} {S : List Nat} (h : SeenAt w b S) : b < w.heap.size := by
  obtain ⟨n, D, h1, -⟩ := h
  exact World.ownsMap.lt h1
theorem SeenAt.chg {w w' : World} {b : Nat} {S T : List Nat} (h : SeenAt w b S) (k : Chg T w w') (hb : b ∉ T) : SeenAt w' b S := by
  obtain ⟨n, D, ⟨es, clock, hh, r⟩, h2⟩ := h
  exact ⟨n, D, ⟨es, clock, k.get hh hb, r⟩, h2⟩
theorem SeenAt.new (w : World) : SeenAt (w.alloc (.map #[] 0)) w.heap.size [] := ⟨0, .map [], World.ownsMap_made w Try.prog 3 _, by simp, fun i => by simp [DataW.atKey]⟩
theorem SeenAt.look {w : World} {b : Nat} {S : List Nat} (h : SeenAt w b S) {i : Nat} (hi : i ≤ 1000000) : (Instr.lookup 60 (.map (some b)) (.int .i64 i) false).run Try.prog w = .ok (.int .i64 (if i ∈ S then 1 else 0)) w := by
  obtain ⟨n, D, h1, -, h2⟩ := h
  obtain ⟨c, hrun, hat, -⟩ := World.ownsMap.lookup_int h1 snKeyed Try.underlying60 Try.underlying3 (snZero w) (snKey hi)
  rw [h2] at hat
  injection hat with hat
  injection hat with _ hat
  rw [hrun, hat]
theorem SeenAt.store {w : World} {b : Nat} {S : List Nat} (h : SeenAt w b S) (hS : S.length ≤ 1000000) {i : Nat} (hi : i ≤ 1000000) :
    ∃ w', (Instr.mapUpdate 60 (.map (some b)) (.int .i64 i) (.int .i64 1)).run Try.prog w = .ok () w' ∧ SeenAt w' b (i :: S) ∧ Chg [b] w w' := by
  obtain ⟨n, D, h1, hn, h2⟩ := h
  obtain ⟨w', hrun, hown, hg⟩ := World.ownsMap.update h1 snKeyed Try.underlying60 (by unfold maxLen; omega) (snKey hi) (plainElem_int Try.underlying3 (a := 1) (by decide))
  refine ⟨w', hrun, ⟨n + 1, _, hown, by simpa using hn, fun j => ?_⟩, ⟨hg.os, hg.tape, hg.output, hg.size, fun k hk hn => hg.block k hk (by simpa using fun e => hn (by simp [e]))⟩⟩
  have hD : IsMap D := by
    obtain ⟨es, clock, -, -, -, rfl⟩ := h1
    exact ⟨_, rfl⟩
  by_cases e : j = i
  · subst e
    rw [atKey_put_same hD (show WideAt.IsKeyLit (.int .i64 (j : Int)) from trivial)]
    simp
  · rw [atKey_put_other (by simp; omega), h2]
    simp [e]
end Go.Proofs.Ytaabkapjdmceaaa
