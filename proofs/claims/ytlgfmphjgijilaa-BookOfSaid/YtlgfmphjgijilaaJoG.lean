/- Journals: find; whose reference it is. -/
import Derived.Test.YtlgfmphjgijilaaJoF
import Derived.Deep.RegionLaw
namespace Go.Proofs.Ytlgfmphjgijilaa
open Go.RowKit Go.Vx
set_option linter.unusedVariables false
set_option linter.unusedSimpArgs false

/-- A book in memory. -/
structure BAt (w : World) (p : Nat) (Q : List JV) (R : List Nat) : Prop where
  ex : ∃ v Ft, Blk w p 26 #[v] ∧ Fix w 31 6 v Q.length (Q.flatMap jvEnc) Ft ∧ ∀ g ∈ Ft, g ∈ R
  each : ∀ q ∈ Q, Fix w 28 3 q.pv q.j.lines.length (q.j.lines.flatMap lnEnc) q.pF
  foot : ∀ q ∈ Q, ∀ g ∈ q.pF, g ∈ R
theorem BAt.chg {w w' : World} {p : Nat} {Q : List JV} {R S : List Nat} (h : BAt w p Q R) (k : Chg S w w') (hp : p ∉ S) (hd : ∀ g ∈ R, g ∉ S) : BAt w' p Q R := by
  obtain ⟨v, Ft, h1, h2, h3⟩ := h.ex
  exact ⟨⟨v, Ft, h1.chg k hp, h2.chg k (fun g hg => hd g (h3 g hg)), h3⟩, fun q hq => (h.each q hq).chg k (fun g hg => hd g (h.foot q hq g hg)), h.foot⟩
theorem BAt.keep {w w' : World} {p : Nat} {Q : List JV} {R : List Nat} (h : BAt w p Q R) (k : Chg [] w w') : BAt w' p Q R := h.chg k (by simp) (by simp)
theorem BAt.new (w : World) : BAt (w.alloc (.cells #[.slice none 0 0] 26)) w.heap.size [] [] :=
  ⟨⟨_, [], Blk.new _ _ _, Fix.nil _ _ _, by simp⟩, by simp, by simp⟩
theorem BAt.head {w : World} {p : Nat} {Q : List JV} {R : List Nat} (h : BAt w p Q R) : ∃ A c Ft, w.cell? ⟨p, 0, none⟩ = some (.slice A Q.length c) ∧ Blk w p 26 #[.slice A Q.length c] ∧ Fix w 31 6 (.slice A Q.length c) Q.length (Q.flatMap jvEnc) Ft ∧ (∀ g ∈ Ft, g ∈ R) ∧ p ∉ Ft ∧ Q.length ≤ c ∧ c ≤ 9223372036854775807 := by
  obtain ⟨v, Ft, h1, h2, h3⟩ := h.ex
  obtain ⟨A, c, rfl, -, h4, h5, -⟩ := id h2
  exact ⟨A, c, Ft, h1.cell 0, h1, h2, h3, h2.ne_blk h1 (by decide), h4, h5⟩
def Ids (Q : List JV) : Prop := ∀ q ∈ Q, 1 ≤ q.j.id ∧ q.j.id ≤ 999999
def foundB (Q : List JV) (id : Int) : Bool := Q.any fun q => q.j.id == id
/-- What find answers. -/
def FindPost (w : World) (Q : List JV) (id : Int) (e : Ending) (w' : World) : Prop := ∃ i : Nat, i ≤ Q.length ∧ e = .returned (.tuple #[.int .i64 i, .bool (foundB Q id)]) ∧ (∀ k, (hk : k < Q.length) → k < i → Q[k].j.id < id) ∧ (∀ k, (hk : k < Q.length) → i ≤ k → id ≤ Q[k].j.id) ∧ Chg [] w w'
theorem jb_find {w : World} {p : Nat} {Q : List JV} {R : List Nat} (h : BAt w p Q R) (hn : Q.length ≤ 1000) (hQ : SrtJ Q) (hid : Ids Q) {id : Int} (h1 : 1 ≤ id) (h2 : id ≤ 999999) : Calls Try.prog 30 #[.pointer (some ⟨p, 0, none⟩), .int .i64 id] w (FindPost w Q id) := by
  obtain ⟨A, c, Ft, c0, -, hf, -, -, -, -⟩ := h.head
  have hb := jb_bsf (c := c) (Fix.src hf) hn hQ hid h1 h2
  unfold FindPost foundB
  clear h
  go_enter Try.func30, Try.ntmps30
  go_wp2_with fail
  refine hb.mono ?_
  rintro e w' ⟨i, hi, rfl, hlo, hhi, hz⟩
  clear hb
  replace hlo := Lib.hid hlo
  replace hhi := Lib.hid hhi
  go_wp2_with fail
  go_ret2
  exact ⟨i, hi, rfl, hlo.out, hhi.out, hz⟩
/-- Is it another one with the same reference? -/
def holdsB (h j : Jn) : Bool := !j.void && ((j.id != h.id) && ((j.ent == h.ent) && (j.ref.toList == h.ref.toList)))
set_option maxRecDepth 8000 in
set_option maxHeartbeats 2000000 in
theorem jb_holds (h j : Jn) (hv jv : Value) (w : World) : Calls Try.prog 47 #[jnV h hv, jnV j jv] w fun e w' => e = .returned (.bool (holdsB h j)) ∧ Chg [] w w' := by
  obtain ⟨i, e, p, r, l, b⟩ := h
  obtain ⟨i2, e2, p2, r2, l2, b2⟩ := j
  have key : ∀ x, holdsB ⟨i, e, p, r, l, b⟩ ⟨i2, e2, p2, r2, l2, b2⟩ = x → Hid (holdsB ⟨i, e, p, r, l, b⟩ ⟨i2, e2, p2, r2, l2, b2⟩ = x) := fun x h => Lib.hid h
  unfold jnV
  dsimp only
  have hz := ((Chg.refl [] w).alloc (.cells #[.int .i64 i, .int .i64 e, .int .i64 p, .string r, hv, .bool b] 69)).alloc (.cells #[.int .i64 i2, .int .i64 e2, .int .i64 p2, .string r2, jv, .bool b2] 31)
  cases b2 with
  | true =>
    have hf := key false (by simp [holdsB])
    rw [hf.out]
    go_enter Try.func47, Try.ntmps47
    go_wp2_with fail
    go_ret
    exact ⟨rfl, hz⟩
  | false =>
  by_cases h1 : i2 = i
  · have hf := key false (by simp [holdsB, h1])
    have b1 : (i2 != i) = false := by simp [h1]
    rw [hf.out]
    clear h1
    go_enter Try.func47, Try.ntmps47
    go_wp2_with fail
    go_ret
    exact ⟨rfl, hz⟩
  have b1 : (i2 != i) = true := by simp [h1]
  by_cases h2 : e2 = e
  · have b2 : (e2 == e) = true := by simp [h2]
    have hf := key (r2.toList == r.toList) (by simp [holdsB, b1, b2])
    rw [hf.out]
    clear h1 h2
    go_enter Try.func47, Try.ntmps47
    go_wp2_with fail
    go_ret
    exact ⟨rfl, hz⟩
  · have b2 : (e2 == e) = false := by simp [h2]
    have hf := key false (by simp [holdsB, b1, b2])
    rw [hf.out]
    clear h1 h2
    go_enter Try.func47, Try.ntmps47
    go_wp2_with fail
    go_ret
    exact ⟨rfl, hz⟩
end Go.Proofs.Ytlgfmphjgijilaa
