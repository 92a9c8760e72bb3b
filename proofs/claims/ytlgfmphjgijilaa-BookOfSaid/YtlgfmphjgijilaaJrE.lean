/- Journals: the reference's Put. -/
import Derived.Test.YtlgfmphjgijilaaJrD
namespace Go.Proofs.Ytlgfmphjgijilaa
open Go.RowKit Go.Vx
set_option linter.unusedVariables false
set_option linter.unusedSimpArgs false

/-- A journal whose lines are there, apart from some blocks. -/
def JAp (w : World) (F : List Nat) (q : JV) : Prop := ∃ A c, q.pv = .slice A q.j.lines.length c ∧ Go.Vx.Src w 3 A q.j.lines.length (q.j.lines.flatMap lnEnc) ∧ ∀ ad, A = some ad → q.j.lines ≠ [] → ad.block ∉ F ∧ ad.block < w.heap.size
section
variable {w w' : World} {F F' S : List Nat} {q : JV}
theorem src_block {A : Option Addr} {n : Nat} {l : List Ln} (h : Go.Vx.Src w 3 A n (l.flatMap lnEnc)) {ad : Addr} (ha : A = some ad) (hl : l ≠ []) : ad.block < w.heap.size := by
  have hn : 0 < n := by
    have := h.1
    rw [flatMap_len lnEnc_len] at this
    have := List.length_pos_iff.2 hl
    omega
  obtain ⟨ad', h1, hc⟩ := h.2 hn
  rw [ha] at h1
  injection h1 with h1
  subst h1
  cases l with
  | nil => exact absurd rfl hl
  | cons x l =>
    have := hc 0 (.int .i64 x.acct) rfl
    have := World.block_lt_of_cell? w _ this
    rwa [add_block] at this
theorem JAp.chg (h : JAp w F q) (k : Chg S w w') (hS : ∀ g ∈ S, g ∈ F ∨ w.heap.size ≤ g) : JAp w' F q := by
  obtain ⟨A, c, h1, h2, h3⟩ := h
  refine ⟨A, c, h1, ?_, fun ad ha hl => ⟨(h3 ad ha hl).1, Nat.lt_of_lt_of_le (h3 ad ha hl).2 k.size⟩⟩
  by_cases hl : q.j.lines = []
  · rw [hl] at h2 ⊢
    exact ⟨rfl, fun h => by simp at h⟩
  · refine h2.keep fun ad ha j v hv => ?_
    have hb := World.block_lt_of_cell? w _ hv
    rw [k.cell hb (fun hm => ?_)]
    · exact hv
    · rw [add_block] at hm
      rcases hS _ hm with h | h
      · exact (h3 ad ha hl).1 h
      · have := (h3 ad ha hl).2; omega
theorem JAp.keep (h : JAp w F q) (k : Chg [] w w') : JAp w' F q := h.chg k (by simp)
theorem JAp.move (h : JAp w F q) (hF : ∀ g ∈ F', g ∈ F ∨ w.heap.size ≤ g) : JAp w F' q := by
  obtain ⟨A, c, h1, h2, h3⟩ := h
  exact ⟨A, c, h1, h2, fun ad ha hl => ⟨fun hm => (hF _ hm).elim (h3 ad ha hl).1 (fun h => by have := (h3 ad ha hl).2; omega), (h3 ad ha hl).2⟩⟩
theorem JAp.ok (h : JAp w F q) : JOk w q := by obtain ⟨A, c, h1, h2, -⟩ := h; exact ⟨A, c, h1, h2⟩
theorem JOk.ap (h : JOk w q) (hF : ∀ g ∈ F, w.heap.size ≤ g) : JAp w F q := by
  obtain ⟨A, c, h1, h2⟩ := h
  exact ⟨A, c, h1, h2, fun ad ha hl => by have := src_block h2 ha hl; exact ⟨fun hm => by have := hF _ hm; omega, this⟩⟩
theorem JAp.one (h : JAp w F q) : ∀ u ∈ jvEnc q, u.oneCell' = true := by
  obtain ⟨A, c, h1, -⟩ := h
  exact one_jv (by rw [h1]; rfl)
end
def stepP (j : Jn) (s : List Jn × Bool) (q : Jn) : List Jn × Bool := ((s.1 ++ (if (!s.2 && decide (j.id ≤ q.id)) = true then [j] else [])) ++ (if (q.id != j.id) = true then [q] else []), s.2 || decide (j.id ≤ q.id))
def stP (L : List Jn) (j : Jn) : List Jn × Bool := L.foldl (stepP j) ([], false)
def putR (L : List Jn) (j : Jn) : List Jn := (stP L j).1 ++ (if (stP L j).2 = true then [] else [j])
theorem stP_take (L : List Jn) (j : Jn) {k : Nat} (hk : k < L.length) : stP (L.take (k + 1)) j = stepP j (stP (L.take k) j) L[k] := by
  unfold stP
  rw [List.take_succ_eq_append_getElem hk, List.foldl_append]
  rfl
/-- What Put leaves. -/
def PutPost (w : World) (Q : List JV) (j : Jn) (e : Ending) (w' : World) : Prop := ∃ X v F, e = .returned v ∧ Fix w' 31 6 v X.length (X.flatMap jvEnc) F ∧ jns X = putR (jns Q) j ∧ (∀ x ∈ X, JAp w' F x) ∧ (∀ g ∈ F, w.heap.size ≤ g) ∧ Chg [] w w'
/-- What stands between the rounds of Put. -/
def PutAt (w1 : World) (Q : List JV) (j : Jn) (k : Nat) (v : Value) (d : Bool) (W : World) : Prop := ∃ X F, Fix W 31 6 v X.length (X.flatMap jvEnc) F ∧ jns X = (stP ((jns Q).take k) j).1 ∧ d = (stP ((jns Q).take k) j).2 ∧ (∀ x ∈ X, JAp W F x) ∧ (∀ g ∈ F, w1.heap.size ≤ g) ∧ X.length ≤ 2 * k ∧ Chg [] w1 W
end Go.Proofs.Ytlgfmphjgijilaa
