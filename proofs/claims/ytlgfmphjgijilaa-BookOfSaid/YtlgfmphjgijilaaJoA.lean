/- Journals: what they are; lines in memory; which may be. -/
import Derived.Test.YtlgfmphjgijilaaProg
import Derived.Test.YtlgfmphjgijilaaCore
import Derived.Test.YtlgfmphjgijilaaRows2
import Derived.Test.YtlgfmphjgijilaaOpen
import Derived.Test.YtlgfmphjgijilaaHeapAt
namespace Go.Proofs.Ytlgfmphjgijilaa
open Go.RowKit Go.Vx
set_option linter.unusedVariables false
set_option linter.unusedSimpArgs false

structure Ln where
  acct : Int
  amt : Int
  part : Int
deriving DecidableEq
instance : Inhabited Ln := ⟨⟨0, 0, 0⟩⟩
def lnEnc (l : Ln) : List Value := [.int .i64 l.acct, .int .i64 l.amt, .int .i64 l.part]
theorem lnEnc_len (l : Ln) : (lnEnc l).length = 3 := rfl
structure Jn where
  id : Int
  ent : Int
  per : Int
  ref : ByteArray
  lines : List Ln
  void : Bool
def jnV (j : Jn) (pv : Value) : Value := .agg #[.int .i64 j.id, .int .i64 j.ent, .int .i64 j.per, .string j.ref, pv, .bool j.void]
def jnEnc (j : Jn) (pv : Value) : List Value := [.int .i64 j.id, .int .i64 j.ent, .int .i64 j.per, .string j.ref, pv, .bool j.void]
theorem line_cells {w : World} {A : Option Addr} {n : Nat} {l : List Ln} (hs : Src w 3 A n (l.flatMap lnEnc)) {i : Nat} (hi : i < l.length) : ∃ ad, A = some ad ∧ w.cell? (ad.add (i * 3)) = some (.int .i64 l[i].acct) ∧ w.cell? ⟨(ad.add (i * 3)).block, (ad.add (i * 3)).off + 1, none⟩ = some (.int .i64 l[i].amt) ∧ w.cell? ⟨(ad.add (i * 3)).block, (ad.add (i * 3)).off + 2, none⟩ = some (.int .i64 l[i].part) := by
  have hl : l.length = n := by have := hs.1; rw [flatMap_len lnEnc_len] at this; omega
  obtain ⟨ad, rfl, hc⟩ := hs.2 (by omega)
  have key : ∀ j u, j < 3 → (lnEnc l[i])[j]? = some u → w.cell? (ad.add (i * 3 + j)) = some u := fun j u hj hu => by
    apply hc
    rw [flatMap_at lnEnc_len l i hi j hj, at_eq hi]
    exact hu
  have e : ∀ j, j ≠ 0 → ad.add (i * 3 + j) = ⟨(ad.add (i * 3)).block, (ad.add (i * 3)).off + j, none⟩ := fun j hj => by
    unfold Addr.add
    by_cases hks : i * 3 = 0 <;> simp [hks, hj, Nat.add_assoc]
  exact ⟨ad, rfl, key 0 _ (by omega) rfl, by rw [← e 1 (by omega)]; exact key 1 _ (by omega) rfl, by rw [← e 2 (by omega)]; exact key 2 _ (by omega) rfl⟩
theorem oneLines (l : List Ln) : ∀ u ∈ l.flatMap lnEnc, u.oneCell' = true := fun u hu => by
  obtain ⟨q, hq, hu⟩ := List.mem_flatMap.1 hu
  simp only [lnEnc, List.mem_cons, List.not_mem_nil, or_false] at hu
  rcases hu with rfl | rfl | rfl <;> rfl

/-- A byte of an outer reference. -/
def refc (c : UInt8) : Bool := (decide (65 ≤ c.toNat) && decide (c.toNat ≤ 90)) || (decide (48 ≤ c.toNat) && decide (c.toNat ≤ 57))
def refB (s : ByteArray) : Bool := s.data.toList.all refc && decide (s.size ≤ 8)
def entB (n : Int) : Bool := decide (1 ≤ n) && decide (n ≤ 9)
def perB (n : Int) : Bool := decide (0 ≤ n) && decide (n ≤ 1199)
def frontB (j : Jn) : Bool := decide (1 ≤ j.id) && decide (j.id ≤ 999999) && entB j.ent && perB j.per && refB j.ref && decide (2 ≤ j.lines.length) && decide (j.lines.length ≤ 8)
def lineB (of : Int) (l : Ln) : Bool := decide (1 ≤ l.acct) && decide (l.acct ≤ 9999) && (l.amt != 0) && ((l.part == 0) || (entB l.part && (l.part != of)))
def fitM (a : Int) : Bool := !(decide (a < -1000000000000000) || decide (1000000000000000 < a))
def sumL (l : List Ln) : Int := l.foldl (fun s x => s + x.amt) 0
/-- Why a journal may not be. -/
def checkE (j : Jn) : Int := if !frontB j then 1 else if !(j.lines.all (lineB j.ent)) then 1 else if !(j.lines.all fun x => fitM x.amt) then 2 else if sumL j.lines != 0 then 3 else 0
end Go.Proofs.Ytlgfmphjgijilaa
