/- Marks: 'v, ok', len; which names may be. -/
import Derived.Test.YtggkeageoljegaaMkA
namespace Go.Proofs.Ytggkeageoljegaa
open Go.RowKit Go.Vx Go.Maps
set_option linter.unusedVariables false
set_option linter.unusedSimpArgs false

def hasR (L : RL) (k : List UInt8) : Bool := L.any fun x => x.1 == k
theorem dat_has (L : RL) (k : List UInt8) : Maps.has (dat L) (.string k) = hasR L k := by
  unfold dat hasR
  rw [Maps.has_eq, List.any_map]
  rfl
theorem RMap.look2 {w : World} {b : Nat} {L : RL} (h : RMap w b L) {s : ByteArray} (hs : s.size ≤ maxLen) : (Instr.lookup 24 (.map (some b)) (.string s) true).run Try.prog w = .ok (.tuple #[.int .i64 (getR L s.data.toList), .bool (hasR L s.data.toList)]) w := by
  have hz0 : plainElem (H := Unit) Try.prog 3 (.int .i64 0) = some (.lit (.int .i64 0), []) := plainElem_int Try.underlying3 (by decide)
  obtain ⟨v, ps, hrun, hat⟩ := World.ownsMap.look_ok h roKeyed Try.underlying24 (roZero w) hz0 (roKey hs)
  rw [dat_at] at hat
  rw [dat_has] at hrun
  obtain ⟨c, rfl, hc, -⟩ := plainElem_int_inv Try.underlying3 hat
  injection hc with hc _
  injection hc with hc
  injection hc with _ hc
  rw [hrun, hc]
theorem look2_none {s : ByteArray} (hs : s.size ≤ maxLen) (w : World) : (Instr.lookup 24 (.map none) (.string s) true).run Try.prog w = .ok (.tuple #[.int .i64 0, .bool false]) w := by
  have := Maps.look_nil (P := Try.prog) (w := w) (t := 24) (e := 3) true roKeyed Try.underlying24 (roZero w) (roKey hs)
  simpa using this
/-- What stands in the struct; 'v, ok'; len. -/
theorem RAt.read2 {w : World} {p : Nat} {L : RL} {F : List Nat} (h : RAt w p L F) {s : ByteArray} (hs : s.size ≤ maxLen) (ty : TypeId) : ∃ m, w.cell? ⟨p, 0, none⟩ = some m ∧ (Instr.lookup 24 m (.string s) true).run Try.prog w = .ok (.tuple #[.int .i64 (getR L s.data.toList), .bool (hasR L s.data.toList)]) w ∧
    (Builtin.len_ #[24] ty #[m]).run Try.prog w = .ok (.int .i64 L.length) w := by
  rcases h with ⟨hb, rfl, -⟩ | ⟨b, hb, hm, -⟩
  · exact ⟨.map none, by rw [hb.cell]; rfl, look2_none hs w, Maps.len_nil Try.underlying24 ty⟩
  · refine ⟨.map (some b), by rw [hb.cell]; rfl, hm.look2 hs, ?_⟩
    have := World.ownsMap.len hm Try.underlying24 ty
    have e : Maps.size (dat L) = L.length := by unfold dat; rw [Maps.size_eq, List.length_map]
    rwa [e] at this
def smallB (c : UInt8) : Bool := decide (97 ≤ c.toNat) && decide (c.toNat ≤ 122)
def markC (c : UInt8) : Bool := smallB c || (decide (48 ≤ c.toNat) && decide (c.toNat ≤ 57)) || c.toNat == 45
/-- A name that may be. -/
def markB (s : List UInt8) : Bool := match s with
  | [] => false
  | c :: r => decide ((c :: r).length ≤ 12) && smallB c && (c :: r).all markC
end Go.Proofs.Ytggkeageoljegaa
