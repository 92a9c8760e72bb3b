/- Marks: (printed by mka.sh) a map from names to whole numbers, as it lies in memory; what is said of it in plain words. -/
import Derived.Test.YtggkeageoljegaaProg
import Derived.Test.YtggkeageoljegaaCore
import Derived.Maps.Own
import Derived.Maps.OwnOps
import Derived.Maps.OwnSet
import Derived.Maps.RangeWalk
import Derived.Maps.Ext
namespace Go.Proofs.Ytggkeageoljegaa
open Go.RowKit Go.Vx Go.Maps
set_option linter.unusedVariables false
set_option linter.unusedSimpArgs false

/-- Who has what: names, each with a number. -/
abbrev RL := List (List UInt8 × Int)
def ent (x : List UInt8 × Int) : Lit × DataW Unit := (.string x.1, .lit (.int .i64 x.2))
def dat (L : RL) : DataW Unit := .map (L.map ent)
def getR (L : RL) (k : List UInt8) : Int := match L.find? (fun x => x.1 == k) with | some x => x.2 | none => 0
def delR (L : RL) (k : List UInt8) : RL := L.filter fun x => !(x.1 == k)
def insR (x : List UInt8 × Int) : RL → RL
  | [] => [x]
  | y :: r => if bytesBefore x.1 y.1 then x :: y :: r else y :: insR x r
def putR (L : RL) (k : List UInt8) (v : Int) : RL := insR (k, v) (delR L k)
theorem ins_ent (x : List UInt8 × Int) : ∀ L : RL, DataW.insert (ent x) (L.map ent) = (insR x L).map ent
  | [] => rfl
  | y :: r => by
    rw [List.map_cons, DataW.insert, insR]
    have e : (ent x).1.before (ent y).1 = bytesBefore x.1 y.1 := rfl
    rw [e]
    split
    · rfl
    · rw [List.map_cons, ins_ent x r]
theorem dat_del (L : RL) (k : List UInt8) : (dat L).del (.string k) = dat (delR L k) := by
  unfold dat delR
  show DataW.map _ = _
  congr 1
  rw [List.filter_map]
  rfl
theorem dat_put (L : RL) (k : List UInt8) (v : Int) : (dat L).put (.string k) (.lit (.int .i64 v)) = dat (putR L k v) := by
  have h : (dat L).put (.string k) (.lit (.int .i64 v)) = .map (DataW.insert (ent (k, v)) ((delR L k).map ent)) := by
    have := dat_del L k
    unfold dat at this
    injection this with this
    unfold dat DataW.put
    show DataW.map _ = _
    congr 2
  rw [h, ins_ent]
  rfl
theorem dat_at (L : RL) (k : List UInt8) : (dat L).atKey (.string k) (.lit (.int .i64 0)) = .lit (.int .i64 (getR L k)) := by
  have e : ((fun p : Lit × DataW Unit => p.1.sameKey (.string k)) ∘ ent) = fun x => x.1 == k := rfl
  unfold dat getR DataW.atKey
  dsimp only
  rw [List.find?_map, e]
  cases L.find? (fun x => x.1 == k) <;> rfl
theorem ins_mem (x y : List UInt8 × Int) : ∀ L : RL, y ∈ insR x L ↔ y = x ∨ y ∈ L
  | [] => by simp [insR]
  | z :: r => by
    rw [insR]
    split
    · simp
    · rw [List.mem_cons, ins_mem x y r, List.mem_cons]
      constructor
      · rintro (h | h | h)
        · exact .inr (.inl h)
        · exact .inl h
        · exact .inr (.inr h)
      · rintro (h | h | h)
        · exact .inr (.inl h)
        · exact .inl h
        · exact .inr (.inr h)
theorem ins_len (x : List UInt8 × Int) : ∀ L : RL, (insR x L).length = L.length + 1
  | [] => rfl
  | z :: r => by
    rw [insR]
    split
    · rfl
    · rw [List.length_cons, ins_len x r, List.length_cons]
theorem del_len (L : RL) (k : List UInt8) : (delR L k).length ≤ L.length := List.length_filter_le _ _
theorem put_len (L : RL) (k : List UInt8) (v : Int) : (putR L k v).length ≤ L.length + 1 := by
  unfold putR
  rw [ins_len]
  have := del_len L k
  omega

/-- Each name once. -/
def Uniq (L : RL) : Prop := L.Pairwise fun p q => p.1 ≠ q.1
/-- Nobody has less than one role, or more than all. -/
def Fine (L : RL) : Prop := ∀ x ∈ L, 0 ≤ x.2 ∧ x.2 ≤ 15
theorem Fine.del {L : RL} (h : Fine L) (k : List UInt8) : Fine (delR L k) := fun x hx => h x (List.mem_filter.1 hx).1
theorem Fine.put {L : RL} (h : Fine L) (k : List UInt8) {v : Int} (h0 : 0 ≤ v) (h1 : v ≤ 15) : Fine (putR L k v) := fun x hx => by
  rcases (ins_mem _ _ _).1 hx with rfl | hx
  · exact ⟨h0, h1⟩
  · exact h.del k x hx
theorem Fine.get {L : RL} (h : Fine L) (k : List UInt8) : 0 ≤ getR L k ∧ getR L k ≤ 15 := by
  unfold getR
  split
  · rename_i x hx
    exact h x (List.mem_of_find?_eq_some hx)
  · omega

/-- Block b holds just these. -/
def RMap (w : World) (b : Nat) (L : RL) : Prop := w.ownsMap Try.prog 9 (plainElem Try.prog 3) b L.length (dat L)
theorem roKeyed : Keyed Try.prog 9 := string_keyed Try.underlying9
theorem roKey {s : ByteArray} (h : s.size ≤ maxLen) : keyOf Try.prog 9 (.string s) = some (.string s.data.toList) := Go.WideMaps.keyOf_string_mk Try.underlying9 h
theorem roZero (w : World) : (zeroValue 3).run Try.prog w = .ok (.int .i64 0) w := by kernel_rfl
theorem RMap.of {w : World} {b n : Nat} {L : RL} (h : w.ownsMap Try.prog 9 (plainElem Try.prog 3) b n (dat L)) : RMap w b L := by
  obtain ⟨es, clock, hb, F, hs, hD⟩ := h
  refine ⟨es, clock, hb, F, ?_, hD⟩
  unfold dat at hD
  injection hD with hD
  have h1 := congrArg List.length hD
  rw [List.length_map, length_read es] at h1
  omega
theorem RMap.uniq {w : World} {b : Nat} {L : RL} (h : RMap w b L) : Uniq L := by
  obtain ⟨es, hD, hp⟩ := h.tidy roKeyed
  unfold dat at hD
  injection hD with hD
  subst hD
  rw [List.pairwise_map] at hp
  exact hp.imp fun h e => h (by simp [ent, e])
theorem RMap.lt {w : World} {b : Nat} {L : RL} (h : RMap w b L) : b < w.heap.size := World.ownsMap.lt h
theorem RMap.chg {w w' : World} {b : Nat} {L : RL} {S : List Nat} (h : RMap w b L) (k : Chg S w w') (hb : b ∉ S) : RMap w' b L := by
  obtain ⟨es, clock, hh, r⟩ := h
  exact ⟨es, clock, k.get hh hb, r⟩
theorem chg_grown {w w' : World} {b : Nat} (h : w.grownBy w' (some b)) : Chg [b] w w' := ⟨h.os, h.tape, h.output, h.size, fun k hk hn => h.block k hk (by simpa using fun e => hn (by simp [e]))⟩
/-- A look-up. -/
theorem RMap.look {w : World} {b : Nat} {L : RL} (h : RMap w b L) {s : ByteArray} (hs : s.size ≤ maxLen) : (Instr.lookup 24 (.map (some b)) (.string s) false).run Try.prog w = .ok (.int .i64 (getR L s.data.toList)) w := by
  obtain ⟨c, hrun, hat, -⟩ := World.ownsMap.lookup_int h roKeyed Try.underlying24 Try.underlying3 (roZero w) (roKey hs)
  rw [dat_at] at hat
  injection hat with hat
  injection hat with _ hat
  rw [hrun, hat]
theorem look_none {s : ByteArray} (hs : s.size ≤ maxLen) (w : World) : (Instr.lookup 24 (.map none) (.string s) false).run Try.prog w = .ok (.int .i64 0) w := by
  have := Maps.look_nil (P := Try.prog) (w := w) (t := 24) (e := 3) false roKeyed Try.underlying24 (roZero w) (roKey hs)
  simpa using this
/-- A store. -/
theorem RMap.store {w : World} {b : Nat} {L : RL} (h : RMap w b L) {s : ByteArray} (hs : s.size ≤ maxLen) (hL : L.length < 1000000) {v : Int} (hv : (Lit.int .i64 v).wf = true) :
    ∃ w', (Instr.mapUpdate 24 (.map (some b)) (.string s) (.int .i64 v)).run Try.prog w = .ok () w' ∧ RMap w' b (putR L s.data.toList v) ∧ Chg [b] w w' := by
  obtain ⟨w', hrun, hown, hg⟩ := World.ownsMap.update h roKeyed Try.underlying24 (by unfold maxLen; omega) (roKey hs) (plainElem_int Try.underlying3 hv)
  rw [dat_put] at hown
  exact ⟨w', hrun, RMap.of hown, chg_grown hg⟩
theorem RMap.drop {w : World} {b : Nat} {L : RL} (h : RMap w b L) {s : ByteArray} (hs : s.size ≤ maxLen) (ty : TypeId) :
    ∃ w', (Builtin.delete_ #[24, 9] ty #[.map (some b), .string s]).run Try.prog w = .ok (.tuple #[]) w' ∧ RMap w' b (delR L s.data.toList) ∧ Chg [b] w w' := by
  obtain ⟨w', hrun, hown, ht⟩ := World.ownsMap.drop h roKeyed Try.underlying24 (roKey hs) ty
  rw [dat_del] at hown
  exact ⟨w', hrun, RMap.of hown, chg_grown ht.grown⟩
/-- The roles at p. -/
def RAt (w : World) (p : Nat) (L : RL) (F : List Nat) : Prop :=
  (Blk w p 26 #[.map none] ∧ L = [] ∧ F = []) ∨ ∃ b, Blk w p 26 #[.map (some b)] ∧ RMap w b L ∧ F = [b]
theorem RAt.chg {w w' : World} {p : Nat} {L : RL} {F S : List Nat} (h : RAt w p L F) (k : Chg S w w') (hd : ∀ g, g ∈ p :: F → g ∉ S) : RAt w' p L F := by
  rcases h with ⟨hb, h1, h2⟩ | ⟨b, hb, hm, rfl⟩
  · exact .inl ⟨hb.chg k (hd p (by simp)), h1, h2⟩
  · exact .inr ⟨b, hb.chg k (hd p (by simp)), hm.chg k (hd b (by simp)), rfl⟩
theorem RAt.lt {w : World} {p : Nat} {L : RL} {F : List Nat} (h : RAt w p L F) : ∀ g, g ∈ p :: F → g < w.heap.size := by
  rcases h with ⟨hb, h1, rfl⟩ | ⟨b, hb, hm, rfl⟩
  · simpa using hb.lt
  · intro g hg
    rcases List.mem_cons.1 hg with rfl | hg
    · exact hb.lt
    · obtain rfl : g = b := by simpa using hg
      exact hm.lt
theorem RAt.new (w : World) : RAt (w.alloc (.cells #[.map none] 26)) w.heap.size [] [] := .inl ⟨Blk.new _ _ _, rfl, rfl⟩
theorem RAt.uniq {w : World} {p : Nat} {L : RL} {F : List Nat} (h : RAt w p L F) : Uniq L := by
  rcases h with ⟨-, rfl, -⟩ | ⟨b, -, hm, -⟩
  · exact List.Pairwise.nil
  · exact hm.uniq
/-- What stands in the struct, and what a look-up comes to. -/
theorem RAt.read {w : World} {p : Nat} {L : RL} {F : List Nat} (h : RAt w p L F) {s : ByteArray} (hs : s.size ≤ maxLen) : ∃ m, w.cell? ⟨p, 0, none⟩ = some m ∧ (Instr.lookup 24 m (.string s) false).run Try.prog w = .ok (.int .i64 (getR L s.data.toList)) w := by
  rcases h with ⟨hb, rfl, -⟩ | ⟨b, hb, hm, -⟩
  · exact ⟨.map none, by rw [hb.cell]; rfl, look_none hs w⟩
  · exact ⟨.map (some b), by rw [hb.cell]; rfl, hm.look hs⟩
end Go.Proofs.Ytggkeageoljegaa
