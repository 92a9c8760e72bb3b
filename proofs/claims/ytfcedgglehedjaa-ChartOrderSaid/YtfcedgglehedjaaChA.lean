/- Charts: a map from codes to accounts, as it lies in memory; what is said of it in plain words. -/
import Derived.Test.YtfcedgglehedjaaProg
import Derived.Test.YtfcedgglehedjaaCore
import Derived.Maps.Own
import Derived.Maps.OwnOps
import Derived.Maps.OwnSet
import Derived.Maps.Ext
namespace Go.Proofs.Ytfcedgglehedjaa
open Go.RowKit Go.Vx Go.Maps
set_option linter.unusedVariables false
set_option linter.unusedSimpArgs false

structure Acc where
  code : Int
  kind : Int
  ret : Bool
deriving DecidableEq
instance : Inhabited Acc := ⟨⟨0, 0, false⟩⟩
abbrev CL := List Acc
def accV (a : Acc) : Value := .agg #[.int .i64 a.code, .int .i64 a.kind, .bool a.ret]
def accEnc (a : Acc) : List Value := [.int .i64 a.code, .int .i64 a.kind, .bool a.ret]
theorem accEnc_len (a : Acc) : (accEnc a).length = 3 := rfl
def accD (a : Acc) : DataW Unit := .agg [.lit (.int .i64 a.code), .lit (.int .i64 a.kind), .lit (.bool a.ret)]
theorem accD_inj {a b : Acc} (h : accD a = accD b) : a = b := by
  unfold accD at h
  cases a
  cases b
  simpa using h
/-- How an account reads. -/
def accR (v : Value) : Option (DataW Unit × List MemPlace) :=
  match v with
  | .agg cs => if cs.size = 3 then (match (cs[0]?, cs[1]?, cs[2]?) with | (some (Value.int IntKind.i64 c), some (Value.int IntKind.i64 k), some (Value.bool r)) => some (accD ⟨c, k, r⟩, []) | _ => none) else none
  | _ => none
theorem accR_of (a : Acc) : accR (accV a) = some (accD a, []) := rfl
theorem accR_inv {v : Value} {a : Acc} {ps : List MemPlace} (h : accR v = some (accD a, ps)) : v = accV a := by
  unfold accR at h
  split at h
  · rename_i cs
    split at h
    · rename_i hs
      split at h
      · rename_i c k r he
        injection h with h
        injection h with h
        simp only [Prod.mk.injEq] at he
        obtain ⟨h0, h1, h2⟩ := he
        rw [← accD_inj h]
        unfold accV
        congr 1
        apply Array.ext_getElem?
        intro i
        match i with
        | 0 => simpa using h0
        | 1 => simpa using h1
        | 2 => simpa using h2
        | i + 3 => rw [Array.getElem?_eq_none (by omega), Array.getElem?_eq_none (by simp)]
      · cases h
    · cases h
  · cases h
def entC (x : Acc) : Lit × DataW Unit := (.int .i64 x.code, accD x)
def datC (L : CL) : DataW Unit := .map (L.map entC)
def delC (L : CL) (k : Int) : CL := L.filter fun x => !(x.code == k)
def insC (x : Acc) : CL → CL
  | [] => [x]
  | y :: r => if x.code < y.code then x :: y :: r else y :: insC x r
def putC (L : CL) (a : Acc) : CL := insC a (delC L a.code)
def getC (L : CL) (k : Int) : Option Acc := L.find? fun x => x.code == k
theorem insC_ent (x : Acc) : ∀ L : CL, DataW.insert (entC x) (L.map entC) = (insC x L).map entC
  | [] => rfl
  | y :: r => by
    rw [List.map_cons, DataW.insert, insC]
    have e : (entC x).1.before (entC y).1 = decide (x.code < y.code) := rfl
    rw [e]
    by_cases h : x.code < y.code
    · simp [h]
    · simp only [h, decide_false, Bool.false_eq_true, if_false]
      rw [List.map_cons, insC_ent x r]
theorem sameKey_int (a b : Int) : (Lit.int .i64 a).sameKey (.int .i64 b) = (a == b) := by
  simp [Lit.sameKey]
  rfl
theorem datC_del (L : CL) (k : Int) : (datC L).del (.int .i64 k) = datC (delC L k) := by
  unfold datC delC
  show DataW.map _ = _
  congr 1
  rw [List.filter_map]
  have e : ((fun p : Lit × DataW Unit => !p.1.sameKey (.int .i64 k)) ∘ entC) = fun x => !(x.code == k) := by funext x; exact congrArg _ (sameKey_int _ _)
  exact congrArg (fun q => List.map entC (List.filter q L)) e
theorem datC_put (L : CL) (a : Acc) : (datC L).put (.int .i64 a.code) (accD a) = datC (putC L a) := by
  have h : (datC L).put (.int .i64 a.code) (accD a) = .map (DataW.insert (entC a) ((delC L a.code).map entC)) := by
    have := datC_del L a.code
    unfold datC at this
    injection this with this
    unfold datC DataW.put
    show DataW.map _ = _
    congr 2
  rw [h, insC_ent]
  rfl
theorem datC_at (L : CL) (k : Int) (z : Acc) : (datC L).atKey (.int .i64 k) (accD z) = accD ((getC L k).getD z) := by
  have e : ((fun p : Lit × DataW Unit => p.1.sameKey (.int .i64 k)) ∘ entC) = fun x => x.code == k := by funext x; exact sameKey_int _ _
  unfold datC getC DataW.atKey
  dsimp only
  rw [List.find?_map, e]
  cases L.find? (fun x => x.code == k) <;> rfl
theorem datC_has (L : CL) (k : Int) : Maps.has (datC L) (.int .i64 k) = (getC L k).isSome := by
  have e : ((fun p : Lit × DataW Unit => p.1.sameKey (.int .i64 k)) ∘ entC) = fun x => x.code == k := by funext x; exact sameKey_int _ _
  cases h : getC L k with
  | none =>
    refine Maps.has_false_of_atKey fun zd => ?_
    unfold getC at h
    unfold datC DataW.atKey
    dsimp only
    rw [List.find?_map, e, h]
    rfl
  | some a =>
    refine Maps.has_true_of_atKey (y := accD a) fun zd => ?_
    unfold getC at h
    unfold datC DataW.atKey
    dsimp only
    rw [List.find?_map, e, h]
    rfl
theorem insC_mem (x y : Acc) : ∀ L : CL, y ∈ insC x L ↔ y = x ∨ y ∈ L
  | [] => by simp [insC]
  | z :: r => by
    rw [insC]
    split
    · simp
    · rw [List.mem_cons, insC_mem x y r, List.mem_cons]
      constructor
      · rintro (h | h | h)
        · exact .inr (.inl h)
        · exact .inl h
        · exact .inr (.inr h)
      · rintro (h | h | h)
        · exact .inr (.inl h)
        · exact .inl h
        · exact .inr (.inr h)
theorem insC_len (x : Acc) : ∀ L : CL, (insC x L).length = L.length + 1
  | [] => rfl
  | z :: r => by
    rw [insC]
    split
    · rfl
    · rw [List.length_cons, insC_len x r, List.length_cons]
theorem delC_len (L : CL) (k : Int) : (delC L k).length ≤ L.length := List.length_filter_le _ _
theorem putC_len (L : CL) (a : Acc) : (putC L a).length ≤ L.length + 1 := by
  unfold putC
  rw [insC_len]
  have := delC_len L a.code
  omega
theorem putC_mem {L : CL} {a x : Acc} : x ∈ putC L a ↔ x = a ∨ (x ∈ L ∧ x.code ≠ a.code) := by
  unfold putC
  rw [insC_mem]
  unfold delC
  simp
/-- By their codes, each once. -/
def SrtC (L : CL) : Prop := L.Pairwise fun p q => p.code < q.code
theorem SrtC.del {L : CL} (h : SrtC L) (k : Int) : SrtC (delC L k) := List.Pairwise.filter _ h
theorem insC_srt (x : Acc) : ∀ {L : CL}, SrtC L → (∀ y ∈ L, y.code ≠ x.code) → SrtC (insC x L)
  | [], _, _ => List.pairwise_singleton _ _
  | y :: r, hu, h => by
    have hu' := List.pairwise_cons.1 hu
    rw [insC]
    split
    · rename_i hlt
      refine List.pairwise_cons.2 ⟨fun z hz => ?_, hu⟩
      rcases List.mem_cons.1 hz with rfl | hz
      · exact hlt
      · have := hu'.1 z hz
        omega
    · rename_i hge
      refine List.pairwise_cons.2 ⟨fun z hz => ?_, insC_srt x hu'.2 fun z hz => h z (List.mem_cons_of_mem _ hz)⟩
      rcases (insC_mem _ _ _).1 hz with rfl | hz
      · have := h y (by simp)
        omega
      · exact hu'.1 z hz
theorem SrtC.put {L : CL} (h : SrtC L) (a : Acc) : SrtC (putC L a) := insC_srt a (h.del _) fun y hy => by
  have := (List.mem_filter.1 hy).2
  simpa using this
theorem getC_mem {L : CL} {k : Int} {a : Acc} (h : getC L k = some a) : a ∈ L ∧ a.code = k := ⟨List.mem_of_find?_eq_some h, by simpa using List.find?_some h⟩
theorem getC_none {L : CL} {k : Int} : getC L k = none ↔ ∀ x ∈ L, x.code ≠ k := by
  unfold getC
  rw [List.find?_eq_none]
  simp
theorem getC_of {L : CL} (hL : SrtC L) {a : Acc} (h : a ∈ L) : getC L a.code = some a := by
  induction L with
  | nil => cases h
  | cons y r ih =>
    have hu := List.pairwise_cons.1 hL
    unfold getC
    rw [List.find?_cons]
    rcases List.mem_cons.1 h with rfl | h
    · simp
    · have := hu.1 a h
      have hb : (y.code == a.code) = false := by simp; omega
      rw [hb]
      exact ih hu.2 h
theorem srtC_ext : ∀ {L M : CL}, SrtC L → SrtC M → (∀ x, x ∈ L ↔ x ∈ M) → L = M
  | [], [], _, _, _ => rfl
  | [], y :: M, _, _, h => by have := (h y).2 (by simp); cases this
  | x :: L, [], _, _, h => by have := (h x).1 (by simp); cases this
  | x :: L, y :: M, h1, h2, h => by
    have p1 := List.pairwise_cons.1 h1
    have p2 := List.pairwise_cons.1 h2
    have e : x = y := by
      rcases List.mem_cons.1 ((h x).1 (by simp)) with e | e
      · exact e
      · rcases List.mem_cons.1 ((h y).2 (by simp)) with e' | e'
        · exact e'.symm
        · have a1 := p2.1 x e
          have a2 := p1.1 y e'
          omega
    subst e
    congr 1
    refine srtC_ext p1.2 p2.2 fun z => ⟨fun hz => ?_, fun hz => ?_⟩
    · rcases List.mem_cons.1 ((h z).1 (by simp [hz])) with rfl | hm
      · have := p1.1 z hz
        omega
      · exact hm
    · rcases List.mem_cons.1 ((h z).2 (by simp [hz])) with rfl | hm
      · have := p2.1 z hz
        omega
      · exact hm

/-- Block b holds just these. -/
def CMap (w : World) (b : Nat) (L : CL) : Prop := w.ownsMap Try.prog 3 accR b L.length (datC L)
theorem chKeyed : Keyed Try.prog 3 := int_keyed Try.underlying3
theorem chKey {k : Int} (h : (Lit.int .i64 k).wf = true) : keyOf Try.prog 3 (.int .i64 k) = some (.int .i64 k) := keyOf_int_mk Try.underlying3 h
theorem chZero (w : World) : (zeroValue 28).run Try.prog w = .ok (accV ⟨0, 0, false⟩) w := by kernel_rfl
theorem CMap.of {w : World} {b n : Nat} {L : CL} (h : w.ownsMap Try.prog 3 accR b n (datC L)) : CMap w b L := by
  obtain ⟨es, clock, hb, F, hs, hD⟩ := h
  refine ⟨es, clock, hb, F, ?_, hD⟩
  unfold datC at hD
  injection hD with hD
  have h1 := congrArg List.length hD
  rw [List.length_map, length_sorted, List.length_map] at h1
  simp at h1
  omega
theorem CMap.lt {w : World} {b : Nat} {L : CL} (h : CMap w b L) : b < w.heap.size := World.ownsMap.lt h
theorem CMap.chg {w w' : World} {b : Nat} {L : CL} {S : List Nat} (h : CMap w b L) (k : Chg S w w') (hb : b ∉ S) : CMap w' b L := by
  obtain ⟨es, clock, hh, r⟩ := h
  exact ⟨es, clock, k.get hh hb, r⟩
theorem CMap.new (w : World) : CMap (w.alloc (.map #[] 0)) w.heap.size [] := World.ownsMap_made w Try.prog 3 _
theorem chg_grown {w w' : World} {b : Nat} (h : w.grownBy w' (some b)) : Chg [b] w w' := ⟨h.os, h.tape, h.output, h.size, fun k hk hn => h.block k hk (by simpa using fun e => hn (by simp [e]))⟩
def zAcc : Acc := ⟨0, 0, false⟩
/-- A look-up. -/
theorem CMap.look {w : World} {b : Nat} {L : CL} (h : CMap w b L) {k : Int} (hk : (Lit.int .i64 k).wf = true) : (Instr.lookup 24 (.map (some b)) (.int .i64 k) false).run Try.prog w = .ok (accV ((getC L k).getD zAcc)) w := by
  obtain ⟨v, ps, hrun, hat⟩ := World.ownsMap.lookup h chKeyed Try.underlying24 (chZero w) (accR_of _) (chKey hk)
  rw [datC_at] at hat
  rw [hrun, accR_inv hat]
  rfl
theorem CMap.lookok {w : World} {b : Nat} {L : CL} (h : CMap w b L) {k : Int} (hk : (Lit.int .i64 k).wf = true) : (Instr.lookup 24 (.map (some b)) (.int .i64 k) true).run Try.prog w = .ok (.tuple #[accV ((getC L k).getD zAcc), .bool (getC L k).isSome]) w := by
  obtain ⟨v, ps, hrun, hat⟩ := World.ownsMap.look_ok h chKeyed Try.underlying24 (chZero w) (accR_of _) (chKey hk)
  rw [datC_at] at hat
  rw [hrun, accR_inv hat, datC_has]
  rfl
theorem lookok_none {k : Int} (hk : (Lit.int .i64 k).wf = true) (w : World) : (Instr.lookup 24 (.map none) (.int .i64 k) true).run Try.prog w = .ok (.tuple #[accV zAcc, .bool false]) w := by
  have := Maps.look_nil (P := Try.prog) (w := w) (t := 24) (e := 28) true chKeyed Try.underlying24 (chZero w) (chKey hk)
  simpa [zAcc] using this
/-- A store. -/
theorem CMap.store {w : World} {b : Nat} {L : CL} (h : CMap w b L) (hL : L.length < 1000000) {a : Acc} (hk : (Lit.int .i64 a.code).wf = true) :
    ∃ w', (Instr.mapUpdate 24 (.map (some b)) (.int .i64 a.code) (accV a)).run Try.prog w = .ok () w' ∧ CMap w' b (putC L a) ∧ Chg [b] w w' := by
  obtain ⟨w', hrun, hown, hg⟩ := World.ownsMap.update h chKeyed Try.underlying24 (by unfold maxLen; omega) (chKey hk) (accR_of a)
  rw [datC_put] at hown
  exact ⟨w', hrun, CMap.of hown, chg_grown hg⟩
/-- The chart at p. -/
def CAt (w : World) (p : Nat) (L : CL) (F : List Nat) : Prop :=
  (Blk w p 26 #[.map none] ∧ L = [] ∧ F = []) ∨ ∃ b, Blk w p 26 #[.map (some b)] ∧ CMap w b L ∧ F = [b]
theorem CAt.chg {w w' : World} {p : Nat} {L : CL} {F S : List Nat} (h : CAt w p L F) (k : Chg S w w') (hd : ∀ g, g ∈ p :: F → g ∉ S) : CAt w' p L F := by
  rcases h with ⟨hb, h1, h2⟩ | ⟨b, hb, hm, rfl⟩
  · exact .inl ⟨hb.chg k (hd p (by simp)), h1, h2⟩
  · exact .inr ⟨b, hb.chg k (hd p (by simp)), hm.chg k (hd b (by simp)), rfl⟩
theorem CAt.keep {w w' : World} {p : Nat} {L : CL} {F : List Nat} (h : CAt w p L F) (k : Chg [] w w') : CAt w' p L F := h.chg k (by simp)
theorem CAt.lt {w : World} {p : Nat} {L : CL} {F : List Nat} (h : CAt w p L F) : ∀ g, g ∈ p :: F → g < w.heap.size := by
  rcases h with ⟨hb, h1, rfl⟩ | ⟨b, hb, hm, rfl⟩
  · simpa using hb.lt
  · intro g hg
    rcases List.mem_cons.1 hg with rfl | hg
    · exact hb.lt
    · obtain rfl : g = b := by simpa using hg
      exact hm.lt
theorem CAt.new (w : World) : CAt (w.alloc (.cells #[.map none] 26)) w.heap.size [] [] := .inl ⟨Blk.new _ _ _, rfl, rfl⟩
/-- What stands in the struct, and what a look-up comes to. -/
theorem CAt.read {w : World} {p : Nat} {L : CL} {F : List Nat} (h : CAt w p L F) {k : Int} (hk : (Lit.int .i64 k).wf = true) : ∃ m, w.cell? ⟨p, 0, none⟩ = some m ∧ (Instr.lookup 24 m (.int .i64 k) true).run Try.prog w = .ok (.tuple #[accV ((getC L k).getD zAcc), .bool (getC L k).isSome]) w := by
  rcases h with ⟨hb, rfl, -⟩ | ⟨b, hb, hm, -⟩
  · exact ⟨.map none, by rw [hb.cell]; rfl, lookok_none hk w⟩
  · exact ⟨.map (some b), by rw [hb.cell]; rfl, hm.lookok hk⟩
end Go.Proofs.Ytfcedgglehedjaa
