/- ClothLasts: plain laws; sets of texts in memory. -/
import Derived.Test.YtjbjiomajldkoaaClothIs
import Derived.Test.YtjbjiomajldkoaaClothSn
import Derived.Maps.Own
import Derived.Maps.OwnOps
import Derived.Maps.OwnSet
import Derived.Maps.Ext
namespace Go.Proofs.Ytjbjiomajldkoaa
open Go.RowKit Go.Vx Go.Maps
set_option linter.unusedVariables false
set_option linter.unusedSimpArgs false

def m6 (n : Int) : Nat := ((n.tmod 6 + 6).tmod 6).toNat
theorem m6_spec (n : Int) : m6 n < 6 ∧ (n.tmod 6 + 6).tmod 6 = (m6 n : Int) ∧ -6 < n.tmod 6 ∧ n.tmod 6 < 6 := by
  have e1 : n.tmod 6 < 6 := Int.tmod_lt_of_pos n (by omega)
  have e2 : -6 < n.tmod 6 := by
    have := Int.tmod_lt_of_pos (-n) (b := (6 : Int)) (by omega)
    rw [Int.neg_tmod] at this
    omega
  have e3 := Int.tmod_nonneg (a := n.tmod 6 + 6) (6 : Int) (by omega)
  have e4 : (n.tmod 6 + 6).tmod 6 < 6 := Int.tmod_lt_of_pos _ (by omega)
  unfold m6
  exact ⟨by omega, by omega, e2, e1⟩
/-- What is woven. -/
def wov (l : List OpV) : List (Nat × ByteArray) := l.filterMap fun x => if x.s.size ≤ 40 then some (m6 x.n, x.s) else none
theorem wov_take (l : List OpV) {k : Nat} (h : k < l.length) : wov (l.take (k + 1)) = wov (l.take k) ++ (if l[k].s.size ≤ 40 then [(m6 l[k].n, l[k].s)] else []) := by
  unfold wov
  rw [List.take_succ_eq_append_getElem h, List.filterMap_append]
  congr 1
  by_cases hs : l[k].s.size ≤ 40 <;> simp [hs]
def InR (q : List (Nat × ByteArray)) : Prop := ∀ t ∈ q, t.1 < 6
theorem wov_in (l : List OpV) : InR (wov l) := fun t ht => by
  obtain ⟨x, -, hx⟩ := List.mem_filterMap.1 ht
  split at hx
  · injection hx with hx
    rw [← hx]
    exact (m6_spec x.n).1
  · cases hx
theorem wov_len (l : List OpV) : (wov l).length ≤ l.length := List.length_filterMap_le _ _
def thr (q : List (Nat × ByteArray)) : List (Int × ByteArray) := q.map fun t => ((t.1 : Int), t.2)
theorem thr_len (q : List (Nat × ByteArray)) : (thr q).length = q.length := by simp [thr]
def laC (B : List ByteArray) (q : List (Nat × ByteArray)) : ClothS := ⟨B, thr q, false, false, 0, []⟩
theorem laC_rows {B : List ByteArray} {q : List (Nat × ByteArray)} (hB : B.length = 6) (hq : InR q) : RowsOk (laC B q).pressed.length (laC B q).loose := by
  intro t ht
  obtain ⟨x, hx, rfl⟩ := List.mem_map.1 ht
  have := hq x hx
  show (0 : Int) ≤ (x.1 : Int) ∧ (x.1 : Int) < ((B.length : Nat) : Int)
  rw [hB]
  omega
theorem laC_may {B : List ByteArray} {q : List (Nat × ByteArray)} (hB : B.length = 6) {r : Nat} (hr : r < 6) : (laC B q).may (r : Int) = 0 := by
  simp [ClothS.may, laC, hB]
  omega
theorem laC_weave (B : List ByteArray) (q : List (Nat × ByteArray)) (r : Nat) (s : ByteArray) : (laC B q).weaveS (r : Int) s = laC B (q ++ [(r, s)]) := by
  simp [ClothS.weaveS, ClothS.going, laC, ClothS.add, ClothS.gone, thr]
def base6 : List ByteArray := List.replicate 6 em
def lastsOf (q : List (Nat × ByteArray)) : List ByteArray := pressTo base6 (thr q)
theorem lastsOf_len (q : List (Nat × ByteArray)) : (lastsOf q).length = 6 := by
  unfold lastsOf
  rw [pressTo_length]
  rfl
theorem lastsOf_snoc (q : List (Nat × ByteArray)) (r : Nat) (s : ByteArray) : lastsOf (q ++ [(r, s)]) = (lastsOf q).set r s := by
  unfold lastsOf thr
  rw [List.map_append, List.map_cons, List.map_nil, pressTo_snoc]
  rfl
theorem laC_press {q : List (Nat × ByteArray)} : (laC base6 q).pressS = laC (lastsOf q) [] := by
  simp [ClothS.pressS, ClothS.going, laC, ClothS.done, ClothS.gone, thr, lastsOf]
theorem laC_tear (B : List ByteArray) (q : List (Nat × ByteArray)) (keep : List Bool) : { (laC B q).tear keep with torn := false } = laC (pressTo B (keptTo (thr q) keep (thr q).length)) [] := by
  simp [ClothS.tear, laC, thr]
theorem laC_text (B : List ByteArray) (j : Nat) : (laC B []).text j = B.getD j em := by simp [ClothS.text, laC, thr]
/-- What may stand in a row. -/
def mayB (B : List ByteArray) (q : List (Nat × ByteArray)) (j : Nat) (k : List UInt8) : Bool := ((B.getD j em).data.toList == k) || q.any fun t => t.1 == j && t.2.data.toList == k
theorem mayB_snoc (B : List ByteArray) (q : List (Nat × ByteArray)) (r : Nat) (s : ByteArray) (j : Nat) (k : List UInt8) : mayB B (q ++ [(r, s)]) j k = (mayB B q j k || (r == j && s.data.toList == k)) := by
  unfold mayB
  rw [List.any_append]
  simp [Bool.or_assoc]
theorem mayB_nil (B : List ByteArray) (j : Nat) (k : List UInt8) : mayB B [] j k = ((B.getD j em).data.toList == k) := by simp [mayB]
theorem press_good (G : Nat → ByteArray → Prop) : ∀ (ks : List (Int × ByteArray)) (pr : List ByteArray), (∀ j, G j (pr.getD j em)) → (∀ t ∈ ks, G t.1.toNat t.2) → ∀ j, G j ((pressTo pr ks).getD j em)
  | [], pr, h, _, j => h j
  | t :: ks, pr, h, hk, j => by
    refine press_good G ks (pr.set t.1.toNat t.2) (fun i => ?_) (fun x hx => hk x (by simp [hx])) j
    rw [List.getD_eq_getElem?_getD, List.getElem?_set]
    by_cases e : t.1.toNat = i
    · rw [if_pos e]
      by_cases hl : t.1.toNat < pr.length
      · rw [if_pos hl, ← e]
        exact hk t (by simp)
      · rw [if_neg hl]
        have := h i
        rw [List.getD_eq_getElem?_getD, List.getElem?_eq_none (by omega)] at this
        exact this
    · rw [if_neg e, ← List.getD_eq_getElem?_getD]
      exact h i
theorem kept_may (B : List ByteArray) (q : List (Nat × ByteArray)) (keep : List Bool) (n j : Nat) : mayB B q j ((pressTo B (keptTo (thr q) keep n)).getD j em).data.toList = true := by
  refine press_good (fun j s => mayB B q j s.data.toList = true) _ B (fun j => by simp [mayB]) (fun t ht => ?_) j
  obtain ⟨x, hx, rfl⟩ := List.mem_map.1 (keptTo_mem _ _ _ _ ht)
  unfold mayB
  rw [Bool.or_eq_true]
  refine .inr (List.any_eq_true.2 ⟨x, hx, by simp⟩)
theorem kept_step (l : List (Int × ByteArray)) (keep : List Bool) {k : Nat} (hk : k < l.length) : (keptTo l keep (k + 1)).length = (keptTo l keep k).length + (if keep.getD k false then 1 else 0) := by
  simp only [keptTo]
  split
  · rw [List.getElem?_eq_getElem hk]
    simp
  · simp
theorem kept_stay (l : List (Int × ByteArray)) (keep : List Bool) : ∀ d k, keep.length ≤ k → (keptTo l keep (k + d)).length = (keptTo l keep k).length
  | 0, k, _ => rfl
  | d + 1, k, h => by
    have e : keep.getD (k + d) false = false := by rw [List.getD_eq_getElem?_getD, List.getElem?_eq_none (by omega)]; rfl
    rw [← Nat.add_assoc]
    simp only [keptTo, e]
    simpa using kept_stay l keep d k h

/-- Block b holds just the texts that P names. -/
def SetAt (w : World) (b N : Nat) (P : List UInt8 → Bool) : Prop :=
  ∃ (n : Nat) (D : DataW Unit), w.ownsMap Try.prog 9 (plainElem Try.prog 4) b n D ∧ n ≤ N ∧ ∀ k, D.atKey (.string k) (.lit (.bool false)) = .lit (.bool (P k))
theorem stKeyed : Keyed Try.prog 9 := string_keyed Try.underlying9
theorem stKey {s : ByteArray} (h : s.size ≤ maxLen) : keyOf Try.prog 9 (.string s) = some (.string s.data.toList) := Go.WideMaps.keyOf_string_mk Try.underlying9 h
theorem stZero (w : World) : (zeroValue 4).run Try.prog w = .ok (.bool false) w := by kernel_rfl
theorem SetAt.lt {w : World} {b N : Nat} {P : List UInt8 → Bool} (h : SetAt w b N P) : b < w.heap.size := by
  obtain ⟨n, D, h1, -⟩ := h
  exact World.ownsMap.lt h1
theorem SetAt.chg {w w' : World} {b N : Nat} {P : List UInt8 → Bool} {T : List Nat} (h : SetAt w b N P) (k : Chg T w w') (hb : b ∉ T) : SetAt w' b N P := by
  obtain ⟨n, D, ⟨es, clock, hh, r⟩, h2⟩ := h
  exact ⟨n, D, ⟨es, clock, k.get hh hb, r⟩, h2⟩
theorem SetAt.new (w : World) : SetAt (w.alloc (.map #[] 0)) w.heap.size 0 fun _ => false := ⟨0, .map [], World.ownsMap_made w Try.prog 9 _, by simp, fun i => by simp [DataW.atKey]⟩
theorem plainBool_inv {v : Value} {x : Bool} {ps : List MemPlace} (h : plainElem (H := Unit) Try.prog 4 v = some (.lit (.bool x), ps)) : v = .bool x := by
  unfold plainElem at h
  rw [Try.underlying4] at h
  cases v <;> simp at h
  rw [h.1]
theorem SetAt.look {w : World} {b N : Nat} {P : List UInt8 → Bool} (h : SetAt w b N P) {s : ByteArray} (hs : s.size ≤ maxLen) : (Instr.lookup 34 (.map (some b)) (.string s) false).run Try.prog w = .ok (.bool (P s.data.toList)) w := by
  obtain ⟨n, D, h1, -, h2⟩ := h
  obtain ⟨v, ps, hrun, hat⟩ := World.ownsMap.lookup h1 stKeyed Try.underlying34 (stZero w) (plainElem_bool Try.underlying4 false) (stKey hs)
  rw [h2] at hat
  rw [hrun, plainBool_inv hat]
theorem SetAt.store {w : World} {b N : Nat} {P : List UInt8 → Bool} (h : SetAt w b N P) (hN : N ≤ 1000000) {s : ByteArray} (hs : s.size ≤ maxLen) :
    ∃ w', (Instr.mapUpdate 34 (.map (some b)) (.string s) (.bool true)).run Try.prog w = .ok () w' ∧ SetAt w' b (N + 1) (fun k => P k || s.data.toList == k) ∧ Chg [b] w w' := by
  obtain ⟨n, D, h1, hn, h2⟩ := h
  obtain ⟨w', hrun, hown, hg⟩ := World.ownsMap.update h1 stKeyed Try.underlying34 (by unfold maxLen; omega) (stKey hs) (plainElem_bool Try.underlying4 true)
  refine ⟨w', hrun, ⟨n + 1, _, hown, by omega, fun k => ?_⟩, ⟨hg.os, hg.tape, hg.output, hg.size, fun k hk hn => hg.block k hk (by simpa using fun e => hn (by simp [e]))⟩⟩
  have hD : IsMap D := by
    obtain ⟨es, clock, -, -, -, rfl⟩ := h1
    exact ⟨_, rfl⟩
  by_cases e : k = s.data.toList
  · subst e
    rw [atKey_put_same hD (show WideAt.IsKeyLit (.string s.data.toList) from trivial)]
    simp
  · rw [atKey_put_other (by simpa using e), h2]
    have : (s.data.toList == k) = false := by simpa using fun e' => e e'.symm
    simp [this]
/-- Six cells. -/
def six (g : Nat → Value) : Array Value := #[g 0, g 1, g 2, g 3, g 4, g 5]
theorem six_get (g : Nat → Value) {j : Nat} (h : j < 6) : (six g)[j]? = some (g j) := by
  match j, h with
  | 0, _ => rfl
  | 1, _ => rfl
  | 2, _ => rfl
  | 3, _ => rfl
  | 4, _ => rfl
  | 5, _ => rfl
theorem six_set (g : Nat → Value) {j : Nat} (h : j < 6) (u : Value) : (six g).setIfInBounds j u = six fun i => if i = j then u else g i := by
  match j, h with
  | 0, _ => rfl
  | 1, _ => rfl
  | 2, _ => rfl
  | 3, _ => rfl
  | 4, _ => rfl
  | 5, _ => rfl
def strCell (B : List ByteArray) (j : Nat) : Value := .string (B.getD j em)
theorem strCell_set {B : List ByteArray} (hB : B.length = 6) {r : Nat} (hr : r < 6) (s : ByteArray) : (six (strCell B)).setIfInBounds r (.string s) = six (strCell (B.set r s)) := by
  rw [six_set _ hr]
  congr 1
  funext i
  show (if i = r then Value.string s else Value.string (B.getD i em)) = Value.string ((B.set r s).getD i em)
  have e2 : (B.set r s).getD i em = if i = r then s else B.getD i em := by
    rw [List.getD_eq_getElem?_getD, List.getElem?_set, List.getD_eq_getElem?_getD]
    by_cases e : i = r
    · rw [if_pos e, if_pos e.symm, if_pos (by omega)]
      rfl
    · rw [if_neg e, if_neg (fun h => e h.symm)]
  rw [e2]
  split <;> rfl
def mapCell (f : Nat → Option Nat) (j : Nat) : Value := .map (f j)
/-- Six sets of texts. -/
structure MayAt (w : World) (lo g N : Nat) (f : Nat → Option Nat) (T : Nat → List UInt8 → Bool) : Prop where
  blk : Blk w g 35 (six (mapCell f))
  each : ∀ j b, f j = some b → SetAt w b N (T j) ∧ lo ≤ b
  inj : ∀ i j b, f i = some b → f j = some b → i = j
theorem SetAt.more {w : World} {b N N' : Nat} {P : List UInt8 → Bool} (h : SetAt w b N P) (hN : N ≤ N') : SetAt w b N' P := by
  obtain ⟨n, D, h1, h2, h3⟩ := h
  exact ⟨n, D, h1, by omega, h3⟩
theorem MayAt.chg {w w' : World} {lo g N : Nat} {f : Nat → Option Nat} {T : Nat → List UInt8 → Bool} {S : List Nat} (h : MayAt w lo g N f T) (k : Chg S w w') (hg : g ∉ S) (hS : ∀ x ∈ S, x < lo) : MayAt w' lo g N f T :=
  ⟨h.blk.chg k hg, fun j b hb => ⟨(h.each j b hb).1.chg k (fun hm => by have := hS b hm; have := (h.each j b hb).2; omega), (h.each j b hb).2⟩, h.inj⟩
theorem MayAt.ne {w : World} {lo g N : Nat} {f : Nat → Option Nat} {T : Nat → List UInt8 → Bool} (h : MayAt w lo g N f T) {j b : Nat} (hb : f j = some b) : g ≠ b := by
  rintro rfl
  obtain ⟨n, D, ⟨es, clock, hh, -⟩, -⟩ := (h.each j g hb).1
  have h1 := h.blk
  unfold Blk at h1
  rw [h1] at hh
  cases hh
theorem MayAt.store {w : World} {lo g N : Nat} {f : Nat → Option Nat} {T : Nat → List UInt8 → Bool} (h : MayAt w lo g N f T) (hN : N ≤ 1000000) {r b : Nat} (hb : f r = some b) {s : ByteArray} (hs : s.size ≤ maxLen) :
    ∃ w', (Instr.mapUpdate 34 (.map (some b)) (.string s) (.bool true)).run Try.prog w = .ok () w' ∧ MayAt w' lo g (N + 1) f (fun j k => T j k || (r == j && s.data.toList == k)) ∧ Chg [b] w w' := by
  obtain ⟨w', hrun, hs', hc⟩ := (h.each r b hb).1.store hN hs
  refine ⟨w', hrun, ⟨h.blk.chg hc (by simpa using h.ne hb), fun j b' hb' => ?_, h.inj⟩, hc⟩
  by_cases e : r = j
  · subst e
    rw [hb] at hb'
    cases hb'
    refine ⟨?_, (h.each r b hb).2⟩
    simpa using hs'
  · have hbb : b' ≠ b := fun e' => e (h.inj r j b hb (by rw [hb', e']))
    have he : (r == j) = false := by simpa using e
    refine ⟨?_, (h.each j b' hb').2⟩
    have := ((h.each j b' hb').1.chg hc (by simpa using hbb)).more (Nat.le_succ N)
    simpa [he] using this
end Go.Proofs.Ytjbjiomajldkoaa
