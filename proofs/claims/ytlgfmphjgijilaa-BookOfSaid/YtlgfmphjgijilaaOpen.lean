/- Arguments that are slices: what they read as, element by element. No program. -/
import Derived.Test.YtlgfmphjgijilaaRows2
import Derived.ProofKit
import Derived.Deep.Slices
import Derived.Deep.Fields
import Derived.SizedLaws
namespace Go.Vx
open Go.RowKit Go.ChangeShapes Go.WideShapes Go.Deep
set_option linter.unusedVariables false
set_option linter.unusedSimpArgs false

theorem vx_add (a : Addr) (i j : Nat) : (a.add i).add j = a.add (i + j) := by
  unfold Addr.add
  by_cases hi : i = 0 <;> by_cases hj : j = 0 <;> simp [hi, hj, Nat.add_assoc]

theorem flatMap_len {α : Type} {e' : α → List Value} {size : Nat} (hs : ∀ x, (e' x).length = size) (l : List α) : (l.flatMap e').length = l.length * size := by
  induction l with
  | nil => simp
  | cons x l ih => rw [List.flatMap_cons, List.length_append, hs, ih, List.length_cons, Nat.add_mul]; omega
theorem flatMap_one {α : Type} (f : α → Value) (l : List α) : l.flatMap (fun x => [f x]) = l.map f := by
  induction l with
  | nil => rfl
  | cons x l ih => rw [List.flatMap_cons, ih]; rfl
section
variable {H : Type} {enc : TypeId × Value → H} {P : Program} {w : World} {base : Nat} {spare : Nat → Bool} {held : Bool}
/-- Elements one by one make the row. -/
theorem list_of_each {α : Type} (size len : Nat) (cellAt : Nat → Option Value) (e' : α → List Value) (Ok : α → Prop) (hs : ∀ x, (e' x).length = size)
    (h : ∀ i, i < len → ∃ x, Ok x ∧ ∀ j u, (e' x)[j]? = some u → cellAt (i * size + j) = some u) :
    ∃ l : List α, l.length = len ∧ (∀ j u, (l.flatMap e')[j]? = some u → cellAt j = some u) ∧ ∀ x ∈ l, Ok x := by
  induction len with
  | zero => exact ⟨[], rfl, by simp, by simp⟩
  | succ n ih =>
    obtain ⟨l, hl, hc, ho⟩ := ih fun i hi => h i (by omega)
    obtain ⟨x, hx, hxc⟩ := h n (by omega)
    have hlen : (l.flatMap e').length = n * size := by rw [flatMap_len hs, hl]
    refine ⟨l ++ [x], by simp [hl], ?_, ?_⟩
    · intro j u hj
      rw [List.flatMap_append] at hj
      rcases Nat.lt_or_ge j (n * size) with hlt | hge
      · rw [List.getElem?_append_left (by omega)] at hj
        exact hc j u hj
      · rw [List.getElem?_append_right (by omega), hlen] at hj
        have := hxc (j - n * size) u (by simpa using hj)
        rwa [show n * size + (j - n * size) = j by omega] at this
    · intro y hy
      rcases List.mem_append.1 hy with hy | hy
      · exact ho y hy
      · simp at hy; subst hy; exact hx
/-- A slice argument: the list that it reads as. -/
theorem opn {t e : TypeId} {A : Option Addr} {len cap : Nat} {d : DataW H} {ps : List MemPlace} (ht : P.underlying t = some (.slice e)) {size : Nat} (hz : P.cellsOf e = size) {α : Type} (e' : α → List Value) (Ok : α → Prop) (hs : ∀ x, (e' x).length = size)
    (hel : ∀ (fuel : Nat) (cs : List Value) (x : DataW H × List MemPlace), cs.length = size → DataW.trod enc P w base spare held fuel e cs = some x → ∃ y, e' y = cs ∧ Ok y)
    (h : DataW.Trod enc P w base spare held t (.slice A len cap) d ps) : ∃ l : List α, l.length = len ∧ len ≤ cap ∧ cap ≤ maxLen ∧ Src w size A len (l.flatMap e') ∧ ∀ x ∈ l, Ok x := by
  obtain ⟨fuel, hf⟩ := h
  rcases open_slice ht hf with ⟨hcs, _⟩ | ⟨a, len', cap', m, n, D, Pl, hcs, _, hl, hm, hmm, _, hi⟩
  · simp [Value.cells] at hcs
    obtain ⟨rfl, rfl, rfl⟩ := hcs
    exact ⟨[], rfl, Nat.le_refl _, Nat.zero_le _, ⟨by simp, by simp⟩, by simp⟩
  · simp [Value.cells] at hcs
    obtain ⟨rfl, rfl, rfl⟩ := hcs
    have hlm : len ≤ m := by rw [hmm]; split <;> omega
    obtain ⟨l, h1, h2, h3⟩ := list_of_each size len (fun j => w.cell? (a.add j)) e' Ok hs (fun i hilt => by
      obtain ⟨cs', hc, ht'⟩ := hi i (by omega)
      rw [hz] at hc
      obtain ⟨_, hcl, hat⟩ := World.cells?_some hc
      obtain ⟨y, hy, ho⟩ := hel n cs' _ hcl ht'
      refine ⟨y, ho, fun j u hj => ?_⟩
      have hjl : j < size := by rw [← hs y]; exact (List.getElem?_eq_some_iff.1 hj).1
      show w.cell? (a.add (i * size + j)) = some u
      rw [← vx_add, hz] at *
      rw [hat j hjl, ← hy]
      exact hj)
    refine ⟨l, h1, hl, hm, ⟨?_, fun _ => ⟨a, rfl, h2⟩⟩, h3⟩
    rw [flatMap_len hs, h1]
theorem opn_ints {t e : TypeId} {A : Option Addr} {len cap : Nat} {d : DataW H} {ps : List MemPlace} (ht : P.underlying t = some (.slice e)) (he : P.underlying e = some (.int .i64)) (hz : P.cellsOf e = 1)
    (h : DataW.Trod enc P w base spare held t (.slice A len cap) d ps) : ∃ l : List Int, l.length = len ∧ len ≤ cap ∧ cap ≤ maxLen ∧ Src w 1 A len (l.map (Value.int .i64)) ∧ ∀ x ∈ l, (Lit.int .i64 x).wf = true := by
  have := opn ht hz (fun x : Int => [Value.int .i64 x]) (fun x => (Lit.int .i64 x).wf = true) (by simp) (fun fuel cs x hl hx => by
    obtain ⟨n, rfl, _, hw⟩ := DataW.trod_int he hx
    exact ⟨n, rfl, hw⟩) h
  simpa [flatMap_one] using this
theorem opn_bools {t e : TypeId} {A : Option Addr} {len cap : Nat} {d : DataW H} {ps : List MemPlace} (ht : P.underlying t = some (.slice e)) (he : P.underlying e = some .bool) (hz : P.cellsOf e = 1)
    (h : DataW.Trod enc P w base spare held t (.slice A len cap) d ps) : ∃ l : List Bool, l.length = len ∧ len ≤ cap ∧ cap ≤ maxLen ∧ Src w 1 A len (l.map Value.bool) := by
  obtain ⟨l, h1, h2, h3, h4, _⟩ := opn ht hz (fun x : Bool => [Value.bool x]) (fun x => True) (by simp) (fun fuel cs x hl hx => by
    obtain ⟨n, rfl, _⟩ := DataW.trod_bool he hx
    exact ⟨n, rfl, trivial⟩) h
  exact ⟨l, h1, h2, h3, by simpa [flatMap_one] using h4⟩
theorem opn_strs {t e : TypeId} {A : Option Addr} {len cap : Nat} {d : DataW H} {ps : List MemPlace} (ht : P.underlying t = some (.slice e)) (he : P.underlying e = some .string) (hz : P.cellsOf e = 1)
    (h : DataW.Trod enc P w base spare held t (.slice A len cap) d ps) : ∃ l : List ByteArray, l.length = len ∧ len ≤ cap ∧ cap ≤ maxLen ∧ Src w 1 A len (l.map Value.string) ∧ ∀ x ∈ l, x.size ≤ maxLen := by
  have := opn ht hz (fun x : ByteArray => [Value.string x]) (fun x => x.size ≤ maxLen) (by simp) (fun fuel cs x hl hx => by
    obtain ⟨n, rfl, _, hw⟩ := DataW.trod_string he hx
    exact ⟨n, rfl, hw⟩) h
  simpa [flatMap_one] using this
/-- A struct's fields, each of one cell. -/
theorem opn_fields {e : TypeId} {fs : Array Field} {fuel : Nat} {cs : List Value} {x : DataW H × List MemPlace} (he : P.underlying e = some (.struct fs)) (hone : oneCellFields P fs = true) (hl : cs.length = fs.size)
    (h : DataW.trod enc P w base spare held fuel e cs = some x) : ∃ n, ∀ (j : Nat) (f : Field), fs[j]? = some f → ∃ v y, cs[j]? = some v ∧ DataW.trod enc P w base spare held n f.type [v] = some y := by
  obtain ⟨ys, n, _, _, _, hyl, hf⟩ := DataW.trod_struct he h
  refine ⟨n, fun j f hj => ?_⟩
  obtain ⟨ho, hk⟩ := hone_of hone j f hj
  have hjl : j < fs.size := (Array.getElem?_eq_some_iff.1 hj).1
  have h1 := hf j f hj
  rw [ho, hk] at h1
  have hone' : (cs.drop j).take 1 = [cs[j]'(by omega)] := by
    rw [List.drop_eq_getElem_cons (by omega)]
    rfl
  rw [hone'] at h1
  exact ⟨_, ys[j]'(by omega), List.getElem?_eq_getElem (by omega), by rw [h1]; exact List.getElem?_eq_getElem (by omega)⟩
/-- How many bytes a slice takes. -/
theorem sized_slice_len {t e : TypeId} {A : Option Addr} {len cap : Nat} {d : DataW H} {ps : List MemPlace} {ts : List TypeId} {ds : List (DataW H)} {j : Nat}
    (hsz : (DataW.weightsEach P ts ds).all (· ≤ reachBytes) = true) (hj : ts[j]? = some t) (hd : ds[j]? = some d) (ht : P.underlying t = some (.slice e)) {B : Nat} (hB : P.bytesOf e = B)
    (h : DataW.Trod enc P w base spare held t (.slice A len cap) d ps) : len * B ≤ 140737488351232 := by
  obtain ⟨fuel, hf⟩ := h
  rcases open_slice ht hf with ⟨hcs, _⟩ | ⟨a, len', cap', m, n, D, Pl, hcs, _, hl, hm, hmm, hx, hi⟩
  · simp [Value.cells] at hcs
    obtain ⟨rfl, rfl, rfl⟩ := hcs
    simp
  · simp [Value.cells] at hcs
    obtain ⟨rfl, rfl, rfl⟩ := hcs
    obtain ⟨hx, _⟩ := Prod.mk.inj hx
    subst hx
    have z := sized_slice hsz hj hd ht
    rw [hB] at z
    refine Nat.le_trans (Nat.mul_le_mul_right _ ?_) z
    simp
end
end Go.Vx
