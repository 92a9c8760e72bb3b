/- Parts of the proofs of Plan: contracts of the functions that they reach, in their order. -/
import Derived.WalkKit
import Derived.Below
import Derived.OwnWalk
import Derived.Deep.Draws
import Derived.Deep.AppendLies
import Derived.Maps.AppendAt
import Derived.Laws.OwnMore
import Derived.Laws.MakeOwn
import Derived.Laws.Rows
import Derived.Deep.QuietTactic
import Derived.BigQuiet
import Derived.BigRegion
import Derived.Deep.RegionHeld3
import Derived.Deep.DeepCutAuto
import Derived.Deep.LoopGhost
import Derived.Deep.DeepFit
import Derived.Lib.Hide
import Derived.KernelRfl
import Derived.WalkSpells
import Derived.ProofKit
import Derived.Deep.Slices
import Derived.Deep.Fields
import Derived.SizedLaws
import Derived.Test.YtlbkjhfnpjbjlaaProg
import Derived.Deep.RegionLaw
/- Words of this proof on memory: frames by a list of blocks, blocks that are known whole, owned rows under frames. No program. -/
namespace Go.Vx
open Go.RowKit
set_option linter.unusedVariables false
set_option linter.unusedSimpArgs false

/-- Every old block but those of F is as it was; streams and tape too. -/
structure Chg (F : List Nat) (w w' : World) : Prop where
  os : w'.os = w.os
  tape : w'.tape = w.tape
  output : w'.output = w.output
  size : w.heap.size ≤ w'.heap.size
  block : ∀ k, k < w.heap.size → k ∉ F → w'.heap[k]? = w.heap[k]?

theorem Chg.refl (F : List Nat) (w : World) : Chg F w w := ⟨rfl, rfl, rfl, Nat.le_refl _, fun _ _ _ => rfl⟩
theorem Chg.trans {F G : List Nat} {a b c : World} (h : Chg F a b) (k : Chg G b c) (hG : ∀ g, g ∈ G → g ∈ F ∨ a.heap.size ≤ g) : Chg F a c :=
  ⟨k.os.trans h.os, k.tape.trans h.tape, k.output.trans h.output, Nat.le_trans h.size k.size, fun i hi hn =>
    (k.block i (Nat.lt_of_lt_of_le hi h.size) (fun hg => (hG i hg).elim hn (fun h2 => absurd hi (by omega)))).trans (h.block i hi hn)⟩
theorem Chg.trans' {F : List Nat} {a b c : World} (h : Chg F a b) (k : Chg F b c) : Chg F a c := h.trans k fun _ h => .inl h
theorem Chg.mono {F G : List Nat} {a b : World} (h : Chg F a b) (hs : ∀ g, g ∈ F → g ∈ G) : Chg G a b :=
  ⟨h.os, h.tape, h.output, h.size, fun i hi hn => h.block i hi (fun hf => hn (hs _ hf))⟩
theorem Chg.of_below {F : List Nat} {w w' : World} (h : Below w.heap.size w w') : Chg F w w' := ⟨h.os, h.tape, h.output, h.size, fun i hi _ => h.block i hi⟩
theorem Chg.below {w w' : World} (h : Chg [] w w') : Below w.heap.size w w' := ⟨h.os, h.tape, h.output, h.size, fun i hi => h.block i hi (by simp)⟩
theorem Chg.drew {F : List Nat} {a w : World} (h : Chg F a w) : Chg F a w.drew := ⟨h.os, h.tape, h.output, h.size, h.block⟩
theorem Chg.drewN {F : List Nat} {a w : World} (h : Chg F a w) (n : Nat) : Chg F a (w.drewN n) := ⟨h.os, h.tape, h.output, h.size, h.block⟩
theorem Chg.alloc {F : List Nat} {a w : World} (h : Chg F a w) (o : Obj) : Chg F a (w.alloc o) :=
  h.trans (G := []) (.of_below ((Below.refl _ _).alloc (Nat.le_refl _) o)) (by simp)
theorem Chg.setCell {F : List Nat} {a w : World} (h : Chg F a w) {p : Addr} (hp : p.block ∈ F ∨ a.heap.size ≤ p.block) (u : Value) : Chg F a (w.setCell p u) :=
  h.trans (G := [p.block]) ⟨rfl, rfl, rfl, by simp [World.setCell], fun k _ hn => Below.heap_setCell _ _ _ _ (fun e => hn (by simp [e]))⟩ (by simpa using hp)
theorem Chg.grown {F : List Nat} {a w w' : World} (h : Chg F a w) {row : Option Nat} (hg : w.grownBy w' row) (hr : ∀ k, row = some k → k ∈ F ∨ a.heap.size ≤ k) : Chg F a w' :=
  h.trans (G := row.toList) ⟨hg.os, hg.tape, hg.output, hg.size, fun k hk hn => hg.block k hk (fun e => hn (by simp [← e]))⟩ (fun g hg => hr g (by simpa using hg))
theorem Chg.get {F : List Nat} {w w' : World} {k : Nat} {o : Obj} (h : Chg F w w') (hk : w.heap[k]? = some o) (hn : k ∉ F) : w'.heap[k]? = some o :=
  (h.block k (Array.getElem?_eq_some_iff.1 hk).1 hn).trans hk
theorem Chg.cell {F : List Nat} {w w' : World} (h : Chg F w w') {p : Addr} (hp : p.block < w.heap.size) (hn : p.block ∉ F) : w'.cell? p = w.cell? p := World.cell?_of_block (w := w) (h.block _ hp hn)
theorem Chg.frozen {F : List Nat} {w w' : World} (h : Chg F w w') {p : Addr} (hp : p.block < w.heap.size) (hn : p.block ∉ F) : w'.frozen? p = w.frozen? p := World.frozen?_of_block (w := w) (h.block _ hp hn)

/-- A cell that is there stays behind a new block. -/
theorem cell_al {w : World} {a : Addr} {v : Value} (h : w.cell? a = some v) : ∀ o, (w.alloc o).cell? a = some v :=
  fun o => (World.cell?_alloc_lt w o a (World.block_lt_of_cell? w a h)).trans h
/-- A block that is known whole. -/
def Blk (w : World) (g : Nat) (t : TypeId) (cs : Array Value) : Prop := w.heap[g]? = some (.cells cs t (0, 0))
section
variable {w w' : World} {g : Nat} {t : TypeId} {cs : Array Value} {F : List Nat}
theorem Blk.lt (h : Blk w g t cs) : g < w.heap.size := (Array.getElem?_eq_some_iff.1 h).1
theorem Blk.cell (h : Blk w g t cs) (i : Nat) : w.cell? ⟨g, i, none⟩ = cs[i]? := cell_of_row w g i cs t (0, 0) h
theorem Blk.frozen (h : Blk w g t cs) (i : Nat) : w.frozen? ⟨g, i, none⟩ = false := by
  unfold Blk at h
  simp [World.frozen?, h]
theorem Blk.new (w : World) (t : TypeId) (cs : Array Value) : Blk (w.alloc (.cells cs t)) w.heap.size t cs := heap_alloc_new w _
theorem Blk.chg (h : Blk w g t cs) (k : Chg F w w') (hn : g ∉ F) : Blk w' g t cs := k.get h hn
theorem Blk.drew (h : Blk w g t cs) : Blk w.drew g t cs := h
theorem Blk.drewN (h : Blk w g t cs) (n : Nat) : Blk (w.drewN n) g t cs := h
theorem Blk.alloc (h : Blk w g t cs) (o : Obj) : Blk (w.alloc o) g t cs := (Below.heap_alloc w o g h.lt).trans h
theorem Blk.set_ (h : Blk w g t cs) (i : Nat) (u : Value) : Blk (w.setCell ⟨g, i, none⟩ u) g t (cs.setIfInBounds i u) := by
  unfold Blk at h ⊢
  simp [World.setCell, Array.getElem?_modify, h]
theorem Blk.far (h : Blk w g t cs) {p : Addr} (hp : g ≠ p.block) (u : Value) : Blk (w.setCell p u) g t cs := (Below.heap_setCell w p u g hp).trans h
theorem Blk.grown {row : Option Nat} (h : Blk w g t cs) (hb : w.grownBy w' row) (hg : some g ≠ row) : Blk w' g t cs := (hb.block g h.lt hg).trans h
theorem Blk.ne_ {g' : Nat} {t' : TypeId} {cs' : Array Value} (h : Blk w g t cs) (h' : Blk w g' t' cs') (hne : t ≠ t') : g ≠ g' := by
  rintro rfl
  unfold Blk at h h'
  rw [h] at h'
  injection h' with h'
  injection h' with _ ht
  exact hne ht
end

/- Owned rows. -/
section
variable {w w' : World} {base n size : Nat} {e : TypeId} {v : Value} {xs : List Value} {F : List Nat}
theorem own_chg (h : w.ownsRow base e size v n xs) (k : Chg F w w') (hn : ∀ g, v.ownBlock = some g → g ∉ F) : w'.ownsRow base e size v n xs := by
  obtain ⟨h1, h2⟩ := h
  refine ⟨h1, ?_⟩
  rcases h2 with h2 | ⟨g, cap, cur, rfl, hg, hh, r⟩
  · exact .inl h2
  · exact .inr ⟨g, cap, cur, rfl, hg, k.get hh (hn g rfl), r⟩
theorem own_lt (h : w.ownsRow base e size v n xs) (g : Nat) (hg : v.ownBlock = some g) : g < w.heap.size := by
  rcases h.2 with ⟨rfl, _⟩ | ⟨g', cap, cur, rfl, hb, hh, _⟩
  · simp [Value.ownBlock] at hg
  · have : g' = g := by simpa [Value.ownBlock] using hg
    subst this
    exact (Array.getElem?_eq_some_iff.1 hh).1
theorem own_ne_blk {g : Nat} {t : TypeId} {cs : Array Value} (h : w.ownsRow base e size v n xs) (hg : Blk w g t cs) (hne : e ≠ t) : v.ownBlock ≠ some g := by
  rcases h.2 with ⟨rfl, _⟩ | ⟨g', cap, cur, rfl, _, hh, _⟩
  · simp [Value.ownBlock]
  · intro he
    have : g' = g := by simpa [Value.ownBlock] using he
    subst this
    exact Blk.ne_ (t := e) hh hg hne rfl
theorem own_ne_own {base' n' size' : Nat} {e' : TypeId} {v' : Value} {xs' : List Value} (h : w.ownsRow base e size v n xs) (h' : w.ownsRow base' e' size' v' n' xs') (hne : e ≠ e') : ∀ g, v.ownBlock = some g → v'.ownBlock ≠ some g := by
  intro g hg he
  rcases h.2 with ⟨rfl, _⟩ | ⟨g1, cap, cur, rfl, _, hh, _⟩
  · simp [Value.ownBlock] at hg
  · have : g1 = g := by simpa [Value.ownBlock] using hg
    subst this
    exact own_ne_blk (t := e) h' hh (Ne.symm hne) he
theorem own_base {base' : Nat} (h : w.ownsRow base e size v n xs) (hb : base' ≤ base) : w.ownsRow base' e size v n xs := by
  obtain ⟨h1, h2⟩ := h
  refine ⟨h1, ?_⟩
  rcases h2 with h2 | ⟨g, cap, cur, rfl, hg, r⟩
  · exact .inl h2
  · exact .inr ⟨g, cap, cur, rfl, Nat.le_trans hb hg, r⟩
/-- The base of an owned row may be any number up to its block's. -/
theorem own_rebase {base' : Nat} (h : w.ownsRow base e size v n xs) (hb : ∀ g, v.ownBlock = some g → base' ≤ g) : w.ownsRow base' e size v n xs := by
  obtain ⟨h1, h2⟩ := h
  refine ⟨h1, ?_⟩
  rcases h2 with h2 | ⟨g, cap, cur, rfl, hg, r⟩
  · exact .inl h2
  · exact .inr ⟨g, cap, cur, rfl, hb g rfl, r⟩
theorem own_alloc (h : w.ownsRow base e size v n xs) (o : Obj) : (w.alloc o).ownsRow base e size v n xs :=
  own_chg (F := []) h ((Chg.refl _ _).alloc o) (by simp)
theorem own_far (h : w.ownsRow base e size v n xs) {p : Addr} (hp : v.ownBlock ≠ some p.block) (u : Value) : (w.setCell p u).ownsRow base e size v n xs :=
  own_chg (F := [p.block]) h ((Chg.refl _ _).setCell (by simp) u) (fun g hg => by simp; rintro rfl; exact hp hg)
theorem own_nil : w.ownsRow base e size (.slice none 0 0) 0 [] := ⟨by simp, .inl ⟨rfl, rfl⟩⟩
/-- The shape of an owned row. -/
theorem own_slice (h : w.ownsRow base e size v n xs) : ∃ A c, v = .slice A n c ∧ n ≤ c ∧ c ≤ maxLen := by
  rcases h.2 with ⟨rfl, rfl⟩ | ⟨g, cap, cur, rfl, _, _, h1, h2, _⟩
  · exact ⟨none, 0, rfl, Nat.le_refl _, Nat.zero_le _⟩
  · exact ⟨_, cap, rfl, h1, h2⟩
end

/-- A slice of fixed length: of no capacity, or the whole of a block's head. -/
def Fix (w : World) (e : TypeId) (size : Nat) (v : Value) (n : Nat) (xs : List Value) (F : List Nat) : Prop :=
  ∃ A c, v = .slice A n c ∧ xs.length = n * size ∧ n ≤ c ∧ c ≤ maxLen ∧
    ((c = 0 ∧ F = []) ∨ (∃ g cur, A = some ⟨g, 0, none⟩ ∧ F = [g] ∧ Blk w g e cur ∧ cur.size = c * size ∧ cur.toList.take (n * size) = xs))
section
variable {w w' : World} {n size : Nat} {e : TypeId} {v : Value} {xs : List Value} {F S : List Nat}
theorem Fix.chg (h : Fix w e size v n xs F) (k : Chg S w w') (hd : ∀ g, g ∈ F → g ∉ S) : Fix w' e size v n xs F := by
  obtain ⟨A, c, hv, h1, h2, h3, h4⟩ := h
  refine ⟨A, c, hv, h1, h2, h3, ?_⟩
  rcases h4 with h4 | ⟨g, cur, ha, rfl, hb, r⟩
  · exact .inl h4
  · exact .inr ⟨g, cur, ha, rfl, hb.chg k (hd g (by simp)), r⟩
theorem Fix.below {B : Nat} (h : Fix w e size v n xs F) (k : Below B w w') (hd : ∀ g, g ∈ F → g < B) : Fix w' e size v n xs F := by
  obtain ⟨A, c, hv, h1, h2, h3, h4⟩ := h
  refine ⟨A, c, hv, h1, h2, h3, ?_⟩
  rcases h4 with h4 | ⟨g, cur, ha, rfl, hb, r⟩
  · exact .inl h4
  · exact .inr ⟨g, cur, ha, rfl, (k.block g (hd g (by simp))).trans hb, r⟩
theorem Fix.lt (h : Fix w e size v n xs F) : ∀ g, g ∈ F → g < w.heap.size := by
  obtain ⟨A, c, hv, h1, h2, h3, h4⟩ := h
  rcases h4 with ⟨_, rfl⟩ | ⟨g, cur, ha, rfl, hb, r⟩
  · simp
  · intro g' hg
    obtain rfl : g' = g := by simpa using hg
    exact hb.lt
theorem Fix.ne_blk {p : Nat} {t : TypeId} {cs : Array Value} (h : Fix w e size v n xs F) (hb : Blk w p t cs) (hne : e ≠ t) : p ∉ F := by
  obtain ⟨A, c, hv, h1, h2, h3, h4⟩ := h
  rcases h4 with ⟨_, rfl⟩ | ⟨g, cur, ha, rfl, hb', r⟩
  · simp
  · simp only [List.mem_singleton]
    exact fun e => (Blk.ne_ hb' hb hne) e.symm
theorem Fix.disj {n' size' : Nat} {e' : TypeId} {v' : Value} {xs' : List Value} {F' : List Nat} (h : Fix w e size v n xs F) (h' : Fix w e' size' v' n' xs' F') (hne : e ≠ e') : ∀ g, g ∈ F → g ∉ F' := by
  obtain ⟨A, c, hv, h1, h2, h3, h4⟩ := h
  rcases h4 with ⟨_, rfl⟩ | ⟨g, cur, ha, rfl, hb', r⟩
  · simp
  · intro g' hg
    obtain rfl : g' = g := by simpa using hg
    exact h'.ne_blk hb' (Ne.symm hne)
theorem Fix.far_blk {p : Nat} {t : TypeId} {cs : Array Value} (h : Fix w e size v n xs F) (hb : Blk w p t cs) (hne : e ≠ t) (i : Nat) (u : Value) : Fix (w.setCell ⟨p, i, none⟩ u) e size v n xs F :=
  h.chg (S := [p]) ((Chg.refl _ _).setCell (by simp) u) fun g hg => by
    have := h.ne_blk hb hne
    simp only [List.mem_singleton]
    rintro rfl
    exact this hg
theorem Fix.not_mem {p : Nat} {t : TypeId} {cs : Array Value} (h : Fix w e size v n xs F) (hb : Blk w p t cs) (hne : e ≠ t) : ∀ g, g ∈ F → g ∉ [p] := fun g hg => by
  have := h.ne_blk hb hne
  simp only [List.mem_singleton]
  rintro rfl
  exact this hg
theorem Fix.not_cons {p : Nat} {t : TypeId} {cs : Array Value} (h : Fix w e size v n xs F) (hb : Blk w p t cs) (hne : e ≠ t) {S : List Nat} (hS : ∀ g, g ∈ F → g ∉ S) : ∀ g, g ∈ F → g ∉ p :: S := fun g hg => by
  have := h.ne_blk hb hne
  simp only [List.mem_cons, not_or]
  exact ⟨fun e => this (e ▸ hg), hS g hg⟩
theorem Fix.alloc (h : Fix w e size v n xs F) (o : Obj) : Fix (w.alloc o) e size v n xs F := h.chg (S := []) ((Chg.refl _ _).alloc o) (by simp)
theorem Fix.drew (h : Fix w e size v n xs F) : Fix w.drew e size v n xs F := h
theorem Fix.drewN (h : Fix w e size v n xs F) (m : Nat) : Fix (w.drewN m) e size v n xs F := h
/-- The cells of an element. -/
theorem Fix.el {A : Option Addr} {c : Nat} (h : Fix w e size (.slice A n c) n xs F) {k : Nat} (hk : k < n) : ∃ g, A = some ⟨g, 0, none⟩ ∧ F = [g] ∧ ∀ j, j < size → w.cell? ⟨g, k * size + j, none⟩ = xs[k * size + j]? ∧ w.frozen? ⟨g, k * size + j, none⟩ = false := by
  obtain ⟨A, c, hv, h1, h2, h3, h4⟩ := h
  injection hv with ha _ hc
  subst ha hc
  rcases h4 with ⟨rfl, rfl⟩ | ⟨g, cur, rfl, rfl, hb, hs, ht⟩
  · omega
  · refine ⟨g, rfl, rfl, fun j hj => ⟨?_, hb.frozen _⟩⟩
    have hlt : k * size + j < n * size := by
      have := Nat.mul_le_mul_right size (show k + 1 ≤ n from hk)
      rw [Nat.add_mul] at this
      omega
    rw [hb.cell, ← ht, List.getElem?_take, if_pos hlt]
    simp
/-- A cell of the row is written. -/
theorem Fix.store {A : Option Addr} {c g : Nat} (h : Fix w e size (.slice A n c) n xs F) (hg : A = some ⟨g, 0, none⟩) (m : Nat) (u : Value) : Fix (w.setCell ⟨g, m, none⟩ u) e size (.slice A n c) n (xs.set m u) F := by
  obtain ⟨A, c, hv, h1, h2, h3, h4⟩ := h
  injection hv with ha _ hc
  subst ha hc
  refine ⟨_, _, rfl, by simpa using h1, h2, h3, ?_⟩
  rcases h4 with ⟨rfl, rfl⟩ | ⟨g', cur, he, rfl, hb, hs, ht⟩
  · exact .inl ⟨rfl, rfl⟩
  · obtain rfl : g = g' := by rw [hg] at he; injection he with he; injection he
    refine .inr ⟨g, cur.setIfInBounds m u, hg, rfl, hb.set_ m u, by simpa using hs, ?_⟩
    rw [← ht]
    simp [List.take_set]
/-- A cell of an element. -/
theorem Fix.at_ (h : Fix w e size v n xs F) {k j : Nat} (hk : k < n) (hj : j < size) : ∃ g c, v = .slice (some ⟨g, 0, none⟩) n c ∧ n ≤ c ∧ c ≤ maxLen ∧ F = [g] ∧ w.cell? ⟨g, k * size + j, none⟩ = xs[k * size + j]? ∧ w.frozen? ⟨g, k * size + j, none⟩ = false := by
  obtain ⟨A, c, rfl, h1, h2, h3, h4⟩ := h
  rcases h4 with ⟨rfl, rfl⟩ | ⟨g, cur, rfl, rfl, hb, hs, ht⟩
  · omega
  · refine ⟨g, c, rfl, h2, h3, rfl, ?_, hb.frozen _⟩
    have hlt : k * size + j < n * size := by
      have := Nat.mul_le_mul_right size (show k + 1 ≤ n from hk)
      rw [Nat.add_mul] at this
      omega
    rw [hb.cell, ← ht, List.getElem?_take, if_pos hlt]
    simp
end
end Go.Vx
/- append onto a row that is nil, of no capacity, or the call's own: one law. No program. -/
namespace Go.Vx
open Go.RowKit
set_option linter.unusedVariables false
set_option linter.unusedSimpArgs false

/-- What a slice of m elements reads as; nil and empty ones let in. -/
def Src (w : World) (size : Nat) (A : Option Addr) (m : Nat) (news : List Value) : Prop :=
  news.length = m * size ∧ (0 < m → ∃ ad, A = some ad ∧ ∀ j u, news[j]? = some u → w.cell? (ad.add j) = some u)

theorem Fix.own {w : World} {e : TypeId} {size n : Nat} {v : Value} {xs : List Value} {F : List Nat} (h : Fix w e size v n xs F) (hF : F ≠ []) : w.ownsRow 0 e size v n xs ∧ ∃ g, F = [g] ∧ v.ownBlock = some g := by
  obtain ⟨A, c, rfl, h1, h2, h3, h4⟩ := h
  rcases h4 with ⟨_, rfl⟩ | ⟨g, cur, rfl, rfl, hb, hs, ht⟩
  · exact absurd rfl hF
  · exact ⟨⟨h1, .inr ⟨g, c, cur, rfl, Nat.zero_le _, hb, h2, h3, hs, ht⟩⟩, g, rfl, rfl⟩
theorem Fix.of_own {w : World} {base : Nat} {e : TypeId} {size n : Nat} {v : Value} {xs : List Value} (h : w.ownsRow base e size v n xs) : Fix w e size v n xs v.ownBlock.toList := by
  obtain ⟨h1, h2⟩ := h
  rcases h2 with ⟨rfl, rfl⟩ | ⟨g, c, cur, rfl, _, hb, h2, h3, hs, ht⟩
  · exact ⟨none, 0, rfl, h1, Nat.le_refl _, Nat.zero_le _, .inl ⟨rfl, rfl⟩⟩
  · exact ⟨_, c, rfl, h1, h2, h3, .inr ⟨g, cur, rfl, rfl, hb, hs, ht⟩⟩
theorem Fix.nil (w : World) (e : TypeId) (size : Nat) : Fix w e size (.slice none 0 0) 0 [] [] := ⟨none, 0, rfl, by simp, Nat.le_refl _, Nat.zero_le _, .inl ⟨rfl, rfl⟩⟩
theorem Fix.src {w : World} {e : TypeId} {size n c : Nat} {A : Option Addr} {xs : List Value} {F : List Nat} (h : Fix w e size (.slice A n c) n xs F) : Src w size A n xs := by
  obtain ⟨A', c', hv, h1, h2, h3, h4⟩ := h
  injection hv with ha _ hc
  subst ha hc
  refine ⟨h1, fun hn => ?_⟩
  rcases h4 with ⟨rfl, rfl⟩ | ⟨g, cur, rfl, rfl, hb, hs, ht⟩
  · omega
  · refine ⟨_, rfl, fun j u hu => ?_⟩
    have hj : j < n * size := by rw [← h1]; exact (List.getElem?_eq_some_iff.1 hu).1
    rw [show (⟨g, 0, none⟩ : Addr).add j = ⟨g, j, none⟩ by unfold Addr.add; split <;> simp_all, hb.cell, ← hu, ← ht, List.getElem?_take, if_pos hj]
    simp
theorem Fix.empty (w : World) (e : TypeId) (size : Nat) (A : Option Addr) : Fix w e size (.slice A 0 0) 0 [] [] := ⟨A, 0, rfl, by simp, Nat.le_refl _, Nat.zero_le _, .inl ⟨rfl, rfl⟩⟩
theorem add_block (a : Addr) (n : Nat) : (a.add n).block = a.block := by unfold Addr.add; split <;> rfl
/-- What is read stays under changes elsewhere. -/
theorem Src.keep {w w' : World} {size m : Nat} {A : Option Addr} {news : List Value} (h : Src w size A m news) (hk : ∀ ad, A = some ad → ∀ j v, w.cell? (ad.add j) = some v → w'.cell? (ad.add j) = some v) : Src w' size A m news :=
  ⟨h.1, fun hm => by
    obtain ⟨ad, ha, hc⟩ := h.2 hm
    exact ⟨ad, ha, fun j u hu => hk ad ha j u (hc j u hu)⟩⟩
theorem Src.chg {w w' : World} {size m : Nat} {A : Option Addr} {news : List Value} {S : List Nat} (h : Src w size A m news) (k : Chg S w w') (hS : ∀ ad, A = some ad → ad.block ∉ S) : Src w' size A m news :=
  h.keep fun ad ha j v hv => by
    have hb := World.block_lt_of_cell? w _ hv
    rw [k.cell hb (by rw [add_block]; exact hS ad ha)]
    exact hv
theorem Src.alloc {w : World} {size m : Nat} {A : Option Addr} {news : List Value} (h : Src w size A m news) (o : Obj) : Src (w.alloc o) size A m news :=
  h.chg (S := []) ((Chg.refl _ _).alloc o) (by simp)
/-- One element in a block of its own. -/
theorem Src.one_ {w : World} {t : TypeId} {cs : Array Value} {B size : Nat} (hB : w.heap.size = B) (hs : cs.size = size) : Src (w.alloc (.cells cs t)) size (some ⟨B, 0, none⟩) 1 cs.toList :=
  ⟨by simp [hs], fun _ => ⟨_, rfl, fun j u hu => by
    subst hB
    rw [show (⟨w.heap.size, 0, none⟩ : Addr).add j = ⟨w.heap.size, j, none⟩ by unfold Addr.add; split <;> simp_all, (Blk.new w t cs).cell]
    simpa using hu⟩⟩
theorem Src.lit {w : World} {t : TypeId} {cs : Array Value} {B size m : Nat} (hB : w.heap.size = B) (hs : cs.size = m * size) : Src (w.alloc (.cells cs t)) size (some ⟨B, 0, none⟩) m cs.toList :=
  ⟨by simp [hs], fun _ => ⟨_, rfl, fun j u hu => by
    subst hB
    rw [show (⟨w.heap.size, 0, none⟩ : Addr).add j = ⟨w.heap.size, j, none⟩ by unfold Addr.add; split <;> simp_all, (Blk.new w t cs).cell]
    simpa using hu⟩⟩
theorem Src.one1 {w : World} {t : TypeId} {x : Value} {B : Nat} (hB : w.heap.size = B) : Src (w.alloc (.cells #[x] t)) 1 (some ⟨B, 0, none⟩) 1 [x] := Src.one_ hB rfl
theorem Src.one2 {w : World} {t : TypeId} {x y : Value} {B : Nat} (hB : w.heap.size = B) : Src (w.alloc (.cells #[x, y] t)) 2 (some ⟨B, 0, none⟩) 1 [x, y] := Src.one_ hB rfl
theorem Src.one3 {w : World} {t : TypeId} {x y z : Value} {B : Nat} (hB : w.heap.size = B) : Src (w.alloc (.cells #[x, y, z] t)) 3 (some ⟨B, 0, none⟩) 1 [x, y, z] := Src.one_ hB rfl
theorem Src.one4 {w : World} {t : TypeId} {x y z u : Value} {B : Nat} (hB : w.heap.size = B) : Src (w.alloc (.cells #[x, y, z, u] t)) 4 (some ⟨B, 0, none⟩) 1 [x, y, z, u] := Src.one_ hB rfl
theorem madeCells_replicate (x : Value) (n : Nat) : madeCells #[x] n = Array.replicate n x := by
  apply Array.ext
  · simp [size_madeCells]
  · intro i h1 h2
    simp [madeCells, Nat.mod_one]
/-- A row that was made just now. -/
theorem Fix.made (w : World) (e : TypeId) (x : Value) (n : Nat) (hn : n ≤ maxLen) : Fix (w.alloc (.cells (madeCells #[x] n) e)) e 1 (.slice (some ⟨w.heap.size, 0, none⟩) n n) n (List.replicate n x) (if n = 0 then [] else [w.heap.size]) := by
  refine ⟨_, n, rfl, by simp, Nat.le_refl _, hn, ?_⟩
  by_cases h : n = 0
  · subst h; exact .inl ⟨rfl, rfl⟩
  · refine .inr ⟨w.heap.size, _, rfl, by simp [h], Blk.new _ _ _, by simp [size_madeCells], ?_⟩
    simp [madeCells_replicate]
section
variable {P : Program} (w : World)
theorem run_append_zero {t ty e : TypeId} {i : TypeInfo} (ht : P.underlying t = some (.slice e)) (hi : P.info? e = some i) {A A' : Option Addr} {n c c' : Nat} (hc : n ≤ c) :
    (Builtin.append_ #[t, t] ty #[.slice A n c, .slice A' 0 c']).run P w = .ok (.slice A n c) w := by
  cases A <;> cases A' <;> simp [Builtin.append_, run_underlying ht, sizeOf, typeInfo, hi, Builtin.lenOf, Builtin.firstCells, hc, storeCells, loadCells, loadCellsFrom]
/-- What an append leaves. -/
structure Appended (w w' : World) (e : TypeId) (size : Nat) (v v' : Value) (n m : Nat) (xs news : List Value) (F F' : List Nat) : Prop where
  fix : Fix w' e size v' (n + m) (xs ++ news) F'
  chg : Chg F w w'
  foot : F' = F ∨ F' = [w.heap.size]
  same : m = 0 → v' = v ∧ w' = w ∧ F' = F
  head : 0 < m → ∃ g c, v' = .slice (some ⟨g, 0, none⟩) (n + m) c ∧ F' = [g]
theorem run_append_fix {t ty e : TypeId} {i : TypeInfo} {z : Value} {size bytes : Nat} (ht : P.underlying t = some (.slice e)) (hi : P.info? e = some i) (hz : i.zero = some z)
    (hsize : i.size = size) (hby : i.bytes = bytes) (hzs : z.cells.size = size) (hsz : 0 < size)
    {v : Value} {n : Nat} {xs : List Value} {F : List Nat} (h : Fix w e size v n xs F)
    {A : Option Addr} {m c : Nat} {news : List Value} (hs : Src w size A m news) (h1 : ∀ u ∈ news, u.oneCell' = true)
    (h63 : n + m ≤ maxLen) (hbytes : (n + m) * bytes ≤ 140737488355328) :
    ∃ v' w' F', (Builtin.append_ #[t, t] ty #[v, .slice A m c]).run P w = .ok v' w' ∧ Appended w w' e size v v' n m xs news F F' := by
  rcases Nat.eq_zero_or_pos m with rfl | hm
  · obtain ⟨B, cb, rfl, hl, hnc, -⟩ := id h
    have hn : news = [] := List.eq_nil_of_length_eq_zero (by simpa using hs.1)
    subst hn
    exact ⟨_, _, F, run_append_zero w ht hi hnc, by simpa using h, Chg.refl _ _, .inl rfl, fun _ => ⟨rfl, rfl, rfl⟩, by omega⟩
  · obtain ⟨ad, rfl, hcells⟩ := hs.2 hm
    by_cases hF : F = []
    · subst hF
      obtain ⟨B, cb, rfl, hl, hnc, hcm, h4⟩ := id h
      have h0 : cb = 0 := by
        rcases h4 with ⟨rfl, _⟩ | ⟨g, cur, _, hF, _⟩
        · rfl
        · cases hF
      subst h0
      obtain rfl : n = 0 := by omega
      have hx : xs = [] := List.eq_nil_of_length_eq_zero (by simpa using hl)
      subst hx
      have key : ∃ v' w', (Builtin.append_ #[t, t] ty #[.slice B 0 0, .slice (some ad) m c]).run P w = .ok v' w' ∧ (Builtin.append_ #[t, t] ty #[.slice none 0 0, .slice (some ad) m c]).run P w = .ok v' w' := by
        subst hsize hby
        have hr := run_append_nil (P := P) w t ty e i z ht hi hz ad m c news hs.1 hcells hm (by simp only [maxLen] at h63; omega) (by have hb := hbytes; simp only [Nat.zero_add] at hb; omega)
        cases B with
        | none => exact ⟨_, _, hr, hr⟩
        | some b =>
          have hr2 := run_append_grow (P := P) w t ty e i z ht hi hz b 0 0 [] (by simp) (by simp) ad m c news hs.1 hcells (by omega) (by simp only [maxLen] at h63; omega) (growslice_fits (by omega) hbytes)
          simp only [Nat.zero_add, Array.empty_append] at hr2
          exact ⟨_, _, hr2, hr⟩
      obtain ⟨v', w', hk1, hk2⟩ := key
      obtain ⟨v2, w2, hr, ho, hg, hnil, hat⟩ := run_append_own_at (P := P) w 0 t ty e i z size bytes ht hi hz hsize hby hzs hsz (.slice none 0 0) 0 [] own_nil ad m c news hs.1 hcells h1 h63 hbytes (Nat.zero_le _)
      rw [hk2] at hr
      injection hr with e1 e2
      subst e1 e2
      have hv : v'.ownBlock = some w.heap.size := by
        rcases hat with h | h
        · rcases ho.2 with ⟨rfl, h0⟩ | ⟨g, cap, cur, rfl, _⟩
          · omega
          · simp [Value.ownBlock] at h
        · exact h
      refine ⟨v', w', [w.heap.size], hk1, by have := Fix.of_own ho; rw [hv] at this; simpa using this, ?_, .inr rfl, by omega, fun _ => ?_⟩
      · exact (Chg.refl _ _).grown hg (by simp [Value.ownBlock])
      · rcases ho.2 with ⟨rfl, h0⟩ | ⟨g, cap, cur, rfl, _⟩
        · omega
        · simp [Value.ownBlock] at hv
          subst hv
          exact ⟨_, cap, rfl, rfl⟩
    · obtain ⟨ho, g, rfl, hv⟩ := h.own hF
      obtain ⟨v2, w2, hr, ho2, hg, hnil, hat⟩ := run_append_own_at (P := P) w 0 t ty e i z size bytes ht hi hz hsize hby hzs hsz v n xs ho ad m c news hs.1 hcells h1 h63 hbytes (Nat.zero_le _)
      have hf := Fix.of_own ho2
      refine ⟨v2, w2, v2.ownBlock.toList, hr, hf, ?_, ?_, by omega, fun _ => ?_⟩
      · rw [hv] at hg
        exact (Chg.refl _ _).grown hg (by simp)
      · rcases hat with h | h
        · left; rw [h, hv]; rfl
        · right; rw [h]; rfl
      · rcases ho2.2 with ⟨rfl, h0⟩ | ⟨g', cap, cur, rfl, _⟩
        · omega
        · exact ⟨g', cap, rfl, rfl⟩

variable {w}
theorem wp_append_fix {o : Oper} {a : Act} {K : Act → World → Prop} {Q : Exit → Act → World → Prop} (s x : Operand) (t : TypeId)
    (ho : o.op = .call { callee := .builtin .append, args := #[s, x], argTypes := #[t, t] })
    {e : TypeId} {i : TypeInfo} {z : Value} {size bytes : Nat} (ht : P.underlying t = some (.slice e)) (hi : P.info? e = some i) (hz : i.zero = some z)
    (hsize : i.size = size) (hby : i.bytes = bytes) (hzs : z.cells.size = size) (hsz : 0 < size)
    {v : Value} {n : Nat} {xs : List Value} {F : List Nat} (hs : a.eval s = v) (h : Fix w e size v n xs F)
    {A : Option Addr} {m c : Nat} {news : List Value} (hx : a.eval x = .slice A m c) (hr : Src w size A m news) (h1 : ∀ u ∈ news, u.oneCell' = true)
    (h63 : n + m ≤ maxLen) (hbytes : (n + m) * bytes ≤ 140737488355328)
    (hk : ∀ v' w' F', Appended w w' e size v v' n m xs news F F' → K (a.put o.dst v') w') : o.wp P a w K Q := by
  obtain ⟨v', w', F', hrun, h2⟩ := run_append_fix (P := P) (ty := o.type) w ht hi hz hsize hby hzs hsz h hr h1 h63 hbytes (c := c)
  unfold Oper.wp execOp
  simp only [ho, resolve, invoke, builtin, Sem.run_bind, Sem.run_pure, Result.andThen_ok, List.map_toArray, List.map_cons, List.map_nil, hs, hx, hrun]
  exact hk v' w' F' h2
/-- In a plain region: behind 'at_builtin'. -/
theorem wpList_append_fix {ops : Array Oper} {rest : List Oper} {o : Oper} {a : Act} {Q : Exit → Act → World → Prop} (hgd : o.guard = none) (s x : Operand) (t : TypeId)
    (ho : o.op = .call { callee := .builtin .append, args := #[s, x], argTypes := #[t, t] })
    {e : TypeId} {i : TypeInfo} {z : Value} {size bytes : Nat} (ht : P.underlying t = some (.slice e)) (hi : P.info? e = some i) (hz : i.zero = some z)
    (hsize : i.size = size) (hby : i.bytes = bytes) (hzs : z.cells.size = size) (hsz : 0 < size)
    {v : Value} {n : Nat} {xs : List Value} {F : List Nat} (hs : a.eval s = v) (h : Fix w e size v n xs F)
    {A : Option Addr} {m c : Nat} {news : List Value} (hx : a.eval x = .slice A m c) (hr : Src w size A m news) (h1 : ∀ u ∈ news, u.oneCell' = true)
    (h63 : n + m ≤ maxLen) (hbytes : (n + m) * bytes ≤ 140737488355328)
    (hk : ∀ v' w' F', Appended w w' e size v v' n m xs news F F' → wpList P ops Q rest (a.put o.dst v') w') : wpList P ops Q (o :: rest) a w :=
  wpList_plain hgd fun _ hK => wp_append_fix s x t ho ht hi hz hsize hby hzs hsz hs h hx hr h1 h63 hbytes fun v' w' F' h2 => hK _ _ (hk v' w' F' h2)
/-- In a region that draws: for 'go_region_law', 'go_region_held3'. -/
theorem step_append_fix {ops : Array Oper} {o : Oper} {a : Act} {K : Act → World → Prop} {Q : Exit → Act → World → Prop} {E : Prop} (hgd : o.guard = none) (s x : Operand) (t : TypeId)
    (ho : o.op = .call { callee := .builtin .append, args := #[s, x], argTypes := #[t, t] })
    {e : TypeId} {i : TypeInfo} {z : Value} {size bytes : Nat} (ht : P.underlying t = some (.slice e)) (hi : P.info? e = some i) (hz : i.zero = some z)
    (hsize : i.size = size) (hby : i.bytes = bytes) (hzs : z.cells.size = size) (hsz : 0 < size)
    {v : Value} {n : Nat} {xs : List Value} {F : List Nat} (hs : a.eval s = v) (h : Fix w e size v n xs F)
    {A : Option Addr} {m c : Nat} {news : List Value} (hx : a.eval x = .slice A m c) (hr : Src w size A m news) (h1 : ∀ u ∈ news, u.oneCell' = true)
    (h63 : n + m ≤ maxLen) (hbytes : (n + m) * bytes ≤ 140737488355328)
    (hk : ∀ v' w' F', Appended w w' e size v v' n m xs news F F' → K (a.put o.dst v') w') :
    if Region.wanted o (yielded ops a.tmps) = true then Oper.wp P o a w K Q else E := by
  rw [if_pos (by simp [Region.wanted, hgd])]
  exact wp_append_fix s x t ho ht hi hz hsize hby hzs hsz hs h hx hr h1 h63 hbytes hk
end
end Go.Vx
/- Arguments that are slices: what they read as, element by element. No program. -/
namespace Go.Vx
open Go.RowKit Go.ChangeShapes Go.WideShapes Go.Deep
set_option linter.unusedVariables false
set_option linter.unusedSimpArgs false

theorem vx_add (a : Addr) (i j : Nat) : (a.add i).add j = a.add (i + j) := by
  unfold Addr.add
  by_cases hi : i = 0 <;> by_cases hj : j = 0 <;> simp [hi, hj, Nat.add_assoc]

theorem flatMap_len {α : Type} {e' : α → List Value} {size : Nat} (hs : ∀ x, (e' x).length = size) (l : List α) : (l.flatMap e').length = l.length * size := by
  induction l with
  | nil => simp
  | cons x l ih => rw [List.flatMap_cons, List.length_append, hs, ih, List.length_cons, Nat.add_mul]; omega
theorem flatMap_one {α : Type} (f : α → Value) (l : List α) : l.flatMap (fun x => [f x]) = l.map f := by
  induction l with
  | nil => rfl
  | cons x l ih => rw [List.flatMap_cons, ih]; rfl
section
variable {H : Type} {enc : TypeId × Value → H} {P : Program} {w : World} {base : Nat} {spare : Nat → Bool} {held : Bool}
/-- Elements one by one make the row. -/
theorem list_of_each {α : Type} (size len : Nat) (cellAt : Nat → Option Value) (e' : α → List Value) (Ok : α → Prop) (hs : ∀ x, (e' x).length = size)
    (h : ∀ i, i < len → ∃ x, Ok x ∧ ∀ j u, (e' x)[j]? = some u → cellAt (i * size + j) = some u) :
    ∃ l : List α, l.length = len ∧ (∀ j u, (l.flatMap e')[j]? = some u → cellAt j = some u) ∧ ∀ x ∈ l, Ok x := by
  induction len with
  | zero => exact ⟨[], rfl, by simp, by simp⟩
  | succ n ih =>
    obtain ⟨l, hl, hc, ho⟩ := ih fun i hi => h i (by omega)
    obtain ⟨x, hx, hxc⟩ := h n (by omega)
    have hlen : (l.flatMap e').length = n * size := by rw [flatMap_len hs, hl]
    refine ⟨l ++ [x], by simp [hl], ?_, ?_⟩
    · intro j u hj
      rw [List.flatMap_append] at hj
      rcases Nat.lt_or_ge j (n * size) with hlt | hge
      · rw [List.getElem?_append_left (by omega)] at hj
        exact hc j u hj
      · rw [List.getElem?_append_right (by omega), hlen] at hj
        have := hxc (j - n * size) u (by simpa using hj)
        rwa [show n * size + (j - n * size) = j by omega] at this
    · intro y hy
      rcases List.mem_append.1 hy with hy | hy
      · exact ho y hy
      · simp at hy; subst hy; exact hx
/-- A slice argument: the list that it reads as. -/
theorem opn {t e : TypeId} {A : Option Addr} {len cap : Nat} {d : DataW H} {ps : List MemPlace} (ht : P.underlying t = some (.slice e)) {size : Nat} (hz : P.cellsOf e = size) {α : Type} (e' : α → List Value) (Ok : α → Prop) (hs : ∀ x, (e' x).length = size)
    (hel : ∀ (fuel : Nat) (cs : List Value) (x : DataW H × List MemPlace), cs.length = size → DataW.trod enc P w base spare held fuel e cs = some x → ∃ y, e' y = cs ∧ Ok y)
    (h : DataW.Trod enc P w base spare held t (.slice A len cap) d ps) : ∃ l : List α, l.length = len ∧ len ≤ cap ∧ cap ≤ maxLen ∧ Src w size A len (l.flatMap e') ∧ ∀ x ∈ l, Ok x := by
  obtain ⟨fuel, hf⟩ := h
  rcases open_slice ht hf with ⟨hcs, _⟩ | ⟨a, len', cap', m, n, D, Pl, hcs, _, hl, hm, hmm, _, hi⟩
  · simp [Value.cells] at hcs
    obtain ⟨rfl, rfl, rfl⟩ := hcs
    exact ⟨[], rfl, Nat.le_refl _, Nat.zero_le _, ⟨by simp, by simp⟩, by simp⟩
  · simp [Value.cells] at hcs
    obtain ⟨rfl, rfl, rfl⟩ := hcs
    have hlm : len ≤ m := by rw [hmm]; split <;> omega
    obtain ⟨l, h1, h2, h3⟩ := list_of_each size len (fun j => w.cell? (a.add j)) e' Ok hs (fun i hilt => by
      obtain ⟨cs', hc, ht'⟩ := hi i (by omega)
      rw [hz] at hc
      obtain ⟨_, hcl, hat⟩ := World.cells?_some hc
      obtain ⟨y, hy, ho⟩ := hel n cs' _ hcl ht'
      refine ⟨y, ho, fun j u hj => ?_⟩
      have hjl : j < size := by rw [← hs y]; exact (List.getElem?_eq_some_iff.1 hj).1
      show w.cell? (a.add (i * size + j)) = some u
      rw [← vx_add, hz] at *
      rw [hat j hjl, ← hy]
      exact hj)
    refine ⟨l, h1, hl, hm, ⟨?_, fun _ => ⟨a, rfl, h2⟩⟩, h3⟩
    rw [flatMap_len hs, h1]
theorem opn_ints {t e : TypeId} {A : Option Addr} {len cap : Nat} {d : DataW H} {ps : List MemPlace} (ht : P.underlying t = some (.slice e)) (he : P.underlying e = some (.int .i64)) (hz : P.cellsOf e = 1)
    (h : DataW.Trod enc P w base spare held t (.slice A len cap) d ps) : ∃ l : List Int, l.length = len ∧ len ≤ cap ∧ cap ≤ maxLen ∧ Src w 1 A len (l.map (Value.int .i64)) ∧ ∀ x ∈ l, (Lit.int .i64 x).wf = true := by
  have := opn ht hz (fun x : Int => [Value.int .i64 x]) (fun x => (Lit.int .i64 x).wf = true) (by simp) (fun fuel cs x hl hx => by
    obtain ⟨n, rfl, _, hw⟩ := DataW.trod_int he hx
    exact ⟨n, rfl, hw⟩) h
  simpa [flatMap_one] using this
theorem opn_bools {t e : TypeId} {A : Option Addr} {len cap : Nat} {d : DataW H} {ps : List MemPlace} (ht : P.underlying t = some (.slice e)) (he : P.underlying e = some .bool) (hz : P.cellsOf e = 1)
    (h : DataW.Trod enc P w base spare held t (.slice A len cap) d ps) : ∃ l : List Bool, l.length = len ∧ len ≤ cap ∧ cap ≤ maxLen ∧ Src w 1 A len (l.map Value.bool) := by
  obtain ⟨l, h1, h2, h3, h4, _⟩ := opn ht hz (fun x : Bool => [Value.bool x]) (fun x => True) (by simp) (fun fuel cs x hl hx => by
    obtain ⟨n, rfl, _⟩ := DataW.trod_bool he hx
    exact ⟨n, rfl, trivial⟩) h
  exact ⟨l, h1, h2, h3, by simpa [flatMap_one] using h4⟩
theorem opn_strs {t e : TypeId} {A : Option Addr} {len cap : Nat} {d : DataW H} {ps : List MemPlace} (ht : P.underlying t = some (.slice e)) (he : P.underlying e = some .string) (hz : P.cellsOf e = 1)
    (h : DataW.Trod enc P w base spare held t (.slice A len cap) d ps) : ∃ l : List ByteArray, l.length = len ∧ len ≤ cap ∧ cap ≤ maxLen ∧ Src w 1 A len (l.map Value.string) ∧ ∀ x ∈ l, x.size ≤ maxLen := by
  have := opn ht hz (fun x : ByteArray => [Value.string x]) (fun x => x.size ≤ maxLen) (by simp) (fun fuel cs x hl hx => by
    obtain ⟨n, rfl, _, hw⟩ := DataW.trod_string he hx
    exact ⟨n, rfl, hw⟩) h
  simpa [flatMap_one] using this
/-- A struct's fields, each of one cell. -/
theorem opn_fields {e : TypeId} {fs : Array Field} {fuel : Nat} {cs : List Value} {x : DataW H × List MemPlace} (he : P.underlying e = some (.struct fs)) (hone : oneCellFields P fs = true) (hl : cs.length = fs.size)
    (h : DataW.trod enc P w base spare held fuel e cs = some x) : ∃ n, ∀ (j : Nat) (f : Field), fs[j]? = some f → ∃ v y, cs[j]? = some v ∧ DataW.trod enc P w base spare held n f.type [v] = some y := by
  obtain ⟨ys, n, _, _, _, hyl, hf⟩ := DataW.trod_struct he h
  refine ⟨n, fun j f hj => ?_⟩
  obtain ⟨ho, hk⟩ := hone_of hone j f hj
  have hjl : j < fs.size := (Array.getElem?_eq_some_iff.1 hj).1
  have h1 := hf j f hj
  rw [ho, hk] at h1
  have hone' : (cs.drop j).take 1 = [cs[j]'(by omega)] := by
    rw [List.drop_eq_getElem_cons (by omega)]
    rfl
  rw [hone'] at h1
  exact ⟨_, ys[j]'(by omega), List.getElem?_eq_getElem (by omega), by rw [h1]; exact List.getElem?_eq_getElem (by omega)⟩
/-- How many bytes a slice takes. -/
theorem sized_slice_len {t e : TypeId} {A : Option Addr} {len cap : Nat} {d : DataW H} {ps : List MemPlace} {ts : List TypeId} {ds : List (DataW H)} {j : Nat}
    (hsz : (DataW.weightsEach P ts ds).all (· ≤ reachBytes) = true) (hj : ts[j]? = some t) (hd : ds[j]? = some d) (ht : P.underlying t = some (.slice e)) {B : Nat} (hB : P.bytesOf e = B)
    (h : DataW.Trod enc P w base spare held t (.slice A len cap) d ps) : len * B ≤ 140737488351232 := by
  obtain ⟨fuel, hf⟩ := h
  rcases open_slice ht hf with ⟨hcs, _⟩ | ⟨a, len', cap', m, n, D, Pl, hcs, _, hl, hm, hmm, hx, hi⟩
  · simp [Value.cells] at hcs
    obtain ⟨rfl, rfl, rfl⟩ := hcs
    simp
  · simp [Value.cells] at hcs
    obtain ⟨rfl, rfl, rfl⟩ := hcs
    obtain ⟨hx, _⟩ := Prod.mk.inj hx
    subst hx
    have z := sized_slice hsz hj hd ht
    rw [hB] at z
    refine Nat.le_trans (Nat.mul_le_mul_right _ ?_) z
    simp
end
end Go.Vx
/- A heap in a list: what is put in comes out in its order. No program. -/
namespace Go.Vx
set_option linter.unusedVariables false
set_option linter.unusedSimpArgs false

section
variable {α : Type} [Inhabited α]
def nth (l : List α) (k : Nat) : α := l.getD k default
def swapAt (l : List α) (i j : Nat) : List α := (l.set i (nth l j)).set j (nth l i)
theorem at_eq {l : List α} {k : Nat} (h : k < l.length) : nth l k = l[k] := by simp [nth, h]
theorem length_swap (l : List α) (i j : Nat) : (swapAt l i j).length = l.length := by simp [swapAt]
theorem at_set {l : List α} {i k : Nat} {x : α} (hi : i < l.length) : nth (l.set i x) k = if k = i then x else nth l k := by
  unfold nth
  simp only [List.getD_eq_getElem?_getD, List.getElem?_set]
  by_cases h : k = i
  · subst h; simp [hi]
  · simp [h, Ne.symm h]
theorem at_swap {l : List α} {i j k : Nat} (hi : i < l.length) (hj : j < l.length) : nth (swapAt l i j) k = if k = j then nth l i else if k = i then nth l j else nth l k := by
  unfold swapAt
  rw [at_set (by simpa using hj), at_set hi]
theorem ext_at {l m : List α} (h : l.length = m.length) (he : ∀ k, k < l.length → nth l k = nth m k) : l = m := by
  refine List.ext_getElem h fun k h1 h2 => ?_
  have := he k h1
  rwa [at_eq h1, at_eq h2] at this
theorem perm_set_cons {l : List α} {i : Nat} (h : i < l.length) (x : α) : (nth l i :: l.set i x).Perm (x :: l) := by
  induction l generalizing i with
  | nil => simp at h
  | cons y l ih =>
    cases i with
    | zero => simpa [nth] using List.Perm.swap _ _ _
    | succ i =>
      have hi : i < l.length := by simpa using h
      have e : nth (y :: l) (i + 1) = nth l i := by simp [nth]
      rw [e, List.set_cons_succ]
      exact ((List.Perm.swap _ _ _).trans ((ih hi).cons y)).trans (List.Perm.swap _ _ _)
theorem perm_swap {l : List α} {i j : Nat} (hi : i < l.length) (hj : j < l.length) : (swapAt l i j).Perm l := by
  unfold swapAt
  have h1 := perm_set_cons hi (nth l j)
  have h2 := perm_set_cons (l := l.set i (nth l j)) (i := j) (by simpa using hj) (nth l i)
  rw [at_set hi] at h2
  by_cases h : j = i
  · subst h
    simp only [if_true] at h2
    exact ((List.perm_cons _).1 h2).trans ((List.perm_cons _).1 h1)
  · rw [if_neg h] at h2
    exact (List.perm_cons _).1 (h2.trans h1)

variable (lt : α → α → Bool)
structure Lin : Prop where
  irr : ∀ x, lt x x = false
  tr : ∀ x y z, lt x y = true → lt y z = true → lt x z = true
  tri : ∀ x y, lt x y = true ∨ x = y ∨ lt y x = true
variable {lt}
omit [Inhabited α] in
theorem Lin.asym (L : Lin lt) {x y : α} (h : lt x y = true) : lt y x = false := by
  cases e : lt y x with
  | false => rfl
  | true => have := L.tr _ _ _ h e; rw [L.irr] at this; cases this
omit [Inhabited α] in
/-- Not behind: x ≤ y. -/
theorem Lin.le_tr (L : Lin lt) {x y z : α} (h : lt y x = false) (k : lt z y = false) : lt z x = false := by
  cases e : lt z x with
  | false => rfl
  | true =>
    rcases L.tri x y with h1 | h1 | h1
    · rw [L.tr _ _ _ e h1] at k; cases k
    · subst h1; rw [e] at k; cases k
    · rw [h1] at h; cases h
variable (lt)
/-- The parent is never behind. -/
def HeapTo (l : List α) (n : Nat) : Prop := ∀ k, 0 < k → k < n → lt (nth l k) (nth l ((k - 1) / 2)) = false
def upL : Nat → List α → Nat → List α
  | 0, l, _ => l
  | f + 1, l, j => if j = 0 then l else if lt (nth l j) (nth l ((j - 1) / 2)) then upL f (swapAt l ((j - 1) / 2) j) ((j - 1) / 2) else l
def kid (l : List α) (i n : Nat) : Nat := if 2 * i + 2 < n ∧ lt (nth l (2 * i + 2)) (nth l (2 * i + 1)) = true then 2 * i + 2 else 2 * i + 1
def downL : Nat → List α → Nat → Nat → List α
  | 0, l, _, _ => l
  | f + 1, l, i, n => if n ≤ 2 * i + 1 then l else if lt (nth l (kid lt l i n)) (nth l i) then downL f (swapAt l i (kid lt l i n)) (kid lt l i n) n else l
variable {lt}
theorem kid_lt {l : List α} {i n : Nat} (h : 2 * i + 1 < n) : kid lt l i n < n := by unfold kid; split <;> omega
theorem kid_up (l : List α) (i n : Nat) : (kid lt l i n - 1) / 2 = i ∧ i < kid lt l i n := by unfold kid; split <;> omega

theorem upL_spec (L : Lin lt) : ∀ (f : Nat) (l : List α) (j : Nat), j < l.length → j < f →
    (∀ k, 0 < k → k < l.length → k ≠ j → lt (nth l k) (nth l ((k - 1) / 2)) = false) →
    (∀ k, 0 < k → k < l.length → (k - 1) / 2 = j → 0 < j → lt (nth l k) (nth l ((j - 1) / 2)) = false) →
    HeapTo lt (upL lt f l j) l.length ∧ (upL lt f l j).Perm l ∧ (upL lt f l j).length = l.length := by
  intro f
  induction f with
  | zero => intro l j h1 h2; omega
  | succ f ih =>
    intro l j hj hf h1 h2
    simp only [upL]
    by_cases h0 : j = 0
    · rw [if_pos h0]
      subst h0
      exact ⟨fun k hk hkl => h1 k hk hkl (by omega), List.Perm.refl _, rfl⟩
    · rw [if_neg h0]
      cases hlt : lt (nth l j) (nth l ((j - 1) / 2)) with
      | false =>
        rw [if_neg (by simp)]
        refine ⟨fun k hk hkl => ?_, List.Perm.refl _, rfl⟩
        by_cases hkj : k = j
        · subst hkj; exact hlt
        · exact h1 k hk hkl hkj
      | true =>
        simp only [if_true]
        have hi : (j - 1) / 2 < l.length := by omega
        have hij : (j - 1) / 2 ≠ j := by omega
        have key := ih (swapAt l ((j - 1) / 2) j) ((j - 1) / 2) (by rw [length_swap]; exact hi) (by omega) ?_ ?_
        · rw [length_swap] at key
          exact ⟨key.1, key.2.1.trans (perm_swap hi hj), key.2.2⟩
        · intro k hk hkl hki
          rw [length_swap] at hkl
          rw [at_swap hi hj, at_swap hi hj]
          by_cases e1 : k = j
          · subst e1
            rw [if_pos rfl, if_neg (by omega), if_pos rfl]
            exact L.asym hlt
          · rw [if_neg e1, if_neg hki]
            by_cases e2 : (k - 1) / 2 = j
            · rw [if_pos e2]
              exact h2 k hk hkl e2 (by omega)
            · rw [if_neg e2]
              by_cases e3 : (k - 1) / 2 = (j - 1) / 2
              · rw [if_pos e3]
                have := h1 k hk hkl e1
                rw [e3] at this
                exact L.le_tr (L.asym hlt) this
              · rw [if_neg e3]
                exact h1 k hk hkl e1
        · intro k hk hkl hki hi0
          rw [length_swap] at hkl
          rw [at_swap hi hj, at_swap hi hj, if_neg (show ((j - 1) / 2 - 1) / 2 ≠ j by omega), if_neg (show ((j - 1) / 2 - 1) / 2 ≠ (j - 1) / 2 by omega)]
          have hp := h1 ((j - 1) / 2) hi0 hi (by omega)
          by_cases e1 : k = j
          · rw [if_pos e1]; exact hp
          · rw [if_neg e1, if_neg (by omega)]
            have := h1 k hk hkl e1
            rw [hki] at this
            exact L.le_tr hp this

/-- The parent is never behind, for parents from m on. -/
def HeapFrom (lt : α → α → Bool) (l : List α) (m n : Nat) : Prop := ∀ k, 0 < k → k < n → m ≤ (k - 1) / 2 → lt (nth l k) (nth l ((k - 1) / 2)) = false
theorem downL_spec (L : Lin lt) (m : Nat) : ∀ (f : Nat) (l : List α) (i n : Nat), n ≤ l.length → n - i ≤ f → i < n → m ≤ i →
    (∀ k, 0 < k → k < n → m ≤ (k - 1) / 2 → (k - 1) / 2 ≠ i → lt (nth l k) (nth l ((k - 1) / 2)) = false) →
    (∀ k, 0 < k → k < n → (k - 1) / 2 = i → 0 < i → m ≤ (i - 1) / 2 → lt (nth l k) (nth l ((i - 1) / 2)) = false) →
    HeapFrom lt (downL lt f l i n) m n ∧ (downL lt f l i n).Perm l ∧ (downL lt f l i n).length = l.length ∧ ∀ k, n ≤ k → nth (downL lt f l i n) k = nth l k := by
  intro f
  induction f with
  | zero => intro l i n h1 h2 h3; omega
  | succ f ih =>
    intro l i n hn hf hin hmi h1 h2
    simp only [downL]
    by_cases h0 : n ≤ 2 * i + 1
    · rw [if_pos h0]
      exact ⟨fun k hk hkn hm => h1 k hk hkn hm (by omega), List.Perm.refl _, rfl, fun _ _ => rfl⟩
    · rw [if_neg h0]
      obtain ⟨c1, c2⟩ := kid_up (lt := lt) l i n
      have c3 : kid lt l i n < n := kid_lt (by omega)
      have cmin : ∀ k, 0 < k → k < n → (k - 1) / 2 = i → lt (nth l k) (nth l (kid lt l i n)) = false := by
        intro k hk hkn hki
        unfold kid
        have : k = 2 * i + 1 ∨ k = 2 * i + 2 := by omega
        split
        · rename_i hc
          rcases this with rfl | rfl
          · exact L.asym hc.2
          · exact L.irr _
        · rename_i hc
          rcases this with rfl | rfl
          · exact L.irr _
          · cases e : lt (nth l (2 * i + 2)) (nth l (2 * i + 1)) with
            | false => rfl
            | true => exact absurd ⟨hkn, e⟩ hc
      generalize kid lt l i n = j at c1 c2 c3 cmin ⊢
      cases hlt : lt (nth l j) (nth l i) with
      | false =>
        rw [if_neg (by simp)]
        refine ⟨fun k hk hkn hm => ?_, List.Perm.refl _, rfl, fun _ _ => rfl⟩
        by_cases hki : (k - 1) / 2 = i
        · rw [hki]; exact L.le_tr hlt (cmin k hk hkn hki)
        · exact h1 k hk hkn hm hki
      | true =>
        rw [if_pos rfl]
        have hi : i < l.length := by omega
        have hj : j < l.length := by omega
        have key := ih (swapAt l i j) j n (by rw [length_swap]; exact hn) (by omega) c3 (by omega) ?_ ?_
        · rw [length_swap] at key
          refine ⟨key.1, key.2.1.trans (perm_swap hi hj), key.2.2.1, fun k hk => ?_⟩
          rw [key.2.2.2 k hk, at_swap hi hj, if_neg (by omega), if_neg (by omega)]
        · intro k hk hkn hm hkj
          rw [at_swap hi hj, at_swap hi hj]
          by_cases e1 : k = j
          · subst e1
            rw [if_pos rfl, c1, if_neg (by omega), if_pos rfl]
            exact L.asym hlt
          · rw [if_neg e1, if_neg hkj]
            by_cases e2 : k = i
            · subst e2
              rw [if_pos rfl, if_neg (by omega)]
              exact h2 j (by omega) c3 c1 hk hm
            · rw [if_neg e2]
              by_cases e3 : (k - 1) / 2 = i
              · rw [if_pos e3]; exact cmin k hk hkn e3
              · rw [if_neg e3]; exact h1 k hk hkn hm e3
        · intro k hk hkn hkj h0j hm
          rw [at_swap hi hj, at_swap hi hj, c1, if_neg (show i ≠ j by omega), if_pos rfl, if_neg (by omega), if_neg (by omega)]
          have := h1 k hk hkn (by omega) (by omega)
          rwa [hkj] at this

variable (lt)
def Srt (S : List α) : Prop := S.Pairwise fun x y => lt y x = false
def ins (x : α) : List α → List α
  | [] => [x]
  | y :: l => if lt y x then y :: ins x l else x :: y :: l
def sortL : List α → List α
  | [] => []
  | x :: l => ins lt x (sortL l)
variable {lt}
omit [Inhabited α] in
theorem ins_perm (x : α) : ∀ l : List α, (ins lt x l).Perm (x :: l)
  | [] => List.Perm.refl _
  | y :: l => by
    unfold ins
    split
    · exact ((ins_perm x l).cons y).trans (List.Perm.swap _ _ _)
    · exact List.Perm.refl _
omit [Inhabited α] in
theorem ins_srt (L : Lin lt) (x : α) : ∀ l : List α, Srt lt l → Srt lt (ins lt x l)
  | [], _ => by simp [ins, Srt]
  | y :: l, h => by
    have hy := (List.pairwise_cons.1 h).1
    have hl := (List.pairwise_cons.1 h).2
    unfold ins
    split
    · rename_i hyx
      refine List.pairwise_cons.2 ⟨fun z hz => ?_, ins_srt L x l hl⟩
      rcases List.mem_cons.1 ((ins_perm x l).mem_iff.1 hz) with rfl | hz
      · exact L.asym hyx
      · exact hy z hz
    · rename_i hyx
      have hyx : lt y x = false := by simpa using hyx
      refine List.pairwise_cons.2 ⟨fun z hz => ?_, h⟩
      rcases List.mem_cons.1 hz with rfl | hz
      · exact hyx
      · exact L.le_tr hyx (hy z hz)
omit [Inhabited α] in
theorem sortL_perm : ∀ l : List α, (sortL lt l).Perm l
  | [] => List.Perm.refl _
  | x :: l => (ins_perm x _).trans ((sortL_perm l).cons x)
omit [Inhabited α] in
theorem sortL_srt (L : Lin lt) : ∀ l : List α, Srt lt (sortL lt l)
  | [] => by simp [sortL, Srt]
  | x :: l => ins_srt L x _ (sortL_srt L l)
omit [Inhabited α] in
/-- One order alone. -/
theorem srt_unique (L : Lin lt) : ∀ {l m : List α}, Srt lt l → Srt lt m → l.Perm m → l = m
  | [], m, _, _, h => (List.nil_perm.1 h).symm
  | x :: l, [], _, _, h => absurd (List.perm_nil.1 h) (by simp)
  | x :: l, y :: m, h1, h2, h => by
    have hx := (List.pairwise_cons.1 h1).1
    have hy := (List.pairwise_cons.1 h2).1
    have e : x = y := by
      rcases List.mem_cons.1 (h.mem_iff.1 (List.mem_cons_self ..)) with e | e
      · exact e
      · rcases List.mem_cons.1 (h.symm.mem_iff.1 (List.mem_cons_self ..)) with e' | e'
        · exact e'.symm
        · have a := hy x e
          have b := hx y e'
          rcases L.tri x y with t | t | t
          · rw [t] at a; cases a
          · exact t
          · rw [t] at b; cases b
    subst e
    rw [srt_unique L (List.pairwise_cons.1 h1).2 (List.pairwise_cons.1 h2).2 ((List.perm_cons _).1 h)]
variable (lt)
def Rep (l S : List α) : Prop := HeapTo lt l l.length ∧ l.Perm S ∧ Srt lt S
def pushL (l : List α) (x : α) : List α := upL lt (l.length + 2) (l ++ [x]) l.length
def popM (l : List α) : List α := downL lt (l.length - 1) (swapAt l 0 (l.length - 1)) 0 (l.length - 1)
def popL (l : List α) : List α := (popM lt l).take (l.length - 1)
def initL : Nat → List α → List α
  | 0, l => l
  | k + 1, l => initL k (downL lt l.length l k l.length)
variable {lt}
theorem Rep.nil : Rep lt ([] : List α) [] := ⟨by intro k h1 h2; simp at h2, List.Perm.refl _, List.Pairwise.nil⟩
theorem at_append_left {l m : List α} {k : Nat} (h : k < l.length) : nth (l ++ m) k = nth l k := by
  simp [nth, List.getElem?_append_left h]
theorem push_len (L : Lin lt) {l S : List α} (h : Rep lt l S) (x : α) : (pushL lt l x).length = l.length + 1 ∧ Rep lt (pushL lt l x) (ins lt x S) := by
  have key := upL_spec L (l.length + 2) (l ++ [x]) l.length (by simp) (by omega) ?_ ?_
  · change HeapTo lt (pushL lt l x) _ ∧ (pushL lt l x).Perm _ ∧ (pushL lt l x).length = _ at key
    have hl : (pushL lt l x).length = l.length + 1 := by simpa using key.2.2
    refine ⟨hl, ?_, ?_, ins_srt L x S h.2.2⟩
    · rw [hl]; simpa using key.1
    · refine key.2.1.trans ?_
      exact (List.perm_append_comm.trans (h.2.1.cons x)).trans (ins_perm x S).symm
  · intro k hk hkl hne
    simp at hkl
    rw [at_append_left (by omega), at_append_left (by omega)]
    exact h.1 k hk (by omega)
  · intro k hk hkl hp h0
    simp at hkl
    omega
theorem root_least (L : Lin lt) {l : List α} (h : HeapTo lt l l.length) : ∀ k, k < l.length → lt (nth l k) (nth l 0) = false := by
  intro k
  induction k using Nat.strongRecOn with
  | _ k ih =>
    intro hk
    by_cases h0 : k = 0
    · subst h0; exact L.irr _
    · exact L.le_tr (ih ((k - 1) / 2) (by omega) (by omega)) (h k (by omega) hk)
theorem pop_spec (L : Lin lt) {l : List α} {x : α} {S : List α} (h : Rep lt l (x :: S)) : 0 < l.length ∧ (popM lt l).length = l.length ∧ nth (popM lt l) (l.length - 1) = x ∧ Rep lt (popL lt l) S ∧ nth l 0 = x := by
  obtain ⟨h1, h2, h3⟩ := h
  have hlen : l.length = S.length + 1 := by simpa using h2.length_eq
  have h0 : 0 < l.length := by omega
  have hx : nth l 0 = x := by
    have hm : x ∈ l := h2.symm.mem_iff.1 (List.mem_cons_self ..)
    obtain ⟨k, hk, rfl⟩ := List.mem_iff_getElem.1 hm
    have a := root_least L h1 k hk
    rw [at_eq hk] at a
    have hm0 : nth l 0 ∈ l[k] :: S := h2.mem_iff.1 (by rw [at_eq h0]; exact List.getElem_mem _)
    rcases List.mem_cons.1 hm0 with e | e
    · exact e
    · have b := (List.pairwise_cons.1 h3).1 _ e
      rcases L.tri l[k] (nth l 0) with t | t | t
      · rw [t] at a; cases a
      · exact t.symm
      · rw [t] at b; cases b
  have hd : HeapTo lt (popM lt l) (l.length - 1) ∧ (popM lt l).Perm l ∧ (popM lt l).length = l.length ∧ nth (popM lt l) (l.length - 1) = x := by
    have hs0 : 0 < l.length := h0
    have hsn : l.length - 1 < l.length := by omega
    by_cases hn : l.length - 1 = 0
    · refine ⟨fun k hk hkn => by omega, ?_, ?_, ?_⟩
      · unfold popM; rw [hn]; exact perm_swap hs0 hs0
      · unfold popM; rw [hn]; exact length_swap _ _ _
      · unfold popM; rw [hn]
        show nth (swapAt l 0 0) 0 = x
        rw [at_swap hs0 hs0, if_pos rfl]; exact hx
    · have key := downL_spec L 0 (l.length - 1) (swapAt l 0 (l.length - 1)) 0 (l.length - 1) (by rw [length_swap]; omega) (by omega) (by omega) (Nat.le_refl _) ?_ ?_
      · rw [length_swap] at key
        refine ⟨fun k hk hkn => key.1 k hk hkn (Nat.zero_le _), key.2.1.trans (perm_swap hs0 hsn), key.2.2.1, ?_⟩
        unfold popM
        rw [key.2.2.2 _ (Nat.le_refl _), at_swap hs0 hsn, if_pos rfl]
        exact hx
      · intro k hk hkn _ hp
        rw [at_swap hs0 hsn, at_swap hs0 hsn, if_neg (by omega), if_neg (by omega), if_neg (by omega), if_neg hp]
        exact h1 k hk (by omega)
      · intro k hk hkn hp h0'; omega
  obtain ⟨d1, d2, d3, d4⟩ := hd
  have hpl : (popL lt l).length = l.length - 1 := by unfold popL; rw [List.length_take, d3]; omega
  refine ⟨h0, d3, d4, ⟨?_, ?_, (List.pairwise_cons.1 h3).2⟩, hx⟩
  · rw [hpl]
    intro k hk hkn
    have e : ∀ j, j < l.length - 1 → nth (popL lt l) j = nth (popM lt l) j := by
      intro j hj
      unfold popL nth
      simp [List.getElem?_take, hj]
    rw [e k hkn, e _ (by omega)]
    exact d1 k hk hkn
  · have e : popM lt l = popL lt l ++ [x] := by
      refine ext_at (by rw [d3, List.length_append, hpl, List.length_singleton]; omega) fun k hk => ?_
      rw [d3] at hk
      by_cases hkn : k < l.length - 1
      · rw [at_append_left (by omega)]
        unfold popL nth
        simp [List.getElem?_take, hkn]
      · obtain rfl : k = l.length - 1 := by omega
        rw [d4]
        unfold nth
        rw [List.getD_eq_getElem?_getD, List.getElem?_append_right (by omega), hpl]
        simp
    have := d2.trans h2
    rw [e] at this
    exact (List.perm_cons x).1 ((List.perm_append_comm (l₁ := [x])).trans this)
theorem init_spec (L : Lin lt) : ∀ (k : Nat) (l : List α), 2 * k ≤ l.length → HeapFrom lt l k l.length → HeapTo lt (initL lt k l) l.length ∧ (initL lt k l).Perm l ∧ (initL lt k l).length = l.length := by
  intro k
  induction k with
  | zero => intro l _ h; exact ⟨fun j h1 h2 => h j h1 h2 (Nat.zero_le _), List.Perm.refl _, rfl⟩
  | succ k ih =>
    intro l hk h
    have key := downL_spec L k l.length l k l.length (Nat.le_refl _) (by omega) (by omega) (Nat.le_refl _) (fun j h1 h2 h3 h4 => h j h1 h2 (by omega)) (fun j h1 h2 h3 h4 h5 => by omega)
    have k2 := ih (downL lt l.length l k l.length) (by rw [key.2.2.1]; omega) (by rw [key.2.2.1]; exact key.1)
    rw [key.2.2.1] at k2
    exact ⟨k2.1, k2.2.1.trans key.2.1, k2.2.2⟩
theorem init_rep (L : Lin lt) (l : List α) : Rep lt (initL lt (l.length / 2) l) (sortL lt l) ∧ (initL lt (l.length / 2) l).length = l.length := by
  have key := init_spec L (l.length / 2) l (by omega) (fun j h1 h2 h3 => by omega)
  exact ⟨⟨by rw [key.2.2]; exact key.1, key.2.1.trans (sortL_perm l).symm, sortL_srt L l⟩, key.2.2⟩
end
end Go.Vx
/- A heap's list in memory: behind a slice variable. No program. -/
namespace Go.Vx
open Go.RowKit
set_option linter.unusedVariables false
set_option linter.unusedSimpArgs false
section
variable {α : Type} {e t : TypeId} {size : Nat} {enc : α → List Value}
/-- The variable at cell o of block p holds a slice that reads as l. -/
def HAt (e : TypeId) (size : Nat) (enc : α → List Value) (w : World) (p o : Nat) (t : TypeId) (cs : Array Value) (l : List α) (F : List Nat) : Prop :=
  ∃ v, Blk w p t (cs.setIfInBounds o v) ∧ o < cs.size ∧ Fix w e size v l.length (l.flatMap enc) F ∧ e ≠ t
theorem HAt.chg {w w' : World} {p o : Nat} {cs : Array Value} {l : List α} {F S : List Nat} (h : HAt e size enc w p o t cs l F) (k : Chg S w w') (hd : ∀ g, g ∈ p :: F → g ∉ S) : HAt e size enc w' p o t cs l F := by
  obtain ⟨v, h1, h2, h3, h4⟩ := h
  exact ⟨v, h1.chg k (hd p (by simp)), h2, h3.chg k (fun g hg => hd g (by simp [hg])), h4⟩
theorem HAt.keep {w w' : World} {p o : Nat} {cs : Array Value} {l : List α} {F : List Nat} (h : HAt e size enc w p o t cs l F) (k : Chg [] w w') : HAt e size enc w' p o t cs l F := h.chg k (by simp)
theorem HAt.ne {w : World} {p o : Nat} {cs : Array Value} {l : List α} {F : List Nat} (h : HAt e size enc w p o t cs l F) : p ∉ F := by
  obtain ⟨v, h1, h2, h3, h4⟩ := h
  exact h3.ne_blk h1 h4
theorem HAt.lt {w : World} {p o : Nat} {cs : Array Value} {l : List α} {F : List Nat} (h : HAt e size enc w p o t cs l F) : ∀ g, g ∈ p :: F → g < w.heap.size := by
  obtain ⟨v, h1, h2, h3, h4⟩ := h
  intro g hg
  rcases List.mem_cons.1 hg with rfl | hg
  · exact h1.lt
  · exact h3.lt g hg
theorem HAt.cell {w : World} {p o : Nat} {cs : Array Value} {l : List α} {F : List Nat} (h : HAt e size enc w p o t cs l F) : ∃ A c, w.cell? ⟨p, o, none⟩ = some (.slice A l.length c) ∧ w.frozen? ⟨p, o, none⟩ = false ∧ Blk w p t (cs.setIfInBounds o (.slice A l.length c)) ∧ Fix w e size (.slice A l.length c) l.length (l.flatMap enc) F ∧ l.length ≤ c ∧ c ≤ maxLen := by
  obtain ⟨v, h1, h2, h3, h4⟩ := h
  obtain ⟨A, c, rfl, -, h5, h6, -⟩ := id h3
  exact ⟨A, c, by rw [h1.cell]; simp [h2], h1.frozen _, h1, h3, h5, h6⟩

theorem flatMap_len2 (he : ∀ x, (enc x).length = size) (l : List α) : (l.flatMap enc).length = l.length * size := by
  induction l with
  | nil => simp
  | cons x l ih => rw [List.flatMap_cons, List.length_append, he, ih, List.length_cons, Nat.add_mul]; omega
variable [Inhabited α]
theorem flatMap_at (he : ∀ x, (enc x).length = size) : ∀ (l : List α) (k : Nat) (hk : k < l.length) (j : Nat), j < size → (l.flatMap enc)[k * size + j]? = (enc (nth l k))[j]? := by
  intro l
  induction l with
  | nil => intro k hk; simp at hk
  | cons x l ih =>
    intro k hk j hj
    rw [List.flatMap_cons]
    cases k with
    | zero => rw [List.getElem?_append_left (by rw [he]; omega)]; simp [nth]
    | succ k =>
      rw [List.getElem?_append_right (by rw [he, Nat.add_mul]; omega), he]
      have := ih k (by simpa using hk) j hj
      rw [show (k + 1) * size + j - size = k * size + j by rw [Nat.add_mul]; omega, this]
      simp [nth]
omit [Inhabited α] in
theorem Fix.shorter {w : World} {A : Option Addr} {n m c : Nat} {xs : List Value} {F : List Nat} (h : Fix w e size (.slice A n c) n xs F) (hm : m ≤ n) : Fix w e size (.slice A m c) m (xs.take (m * size)) F := by
  obtain ⟨A', c', hv, h1, h2, h3, h4⟩ := h
  injection hv with ha _ hc
  subst ha hc
  have := Nat.mul_le_mul_right size hm
  refine ⟨_, _, rfl, by simp; omega, by omega, h3, ?_⟩
  rcases h4 with h4 | ⟨g, cur, ha, hf, hb, hs, ht⟩
  · exact .inl h4
  · refine .inr ⟨g, cur, ha, hf, hb, hs, ?_⟩
    rw [← ht, List.take_take]
    congr 1
    omega
omit [Inhabited α] in
theorem take_flat (he : ∀ x, (enc x).length = size) : ∀ (l : List α) (m : Nat), (l.take m).flatMap enc = (l.flatMap enc).take (m * size)
  | [], m => by simp
  | x :: l, 0 => by simp
  | x :: l, m + 1 => by
    rw [List.take_succ_cons, List.flatMap_cons, List.flatMap_cons, take_flat he l m, List.take_append, he, show (m + 1) * size - size = m * size by rw [Nat.add_mul]; omega, List.take_of_length_le (l := enc x) (by rw [he, Nat.add_mul]; omega)]
/-- An element of the list in memory. -/
theorem Fix.elem {w : World} {v : Value} {l : List α} {F : List Nat} (h : Fix w e size v l.length (l.flatMap enc) F) (he : ∀ x, (enc x).length = size) (h0 : 0 < size) {k : Nat} (hk : k < l.length) :
    ∃ g c, v = .slice (some ⟨g, 0, none⟩) l.length c ∧ F = [g] ∧ ∀ j, j < size → w.cell? ⟨g, k * size + j, none⟩ = (enc (nth l k))[j]? ∧ w.frozen? ⟨g, k * size + j, none⟩ = false := by
  obtain ⟨g, c, hv, -, -, hF, -, -⟩ := h.at_ (k := k) (j := 0) hk h0
  refine ⟨g, c, hv, hF, fun j hj => ?_⟩
  obtain ⟨g', c', hv', -, -, hF', hc, hf⟩ := h.at_ (k := k) (j := j) hk hj
  rw [hv] at hv'
  injection hv' with hv'
  injection hv' with hv'
  injection hv' with hv'
  subst hv'
  rw [hc, flatMap_at he l k hk j hj]
  exact ⟨rfl, hf⟩
theorem set_flat2 {a b : Value} (he : ∀ x, (enc x).length = 2) (l : List α) (k : Nat) (hk : k < l.length) (y : α) (hy : enc y = [a, b]) : ((l.flatMap enc).set (k * 2) a).set (k * 2 + 1) b = (l.set k y).flatMap enc := by
  refine List.ext_getElem? fun n => ?_
  have hl := flatMap_len2 he l
  have hl2 := flatMap_len2 he (l.set k y)
  rw [List.length_set] at hl2
  by_cases hn : n < l.length * 2
  · obtain ⟨i, j, hj, rfl⟩ : ∃ i j, j < 2 ∧ n = i * 2 + j := ⟨n / 2, n % 2, Nat.mod_lt _ (by omega), by omega⟩
    have hi : i < l.length := by omega
    rw [flatMap_at he (l.set k y) i (by simpa using hi) j hj, at_set hk]
    simp only [List.getElem?_set, List.length_set, hl]
    by_cases hik : i = k
    · subst hik
      rw [if_pos rfl, hy]
      have : j = 0 ∨ j = 1 := by omega
      rcases this with rfl | rfl
      · rw [if_neg (by omega), if_pos (by omega), if_pos (by omega)]; rfl
      · rw [if_pos (by omega), if_pos (by omega)]; rfl
    · rw [if_neg hik, if_neg (by omega), if_neg (by omega), flatMap_at he l i hi j hj]
  · rw [List.getElem?_eq_none (by simp only [List.length_set]; omega), List.getElem?_eq_none (by omega)]
theorem set_flat4 {a b c d : Value} (he : ∀ x, (enc x).length = 4) (l : List α) (k : Nat) (hk : k < l.length) (y : α) (hy : enc y = [a, b, c, d]) :
    ((((l.flatMap enc).set (k * 4) a).set (k * 4 + 1) b).set (k * 4 + 2) c).set (k * 4 + 3) d = (l.set k y).flatMap enc := by
  refine List.ext_getElem? fun n => ?_
  have hl := flatMap_len2 he l
  have hl2 := flatMap_len2 he (l.set k y)
  rw [List.length_set] at hl2
  by_cases hn : n < l.length * 4
  · obtain ⟨i, j, hj, rfl⟩ : ∃ i j, j < 4 ∧ n = i * 4 + j := ⟨n / 4, n % 4, Nat.mod_lt _ (by omega), by omega⟩
    have hi : i < l.length := by omega
    rw [flatMap_at he (l.set k y) i (by simpa using hi) j hj, at_set hk]
    simp only [List.getElem?_set, List.length_set, hl]
    by_cases hik : i = k
    · subst hik
      rw [if_pos rfl, hy]
      have : j = 0 ∨ j = 1 ∨ j = 2 ∨ j = 3 := by omega
      rcases this with rfl | rfl | rfl | rfl
      · rw [if_neg (by omega), if_neg (by omega), if_neg (by omega), if_pos (by omega), if_pos (by omega)]; rfl
      · rw [if_neg (by omega), if_neg (by omega), if_pos (by omega), if_pos (by omega)]; rfl
      · rw [if_neg (by omega), if_pos (by omega), if_pos (by omega)]; rfl
      · rw [if_pos (by omega), if_pos (by omega)]; rfl
    · rw [if_neg hik, if_neg (by omega), if_neg (by omega), if_neg (by omega), if_neg (by omega), flatMap_at he l i hi j hj]
  · rw [List.getElem?_eq_none (by simp only [List.length_set]; omega), List.getElem?_eq_none (by omega)]
end
end Go.Vx
/- Journals: what they are; lines in memory; which may be. -/
namespace Go.Proofs.Ytlbkjhfnpjbjlaa
open Go.RowKit Go.Vx
set_option linter.unusedVariables false
set_option linter.unusedSimpArgs false

structure Ln where
  acct : Int
  amt : Int
  part : Int
deriving DecidableEq
instance : Inhabited Ln := ⟨⟨0, 0, 0⟩⟩
def lnEnc (l : Ln) : List Value := [.int .i64 l.acct, .int .i64 l.amt, .int .i64 l.part]
theorem lnEnc_len (l : Ln) : (lnEnc l).length = 3 := rfl
structure Jn where
  id : Int
  ent : Int
  per : Int
  ref : ByteArray
  lines : List Ln
  void : Bool
def jnV (j : Jn) (pv : Value) : Value := .agg #[.int .i64 j.id, .int .i64 j.ent, .int .i64 j.per, .string j.ref, pv, .bool j.void]
def jnEnc (j : Jn) (pv : Value) : List Value := [.int .i64 j.id, .int .i64 j.ent, .int .i64 j.per, .string j.ref, pv, .bool j.void]
theorem line_cells {w : World} {A : Option Addr} {n : Nat} {l : List Ln} (hs : Src w 3 A n (l.flatMap lnEnc)) {i : Nat} (hi : i < l.length) : ∃ ad, A = some ad ∧ w.cell? (ad.add (i * 3)) = some (.int .i64 l[i].acct) ∧ w.cell? ⟨(ad.add (i * 3)).block, (ad.add (i * 3)).off + 1, none⟩ = some (.int .i64 l[i].amt) ∧ w.cell? ⟨(ad.add (i * 3)).block, (ad.add (i * 3)).off + 2, none⟩ = some (.int .i64 l[i].part) := by
  have hl : l.length = n := by have := hs.1; rw [flatMap_len lnEnc_len] at this; omega
  obtain ⟨ad, rfl, hc⟩ := hs.2 (by omega)
  have key : ∀ j u, j < 3 → (lnEnc l[i])[j]? = some u → w.cell? (ad.add (i * 3 + j)) = some u := fun j u hj hu => by
    apply hc
    rw [flatMap_at lnEnc_len l i hi j hj, at_eq hi]
    exact hu
  have e : ∀ j, j ≠ 0 → ad.add (i * 3 + j) = ⟨(ad.add (i * 3)).block, (ad.add (i * 3)).off + j, none⟩ := fun j hj => by
    unfold Addr.add
    by_cases hks : i * 3 = 0 <;> simp [hks, hj, Nat.add_assoc]
  exact ⟨ad, rfl, key 0 _ (by omega) rfl, by rw [← e 1 (by omega)]; exact key 1 _ (by omega) rfl, by rw [← e 2 (by omega)]; exact key 2 _ (by omega) rfl⟩
theorem oneLines (l : List Ln) : ∀ u ∈ l.flatMap lnEnc, u.oneCell' = true := fun u hu => by
  obtain ⟨q, hq, hu⟩ := List.mem_flatMap.1 hu
  simp only [lnEnc, List.mem_cons, List.not_mem_nil, or_false] at hu
  rcases hu with rfl | rfl | rfl <;> rfl

/-- A byte of an outer reference. -/
def refc (c : UInt8) : Bool := (decide (65 ≤ c.toNat) && decide (c.toNat ≤ 90)) || (decide (48 ≤ c.toNat) && decide (c.toNat ≤ 57))
def refB (s : ByteArray) : Bool := s.data.toList.all refc && decide (s.size ≤ 8)
def entB (n : Int) : Bool := decide (1 ≤ n) && decide (n ≤ 9)
def perB (n : Int) : Bool := decide (0 ≤ n) && decide (n ≤ 1199)
def frontB (j : Jn) : Bool := decide (1 ≤ j.id) && decide (j.id ≤ 999999) && entB j.ent && perB j.per && refB j.ref && decide (2 ≤ j.lines.length) && decide (j.lines.length ≤ 8)
def lineB (of : Int) (l : Ln) : Bool := decide (1 ≤ l.acct) && decide (l.acct ≤ 9999) && (l.amt != 0) && ((l.part == 0) || (entB l.part && (l.part != of)))
def fitM (a : Int) : Bool := !(decide (a < -1000000000000000) || decide (1000000000000000 < a))
def sumL (l : List Ln) : Int := l.foldl (fun s x => s + x.amt) 0
/-- Why a journal may not be. -/
def checkE (j : Jn) : Int := if !frontB j then 1 else if !(j.lines.all (lineB j.ent)) then 1 else if !(j.lines.all fun x => fitM x.amt) then 2 else if sumL j.lines != 0 then 3 else 0
end Go.Proofs.Ytlbkjhfnpjbjlaa
/- Journals: the small functions of entries (Fits, Valid out of the texts of money and term). -/
namespace Go.Proofs.Ytlbkjhfnpjbjlaa
open Go.RowKit Go.Vx
set_option linter.unusedVariables false
set_option linter.unusedSimpArgs false

theorem ret_bool {a b : Bool} (h : a = b) : Ending.returned (Value.bool a) = .returned (.bool b) := by rw [h]
theorem jo_entity (n : Int) (w : World) : Calls Try.prog 55 #[.int .i64 n] w fun e w' => e = .returned (.bool (entB n)) ∧ w = w' := by
  have h1 : 1 ≤ n → Hid (decide (n ≤ 9) = entB n) := fun h => Lib.hid (by unfold entB; simp [h])
  have h2 : n < 1 → Hid (false = entB n) := fun h => Lib.hid (by unfold entB; simp; omega)
  go_enter Try.func55, Try.ntmps55
  go_wp2
  · go_ret
    exact ⟨ret_bool (h1 (by omega)).out, rfl⟩
  · go_ret
    exact ⟨ret_bool (h2 (by omega)).out, rfl⟩
theorem jo_valid1 (p : Int) (w : World) : Calls Try.prog 57 #[.int .i64 p] w fun e w' => e = .returned (.bool (perB p)) ∧ w = w' := by
  have h1 : 0 ≤ p → Hid (decide (p ≤ 1199) = perB p) := fun h => Lib.hid (by unfold perB; simp [h])
  have h2 : p < 0 → Hid (false = perB p) := fun h => Lib.hid (by unfold perB; simp; omega)
  go_enter Try.func57, Try.ntmps57
  go_wp2
  · go_ret
    exact ⟨ret_bool (h1 (by omega)).out, rfl⟩
  · go_ret
    exact ⟨ret_bool (h2 (by omega)).out, rfl⟩
set_option maxRecDepth 8000 in
set_option maxHeartbeats 1000000 in
theorem jo_valid {w : World} {A : Option Addr} {n c : Nat} {l : List Int} (h1 : Src w 1 A n (l.map (Value.int .i64))) (hn : n ≤ 1000000) :
    Calls Try.prog 47 #[.slice A n c] w fun e w' => e = .returned (.bool (l.all perB)) ∧ Chg [] w w' := by
  have hl : l.length = n := by have := h1.1; simpa using this
  replace hl := Lib.hid hl
  have hbad : ∀ k, ∀ hk : k < l.length, perB l[k] = false → Hid (false = l.all perB) := fun k hk hb => Lib.hid (by
    symm
    rw [List.all_eq_false]
    exact ⟨l[k], List.getElem_mem hk, by simp [hb]⟩)
  have hgood : (∀ k, ∀ hk : k < l.length, perB l[k] = true) → Hid (true = l.all perB) := fun h => Lib.hid (by
    symm
    rw [List.all_eq_true]
    intro x hx
    obtain ⟨k, hk, rfl⟩ := List.getElem_of_mem hx
    exact h k hk)
  generalize l.all perB = R at *
  go_enter Try.func47, Try.ntmps47
  go_wp2_with fail
  go_loopw [7] (fun iv wr => ∃ k : Nat, k ≤ n ∧ iv = .int .i64 k ∧ (∀ j, j < k → ∀ hj : j < l.length, perB l[j] = true) ∧ Chg [] w wr) (fun iv _ => n - (intOf iv).toNat)
  case atStart => exact ⟨0, by omega, rfl, fun j hj => absurd hj (by omega), Chg.refl _ _⟩
  case round =>
    obtain ⟨k, hk, rfl, hg, hc⟩ := hrel
    by_cases hlt : k < n
    · obtain ⟨a, rfl, c1⟩ := (h1.chg hc (by simp)).2 (by omega)
      have hkl : k < l.length := by rw [hl.out]; exact hlt
      have d1 := c1 k (.int .i64 l[k]) (by simp [hkl])
      clear c1
      have hb := hbad k hkl
      have hnext : perB l[k] = true → Hid (∀ j, j < k + 1 → ∀ hj : j < l.length, perB l[j] = true) := fun h => Lib.hid (fun j hj hjl => by
        rcases Nat.lt_or_ge j k with h2 | h2
        · exact hg j h2 hjl
        · obtain rfl : j = k := by omega
          exact h)
      have hv := jo_valid1 l[k]
      clear hbad hgood hg
      generalize hx : l[k] = x at d1 hb hnext hv
      cases hok : perB x with
      | true =>
        rw [hok] at hv
        have hnx := hnext hok
        clear hnext hb hx
        go_wp2_with (go_at_call 57; refine (hv _).mono ?_; rintro e w' ⟨rfl, rfl⟩)
        go_roundw
        case measure => simp [intOf]; omega
        case rel => exact ⟨k + 1, by omega, by go_num, hnx.out, hc⟩
      | false =>
        rw [hok] at hv
        have hnx := hb hok
        clear hnext hb hx
        go_wp2_with (go_at_call 57; refine (hv _).mono ?_; rintro e w' ⟨rfl, rfl⟩)
        go_ret
        exact ⟨ret_bool hnx.out, hc⟩
    · obtain rfl : k = n := by omega
      have hgd := hgood (fun j hj => hg j (by rw [← hl.out]; exact hj) hj)
      go_wp2_with fail
      go_ret
      exact ⟨ret_bool hgd.out, hc⟩
/-- The call's own list of one month. -/
theorem jo_valid_one {w : World} {p : Int} {t : TypeId} {B : Nat} (hB : w.heap.size = B) :
    Calls Try.prog 47 #[.slice (some ⟨B, 0, none⟩) 1 1] (w.alloc (.cells #[.int .i64 p] t)) fun e w' => e = .returned (.bool (perB p)) ∧ Chg [] w w' :=
  (jo_valid (l := [p]) (Src.one1 hB) (by omega)).mono fun e w' h => ⟨by rw [h.1]; simp, ((Chg.refl [] w).alloc _).trans' h.2⟩
theorem fitM_iff {a : Int} : fitM a = true ↔ -1000000000000000 ≤ a ∧ a ≤ 1000000000000000 := by simp [fitM]
theorem fitM_not {a : Int} : fitM a = false ↔ (a < -1000000000000000 ∨ 1000000000000000 < a) := by
  simp [fitM]
  omega
theorem jall_take {α : Type} {p : α → Bool} {l : List α} {k : Nat} (hk : k < l.length) : (l.take (k + 1)).all p = ((l.take k).all p && p l[k]) := by
  rw [List.take_add_one, List.all_append]
  simp [hk]
theorem jall_bad {α : Type} {p : α → Bool} {l : List α} {k : Nat} (hk : k < l.length) (h : p l[k] = false) : l.all p = false := by
  rw [List.all_eq_false]
  exact ⟨l[k], List.getElem_mem hk, by simp [h]⟩
theorem jo_fits {w : World} {A : Option Addr} {n c : Nat} {l : List Int} (hs : Src w 1 A n (l.map (Value.int .i64))) (hn : n ≤ 1000000) :
    Calls Try.prog 46 #[.slice A n c] w fun e w' => e = .returned (.bool (l.all fitM)) ∧ w = w' := by
  have hl : l.length = n := by have := hs.1; simpa using this
  go_enter Try.func46, Try.ntmps46
  go_wp2
  go_loopw [7] (fun i wr => ∃ k : Nat, k ≤ n ∧ i = .int .i64 k ∧ (l.take k).all fitM = true ∧ w = wr) (fun i _ => n - (intOf i).toNat)
  case atStart => exact ⟨0, by omega, rfl, by simp, rfl⟩
  case round =>
    obtain ⟨k, hk, rfl, hall, rfl⟩ := hrel
    by_cases hlt : k < n
    · obtain ⟨ad, rfl, hc⟩ := hs.2 (by omega)
      have hck := hc k (.int .i64 (l[k]'(by omega))) (by simp [hl, hlt])
      have e1 := jall_take (p := fitM) (l := l) (k := k) (by omega)
      have e2 := jall_bad (p := fitM) (l := l) (k := k) (by omega)
      generalize hx : l[k]'(by omega) = x at *
      clear hc
      replace hall := Lib.hid hall
      replace e1 := Lib.hid e1
      cases h1 : fitM x with
      | true =>
        have b1 : decide (x < -1000000000000000) = false := by simp [fitM] at h1; simp; omega
        have b2 : decide (1000000000000000 < x) = false := by simp [fitM] at h1; simp; omega
        clear e2
        replace h1 := Lib.hid h1
        go_wp2
        go_roundw
        case measure => simp [intOf]; omega
        case rel => exact ⟨k + 1, by omega, by go_num, by rw [e1.out, hall.out, h1.out]; rfl, by trivial⟩
      | false =>
        replace e2 := Lib.hid (e2 h1)
        rcases fitM_not.1 h1 with h2 | h2
        · have b1 : decide (x < -1000000000000000) = true := by simpa using h2
          go_wp2
          go_ret
          exact ⟨by rw [e2.out]; rfl, rfl⟩
        · have b1 : decide (x < -1000000000000000) = false := by simp; omega
          have b2 : decide (1000000000000000 < x) = true := by simpa using h2
          go_wp2
          go_ret
          exact ⟨by rw [e2.out]; rfl, rfl⟩
    · obtain rfl : k = n := by omega
      rw [← hl, List.take_length] at hall
      replace hall := Lib.hid hall
      replace hl := Lib.hid hl
      go_wp2
      go_ret
      exact ⟨by rw [hall.out]; rfl, by trivial⟩
theorem ref_bad {s : ByteArray} {k : Nat} (hk : k < s.size) (h : refc s[k] = false) : refB s = false := by
  unfold refB
  have : s.data.toList.all refc = false := by
    rw [List.all_eq_false]
    exact ⟨s[k], Array.mem_toList_iff.2 (Array.getElem_mem _), by simp [h]⟩
  rw [this]
  rfl
theorem ref_good {s : ByteArray} (h : ∀ k (hk : k < s.size), refc s[k] = true) : refB s = decide (s.size ≤ 8) := by
  unfold refB
  have : s.data.toList.all refc = true := by
    rw [List.all_eq_true]
    intro x hx
    obtain ⟨k, hk, rfl⟩ := List.getElem_of_mem hx
    exact h k (by simpa using hk)
  rw [this]
  rfl
theorem refc_cases (c : UInt8) : (refc c = true ∧ decide ((c.toNat : Int) < 65) = false ∧ decide (90 < (c.toNat : Int)) = false) ∨
    (refc c = true ∧ decide ((c.toNat : Int) < 65) = true ∧ decide ((c.toNat : Int) < 48) = false ∧ decide (57 < (c.toNat : Int)) = false) ∨
    (refc c = false ∧ decide ((c.toNat : Int) < 65) = true ∧ decide ((c.toNat : Int) < 48) = true) ∨
    (refc c = false ∧ decide ((c.toNat : Int) < 65) = true ∧ decide ((c.toNat : Int) < 48) = false ∧ decide (57 < (c.toNat : Int)) = true) ∨
    (refc c = false ∧ decide ((c.toNat : Int) < 65) = false ∧ decide (90 < (c.toNat : Int)) = true ∧ decide ((c.toNat : Int) < 48) = false ∧ decide (57 < (c.toNat : Int)) = true) := by
  unfold refc
  simp only [decide_eq_true_eq, decide_eq_false_iff_not, Bool.and_eq_true, Bool.or_eq_true, Bool.or_eq_false_iff, Bool.and_eq_false_iff]
  omega
set_option maxHeartbeats 1000000 in
theorem jo_named (s : ByteArray) (hs : s.size ≤ maxLen) (w : World) : Calls Try.prog 56 #[.string s] w fun e w' => e = .returned (.bool (refB s)) ∧ w = w' := by
  unfold maxLen at hs
  go_enter Try.func56, Try.ntmps56
  go_wp2
  go_loop [7] (fun iv => ∃ k : Nat, k ≤ s.size ∧ iv = .int .i64 k ∧ ∀ j (hj : j < s.size), j < k → refc s[j] = true) (fun iv => s.size - (intOf iv).toNat)
  case atStart => exact ⟨0, by omega, rfl, fun j _ h => by omega⟩
  case round =>
    obtain ⟨k, hk, rfl, hj⟩ := hrel
    by_cases hlt : k < s.size
    · have hj2 : refc s[k] = true → ∀ j (hj : j < s.size), j < k + 1 → refc s[j] = true := fun h j hj1 hj2 => by
        rcases Nat.lt_or_ge j k with h2 | h2
        · exact hj j hj1 h2
        · obtain rfl : j = k := by omega
          exact h
      have hbad : refc s[k] = false → Hid (false = refB s) := fun h => Lib.hid (ref_bad hlt h).symm
      clear hj
      rcases refc_cases s[k] with ⟨h0, h1, h2⟩ | ⟨h0, h1, h2, h3⟩ | ⟨h0, h1, h2⟩ | ⟨h0, h1, h2, h3⟩ | ⟨h0, h1, h2, h3, h4⟩
      · have hj3 := Lib.hid (hj2 h0)
        clear hj2 hbad h0
        go_wp2
        go_round
        case rel => exact ⟨k + 1, by omega, by go_num, hj3.out⟩
        case measure => simp [intOf]; omega
      · have hj3 := Lib.hid (hj2 h0)
        clear hj2 hbad h0
        go_wp2
        go_round
        case rel => exact ⟨k + 1, by omega, by go_num, hj3.out⟩
        case measure => simp [intOf]; omega
      all_goals
        have hb := hbad h0
        clear hj2 hbad h0
        go_wp2
        go_ret
        exact ⟨ret_bool hb.out, rfl⟩
    · obtain rfl : k = s.size := by omega
      have hb : Hid (decide ((s.size : Int) ≤ 8) = refB s) := Lib.hid (by rw [ref_good fun j h => hj j h h]; simp; omega)
      clear hj
      go_wp2
      go_ret
      exact ⟨ret_bool hb.out, rfl⟩
end Go.Proofs.Ytlbkjhfnpjbjlaa
/- Journals: row, front. -/
namespace Go.Proofs.Ytlbkjhfnpjbjlaa
open Go.RowKit Go.Vx
set_option linter.unusedVariables false
set_option linter.unusedSimpArgs false

set_option maxHeartbeats 1000000 in
theorem jo_row (a m p of : Int) (w : World) : Calls Try.prog 45 #[.agg #[.int .i64 a, .int .i64 m, .int .i64 p], .int .i64 of] w fun e w' => e = .returned (.bool (lineB of ⟨a, m, p⟩)) ∧ Chg [] w w' := by
  have hz := (Chg.refl [] w).alloc (.cells #[.int .i64 a, .int .i64 m, .int .i64 p] 40)
  have he := jo_entity p
  have key : ∀ b, lineB of ⟨a, m, p⟩ = b → Hid (lineB of ⟨a, m, p⟩ = b) := fun b h => Lib.hid h
  rcases Int.lt_or_le a 1 with h1 | h1
  · have hf := key false (by simp [lineB]; omega)
    have b1 : decide (1 ≤ a) = false := by simp; omega
    rw [hf.out]
    go_enter Try.func45, Try.ntmps45
    go_wp2_with fail
    go_ret
    exact ⟨rfl, hz⟩
  have b1 : decide (1 ≤ a) = true := by simpa using h1
  rcases Int.lt_or_le 9999 a with h2 | h2
  · have hf := key false (by simp [lineB]; omega)
    have b2 : decide (a ≤ 9999) = false := by simp; omega
    rw [hf.out]
    go_enter Try.func45, Try.ntmps45
    go_wp2_with fail
    go_ret
    exact ⟨rfl, hz⟩
  have b2 : decide (a ≤ 9999) = true := by simpa using h2
  by_cases h3 : m = 0
  · have hf := key false (by simp [lineB, h3])
    have b3 : (m != 0) = false := by simp [h3]
    rw [hf.out]
    clear h3
    go_enter Try.func45, Try.ntmps45
    go_wp2_with fail
    go_ret
    exact ⟨rfl, hz⟩
  have b3 : (m != 0) = true := by simp [h3]
  by_cases h4 : p = 0
  · have hf := key true (by simp [lineB, h1, h2, h3, h4])
    have b4 : (p == 0) = true := by simp [h4]
    rw [hf.out]
    clear h4 h3
    go_enter Try.func45, Try.ntmps45
    go_wp2_with fail
    go_ret
    exact ⟨rfl, hz⟩
  have b4 : (p == 0) = false := by simp [h4]
  cases h5 : entB p with
  | false =>
    have hf := key false (by simp [lineB, h4, h5])
    rw [h5] at he
    rw [hf.out]
    clear h4 h3 h5
    go_enter Try.func45, Try.ntmps45
    go_wp2_with fail
    refine (he _).mono ?_
    rintro e w' ⟨rfl, rfl⟩
    go_wp2_with fail
    go_ret
    exact ⟨rfl, hz⟩
  | true =>
    have hf := key (p != of) (by simp [lineB, h1, h2, b3, b4, h5])
    rw [h5] at he
    rw [hf.out]
    clear h4 h3 h5
    go_enter Try.func45, Try.ntmps45
    go_wp2_with fail
    refine (he _).mono ?_
    rintro e w' ⟨rfl, rfl⟩
    go_wp2_with fail
    go_ret
    exact ⟨by first | rfl | simp, hz⟩
set_option maxHeartbeats 4000000 in
theorem jo_front (j : Jn) {A : Option Addr} {n c : Nat} (hn : j.lines.length = n) (hr : j.ref.size ≤ maxLen) (w : World) : Calls Try.prog 44 #[jnV j (.slice A n c)] w fun e w' => e = .returned (.bool (frontB j)) ∧ Chg [] w w' := by
  obtain ⟨id, ent, per, ref, lines, void⟩ := j
  dsimp only at hn hr
  unfold jnV
  dsimp only
  have hz := (Chg.refl [] w).alloc (.cells #[.int .i64 id, .int .i64 ent, .int .i64 per, .string ref, .slice A n c, .bool void] 38)
  have he := jo_entity ent
  have hna := fun w => jo_named ref hr w
  have hva := fun (W : World) (B : Nat) (hB : W.heap.size = B) => jo_valid_one (w := W) (p := per) (t := 3) hB
  have key : ∀ b, frontB ⟨id, ent, per, ref, lines, void⟩ = b → Hid (frontB ⟨id, ent, per, ref, lines, void⟩ = b) := fun b h => Lib.hid h
  rcases Int.lt_or_le id 1 with h1 | h1
  · have hf := key false (by simp [frontB]; omega)
    have b1 : decide (1 ≤ id) = false := by simp; omega
    rw [hf.out]
    go_enter Try.func44, Try.ntmps44
    go_wp2_with fail
    go_ret
    exact ⟨rfl, hz⟩
  have b1 : decide (1 ≤ id) = true := by simpa using h1
  rcases Int.lt_or_le 999999 id with h2 | h2
  · have hf := key false (by simp [frontB]; omega)
    have b2 : decide (id ≤ 999999) = false := by simp; omega
    rw [hf.out]
    go_enter Try.func44, Try.ntmps44
    go_wp2_with fail
    go_ret
    exact ⟨rfl, hz⟩
  have b2 : decide (id ≤ 999999) = true := by simpa using h2
  cases h3 : entB ent with
  | false =>
    have hf := key false (by simp [frontB, h3])
    rw [h3] at he
    rw [hf.out]
    clear h3
    go_enter Try.func44, Try.ntmps44
    go_wp2_with fail
    refine (he _).mono ?_
    rintro e w' ⟨rfl, rfl⟩
    go_wp2_with fail
    go_ret
    exact ⟨rfl, hz⟩
  | true =>
  rw [h3] at he
  cases h4 : perB per with
  | false =>
    have hf := key false (by simp [frontB, h4])
    rw [h4] at hva
    rw [hf.out]
    clear h3 h4
    go_enter Try.func44, Try.ntmps44
    go_wp2_with fail
    refine (he _).mono ?_
    rintro e w' ⟨rfl, rfl⟩
    go_wp2_with fail
    refine (hva (w.alloc (.cells #[.int .i64 id, .int .i64 ent, .int .i64 per, .string ref, .slice A n c, .bool void] 38)) _ (by simp)).mono ?_
    rintro e w2 ⟨rfl, hz2⟩
    go_wp2_with fail
    go_ret
    exact ⟨rfl, hz.trans' hz2⟩
  | true =>
  rw [h4] at hva
  cases h5 : refB ref with
  | false =>
    have hf := key false (by simp [frontB, h5])
    rw [h5] at hna
    rw [hf.out]
    clear h3 h4 h5
    go_enter Try.func44, Try.ntmps44
    go_wp2_with fail
    refine (he _).mono ?_
    rintro e w' ⟨rfl, rfl⟩
    go_wp2_with fail
    refine (hva (w.alloc (.cells #[.int .i64 id, .int .i64 ent, .int .i64 per, .string ref, .slice A n c, .bool void] 38)) _ (by simp)).mono ?_
    rintro e w2 ⟨rfl, hz2⟩
    have hb2 := (Blk.new w 38 #[.int .i64 id, .int .i64 ent, .int .i64 per, .string ref, .slice A n c, .bool void]).chg hz2 (by simp)
    have d3 : w2.cell? ⟨w.heap.size, 3, none⟩ = some (.string ref) := hb2.cell 3
    go_wp2_with fail
    refine (hna _).mono ?_
    rintro e w3 ⟨rfl, rfl⟩
    go_wp2_with fail
    go_ret
    exact ⟨rfl, hz.trans' hz2⟩
  | true =>
    rw [h5] at hna
    have hf := key (decide ((2 : Int) ≤ n) && decide ((n : Int) ≤ 8)) (by simp [frontB, h1, h2, h3, h4, h5, hn]; rw [decide_eq_decide.2 (show 2 ≤ n ↔ (2 : Int) ≤ n by omega), decide_eq_decide.2 (show n ≤ 8 ↔ (n : Int) ≤ 8 by omega)])
    rw [hf.out]
    clear h3 h4 h5
    go_enter Try.func44, Try.ntmps44
    go_wp2_with fail
    refine (he _).mono ?_
    rintro e w' ⟨rfl, rfl⟩
    go_wp2_with fail
    refine (hva (w.alloc (.cells #[.int .i64 id, .int .i64 ent, .int .i64 per, .string ref, .slice A n c, .bool void] 38)) _ (by simp)).mono ?_
    rintro e w2 ⟨rfl, hz2⟩
    have hb2 := (Blk.new w 38 #[.int .i64 id, .int .i64 ent, .int .i64 per, .string ref, .slice A n c, .bool void]).chg hz2 (by simp)
    have d3 : w2.cell? ⟨w.heap.size, 3, none⟩ = some (.string ref) := hb2.cell 3
    have d4 : w2.cell? ⟨w.heap.size, 4, none⟩ = some (.slice A n c) := hb2.cell 4
    go_wp2_with fail
    refine (hna _).mono ?_
    rintro e w3 ⟨rfl, rfl⟩
    rcases Int.lt_or_le (n : Int) 2 with h6 | h6
    · have b6 : decide ((2 : Int) ≤ n) = false := by simp; omega
      go_wp2_with fail
      go_ret
      exact ⟨by rw [b6]; rfl, hz.trans' hz2⟩
    · have b6 : decide ((2 : Int) ≤ n) = true := by simp; omega
      go_wp2_with fail
      go_ret
      exact ⟨by rw [b6]; rfl, hz.trans' hz2⟩
end Go.Proofs.Ytlbkjhfnpjbjlaa
