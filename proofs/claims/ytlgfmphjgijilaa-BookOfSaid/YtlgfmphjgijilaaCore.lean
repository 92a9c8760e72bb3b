/- Words of this proof on memory: frames by a list of blocks, blocks that are known whole, owned rows under frames. No program. -/
import Derived.WalkKit
import Derived.Below
import Derived.OwnWalk
import Derived.Deep.Draws
import Derived.Deep.AppendLies
import Derived.Maps.AppendAt
import Derived.Laws.OwnMore
import Derived.Laws.MakeOwn
import Derived.Laws.Rows
import Derived.Deep.QuietTactic
import Derived.BigQuiet
import Derived.BigRegion
import Derived.Deep.RegionHeld3
import Derived.Deep.DeepCutAuto
import Derived.Deep.LoopGhost
import Derived.Deep.DeepFit
import Derived.Lib.Hide
import Derived.KernelRfl
import Derived.WalkSpells
namespace Go.Vx
open Go.RowKit
set_option linter.unusedVariables false
set_option linter.unusedSimpArgs false

/-- Every old block but those of F is as it was; streams and tape too. -/
structure Chg (F : List Nat) (w w' : World) : Prop where
  os : w'.os = w.os
  tape : w'.tape = w.tape
  output : w'.output = w.output
  size : w.heap.size ≤ w'.heap.size
  block : ∀ k, k < w.heap.size → k ∉ F → w'.heap[k]? = w.heap[k]?

theorem Chg.refl (F : List Nat) (w : World) : Chg F w w := ⟨rfl, rfl, rfl, Nat.le_refl _, fun _ _ _ => rfl⟩
theorem Chg.trans {F G : List Nat} {a b c : World} (h : Chg F a b) (k : Chg G b c) (hG : ∀ g, g ∈ G → g ∈ F ∨ a.heap.size ≤ g) : Chg F a c :=
  ⟨k.os.trans h.os, k.tape.trans h.tape, k.output.trans h.output, Nat.le_trans h.size k.size, fun i hi hn =>
    (k.block i (Nat.lt_of_lt_of_le hi h.size) (fun hg => (hG i hg).elim hn (fun h2 => absurd hi (by omega)))).trans (h.block i hi hn)⟩
theorem Chg.trans' {F : List Nat} {a b c : World} (h : Chg F a b) (k : Chg F b c) : Chg F a c := h.trans k fun _ h => .inl h
theorem Chg.mono {F G : List Nat} {a b : World} (h : Chg F a b) (hs : ∀ g, g ∈ F → g ∈ G) : Chg G a b :=
  ⟨h.os, h.tape, h.output, h.size, fun i hi hn => h.block i hi (fun hf => hn (hs _ hf))⟩
theorem Chg.of_below {F : List Nat} {w w' : World} (h : Below w.heap.size w w') : Chg F w w' := ⟨h.os, h.tape, h.output, h.size, fun i hi _ => h.block i hi⟩
theorem Chg.below {w w' : World} (h : Chg [] w w') : Below w.heap.size w w' := ⟨h.os, h.tape, h.output, h.size, fun i hi => h.block i hi (by simp)⟩
theorem Chg.drew {F : List Nat} {a w : World} (h : Chg F a w) : Chg F a w.drew := ⟨h.os, h.tape, h.output, h.size, h.block⟩
theorem Chg.drewN {F : List Nat} {a w : World} (h : Chg F a w) (n : Nat) : Chg F a (w.drewN n) := ⟨h.os, h.tape, h.output, h.size, h.block⟩
theorem Chg.alloc {F : List Nat} {a w : World} (h : Chg F a w) (o : Obj) : Chg F a (w.alloc o) :=
  h.trans (G := []) (.of_below ((Below.refl _ _).alloc (Nat.le_refl _) o)) (by simp)
theorem Chg.setCell {F : List Nat} {a w : World} (h : Chg F a w) {p : Addr} (hp : p.block ∈ F ∨ a.heap.size ≤ p.block) (u : Value) : Chg F a (w.setCell p u) :=
  h.trans (G := [p.block]) ⟨rfl, rfl, rfl, by simp [World.setCell], fun k _ hn => Below.heap_setCell _ _ _ _ (fun e => hn (by simp [e]))⟩ (by simpa using hp)
theorem Chg.grown {F : List Nat} {a w w' : World} (h : Chg F a w) {row : Option Nat} (hg : w.grownBy w' row) (hr : ∀ k, row = some k → k ∈ F ∨ a.heap.size ≤ k) : Chg F a w' :=
  h.trans (G := row.toList) ⟨hg.os, hg.tape, hg.output, hg.size, fun k hk hn => hg.block k hk (fun e => hn (by simp [← e]))⟩ (fun g hg => hr g (by simpa using hg))
theorem Chg.get {F : List Nat} {w w' : World} {k : Nat} {o : Obj} (h : Chg F w w') (hk : w.heap[k]? = some o) (hn : k ∉ F) : w'.heap[k]? = some o :=
  (h.block k (Array.getElem?_eq_some_iff.1 hk).1 hn).trans hk
theorem Chg.cell {F : List Nat} {w w' : World} (h : Chg F w w') {p : Addr} (hp : p.block < w.heap.size) (hn : p.block ∉ F) : w'.cell? p = w.cell? p := World.cell?_of_block (w := w) (h.block _ hp hn)
theorem Chg.frozen {F : List Nat} {w w' : World} (h : Chg F w w') {p : Addr} (hp : p.block < w.heap.size) (hn : p.block ∉ F) : w'.frozen? p = w.frozen? p := World.frozen?_of_block (w := w) (h.block _ hp hn)

/-- A cell that is there stays behind a new block. -/
theorem cell_al {w : World} {a : Addr} {v : Value} (h : w.cell? a = some v) : ∀ o, (w.alloc o).cell? a = some v :=
  fun o => (World.cell?_alloc_lt w o a (World.block_lt_of_cell? w a h)).trans h
/-- A block that is known whole. -/
def Blk (w : World) (g : Nat) (t : TypeId) (cs : Array Value) : Prop := w.heap[g]? = some (.cells cs t (0, 0))
section
variable {w w' : World} {g : Nat} {t : TypeId} {cs : Array Value} {F : List Nat}
theorem Blk.lt (h : Blk w g t cs) : g < w.heap.size := (Array.getElem?_eq_some_iff.1 h).1
theorem Blk.cell (h : Blk w g t cs) (i : Nat) : w.cell? ⟨g, i, none⟩ = cs[i]? := cell_of_row w g i cs t (0, 0) h
theorem Blk.frozen (h : Blk w g t cs) (i : Nat) : w.frozen? ⟨g, i, none⟩ = false := by
  unfold Blk at h
  simp [World.frozen?, h]
theorem Blk.new (w : World) (t : TypeId) (cs : Array Value) : Blk (w.alloc (.cells cs t)) w.heap.size t cs := heap_alloc_new w _
theorem Blk.chg (h : Blk w g t cs) (k : Chg F w w') (hn : g ∉ F) : Blk w' g t cs := k.get h hn
theorem Blk.drew (h : Blk w g t cs) : Blk w.drew g t cs := h
theorem Blk.drewN (h : Blk w g t cs) (n : Nat) : Blk (w.drewN n) g t cs := h
theorem Blk.alloc (h : Blk w g t cs) (o : Obj) : Blk (w.alloc o) g t cs := (Below.heap_alloc w o g h.lt).trans h
theorem Blk.set_ (h : Blk w g t cs) (i : Nat) (u : Value) : Blk (w.setCell ⟨g, i, none⟩ u) g t (cs.setIfInBounds i u) := by
  unfold Blk at h ⊢
  simp [World.setCell, Array.getElem?_modify, h]
theorem Blk.far (h : Blk w g t cs) {p : Addr} (hp : g ≠ p.block) (u : Value) : Blk (w.setCell p u) g t cs := (Below.heap_setCell w p u g hp).trans h
theorem Blk.grown {row : Option Nat} (h : Blk w g t cs) (hb : w.grownBy w' row) (hg : some g ≠ row) : Blk w' g t cs := (hb.block g h.lt hg).trans h
theorem Blk.ne_ {g' : Nat} {t' : TypeId} {cs' : Array Value} (h : Blk w g t cs) (h' : Blk w g' t' cs') (hne : t ≠ t') : g ≠ g' := by
  rintro rfl
  unfold Blk at h h'
  rw [h] at h'
  injection h' with h'
  injection h' with _ ht
  exact hne ht
end

/- Owned rows. -/
section
variable {w w' : World} {base n size : Nat} {e : TypeId} {v : Value} {xs : List Value} {F : List Nat}
theorem own_chg (h : w.ownsRow base e size v n xs) (k : Chg F w w') (hn : ∀ g, v.ownBlock = some g → g ∉ F) : w'.ownsRow base e size v n xs := by
  obtain ⟨h1, h2⟩ := h
  refine ⟨h1, ?_⟩
  rcases h2 with h2 | ⟨g, cap, cur, rfl, hg, hh, r⟩
  · exact .inl h2
  · exact .inr ⟨g, cap, cur, rfl, hg, k.get hh (hn g rfl), r⟩
theorem own_lt (h : w.ownsRow base e size v n xs) (g : Nat) (hg : v.ownBlock = some g) : g < w.heap.size := by
  rcases h.2 with ⟨rfl, _⟩ | ⟨g', cap, cur, rfl, hb, hh, _⟩
  · simp [Value.ownBlock] at hg
  · have : g' = g := by simpa [Value.ownBlock] using hg
    subst this
    exact (Array.getElem?_eq_some_iff.1 hh).1
theorem own_ne_blk {g : Nat} {t : TypeId} {cs : Array Value} (h : w.ownsRow base e size v n xs) (hg : Blk w g t cs) (hne : e ≠ t) : v.ownBlock ≠ some g := by
  rcases h.2 with ⟨rfl, _⟩ | ⟨g', cap, cur, rfl, _, hh, _⟩
  · simp [Value.ownBlock]
  · intro he
    have : g' = g := by simpa [Value.ownBlock] using he
    subst this
    exact Blk.ne_ (t := e) hh hg hne rfl
theorem own_ne_own {base' n' size' : Nat} {e' : TypeId} {v' : Value} {xs' : List Value} (h : w.ownsRow base e size v n xs) (h' : w.ownsRow base' e' size' v' n' xs') (hne : e ≠ e') : ∀ g, v.ownBlock = some g → v'.ownBlock ≠ some g := by
  intro g hg he
  rcases h.2 with ⟨rfl, _⟩ | ⟨g1, cap, cur, rfl, _, hh, _⟩
  · simp [Value.ownBlock] at hg
  · have : g1 = g := by simpa [Value.ownBlock] using hg
    subst this
    exact own_ne_blk (t := e) h' hh (Ne.symm hne) he
theorem own_base {base' : Nat} (h : w.ownsRow base e size v n xs) (hb : base' ≤ base) : w.ownsRow base' e size v n xs := by
  obtain ⟨h1, h2⟩ := h
  refine ⟨h1, ?_⟩
  rcases h2 with h2 | ⟨g, cap, cur, rfl, hg, r⟩
  · exact .inl h2
  · exact .inr ⟨g, cap, cur, rfl, Nat.le_trans hb hg, r⟩
/-- The base of an owned row may be any number up to its block's. -/
theorem own_rebase {base' : Nat} (h : w.ownsRow base e size v n xs) (hb : ∀ g, v.ownBlock = some g → base' ≤ g) : w.ownsRow base' e size v n xs := by
  obtain ⟨h1, h2⟩ := h
  refine ⟨h1, ?_⟩
  rcases h2 with h2 | ⟨g, cap, cur, rfl, hg, r⟩
  · exact .inl h2
  · exact .inr ⟨g, cap, cur, rfl, hb g rfl, r⟩
theorem own_alloc (h : w.ownsRow base e size v n xs) (o : Obj) : (w.alloc o).ownsRow base e size v n xs :=
  own_chg (F := []) h ((Chg.refl _ _).alloc o) (by simp)
theorem own_far (h : w.ownsRow base e size v n xs) {p : Addr} (hp : v.ownBlock ≠ some p.block) (u : Value) : (w.setCell p u).ownsRow base e size v n xs :=
  own_chg (F := [p.block]) h ((Chg.refl _ _).setCell (by simp) u) (fun g hg => by simp; rintro rfl; exact hp hg)
theorem own_nil : w.ownsRow base e size (.slice none 0 0) 0 [] := ⟨by simp, .inl ⟨rfl, rfl⟩⟩
/-- The shape of an owned row. -/
theorem own_slice (h : w.ownsRow base e size v n xs) : ∃ A c, v = .slice A n c ∧ n ≤ c ∧ c ≤ maxLen := by
  rcases h.2 with ⟨rfl, rfl⟩ | ⟨g, cap, cur, rfl, _, _, h1, h2, _⟩
  · exact ⟨none, 0, rfl, Nat.le_refl _, Nat.zero_le _⟩
  · exact ⟨_, cap, rfl, h1, h2⟩
end

/-- A slice of fixed length: of no capacity, or the whole of a block's head. -/
def Fix (w : World) (e : TypeId) (size : Nat) (v : Value) (n : Nat) (xs : List Value) (F : List Nat) : Prop :=
  ∃ A c, v = .slice A n c ∧ xs.length = n * size ∧ n ≤ c ∧ c ≤ maxLen ∧
    ((c = 0 ∧ F = []) ∨ (∃ g cur, A = some ⟨g, 0, none⟩ ∧ F = [g] ∧ Blk w g e cur ∧ cur.size = c * size ∧ cur.toList.take (n * size) = xs))
section
variable {w w' : World} {n size : Nat} {e : TypeId} {v : Value} {xs : List Value} {F S : List Nat}
theorem Fix.chg (h : Fix w e size v n xs F) (k : Chg S w w') (hd : ∀ g, g ∈ F → g ∉ S) : Fix w' e size v n xs F := by
  obtain ⟨A, c, hv, h1, h2, h3, h4⟩ := h
  refine ⟨A, c, hv, h1, h2, h3, ?_⟩
  rcases h4 with h4 | ⟨g, cur, ha, rfl, hb, r⟩
  · exact .inl h4
  · exact .inr ⟨g, cur, ha, rfl, hb.chg k (hd g (by simp)), r⟩
theorem Fix.below {B : Nat} (h : Fix w e size v n xs F) (k : Below B w w') (hd : ∀ g, g ∈ F → g < B) : Fix w' e size v n xs F := by
  obtain ⟨A, c, hv, h1, h2, h3, h4⟩ := h
  refine ⟨A, c, hv, h1, h2, h3, ?_⟩
  rcases h4 with h4 | ⟨g, cur, ha, rfl, hb, r⟩
  · exact .inl h4
  · exact .inr ⟨g, cur, ha, rfl, (k.block g (hd g (by simp))).trans hb, r⟩
theorem Fix.lt (h : Fix w e size v n xs F) : ∀ g, g ∈ F → g < w.heap.size := by
  obtain ⟨A, c, hv, h1, h2, h3, h4⟩ := h
  rcases h4 with ⟨_, rfl⟩ | ⟨g, cur, ha, rfl, hb, r⟩
  · simp
  · intro g' hg
    obtain rfl : g' = g := by simpa using hg
    exact hb.lt
theorem Fix.ne_blk {p : Nat} {t : TypeId} {cs : Array Value} (h : Fix w e size v n xs F) (hb : Blk w p t cs) (hne : e ≠ t) : p ∉ F := by
  obtain ⟨A, c, hv, h1, h2, h3, h4⟩ := h
  rcases h4 with ⟨_, rfl⟩ | ⟨g, cur, ha, rfl, hb', r⟩
  · simp
  · simp only [List.mem_singleton]
    exact fun e => (Blk.ne_ hb' hb hne) e.symm
theorem Fix.disj {n' size' : Nat} {e' : TypeId} {v' : Value} {xs' : List Value} {F' : List Nat} (h : Fix w e size v n xs F) (h' : Fix w e' size' v' n' xs' F') (hne : e ≠ e') : ∀ g, g ∈ F → g ∉ F' := by
  obtain ⟨A, c, hv, h1, h2, h3, h4⟩ := h
  rcases h4 with ⟨_, rfl⟩ | ⟨g, cur, ha, rfl, hb', r⟩
  · simp
  · intro g' hg
    obtain rfl : g' = g := by simpa using hg
    exact h'.ne_blk hb' (Ne.symm hne)
theorem Fix.far_blk {p : Nat} {t : TypeId} {cs : Array Value} (h : Fix w e size v n xs F) (hb : Blk w p t cs) (hne : e ≠ t) (i : Nat) (u : Value) : Fix (w.setCell ⟨p, i, none⟩ u) e size v n xs F :=
  h.chg (S := [p]) ((Chg.refl _ _).setCell (by simp) u) fun g hg => by
    have := h.ne_blk hb hne
    simp only [List.mem_singleton]
    rintro rfl
    exact this hg
theorem Fix.not_mem {p : Nat} {t : TypeId} {cs : Array Value} (h : Fix w e size v n xs F) (hb : Blk w p t cs) (hne : e ≠ t) : ∀ g, g ∈ F → g ∉ [p] := fun g hg => by
  have := h.ne_blk hb hne
  simp only [List.mem_singleton]
  rintro rfl
  exact this hg
theorem Fix.not_cons {p : Nat} {t : TypeId} {cs : Array Value} (h : Fix w e size v n xs F) (hb : Blk w p t cs) (hne : e ≠ t) {S : List Nat} (hS : ∀ g, g ∈ F → g ∉ S) : ∀ g, g ∈ F → g ∉ p :: S := fun g hg => by
  have := h.ne_blk hb hne
  simp only [List.mem_cons, not_or]
  exact ⟨fun e => this (e ▸ hg), hS g hg⟩
theorem Fix.alloc (h : Fix w e size v n xs F) (o : Obj) : Fix (w.alloc o) e size v n xs F := h.chg (S := []) ((Chg.refl _ _).alloc o) (by simp)
theorem Fix.drew (h : Fix w e size v n xs F) : Fix w.drew e size v n xs F := h
theorem Fix.drewN (h : Fix w e size v n xs F) (m : Nat) : Fix (w.drewN m) e size v n xs F := h
/-- The cells of an element. -/
theorem Fix.el {A : Option Addr} {c : Nat} (h : Fix w e size (.slice A n c) n xs F) {k : Nat} (hk : k < n) : ∃ g, A = some ⟨g, 0, none⟩ ∧ F = [g] ∧ ∀ j, j < size → w.cell? ⟨g, k * size + j, none⟩ = xs[k * size + j]? ∧ w.frozen? ⟨g, k * size + j, none⟩ = false := by
  obtain ⟨A, c, hv, h1, h2, h3, h4⟩ := h
  injection hv with ha _ hc
  subst ha hc
  rcases h4 with ⟨rfl, rfl⟩ | ⟨g, cur, rfl, rfl, hb, hs, ht⟩
  · omega
  · refine ⟨g, rfl, rfl, fun j hj => ⟨?_, hb.frozen _⟩⟩
    have hlt : k * size + j < n * size := by
      have := Nat.mul_le_mul_right size (show k + 1 ≤ n from hk)
      rw [Nat.add_mul] at this
      omega
    rw [hb.cell, ← ht, List.getElem?_take, if_pos hlt]
    simp
/-- A cell of the row is written. -/
theorem Fix.store {A : Option Addr} {c g : Nat} (h : Fix w e size (.slice A n c) n xs F) (hg : A = some ⟨g, 0, none⟩) (m : Nat) (u : Value) : Fix (w.setCell ⟨g, m, none⟩ u) e size (.slice A n c) n (xs.set m u) F := by
  obtain ⟨A, c, hv, h1, h2, h3, h4⟩ := h
  injection hv with ha _ hc
  subst ha hc
  refine ⟨_, _, rfl, by simpa using h1, h2, h3, ?_⟩
  rcases h4 with ⟨rfl, rfl⟩ | ⟨g', cur, he, rfl, hb, hs, ht⟩
  · exact .inl ⟨rfl, rfl⟩
  · obtain rfl : g = g' := by rw [hg] at he; injection he with he; injection he
    refine .inr ⟨g, cur.setIfInBounds m u, hg, rfl, hb.set_ m u, by simpa using hs, ?_⟩
    rw [← ht]
    simp [List.take_set]
/-- A cell of an element. -/
theorem Fix.at_ (h : Fix w e size v n xs F) {k j : Nat} (hk : k < n) (hj : j < size) : ∃ g c, v = .slice (some ⟨g, 0, none⟩) n c ∧ n ≤ c ∧ c ≤ maxLen ∧ F = [g] ∧ w.cell? ⟨g, k * size + j, none⟩ = xs[k * size + j]? ∧ w.frozen? ⟨g, k * size + j, none⟩ = false := by
  obtain ⟨A, c, rfl, h1, h2, h3, h4⟩ := h
  rcases h4 with ⟨rfl, rfl⟩ | ⟨g, cur, rfl, rfl, hb, hs, ht⟩
  · omega
  · refine ⟨g, c, rfl, h2, h3, rfl, ?_, hb.frozen _⟩
    have hlt : k * size + j < n * size := by
      have := Nat.mul_le_mul_right size (show k + 1 ≤ n from hk)
      rw [Nat.add_mul] at this
      omega
    rw [hb.cell, ← ht, List.getElem?_take, if_pos hlt]
    simp
end
end Go.Vx
