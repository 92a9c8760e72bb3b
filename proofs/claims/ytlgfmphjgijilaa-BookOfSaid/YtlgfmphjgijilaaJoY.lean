/- Journals: alive. -/
import Derived.Test.YtlgfmphjgijilaaJoX
namespace Go.Proofs.Ytlgfmphjgijilaa
open Go.RowKit Go.Vx
set_option linter.unusedVariables false
set_option linter.unusedSimpArgs false

theorem Blk.new_at {w : World} {t : TypeId} {cs : Array Value} {B : Nat} (h : w.heap.size = B) : Blk (w.alloc (.cells cs t)) B t cs := by subst h; exact Blk.new w t cs
theorem blk_src {w : World} {g size n : Nat} {t : TypeId} {cs : Array Value} (h : Blk w g t cs) (hs : cs.size = n * size) : Go.Vx.Src w size (some ⟨g, 0, none⟩) n cs.toList :=
  ⟨by simp [hs], fun _ => ⟨_, rfl, fun j u hu => by rw [Addr.add_lit, h.cell]; simpa using hu⟩⟩
def jOne : Jn := ⟨1, 1, 0, ⟨#[65]⟩, [⟨1, 5, 0⟩, ⟨2, -5, 0⟩], false⟩
def jTwo : Jn := ⟨2, 1, 0, ⟨#[65]⟩, [⟨1, 5, 0⟩, ⟨2, -5, 0⟩], false⟩
/-- What stands between the calls of alive. -/
def AlSt (w : World) (B : Nat) (W : World) (L : List Jn) : Prop := ∃ R, BN W B L R ∧ (∀ g ∈ R, B + 4 ≤ g) ∧ Blk W (B + 1) 28 #[.int .i64 1, .int .i64 5, .int .i64 0, .int .i64 2, .int .i64 (-5), .int .i64 0] ∧
  Blk W (B + 1 + 1) 31 #[.int .i64 1, .int .i64 1, .int .i64 0, .string ⟨#[65]⟩, .slice (some ⟨B + 1, 0, none⟩) 2 2, .bool false] ∧ Blk W (B + 1 + 1 + 1) 31 #[.int .i64 2, .int .i64 1, .int .i64 0, .string ⟨#[65]⟩, .slice (some ⟨B + 1, 0, none⟩) 2 2, .bool false] ∧ Chg [] w W ∧ w.heap.size ≤ B ∧ B + 4 ≤ W.heap.size
theorem AlSt.step {w W W' : World} {B : Nat} {L' : List Jn} {R R' : List Nat} (h2 : ∀ g ∈ R, B + 4 ≤ g) (h3 : Blk W (B + 1) 28 #[.int .i64 1, .int .i64 5, .int .i64 0, .int .i64 2, .int .i64 (-5), .int .i64 0])
    (h4 : Blk W (B + 1 + 1) 31 #[.int .i64 1, .int .i64 1, .int .i64 0, .string ⟨#[65]⟩, .slice (some ⟨B + 1, 0, none⟩) 2 2, .bool false]) (h5 : Blk W (B + 1 + 1 + 1) 31 #[.int .i64 2, .int .i64 1, .int .i64 0, .string ⟨#[65]⟩, .slice (some ⟨B + 1, 0, none⟩) 2 2, .bool false]) (h6 : Chg [] w W) (h7 : w.heap.size ≤ B) (h8 : B + 4 ≤ W.heap.size)
    (hb : BN W' B L' R') (hf : ∀ g ∈ R', g ∈ R ∨ W.heap.size ≤ g) (hz : Chg (B :: R) W W') : AlSt w B W' L' := by
  have hn : ∀ k, k = B + 1 ∨ k = B + 1 + 1 ∨ k = B + 1 + 1 + 1 → k ∉ B :: R := fun k hk hm => by
    rcases List.mem_cons.1 hm with h | h
    · omega
    · have := h2 k h; omega
  exact ⟨R', hb, fun g hg => (hf g hg).elim (h2 g) (fun h => by omega), h3.chg hz (hn _ (.inl rfl)), h4.chg hz (hn _ (.inr (.inl rfl))), h5.chg hz (hn _ (.inr (.inr rfl))), h6.trans hz (fun g hg => .inr (by
    rcases List.mem_cons.1 hg with h | h
    · omega
    · have := h2 g h; omega)), h7, by have := hz.size; omega⟩
def L1 : List Jn := [jOne]
def L2 : List Jn := [voidedN jOne]
def L3 : List Jn := [voidedN jOne, jTwo]
set_option maxRecDepth 100000 in
set_option maxHeartbeats 4000000 in
theorem l6_alive (w : World) : Calls Try.prog 6 #[] w fun e w' => e = .returned (.bool true) ∧ Chg [] w w' := by
  have q1 : postN [] jOne = 0 := by decide +kernel
  have q2 : postN L1 jTwo = 8 := by decide +kernel
  have q3 : voidN L1 1 = 0 := by decide +kernel
  have q4 : postN L2 jTwo = 0 := by decide +kernel
  have q6 : refN L3 ⟨#[65]⟩ = 2 := by decide +kernel
  have q7 : foundN L3 2 = true := by decide +kernel
  go_enter Try.func6, Try.ntmps6
  go_wp2_with fail
  have h0 : AlSt w w.heap.size ((((w.alloc (.cells #[.slice none 0 0] 26)).alloc (.cells #[.int .i64 1, .int .i64 5, .int .i64 0, .int .i64 2, .int .i64 (-5), .int .i64 0] 28)).alloc
      (.cells #[.int .i64 1, .int .i64 1, .int .i64 0, .string ⟨#[65]⟩, .slice (some ⟨w.heap.size + 1, 0, none⟩) 2 2, .bool false] 31)).alloc
      (.cells #[.int .i64 2, .int .i64 1, .int .i64 0, .string ⟨#[65]⟩, .slice (some ⟨w.heap.size + 1, 0, none⟩) 2 2, .bool false] 31)) [] :=
    ⟨[], ((((BN.new w).keep ((Chg.refl [] _).alloc _)).keep ((Chg.refl [] _).alloc _)).keep ((Chg.refl [] _).alloc _)), by simp, ((Blk.new_at (by simp)).alloc _).alloc _, (Blk.new_at (by simp)).alloc _, Blk.new_at (by simp), ((((Chg.refl [] w).alloc _).alloc _).alloc _).alloc _, Nat.le_refl _, by simp⟩
  generalize w.heap.size = B at *
  revert h0
  generalize ((((w.alloc (.cells #[.slice none 0 0] 26)).alloc (.cells #[.int .i64 1, .int .i64 5, .int .i64 0, .int .i64 2, .int .i64 (-5), .int .i64 0] 28)).alloc
      (.cells #[.int .i64 1, .int .i64 1, .int .i64 0, .string ⟨#[65]⟩, .slice (some ⟨B + 1, 0, none⟩) 2 2, .bool false] 31)).alloc
      (.cells #[.int .i64 2, .int .i64 1, .int .i64 0, .string ⟨#[65]⟩, .slice (some ⟨B + 1, 0, none⟩) 2 2, .bool false] 31)) = wa
  intro h0
  obtain ⟨R, a1, a2, a3, a4, a5, a6, a7, a8⟩ := h0
  refine (bn_post a1 jOne (n := 2) (c := 2) (blk_src (size := 3) a3 rfl) (by omega) (by decide)).mono ?_
  rintro e w1 ⟨rfl, R1, hb1, hf1, hz1⟩
  rw [q1] at hb1 ⊢
  replace hb1 : BN w1 B L1 R1 := hb1
  obtain ⟨R2, b1, b2, b3, b4, b5, b6, b7, b8⟩ := AlSt.step a2 a3 a4 a5 a6 a7 a8 hb1 hf1 hz1
  clear a1 a2 a3 a4 a5 a6 a8 hb1 hf1 hz1
  have c0 := b5.cell 0
  have c1 := b5.cell 1
  have c2 := b5.cell 2
  have c3 := b5.cell 3
  have c4 := b5.cell 4
  have c5 := b5.cell 5
  go_wp2_with fail
  refine (bn_post b1 jTwo (n := 2) (c := 2) (blk_src (size := 3) b3 rfl) (by omega) (by decide)).mono ?_
  rintro e w2 ⟨rfl, R3, hb1, hf1, hz1⟩
  rw [q2] at hb1 ⊢
  replace hb1 : BN w2 B L1 R3 := hb1
  obtain ⟨R4, a1, a2, a3, a4, a5, a6, a7, a8⟩ := AlSt.step b2 b3 b4 b5 b6 b7 b8 hb1 hf1 hz1
  clear b1 b2 b3 b4 b5 b6 b8 hb1 hf1 hz1 c0 c1 c2 c3 c4 c5
  go_wp2_with fail
  refine (bn_void a1 (id := 1) (by omega)).mono ?_
  rintro e w3 ⟨rfl, hb1, hz1⟩
  rw [q3]
  replace hb1 : BN w3 B L2 R4 := hb1
  obtain ⟨R5, b1, b2, b3, b4, b5, b6, b7, b8⟩ := AlSt.step a2 a3 a4 a5 a6 a7 a8 hb1 (fun g hg => .inl hg) hz1
  clear a1 a2 a3 a4 a5 a6 a8 hb1 hz1
  have c0 := b5.cell 0
  have c1 := b5.cell 1
  have c2 := b5.cell 2
  have c3 := b5.cell 3
  have c4 := b5.cell 4
  have c5 := b5.cell 5
  go_wp2_with fail
  refine (bn_post b1 jTwo (n := 2) (c := 2) (blk_src (size := 3) b3 rfl) (by omega) (by decide)).mono ?_
  rintro e w4 ⟨rfl, R3, hb1, hf1, hz1⟩
  rw [q4] at hb1 ⊢
  replace hb1 : BN w4 B L3 R3 := hb1
  obtain ⟨R4, a1, a2, a3, a4, a5, a6, a7, a8⟩ := AlSt.step b2 b3 b4 b5 b6 b7 b8 hb1 hf1 hz1
  clear b1 b2 b3 b4 b5 b6 b8 hb1 hf1 hz1 c0 c1 c2 c3 c4 c5
  go_wp2_with fail
  refine (bn_len a1).mono ?_
  rintro e w5 ⟨rfl, hz5⟩
  rw [show L3.length = 2 from rfl]
  go_wp2_with fail
  refine (bn_get (a1.keep hz5) (id := 2) (by omega)).mono ?_
  rintro e w6 ⟨v, F, rfl, hfv, -, hz6⟩
  rw [q7]
  rw [show (getN L3 2).getD noJn = jTwo from by unfold getN L3; rfl] at hfv ⊢
  obtain ⟨A, c, rfl, -⟩ := _root_.id hfv
  have hz56 := hz5.trans' hz6
  have a1' := a1.keep hz56
  have hz := a6.trans' hz56
  rw [show jTwo.lines.length = 2 from rfl] at *
  unfold jTwo jnV
  dsimp only
  clear hfv hz5 hz6 a1 a2 a3 a4 a5 a6 a8
  go_wp2_with fail
  refine (bn_ref (a1'.keep ((Chg.refl [] w6).alloc _)) ⟨#[65]⟩).mono ?_
  rintro e w7 ⟨rfl, hz7⟩
  rw [q6]
  go_wp2_with fail
  go_ret
  exact ⟨rfl, (hz.alloc _).trans' hz7⟩
end Go.Proofs.Ytlgfmphjgijilaa
