/- The agenda's Init, Len. -/
import Derived.Test.YtkpegffoebmhmaaSlotX
import Derived.Laws.ResultCell
namespace Go.Proofs.Ytkpegffoebmhmaa
open Go.RowKit Go.Vx
set_option linter.unusedVariables false
set_option linter.unusedSimpArgs false

theorem down_len {α : Type} [Inhabited α] (lt : α → α → Bool) : ∀ (f : Nat) (l : List α) (i n : Nat), (downL lt f l i n).length = l.length
  | 0, l, i, n => rfl
  | f + 1, l, i, n => by
    rw [downL]
    split
    · rfl
    · split
      · rw [down_len lt f, length_swap]
      · rfl
set_option maxRecDepth 8000 in
set_option maxHeartbeats 4000000 in
theorem sl_Init {w : World} {p o : Nat} {t : TypeId} {cs : Array Value} {l : List Slot} {F : List Nat} (h : HS w p o t cs l F) (hl : l.length ≤ 1000000) :
    Calls Try.prog 19 #[.iface 49 (.pointer (some ⟨p, o, none⟩))] w fun e w' => e = .returned (.tuple #[]) ∧ slS w' p o t cs (sortL slLt l) F ∧ Chg F w w' := by
  have nLen := fun w => (sl_nil ⟨p, o, none⟩ w).1
  obtain ⟨A, c, c0, f0, hb, hf, h1, h2⟩ := h.cell
  have mLen := sl_mlen c0
  have hL := sl_len A l.length c w (by omega)
  obtain ⟨R, hR⟩ : ∃ R, R = initL slLt (l.length / 2) l := ⟨_, rfl⟩
  have hrep := (init_rep slLin l).1
  rw [← hR] at hrep
  clear c0 f0 hb hf
  obtain ⟨n, hn⟩ : ∃ n, n = l.length := ⟨_, rfl⟩
  rw [← hn] at mLen hL hl h1 hR
  unfold maxLen at h2
  replace hn := Lib.hid hn
  go_enter Try.func19, Try.ntmps19
  go_wp2_with (go_at_call 39; refine hL.mono ?_; rintro e w' ⟨rfl, rfl⟩)
  clear nLen mLen hL
  go_loopw [3] (fun iv wr => ∃ (k : Nat) (l' : List Slot), iv = .int .i64 ((k : Int) - 1) ∧ l'.length = n ∧ 2 * k ≤ n ∧ initL slLt k l' = R ∧ HS wr p o t cs l' F ∧ Chg F w wr) (fun iv _ => (intOf iv + 1).toNat)
  case atStart => exact ⟨n / 2, l, by go_num, hn.out.symm, by omega, by rw [hR, hn.out], h, Chg.refl _ _⟩
  case round =>
    obtain ⟨k, l', rfl, hll, hk, hi, hh, hw⟩ := hrel
    cases k with
    | zero =>
      go_wp2_with fail
      go_end0
      exact ⟨rfl, ⟨R, by rw [← hi]; exact hh, hrep⟩, hw⟩
    | succ k =>
      have hD := sl_down hh k n (by omega) (by omega) (by omega)
      rw [initL, hll] at hi
      have hdl := down_len slLt n l' k n
      replace hi := Lib.hid hi
      replace hdl := Lib.hid hdl
      replace hll := Lib.hid hll
      go_wp2_with fail
      refine hD.mono ?_
      rintro e w1 ⟨⟨b, rfl⟩, hh1, hw1⟩
      dsimp only
      go_wp2_with fail
      go_roundw
      case measure => simp [intOf]
      case rel => exact ⟨k, _, by go_num, by rw [hdl.out, hll.out], by omega, hi.out, hh1, hw.trans' hw1⟩
/-- An agenda in memory: its slots in their order, how many came. -/
def AgAt (w : World) (p : Nat) (S : List Slot) (m : Int) (F : List Nat) : Prop := slS w p 0 28 #[.slice none 0 0, .int .i64 m] S F
theorem slS.chg {w w' : World} {p o : Nat} {t : TypeId} {cs : Array Value} {S : List Slot} {F G : List Nat} (h : slS w p o t cs S F) (k : Chg G w w') (hd : ∀ g, g ∈ p :: F → g ∉ G) : slS w' p o t cs S F := by
  obtain ⟨l, h, hr⟩ := h
  exact ⟨l, h.chg k hd, hr⟩
theorem AgAt.chg {w w' : World} {p : Nat} {S : List Slot} {m : Int} {F G : List Nat} (h : AgAt w p S m F) (k : Chg G w w') (hd : ∀ g, g ∈ p :: F → g ∉ G) : AgAt w' p S m F := slS.chg h k hd
theorem AgAt.lt {w : World} {p : Nat} {S : List Slot} {m : Int} {F : List Nat} (h : AgAt w p S m F) : ∀ g, g ∈ p :: F → g < w.heap.size := by
  obtain ⟨l, h, hr⟩ := h
  exact h.lt
/-- What stands in an agenda's cells. -/
theorem AgAt.cells {w : World} {p : Nat} {S : List Slot} {m : Int} {F : List Nat} (h : AgAt w p S m F) : ∃ A c, w.cell? ⟨p, 0, none⟩ = some (.slice A S.length c) ∧ w.cell? ⟨p, 1, none⟩ = some (.int .i64 m) ∧ w.frozen? ⟨p, 0, none⟩ = false ∧ w.frozen? ⟨p, 1, none⟩ = false ∧ S.length ≤ c ∧ c ≤ maxLen := by
  obtain ⟨l, h, hr⟩ := h
  have hll := slS.len h hr
  obtain ⟨A, c, c0, f0, hb, hf, h1, h2⟩ := h.cell
  rw [hll] at c0 h1
  refine ⟨A, c, c0, ?_, f0, hb.frozen 1, h1, h2⟩
  rw [hb.cell]
  rfl
theorem AgAt.len1 {w : World} {p : Nat} {S : List Slot} {m : Int} {F : List Nat} (h : AgAt w p S m F) : ∃ A c, w.cell? ⟨p, 0, none⟩ = some (.slice A S.length c) := by
  obtain ⟨A, c, h, -⟩ := h.cells
  exact ⟨A, c, h⟩
/-- The counter goes on. -/
theorem AgAt.bump {w : World} {p : Nat} {S : List Slot} {m : Int} {F : List Nat} (h : AgAt w p S m F) (m' : Int) : AgAt (w.setCell ⟨p, 1, none⟩ (.int .i64 m')) p S m' F := by
  obtain ⟨l, ⟨v, hb, ho, hf, hne⟩, hr⟩ := h
  refine ⟨l, ⟨v, ?_, by simp, hf.chg (S := [p]) ((Chg.refl _ _).setCell (by simp) _) (hf.not_mem hb hne), hne⟩, hr⟩
  exact hb.set_ 1 _
theorem AgAt.new (w : World) : AgAt (w.alloc (.cells #[.slice none 0 0, .int .i64 0] 28)) w.heap.size [] 0 [] :=
  ⟨[], ⟨.slice none 0 0, Blk.new _ _ _, by simp, Fix.nil _ _ _, by decide⟩, Rep.nil⟩
theorem ag_len {w : World} {p : Nat} {S : List Slot} {m : Int} {F : List Nat} (h : AgAt w p S m F) : Calls Try.prog 9 #[.pointer (some ⟨p, 0, none⟩)] w fun e w' => e = .returned (.int .i64 S.length) ∧ w = w' := by
  obtain ⟨A, c, c0, -, -, -, h1, h2⟩ := h.cells
  unfold maxLen at h2
  go_enter Try.func9, Try.ntmps9
  go_wp2
  go_ret
  exact ⟨rfl, rfl⟩
set_option maxRecDepth 8000 in
set_option maxHeartbeats 1000000 in
theorem ag_next_none {w : World} {p : Nat} {m : Int} {F : List Nat} (h : AgAt w p [] m F) : Calls Try.prog 8 #[.pointer (some ⟨p, 0, none⟩)] w fun e w' => e = .returned (.tuple #[.agg #[.int .i64 0, .int .i64 0, .int .i64 0], .bool false]) ∧ Chg [] w w' := by
  have hl := fun w' (k : Chg [] w w') => ag_len (h.chg k (by simp))
  go_enter Try.func8, Try.ntmps8
  go_wp2_with (go_at_call 9; refine (hl _ ((Chg.refl _ _).alloc _)).mono ?_; rintro e w' ⟨rfl, rfl⟩)
  refine bodyPost_ret (v := .tuple #[.agg #[.int .i64 0, .int .i64 0, .int .i64 0], .bool false]) (by rw [results_cell_tmp rfl]; go_simp) rfl ?_
  exact ⟨rfl, (Chg.refl _ _).alloc _⟩
set_option maxRecDepth 8000 in
set_option maxHeartbeats 1000000 in
theorem ag_next {w : World} {p : Nat} {x : Slot} {S : List Slot} {m : Int} {F : List Nat} (h : AgAt w p (x :: S) m F) (hS : S.length < 999999) :
    Calls Try.prog 8 #[.pointer (some ⟨p, 0, none⟩)] w fun e w' => e = .returned (.tuple #[.agg #[.int .i64 x.1, .int .i64 x.2.1, .int .i64 x.2.2.1], .bool true]) ∧ AgAt w' p S m F ∧ Chg (p :: F) w w' := by
  have hl := fun w' (k : Chg [] w w') => ag_len (h.chg k (by simp))
  have hpop := fun w' (k : Chg [] w w') => sl_Pop (h.chg k (by simp) : AgAt w' p (x :: S) m F) hS
  have hta : ∀ (a b c d : Value) (w : World), (Instr.typeAssert (.iface 51 (.agg #[a, b, c, d])) 20 51 false).run Try.prog w = .ok (.agg #[a, b, c, d]) w := fun a b c d w => by kernel_rfl
  have hfld : ∀ (a b c d : Value) (w : World), (Instr.field 51 (.agg #[a, b, c, d]) 0).run Try.prog w = .ok (.agg #[a, b, c]) w := fun a b c d w => by kernel_rfl
  have hlt := h.lt
  have hb0 := Blk.new w 31 #[.int .i64 0, .int .i64 0, .int .i64 0]
  have hne : ∀ w', Chg (p :: F) (w.alloc (.cells #[.int .i64 0, .int .i64 0, .int .i64 0] 31)) w' → Blk w' w.heap.size 31 #[.int .i64 0, .int .i64 0, .int .i64 0] := fun w' k => hb0.chg k (fun hg => Nat.lt_irrefl _ (hlt _ hg))
  have hsz : (x :: S).length = S.length + 1 := rfl
  rw [hsz] at hl
  have b1 : (((S.length + 1 : Nat) : Int) == 0) = false := by simp; omega
  have hne2 : ∀ g, g ∈ p :: F → ¬ g = w.heap.size := fun g hg e => by have := hlt g hg; omega
  clear hsz hlt
  go_enter Try.func8, Try.ntmps8
  go_wp2_with (first | (go_at_call 9; refine (hl _ ((Chg.refl _ _).alloc _)).mono ?_; rintro e w' ⟨rfl, rfl⟩) | (go_at_call 16; refine (hpop _ ((Chg.refl _ _).alloc _)).mono ?_; rintro e w1 ⟨rfl, hS1, hc1⟩; have hb1 := hne w1 hc1; have z0 := hb1.cell 0; have z1 := hb1.cell 1; have z2 := hb1.cell 2; have y0 := hb1.frozen 0; have y1 := hb1.frozen 1; have y2 := hb1.frozen 2; simp at z0 z1 z2))
  refine bodyPost_ret (v := .tuple #[.agg #[.int .i64 x.1, .int .i64 x.2.1, .int .i64 x.2.2.1], .bool true]) (by rw [results_cell_tmp rfl]; go_simp) rfl ?_
  refine ⟨rfl, ?_, ?_⟩
  · refine AgAt.chg (G := [w.heap.size]) hS1 ((((Chg.refl _ _).setCell (by simp) _).setCell (by simp) _).setCell (by simp) _) ?_
    intro g hg
    simpa using hne2 g hg
  · have := ((Chg.refl (p :: F) w).alloc (.cells #[.int .i64 0, .int .i64 0, .int .i64 0] 31)).trans' hc1
    exact ((this.setCell (.inr (by simp)) _).setCell (.inr (by simp)) _).setCell (.inr (by simp)) _
end Go.Proofs.Ytkpegffoebmhmaa
