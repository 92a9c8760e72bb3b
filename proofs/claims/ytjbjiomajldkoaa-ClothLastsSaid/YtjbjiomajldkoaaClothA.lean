/- The cloth's small calls: what each answers and does to memory. -/
import Derived.Test.YtjbjiomajldkoaaProg
import Derived.Test.YtjbjiomajldkoaaCore
namespace Go.Proofs.Ytjbjiomajldkoaa
open Go.RowKit Go.Vx
set_option linter.unusedVariables false
set_option linter.unusedSimpArgs false
attribute [local go_sem] Lib.run_eql_slice_nil run_neq_slice_nil_any run_eql_nil_slice run_neq_nil_slice

structure ClothS where
  pressed : List ByteArray
  loose : List (Int × ByteArray)
  torn : Bool
  snagged : Bool
  left : Int
  keep : List Bool

def threadCells (l : List (Int × ByteArray)) : List Value := l.flatMap fun t => [.int .i64 t.1, .string t.2]

/-- What lies at a cloth: its own block p, and the three rows. -/
structure ClothAt (w : World) (p : Nat) (pr lo ke : Value) (c : ClothS) (F G H : List Nat) : Prop where
  blk : Blk w p 53 #[pr, lo, .bool c.torn, .bool c.snagged, .int .i64 c.left, ke]
  hpr : Fix w 9 1 pr c.pressed.length (c.pressed.map .string) F
  prn : ∃ a n m, pr = .slice (some a) n m
  hlo : Fix w 57 2 lo c.loose.length (threadCells c.loose) G
  hke : Fix w 4 1 ke c.keep.length (c.keep.map .bool) H

theorem none_nil (w : World) : Calls Try.prog 26 #[.pointer none] w fun e w' => e = .returned (.bool true) ∧ w = w' := by
  go_enter Try.func26, Try.ntmps26
  go_wp2
  go_ret
  exact ⟨rfl, rfl⟩

section
variable {w w' : World} {p : Nat} {pr lo ke : Value} {c : ClothS} {F G H : List Nat}
theorem ClothAt.chg {S : List Nat} (h : ClothAt w p pr lo ke c F G H) (k : Chg S w w') (hd : ∀ g, g ∈ p :: (F ++ G ++ H) → g ∉ S) : ClothAt w' p pr lo ke c F G H :=
  ⟨h.blk.chg k (hd p (by simp)), h.hpr.chg k fun g hg => hd g (by simp [hg]), h.prn, h.hlo.chg k fun g hg => hd g (by simp [hg]), h.hke.chg k fun g hg => hd g (by simp [hg])⟩
theorem ClothAt.alloc (h : ClothAt w p pr lo ke c F G H) (o : Obj) : ClothAt (w.alloc o) p pr lo ke c F G H := h.chg (S := []) ((Chg.refl _ _).alloc o) (by simp)
/-- A cell of the cloth's own block is written. -/
theorem ClothAt.set (h : ClothAt w p pr lo ke c F G H) {i : Nat} {u : Value} {c' : ClothS} (hp : c'.pressed = c.pressed) (hl : c'.loose = c.loose) (hk : c'.keep = c.keep)
    (hc : #[pr, lo, .bool c.torn, .bool c.snagged, .int .i64 c.left, ke].setIfInBounds i u = #[pr, lo, .bool c'.torn, .bool c'.snagged, .int .i64 c'.left, ke]) :
    ClothAt (w.setCell ⟨p, i, none⟩ u) p pr lo ke c' F G H := by
  refine ⟨hc ▸ h.blk.set_ i u, ?_, h.prn, ?_, ?_⟩
  · rw [hp]; exact h.hpr.far_blk h.blk (by decide) _ _
  · rw [hl]; exact h.hlo.far_blk h.blk (by decide) _ _
  · rw [hk]; exact h.hke.far_blk h.blk (by decide) _ _
/-- What a call on a cloth leaves. -/
def ClPost (w : World) (p : Nat) (pr : Value) (S F G H : List Nat) (r : Value) (c' : ClothS) (e : Ending) (w' : World) : Prop :=
  ∃ lo' ke' G' H', e = .returned r ∧ ClothAt w' p pr lo' ke' c' F G' H' ∧ Chg S w w' ∧ (∀ g, g ∈ G' → g ∈ G ∨ w.heap.size ≤ g) ∧ (∀ g, g ∈ H' → g ∈ H ∨ w.heap.size ≤ g)
theorem none_at (h : ClothAt w p pr lo ke c F G H) :
    Calls Try.prog 26 #[.pointer (some ⟨p, 0, none⟩)] w fun e w' => e = .returned (.bool false) ∧ w = w' := by
  have c0 : w.cell? ⟨p, 0, none⟩ = some pr := h.blk.cell 0
  obtain ⟨a, n, m, rfl⟩ := h.prn
  clear h
  go_enter Try.func26, Try.ntmps26
  go_wp2
  go_ret
  exact ⟨rfl, rfl⟩
theorem on_nil (w : World) : Calls Try.prog 17 #[.pointer none] w fun e w' => e = .returned (.bool false) ∧ w = w' := by
  go_enter Try.func17, Try.ntmps17
  go_wp2_with (go_at_call 26; refine (none_nil _).mono ?_; rintro e w' ⟨rfl, rfl⟩)
  go_ret
  exact ⟨rfl, rfl⟩
theorem on_at (h : ClothAt w p pr lo ke c F G H) :
    Calls Try.prog 17 #[.pointer (some ⟨p, 0, none⟩)] w fun e w' => e = .returned (.bool (!c.torn)) ∧ w = w' := by
  have c2 : w.cell? ⟨p, 2, none⟩ = some (.bool c.torn) := h.blk.cell 2
  go_enter Try.func17, Try.ntmps17
  go_wp2_with (go_at_call 26; refine (none_at h).mono ?_; rintro e w' ⟨rfl, rfl⟩)
  go_ret
  exact ⟨rfl, rfl⟩
/-- Why a row can't be used. -/
def ClothS.may (c : ClothS) (row : Int) : Int := if c.torn then 14 else if row < 0 ∨ (c.pressed.length : Int) ≤ row then 1 else 0
theorem may_nil (w : World) (row : Int) : Calls Try.prog 23 #[.pointer none, .int .i64 row] w fun e w' => e = .returned (.int .i64 1) ∧ w = w' := by
  go_enter Try.func23, Try.ntmps23
  go_wp2_with (go_at_call 26; refine (none_nil _).mono ?_; rintro e w' ⟨rfl, rfl⟩)
  go_ret
  exact ⟨rfl, rfl⟩
theorem may_at (h : ClothAt w p pr lo ke c F G H) (row : Int) :
    Calls Try.prog 23 #[.pointer (some ⟨p, 0, none⟩), .int .i64 row] w fun e w' => e = .returned (.int .i64 (c.may row)) ∧ w = w' := by
  have c0 : w.cell? ⟨p, 0, none⟩ = some pr := h.blk.cell 0
  have c2 : w.cell? ⟨p, 2, none⟩ = some (.bool c.torn) := h.blk.cell 2
  obtain ⟨A, cap, rfl, hl, hn, hm, -⟩ := h.hpr
  unfold maxLen at hm
  go_enter Try.func23, Try.ntmps23
  go_wp2_with (go_at_call 26; refine (none_at h).mono ?_; rintro e w' ⟨rfl, rfl⟩)
  all_goals (go_ret; refine ⟨?_, rfl⟩; unfold ClothS.may; simp [*])
theorem mend_nil (w : World) : Calls Try.prog 14 #[.pointer none] w fun e w' => e = .returned (.tuple #[]) ∧ w = w' := by
  go_enter Try.func14, Try.ntmps14
  go_wp2
  go_end0
  exact ⟨rfl, rfl⟩
theorem mend_at (h : ClothAt w p pr lo ke c F G H) :
    Calls Try.prog 14 #[.pointer (some ⟨p, 0, none⟩)] w fun e w' => e = .returned (.tuple #[]) ∧ ClothAt w' p pr lo ke { c with torn := false } F G H ∧ Chg [p] w w' := by
  have c2 : w.cell? ⟨p, 2, none⟩ = some (.bool c.torn) := h.blk.cell 2
  have f2 := h.blk.frozen 2
  go_enter Try.func14, Try.ntmps14
  go_wp2
  go_end0
  exact ⟨rfl, h.set rfl rfl rfl rfl, (Chg.refl _ _).setCell (by simp) _⟩
theorem rows_nil (w : World) : Calls Try.prog 22 #[.pointer none] w fun e w' => e = .returned (.int .i64 0) ∧ w = w' := by
  go_enter Try.func22, Try.ntmps22
  go_wp2
  go_ret
  exact ⟨rfl, rfl⟩
theorem rows_at (h : ClothAt w p pr lo ke c F G H) :
    Calls Try.prog 22 #[.pointer (some ⟨p, 0, none⟩)] w fun e w' => e = .returned (.int .i64 c.pressed.length) ∧ w = w' := by
  have c0 : w.cell? ⟨p, 0, none⟩ = some pr := h.blk.cell 0
  obtain ⟨A, cap, rfl, -⟩ := h.hpr
  go_enter Try.func22, Try.ntmps22
  go_wp2
  go_ret
  exact ⟨rfl, rfl⟩
theorem loose_nil (w : World) : Calls Try.prog 12 #[.pointer none] w fun e w' => e = .returned (.int .i64 0) ∧ w = w' := by
  go_enter Try.func12, Try.ntmps12
  go_wp2
  go_ret
  exact ⟨rfl, rfl⟩
theorem loose_at (h : ClothAt w p pr lo ke c F G H) :
    Calls Try.prog 12 #[.pointer (some ⟨p, 0, none⟩)] w fun e w' => e = .returned (.int .i64 c.loose.length) ∧ w = w' := by
  have c1 : w.cell? ⟨p, 1, none⟩ = some lo := h.blk.cell 1
  obtain ⟨A, cap, rfl, -⟩ := h.hlo
  go_enter Try.func12, Try.ntmps12
  go_wp2
  go_ret
  exact ⟨rfl, rfl⟩
theorem goes_no (h : ClothAt w p pr lo ke c F G H) (hs : c.snagged = false) :
    Calls Try.prog 24 #[.pointer (some ⟨p, 0, none⟩)] w fun e w' => e = .returned (.bool false) ∧ w = w' := by
  have c3 : w.cell? ⟨p, 3, none⟩ = some (.bool c.snagged) := h.blk.cell 3
  go_enter Try.func24, Try.ntmps24
  go_wp2
  go_ret
  exact ⟨rfl, rfl⟩
theorem goes_at (h : ClothAt w p pr lo ke c F G H) (hs : c.snagged = true) (h0 : 0 ≤ c.left) (h1 : c.left ≤ 9223372036854775807) :
    Calls Try.prog 24 #[.pointer (some ⟨p, 0, none⟩)] w fun e w' => e = .returned (.bool (decide (c.left - 1 < 0))) ∧ ClothAt w' p pr lo ke { c with left := c.left - 1 } F G H ∧ Chg [p] w w' := by
  have c3 : w.cell? ⟨p, 3, none⟩ = some (.bool c.snagged) := h.blk.cell 3
  have c4 : w.cell? ⟨p, 4, none⟩ = some (.int .i64 c.left) := h.blk.cell 4
  have f4 := h.blk.frozen 4
  go_enter Try.func24, Try.ntmps24
  go_wp2
  go_ret
  exact ⟨rfl, h.set rfl rfl rfl rfl, (Chg.refl _ _).setCell (by simp) _⟩
end
end Go.Proofs.Ytjbjiomajldkoaa
