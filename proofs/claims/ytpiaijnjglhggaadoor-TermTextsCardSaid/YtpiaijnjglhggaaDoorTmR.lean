/- Parse: strings.Cut, strconv.Atoi under what the row lists. -/
import Derived.Test.YtpiaijnjglhggaaDoorTmQ
import Derived.Test.YtpiaijnjglhggaaDoorShelfB
import Derived.Lib.AtoiErrMem
namespace Go.Proofs.YtpiaijnjglhggaaDoor
open Go.RowKit Go.Vx
set_option linter.unusedVariables false
set_option linter.unusedSimpArgs false

/-- The library's two errors are laid. -/
def Errs (w : World) : Prop := (∃ tp p, w.cell? ⟨1, 0, none⟩ = some (.iface tp p)) ∧ ∃ tp p, w.cell? ⟨2, 0, none⟩ = some (.iface tp p)
theorem Errs.chg {w w' : World} (h : Errs w) (k : Chg [] w w') : Errs w' := by
  obtain ⟨⟨t, p, h1⟩, t2, p2, h2⟩ := h
  refine ⟨⟨t, p, ?_⟩, t2, p2, ?_⟩
  · rw [k.cell (World.block_lt_of_cell? w _ h1) (by simp)]
    exact h1
  · rw [k.cell (World.block_lt_of_cell? w _ h2) (by simp)]
    exact h2
theorem chg_bytes {w w' : World} (h : w' = w ∨ ∃ t, w' = Lib.bytesWorld w 5 t) : Chg [] w w' := by
  rcases h with rfl | ⟨t, rfl⟩
  · exact Chg.refl _ _
  · exact .of_below (Lib.bytesWorld_below _ _ _)
theorem tm_atoi_ok {s : ByteArray} (hs : s.size ≤ 1000) {v : Int} (h : Lib.atoiAll s.data.toList = .ok v) (w : World) :
    Calls Tryd.prog 23 #[.string s] w fun e w' => e = .returned (.tuple #[.int .i64 v, .nilIface]) ∧ Chg [] w w' :=
  (Tryd.strconv_Atoi_ok s (by omega) v h w).mono fun e w' h => ⟨h.1, chg_bytes h.2⟩
theorem tm_atoi_bad {s : ByteArray} (hs : s.size ≤ 1000) {w : World} (he : Errs w) (h : ∀ v, Lib.atoiAll s.data.toList ≠ .ok v) :
    Calls Tryd.prog 23 #[.string s] w fun e w' => ∃ v T N, e = .returned (.tuple #[.int .i64 v, .iface T (.pointer (some ⟨N, 0, none⟩))]) ∧ Chg [] w w' := by
  obtain ⟨⟨t, p, h1⟩, t2, p2, h2⟩ := he
  cases hx : Lib.atoiAll s.data.toList with
  | ok v => exact absurd hx (h v)
  | _ => first
    | exact (Any.strconv_Atoi_syntax Tryd.laysC172 s (by omega) hx (.iface t p) w h1 (.inr ⟨t, p, rfl⟩)).mono fun e w' ⟨N, e1, _, _, hb⟩ => ⟨_, _, N, e1, .of_below hb⟩
    | exact (Any.strconv_Atoi_range Tryd.laysC172 s (by omega) hx (.iface t2 p2) w h2 (.inr ⟨t2, p2, rfl⟩)).mono fun e w' ⟨N, e1, _, _, hb⟩ => ⟨_, _, N, e1, .of_below hb⟩
end Go.Proofs.YtpiaijnjglhggaaDoor
