/- The agenda's heap: Less. -/
import Derived.Test.YtkpegffoebmhmaaSlotM
import Derived.Deep.QuietTactic
namespace Go.Proofs.Ytkpegffoebmhmaa
open Go.RowKit Go.Vx
set_option linter.unusedVariables false
set_option linter.unusedSimpArgs false

set_option maxRecDepth 8000 in
set_option maxHeartbeats 4000000 in
theorem sl_less {w : World} {v : Value} {l : List Slot} {F : List Nat} (h : Fix w 51 4 v l.length (l.flatMap slEnc) F) {i k : Nat} (hi : i < l.length) (hk : k < l.length) (hl : l.length ≤ 1000000) :
    Calls Try.prog 40 #[v, .int .i64 i, .int .i64 k] w fun e w' => e = .returned (.bool (slLt (nth l i) (nth l k))) ∧ Chg [] w w' := by
  obtain ⟨g, c, rfl, rfl, hci⟩ := h.elem encLen (by omega) hi
  obtain ⟨g', c', hv, hF, hck⟩ := h.elem encLen (by omega) hk
  obtain rfl : g = g' := by simpa using hF
  have i0 := (hci 0 (by omega)).1
  have i1 := (hci 1 (by omega)).1
  have i2 := (hci 2 (by omega)).1
  have i3 := (hci 3 (by omega)).1
  have k0 := (hck 0 (by omega)).1
  have k1 := (hck 1 (by omega)).1
  have k2 := (hck 2 (by omega)).1
  have k3 := (hck 3 (by omega)).1
  simp only [slEnc, List.getElem?_cons_zero, List.getElem?_cons_succ, Nat.add_zero] at i0 i1 i2 i3 k0 k1 k2 k3
  have hb := sl_before (nth l i) (nth l k)
  generalize slLt (nth l i) (nth l k) = b at *
  generalize nth l i = x at *
  generalize nth l k = y at *
  generalize l.length = n at *
  clear hci hck h hv hF
  go_enter Try.func40, Try.ntmps40
  go_wp2_with fail
  go_region_law (go_simp; go_at_call 42; refine (hb _).mono ?_; rintro e w' ⟨rfl, hc⟩)
  all_goals
    go_wp2_with fail
    go_ret
    exact ⟨by trivial, (Chg.refl _ _).drew.trans' hc⟩
end Go.Proofs.Ytkpegffoebmhmaa
