/- Lineage: alive. -/
import Derived.Test.YtaabkapjdmceaaaLnM
namespace Go.Proofs.Ytaabkapjdmceaaa
open Go.RowKit Go.Vx Go.Maps Go.Sort
set_option linter.unusedVariables false
set_option linter.unusedSimpArgs false

def bAnn : ByteArray := ⟨#[97, 110, 110]⟩
def bBob : ByteArray := ⟨#[98, 111, 98]⟩
def C1 : Lin0 := [⟨1, [], 0, ⟨#[97, 110, 110]⟩⟩]
def C2 : Lin0 := [⟨1, [], 0, ⟨#[97, 110, 110]⟩⟩, ⟨2, [1], 0, ⟨#[97, 110, 110]⟩⟩]
def C3 : Lin0 := [⟨1, [], 0, ⟨#[97, 110, 110]⟩⟩, ⟨2, [1], 0, ⟨#[97, 110, 110]⟩⟩, ⟨2, [1], 0, ⟨#[98, 111, 98]⟩⟩]
def C4 : Lin0 := [⟨1, [], 0, ⟨#[97, 110, 110]⟩⟩, ⟨2, [1], 0, ⟨#[97, 110, 110]⟩⟩, ⟨2, [1], 0, ⟨#[98, 111, 98]⟩⟩, ⟨3, [2, 3], 0, ⟨#[98, 111, 98]⟩⟩]
theorem c1_add : addC [] 0 ⟨#[97, 110, 110]⟩ [] = C1 := rfl
theorem c2_add : addC C1 0 ⟨#[97, 110, 110]⟩ [1] = C2 := rfl
theorem c3_add : addC C2 0 ⟨#[98, 111, 98]⟩ [1] = C3 := rfl
theorem c4_add : addC C3 0 ⟨#[98, 111, 98]⟩ [2, 3] = C4 := rfl
theorem c4_hist : hist C4 [4] = [4, 3, 2, 1] := by decide +kernel
theorem c4_base : bestL C4 (basesL C4 2 3) = some 1 := by decide +kernel
set_option maxRecDepth 100000 in
set_option maxHeartbeats 4000000 in
theorem ln_alive (w : World) : Calls Try.prog 7 #[] w fun e w' => e = .returned (.bool true) ∧ Chg [] w w' := by
  go_enter Try.func7, Try.ntmps7
  go_wp2_with fail
  have h0 := LnNew.start w (Chg.refl [] w)
  generalize w.alloc (.cells #[.slice none 0 0] 26) = wa at *
  generalize w.heap.size = lp at *
  refine (h0.addTo (Fix.nil wa 3 1) (l := []) 0 ⟨#[97, 110, 110]⟩ (by decide) (by omega) (by decide) (by decide) (by omega) (by simp) (by simp) (k := 1) rfl c1_add).mono ?_
  rintro e w1 ⟨rfl, h1⟩
  go_wp2_with fail
  refine (LnNew.addTo (h1.keep ((Chg.refl [] w1).alloc _)) (Fix.lit1 w1 3 (.int .i64 (1 : Nat))) (l := [1]) 0 ⟨#[97, 110, 110]⟩ (by decide) (by omega) (by decide) (by decide) (by omega) (by simp) (by decide) (k := 2) rfl c2_add).mono ?_
  rintro e w2 ⟨rfl, h2⟩
  go_wp2_with fail
  refine (LnNew.addTo (h2.keep ((Chg.refl [] w2).alloc _)) (Fix.lit1 w2 3 (.int .i64 (1 : Nat))) (l := [1]) 0 ⟨#[98, 111, 98]⟩ (by decide) (by omega) (by decide) (by decide) (by omega) (by simp) (by decide) (k := 3) rfl c3_add).mono ?_
  rintro e w3 ⟨rfl, h3⟩
  go_wp2_with fail
  refine (LnNew.addTo (h3.keep ((Chg.refl [] w3).alloc _)) (Fix.lit2 w3 3 (.int .i64 (2 : Nat)) (.int .i64 (3 : Nat))) (l := [2, 3]) 0 ⟨#[98, 111, 98]⟩ (by decide) (by omega) (by decide) (by decide) (by omega) (by simp) (by decide) (k := 4) rfl c4_add).mono ?_
  rintro e w4 ⟨rfl, h4⟩
  go_wp2_with fail
  have hb := h4.base (by decide) 2 3
  rw [show (2 : Int).toNat = 2 from rfl, show (3 : Int).toNat = 3 from rfl, c4_base] at hb
  refine hb.mono ?_
  rintro e w5 ⟨rfl, hz5⟩
  replace h4 := h4.keep hz5
  go_wp2_with fail
  have hh := (h4.keep ((Chg.refl [] w5).alloc (.cells #[.int .i64 4] 3))).history (by decide) (l := [4]) (Src.one1 rfl) (by omega) (c := 1)
  rw [show ([4] : List Int).map Int.toNat = [4] from rfl, c4_hist] at hh
  refine hh.mono ?_
  rintro e w6 ⟨v, F, rfl, hf, -, hz6⟩
  obtain ⟨A, c, rfl, -⟩ := _root_.id hf
  replace h4 := (h4.keep ((Chg.refl [] w5).alloc (.cells #[.int .i64 4] 3))).keep hz6
  have hs := ln_same (l := [4, 3, 2, 1]) (c := c) (d := 4) (Fix.src (hf.alloc (.cells #[.int .i64 4, .int .i64 3, .int .i64 2, .int .i64 1] 3))) (Src.lit (m := 4) rfl rfl) (by decide)
  go_wp2_with fail
  refine hs.mono ?_
  rintro e w7 ⟨rfl, hz7⟩
  replace h4 := (h4.keep ((Chg.refl [] w6).alloc _)).keep hz7
  have hl := h4.len
  rw [show C4.length = 4 from rfl] at hl
  go_wp2_with fail
  refine hl.mono ?_
  rintro e w8 ⟨rfl, rfl⟩
  go_wp2_with fail
  go_ret
  exact ⟨rfl, h4.chg⟩
end Go.Proofs.Ytaabkapjdmceaaa
