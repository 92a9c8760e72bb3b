/- Lists that are kept: the kind Ints: copies, comparison, marks. -/
import Derived.Test.YtpiaijnjglhggaaGreatDoorProg
import Derived.Test.YtpiaijnjglhggaaGreatDoorBkA
import Derived.Test.YtpiaijnjglhggaaGreatDoorHeapAt
import Derived.Deep.RegionLaw
import Derived.Deep.QuietTactic
import Derived.Laws.Slices
namespace Go.Proofs.YtpiaijnjglhggaaGreatDoor
open Go.RowKit Go.Vx
set_option linter.unusedVariables false
set_option linter.unusedSimpArgs false

theorem bkInfoInts : (Tryz.prog.info? 3).map (fun i => (i.zero, i.size, i.bytes)) = some (some (.int .i64 0), 1, 8) := by kernel_rfl
def mkInts (i k : Nat) : List Value := [.int .i64 (-1000000 * (i : Int) - (k : Int) - 7)]
theorem mkInts_len (i k : Nat) : (mkInts i k).length = 1 := rfl
theorem mkInts_one (i k : Nat) : ∀ u ∈ mkInts i k, u.oneCell' = true := by simp [mkInts, Value.oneCell']
theorem bkc_copyInts {w : World} {A : Option Addr} {n c : Nat} {xs : List Value} (hs : Src w 1 A n xs) (h1 : ∀ u ∈ xs, u.oneCell' = true) (hn : n ≤ 1000000) :
    Calls Tryz.prog 15 #[.slice A n c] w fun e w' => ∃ v F, e = .returned v ∧ Fix w' 3 1 v n xs F ∧ (∀ g, g ∈ F → w.heap.size ≤ g) ∧ Chg [] w w' := by
  obtain ⟨i0, hi, j0, j1, j2⟩ := info_parts bkInfoInts
  go_enter Tryz.func15, Tryz.ntmps15
  go_wp2_with (at_builtin; refine wpList_append_fix rfl _ _ 36 rfl Tryz.underlying36 hi j0 j1 j2 rfl (by omega) (n := 0) (xs := []) (F := []) rfl (Fix.nil _ _ _) rfl hs h1 (by unfold maxLen; omega) (by omega) ?_; intro v' w1 F1 ha)
  go_ret
  refine ⟨v', F1, rfl, ?_, ?_, ha.chg⟩
  · have := ha.fix
    rwa [Nat.zero_add, List.nil_append] at this
  · intro g hg
    rcases ha.foot with e | e <;> rw [e] at hg <;> simp at hg
    omega
/-- Two lists with the same cells (each a int) are alike. -/
def ElInts (xs : List Value) : Prop := ∀ (k : Nat) (u : Value), xs[k]? = some u → ∃ x, u = Value.int .i64 x
theorem ElInts.mk (i n from_ : Nat) : ElInts (marks mkInts i from_ n) := fun k u hu => by
  have hm := List.mem_of_getElem? hu
  unfold marks at hm
  obtain ⟨j, -, hj⟩ := List.mem_flatMap.1 hm
  simp [mkInts] at hj
  exact ⟨_, hj⟩
set_option maxRecDepth 8000 in
set_option maxHeartbeats 1000000 in
theorem bkc_sameInts {w : World} {A B : Option Addr} {n c d : Nat} {xs : List Value} (h1 : Src w 1 A n xs) (h2 : Src w 1 B n xs) (hx : ElInts xs) (hn : n ≤ 1000000) :
    Calls Tryz.prog 60 #[.slice A n c, .slice B n d] w fun e w' => e = .returned (.bool true) ∧ ∃ m, w' = w.drewN m := by
  have hl : xs.length = n := by have := h1.1; simpa using this
  replace hl := Lib.hid hl
  replace hx := Lib.hid hx
  go_enter Tryz.func60, Tryz.ntmps60
  go_wp2_with fail
  go_loopw [5] (fun iv wr => ∃ k m : Nat, k ≤ n ∧ iv = .int .i64 k ∧ wr = w.drewN m) (fun iv _ => n - (intOf iv).toNat)
  case atStart => exact ⟨0, 0, by omega, rfl, rfl⟩
  case round =>
    obtain ⟨k, m, hk, rfl, rfl⟩ := hrel
    by_cases hlt : k < n
    · obtain ⟨a, rfl, c1⟩ := h1.2 (by omega)
      obtain ⟨b, rfl, c2⟩ := h2.2 (by omega)
      have hlk : k < xs.length := by rw [hl.out]; exact hlt
      obtain ⟨x, hxe⟩ := hx.out k xs[k] (List.getElem?_eq_getElem hlk)
      have d1 := c1 k xs[k] (List.getElem?_eq_getElem hlk)
      have d2 := c2 k xs[k] (List.getElem?_eq_getElem hlk)
      rw [hxe] at d1 d2
      clear c1 c2 hxe hlk
      go_wp2_with fail
      go_quiet (fail)
      go_wp2_with fail
      go_roundw
      case measure => simp [intOf]; omega
      case rel => exact ⟨k + 1, _, by omega, by go_num, rfl⟩
    · obtain rfl : k = n := by omega
      go_wp2_with fail
      go_ret
      exact ⟨by trivial, m, rfl⟩
set_option maxRecDepth 8000 in
set_option maxHeartbeats 1000000 in
theorem bkc_markInts (i f n : Nat) (hi0 : i ≤ 1000) (hf0 : f + n ≤ 200000) (w : World) :
    Calls Tryz.prog 72 #[.int .i64 i, .int .i64 f, .int .i64 n] w fun e w' => ∃ v F, e = .returned v ∧ Fix w' 3 1 v n (marks mkInts i f n) F ∧ (∀ g, g ∈ F → w.heap.size ≤ g) ∧ Chg [] w w' := by
  obtain ⟨i0, hi, j0, j1, j2⟩ := info_parts bkInfoInts
  go_enter Tryz.func72, Tryz.ntmps72
  go_wp2_with fail
  go_loopw [7, 8] (fun ov kv wr => ∃ (j : Nat) (F : List Nat), j ≤ n ∧ kv = .int .i64 (f + j : Nat) ∧ Fix wr 3 1 ov j (marks mkInts i f j) F ∧ (∀ g, g ∈ F → w.heap.size ≤ g) ∧ Chg [] w wr) (fun _ kv _ => f + n - (intOf kv).toNat)
  case atStart => exact ⟨0, [], by omega, rfl, Fix.nil _ _ _, by simp, Chg.refl _ _⟩
  case round =>
    obtain ⟨j, F, hj, rfl, hfx, hF, hc⟩ := hrel
    have hlt := hfx.lt
    obtain ⟨A, c, rfl, -⟩ := id hfx
    by_cases h : j < n
    · have hms := Lib.hid (marks_succ mkInts i f j)
      have hone := mkInts_one i (f + j)
      have b1 : ((f + j : Nat) : Int) < (f : Int) + (n : Int) := by omega
      generalize hu : f + j = u at *
      replace hu := Lib.hid hu
      have hub : u ≤ 200000 := by have := hu.out; omega

      go_wp2_with (at_builtin; refine wpList_append_fix rfl _ _ 36 rfl Tryz.underlying36 hi j0 j1 j2 rfl (by omega) rfl (hfx.alloc _) rfl (news := mkInts i u) (Src.one1 rfl) hone (by unfold maxLen; omega) (by omega) ?_; intro v' w1 F1 ha; obtain ⟨g1, k1, rfl, rfl⟩ := ha.head (by omega))
      have hfx2 := ha.fix
      rw [← hms.out] at hfx2
      have hF2 : ∀ g, g ∈ [g1] → w.heap.size ≤ g := by
        intro g hg
        have := hc.size
        rcases ha.foot with e | e
        · exact hF g (by rw [← e]; exact hg)
        · rw [e] at hg; simp at hg; omega
      have hc2 := (hc.alloc (.cells (mkInts i u).toArray 3)).trans ha.chg (fun g hg => .inr (hF g hg))
      clear ha hms hone
      have hu2 := hu.out
      go_roundw
      case measure => simp [intOf]; omega
      case rel => exact ⟨j + 1, [g1], by omega, by go_num, hfx2, hF2, hc2⟩
    · obtain rfl : j = n := by omega
      go_wp2_with fail
      go_ret
      exact ⟨_, F, rfl, hfx, hF, hc⟩
end Go.Proofs.YtpiaijnjglhggaaGreatDoor
