/- Lists of ints that are lent: copied, with a mark behind them. -/
import Derived.Test.YtlkmdmaemjfelaaProg
import Derived.Test.YtlkmdmaemjfelaaRows2
import Derived.Test.YtlkmdmaemjfelaaOpen
import Derived.Test.YtlkmdmaemjfelaaHeapAt
import Derived.Deep.RegionLaw
import Derived.Deep.QuietTactic
import Derived.Laws.Slices
namespace Go.Proofs.Ytlkmdmaemjfelaa
open Go.RowKit Go.Vx
set_option linter.unusedVariables false
set_option linter.unusedSimpArgs false

theorem _root_.Go.Vx.Fix.one_at' {w : World} {e : TypeId} {B n c : Nat} {xs : List Value} (h : Fix w e 1 (.slice (some ⟨B, 0, none⟩) n c) n xs [B]) {k : Nat} (hk : k < n) : ∃ u, xs[k]? = some u ∧ w.cell? ⟨B, k, none⟩ = some u ∧ w.frozen? ⟨B, k, none⟩ = false := by
  have hl : xs.length = n := by obtain ⟨_, _, _, h1, _⟩ := id h; simpa using h1
  obtain ⟨g, _, e1, _, _, e2, e3, e4⟩ := h.at_ (k := k) (j := 0) hk (by omega)
  obtain rfl : B = g := by simpa using e2
  rw [Nat.mul_one, Nat.add_zero] at e3 e4
  exact ⟨xs[k]'(by omega), List.getElem?_eq_getElem (by omega), by rw [e3, List.getElem?_eq_getElem (by omega)], e4⟩
theorem bkInt : (Try.prog.info? 3).map (fun i => (i.zero, i.size, i.bytes)) = some (some (.int .i64 0), 1, 8) := by kernel_rfl
theorem oneInts (l : List Int) : ∀ u ∈ l.map (Value.int .i64), u.oneCell' = true := fun u hu => by
  obtain ⟨x, -, rfl⟩ := List.mem_map.1 hu
  rfl
theorem bk_copyInts {w : World} {A : Option Addr} {n c : Nat} {l : List Int} (hs : Src w 1 A n (l.map (Value.int .i64))) (hn : n ≤ 1000000) :
    Calls Try.prog 23 #[.slice A n c] w fun e w' => ∃ v F, e = .returned v ∧ Fix w' 3 1 v n (l.map (Value.int .i64)) F ∧ (∀ g, g ∈ F → w.heap.size ≤ g) ∧ Chg [] w w' := by
  obtain ⟨i0, hi, j0, j1, j2⟩ := info_parts bkInt
  go_enter Try.func23, Try.ntmps23
  go_wp2_with (at_builtin; refine wpList_append_fix rfl _ _ 22 rfl Try.underlying22 hi j0 j1 j2 rfl (by omega) (n := 0) (xs := []) (F := []) rfl (Fix.nil _ _ _) rfl hs (oneInts l) (by unfold maxLen; omega) (by omega) ?_; intro v' w1 F1 ha)
  go_ret
  refine ⟨v', F1, rfl, ?_, ?_, ha.chg⟩
  · have := ha.fix
    rwa [Nat.zero_add, List.nil_append] at this
  · intro g hg
    rcases ha.foot with e | e <;> rw [e] at hg <;> simp at hg
    omega
theorem fix_cap {w : World} {e : TypeId} {size n k : Nat} {A : Option Addr} {xs : List Value} {F : List Nat} (h : Fix w e size (.slice A n k) n xs F) : n ≤ k ∧ k ≤ maxLen := by
  obtain ⟨_, _, e, _, h1, h2, _⟩ := h
  injection e with _ _ e
  subst e
  exact ⟨h1, h2⟩
/-- What LentInts gives: the list, a mark behind it. -/
def Lent (w : World) (v : Value) (n : Nat) (l : List Int) (g : Nat) : Prop :=
  ∃ c, v = .slice (some ⟨g, 0, none⟩) n c ∧ n + 1 ≤ c ∧ c ≤ maxLen ∧ Fix w 3 1 (.slice (some ⟨g, 0, none⟩) (n + 1) c) (n + 1) ((l ++ [-77]).map (Value.int .i64)) [g]
theorem Lent.chg {w w' : World} {v : Value} {n g : Nat} {l : List Int} {S : List Nat} (h : Lent w v n l g) (k : Chg S w w') (hd : g ∉ S) : Lent w' v n l g := by
  obtain ⟨c, h1, h2, h3, h4⟩ := h
  exact ⟨c, h1, h2, h3, h4.chg k (by simpa using hd)⟩
theorem Lent.fix {w : World} {v : Value} {n g : Nat} {l : List Int} (h : Lent w v n l g) (hl : l.length = n) : ∃ c, v = .slice (some ⟨g, 0, none⟩) n c ∧ Fix w 3 1 v n (l.map (Value.int .i64)) [g] := by
  obtain ⟨c, rfl, h2, h3, h4⟩ := h
  refine ⟨c, rfl, ?_⟩
  have := h4.shorter (m := n) (by omega)
  rwa [Nat.mul_one, List.map_append, List.take_left' (by simpa using hl)] at this
set_option maxRecDepth 8000 in
set_option maxHeartbeats 1000000 in
theorem bk_lentInts {w : World} {A : Option Addr} {n c : Nat} {l : List Int} (hs : Src w 1 A n (l.map (Value.int .i64))) (hn : n ≤ 1000) :
    Calls Try.prog 11 #[.slice A n c] w fun e w' => ∃ v g, e = .returned v ∧ Lent w' v n l g ∧ w.heap.size ≤ g ∧ Chg [] w w' := by
  obtain ⟨i0, hi, j0, j1, j2⟩ := info_parts bkInt
  go_enter Try.func11, Try.ntmps11
  go_wp2_with fail
  refine (bk_copyInts hs (by omega)).mono ?_
  rintro e w1 ⟨v, F, rfl, hf, hF, hc⟩
  dsimp only
  go_wp2_with (at_builtin; refine wpList_append_fix rfl _ _ 22 rfl Try.underlying22 hi j0 j1 j2 rfl (by omega) rfl (hf.alloc _) rfl (Src.one1 rfl) (by simp [Value.oneCell']) (by unfold maxLen; omega) (by omega) ?_; intro v' w2 F1 ha; obtain ⟨g, k, rfl, rfl⟩ := ha.head (by omega); obtain ⟨hk, hkm⟩ := fix_cap ha.fix; have hk2 : n ≤ k := by omega)
  go_ret
  refine ⟨_, g, rfl, ⟨k, rfl, hk, hkm, ?_⟩, ?_, (hc.alloc _).trans ha.chg (fun g hg => .inr (hF g hg))⟩
  · have := ha.fix
    rwa [show (l.map (Value.int .i64)) ++ [Value.int .i64 (-77)] = (l ++ [-77]).map (Value.int .i64) by simp] at this
  · rcases ha.foot with e | e
    · exact hF g (by rw [← e]; simp)
    · have := hc.size
      simp at e
      omega
set_option maxRecDepth 8000 in
set_option maxHeartbeats 1000000 in
theorem bk_sameInts {w : World} {A B : Option Addr} {n c d : Nat} {l : List Int} (h1 : Src w 1 A n (l.map (Value.int .i64))) (h2 : Src w 1 B n (l.map (Value.int .i64))) (hn : n ≤ 1000000) :
    Calls Try.prog 15 #[.slice A n c, .slice B n d] w fun e w' => e = .returned (.bool true) ∧ Chg [] w w' := by
  have hl : l.length = n := by have := h1.1; simpa using this
  replace hl := Lib.hid hl
  go_enter Try.func15, Try.ntmps15
  go_wp2_with fail
  go_loopw [5] (fun iv wr => ∃ k : Nat, k ≤ n ∧ iv = .int .i64 k ∧ Chg [] w wr) (fun iv _ => n - (intOf iv).toNat)
  case atStart => exact ⟨0, by omega, rfl, Chg.refl _ _⟩
  case round =>
    obtain ⟨k, hk, rfl, hc⟩ := hrel
    by_cases hlt : k < n
    · obtain ⟨a, rfl, c1⟩ := (h1.chg hc (by simp)).2 (by omega)
      obtain ⟨b, rfl, c2⟩ := (h2.chg hc (by simp)).2 (by omega)
      have d1 := c1 k (.int .i64 (l[k]'(by rw [hl.out]; exact hlt))) (by simp [hl.out, hlt])
      have d2 := c2 k (.int .i64 (l[k]'(by rw [hl.out]; exact hlt))) (by simp [hl.out, hlt])
      clear c1 c2
      generalize l[k]'(by rw [hl.out]; exact hlt) = x at *
      go_wp2_with fail
      go_quiet (fail)
      go_wp2_with fail
      go_roundw
      case measure => simp [intOf]; omega
      case rel => exact ⟨k + 1, by omega, by go_num, hc.drewN _⟩
    · obtain rfl : k = n := by omega
      go_wp2_with fail
      go_ret
      exact ⟨by trivial, hc⟩
set_option maxRecDepth 8000 in
set_option maxHeartbeats 1000000 in
theorem bk_staysInts {w : World} {v : Value} {B : Option Addr} {n d g : Nat} {l : List Int} (h1 : Lent w v n l g) (h2 : Src w 1 B n (l.map (Value.int .i64))) (hn : n ≤ 1000) :
    Calls Try.prog 16 #[v, .slice B n d] w fun e w' => e = .returned (.bool true) ∧ Chg [] w w' := by
  have hl : l.length = n := by have := h2.1; simpa using this
  obtain ⟨k, rfl, hk, hkm, hf⟩ := h1
  obtain ⟨u, hu, d0, -⟩ := hf.one_at' (k := n) (by omega)
  rw [List.getElem?_map, List.getElem?_append_right (by omega), hl] at hu
  simp at hu
  subst hu
  have hs1 : Src w 1 (some ⟨g, 0, none⟩) n (l.map (Value.int .i64)) := by
    have := hf.shorter (m := n) (by omega)
    rw [Nat.mul_one, List.map_append, List.take_left' (by simpa using hl)] at this
    exact this.src
  have hlt := hf.lt g (by simp)
  have hsm := bk_sameInts (c := k) (d := d) hs1 h2 (by omega)
  have hd : ∀ w1, Chg [] w w1 → w1.cell? ⟨g, n, none⟩ = some (.int .i64 (-77)) := fun w1 hc => by rw [hc.cell hlt (by simp), d0]
  clear d0
  go_enter Try.func16, Try.ntmps16
  go_wp2_with (go_at_call 15; refine hsm.mono ?_; rintro e w1 ⟨rfl, hc⟩; have d0 := hd w1 hc; clear hd)
  go_ret
  exact ⟨by trivial, hc⟩
end Go.Proofs.Ytlkmdmaemjfelaa
