/- Journals: slices.Delete of one. -/
import Derived.Test.YtlgfmphjgijilaaJoQ
namespace Go.Proofs.Ytlgfmphjgijilaa
open Go.RowKit Go.Vx
set_option linter.unusedVariables false
set_option linter.unusedSimpArgs false

theorem del_rows {α : Type} (cur xs : List α) {a k L : Nat} (hx : cur.take L = xs) (hl : xs.length = L) (ha : a + k ≤ L) (hL : L ≤ cur.length) {c1 : List α} (h1 : c1 = cur.take a ++ (xs.drop (a + k) ++ cur.drop (a + (L - (a + k))))) :
    c1.take (L - k) = xs.take a ++ xs.drop (a + k) ∧ c1.length = cur.length := by
  have q : c1.length = cur.length := by rw [h1]; simp; omega
  refine ⟨?_, q⟩
  have e : cur.take a = xs.take a := by rw [← hx, List.take_take, Nat.min_eq_left (by omega)]
  rw [h1, e, ← List.append_assoc, List.take_append_of_le_length (by simp [hl]; omega), List.take_of_length_le (by simp [hl]; omega)]
set_option maxRecDepth 100000 in
set_option maxHeartbeats 4000000 in
theorem jb_del {w : World} {g n c i : Nat} {xs : List Value} (hf : Fix w 31 6 (.slice (some ⟨g, 0, none⟩) n c) n xs [g]) (hi : i < n) (hn : n ≤ 1000)
    (hx : ∀ u ∈ xs, u.oneCell' = true) :
    Calls Try.prog 34 #[.slice (some ⟨g, 0, none⟩) n c, .int .i64 i, .int .i64 ((i : Int) + 1)] w fun e w' => e = .returned (.slice (some ⟨g, 0, none⟩) (n - 1) c) ∧ Fix w' 31 6 (.slice (some ⟨g, 0, none⟩) (n - 1) c) (n - 1) (xs.take (i * 6) ++ xs.drop ((i + 1) * 6)) [g] ∧ Chg [g] w w' := by
  obtain ⟨i1, hi1, k0, k1, k2⟩ := info_parts jnInfo
  obtain ⟨A, c', hv, hl, hnc, hcm, h4⟩ := id hf
  injection hv with ha _ hcc
  subst ha hcc
  rcases h4 with ⟨h0, -⟩ | ⟨g', cur, ha, hF, hb, hs, ht⟩
  · omega
  obtain rfl : g = g' := by injection ha with ha; injection ha
  clear ha hF hf
  unfold maxLen at hcm
  obtain ⟨c1, hc1⟩ : ∃ c1, c1 = cur.toList.take (i * 6) ++ (xs.drop ((i + 1) * 6) ++ cur.toList.drop (i * 6 + (xs.drop ((i + 1) * 6)).length)) := ⟨_, rfl⟩
  have hd : (xs.drop ((i + 1) * 6)).length = (n - (i + 1)) * 6 := by rw [List.length_drop, hl]; omega
  have hir := del_rows cur.toList xs (a := i * 6) (k := 6) (L := n * 6) ht hl (by omega) (by simp; omega) (c1 := c1) (by rw [hc1, hd, show (i + 1) * 6 = i * 6 + 6 by omega, show n * 6 - (i * 6 + 6) = (n - (i + 1)) * 6 by omega])
  rw [show i * 6 + 6 = (i + 1) * 6 by omega] at hir
  have hc1s : c1.length = c * 6 := by rw [hir.2]; simpa using hs
  have hap : ∀ ty A cc, (c = i + 1 → cc = 0) → (A = if c = i + 1 then ⟨g, 0, none⟩ else ⟨g, (i + 1) * 6, none⟩) → (Builtin.append_ #[24, 24] ty #[.slice (some ⟨g, 0, none⟩) i c, .slice (some A) (n - (i + 1)) cc]).run Try.prog w.drew = .ok (.slice (some ⟨g, 0, none⟩) (n - 1) c) (w.drew.setRow g c1.toArray) := fun ty A cc _ hA => by
    have h := run_append_room (P := Try.prog) w.drew 24 ty 31 i1 Try.underlying24 hi1 g i c cur hb A (n - (i + 1)) cc (xs.drop ((i + 1) * 6)) (by rw [hd, k1]) (fun j u hu => by
      have hlt := (List.getElem?_eq_some_iff.1 hu).1
      rw [if_neg (by omega)] at hA
      subst hA
      rw [Addr.add_lit, Blk.cell (w := w.drew) hb]
      rw [List.getElem?_drop, ← ht, List.getElem?_take] at hu
      split at hu
      · simpa using hu
      · cases hu) (fun u hu => hx u (List.mem_of_mem_drop hu)) (by omega) (by rw [k1, hd, hs]; omega)
    rw [k1, List.append_assoc, ← hc1, show i + (n - (i + 1)) = n - 1 by omega] at h
    exact h
  have hb1 : Blk (w.drew.setRow g c1.toArray) g 31 c1.toArray := Blk.setRow (w := w.drew) hb _
  have hcl := fun ty cc => run_clear_row (P := Try.prog) (w.drew.setRow g c1.toArray) 24 ty 31 i1 _ Try.underlying24 hi1 k0 6 g ((n - 1) * 6) 1 cc c1.toArray 31 hb1 rfl (by simp [hc1s]; omega) (by omega) (by decide)
  have hout : Fix ((w.drew.setRow g c1.toArray).setRow g (c1.toArray.toList.take ((n - 1) * 6) ++ ((Builtin.zeroCells (Value.agg #[.int .i64 0, .int .i64 0, .int .i64 0, .string ⟨#[]⟩, .slice none 0 0, .bool false]).cells 1).toList ++ c1.toArray.toList.drop ((n - 1) * 6 + 1 * 6))).toArray) 31 6 (.slice (some ⟨g, 0, none⟩) (n - 1) c) (n - 1) (xs.take (i * 6) ++ xs.drop ((i + 1) * 6)) [g] := by
    refine ⟨_, c, rfl, by rw [List.length_append, List.length_take, hd, hl]; omega, by omega, by unfold maxLen; omega, .inr ⟨g, _, rfl, rfl, Blk.setRow hb1 _, ?_, ?_⟩⟩
    · simp [size_zeroCells, hc1s]
      rw [show (Value.agg #[.int .i64 0, .int .i64 0, .int .i64 0, .string ⟨#[]⟩, .slice none 0 0, .bool false]).cells.size = 6 from rfl]
      omega
    · rw [← hir.1, show n * 6 - 6 = (n - 1) * 6 by omega]
      simp only [List.toList_toArray]
      rw [List.take_append_of_le_length (by simp [hc1s]; omega), List.take_take, Nat.min_self]
  have hzz : Chg [g] w ((w.drew.setRow g c1.toArray).setRow g (c1.toArray.toList.take ((n - 1) * 6) ++ ((Builtin.zeroCells (Value.agg #[.int .i64 0, .int .i64 0, .int .i64 0, .string ⟨#[]⟩, .slice none 0 0, .bool false]).cells 1).toList ++ c1.toArray.toList.drop ((n - 1) * 6 + 1 * 6))).toArray) := ((Chg.refl [g] w).drew.setRow (.inl (by simp)) _).setRow (.inl (by simp)) _
  generalize (w.drew.setRow g c1.toArray).setRow g (c1.toArray.toList.take ((n - 1) * 6) ++ ((Builtin.zeroCells (Value.agg #[.int .i64 0, .int .i64 0, .int .i64 0, .string ⟨#[]⟩, .slice none 0 0, .bool false]).cells 1).toList ++ c1.toArray.toList.drop ((n - 1) * 6 + 1 * 6))).toArray = WE at hout hzz hcl
  have e1 : ¬ (i : Int) = (i : Int) + 1 := by omega
  have e2 : (i : Int) + 1 ≤ n := by omega
  have e3 : ((i : Int) + 1).toNat = i + 1 := by omega
  have e4 : (0 : Int) ≤ (i : Int) + 1 := by omega
  have e5 : i + 1 ≤ n := by omega
  have e6 : i ≤ n := by omega
  have e7 : i + 1 ≤ c := by omega
  have e8 : i ≤ c := by omega
  have e9 : n - 1 ≤ c := by omega
  have e10 : n - 1 ≤ n := by omega
  have e11 : ¬ c = n - 1 := by omega
  have e12 : n - (n - 1) = 1 := by omega
  have e13 : ((n - 1 : Nat) : Int) ≤ n := by omega
  have e14 : (i : Int) ≤ (i : Int) + 1 := by omega
  have hl2 := Lib.hid hl
  have hout2 := Lib.hid hout
  have hzz2 := Lib.hid hzz
  clear hir hl hs ht hc1 hx hd k0 k1 k2 hi1 hout hzz hb1 hc1s
  by_cases hci : c = i + 1
  · have hap1 := fun ty => hap ty ⟨g, 0, none⟩ 0 (fun _ => rfl) (by rw [if_pos hci])
    obtain rfl : n = i + 1 := by omega
    clear hap
    simp only [Nat.sub_self, Nat.add_sub_cancel] at hap1 hcl hout2 hzz2 ⊢
    subst hci
    go_enter Try.func34, Try.ntmps34
    go_wp2_with fail
    go_region_law (refine step_append_eq rfl _ _ 24 24 rfl _ _ (by simp [Act.eval, Act.put]) (by simp [Act.eval, Act.put]) (hap1 _) ?_)
    go_wp2_with (at_builtin; refine wpList_clear_eq _ rfl _ 24 rfl _ rfl (hcl _ _) ?_)
    go_ret
    exact ⟨rfl, hout2.out, hzz2.out⟩
  · have hap1 := fun ty => hap ty ⟨g, (i + 1) * 6, none⟩ (c - (i + 1)) (fun h => absurd h hci) (by rw [if_neg hci])
    clear hap
    go_enter Try.func34, Try.ntmps34
    go_wp2_with fail
    go_region_law (refine step_append_eq rfl _ _ 24 24 rfl _ _ (by simp [Act.eval, Act.put]) (by simp [Act.eval, Act.put]) (hap1 _) ?_)
    go_wp2_with (at_builtin; refine wpList_clear_eq _ rfl _ 24 rfl _ rfl (hcl _ _) ?_)
    go_ret
    exact ⟨rfl, hout2.out, hzz2.out⟩
end Go.Proofs.Ytlgfmphjgijilaa
