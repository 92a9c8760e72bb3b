/- Do, the snag; and all kinds. -/
import Derived.Test.YtjbjiomajldkoaaClothDp
namespace Go.Proofs.Ytjbjiomajldkoaa
open Go.RowKit Go.Vx
set_option linter.unusedVariables false
set_option linter.unusedSimpArgs false

theorem Fix.head {w : World} {e : TypeId} {A : Option Addr} {n m c : Nat} {xs : List Value} {F : List Nat} (h : Fix w e 1 (.slice A n c) n xs F) (hm : m ≤ n) : Fix w e 1 (.slice A m c) m (xs.take m) F := by
  obtain ⟨A', c', hv, h1, h2, h3, h4⟩ := h
  injection hv with ha _ hc
  subst ha hc
  refine ⟨_, _, rfl, by simp; omega, by omega, h3, ?_⟩
  rcases h4 with h4 | ⟨g, cur, ha, hf, hb, hs, ht⟩
  · exact .inl h4
  · refine .inr ⟨g, cur, ha, hf, hb, hs, ?_⟩
    rw [← ht, List.take_take]
    congr 1
    omega
section
variable {w w' : World} {p q : Nat} {c : ClothS} {S T F : List Nat}
theorem csnag (h : Cl w p c S) (n : Int) {A : Option Addr} {m k : Nat} {keep : List Bool} (hs : Src w 1 A m (keep.map .bool)) (hm : m ≤ 1000000) :
    Calls Try.prog 16 #[.pointer (some ⟨p, 0, none⟩), .int .i64 n, .slice A m k] w (CPost w S p (.tuple #[]) (c.snag n keep)) := by
  obtain ⟨pr, lo, ke, F, G, H, h, rfl⟩ := h
  refine (snag_at h n hs hm).mono ?_
  rintro e w' ⟨lo', ke', G', H', rfl, h', hw, hG, hH⟩
  refine ⟨_, rfl, ⟨pr, lo', ke', F, G', H', h', rfl⟩, hw.mono (by simp), ?_⟩
  intro g hg
  simp only [List.mem_cons, List.mem_append] at hg ⊢
  rcases hg with hg | (hg | hg) | hg
  · simp [hg]
  · simp [hg]
  · rcases hG g hg with h | h <;> simp [h]
  · rcases hH g hg with h | h <;> simp [h]
theorem rsnag' (h : Ref w q c T) (n : Int) {A : Option Addr} {m k : Nat} {keep : List Bool} (hs : Src w 1 A m (keep.map .bool)) (hm : m ≤ 1000000) :
    Calls Try.prog 36 #[.pointer (some ⟨q, 0, none⟩), .int .i64 n, .slice A m k] w (RefPost w T q (.tuple #[]) (c.snag n keep)) := by
  obtain ⟨now, last, lo, ke, n', kl, Fn, Fl, G, H, h, rfl⟩ := h
  exact rsnag h n hs hm
set_option maxHeartbeats 8000000 in
theorem do5 {k : Nat} (h : Pair w p q c S T) (n : Int) (s : ByteArray) (A : Option Addr) (len cap : Nat) (keep : List Bool) (osrc : Src w 1 A len (keep.map .bool)) (hl : len ≤ 60) (hA : 0 < len → ∀ ad, A = some ad → ad.block ∉ S ++ T) :
    Calls Try.prog 21 #[.pointer (some ⟨p, 0, none⟩), .pointer (some ⟨q, 0, none⟩), .agg #[.int .i64 5, .int .i64 n, .string s, .slice A len cap]] w (DoPost w p q (c.snag n keep) S T) := by
  obtain ⟨i0, hi, j0, j1, j2⟩ := info_parts infoBool
  have hkl : keep.length = len := by have := osrc.1; simpa using this
  have b := Boxy.of (kind := 5) (n := n) (s := s) (cap := cap) h osrc hA
  go_enter Try.func21, Try.ntmps21
  go_wp2_with fail
  generalize w.alloc (.cells #[.int .i64 5, .int .i64 n, .string s, .slice A len cap] 30) = W at b ⊢
  generalize w.heap.size = B at b ⊢
  have d3 : W.cell? ⟨B, 3, none⟩ = some (.slice A len cap) := b.blk.cell 3
  have bd := b.drew
  have srcd := bd.src
  have d3a := cell_al d3
  go_cut [7] from 53 to 62 (fun m wx => ∃ A2 k2, m = .slice (some ⟨A2, 0, none⟩) len k2 ∧ Fix wx 4 1 (.slice (some ⟨A2, 0, none⟩) len k2) len (keep.map .bool) [A2] ∧ Chg [] W wx ∧ W.heap.size ≤ A2)
  case first =>
   go_region_law (first
    | (refine step_append_fix rfl _ _ 23 rfl Try.underlying23 hi j0 j1 j2 rfl (by omega) (n := 0) (xs := []) (F := []) rfl (Fix.nil _ _ _) rfl (by first | exact srcd | exact srcd.alloc _) (oneBools _) (by unfold maxLen; omega) (by omega) ?_; intro v1 w1 F1 ha1; obtain ⟨A1, k1, rfl, -⟩ := id ha1.fix; have hf1 := ha1.fix; simp only [Nat.zero_add, List.nil_append] at hf1 ha1; have hb1 : Blk w1 B 30 #[.int .i64 5, .int .i64 n, .string s, .slice A len cap] := (by first | exact bd.blk.chg ha1.chg (by simp) | exact (bd.blk.alloc _).chg ha1.chg (by simp)); have e3 : w1.cell? ⟨B, 3, none⟩ = some (.slice A len cap) := hb1.cell 3; have e3a := cell_al e3)
    | (refine step_append_fix rfl _ _ 23 rfl Try.underlying23 hi j0 j1 j2 rfl (by omega) (n := len) rfl (by first | exact hf1 | exact hf1.alloc _) rfl (by first | exact Src.one1 rfl | exact Src.chg (S := []) (Src.one1 (w := W.drew) (t := 4) (x := .bool true) rfl) ha1.chg (by simp)) (by simp [Value.oneCell']) (by unfold maxLen; omega) (by omega) ?_; intro v2 w2 F2 ha2; obtain ⟨A2, k2, rfl, hF2⟩ := ha2.head (by omega); have hb2 : Blk w2 B 30 #[.int .i64 5, .int .i64 n, .string s, .slice A len cap] := (by first | exact hb1.chg ha2.chg (hf1.ne_blk hb1 (by decide)) | exact (hb1.alloc _).chg ha2.chg (hf1.ne_blk hb1 (by decide))); have g3 : w2.cell? ⟨B, 3, none⟩ = some (.slice A len cap) := hb2.cell 3; have hcap : len + 1 ≤ k2 ∧ k2 ≤ maxLen := (by obtain ⟨_, _, hv2, -, hn2, hm2, -⟩ := id ha2.fix; injection hv2 with _ _ hv2; subst hv2; exact ⟨hn2, hm2⟩); unfold maxLen at hcap; have hcap2 : len ≤ k2 := (by omega)))
   all_goals
    have hF1 : ∀ g, g ∈ F1 → W.heap.size ≤ g := by
      intro g hg
      rcases ha1.foot with e | e <;> rw [e] at hg
      · simp at hg
      · simp only [List.mem_singleton] at hg
        subst hg
        first | exact Nat.le_refl _ | (simp; done) | (simp; omega)
    have hW1 : Chg [] W w1 := by
      first
      | exact (Chg.refl [] W).drew.trans' ha1.chg
      | exact ((Chg.refl [] W).drew.alloc _).trans' ha1.chg
    have hW2 : Chg [] W w2 := by
      first
      | exact hW1.trans ha2.chg (fun g hg => .inr (hF1 g hg))
      | exact (hW1.alloc _).trans ha2.chg (fun g hg => .inr (hF1 g hg))
    have hA2 : W.heap.size ≤ A2 := by
      have hs1 := hW1.size
      have hm : A2 ∈ F2 := by rw [hF2]; simp
      rcases ha2.foot with e | e
      · rw [e] at hm; exact hF1 _ hm
      · rw [e] at hm
        simp only [List.mem_singleton] at hm
        rw [hm]
        first | exact hs1 | (simp; omega)
    have hm : Fix w2 4 1 (.slice (some ⟨A2, 0, none⟩) len k2) len (keep.map .bool) [A2] := by
      have := Fix.head ha2.fix (m := len) (by omega)
      rw [hF2, List.take_left' (by simpa using hkl)] at this
      exact this
    go_wp2_with fail
    go_meet
    exact ⟨A2, k2, rfl, hm, hW2, hA2⟩
  case rest =>
   obtain ⟨A2, k2, rfl, hm, hW2, hA2⟩ := hcut
   generalize wc = w2 at hm hW2 ⊢
   have h2 := b.pair.chg hW2 (by simp)
   have src2 := b.src.chg hW2 (by simp)
   have hb2 := b.blk.chg hW2 (by simp)
   have hw2 := b.chg.trans' hW2
   have hAS : A2 ∉ S := fun hs => absurd (b.pair.cl.lt _ hs) (by omega)
   have hAT : A2 ∉ T := fun hs => absurd (b.pair.rf.lt _ hs) (by omega)
   have hAl := hm.lt A2 (by simp)
   have hAw : w.heap.size ≤ A2 := by have := b.chg.size; omega
   have hBS := b.fs
   have hBT := b.ft
   have hAf := b.af
   clear hW2 hA2 d3 d3a bd srcd b
   have x1 : w2.cell? ⟨B, 1, none⟩ = some (.int .i64 n) := hb2.cell 1
   go_wp2_with fail
   refine (csnag h2.cl n (Fix.src hm) (by omega)).mono ?_
   rintro e w3 ⟨S3, rfl, hc3, hw3, hS3⟩
   obtain ⟨hr3, hd3⟩ := h2.left hc3 hw3 hS3
   have hb3 := hb2.chg hw3 hBS
   have y1 : w3.cell? ⟨B, 1, none⟩ = some (.int .i64 n) := hb3.cell 1
   have y3 : w3.cell? ⟨B, 3, none⟩ = some (.slice A len cap) := hb3.cell 3
   have src3 : Src w3 1 A len (keep.map .bool) := by
     rcases Nat.eq_zero_or_pos len with h0 | h0
     · exact ⟨src2.1, by omega⟩
     · exact src2.chg hw3 (fun ad ha hs => hAf h0 ad ha (by simp [hs]))
   go_wp2_with fail
   refine (rsnag' hr3 n src3 (by omega)).mono ?_
   rintro e w4 ⟨T4, rfl, hr4, hw4, hT4⟩
   obtain ⟨hp4, hz4, hf4⟩ := pair_done hc3 hw3 hS3 hd3 hr4 hw4 hT4
   have hm4 : Fix w4 4 1 (.slice (some ⟨A2, 0, none⟩) len k2) len (keep.map .bool) [A2] := hm.chg hz4 (by simp [hAS, hAT])
   have hA4 : ∀ g, g ∈ S3 ++ T4 → g ∉ [A2] := by
     intro g hg h
     simp only [List.mem_singleton] at h
     subst h
     rcases hf4 _ hg with h | h
     · rcases List.mem_append.1 h with h | h
       · exact hAS h
       · exact hAT h
     · omega
   have hall : DoPost w p q (c.snag n keep) S T (.returned (.bool true)) w4 := do_fin hw2 ⟨hp4, hz4, hf4⟩
   have hkeep : ∀ wr, Chg [A2] w4 wr → DoPost w p q (c.snag n keep) S T (.returned (.bool true)) wr := fun wr hr =>
     ⟨rfl, S3, T4, hp4.chg hr hA4, ((hw2.mono (by simp)).trans' hz4).trans hr (by simp only [List.mem_singleton]; rintro g rfl; exact .inr hAw), fun g hg => by
       have := hw2.size
       rcases hf4 g hg with h | h
       · exact .inl h
       · exact .inr (by omega)⟩
   clear hc3 hw3 hS3 hr3 hd3 hb3 y1 y3 src3 hr4 hw4 hT4 hp4 hz4 hf4 hm hall h2 src2 hb2 hw2 hA4 x1
   go_wp2_with fail
   go_loopw [8] (fun i wr => ∃ (k : Nat) (bs : List Bool), k ≤ len ∧ i = .int .i64 k ∧ Fix wr 4 1 (.slice (some ⟨A2, 0, none⟩) len k2) len (bs.map .bool) [A2] ∧ Chg [A2] w4 wr) (fun i _ => len - (intOf i).toNat)
   case atStart => exact ⟨0, keep, by omega, rfl, hm4, Chg.refl _ _⟩
   case round =>
     obtain ⟨k, bs, hk, rfl, hf, hw⟩ := hrel
     by_cases hlt : k < len
     · have hbl : bs.length = len := by obtain ⟨_, _, _, h1, -⟩ := id hf; simpa using h1
       obtain ⟨g, cc, hv, -, -, -, c0, f0⟩ := hf.at_ (k := k) (j := 0) hlt (by omega)
       injection hv with hv
       injection hv with hv
       injection hv with hv
       subst hv
       rw [List.getElem?_eq_getElem (by simp; omega)] at c0
       simp only [Nat.mul_one, Nat.add_zero, List.getElem_map] at c0 f0
       generalize hbk : bs[k]'(by omega) = bk at c0
       go_wp2_with fail
       go_roundw
       case measure => simp [intOf]; omega
       case rel =>
         refine ⟨k + 1, bs.set k (!bk), by omega, by go_num, ?_, hw.setCell (by simp) _⟩
         have := hf.store rfl k (.bool (!bk))
         rw [List.map_set]
         exact this
     · go_wp2_with fail
       go_ret
       exact hkeep _ hw
theorem do_at {k : Nat} (h : Pair w p q c S T) (g : Good c k) (hk : k < 1000000) (o : OpV) (ho : OpOk w o) (hs : o.s.size ≤ 100) (hkl : o.keep.length ≤ 60) (hA : 0 < o.len → ∀ ad, o.A = some ad → ad.block ∉ S ++ T) :
    Calls Try.prog 21 #[.pointer (some ⟨p, 0, none⟩), .pointer (some ⟨q, 0, none⟩), .agg #[.int .i64 o.kind, .int .i64 o.n, .string o.s, .slice o.A o.len o.cap]] w (DoPost w p q (c.act o) S T) := by
  obtain ⟨kind, n, s, A, len, cap, keep⟩ := o
  simp only at hs hkl hA
  have osrc : Src w 1 A len (keep.map .bool) := ho.src
  have olen : keep.length = len := ho.hl
  simp only [ClothS.act]
  by_cases e1 : kind = 1
  · subst e1; exact do1 h g hk n s A len cap keep osrc hs hA
  by_cases e2 : kind = 2
  · subst e2; exact do2 h g hk n s A len cap keep osrc hA
  by_cases e3 : kind = 3
  · subst e3; exact do3 h g hk n s A len cap keep osrc (by omega) hA
  by_cases e4 : kind = 4
  · subst e4; exact do4 h n s A len cap keep osrc hA
  by_cases e5 : kind = 5
  · subst e5; exact do5 (k := k) h n s A len cap keep osrc (by omega) hA
  rw [if_neg e1, if_neg e2, if_neg e3, if_neg e4, if_neg e5]
  exact do6 h kind n s A len cap keep osrc hA e1 e2 e3 e4 e5
theorem Good.act {k : Nat} (h : Good c k) (o : OpV) (hn : (Lit.int .i64 o.n).wf = true) (hk : o.keep.length ≤ 60) : Good (c.act o) (k + 1) := by
  have : o.n ≤ 9223372036854775807 := by
    simp [Lit.wf, IntKind.min, IntKind.max, IntKind.bits, IntKind.signed] at hn
    omega
  unfold ClothS.act
  split
  · exact h.weaveX _ _
  split
  · exact h.pressX.mono (by omega)
  split
  · exact (h.tearX _).mono (by omega)
  split
  · exact h.mend.mono (by omega)
  split
  · exact (h.snag _ this _ hk).mono (by omega)
  · exact h.mono (by omega)
end
end Go.Proofs.Ytjbjiomajldkoaa
