/- The reference's cloth, its beginning, its snag, its tear. -/
import Derived.Test.YtjbjiomajldkoaaClothR
import Derived.Deep.RegionLaw
namespace Go.Proofs.Ytjbjiomajldkoaa
open Go.RowKit Go.Vx
set_option linter.unusedVariables false
set_option linter.unusedSimpArgs false

def Ref (w : World) (p : Nat) (c : ClothS) (S : List Nat) : Prop := ∃ now last lo ke n kl Fn Fl G H, RefAt w p now last lo ke c n kl Fn Fl G H ∧ S = p :: (Fn ++ Fl ++ G ++ H)
def RefPost (w : World) (S : List Nat) (p : Nat) (r : Value) (c' : ClothS) (e : Ending) (w' : World) : Prop :=
  ∃ S', e = .returned r ∧ Ref w' p c' S' ∧ Chg S w w' ∧ ∀ g, g ∈ S' → g ∈ S ∨ w.heap.size ≤ g
theorem Ref.chg {w w' : World} {p : Nat} {c : ClothS} {S F : List Nat} (h : Ref w p c S) (k : Chg F w w') (hd : ∀ g, g ∈ S → g ∉ F) : Ref w' p c S := by
  obtain ⟨now, last, lo, ke, n, kl, Fn, Fl, G, H, h, rfl⟩ := h
  exact ⟨now, last, lo, ke, n, kl, Fn, Fl, G, H, h.chg k hd, rfl⟩

section
variable {w w' : World} {p : Nat} {now last lo ke : Value} {c : ClothS} {n : Int} {kl : List Bool} {Fn Fl G H : List Nat}
set_option maxHeartbeats 1000000 in
theorem rsnag (h : RefAt w p now last lo ke c n kl Fn Fl G H) (m : Int) {A : Option Addr} {len cap : Nat} {keep : List Bool} (hs : Src w 1 A len (keep.map .bool)) (hm : len ≤ 1000000) :
    Calls Try.prog 36 #[.pointer (some ⟨p, 0, none⟩), .int .i64 m, .slice A len cap] w (RefPost w (p :: (Fn ++ Fl ++ G ++ H)) p (.tuple #[]) (c.snag m keep)) := by
  obtain ⟨i0, hi, hz0, hz1, hz2⟩ := info_parts infoBool
  have hkl : keep.length = len := by have := hs.1; simpa using this
  go_enter Try.func36, Try.ntmps36
  go_wp2_with (at_builtin; refine wpList_append_fix rfl _ _ 23 rfl Try.underlying23 hi hz0 hz1 hz2 rfl (by omega) (n := 0) (xs := []) (F := []) rfl (Fix.nil _ _ _) rfl hs (oneBools _) (by unfold maxLen; omega) (by omega) ?_; intro v' w1 F1 ha; have h1 := h.chg ha.chg (by simp); obtain ⟨B, cb, rfl, -⟩ := id ha.fix; rw [Nat.zero_add] at ha; have d4 : w1.cell? ⟨p, 4, none⟩ = some (.bool c.snagged) := h1.blk.cell 4; have d5 : w1.cell? ⟨p, 5, none⟩ = some (.int .i64 n) := h1.blk.cell 5; have d6 : w1.cell? ⟨p, 6, none⟩ = some ke := h1.blk.cell 6; have f4 := h1.blk.frozen 4; have f5 := h1.blk.frozen 5; have f6 := h1.blk.frozen 6)
  go_end0
  have hz : Chg [p] w1 (((w1.setCell ⟨p, 4, none⟩ (.bool (decide (0 ≤ m)))).setCell ⟨p, 5, none⟩ (.int .i64 m)).setCell ⟨p, 6, none⟩ (.slice B len cb)) := (((Chg.refl _ _).setCell (by simp) _).setCell (by simp) _).setCell (by simp) _
  refine ⟨_, rfl, ⟨now, last, lo, .slice B len cb, m, keep, Fn, Fl, G, F1, ⟨((h1.blk.set_ 4 _).set_ 5 _).set_ 6 _, h1.hn.chg hz (h1.hn.not_mem h1.blk (by decide)), h1.hl.chg hz (h1.hl.not_mem h1.blk (by decide)), h1.hlo.chg hz (h1.hlo.not_mem h1.blk (by decide)), ?_, h.dis, fun _ => ⟨rfl, rfl⟩⟩, rfl⟩, ?_, ?_⟩
  · have := ha.fix.chg hz (ha.fix.not_mem h1.blk (by decide))
    simpa [hkl] using this
  · exact (ha.chg.mono (by simp)).trans hz (by simp)
  · intro g hg
    simp only [List.mem_cons, List.mem_append] at hg ⊢
    rcases hg with hg | ((hg | hg) | hg) | hg
    · simp [hg]
    · simp [hg]
    · simp [hg]
    · simp [hg]
    · rcases ha.foot with hf | hf
      · simp [hf] at hg
      · rw [hf] at hg; simp at hg; right; omega
theorem rtear_off (h : RefAt w p now last lo ke c n kl Fn Fl G H) (ht : c.torn = true) (A : Option Addr) (m cap : Nat) :
    Calls Try.prog 35 #[.pointer (some ⟨p, 0, none⟩), .slice A m cap] w fun e w' => e = .returned (.int .i64 0) ∧ w = w' := by
  have c3 : w.cell? ⟨p, 3, none⟩ = some (.bool c.torn) := h.blk.cell 3
  go_enter Try.func35, Try.ntmps35
  go_wp2
  go_ret
  exact ⟨rfl, rfl⟩
set_option maxHeartbeats 2000000 in
theorem rtear_on (h : RefAt w p now last lo ke c n kl Fn Fl G H) (ht : c.torn = false) (hr : RowsOk c.pressed.length c.loose) (hlo : c.loose.length ≤ 1000000)
    {A : Option Addr} {m cap : Nat} {keep : List Bool} (hs : Src w 1 A m (keep.map .bool)) (hn : m ≤ 1000000) (hA : 0 < m → ∀ ad, A = some ad → ad.block ∉ Fl) :
    Calls Try.prog 35 #[.pointer (some ⟨p, 0, none⟩), .slice A m cap] w (RefPost w (p :: (Fn ++ Fl ++ G ++ H)) p (.int .i64 (c.loose.length - (keptTo c.loose keep c.loose.length).length)) (c.tear keep)) := by
  have hkl : keep.length = m := by have := hs.1; simpa using this
  have c3 : w.cell? ⟨p, 3, none⟩ = some (.bool c.torn) := h.blk.cell 3
  obtain ⟨L, lc, rfl, -, hl1, hl2, -⟩ := id h.hlo
  unfold maxLen at hl2
  have hpF := h.hl.ne_blk h.blk (by decide)
  have hGF := h.hlo.disj h.hl (by decide)
  go_enter Try.func35, Try.ntmps35
  go_wp2
  go_loopw [5, 6] (fun d i wr => ∃ k : Nat, k ≤ c.loose.length ∧ i = .int .i64 k ∧ d = .int .i64 (k - (keptTo c.loose keep k).length) ∧ Fix wr 9 1 last c.pressed.length ((pressTo c.pressed (keptTo c.loose keep k)).map .string) Fl ∧ Chg Fl w wr) (fun _ i _ => c.loose.length - (intOf i).toNat)
  case atStart => exact ⟨0, Nat.zero_le _, rfl, by simp [keptTo], by simpa [keptTo, pressTo] using h.hl, Chg.refl _ _⟩
  case round =>
    obtain ⟨k, hk, rfl, rfl, hf, hw⟩ := hrel
    have hb1 := h.blk.chg hw hpF
    have c2' : wr.cell? ⟨p, 2, none⟩ = some (.slice L c.loose.length lc) := hb1.cell 2
    have hkt := keptTo_le c.loose keep k
    by_cases hlt : k < c.loose.length
    · have hl1 := h.hlo.chg hw hGF
      obtain ⟨g, rfl, rfl, hel⟩ := hl1.el hlt
      have d0 := (hel 0 (by omega)).1
      have d1 := (hel 1 (by omega)).1
      rw [(threadCells_at _ k hlt).1] at d0
      rw [(threadCells_at _ k hlt).2] at d1
      rw [Nat.add_zero] at d0
      clear hel
      have hs1 : Src wr 1 A m (keep.map .bool) := by
        rcases Nat.eq_zero_or_pos m with h0 | h0
        · exact ⟨hs.1, by omega⟩
        · exact hs.chg hw (hA h0)
      obtain ⟨r0, r1⟩ := hr c.loose[k] (List.getElem_mem hlt)
      have HS : keep.getD k false = true → Hid (pressTo c.pressed (keptTo c.loose keep (k + 1)) = (pressTo c.pressed (keptTo c.loose keep k)).set c.loose[k].1.toNat c.loose[k].2 ∧ (keptTo c.loose keep (k + 1)).length = (keptTo c.loose keep k).length + 1) := by
        intro hb
        have e : keptTo c.loose keep (k + 1) = keptTo c.loose keep k ++ [c.loose[k]] := by
          simp only [keptTo, hb, if_true]; simp [hlt]
        show _ ∧ _
        rw [e]
        exact ⟨pressTo_snoc _ _ _, by simp⟩
      have HN : keep.getD k false = false → Hid (keptTo c.loose keep (k + 1) = keptTo c.loose keep k) := by
        intro hb
        show _ = _
        simp only [keptTo, hb]; simp
      generalize c.loose[k].1 = row at *
      generalize c.loose[k].2 = s at *
      obtain ⟨ri, rfl⟩ := Int.eq_ofNat_of_zero_le r0
      have hri : ri < c.pressed.length := by omega
      by_cases hkn : k < m
      · obtain ⟨ad, rfl, hc⟩ := hs1.2 (by omega)
        have hck := hc k (.bool (keep[k]'(by omega))) (by simp [hkn, hkl])
        clear hc hs1
        cases hb : keep[k]'(by omega) with
        | true =>
          rw [hb] at hck
          obtain ⟨gp, pm, rfl, hm1, hm2, rfl, dp, fp⟩ := hf.at_ (k := ri) (j := 0) hri (by omega)
          have c1' : wr.cell? ⟨p, 1, none⟩ = some (.slice (some ⟨gp, 0, none⟩) c.pressed.length pm) := hb1.cell 1
          unfold maxLen at hm2
          rw [List.getElem?_eq_getElem (by simp [pressTo_length]; omega)] at dp
          simp only [Nat.mul_one, Nat.add_zero] at dp fp
          have HS' := HS (by simp [hkl, hkn, hb])
          clear HS HN
          go_wp2
          go_still_tail 21, (by kernel_rfl)
          change wpList _ _ _ _ _ wr.drew
          go_wp2
          go_roundw
          case measure => simp [intOf]; omega
          case rel =>
            refine ⟨k + 1, by omega, by go_num, by rw [HS'.out.2]; go_num, ?_, hw.drew.setCell (by simp) _⟩
            rw [HS'.out.1]
            have := (hf.store rfl ri (.string s)).drew
            simpa [List.map_set] using this
        | false =>
          rw [hb] at hck
          have HN' := HN (by simp [hkl, hkn, hb])
          clear HS HN
          go_wp2
          go_roundw
          case measure => simp [intOf]; omega
          case rel =>
            exact ⟨k + 1, by omega, by go_num, by rw [HN'.out]; go_num, by rw [HN'.out]; exact hf, hw⟩
      · have HN' := HN (by simp [hkl, hkn])
        clear HS HN
        go_wp2
        go_roundw
        case measure => simp [intOf]; omega
        case rel =>
          exact ⟨k + 1, by omega, by go_num, by rw [HN'.out]; go_num, by rw [HN'.out]; exact hf, hw⟩
    · obtain rfl : k = c.loose.length := by omega
      have c0' : wr.cell? ⟨p, 0, none⟩ = some now := hb1.cell 0
      have c1' : wr.cell? ⟨p, 1, none⟩ = some last := hb1.cell 1
      have hn1 := h.hn.chg hw h.dis
      obtain ⟨N0, nc, rfl, -⟩ := id hn1
      obtain ⟨L0, lc0, rfl, -⟩ := id hf
      go_wp2
      go_still_tail 8, (by kernel_rfl)
      change wpList _ _ _ _ _ wr.drew
      refine wpList_copy_fix rfl _ _ 41 41 rfl Try.underlying41 (by kernel_rfl) rfl rfl hn1.drew hf.drew ?_ ?_
      · intro u hu
        obtain ⟨b, _, rfl⟩ := List.mem_map.1 hu
        rfl
      intro w2 hn2 hw2
      have hb2 := hb1.drew.chg hw2 (h.hn.ne_blk h.blk (by decide))
      have d2 : w2.cell? ⟨p, 2, none⟩ = some (.slice L c.loose.length lc) := hb2.cell 2
      have d3 : w2.cell? ⟨p, 3, none⟩ = some (.bool c.torn) := hb2.cell 3
      have d4 : w2.cell? ⟨p, 4, none⟩ = some (.bool c.snagged) := hb2.cell 4
      have f2 := hb2.frozen 2
      have f3 := hb2.frozen 3
      have f4 := hb2.frozen 4
      go_wp2
      go_ret
      have hz : Chg [p] w2 (((w2.setCell ⟨p, 2, none⟩ (.slice none 0 0)).setCell ⟨p, 3, none⟩ (.bool true)).setCell ⟨p, 4, none⟩ (.bool false)) := (((Chg.refl _ _).setCell (by simp) _).setCell (by simp) _).setCell (by simp) _
      have hdis : ∀ g, g ∈ Fl → g ∉ Fn := fun g h1 h2 => h.dis g h2 h1
      refine ⟨_, rfl, ⟨_, _, .slice none 0 0, ke, n, kl, Fn, Fl, [], H, ⟨((hb2.set_ 2 _).set_ 3 _).set_ 4 _, ?_, ?_, Fix.nil _ _ _, ?_, h.dis, by simp [ClothS.tear]⟩, rfl⟩, ?_, ?_⟩
      · rw [show (c.tear keep).pressed.length = c.pressed.length from pressTo_length _ _]
        exact hn2.chg hz (hn2.not_mem hb2 (by decide))
      · rw [show (c.tear keep).pressed.length = c.pressed.length from pressTo_length _ _]
        exact (hf.drew.chg hw2 hdis).chg hz (h.hl.not_mem h.blk (by decide))
      · exact ((h.hke.chg hw (h.hke.disj h.hl (by decide))).drew.chg hw2 (h.hke.disj h.hn (by decide))).chg hz (h.hke.not_mem h.blk (by decide))
      · refine Chg.trans' (Chg.trans' (hw.drew.mono (by simp +contextual)) (hw2.mono (by simp +contextual))) (hz.mono (by simp))
      · intro g hg
        simp only [List.mem_cons, List.mem_append, List.not_mem_nil, or_false] at hg ⊢
        rcases hg with hg | (hg | hg) | hg <;> simp [hg]
end
theorem rnew (rows : Int) (w : World) :
    Calls Try.prog 18 #[.int .i64 rows] w fun e w' => ∃ p, e = .returned (.pointer (some ⟨p, 0, none⟩)) ∧ ∃ S, Ref w' p ⟨List.replicate (min (max rows 0) 2000).toNat ⟨#[]⟩, [], false, false, 0, []⟩ S ∧ Chg [] w w' ∧ ∀ g, g ∈ S → w.heap.size ≤ g := by
  obtain ⟨i0, hi, hz0, hz1, hz2⟩ := info_parts infoStr
  obtain ⟨N, hN⟩ : ∃ N : Nat, min (max rows 0) 2000 = (N : Int) := ⟨(min (max rows 0) 2000).toNat, by omega⟩
  have hN2 : N ≤ 2000 := by omega
  rw [hN]
  have HN := Lib.hid hN
  clear hN
  go_enter Try.func18, Try.ntmps18
  have hmk := fun w => run_make (P := Try.prog) w 41 9 i0 _ Try.underlying41 hi hz0 .i64 .i64 (N : Int) (N : Int) (by omega) (by omega) (by rw [hz2]; omega) (by omega)
  rw [hz1] at hmk
  go_wp2_with fail
  rw [HN.out]
  go_region_law (fail)
  all_goals
    go_wp2_with fail
    go_ret
    have m1 := (((Fix.made w 9 (.string ⟨#[]⟩) N (by unfold maxLen; omega)).alloc (.cells (madeCells #[.string ⟨#[]⟩] N) 9)))
    have m2 := Fix.made (w.alloc (.cells (madeCells #[.string ⟨#[]⟩] N) 9)) 9 (.string ⟨#[]⟩) N (by unfold maxLen; omega)
    simp only [World.size_alloc] at m1 m2
    first
    | exact ⟨w.heap.size + 1 + 1, rfl, _, ⟨.slice (some ⟨w.heap.size, 0, none⟩) N N, .slice (some ⟨w.heap.size + 1, 0, none⟩) N N, .slice none 0 0, .slice none 0 0, 0, [], (if N = 0 then [] else [w.heap.size]), (if N = 0 then [] else [w.heap.size + 1]), [], [],
        ⟨by have := Blk.new ((w.alloc (.cells (madeCells #[.string ⟨#[]⟩] N) 9)).alloc (.cells (madeCells #[.string ⟨#[]⟩] N) 9)) 65 #[.slice (some ⟨w.heap.size, 0, none⟩) N N, .slice (some ⟨w.heap.size + 1, 0, none⟩) N N, .slice none 0 0, .bool false, .bool false, .int .i64 0, .slice none 0 0]; simpa using this.drew,
        by have := (m1.alloc (.cells #[.slice (some ⟨w.heap.size, 0, none⟩) N N, .slice (some ⟨w.heap.size + 1, 0, none⟩) N N, .slice none 0 0, .bool false, .bool false, .int .i64 0, .slice none 0 0] 65)).drew; simpa [pressTo] using this,
        by have := (m2.alloc (.cells #[.slice (some ⟨w.heap.size, 0, none⟩) N N, .slice (some ⟨w.heap.size + 1, 0, none⟩) N N, .slice none 0 0, .bool false, .bool false, .int .i64 0, .slice none 0 0] 65)).drew; simpa using this,
        Fix.nil _ _ _, Fix.nil _ _ _, by intro g; split <;> simp; omega, by simp⟩, rfl⟩, ((((Chg.refl _ _).alloc _).alloc _).alloc _).drew, by intro g; split <;> simp <;> omega⟩
    | exact ⟨w.heap.size + 1 + 1, rfl, _, ⟨.slice (some ⟨w.heap.size + 1, 0, none⟩) N N, .slice (some ⟨w.heap.size, 0, none⟩) N N, .slice none 0 0, .slice none 0 0, 0, [], (if N = 0 then [] else [w.heap.size + 1]), (if N = 0 then [] else [w.heap.size]), [], [],
        ⟨by have := Blk.new ((w.alloc (.cells (madeCells #[.string ⟨#[]⟩] N) 9)).alloc (.cells (madeCells #[.string ⟨#[]⟩] N) 9)) 65 #[.slice (some ⟨w.heap.size + 1, 0, none⟩) N N, .slice (some ⟨w.heap.size, 0, none⟩) N N, .slice none 0 0, .bool false, .bool false, .int .i64 0, .slice none 0 0]; simpa using this.drew,
        by have := (m2.alloc (.cells #[.slice (some ⟨w.heap.size + 1, 0, none⟩) N N, .slice (some ⟨w.heap.size, 0, none⟩) N N, .slice none 0 0, .bool false, .bool false, .int .i64 0, .slice none 0 0] 65)).drew; simpa [pressTo] using this,
        by have := (m1.alloc (.cells #[.slice (some ⟨w.heap.size + 1, 0, none⟩) N N, .slice (some ⟨w.heap.size, 0, none⟩) N N, .slice none 0 0, .bool false, .bool false, .int .i64 0, .slice none 0 0] 65)).drew; simpa using this,
        Fix.nil _ _ _, Fix.nil _ _ _, by intro g; split <;> simp; omega, by simp⟩, rfl⟩, ((((Chg.refl _ _).alloc _).alloc _).alloc _).drew, by intro g; split <;> simp <;> omega⟩
end Go.Proofs.Ytjbjiomajldkoaa
