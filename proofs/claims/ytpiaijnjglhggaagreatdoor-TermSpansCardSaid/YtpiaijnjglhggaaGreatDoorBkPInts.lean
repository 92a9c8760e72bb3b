/- Lists that are kept: the kind Ints: one more list, and what Apart does with all of them. -/
import Derived.Test.YtpiaijnjglhggaaGreatDoorBkCInts
import Derived.StillTailTactics
import Derived.Deep.RegionHeld3
namespace Go.Proofs.YtpiaijnjglhggaaGreatDoor
open Go.RowKit Go.Vx
set_option linter.unusedVariables false
set_option linter.unusedSimpArgs false

theorem bkInfoSInts : (Tryz.prog.info? 36).map (fun i => (i.zero, i.size, i.bytes)) = some (some (.slice none 0 0), 1, 24) := by kernel_rfl
/-- What stands of the book's kind Ints. -/
structure KStInts (w : World) (cs : Array Value) (L : List Kept) (R : List Nat) : Prop where
  ex : ∃ tv wv M Ft Fw, cs[2]? = some tv ∧ cs[3]? = some wv ∧ KRow w 36 3 1 tv L Ft ∧ KRow w 36 3 1 wv M Fw ∧ M.map (fun K => (K.n, K.xs)) = L.map (fun K => (K.n, K.xs)) ∧ (∀ g ∈ Ft, g ∉ Fw) ∧ ∀ g, g ∈ Ft ∨ g ∈ Fw ∨ g ∈ keptF L ∨ g ∈ keptF M → g ∈ R
theorem KStInts.nil {w : World} {cs : Array Value} (h0 : cs[2]? = some (.slice none 0 0)) (h1 : cs[3]? = some (.slice none 0 0)) : KStInts w cs [] [] :=
  ⟨⟨_, _, [], [], [], h0, h1, KRow.nil, KRow.nil, rfl, by simp, by simp [keptF]⟩⟩
theorem KStInts.chg {w w' : World} {cs : Array Value} {L : List Kept} {R S : List Nat} (h : KStInts w cs L R) (k : Chg S w w') (hd : ∀ g ∈ R, g ∉ S) : KStInts w' cs L R := by
  obtain ⟨tv, wv, M, Ft, Fw, c0, c1, ht, hm, e, h1, h2⟩ := h.ex
  exact ⟨⟨tv, wv, M, Ft, Fw, c0, c1, ht.chg k (fun g hg => hd g (h2 g (.inl hg))) (fun g hg => hd g (h2 g (.inr (.inr (.inl hg))))), hm.chg k (fun g hg => hd g (h2 g (.inr (.inl hg)))) (fun g hg => hd g (h2 g (.inr (.inr (.inr hg))))), e, h1, h2⟩⟩
set_option maxRecDepth 8000 in
set_option maxHeartbeats 4000000 in
theorem bkp_addInts {w : World} {p : Nat} {cs : Array Value} {L : List Kept} {R : List Nat} (hb : Blk w p 35 cs) (hcs : cs.size = 20) (hS : KStInts w cs L R) (hL : L.length < 250)
    {K : Kept} (hK : K.At w 3 1) (h1 : ∀ u ∈ K.xs, u.oneCell' = true) (hKF : ∀ g ∈ K.F, g ∉ R) (hn : K.n ≤ 1000000) :
    Calls Tryz.prog 6 #[.pointer (some ⟨p, 0, none⟩), K.v] w fun e w' => e = .returned (.tuple #[]) ∧ ∃ tv wv R', Blk w' p 35 ((cs.setIfInBounds 2 tv).setIfInBounds 3 wv) ∧
      KStInts w' ((cs.setIfInBounds 2 tv).setIfInBounds 3 wv) (L ++ [K]) R' ∧ (∀ g ∈ R', g ∈ R ∨ g ∈ K.F ∨ w.heap.size ≤ g) ∧ (∀ g ∈ R', g < w'.heap.size) ∧ Chg (p :: R) w w' := by
  obtain ⟨i0, hi, j0, j1, j2⟩ := info_parts bkInfoSInts
  obtain ⟨tv, wv, M, Ft, Fw, c0, c1, ht, hm, hML, hsep, hR⟩ := hS.ex
  have hMl : M.length = L.length := by have := congrArg List.length hML; simpa using this
  obtain ⟨A, c, rfl, hc, hcm⟩ := ht.slice
  obtain ⟨A2, cc2, rfl, hc2, hcm2⟩ := hm.slice
  obtain ⟨Kv, Kn, Kx, KF⟩ := K
  unfold Kept.At at hK
  dsimp only at hK h1 hKF hn ⊢
  obtain ⟨B, kc, rfl, hk1, hk2, hk3, -⟩ := id hK
  have d0 : w.cell? ⟨p, 2, none⟩ = some (.slice A L.length c) := by rw [hb.cell]; exact c0
  have b1 : decide ((L.length : Int) < 250) = true := by simp; omega
  obtain ⟨f1, f2⟩ := ht.far hb (by decide) (by decide)
  obtain ⟨f3, f4⟩ := hm.far hb (by decide) (by decide)
  have hKR : ∀ g ∈ KF, g ∉ Ft ∧ g ∉ Fw ∧ g ∉ keptF L ∧ g ∉ keptF M := fun g hg => ⟨fun h => hKF g hg (hR g (.inl h)), fun h => hKF g hg (hR g (.inr (.inl h))), fun h => hKF g hg (hR g (.inr (.inr (.inl h)))), fun h => hKF g hg (hR g (.inr (.inr (.inr h))))⟩
  have hpK : p ∉ KF := Fix.ne_blk hK hb (by decide)
  have hML' := Lib.hid hML
  have hMl' := Lib.hid hMl
  clear hML hMl
  go_enter Tryz.func6, Tryz.ntmps6
  go_upto_region 2 with (at_builtin; refine wpList_append_fix rfl _ _ 25 rfl Tryz.underlying25 hi j0 j1 j2 rfl (by omega) rfl (ht.row.alloc _) rfl (Src.one1 rfl) (by simp [Value.oneCell']) (by unfold maxLen; omega) (by omega) ?_; intro v' w1 F1 ha; obtain ⟨g1, k1, rfl, rfl⟩ := ha.head (by omega); have hb1 := (hb.alloc (.cells #[.slice B Kn kc] 36)).chg ha.chg f1; have e0 : w1.cell? ⟨p, 2, none⟩ = some (.slice A L.length c) := (by rw [hb1.cell]; exact c0); have e1 : w1.frozen? ⟨p, 2, none⟩ = false := hb1.frozen 2)
  have hk0 : KRow w1 36 3 1 (.slice (some ⟨g1, 0, none⟩) (L.length + 1) k1) (L ++ [⟨.slice B Kn kc, Kn, Kx, KF⟩]) [g1] :=
    KRow.push ((ht.keep ((Chg.refl _ _).alloc _))) ha (Fix.alloc hK _) (fun g hg => (hKR g hg).1) (fun g hg => (hKR g hg).2.2.1)
  have hz1 : Chg (p :: R) w w1 := ((Chg.refl (p :: R) w).alloc _).trans ha.chg (fun g hg => .inl (by simp [hR g (.inl hg)]))
  have hm1 : KRow w1 36 3 1 (.slice A2 M.length cc2) M Fw := (hm.keep ((Chg.refl _ _).alloc _)).chg ha.chg (fun g hg h => hsep g h hg) (fun g hg h => ((hm.split ht (by decide) (by decide)).2 g hg h))
  have hK1 : Fix w1 3 1 (.slice B Kn kc) Kn Kx KF := (Fix.alloc hK _).chg ha.chg (fun g hg => (hKR g hg).1)
  have hg1 : g1 ∈ Ft ∨ w.heap.size ≤ g1 := by
    rcases ha.foot with e | e
    · exact .inl (by rw [← e]; simp)
    · right
      simp at e
      omega
  have hs1 : w.heap.size ≤ w1.heap.size := by have := ha.chg.size; simp at this; omega
  have hsep1 : g1 ∉ Fw := by
    rcases hg1 with h | h
    · exact hsep g1 h
    · intro hh
      have := hm.lt.1 g1 hh
      omega
  have hpg : p ≠ g1 := by
    have := (hk0.far hb1 (by decide) (by decide)).1
    simpa using this
  obtain ⟨k2, k3⟩ := hk0.far hb1 (by decide) (by decide)
  have hb2 := hb1.set_ 2 (.slice (some ⟨g1, 0, none⟩) (L.length + 1) k1)
  have hz2 : Chg (p :: R) w (w1.setCell ⟨p, 2, none⟩ (.slice (some ⟨g1, 0, none⟩) (L.length + 1) k1)) := hz1.setCell (.inl (by simp)) _
  have hc12 : Chg [p] w1 (w1.setCell ⟨p, 2, none⟩ (.slice (some ⟨g1, 0, none⟩) (L.length + 1) k1)) := (Chg.refl _ _).setCell (.inl (by simp)) _
  have hk02 := hk0.chg hc12 (by simpa using fun e => hpg e.symm) (fun g hg => by simp only [List.mem_singleton]; rintro rfl; exact k3 hg)
  have hm2 := hm1.chg hc12 (fun g hg => by simp only [List.mem_singleton]; rintro rfl; exact f3 hg) (fun g hg => by simp only [List.mem_singleton]; rintro rfl; exact f4 hg)
  have hK2 := hK1.chg hc12 (fun g hg => by simp only [List.mem_singleton]; rintro rfl; exact hpK hg)
  have hs2 := hc12.size
  have d1 : (w1.setCell ⟨p, 2, none⟩ (.slice (some ⟨g1, 0, none⟩) (L.length + 1) k1)).cell? ⟨p, 3, none⟩ = some (.slice A2 M.length cc2) := by
    rw [hb2.cell, Array.getElem?_setIfInBounds_ne (by decide)]
    exact c1
  clear hb1 e0 e1 hk0 hm1 hK1 hz1 hc12 ha
  generalize w1.setCell ⟨p, 2, none⟩ (.slice (some ⟨g1, 0, none⟩) (L.length + 1) k1) = w2 at *
  have hcp := fun w (hs : Src w 1 B Kn Kx) => bkc_copyInts (c := kc) hs h1 hn
  have c1' : ∀ w3, Chg [] w2.drew w3 → w3.cell? ⟨p, 3, none⟩ = some (.slice A2 M.length cc2) := fun w3 h => by rw [h.cell (show p < w2.heap.size from hb2.lt) (by simp)]; exact d1
  go_region_law (first
    | (go_simp; go_at_call 15; refine (hcp _ (Fix.src (Fix.drew hK2))).mono ?_; rintro e w3 ⟨v, F, rfl, hf, hF, hc3⟩; obtain ⟨VA, VC, rfl, -⟩ := id hf; have x1 := c1' w3 hc3; have x2 := cell_al x1)
    | (refine step_append_fix rfl (.tmp 24) (.tmp 27) 25 rfl Tryz.underlying25 hi j0 j1 j2 rfl (by omega) rfl (((hm2.keep (Chg.refl [] w2).drew).keep hc3).row.alloc _) rfl (Src.one1 rfl) (by simp [Value.oneCell']) (by have := hMl'.out; unfold maxLen; omega) (by have := hMl'.out; omega) ?_; intro v' w4 F4 ha; obtain ⟨g4, k4, rfl, rfl⟩ := ha.head (by omega); have hb4 := (((hb2.drew.chg hc3 (by simp)).alloc (.cells #[.slice VA Kn VC] 36))).chg ha.chg f3; have x3 : w4.cell? ⟨p, 3, none⟩ = some (.slice A2 M.length cc2) := (ha.chg.cell (by have := hb2.lt; have := hc3.size; simp at this ⊢; omega) f3).trans (x2 _); have x4 : w4.frozen? ⟨p, 3, none⟩ = false := hb4.frozen 3))
  all_goals
    have hlt2 := hm2.lt
    have hsz2 : w2.heap.size ≤ w3.heap.size := hc3.size
    have hF2 : ∀ g ∈ F, g ∉ Fw ∧ g ∉ keptF M := fun g hg => ⟨fun h => by have := hlt2.1 g h; have := hF g hg; simp at this; omega, fun h => by have := hlt2.2 g h; have := hF g hg; simp at this; omega⟩
    have hm3 : KRow w3 36 3 1 (.slice A2 M.length cc2) M Fw := (hm2.keep (Chg.refl [] w2).drew).keep hc3
    have hm4 : KRow w4 36 3 1 (.slice (some ⟨g4, 0, none⟩) (M.length + 1) k4) (M ++ [⟨.slice VA Kn VC, Kn, Kx, F⟩]) [g4] :=
      KRow.push (hm3.keep ((Chg.refl _ _).alloc _)) ha (Fix.alloc hf _) (fun g hg => (hF2 g hg).1) (fun g hg => (hF2 g hg).2)
    have hk4 := (((hk02.keep (Chg.refl [] w2).drew).keep hc3).keep ((Chg.refl _ _).alloc (.cells #[.slice VA Kn VC] 36))).chg ha.chg (by simpa using hsep1) (fun g hg h => (hk02.split hm2 (by decide) (by decide)).2 g hg h)
    have hg4 : g4 ∈ Fw ∨ w.heap.size ≤ g4 := by
      rcases ha.foot with e | e
      · exact .inl (by rw [← e]; simp)
      · right
        simp at e
        omega
    have hg14 : g1 ≠ g4 := by
      rintro rfl
      rcases ha.foot with e | e
      · exact hsep1 (by rw [← e]; simp)
      · have := hk02.lt.1 g1 (by simp)
        simp at e
        omega
    have hc14 : Chg [p] w4 (w4.setCell ⟨p, 3, none⟩ (.slice (some ⟨g4, 0, none⟩) (M.length + 1) k4)) := (Chg.refl _ _).setCell (.inl (by simp)) _
    obtain ⟨q1, q2⟩ := hk4.far hb4 (by decide) (by decide)
    obtain ⟨q3, q4⟩ := hm4.far hb4 (by decide) (by decide)
    have hk5 := hk4.chg hc14 (fun g hg h => q1 (by simp at h; rw [← h]; exact hg)) (fun g hg h => q2 (by simp at h; rw [← h]; exact hg))
    have hm5 := hm4.chg hc14 (fun g hg h => q3 (by simp at h; rw [← h]; exact hg)) (fun g hg h => q4 (by simp at h; rw [← h]; exact hg))
    have hb5 := hb4.set_ 3 (.slice (some ⟨g4, 0, none⟩) (M.length + 1) k4)
    have hz5 : Chg (p :: R) w (w4.setCell ⟨p, 3, none⟩ (.slice (some ⟨g4, 0, none⟩) (M.length + 1) k4)) :=
      ((((hz2.drew).trans hc3 (by simp)).alloc _).trans ha.chg (fun g hg => .inl (by simp [hR g (.inr (.inl hg))]))).setCell (.inl (by simp)) _
    have hFz : ∀ g ∈ F, w.heap.size ≤ g := fun g hg => by have := hF g hg; simp at this; omega
    have hMl := hMl'.out
    have hML := hML'.out
    clear hb4 hk4 hm4 hc14 q1 q2 q3 q4 hm3 hF2 hlt2 x1 x2 x3 x4 ha c1' hcp
    rw [hMl] at hm5 hb5 hz5 hk5
    rw [hMl]
    go_wp2_with fail
    go_end0
    refine ⟨rfl, .slice (some ⟨g1, 0, none⟩) (L.length + 1) k1, .slice (some ⟨g4, 0, none⟩) (L.length + 1) k4, [g1] ++ [g4] ++ (keptF L ++ KF) ++ (keptF M ++ F), hb5, ⟨⟨_, _, M ++ [⟨.slice VA Kn VC, Kn, Kx, F⟩], [g1], [g4], ?_, ?_, hk5, hm5, ?_, ?_, ?_⟩⟩, ?_, ?_, hz5⟩
    · rw [Array.getElem?_setIfInBounds_ne (by decide), Array.getElem?_setIfInBounds_self_of_lt (by omega)]
    · rw [Array.getElem?_setIfInBounds_self_of_lt (by simp; omega)]
    · rw [List.map_append, List.map_append, hML]; rfl
    · simpa using hg14
    · intro g hg
      rw [keptF_push, keptF_push] at hg
      simp only [List.mem_append]
      rcases hg with h | h | h | h
      · exact .inl (.inl (.inl h))
      · exact .inl (.inl (.inr h))
      · exact .inl (.inr (by simpa using h))
      · exact .inr (by simpa using h)
    · intro g hg
      simp only [List.mem_append, List.mem_singleton] at hg
      rcases hg with ((h | h) | h | h) | h | h
      · subst h
        rcases hg1 with h | h
        · exact .inl (hR g (.inl h))
        · exact .inr (.inr h)
      · subst h
        rcases hg4 with h | h
        · exact .inl (hR g (.inr (.inl h)))
        · exact .inr (.inr h)
      · exact .inl (hR g (.inr (.inr (.inl h))))
      · exact .inr (.inl h)
      · exact .inl (hR g (.inr (.inr (.inr h))))
      · exact .inr (.inr (hFz g h))
    · intro g hg
      have t1 := hk5.lt
      have t2 := hm5.lt
      rw [keptF_push] at t1 t2
      simp only [List.mem_append, List.mem_singleton] at hg
      rcases hg with ((h | h) | h | h) | h | h
      · exact t1.1 g (by simp [h])
      · exact t2.1 g (by simp [h])
      · exact t1.2 g (by simp [h])
      · exact t1.2 g (by simp [h])
      · exact t2.2 g (by simp [h])
      · exact t2.2 g (by simp [h])
theorem drewN_twoInts {w1 : World} (w : World) (h : ∃ m, w1 = World.drewN w m) (n : Nat) : ∃ m, w1.drewN n = w.drewN m := by
  obtain ⟨m, rfl⟩ := h
  exact ⟨m + n, World.drewN_drewN _ _ _⟩
set_option maxRecDepth 8000 in
set_option maxHeartbeats 4000000 in
theorem bkp_stillInts {w : World} {p : Nat} {cs : Array Value} {L : List Kept} {R : List Nat} (hb : Blk w p 35 cs) (hS : KStInts w cs L R) (hE : ∀ K ∈ L, ElInts K.xs ∧ K.n ≤ 1000000) (hL : L.length ≤ 1000000) :
    Calls Tryz.prog 17 #[.pointer (some ⟨p, 0, none⟩)] w fun e w' => e = .returned (.bool true) ∧ ∃ m, w' = w.drewN m := by
  obtain ⟨tv, wv, M, Ft, Fw, c0, c1, ht, hm, hML, hsep, hR⟩ := hS.ex
  have hMl : M.length = L.length := by have := congrArg List.length hML; simpa using this
  obtain ⟨A, c, rfl, hc, hcm⟩ := ht.slice
  obtain ⟨A2, cc2, rfl, hc2, hcm2⟩ := hm.slice
  have hel : ∀ k (hk : k < L.length), ∀ hk2 : k < M.length, M[k].n = L[k].n ∧ M[k].xs = L[k].xs := by
    intro k hk hk2
    have := congrArg (fun l => l[k]?) hML
    simp only [List.getElem?_map, List.getElem?_eq_getElem hk, List.getElem?_eq_getElem hk2, Option.map_some, Option.some.injEq, Prod.mk.injEq] at this
    exact this
  have hel' := Lib.hid hel
  have hMl' := Lib.hid hMl
  have d0 : ∀ wr, Chg [] w wr → wr.cell? ⟨p, 2, none⟩ = some (.slice A L.length c) ∧ wr.cell? ⟨p, 3, none⟩ = some (.slice A2 M.length cc2) := fun wr h => by rw [h.cell hb.lt (by simp), h.cell hb.lt (by simp), hb.cell, hb.cell]; exact ⟨c0, c1⟩
  clear hel hML
  go_enter Tryz.func17, Tryz.ntmps17
  go_wp2_with fail
  go_loopw [3] (fun iv wr => ∃ k : Nat, k ≤ L.length ∧ iv = .int .i64 k ∧ ∃ m, wr = w.drewN m) (fun iv _ => L.length - (intOf iv).toNat)
  case atStart => exact ⟨0, by omega, rfl, 0, rfl⟩
  case round =>
    obtain ⟨k, hk, rfl, hw⟩ := hrel
    have hwc : Chg [] w wr := by obtain ⟨m, rfl⟩ := hw; exact (Chg.refl _ _).drewN m
    obtain ⟨x1, x2⟩ := d0 wr hwc
    replace ht := ht.keep hwc
    replace hm := hm.keep hwc
    clear d0 hMl
    by_cases hlt : k < L.length
    · have hlt2 : k < M.length := by rw [hMl'.out]; exact hlt
      obtain ⟨g, cg, e1, e2, y1, -⟩ := ht.at_ hlt
      obtain ⟨g', cg', e1', e2', y2, -⟩ := hm.at_ hlt2
      have z1 : Fix wr 3 1 L[k].v L[k].n L[k].xs L[k].F := ht.el hlt
      have z2 : Fix wr 3 1 M[k].v M[k].n M[k].xs M[k].F := hm.el hlt2
      obtain ⟨hn', hx'⟩ := hel'.out k hlt hlt2
      rw [hn', hx'] at z2
      obtain ⟨he1, he2⟩ := hE _ (List.getElem_mem hlt)
      generalize L[k].v = V1 at *
      generalize M[k].v = V2 at *
      generalize L[k].n = N at *
      generalize L[k].xs = X at *
      obtain ⟨B1, K1, rfl, -⟩ := id z1
      obtain ⟨B2, K2, rfl, -⟩ := id z2
      injection e1 with e1 _ _
      injection e1' with e1' _ _
      subst e1 e1'
      have hsm := fun n => bkc_sameInts (c := K1) (d := K2) (z1.drewN n).src (z2.drewN n).src he1 he2
      clear e2 e2' z1 z2 hn' hx' he1 hel' hMl' hE
      go_wp2_with fail
      go_quiet ((go_at_call 60; exact Calls.quiet_of (hsm _)))
      go_wp2_with fail
      go_roundw
      case measure => simp [intOf]; omega
      case rel => exact ⟨k + 1, by omega, by go_num, drewN_twoInts w hw _⟩
    · obtain rfl : k = L.length := by omega
      clear hel' hMl'
      go_wp2_with fail
      go_ret
      exact ⟨by trivial, hw⟩
set_option maxRecDepth 8000 in
set_option maxHeartbeats 8000000 in
theorem bkp_putInts {w : World} {p : Nat} {cs : Array Value} {tv : Value} {L : List Kept} {Ft : List Nat} (hb : Blk w p 35 cs) (c0 : cs[2]? = some tv) (ht : KRow w 36 3 1 tv L Ft) (hE : ∀ K ∈ L, K.n ≤ 100000) (hL : L.length ≤ 1000) :
    Calls Tryz.prog 29 #[.pointer (some ⟨p, 0, none⟩)] w fun e w' => e = .returned (.tuple #[]) ∧ KRow w' 36 3 1 tv (putTo mkInts L L.length) Ft ∧ Chg (keptF L) w w' := by
  obtain ⟨A, c, rfl, hc, hcm⟩ := ht.slice
  obtain ⟨f1, f2⟩ := ht.far hb (by decide) (by decide)
  have d0 : ∀ wr, Chg (keptF L) w wr → wr.cell? ⟨p, 2, none⟩ = some (.slice A L.length c) := fun wr h => by rw [h.cell hb.lt f2, hb.cell]; exact c0
  go_enter Tryz.func29, Tryz.ntmps29
  go_wp2_with fail
  go_loopw [2, 3, 4] (fun iv mv kv wr => ∃ k : Nat, k ≤ L.length ∧ iv = .int .i64 k ∧ KRow wr 36 3 1 (.slice A L.length c) (putTo mkInts L k) Ft ∧ Chg (keptF L) w wr) (fun iv _ _ _ => L.length - (intOf iv).toNat)
  case atStart => exact ⟨0, by omega, rfl, by rw [putTo_zero]; exact ht, Chg.refl _ _⟩
  case round =>
    obtain ⟨k, hk, rfl, ht1, hz⟩ := hrel
    have x1 := d0 wr hz
    by_cases hlt : k < L.length
    · have hlt1 : k < (putTo mkInts L k).length := by rw [putTo_len]; exact hlt
      have hke := putTo_at mkInts L (k := k) hlt
      rw [if_neg (by omega)] at hke
      obtain ⟨g, cg, e1, e2, y1, -⟩ := ht1.at_ hlt1
      have z1 : Fix wr 3 1 _ _ _ _ := ht1.el hlt1
      have hsu := Lib.hid (putTo_succ mkInts L hlt)
      rw [hke] at y1 z1 hsu
      have hset := fun w2 xs (h1 : Chg L[k].F wr w2) (h2 : Fix w2 3 1 L[k].v L[k].n xs L[k].F) => ht1.set_ hlt1 (xs' := xs) (w' := w2) (by rw [hke]; exact h1) (by rw [hke]; exact h2)
      rw [hke] at hset
      have hKF : ∀ g, g ∈ L[k].F → g ∈ keptF L := mem_keptF (List.getElem_mem hlt)
      have hFt : g ∉ L[k].F := by
        have := ht1.out _ (List.getElem_mem hlt1)
        rw [hke] at this
        intro h
        exact this g h (by rw [e2]; simp)
      have hpK : p ∉ L[k].F := fun h => f2 (hKF p h)
      have hNs := hE _ (List.getElem_mem hlt)
      generalize hV : L[k].v = V at *
      generalize hN : L[k].n = N at *
      generalize hX : L[k].xs = X at *
      generalize hFF : L[k].F = FK at *
      replace hV := Lib.hid hV
      replace hN := Lib.hid hN
      replace hX := Lib.hid hX
      replace hFF := Lib.hid hFF
      obtain ⟨B1, K1, rfl, hxl, hk1, hk2, -⟩ := id z1
      injection e1 with e1 _ _
      subst e1
      have hmk := fun w => bkc_markInts k 0 N (by omega) (by omega) w
      have y2 : ∀ w2, Chg [] wr w2 → w2.cell? ⟨g, k, none⟩ = some (.slice B1 N K1) := fun w2 h => by rw [h.cell (World.block_lt_of_cell? _ _ y1) (by simp)]; exact y1
      have x2 : ∀ w2, Chg [] wr w2 → w2.cell? ⟨p, 2, none⟩ = some (.slice (some ⟨g, 0, none⟩) L.length c) := fun w2 h => by rw [h.cell (World.block_lt_of_cell? _ _ x1) (by simp)]; exact x1
      clear hke d0
      go_wp2_with fail
      refine (hmk _).mono ?_
      rintro e w1 ⟨v, Fm, rfl, hm, hFm, hc1⟩
      obtain ⟨B2, K2, rfl, hml, hm2, hm3, -⟩ := id hm
      dsimp only
      replace hml := Lib.hid hml
      replace hxl := Lib.hid hxl
      have u1 := x2 w1 hc1
      have u2 := y2 w1 hc1
      have hgl := World.block_lt_of_cell? _ _ u2
      have hpl := World.block_lt_of_cell? _ _ u1
      have z2 := z1.chg hc1 (by simp)
      have hFml : ∀ g, g ∈ Fm → g ∉ FK := fun g hg h => by
        have := hFm g hg
        have := z1.lt g h
        omega
      clear u1 u2
      go_wp2_with fail
      obtain ⟨wo, rfl⟩ : ∃ wo : World, wo = wr := ⟨_, rfl⟩
      go_loopw [4] (fun kv wr => ∃ (j : Nat) (xs : List Value), j ≤ N ∧ kv = .int .i64 j ∧ xs.take j = marks mkInts k 0 j ∧ Fix wr 3 1 (.slice B1 N K1) N xs FK ∧ Chg FK w1 wr) (fun kv _ => N - (intOf kv).toNat)
      case atStart => exact ⟨0, X, by omega, rfl, by simp [marks], z2, Chg.refl _ _⟩
      case round =>
        obtain ⟨j, xs, hj, rfl, htk, hfx, hc2⟩ := hrel
        by_cases hjl : j < N
        · have u1 : wr.cell? ⟨p, 2, none⟩ = _ := (hc2.cell hpl hpK).trans (x2 w1 hc1)
          have u2 : wr.cell? ⟨g, k, none⟩ = _ := (hc2.cell hgl hFt).trans (y2 w1 hc1)
          have hm4 := hm.chg hc2 hFml
          obtain ⟨gm, rfl, hgm, hcm⟩ := hm4.el hjl
          obtain ⟨v1, -⟩ := hcm 0 (by omega)
          rw [Nat.mul_one, Nat.add_zero, marks_at mkInts_len k 0 N j hjl, Nat.zero_add] at v1
          simp only [mkInts, List.getElem?_cons_zero] at v1
          obtain ⟨gx, rfl, hgx, hcx⟩ := hfx.el hjl
          obtain ⟨v2, v3⟩ := hcx 0 (by omega)
          rw [Nat.mul_one, Nat.add_zero] at v2 v3
          have hxl2 : xs.length = N := by obtain ⟨_, _, _, h, _⟩ := id hfx; simpa using h
          rw [List.getElem?_eq_getElem (by omega)] at v2
          generalize xs[j]'(by omega) = ov at v2
          have hst := hfx.store rfl j (.int .i64 (-1000000 * (k : Int) - (j : Int) - 7))
          have hc3 := hc2.setCell (p := ⟨gx, j, none⟩) (.inl (by simp [hgx])) (.int .i64 (-1000000 * (k : Int) - (j : Int) - 7))
          have htk2 : (xs.set j (.int .i64 (-1000000 * (k : Int) - (j : Int) - 7))).take (j + 1) = marks mkInts k 0 (j + 1) := by
            rw [marks_succ, ← htk, Nat.zero_add, List.take_add_one]
            simp only [mkInts]
            rw [List.take_set_of_le (by omega), List.getElem?_set_self (by omega)]
            rfl
          replace htk2 := Lib.hid htk2
          replace htk := Lib.hid htk
          replace hxl2 := Lib.hid hxl2
          replace hgx := Lib.hid hgx
          replace hgm := Lib.hid hgm
          clear hcx hcm hfx hm4
          go_wp2_with fail
          go_still_tail 13, (by kernel_rfl)
          change wpList _ _ _ _ _ wr.drew
          go_wp2_with fail
          go_roundw
          case measure => simp [intOf]; omega
          case rel => exact ⟨j + 1, _, by omega, by go_num, htk2.out, hst, hc3.drew⟩
        · obtain rfl : j = N := by omega
          have hxl2 : xs.length = j := by obtain ⟨_, _, _, h, _⟩ := id hfx; simpa using h
          rw [List.take_of_length_le (by omega)] at htk
          rw [htk] at hfx
          have hcc : Chg FK wo wr := (hc1.mono (by simp)).trans' hc2
          have hk2 := hset wr _ hcc hfx
          rw [← hsu.out] at hk2
          go_wp2_with fail
          exact ⟨⟨k + 1, by omega, by go_num, hk2, hz.trans hcc (fun g hg => .inl (hKF g hg))⟩, by simp [intOf]; omega⟩
    · obtain rfl : k = L.length := by omega
      go_wp2_with fail
      go_end0
      exact ⟨rfl, ht1, hz⟩
/-- How far the growing has come. -/
structure GrowInts (w0 w : World) (v : Value) (L Q : List Kept) (Fo : List Nat) (i : Nat) : Prop where
  row : Fix w 36 1 v i (Q.map Kept.v) Fo
  len : Q.length = i
  fresh : ∀ g ∈ Fo, w0.heap.size ≤ g
  at_ : ∀ K ∈ Q, K.At w 3 1
  marked : ∀ k (hk : k < Q.length), Q[k].xs = marks mkInts k 0 Q[k].n
  foot : ∀ k (hk : k < Q.length) (hk2 : k < L.length), ∀ g ∈ Q[k].F, g ∈ L[k].F ∨ w0.heap.size ≤ g
  small : ∀ K ∈ Q, K.n ≤ 100000
theorem GrowInts.next {w0 wo w2 w3 : World} {v v3 : Value} {L Q : List Kept} {Fo F3 FK : List Nat} {k : Nat} {K : Kept} (h : GrowInts w0 wo v L Q Fo k) (hk : k < L.length) (h1 : Chg FK wo w2) (hQ : ∀ K ∈ Q, ∀ g ∈ K.F, g ∉ FK) (ho : ∀ g ∈ Fo, g ∉ FK)
    (hK : K.At w2 3 1) (hm : K.xs = marks mkInts k 0 K.n) (hf : ∀ g ∈ K.F, g ∈ L[k].F ∨ w0.heap.size ≤ g) (hn : K.n ≤ 100000) (h0 : w0.heap.size ≤ wo.heap.size) {o : Obj}
    (ha : Appended (w2.alloc o) w3 36 1 v v3 k 1 (Q.map Kept.v) [K.v] Fo F3) : GrowInts w0 w3 v3 L (Q ++ [K]) F3 (k + 1) := by
  have hs := h1.size
  have hrow := (h.row.chg h1 ho).alloc o
  refine ⟨by have := ha.fix; simpa using this, by simp [h.len], fun g hg => ?_, fun M hM => ?_, fun j hj => ?_, fun j hj hj2 => ?_, fun M hM => ?_⟩
  · rcases ha.foot with e | e
    · exact h.fresh g (by rw [← e]; exact hg)
    · rw [e] at hg
      simp at hg
      omega
  · have h2 : M.At (w2.alloc o) 3 1 := by
      rcases List.mem_append.1 hM with hM | hM
      · exact Fix.alloc ((h.at_ M hM).chg h1 (hQ M hM)) o
      · obtain rfl : M = K := by simpa using hM
        exact Fix.alloc hK o
    exact h2.chg ha.chg fun g hg hg2 => Fix.disj hrow h2 (by decide) g hg2 hg
  · rcases Nat.lt_or_ge j Q.length with hlt | hge
    · rw [List.getElem_append_left hlt]
      exact h.marked j hlt
    · have : j = k := by have := h.len; simp at hj; omega
      subst this
      rw [List.getElem_append_right hge]
      simpa using hm
  · rcases Nat.lt_or_ge j Q.length with hlt | hge
    · rw [List.getElem_append_left hlt]
      exact h.foot j hlt hj2
    · have : j = k := by have := h.len; simp at hj; omega
      subst this
      rw [List.getElem_append_right hge]
      simpa using hf
  · rcases List.mem_append.1 hM with hM | hM
    · exact h.small M hM
    · obtain rfl : M = K := by simpa using hM
      exact hn
set_option maxRecDepth 8000 in
set_option maxHeartbeats 8000000 in
theorem bkp_growInts {w : World} {p : Nat} {cs : Array Value} {tv : Value} {L : List Kept} {Ft : List Nat} (hb : Blk w p 35 cs) (c0 : cs[2]? = some tv) (ht : KRow w 36 3 1 tv L Ft) (hM : ∀ k (hk : k < L.length), L[k].xs = marks mkInts k 0 L[k].n) (hE : ∀ K ∈ L, K.n ≤ 90000) (hL : L.length ≤ 1000) :
    Calls Tryz.prog 37 #[.pointer (some ⟨p, 0, none⟩)] w fun e w' => ∃ v Q Fo R, e = .returned v ∧ Q.length = L.length ∧ MRow w' 36 3 1 mkInts v Q Fo R ∧ MRow w' 36 3 1 mkInts tv L Ft R ∧ (∀ g, g ∈ Fo ∨ g ∈ R → g ∈ keptF L ∨ w.heap.size ≤ g) ∧ Chg (keptF L) w w' := by
  obtain ⟨iT, hiT, jT0, jT1, jT2⟩ := info_parts bkInfoSInts
  obtain ⟨i0, hi, j0, j1, j2⟩ := info_parts bkInfoInts
  obtain ⟨A, c, rfl, hc, hcm⟩ := ht.slice
  obtain ⟨f1, f2⟩ := ht.far hb (by decide) (by decide)
  have hlw := ht.lt
  have d0 : ∀ wr, Chg (keptF L) w wr → wr.cell? ⟨p, 2, none⟩ = some (.slice A L.length c) := fun wr h => by rw [h.cell hb.lt f2, hb.cell]; exact c0
  have hM' := Lib.hid hM
  clear hM
  go_enter Tryz.func37, Tryz.ntmps37
  go_wp2_with fail
  go_loopw [3, 4, 5, 6] (fun ov iv lv nv wr => ∃ (k : Nat) (Q : List Kept) (Fo : List Nat), k ≤ L.length ∧ iv = .int .i64 k ∧ GrowInts w wr ov L Q Fo k ∧ KRow wr 36 3 1 (.slice A L.length c) L Ft ∧ Chg (keptF L) w wr) (fun _ iv _ _ _ => L.length - (intOf iv).toNat)
  case atStart => exact ⟨0, [], [], by omega, rfl, ⟨Fix.nil _ _ _, rfl, by simp, by simp, by simp, by simp, by simp⟩, ht, Chg.refl _ _⟩
  case round =>
    obtain ⟨k, Q, Fo, hk, rfl, hG, ht1, hz⟩ := hrel
    have x1 := d0 wr hz
    by_cases hlt : k < L.length
    · obtain ⟨g, cg, e1, e2, y1, -⟩ := ht1.at_ hlt
      have z1 : Fix wr 3 1 _ _ _ _ := ht1.el hlt
      have hset := fun w2 (h1 : Chg L[k].F wr w2) (h2 : Fix w2 3 1 L[k].v L[k].n L[k].xs L[k].F) => ht1.set_ hlt (xs' := L[k].xs) (w' := w2) h1 h2
      rw [show L.set k { L[k] with xs := L[k].xs } = L from List.set_getElem_self hlt] at hset
      have hKF : ∀ g, g ∈ L[k].F → g ∈ keptF L := mem_keptF (List.getElem_mem hlt)
      have hFt : g ∉ L[k].F := by
        have := ht1.out _ (List.getElem_mem hlt)
        intro h
        exact this g h (by rw [e2]; simp)
      have hpK : p ∉ L[k].F := fun h => f2 (hKF p h)
      have hNs := hE _ (List.getElem_mem hlt)
      have hMk := hM'.out k hlt
      have hQF : ∀ K ∈ Q, ∀ g ∈ K.F, g ∉ L[k].F := by
        intro K hK g hg hgk
        obtain ⟨j, hj, rfl⟩ := List.mem_iff_getElem.1 hK
        have hjk : j < k := by have := hG.len; omega
        rcases hG.foot j hj (by omega) g hg with h | h
        · exact List.pairwise_iff_getElem.1 ht1.apart j k (by omega) hlt hjk g h hgk
        · have := hlw.2 g (hKF g hgk)
          omega
      have hFoK : ∀ g ∈ Fo, g ∉ L[k].F := fun g hg h => by
        have := hG.fresh g hg
        have := hlw.2 g (hKF g h)
        omega
      have hFoL := hG.row.lt
      have hfoot : ∀ F1 : List Nat, (F1 = L[k].F ∨ ∀ g ∈ F1, wr.heap.size ≤ g) → ∀ g ∈ F1, g ∈ L[k].F ∨ w.heap.size ≤ g := fun F1 h g hg => by
        rcases h with h | h
        · exact .inl (h ▸ hg)
        · have := h g hg
          have := hz.size
          omega
      rw [hMk] at z1 hset
      generalize hV : L[k].v = V at *
      generalize hN : L[k].n = N at *
      generalize hFF : L[k].F = FK at *
      replace hV := Lib.hid hV
      replace hN := Lib.hid hN
      replace hFF := Lib.hid hFF
      clear hMk
      obtain ⟨B1, K1, rfl, -, hk1, hk2, -⟩ := id z1
      have z1l := z1.lt
      injection e1 with e1 _ _
      subst e1
      clear d0
      go_wp2_with fail
      obtain ⟨wo, rfl⟩ : ∃ wo : World, wo = wr := ⟨_, rfl⟩
      go_loopw [5, 6] (fun lv nv wr => ∃ (j : Nat) (F1 : List Nat), j ≤ 12 ∧ nv = .int .i64 j ∧ Fix wr 3 1 lv (N + j) (marks mkInts k 0 (N + j)) F1 ∧ (F1 = FK ∨ ∀ g ∈ F1, wo.heap.size ≤ g) ∧ Fix wr 3 1 (.slice B1 N K1) N (marks mkInts k 0 N) FK ∧ Chg FK wo wr) (fun _ nv _ => 12 - (intOf nv).toNat)
      case atStart => exact ⟨0, FK, by omega, rfl, z1, .inl rfl, z1, Chg.refl _ _⟩
      case round =>
        obtain ⟨j, F1, hj, rfl, hl, hF1, hV1, hc2⟩ := hrel
        obtain ⟨B2, K2, rfl, -, hk3, hk4, -⟩ := id hl
        have hFKl := hV1.lt
        have hF1k : F1 = FK ∨ ∀ g ∈ FK, g ∉ F1 := by
          rcases hF1 with h | h
          · exact .inl h
          · exact .inr fun g hg hg2 => by have := h g hg2; have := z1l g hg; omega
        have hgrow : ∀ (m : Nat) (w1 w2 : World) (v' : Value) (F' : List Nat), Chg [] wr w1 → Appended w1 w2 3 1 (.slice B2 (N + j) K2) v' (N + j) m (marks mkInts k 0 (N + j)) (marks mkInts k (N + j) m) F1 F' → Fix w2 3 1 (.slice B2 (N + j) K2) (N + j) (marks mkInts k 0 (N + j)) F1 →
            Fix w2 3 1 v' (N + (j + m)) (marks mkInts k 0 (N + (j + m))) F' ∧ (F' = FK ∨ ∀ g ∈ F', wo.heap.size ≤ g) ∧ Fix w2 3 1 (.slice B1 N K1) N (marks mkInts k 0 N) FK ∧ Chg FK wo w2 := by
          intro m w1 w2 v' F' h1 ha hkp
          have hs1 := h1.size
          have hs2 := hc2.size
          refine ⟨?_, ?_, ?_, ?_⟩
          · have := ha.fix
            rwa [show marks mkInts k 0 (N + j) ++ marks mkInts k (N + j) m = marks mkInts k 0 (N + (j + m)) by rw [← Nat.add_assoc, marks_add mkInts k 0 (N + j) m, Nat.zero_add], Nat.add_assoc] at this
          · rcases ha.foot with e | e
            · rw [e]; exact hF1
            · right
              intro g hg
              rw [e] at hg
              simp at hg
              omega
          · rcases hF1k with e | e
            · subst e
              exact Fix.same_block (hl.chg h1 (by simp)) (hV1.chg h1 (by simp)) (by omega) (by omega) hkp
            · exact (hV1.chg h1 (by simp)).chg ha.chg e
          · refine (hc2.trans h1 (by simp)).trans ha.chg fun g hg => ?_
            rcases hF1 with e | e
            · exact .inl (e ▸ hg)
            · exact .inr (e g hg)
        have hone := fun f m => marks_one mkInts_one k f m
        by_cases hjl : j < 12
        · have hmk := fun w => bkc_markInts k (N + j) 1 (by omega) (by omega) w
          go_wp2_with fail
          refine (hmk _).mono ?_
          rintro e w1 ⟨v, Fm, rfl, hm, hFm, hc1⟩
          obtain ⟨B3, K3, rfl, -⟩ := id hm
          dsimp only
          have hl1 := hl.chg hc1 (by simp)
          go_wp2_with (at_builtin; refine wpList_append_kept rfl _ _ 36 rfl Tryz.underlying36 hi j0 j1 j2 rfl (by omega) rfl hl1 rfl hm.src (hone _ _) (by unfold maxLen; omega) (by omega) ?_; intro v' w2 F2 ha hkp)
          obtain ⟨q1, q2, q3, q4⟩ := hgrow 1 w1 w2 v' F2 hc1 ha hkp
          go_roundw
          case measure => simp [intOf]; omega
          case rel => exact ⟨j + 1, F2, by omega, by go_num, q1, q2, q3, q4⟩
        · obtain rfl : j = 12 := by omega
          have hmk := fun w => bkc_markInts k (N + 12) 60 (by omega) (by omega) w
          obtain ⟨OA, Oc, rfl, -⟩ := id hG.row
          go_wp2_with fail
          refine (hmk _).mono ?_
          rintro e w1 ⟨v, Fm, rfl, hm, hFm, hc1⟩
          obtain ⟨B3, K3, rfl, -⟩ := id hm
          dsimp only
          have hl1 := hl.chg hc1 (by simp)
          go_wp2_with (first
            | (at_builtin; refine wpList_append_kept rfl (.tmp 34) (.tmp 38) 36 rfl Tryz.underlying36 hi j0 j1 j2 rfl (by omega) rfl hl1 rfl hm.src (hone _ _) (by unfold maxLen; omega) (by omega) ?_; intro v' w2 F2 ha hkp; obtain ⟨g2, k2, rfl, rfl⟩ := ha.head (by omega); obtain ⟨q1, q2, q3, q4⟩ := hgrow 60 w1 w2 _ _ hc1 ha hkp)
            | (at_builtin; refine wpList_append_fix rfl (.tmp 33) (.tmp 40) 25 rfl Tryz.underlying25 hiT jT0 jT1 jT2 rfl (by omega) rfl ((hG.row.chg q4 hFoK).alloc _) rfl (Src.one1 rfl) (by simp [Value.oneCell']) (by unfold maxLen; omega) (by omega) ?_; intro v3 w3 F3 ha3))
          have hsw := hz.size
          have hG2 := hG.next (K := ⟨.slice (some ⟨g2, 0, none⟩) (N + (12 + 60)) k2, N + (12 + 60), marks mkInts k 0 (N + (12 + 60)), [g2]⟩) hlt q4 hQF hFoK q1 rfl (fun g hg => by rw [hFF.out]; exact hfoot [g2] q2 g hg) (by show N + (12 + 60) ≤ 100000; omega) hsw ha3
          have hk3 := ((hset w2 q4 q3).keep ((Chg.refl _ _).alloc (.cells #[.slice (some ⟨g2, 0, none⟩) (N + (12 + 60)) k2] 36))).chg ha3.chg (fun g hg h => by have := hlw.1 g hg; have := hG.fresh g h; omega) (fun g hg h => by have := hlw.2 g hg; have := hG.fresh g h; omega)
          have hz3 := ((hz.trans q4 (fun g hg => .inl (hKF g hg))).alloc (.cells #[.slice (some ⟨g2, 0, none⟩) (N + (12 + 60)) k2] 36)).trans ha3.chg (fun g hg => .inr (hG.fresh g hg))
          exact ⟨⟨k + 1, _, F3, by omega, by go_num, hG2, hk3, hz3⟩, by simp [intOf]; omega⟩
    · obtain rfl : k = L.length := by omega
      have hM := hM'.out
      clear hM'
      go_wp2_with fail
      go_ret
      refine ⟨_, Q, Fo, keptF L ++ keptF Q, rfl, hG.len, ⟨by rw [hG.len]; exact hG.row, hG.at_, fun K hK g hg => by simp [mem_keptF hK g hg], hG.marked, hG.small⟩, ⟨ht1.row, ht1.each, fun K hK g hg => by simp [mem_keptF hK g hg], hM, fun K hK => by have := hE K hK; omega⟩, ?_, hz⟩
      intro g hg
      rcases hg with h | h
      · exact .inr (hG.fresh g h)
      · rcases List.mem_append.1 h with h | h
        · exact .inl h
        · obtain ⟨K, hK, h⟩ := List.mem_flatMap.1 h
          obtain ⟨j, hj, rfl⟩ := List.mem_iff_getElem.1 hK
          have hjl : j < L.length := by have := hG.len; omega
          rcases hG.foot j hj hjl g h with h | h
          · exact .inl (mem_keptF (List.getElem_mem hjl) g h)
          · exact .inr h
set_option maxRecDepth 8000 in
set_option maxHeartbeats 8000000 in
theorem bkp_markedInts {w : World} {v : Value} {Q : List Kept} {Ft R : List Nat} (h : MRow w 36 3 1 mkInts v Q Ft R) (hQ : Q.length ≤ 1000) :
    Calls Tryz.prog 47 #[v] w fun e w' => e = .returned (.bool true) ∧ Chg [] w w' := by
  obtain ⟨A, c, rfl, -⟩ := id h.row
  go_enter Tryz.func47, Tryz.ntmps47
  go_wp2_with fail
  go_loopw [3] (fun iv wr => ∃ k : Nat, k ≤ Q.length ∧ iv = .int .i64 k ∧ Chg [] w wr) (fun iv _ => Q.length - (intOf iv).toNat)
  case atStart => exact ⟨0, by omega, rfl, Chg.refl _ _⟩
  case round =>
    obtain ⟨k, hk, rfl, hz⟩ := hrel
    replace h := h.chg hz (by simp) (by simp)
    by_cases hlt : k < Q.length
    · obtain ⟨g, cg, e1, e2, y1, -⟩ := h.at_ hlt
      have z1 : Fix wr 3 1 _ _ _ _ := h.el hlt
      have hMk := h.marked k hlt
      have hNs := h.small _ (List.getElem_mem hlt)
      rw [hMk] at z1
      generalize Q[k].v = V at *
      generalize Q[k].n = N at *
      clear hMk
      obtain ⟨B1, K1, rfl, -, hk1, hk2, -⟩ := id z1
      injection e1 with e1 _ e3
      subst e1 e3
      have hmk := fun w => bkc_markInts k 0 N (by omega) (by omega) w
      have hEl := ElInts.mk k N 0
      have y2 : ∀ w2, Chg [] wr.drew w2 → w2.cell? ⟨g, k, none⟩ = some (.slice B1 N K1) := fun w2 h => by rw [h.cell (show g < wr.heap.size from World.block_lt_of_cell? _ _ y1) (by simp)]; exact y1
      have z2 : ∀ w2, Chg [] wr.drew w2 → Src w2 1 B1 N (marks mkInts k 0 N) := fun w2 h => ((z1.drew).chg h (by simp)).src
      go_wp2_with fail
      go_region_law (first
        | (go_simp; go_at_call 72; refine (hmk _).mono ?_; rintro e w1 ⟨v, Fm, rfl, hm, hFm, hc1⟩; obtain ⟨B3, K3, rfl, -⟩ := id hm; have y3 := y2 w1 hc1)
        | (go_simp; go_at_call 60; refine (bkc_sameInts (z2 w1 hc1) hm.src hEl (by omega)).mono ?_; rintro e w2 ⟨rfl, md, rfl⟩))
      all_goals
        go_wp2_with fail
        go_roundw
        case measure => simp [intOf]; omega
        case rel => exact ⟨k + 1, by omega, by go_num, ((hz.drew).trans' hc1).drewN _⟩
    · obtain rfl : k = Q.length := by omega
      go_wp2_with fail
      go_ret
      exact ⟨by trivial, hz⟩
end Go.Proofs.YtpiaijnjglhggaaGreatDoor
