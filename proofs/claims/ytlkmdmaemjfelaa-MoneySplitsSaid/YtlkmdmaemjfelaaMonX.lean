/- MoneySplits. -/
import Derived.Test.YtlkmdmaemjfelaaMonW
import Derived.Test.YtlkmdmaemjfelaaBkYInts
namespace Go.Proofs.Ytlkmdmaemjfelaa
open Go.RowKit Go.Vx
set_option linter.unusedVariables false
set_option linter.unusedSimpArgs false

/-- What both splits answer: parts, and 0; or nothing, and 1. -/
def splitAns (a : Int) (l : List Int) : List Int × Int := if okM a = true ∧ weigh l ≠ 0 then ((splitN a.natAbs (weigh l).toNat (l.map Int.toNat)).map (fun x : Nat => if a < 0 then -(x : Int) else x), 0) else ([], 1)
def SplitAns (w : World) (S : List Int) (r : Int) (e : Ending) (w' : World) : Prop := ∃ A c F, e = .returned (.tuple #[.slice A S.length c, .int .i64 r]) ∧ Fix w' 3 1 (.slice A S.length c) S.length (S.map (Value.int .i64)) F ∧ (∀ g, g ∈ F → w.heap.size ≤ g) ∧ Chg [] w w'
theorem splitAns_len (a : Int) (l : List Int) : (splitAns a l).1.length ≤ l.length := by
  unfold splitAns
  split
  · simp [split_len]
  · simp
theorem signed_ints (a : Int) (T : List Nat) : signedAll a T = (T.map (fun x : Nat => if a < 0 then -(x : Int) else x)).map (Value.int .i64) := by
  unfold signedAll
  rw [List.map_map]
  rfl
theorem ans_good {w : World} {a : Int} {n : Nat} {l : List Int} (hl : l.length = n) (h : okM a = true ∧ weigh l ≠ 0) {f : FuncId} {args : Array Value} (hc : Calls Try.prog f args w (SplitGood w n (signedAll a (splitN a.natAbs (weigh l).toNat (l.map Int.toNat))))) :
    Calls Try.prog f args w (SplitAns w (splitAns a l).1 (splitAns a l).2) := by
  unfold splitAns
  rw [if_pos h]
  refine hc.mono ?_
  rintro e w' ⟨v, F, rfl, hf, hF, hz⟩
  rw [signed_ints] at hf
  have hlen : ((splitN a.natAbs (weigh l).toNat (l.map Int.toNat)).map (fun x : Nat => if a < 0 then -(x : Int) else x)).length = n := by simp [split_len, hl]
  obtain ⟨A, c, rfl, -⟩ := id hf
  exact ⟨A, c, F, by simp only [hlen], by simp only [hlen]; exact hf, hF, hz⟩
theorem ans_bad {w : World} {a : Int} {l : List Int} (h : ¬ (okM a = true ∧ weigh l ≠ 0)) {f : FuncId} {args : Array Value} (hc : Calls Try.prog f args w fun e w' => e = .returned (.tuple #[.slice none 0 0, .int .i64 1]) ∧ Chg [] w w') :
    Calls Try.prog f args w (SplitAns w (splitAns a l).1 (splitAns a l).2) := by
  unfold splitAns
  rw [if_neg h]
  exact hc.mono fun e w' ⟨h1, h2⟩ => ⟨none, 0, [], h1, Fix.nil _ _ _, by simp, h2⟩
theorem m_split_any {w : World} {a : Int} {A : Option Addr} {n c : Nat} {l : List Int} (hs : Src w 1 A n (l.map (Value.int .i64))) (hn : n ≤ 1000000) :
    Calls Try.prog 12 #[.int .i64 a, .slice A n c] w (SplitAns w (splitAns a l).1 (splitAns a l).2) := by
  by_cases h : okM a = true ∧ weigh l ≠ 0
  · exact ans_good (by have := hs.1; simpa using this) h (split_good hs h.1 h.2)
  · exact ans_bad h ((split_bad hs hn h).mono fun e w' h => h)
theorem r_split_any {w : World} {a : Int} {A : Option Addr} {n c : Nat} {l : List Int} (hs : Src w 1 A n (l.map (Value.int .i64))) (hn : n ≤ 1000000) :
    Calls Try.prog 13 #[.int .i64 a, .slice A n c] w (SplitAns w (splitAns a l).1 (splitAns a l).2) := by
  by_cases h : okM a = true ∧ weigh l ≠ 0
  · exact ans_good (by have := hs.1; simpa using this) h (r_split_good hs h.1 h.2)
  · exact ans_bad h ((r_split_bad hs hn h).mono fun e w' ⟨h1, h2⟩ => ⟨h1, by subst h2; exact Chg.refl _ _⟩)
theorem el_ints (S : List Int) : ElInts (S.map (Value.int .i64)) := fun k u h => by
  have := List.mem_of_getElem? h
  obtain ⟨x, -, rfl⟩ := List.mem_map.1 this
  exact ⟨x, rfl⟩
set_option maxRecDepth 100000 in
set_option maxHeartbeats 8000000 in
theorem splits_in {w : World} {a : Int} {A : Option Addr} {n c : Nat} {l : List Int} (hs : Src w 1 A n (l.map (Value.int .i64))) (h30 : n ≤ 30) :
    Calls Try.prog 3 #[.int .i64 a, .slice A n c] w fun e w' => e = .returned (.bool true) ∧ Chg [] w w' := by
  have hl : l.length = n := by have := hs.1; simpa using this
  have hSl := splitAns_len a l
  rw [hl] at hSl
  have b1 : decide (30 < (n : Int)) = false := by simp; omega
  have hlent := fun w (hs : Src w 1 A n (l.map (Value.int .i64))) => bk_lentInts (c := c) hs (by omega)
  have hm := fun (w : World) (B : Option Addr) (c : Nat) (hs : Src w 1 B n (l.map (Value.int .i64))) => m_split_any (a := a) (c := c) hs (by omega)
  have hr := fun (w : World) (hs : Src w 1 A n (l.map (Value.int .i64))) => r_split_any (a := a) (c := c) hs (by omega)
  generalize (splitAns a l).1 = S at *
  generalize (splitAns a l).2 = r at *
  replace hl := Lib.hid hl
  go_enter Try.func3, Try.ntmps3
  go_wp2_with (go_at_call 10; refine (m_alive _).mono ?_; rintro e w0 ⟨rfl, hc0⟩)
  refine (hlent _ (hs.chg hc0 (by simp))).mono ?_
  rintro e w1 ⟨v, g, rfl, hv, hg, hc1⟩
  obtain ⟨k, rfl, hf⟩ := hv.fix hl.out
  have hz1 := hc0.trans' hc1
  have hgl := (hf.lt g (by simp))
  clear hc0 hc1 hlent
  dsimp only
  go_wp2_with fail
  have hB0 := BookInts.new w1
  have hv1 := hv.chg ((Chg.refl [] w1).alloc (.cells #[.slice none 0 0, .slice none 0 0, .slice none 0 0, .slice none 0 0, .slice none 0 0, .slice none 0 0, .slice none 0 0, .slice none 0 0, .slice none 0 0, .slice none 0 0, .slice none 0 0, .slice none 0 0, .slice none 0 0, .slice none 0 0, .slice none 0 0, .slice none 0 0, .slice none 0 0, .slice none 0 0, .slice none 0 0, .slice none 0 0] 37)) (by simp)
  have hz2 := hz1.alloc (.cells #[.slice none 0 0, .slice none 0 0, .slice none 0 0, .slice none 0 0, .slice none 0 0, .slice none 0 0, .slice none 0 0, .slice none 0 0, .slice none 0 0, .slice none 0 0, .slice none 0 0, .slice none 0 0, .slice none 0 0, .slice none 0 0, .slice none 0 0, .slice none 0 0, .slice none 0 0, .slice none 0 0, .slice none 0 0, .slice none 0 0] 37)
  have hp0 : g < w1.heap.size := hgl
  have hpw : w.heap.size ≤ w1.heap.size := hz1.size
  generalize w1.heap.size = p at *
  clear hv hf hgl hz1
  go_loopw [7] (fun iv wr => ∃ (j : Nat) (L : List Kept) (R : List Nat), j ≤ 2 ∧ iv = .int .i64 j ∧ BookInts wr p L R ∧ L.length = j ∧ (∀ K ∈ L, ElInts K.xs ∧ K.n ≤ 90000) ∧ (∀ g' ∈ R, p < g') ∧ Lent wr (.slice (some ⟨g, 0, none⟩) n k) n l g ∧ Chg [] w wr) (fun iv _ => 2 - (intOf iv).toNat)
  case atStart => exact ⟨0, [], [], by omega, rfl, hB0, rfl, by simp, by simp, hv1, hz2⟩
  case round =>
    clear hB0 hv1 hz2
    obtain ⟨j, L, R, hj, rfl, hB, hLl, hE, hR, hv, hz⟩ := hrel
    replace hLl := Lib.hid hLl
    by_cases hlt : j < 2
    · obtain ⟨k', e', hf⟩ := hv.fix hl.out
      go_wp2_with fail
      refine (hm _ _ _ hf.src).mono ?_
      rintro e w2 ⟨A2, c2, F2, rfl, hf2, hF2, hc2⟩
      have hB2 := hB.keep hc2
      have hv2 := hv.chg hc2 (by simp)
      have hz2 := hz.trans' hc2
      have hpl := hB.lt
      have hs2 := hc2.size
      dsimp only
      go_wp2_with fail
      refine (hr _ (hs.chg hz2 (by simp))).mono ?_
      rintro e w3 ⟨A3, c3, F3, rfl, hf3, hF3, hc3⟩
      have hB3 := hB2.keep hc3
      have hv3 := hv2.chg hc3 (by simp)
      have hz3 := hz2.trans' hc3
      have hf23 := hf2.chg hc3 (by simp)
      have hRl := hB.foot
      dsimp only
      go_wp2_with fail
      refine (bky_addInts hB3 (by rw [hLl.out]; omega) (K := ⟨.slice A2 S.length c2, S.length, S.map (Value.int .i64), F2⟩) hf23 (oneInts S) (fun g hg h => by have := hF2 g hg; have := hRl g h; omega) (by show S.length ≤ 1000000; omega)).mono ?_
      rintro e w4 ⟨rfl, R4, hB4, hR4, hc4⟩
      have hd2 : ∀ g ∈ F2, g ∉ p :: R := fun g hg h => by
        have := hF2 g hg
        rcases List.mem_cons.1 h with rfl | h
        · omega
        · have := hRl g h; omega
      have hd3 : ∀ g ∈ F3, g ∉ p :: R := fun g hg h => by
        have := hF3 g hg
        rcases List.mem_cons.1 h with rfl | h
        · omega
        · have := hRl g h; omega
      have hf24 := hf23.chg hc4 hd2
      have hf34 := hf3.chg hc4 hd3
      have hv4 := hv3.chg hc4 (by
        intro h
        rcases List.mem_cons.1 h with rfl | h
        · omega
        · have := hR g h; omega)
      have hz4 : Chg [] w w4 := hz3.trans hc4 (fun g' hg' => by
        right
        rcases List.mem_cons.1 hg' with rfl | h
        · omega
        · have := hR g' h; omega)
      dsimp only
      go_wp2_with fail
      refine (bkc_sameInts hf24.src hf34.src (el_ints S) (by omega)).mono ?_
      rintro e w5 ⟨rfl, m5, rfl⟩
      dsimp only
      go_wp2_with fail
      go_roundw
      case measure => simp [intOf]; omega
      case rel =>
        refine ⟨j + 1, L ++ [_], R4, by omega, by go_num, hB4.keep ((Chg.refl _ _).drewN _), by simp [hLl.out], ?_, ?_, hv4.chg ((Chg.refl [] _).drewN _) (by simp), hz4.drewN _⟩
        · intro K hK
          rcases List.mem_append.1 hK with hK | hK
          · exact hE K hK
          · obtain rfl : K = _ := by simpa using hK
            exact ⟨el_ints S, by show S.length ≤ 90000; omega⟩
        · intro g' hg'
          have hs3 := hc3.size
          rcases hR4 g' hg' with h | h | h
          · exact hR g' h
          · have := hF2 g' h; omega
          · omega
    · obtain rfl : j = 2 := by omega
      have hst := bk_staysInts (d := c) hv (hs.chg hz (by simp)) (by omega)
      have hap := fun w' (h : Chg [] wr w') => bky_apartInts (hB.keep h) hE (by rw [hLl.out]; omega)
      clear hl
      go_wp2_with fail
      refine hst.mono ?_
      rintro e w2 ⟨rfl, hc2⟩
      dsimp only
      go_wp2_with fail
      refine (hap _ hc2).mono ?_
      rintro e w3 ⟨rfl, hc3⟩
      dsimp only
      go_wp2_with fail
      go_ret
      exact ⟨by trivial, (hz.trans' hc2).trans hc3 (fun g' hg' => by have := hR g' hg'; right; omega)⟩
set_option maxRecDepth 8000 in
theorem moneySplits_walk (w : World) (a : Int) (wa : (Lit.int .i64 a).wf = true) (A : Option Addr) (n c : Nat) (l : List Int) (x : l.length = n ∧ n ≤ c ∧ c ≤ maxLen ∧ Src w 1 A n (l.map (Value.int .i64)) ∧ ∀ x ∈ l, (Lit.int .i64 x).wf = true) (y : n * 8 ≤ 140737488351232) :
    Calls Try.prog 3 #[.int .i64 a, .slice A n c] w fun e w' => e = .returned (.bool true) ∧ Chg [] w w' := by
  obtain ⟨h1, h2, h3, h4, h5⟩ := x
  by_cases h : n ≤ 30
  · exact splits_in h4 h
  · have b1 : decide (30 < (n : Int)) = true := by simp; omega
    go_enter Try.func3, Try.ntmps3
    go_wp2_with (go_at_call 10; refine (m_alive _).mono ?_; rintro e w0 ⟨rfl, hc0⟩)
    go_ret
    exact ⟨by trivial, hc0⟩
end Go.Proofs.Ytlkmdmaemjfelaa
