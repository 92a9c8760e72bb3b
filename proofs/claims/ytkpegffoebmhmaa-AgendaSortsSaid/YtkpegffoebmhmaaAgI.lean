/- AgendaSorts. -/
import Derived.Test.YtkpegffoebmhmaaAgH
import Derived.Laws.Slices
namespace Go.Proofs.Ytkpegffoebmhmaa
open Go.RowKit Go.Vx
set_option linter.unusedVariables false
set_option linter.unusedSimpArgs false

theorem turn_of (turn : Int) (n : Nat) (h : 0 < n) (hn : n ≤ 100) : ∃ k : Nat, k < n ∧ (turn.tmod n + n).tmod n = (k : Int) ∧ -100 ≤ turn.tmod n ∧ turn.tmod n ≤ 100 := by
  have h1 : -(n : Int) < turn.tmod n ∧ turn.tmod n < n := by
    rcases Int.lt_or_le turn 0 with h0 | h0
    · have e : turn.tmod n = -((-turn) % n) := by rw [← Int.tmod_eq_emod_of_nonneg (by omega), Int.neg_tmod, Int.neg_neg]
      have h2 := Int.emod_nonneg (-turn) (show (n : Int) ≠ 0 by omega)
      have h3 := Int.emod_lt_of_pos (-turn) (show (0 : Int) < n by omega)
      omega
    · rw [Int.tmod_eq_emod_of_nonneg h0]
      have h2 := Int.emod_nonneg turn (show (n : Int) ≠ 0 by omega)
      have h3 := Int.emod_lt_of_pos turn (show (0 : Int) < n by omega)
      omega
  generalize turn.tmod n = t at *
  rw [Int.tmod_eq_emod_of_nonneg (by omega)]
  have h2 := Int.emod_nonneg (t + n) (show (n : Int) ≠ 0 by omega)
  have h3 := Int.emod_lt_of_pos (t + n) (show (0 : Int) < n by omega)
  exact ⟨((t + n) % n).toNat, by omega, by omega, by omega, by omega⟩
/-- Both agendas, as the loop finds them. -/
structure Both (w wr : World) (pa pb : Nat) (n i : Nat) (SA SB : List Slot) (mA mB : Int) (FA FB : List Nat) : Prop where
  a : AgAt wr pa SA mA FA
  b : AgAt wr pb SB mB FB
  same : SA.map item = SB.map item
  len : SA.length + i = n
  m0 : 0 ≤ mA
  m1 : mA ≤ n + i
  apart : ∀ g, g ∈ pa :: FA → g ∉ pb :: FB
  far : ∀ g, g ∈ pa :: FA ∨ g ∈ pb :: FB → w.heap.size ≤ g
  chg : Chg [] w wr
set_option maxRecDepth 8000 in
set_option maxHeartbeats 4000000 in
theorem sorts_in {w : World} {ad : Addr} {n c : Nat} {l : List Item} (hs : Src w 3 (some ad) n (l.flatMap itEnc)) (hl : l.length = n) (hn : n ≤ 60) (h0 : 0 < n) (hc : n ≤ c) (turn : Int) :
    Calls Try.prog 3 #[.slice (some ad) n c, .int .i64 turn] w fun e w' => e = .returned (.bool true) ∧ Chg [] w w' := by
  obtain ⟨k, hk, ek, t1, t2⟩ := turn_of turn n h0 (by omega)
  have nz : ¬ (n : Int) = 0 := by omega
  have hk1 : k ≤ n := by omega
  have hk2 : k ≤ c := by omega
  have hk3 : ¬ c = k := by omega
  have hs1 := Src.drop3 hs hl hk1
  have hs2 := Src.take3 hs hl hk1
  have hAb : ad.block < w.heap.size := by
    obtain ⟨ad', e, hc⟩ := hs.2 h0
    injection e with e
    subst e
    have h3 : 0 < (l.flatMap itEnc).length := by rw [hs.1]; omega
    exact Go.Clock.block_lt (hc 0 _ (List.getElem?_eq_getElem h3))
  replace hl := Lib.hid hl
  go_enter Try.func3, Try.ntmps3
  go_wp2_with (go_at_call 6; refine (ag_alive _).mono ?_; rintro e w0 ⟨rfl, hc0⟩)
  have hw0 := hc0.size
  have hz0 : Chg [] w ((w0.alloc (.cells #[.slice none 0 0, .int .i64 0] 28)).alloc (.cells #[.slice none 0 0, .int .i64 0] 28)) := (hc0.alloc _).alloc _
  have ha := (AgAt.new w0).chg ((Chg.refl [] _).alloc (.cells #[.slice none 0 0, .int .i64 0] 28)) (by simp)
  have hb := AgAt.new (w0.alloc (.cells #[.slice none 0 0, .int .i64 0] 28))
  simp only [World.size_alloc] at hb
  have hput := ag_put ha (by simp) (by omega) (by omega) (c := c) (hs.chg hz0 (by simp)) hl.out (by omega) (fun _ ad' e => by injection e with e; subst e; simp; omega)
  refine hput.mono ?_
  rintro e w1 ⟨rfl, FA, h1, hc1, hF1⟩
  have hlk : l.length = n := hl.out
  have hpA := puts_items l ([], 0) (by simp; omega)
  have hcA := puts_cnt l ([], 0) (by simp)
  obtain ⟨SA, mA, hSA⟩ : ∃ S m, puts ([], 0) l = (S, m) := ⟨_, _, rfl⟩
  rw [hSA] at hpA hcA h1
  replace h1 : AgAt w1 w0.heap.size SA mA FA := h1
  have hFA : ∀ g, g ∈ FA → w0.heap.size + 2 ≤ g := fun g hg => by have := hF1 g hg; simp at this; omega
  have hb1 := hb.chg hc1 (by simp)
  have hz1 := hz0.trans hc1 (fun g hg => .inr (by simp at hg; omega))
  have hdk : (l.drop k).length = n - k := by rw [List.length_drop, hlk]
  have htk : (l.take k).length = k := by rw [List.length_take]; omega
  have hput2 := ag_put hb1 (by simp) (by omega) (by omega) (c := c - k) (hs1.chg hz1 (by simp)) hdk (by omega) (fun _ ad' e => by injection e with e; subst e; rw [add_block]; simp; omega)
  clear hput ha hb hc1 hF1 hSA
  dsimp only
  go_wp2_with fail
  refine hput2.mono ?_
  rintro e w2 ⟨rfl, FB, h2, hc2, hF2⟩
  have hpB := puts_items (l.drop k) ([], 0) (by simp; omega)
  have hcB := puts_cnt (l.drop k) ([], 0) (by simp)
  obtain ⟨SB, mB, hSB⟩ : ∃ S m, puts ([], 0) (l.drop k) = (S, m) := ⟨_, _, rfl⟩
  rw [hSB] at hpB hcB h2
  replace h2 : AgAt w2 (w0.heap.size + 1) SB mB FB := h2
  have hFB : ∀ g, g ∈ FB → w1.heap.size ≤ g := fun g hg => by have := hF2 g hg; simp at this; omega
  have hw1 := hz1.size
  have hAlt := h1.lt
  have hpa := hAlt w0.heap.size (by simp)
  have h1b := h1.chg hc2 (fun g hg hg' => by
    simp only [List.mem_cons, List.not_mem_nil, or_false] at hg'
    rcases List.mem_cons.1 hg with rfl | hg
    · omega
    · have := hFA g hg; omega)
  have hz2 := hz1.trans hc2 (fun g hg => .inr (by simp at hg; omega))
  have hBl : SB.length = n - k := by
    have := hpB.length_eq
    simp at this
    rw [this, hlk]
  have hput3 := ag_put h2 (by omega) (by have := hcB.1; simpa using this) (by have := hcB.2; simp at this; omega) (c := c) (hs2.chg hz2 (by simp)) htk (by omega) (fun _ ad' e => by
    injection e with e
    subst e
    intro hg
    rcases List.mem_cons.1 hg with h | hg
    · omega
    · have := hFB _ hg; have := hz1.size; omega)
  clear hput2 hc2 hF2 hSB
  dsimp only
  go_wp2_with fail
  refine hput3.mono ?_
  rintro e w3 ⟨rfl, FB3, h3, hc3, hF3⟩
  have hpC := puts_items (l.take k) (SB, mB) (by simp only [hBl]; omega)
  obtain ⟨SC, mC, hSC⟩ : ∃ S m, puts (SB, mB) (l.take k) = (S, m) := ⟨_, _, rfl⟩
  rw [hSC] at hpC h3
  replace h3 : AgAt w3 (w0.heap.size + 1) SC mC FB3 := h3
  have hltB := h2.lt
  have hFBl : ∀ g, g ∈ FB3 → w0.heap.size + 1 < g ∧ g ∉ FA := fun g hg => by
    rcases hF3 g hg with h | h
    · have := hFB g h
      have h4 := hAlt
      have := hb1.lt (w0.heap.size + 1) (by simp)
      refine ⟨by omega, fun hg' => ?_⟩
      have := h4 g (by simp [hg'])
      omega
    · have := hz2.size
      have h5 := h1b.lt
      have h6 := hltB (w0.heap.size + 1) (by simp)
      exact ⟨by omega, fun hg' => by have := h5 g (by simp [hg']); omega⟩
  have h1c := h1b.chg hc3 (fun g hg hg' => by
    rcases List.mem_cons.1 hg with rfl | hg
    · rcases List.mem_cons.1 hg' with h | hg'
      · omega
      · have := hFB _ hg'; omega
    · rcases List.mem_cons.1 hg' with rfl | hg'
      · have := hFA _ hg; omega
      · have := hFB _ hg'; have := hAlt g (by simp [hg]); omega)
  have hz3 := hz2.trans hc3 (fun g hg => .inr (by
    rcases List.mem_cons.1 hg with rfl | hg
    · omega
    · have := hFB g hg; omega))
  have hsame : SA.map item = SC.map item := by
    refine items_eq h1.srt h3.srt (hpA.trans ?_)
    refine List.Perm.trans ?_ hpC.symm
    refine List.Perm.trans ?_ ((hpB.symm).append_left (l.take k))
    simp
  have hAl : SA.length = n := by
    have := hpA.length_eq
    simp at this
    rw [this, hlk]
  have hstart : Both w w3 w0.heap.size (w0.heap.size + 1) n 0 SA SC mA mC FA FB3 := by
    refine ⟨h1c, h3, hsame, by omega, by have := hcA.1; simpa using this, by have := hcA.2; simp at this; omega, ?_, ?_, hz3⟩
    · intro g hg hg'
      rcases List.mem_cons.1 hg with rfl | hg
      · rcases List.mem_cons.1 hg' with h | hg'
        · omega
        · have := (hFBl _ hg').1; omega
      · rcases List.mem_cons.1 hg' with rfl | hg'
        · have := hFA _ hg; omega
        · exact (hFBl g hg').2 hg
    · intro g hg
      rcases hg with hg | hg
      · rcases List.mem_cons.1 hg with rfl | hg
        · exact hw0
        · have := hFA g hg; omega
      · rcases List.mem_cons.1 hg with rfl | hg
        · omega
        · have := (hFBl g hg).1; omega
  clear hput3 h1 h2 h3 h1b h1c hb1 hc3 hF3 hSC hpA hpB hpC hsame hs1 hs2 hdk htk hFA hFB hFBl hAlt hltB hcA hcB hz1 hz2 hz3 hz0 hs hAb
  replace hlk := Lib.hid hlk
  replace hAl := Lib.hid hAl
  replace hBl := Lib.hid hBl
  replace hstart := Lib.hid hstart
  dsimp only
  go_wp2_with fail
  go_loopw [8] (fun iv wr => ∃ (i : Nat) (SA SB : List Slot) (mA mB : Int) (FA FB : List Nat), i ≤ n ∧ iv = .int .i64 i ∧ Both w wr w0.heap.size (w0.heap.size + 1) n i SA SB mA mB FA FB) (fun iv _ => n - (intOf iv).toNat)
  case atStart => exact ⟨0, SA, SC, mA, mC, FA, FB3, by omega, rfl, hstart.out⟩
  case round =>
    clear hstart
    obtain ⟨i, SA, SB, mA, mB, FA, FB, hi, rfl, hB⟩ := hrel
    have hAl := hB.len
    by_cases hlt : i < n
    · obtain ⟨x, SA, rfl⟩ : ∃ x S, SA = x :: S := by
        cases SA with
        | nil => simp at hAl; omega
        | cons x S => exact ⟨x, S, rfl⟩
      obtain ⟨y, SB, rfl⟩ : ∃ y S, SB = y :: S := by
        have := hB.same
        cases SB with
        | nil => simp at this
        | cons x S => exact ⟨x, S, rfl⟩
      have hs := hB.same
      simp only [List.map_cons, List.cons.injEq] at hs
      obtain ⟨hxy, hst⟩ := hs
      simp only [item, Prod.mk.injEq] at hxy
      obtain ⟨e1, e2, e3⟩ := hxy
      rw [List.length_cons] at hAl
      have hBl : SB.length = SA.length := by simpa using (congrArg List.length hst).symm
      have hBb : SB.length < 999999 := by omega
      have hAb2 : SA.length < 999999 := by omega
      replace e1 := Lib.hid e1
      replace e2 := Lib.hid e2
      replace e3 := Lib.hid e3
      replace hst := Lib.hid hst
      replace hBl := Lib.hid hBl
      have hn1 := ag_next hB.a hAb2
      go_wp2_with fail
      refine hn1.mono ?_
      rintro e w1 ⟨rfl, h1, hc1⟩
      have hb1 := hB.b.chg hc1 (fun g hg hg' => hB.apart g hg' hg)
      have hz1 : Chg [] w w1 := hB.chg.trans hc1 (fun g hg => .inr (hB.far g (.inl hg)))
      have hb2 := hb1.chg ((Chg.refl [] _).alloc (.cells #[.int .i64 x.1, .int .i64 x.2.1, .int .i64 x.2.2.1] 31)) (by simp)
      have ha2 := h1.chg ((Chg.refl [] _).alloc (.cells #[.int .i64 x.1, .int .i64 x.2.1, .int .i64 x.2.2.1] 31)) (by simp)
      have hk := Blk.new w1 31 #[.int .i64 x.1, .int .i64 x.2.1, .int .i64 x.2.2.1]
      have hltB := hb1.lt
      have hltA := h1.lt
      have hn2 := ag_next hb2 hBb
      rw [← e1.out, ← e2.out, ← e3.out] at hn2
      dsimp only
      go_wp2_with fail
      refine hn2.mono ?_
      rintro e w2 ⟨rfl, h2, hc2⟩
      have hk2 := hk.chg hc2 (fun hg => Nat.lt_irrefl _ (hltB _ hg))
      have ha3 := ha2.chg hc2 (hB.apart)
      have hz2 : Chg [] w w2 := (hz1.alloc _).trans hc2 (fun g hg => .inr (hB.far g (.inr hg)))
      have ha4 := ha3.chg ((Chg.refl [] _).alloc (.cells #[.int .i64 x.1, .int .i64 x.2.1, .int .i64 x.2.2.1] 31)) (by simp)
      have hb4 := h2.chg ((Chg.refl [] _).alloc (.cells #[.int .i64 x.1, .int .i64 x.2.1, .int .i64 x.2.2.1] 31)) (by simp)
      have hk3 := hk2.alloc (.cells #[.int .i64 x.1, .int .i64 x.2.1, .int .i64 x.2.2.1] 31)
      have z0 := hk3.cell 0
      have z1 := hk3.cell 1
      have z2 := hk3.cell 2
      simp at z0 z1 z2
      have hz3 := hz2.alloc (.cells #[.int .i64 x.1, .int .i64 x.2.1, .int .i64 x.2.2.1] 31)
      have hw2lt := h2.lt
      have hsrt := hB.a.srt
      cases SA with
      | nil =>
        have hSB : SB = [] := List.length_eq_zero_iff.1 (by simpa using hBl.out)
        subst hSB
        have hn3 := ag_next_none ha4
        clear hn1 hn2 hb1 hb2 ha2 ha3 h1 h2 hk hk2 hk3
        dsimp only
        go_wp2_with fail
        refine hn3.mono ?_
        rintro e w3 ⟨rfl, hc3⟩
        dsimp only
        go_wp2_with fail
        go_roundw
        case measure => simp [intOf]; omega
        case rel =>
          simp only [List.length_nil] at hAl
          refine ⟨i + 1, [], [], mA, mB, FA, FB, by omega, by go_num, ⟨(ha4.chg hc3 (by simp)).chg ((Chg.refl [] _).alloc _) (by simp), (hb4.chg hc3 (by simp)).chg ((Chg.refl [] _).alloc _) (by simp), rfl, by simp; omega, hB.m0, by have := hB.m1; omega, hB.apart, hB.far, (hz3.trans' hc3).alloc _⟩⟩
      | cons z SA =>
        have hzx := (List.pairwise_cons.1 hsrt).1 z (by simp)
        have hn3 := ag_next ha4 (by simp at hAl; omega)
        clear hn1 hn2 hb1 hb2 ha2 ha3 h1 h2 hk hk2
        dsimp only
        go_wp2_with fail
        refine hn3.mono ?_
        rintro e w3 ⟨rfl, h3, hc3⟩
        have hk4 := (hk3.chg hc3 (fun hg => Nat.lt_irrefl _ (hltA _ hg))).alloc (.cells #[.int .i64 z.1, .int .i64 z.2.1, .int .i64 z.2.2.1] 31)
        have y0 := hk4.cell 0
        have y1 := hk4.cell 1
        have y2 := hk4.cell 2
        simp at y0 y1 y2
        have hb5 := hb4.chg hc3 (fun g hg hg' => hB.apart g hg' hg)
        have hz4 := hz3.trans hc3 (fun g hg => .inr (hB.far g (.inl hg)))
        have hA5 : SA.length + 2 + i = n := by simp at hAl; omega
        have hput := ag_put ((h3.chg ((Chg.refl [] _).alloc (.cells #[.int .i64 z.1, .int .i64 z.2.1, .int .i64 z.2.2.1] 31)) (by simp)).chg ((Chg.refl [] _).alloc (.cells #[.int .i64 z.1, .int .i64 z.2.1, .int .i64 z.2.2.1] 31)) (by simp)) (by omega) hB.m0 (by have := hB.m1; omega) (n := 1) (c := 1) (l := [item z]) (Src.lit (B := w3.heap.size + 1) (by simp) rfl) rfl (by omega) (fun _ ad' e => by
          injection e with e
          subst e
          intro hg
          have := h3.lt _ hg
          simp at this
          omega)
        have hpi := puts_items [item z] (SA, mA) (by simp; omega)
        have hpc := puts_cnt [item z] (SA, mA) hB.m0
        have hm1 := hB.m1
        have hlt3 := h3.lt
        have hlt5 := hb5.lt
        replace hA5 := Lib.hid hA5
        replace hAl := Lib.hid hAl
        clear z0 z1 z2 hk3 hn3 ha4
        dsimp only
        rcases slLt_cases hzx with ⟨b1, b2⟩ | ⟨b1, b2, b3, b4⟩ | ⟨b1, b2, b3, b4, b5⟩
        all_goals
          clear hzx
          go_wp2_with fail
          refine hput.mono ?_
          rintro e w5 ⟨rfl, FA5, h5, hc5, hF5⟩
          dsimp only
          go_wp2_with fail
          go_roundw
          case measure => simp [intOf]; omega
          case rel =>
            have hz5 := (((hz4.alloc (.cells #[.int .i64 z.1, .int .i64 z.2.1, .int .i64 z.2.2.1] 31)).alloc (.cells #[.int .i64 z.1, .int .i64 z.2.1, .int .i64 z.2.2.1] 31)).trans hc5 (fun g hg => .inr (hB.far g (.inl hg))))
            have hb6 := ((hb5.chg ((Chg.refl [] _).alloc (.cells #[.int .i64 z.1, .int .i64 z.2.1, .int .i64 z.2.2.1] 31)) (by simp)).chg ((Chg.refl [] _).alloc (.cells #[.int .i64 z.1, .int .i64 z.2.1, .int .i64 z.2.2.1] 31)) (by simp)).chg hc5 (fun g hg hg' => hB.apart g hg' hg)
            refine ⟨i + 1, _, SB, _, mB, FA5, FB, by omega, by go_num, ⟨h5, hb6, ?_, ?_, hpc.1, ?_, ?_, ?_, hz5⟩⟩
            · refine items_eq h5.srt hb6.srt (hpi.trans ?_)
              rw [← hst.out]
              exact List.Perm.refl _
            · have := hpi.length_eq
              simp at this
              have := hA5.out
              omega
            · have := hpc.2
              simp at this
              omega
            · intro g hg hg'
              rcases List.mem_cons.1 hg with rfl | hg
              · exact hB.apart _ (by simp) hg'
              · rcases hF5 g hg with h | h
                · exact hB.apart g (by simp [h]) hg'
                · have := hlt5 g hg'
                  simp at h
                  omega
            · intro g hg
              rcases hg with hg | hg
              · rcases List.mem_cons.1 hg with rfl | hg
                · exact hB.far _ (.inl (by simp))
                · rcases hF5 g hg with h | h
                  · exact hB.far g (.inl (by simp [h]))
                  · have := hz4.size
                    simp at h
                    omega
              · exact hB.far g (.inr hg)
    · obtain rfl : i = n := by omega
      have hA0 : SA = [] := List.length_eq_zero_iff.1 (by omega)
      subst hA0
      have hB0 : SB = [] := by have := hB.same; simpa using this.symm
      subst hB0
      have hl1 := ag_len hB.a
      have hl2 := ag_len hB.b
      rw [List.length_nil] at hl1 hl2
      go_wp2_with fail
      refine hl1.mono ?_
      rintro e w1 ⟨rfl, rfl⟩
      dsimp only
      go_wp2_with fail
      refine hl2.mono ?_
      rintro e w1 ⟨rfl, rfl⟩
      dsimp only
      go_wp2_with fail
      go_ret
      exact ⟨by trivial, hB.chg⟩
end Go.Proofs.Ytkpegffoebmhmaa
