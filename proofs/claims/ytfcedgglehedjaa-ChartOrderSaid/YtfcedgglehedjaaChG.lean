/- Charts: alive; ChartDebits. -/
import Derived.Test.YtfcedgglehedjaaChF
namespace Go.Proofs.Ytfcedgglehedjaa
open Go.RowKit Go.Vx Go.Maps Go.Sort Go.Shelf
set_option linter.unusedVariables false
set_option linter.unusedSimpArgs false

/-- A chart made behind w0. -/
structure CNew (w0 w : World) (p : Nat) (L : CL) : Prop where
  ex : ∃ F, CAt w p L F ∧ ∀ g, g ∈ p :: F → w0.heap.size ≤ g
  chg : Chg [] w0 w
section
variable {w0 w w' : World} {p : Nat} {L L' : CL}
theorem CNew.keep (h : CNew w0 w p L) (k : Chg [] w w') : CNew w0 w' p L := by
  obtain ⟨F, h1, h2⟩ := h.ex
  exact ⟨⟨F, h1.keep k, h2⟩, h.chg.trans' k⟩
theorem CNew.post (h : CNew w0 w p L) {F : List Nat} (hF : ∀ g, g ∈ p :: F → w0.heap.size ≤ g) {r : Int} {e : Ending} (k : ChPost w p F r L' e w') : e = .returned (.int .i64 r) ∧ CNew w0 w' p L' := by
  obtain ⟨rfl, F', h1, h2, h3⟩ := k
  have hs := h.chg.size
  refine ⟨rfl, ⟨F', h1, fun g hg => ?_⟩, h.chg.trans h3 fun g hg => .inr (hF g hg)⟩
  rcases List.mem_cons.1 hg with rfl | hg
  · exact hF _ (by simp)
  · rcases h2 g hg with e | e
    · exact hF g (by simp [e])
    · omega
theorem CNew.add (h : CNew w0 w p L) (hL : L.length < 100000) (c k : Int) {r : Int} (hr : putE L ⟨c, k, false⟩ = r) (hL' : putL L ⟨c, k, false⟩ = L') : Calls Try.prog 10 #[.pointer (some ⟨p, 0, none⟩), .int .i64 c, .int .i64 k] w fun e w' => e = .returned (.int .i64 r) ∧ CNew w0 w' p L' := by
  subst hr hL'
  obtain ⟨F, h1, h2⟩ := h.ex
  exact (ch_add h1 hL c k).mono fun e w' hq => h.post h2 hq
theorem CNew.retire (h : CNew w0 w p L) (hL : L.length < 100000) {k : Int} (hk : (Lit.int .i64 k).wf = true) {r : Int} (hr : retE L k = r) (hL' : retL L k = L') : Calls Try.prog 15 #[.pointer (some ⟨p, 0, none⟩), .int .i64 k] w fun e w' => e = .returned (.int .i64 r) ∧ CNew w0 w' p L' := by
  subst hr hL'
  obtain ⟨F, h1, h2⟩ := h.ex
  exact (ch_retire h1 hL hk).mono fun e w' hq => h.post h2 hq
theorem CNew.live (h : CNew w0 w p L) {A : Option Addr} {n c : Nat} {ks : List Int} (hs : Src w 1 A n (ks.map (Value.int .i64))) (hn : n ≤ 1000000) (hks : ∀ k ∈ ks, (Lit.int .i64 k).wf = true) {r : Int} (hr : liveL L ks = r) :
    Calls Try.prog 9 #[.pointer (some ⟨p, 0, none⟩), .slice A n c] w fun e w' => e = .returned (.int .i64 r) ∧ Chg [] w w' := by
  subst hr
  obtain ⟨F, h1, h2⟩ := h.ex
  exact ch_live h1 hs hn hks
theorem CNew.get (h : CNew w0 w p L) {k : Int} (hk : (Lit.int .i64 k).wf = true) : Calls Try.prog 6 #[.pointer (some ⟨p, 0, none⟩), .int .i64 k] w fun e w' => e = .returned (.tuple #[accV ((getC L k).getD zAcc), .bool (getC L k).isSome]) ∧ Chg [] w w' := by
  obtain ⟨F, h1, h2⟩ := h.ex
  exact ch_get h1 hk
theorem CNew.all (h : CNew w0 w p L) (hL : Good L) (hn : L.length ≤ 100000) : Calls Try.prog 8 #[.pointer (some ⟨p, 0, none⟩)] w fun e w' => ∃ v F', e = .returned v ∧ Fix w' 28 3 v L.length (L.flatMap accEnc) F' ∧ (∀ g ∈ F', w.heap.size ≤ g) ∧ Chg [] w w' := by
  obtain ⟨F, h1, h2⟩ := h.ex
  exact ch_all h1 hL.srt hn hL.wf
end
theorem one_src {w : World} {k : Int} : Src (w.alloc (.cells #[.int .i64 k] 3)) 1 (some ⟨w.heap.size, 0, none⟩) 1 (([k] : List Int).map (Value.int .i64)) := Src.one1 rfl
set_option maxRecDepth 100000 in
set_option maxHeartbeats 4000000 in
theorem l3_alive (w : World) : Calls Try.prog 5 #[] w fun e w' => e = .returned (.bool true) ∧ Chg [] w w' := by
  have hnew := ch_new (w := w) (A := none) (n := 0) (c := 0) (l := []) ⟨rfl, by simp⟩ (by omega)
  have hd := ch_debit 5
  go_enter Try.func5, Try.ntmps5
  go_wp2_with fail
  refine hnew.mono ?_
  rintro e w1 (⟨-, p, F, rfl, h1, h2, h3⟩ | ⟨h, -⟩)
  · have hc : CNew w w1 p [] := ⟨⟨F, h1, h2⟩, h3⟩
    clear h1 h2 h3 hnew
    go_wp2_with fail
    refine (hc.add (by decide) 100 1 (r := 0) (L' := [⟨100, 1, false⟩]) rfl rfl).mono ?_
    rintro e w2 ⟨rfl, hc2⟩
    go_wp2_with fail
    refine (hc2.add (by decide) 100 1 (r := 7) (L' := [⟨100, 1, false⟩]) rfl rfl).mono ?_
    rintro e w3 ⟨rfl, hc3⟩
    go_wp2_with fail
    refine (hc3.retire (by decide) (k := 100) (by decide) (r := 0) (L' := [⟨100, 1, true⟩]) rfl rfl).mono ?_
    rintro e w4 ⟨rfl, hc4⟩
    go_wp2_with fail
    refine ((hc4.keep ((Chg.refl [] w4).alloc _)).live one_src (by omega) (by decide) (r := 5) rfl).mono ?_
    rintro e w5 ⟨rfl, hz5⟩
    go_wp2_with fail
    refine (hd _).mono ?_
    rintro e w6 ⟨rfl, rfl⟩
    go_wp2_with fail
    go_ret
    exact ⟨rfl, (hc4.chg.alloc _).trans' hz5⟩
  · exact absurd rfl h
set_option maxRecDepth 100000 in
set_option maxHeartbeats 4000000 in
theorem chartDebits_walk (kind : Int) (wk : (Lit.int .i64 kind).wf = true) (code : Int) (wc : (Lit.int .i64 code).wf = true) (w : World) : Calls Try.prog 3 #[.int .i64 kind, .int .i64 code] w fun e w' => e = .returned (.bool true) ∧ Chg [] w w' := by
  have hal := l3_alive w
  have hd := ch_debit kind
  have hr := r_row code kind
  have hpe : putE [] ⟨code, kind, false⟩ = if rowB code kind then 0 else 1 := rfl
  have hdb : (kind = 1 ∧ debitB kind = true) ∨ (((kind == 1) = false) ∧ (kind == 5) = debitB kind) := by
    by_cases h : kind = 1
    · exact .inl ⟨h, by rw [h]; rfl⟩
    · exact .inr ⟨by simpa using h, by simp [debitB, h]⟩
  generalize debitB kind = db at *
  generalize rowB code kind = rb at *
  go_enter Try.func3, Try.ntmps3
  go_wp2_with fail
  refine hal.mono ?_
  rintro e w1 ⟨rfl, hz1⟩
  have hc : CNew w (w1.alloc (.cells #[.map none] 26)) w1.heap.size [] := ⟨⟨[], CAt.new w1, fun g hg => by simp at hg; rw [hg]; exact hz1.size⟩, hz1.alloc _⟩
  clear hal hz1
  go_wp2_with fail
  generalize w1.alloc (.cells #[.map none] 26) = w2 at *
  generalize w1.heap.size = p at *
  refine (hc.get wc).mono ?_
  rintro e w3 ⟨rfl, hz3⟩
  replace hc := hc.keep (hz3.alloc (.cells #[.int .i64 0, .int .i64 0, .bool false] 28))
  simp only [getC, List.find?_nil, Option.getD_none, Option.isSome_none, accV, zAcc]
  clear hz3
  go_wp2_with fail
  generalize w3.alloc (.cells #[.int .i64 0, .int .i64 0, .bool false] 28) = w4 at *
  have hall := fun w' (k : Chg [] w4 w') => (hc.keep k).all Good.nil (by simp)
  refine (hd _).mono ?_
  rintro e w5 ⟨rfl, rfl⟩
  rcases hdb with ⟨rfl, rfl⟩ | ⟨hdb, rfl⟩
  all_goals
    go_wp2_with fail
    refine (hall _ (Chg.refl _ _)).mono ?_
    rintro e w6 ⟨v, F', rfl, hf, -, hz6⟩
    obtain ⟨A', c', rfl, -⟩ := _root_.id hf
    clear hall hf
    simp only [List.length_nil]
    go_wp2_with fail
    refine ((hc.keep (hz6.alloc _)).live one_src (by omega) (by simpa using wc) (r := 4) rfl).mono ?_
    rintro e w7 ⟨rfl, hz7⟩
    replace hc := hc.keep ((hz6.alloc _).trans' hz7)
    clear hz6 hz7
    go_wp2_with fail
    cases rb with
    | true =>
      refine (hc.add (by simp) code _ hpe rfl).mono ?_
      rintro e w8 ⟨rfl, hc8⟩
      simp only [if_true]
      go_wp2_with fail
      refine (hr _).mono ?_
      rintro e w9 ⟨rfl, rfl⟩
      go_wp2_with fail
      go_ret
      exact ⟨by first | rfl | simp, hc8.chg⟩
    | false =>
      refine (hc.add (by simp) code _ hpe rfl).mono ?_
      rintro e w8 ⟨rfl, hc8⟩
      simp only [Bool.false_eq_true, if_false]
      go_wp2_with fail
      refine (hr _).mono ?_
      rintro e w9 ⟨rfl, rfl⟩
      go_wp2_with fail
      go_ret
      exact ⟨by first | rfl | simp, hc8.chg⟩
end Go.Proofs.Ytfcedgglehedjaa
