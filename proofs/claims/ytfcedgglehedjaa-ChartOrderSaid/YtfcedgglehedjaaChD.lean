/- Charts: Add, Get, Live, Retire. -/
import Derived.Test.YtfcedgglehedjaaChC
import Derived.Test.YtfcedgglehedjaaRows2
namespace Go.Proofs.Ytfcedgglehedjaa
open Go.RowKit Go.Vx Go.Maps
set_option linter.unusedVariables false
set_option linter.unusedSimpArgs false

/-- What put answers, and makes. -/
def putE (L : CL) (a : Acc) : Int := if rowB a.code a.kind then (if (getC L a.code).isSome then 7 else 0) else 1
def putL (L : CL) (a : Acc) : CL := if putE L a = 0 then putC L a else L
theorem putL_len (L : CL) (a : Acc) : (putL L a).length ≤ L.length + 1 := by
  unfold putL
  split
  · exact putC_len L a
  · omega
theorem putL_srt {L : CL} (h : SrtC L) (a : Acc) : SrtC (putL L a) := by
  unfold putL
  split
  · exact h.put a
  · exact h
/-- What a call on a chart leaves. -/
def ChPost (w : World) (p : Nat) (F : List Nat) (r : Int) (L' : CL) (e : Ending) (w' : World) : Prop := e = .returned (.int .i64 r) ∧ ∃ F', CAt w' p L' F' ∧ (∀ g, g ∈ F' → g ∈ F ∨ w.heap.size ≤ g) ∧ Chg (p :: F) w w'
theorem ch_put {w : World} {p : Nat} {L : CL} {F : List Nat} (h : CAt w p L F) (hL : L.length < 100000) (a : Acc) : Calls Try.prog 20 #[.pointer (some ⟨p, 0, none⟩), accV a] w (ChPost w p F (putE L a) (putL L a)) := by
  cases hr : rowB a.code a.kind with
  | false =>
    have e : putE L a = 1 := by simp [putE, hr]
    have e2 : putL L a = L := by simp [putL, e]
    refine (ch_put_bad hr p w).mono ?_
    rintro _ w' ⟨rfl, hc⟩
    rw [e, e2]
    exact ⟨rfl, F, h.keep hc, fun g hg => .inl hg, hc.mono (by simp)⟩
  | true =>
    cases ho : getC L a.code with
    | some o =>
      have e : putE L a = 7 := by simp [putE, hr, ho]
      have e2 : putL L a = L := by simp [putL, e]
      refine (ch_put_dup h hr ho).mono ?_
      rintro _ w' ⟨rfl, hc⟩
      rw [e, e2]
      exact ⟨rfl, F, h.keep hc, fun g hg => .inl hg, hc.mono (by simp)⟩
    | none =>
      have e : putE L a = 0 := by simp [putE, hr, ho]
      have e2 : putL L a = putC L a := by simp [putL, e]
      refine (ch_put_ok h hr ho hL).mono ?_
      rintro _ w' ⟨rfl, k⟩
      rw [e, e2]
      exact ⟨rfl, k⟩
theorem ch_add {w : World} {p : Nat} {L : CL} {F : List Nat} (h : CAt w p L F) (hL : L.length < 100000) (c k : Int) : Calls Try.prog 10 #[.pointer (some ⟨p, 0, none⟩), .int .i64 c, .int .i64 k] w (ChPost w p F (putE L ⟨c, k, false⟩) (putL L ⟨c, k, false⟩)) := by
  have hp := ch_put h hL ⟨c, k, false⟩
  unfold accV at hp
  generalize putE L ⟨c, k, false⟩ = r at *
  generalize putL L ⟨c, k, false⟩ = L' at *
  go_enter Try.func10, Try.ntmps10
  go_wp2_with (go_at_call 20; refine hp.mono ?_; rintro e w' ⟨rfl, hq⟩)
  go_ret
  exact ⟨rfl, hq⟩
theorem ch_get {w : World} {p : Nat} {L : CL} {F : List Nat} (h : CAt w p L F) {k : Int} (hk : (Lit.int .i64 k).wf = true) : Calls Try.prog 6 #[.pointer (some ⟨p, 0, none⟩), .int .i64 k] w fun e w' => e = .returned (.tuple #[accV ((getC L k).getD zAcc), .bool (getC L k).isSome]) ∧ Chg [] w w' := by
  have hz := (Chg.refl [] w).alloc (.cells #[.int .i64 0, .int .i64 0, .bool false] 28)
  obtain ⟨m, c0, hl⟩ := (h.keep hz).read hk
  unfold accV at hl ⊢
  generalize (getC L k).isSome = is at *
  generalize (getC L k).getD zAcc = o at *
  obtain ⟨oc, ok, or⟩ := o
  dsimp only at *
  clear h
  go_enter Try.func6, Try.ntmps6
  go_wp2_with fail
  refine bodyPost_ret (v := .tuple #[.agg #[.int .i64 oc, .int .i64 ok, .bool or], .bool is]) (by rw [results_cell_tmp rfl]; go_simp) rfl ?_
  exact ⟨rfl, ((Chg.refl [] w).alloc _).alloc _⟩
/-- Why an account can't be used; the first of some. -/
def liveE (L : CL) (k : Int) : Int := match getC L k with | none => 4 | some a => if a.ret then 5 else 0
def liveL (L : CL) : List Int → Int
  | [] => 0
  | k :: ks => if liveE L k = 0 then liveL L ks else liveE L k
theorem liveL_drop {L : CL} {ks : List Int} {k : Nat} (h : k < ks.length) : liveL L (ks.drop k) = if liveE L ks[k] = 0 then liveL L (ks.drop (k + 1)) else liveE L ks[k] := by
  rw [List.drop_eq_getElem_cons h]
  rfl
set_option maxHeartbeats 1000000 in
theorem ch_live {w : World} {p : Nat} {L : CL} {F : List Nat} (h : CAt w p L F) {A : Option Addr} {n c : Nat} {ks : List Int} (hs : Src w 1 A n (ks.map (Value.int .i64))) (hn : n ≤ 1000000) (hks : ∀ k ∈ ks, (Lit.int .i64 k).wf = true) :
    Calls Try.prog 9 #[.pointer (some ⟨p, 0, none⟩), .slice A n c] w fun e w' => e = .returned (.int .i64 (liveL L ks)) ∧ Chg [] w w' := by
  have hl : ks.length = n := by have := hs.1; simpa using this
  replace hl := Lib.hid hl
  have hd : liveL L ks = liveL L (ks.drop 0) := rfl
  go_enter Try.func9, Try.ntmps9
  go_wp2_with fail
  go_loopw [13] (fun iv wr => ∃ k : Nat, k ≤ n ∧ iv = .int .i64 k ∧ liveL L ks = liveL L (ks.drop k) ∧ Chg [] w wr) (fun iv _ => n - (intOf iv).toNat)
  case atStart => exact ⟨0, by omega, rfl, hd, Chg.refl _ _⟩
  case round =>
    clear hd
    obtain ⟨k, hk, rfl, hd, hc⟩ := hrel
    by_cases hlt : k < n
    · obtain ⟨a, rfl, c1⟩ := (hs.chg hc (by simp)).2 (by omega)
      have d1 := c1 k (.int .i64 (ks[k]'(by rw [hl.out]; exact hlt))) (by simp [hl.out, hlt])
      clear c1
      have hw := hks (ks[k]'(by rw [hl.out]; exact hlt)) (List.getElem_mem _)
      rw [liveL_drop (by rw [hl.out]; exact hlt)] at hd
      generalize (ks[k]'(by rw [hl.out]; exact hlt)) = x at *
      obtain ⟨m, c0, hlk⟩ := (h.keep hc).read hw
      unfold liveE at hd
      unfold accV at hlk
      cases ho : getC L x with
      | none =>
        rw [ho] at hlk hd
        simp only [Option.getD_none, Option.isSome_none, zAcc] at hlk
        have hd' : liveL L ks = 4 := by simpa using hd
        clear hd ho
        go_wp2_with fail
        go_ret
        exact ⟨by rw [hd']; rfl, hc.alloc _⟩
      | some o =>
        rw [ho] at hlk hd
        obtain ⟨oc, ok, or⟩ := o
        simp only [Option.getD_some, Option.isSome_some] at hlk
        clear ho
        cases or with
        | true =>
          have hd' : liveL L ks = 5 := by simpa using hd
          clear hd
          go_wp2_with fail
          go_ret
          exact ⟨by rw [hd']; rfl, hc.alloc _⟩
        | false =>
          have hd' : Hid (liveL L ks = liveL L (ks.drop (k + 1))) := Lib.hid (by simpa using hd)
          clear hd
          go_wp2_with fail
          go_roundw
          case measure => simp [intOf]; omega
          case rel => exact ⟨k + 1, by omega, by go_num, hd'.out, hc.alloc _⟩
    · obtain rfl : k = n := by omega
      rw [List.drop_of_length_le (by rw [hl.out]; exact Nat.le_refl _)] at hd
      have hd' : liveL L ks = 0 := hd
      clear hd
      go_wp2_with fail
      go_ret
      exact ⟨by rw [hd']; rfl, hc⟩
/-- What Retire answers, and makes. -/
def retE (L : CL) (k : Int) : Int := match getC L k with | none => 9 | some a => if a.ret then 5 else 0
def retL (L : CL) (k : Int) : CL := match getC L k with | none => L | some a => if a.ret then L else putC L { a with ret := true }
set_option maxHeartbeats 1000000 in
theorem ch_retire {w : World} {p : Nat} {L : CL} {F : List Nat} (h : CAt w p L F) (hL : L.length < 100000) {k : Int} (hk : (Lit.int .i64 k).wf = true) : Calls Try.prog 15 #[.pointer (some ⟨p, 0, none⟩), .int .i64 k] w (ChPost w p F (retE L k) (retL L k)) := by
  obtain ⟨m, c0, hl⟩ := h.read hk
  unfold retE retL
  unfold accV at hl
  cases ho : getC L k with
  | none =>
    rw [ho] at hl
    simp only [Option.getD_none, Option.isSome_none, zAcc] at hl
    dsimp only
    go_enter Try.func15, Try.ntmps15
    go_wp2_with fail
    go_ret
    exact ⟨rfl, F, h.keep ((Chg.refl _ _).alloc _), fun g hg => .inl hg, (Chg.refl _ _).alloc _⟩
  | some o =>
    rw [ho] at hl
    obtain ⟨hom, hoc⟩ := getC_mem ho
    obtain ⟨oc, ok, or⟩ := o
    simp only [Option.getD_some, Option.isSome_some] at hl
    dsimp only at hoc
    subst hoc
    dsimp only
    cases or with
    | true =>
      simp only [if_true]
      go_enter Try.func15, Try.ntmps15
      go_wp2_with fail
      go_ret
      exact ⟨rfl, F, h.keep ((Chg.refl _ _).alloc _), fun g hg => .inl hg, (Chg.refl _ _).alloc _⟩
    | false =>
      simp only [Bool.false_eq_true, if_false]
      rcases h with ⟨-, rfl, -⟩ | ⟨b, hb, hm, rfl⟩
      · cases hom
      have hpb : p ≠ b := by
        rintro rfl
        have h1 := hb
        obtain ⟨es, clock, h2, -⟩ := hm
        unfold Blk at h1
        rw [h1] at h2
        injection h2 with h2
        cases h2
      have c0' : w.cell? ⟨p, 0, none⟩ = some (.map (some b)) := hb.cell 0
      rw [c0'] at c0
      cases c0
      clear ho hom
      go_enter Try.func15, Try.ntmps15
      go_wp2_with fail
      have hz : Chg [p, b] w (w.alloc (.cells #[.int .i64 oc, .int .i64 ok, .bool true] 28)) := (Chg.refl _ _).alloc _
      have hB := Blk.new w 28 #[.int .i64 oc, .int .i64 ok, .bool true]
      have hb2 := hb.alloc (.cells #[.int .i64 oc, .int .i64 ok, .bool true] 28)
      have hm2 := hm.chg ((Chg.refl [] w).alloc (.cells #[.int .i64 oc, .int .i64 ok, .bool true] 28)) (by simp)
      generalize w.alloc (.cells #[.int .i64 oc, .int .i64 ok, .bool true] 28) = w2 at *
      have u0 : w2.drew.cell? ⟨p, 0, none⟩ = some (.map (some b)) := hb2.cell 0
      have u1 : w2.drew.cell? ⟨w.heap.size, 0, none⟩ = some (.int .i64 oc) := hB.cell 0
      have u2 : w2.drew.cell? ⟨w.heap.size, 1, none⟩ = some (.int .i64 ok) := hB.cell 1
      have u3 : w2.drew.cell? ⟨w.heap.size, 2, none⟩ = some (.bool true) := hB.cell 2
      obtain ⟨w5, hrun, hm5, hc5⟩ := CMap.store (a := ⟨oc, ok, true⟩) (hm2.chg (Chg.refl [] w2).drew (by simp)) (by omega) hk
      have hb5 := hb2.drew.chg hc5 (by simpa using hpb)
      have hz5 : Chg [p, b] w w5 := hz.drew.trans hc5 (fun g hg => by
        obtain rfl : g = b := by simpa using hg
        exact .inl (by simp))
      unfold accV at hrun
      dsimp only at hrun
      clear hB hb2 hm2 hz hc5 hb hm
      go_region
      all_goals
        go_wp2_with fail
        go_ret
        exact ⟨rfl, [b], .inr ⟨b, hb5, hm5, rfl⟩, fun g hg => .inl hg, hz5⟩
end Go.Proofs.Ytfcedgglehedjaa
