/- The agenda's Take. -/
import Derived.Test.YtkpegffoebmhmaaAgD
namespace Go.Proofs.Ytkpegffoebmhmaa
open Go.RowKit Go.Vx
set_option linter.unusedVariables false
set_option linter.unusedSimpArgs false

set_option maxRecDepth 8000 in
theorem ag_is (x : Item) (id : Int) (w : World) : Calls Try.prog 18 #[.agg #[.int .i64 x.1, .int .i64 x.2.1, .int .i64 x.2.2], .int .i64 id] w fun e w' => e = .returned (.bool (x.2.2 == id)) ∧ Chg [] w w' := by
  go_enter Try.func18, Try.ntmps18
  go_wp2_with fail
  go_ret
  exact ⟨rfl, (Chg.refl _ _).alloc _⟩
theorem Fix.cap {w : World} {e : TypeId} {size n k : Nat} {A : Option Addr} {xs : List Value} {F : List Nat} (h : Fix w e size (.slice A n k) n xs F) : n ≤ k ∧ k ≤ maxLen := by
  obtain ⟨_, _, e, _, h1, h2, _⟩ := h
  injection e with _ _ e
  subst e
  exact ⟨h1, h2⟩
def stays (id : Int) (S : List Slot) : List Slot := S.filter fun x => !(x.2.2.1 == id)
theorem stays_sorted {l S : List Slot} (h : Rep slLt l S) (id : Int) : sortL slLt (stays id l) = stays id S := by
  obtain ⟨h1, h2, h3⟩ := h
  exact srt_unique slLin (sortL_srt slLin _) (List.Pairwise.filter _ h3) ((sortL_perm _).trans (h2.filter _))
theorem stays_take {id : Int} {l : List Slot} {k : Nat} (hk : k < l.length) : stays id (l.take (k + 1)) = stays id (l.take k) ++ (if (nth l k).2.2.1 == id then [] else [nth l k]) := by
  unfold stays
  rw [List.take_add_one, List.filter_append, List.getElem?_eq_getElem hk, at_eq hk]
  simp only [Option.toList_some, List.filter_cons, List.filter_nil]
  cases (l[k].2.2.1 == id) <;> rfl
set_option maxRecDepth 8000 in
set_option maxHeartbeats 4000000 in
theorem ag_take {w : World} {p : Nat} {S : List Slot} {m : Int} {F : List Nat} (h : AgAt w p S m F) (hS : S.length ≤ 1000) (id : Int) :
    Calls Try.prog 13 #[.pointer (some ⟨p, 0, none⟩), .int .i64 id] w fun e w' => e = .returned (.int .i64 (S.length - (stays id S).length)) ∧ ∃ F', AgAt w' p (stays id S) m F' ∧ (∀ g, g ∈ F' → g ∈ F ∨ w.heap.size ≤ g) ∧ Chg (p :: F) w w' := by
  have hln := ag_len h
  cases S with
  | nil =>
    rw [List.length_nil] at hln
    go_enter Try.func13, Try.ntmps13
    go_wp2_with (go_at_call 9; refine hln.mono ?_; rintro e w' ⟨rfl, rfl⟩)
    go_ret
    exact ⟨by trivial, F, h, fun g hg => .inl hg, Chg.refl _ _⟩
  | cons y S0 =>
  obtain ⟨S, hSd⟩ : ∃ S, S = y :: S0 := ⟨_, rfl⟩
  rw [← hSd] at h hS hln ⊢
  have hpos : ((S.length : Int) == 0) = false := by simp; rw [hSd]; simp
  clear hSd
  obtain ⟨i0, hi, j0, j1, j2⟩ := info_parts infoSlot
  have hpF := h.lt
  have h0 := h
  obtain ⟨l, hh, hr⟩ := h0
  have hll := slS.len hh hr
  have hst := stays_sorted hr id
  have hslen : (stays id S).length ≤ S.length := List.length_filter_le _ _
  obtain ⟨A, c, c0, f0, hb, hf, q1, q2⟩ := hh.cell
  have hne := hf.ne_blk hb (by decide)
  unfold maxLen at q2
  have hls : (stays id l).length = (stays id S).length := by rw [← hst, (sortL_perm _).length_eq]
  replace hll := Lib.hid hll
  replace hst := Lib.hid hst
  go_enter Try.func13, Try.ntmps13
  go_wp2_with (go_at_call 9; refine hln.mono ?_; rintro e w' ⟨rfl, rfl⟩)
  go_loopw [6, 18] (fun v iv wr => ∃ (k : Nat) (FO : List Nat), k ≤ l.length ∧ iv = .int .i64 k ∧ Fix wr 51 4 v (stays id (l.take k)).length ((stays id (l.take k)).flatMap slEnc) FO ∧ (∀ g, g ∈ FO → w.heap.size ≤ g) ∧ Chg [] w wr) (fun _ iv _ => l.length - (intOf iv).toNat)
  case atStart => exact ⟨0, [], by omega, rfl, Fix.nil _ _ _, by simp, Chg.refl _ _⟩
  case round =>
    obtain ⟨k, FO, hk, rfl, ho, hO, hc⟩ := hrel
    clear hln
    have hkl : (stays id (l.take k)).length ≤ 1000 := by
      have h1 : (stays id (l.take k)).length ≤ (l.take k).length := List.length_filter_le _ _
      have h2 : (l.take k).length ≤ l.length := by simp; omega
      have := hll.out
      omega
    by_cases hlt : k < l.length
    · obtain ⟨g, c', e, -, hel⟩ := (hf.chg hc (by simp)).elem encLen (by omega) hlt
      injection e with e1 _ e3
      subst e1 e3
      have d0 := (hel 0 (by omega)).1
      have d1 := (hel 1 (by omega)).1
      have d2 := (hel 2 (by omega)).1
      have d3 := (hel 3 (by omega)).1
      simp only [slEnc, List.getElem?_cons_zero, List.getElem?_cons_succ, Nat.add_zero] at d0 d1 d2 d3
      have htk := stays_take (id := id) hlt
      clear hel
      generalize nth l k = x at *
      have his := ag_is (x.1, x.2.1, x.2.2.1) id
      replace htk := Lib.hid htk
      cases hx : (x.2.2.1 == id) with
      | true =>
        rw [hx] at his
        replace hx := Lib.hid hx
        go_wp2_with (go_at_call 18; refine (his _).mono ?_; rintro e w1 ⟨rfl, hc1⟩)
        go_roundw
        case measure => simp [intOf]; omega
        case rel =>
          have hz : Chg [] wr w1 := ((Chg.refl _ _).alloc _).trans' hc1
          refine ⟨k + 1, FO, by omega, by go_num, ?_, hO, hc.trans' hz⟩
          rw [htk.out, hx.out]
          simpa using ho.chg hz (by simp)
      | false =>
        rw [hx] at his
        replace hx := Lib.hid hx
        have hb0 := Blk.new wr 51 #[.int .i64 x.1, .int .i64 x.2.1, .int .i64 x.2.2.1, .int .i64 x.2.2.2]
        go_wp2_with fail
        refine (his _).mono ?_
        rintro e w1 ⟨rfl, hc1⟩
        have hb1 := hb0.chg hc1 (by simp)
        have z0 := hb1.cell 0
        have z1 := hb1.cell 1
        have z2 := hb1.cell 2
        have z3 := hb1.cell 3
        simp at z0 z1 z2 z3
        have hz : Chg [] wr w1 := ((Chg.refl _ _).alloc _).trans' hc1
        have ho1 := ho.chg hz (by simp)
        dsimp only
        go_wp2_with (at_builtin; refine wpList_append_fix rfl (.tmp 27) (.tmp 29) 26 rfl Try.underlying26 hi j0 j1 j2 rfl (by omega) rfl (ho1.alloc _) rfl (Src.one4 (by simp)) (by simp [Value.oneCell']) (by unfold maxLen; omega) (by omega) ?_; intro v' w2 F2 ha)
        go_roundw
        case measure => simp [intOf]; omega
        case rel =>
          refine ⟨k + 1, F2, by omega, by go_num, ?_, ?_, ((hc.trans' hz).alloc _).trans ha.chg (fun g hg => .inr (hO g hg))⟩
          · rw [htk.out, hx.out]
            have := ha.fix
            simp only [Bool.false_eq_true, if_false, List.length_append, List.flatMap_append]
            exact this
          · intro g hg
            rcases ha.foot with e | e
            · exact hO g (by rw [← e]; exact hg)
            · have y1 := hz.size
              have y2 := hc.size
              rw [e] at hg
              simp at hg
              omega
    · obtain rfl : k = l.length := by omega
      rw [List.take_length] at ho hkl
      have ho' := ho
      obtain ⟨A', c', rfl, -⟩ := ho'
      obtain ⟨-, hcm'⟩ := Fix.cap ho
      unfold maxLen at hcm'
      have hbr := hb.chg hc (by simp)
      have e0 := hbr.cell 0
      have e1 := hbr.frozen 0
      simp at e0
      have hpo : p ∉ FO := fun hg => by have := hO p hg; have := hpF p (by simp); omega
      have hhs : HS (wr.setCell ⟨p, 0, none⟩ (.slice A' (stays id l).length c')) p 0 28 #[.slice none 0 0, .int .i64 m] (stays id l) FO := by
        refine ⟨.slice A' (stays id l).length c', ?_, by simp, ho.chg (S := [p]) ((Chg.refl _ _).setCell (by simp) _) (fun g hg => by simp; rintro rfl; exact hpo hg), by decide⟩
        have := hbr.set_ 0 (.slice A' (stays id l).length c')
        simpa using this
      have hin := sl_Init hhs (by omega)
      rw [hst.out] at hin
      replace hls := Lib.hid hls
      replace hhs := Lib.hid hhs
      go_wp2_with (go_at_call 19; refine hin.mono ?_; rintro e w2 ⟨rfl, hS2, hc2⟩)
      go_ret
      refine ⟨by rw [hls.out]; rfl, FO, hS2, fun g hg => .inr (hO g hg), ?_⟩
      refine ((hc.mono (by simp) : Chg (p :: F) w wr).setCell (p := ⟨p, 0, none⟩) (.inl (by simp)) _).trans hc2 ?_
      intro g hg
      exact .inr (hO g hg)
end Go.Proofs.Ytkpegffoebmhmaa
