/- The agenda's All. -/
import Derived.Test.YtkpegffoebmhmaaAgC
namespace Go.Proofs.Ytkpegffoebmhmaa
open Go.RowKit Go.Vx
set_option linter.unusedVariables false
set_option linter.unusedSimpArgs false
attribute [local go_sem] Lib.run_eql_slice_nil run_neq_slice_nil_any run_eql_nil_slice run_neq_nil_slice

theorem oneSlots (l : List Slot) : ∀ u ∈ l.flatMap slEnc, u.oneCell' = true := fun u hu => by
  obtain ⟨x, -, h⟩ := List.mem_flatMap.1 hu
  simp [slEnc] at h
  rcases h with rfl | rfl | rfl | rfl <;> rfl
set_option maxRecDepth 8000 in
set_option maxHeartbeats 1000000 in
theorem sl_clone {w : World} {v : Value} {l : List Slot} {F : List Nat} (h : Fix w 51 4 v l.length (l.flatMap slEnc) F) (hl : l.length ≤ 1000) :
    Calls Try.prog 20 #[v] w fun e w' => ∃ v' F', e = .returned v' ∧ Fix w' 51 4 v' l.length (l.flatMap slEnc) F' ∧ (∀ g, g ∈ F' → w.heap.size ≤ g) ∧ Chg [] w w' := by
  obtain ⟨i0, hi, j0, j1, j2⟩ := info_parts infoSlot
  have hsrc : ∀ A c, v = .slice A l.length c → Src w 4 A l.length (l.flatMap slEnc) := by rintro A c rfl; exact h.src
  have hnil : ∀ c, v = .slice none l.length c → l.length = 0 := by
    rintro c rfl
    obtain ⟨A, c', e, h1, h2, h3, h4⟩ := h
    injection e with e1 _ e3
    subst e1 e3
    rcases h4 with ⟨h5, -⟩ | ⟨g, cur, h5, -⟩
    · omega
    · cases h5
  have h0 := h
  obtain ⟨A, c, rfl, -⟩ := h0
  have hs := hsrc A c rfl
  have hone := oneSlots l
  clear hsrc
  cases A with
  | none =>
    have hn := hnil c rfl
    have hnl : l = [] := List.length_eq_zero_iff.1 hn
    subst hnl
    clear hnil hn
    go_enter Try.func20, Try.ntmps20
    go_wp2_with fail
    go_ret
    exact ⟨_, [], rfl, Fix.nil _ _ _, by simp, Chg.refl _ _⟩
  | some a =>
    clear hnil
    go_enter Try.func20, Try.ntmps20
    go_wp2_with (at_builtin; refine wpList_append_fix rfl _ _ 26 rfl Try.underlying26 hi j0 j1 j2 rfl (by omega) (n := 0) (xs := []) rfl (Fix.empty _ _ _ _) rfl (hs.alloc _) hone (by unfold maxLen; omega) (by omega) ?_; intro v' w1 F1 ha)
    go_ret
    refine ⟨v', F1, rfl, ?_, ?_, ((Chg.refl _ _).alloc _).trans' ha.chg⟩
    · have := ha.fix
      rwa [Nat.zero_add, List.nil_append] at this
    · intro g hg
      rcases ha.foot with e | e <;> rw [e] at hg <;> simp at hg
      omega
set_option maxRecDepth 8000 in
set_option maxHeartbeats 4000000 in
theorem ag_all {w : World} {p : Nat} {S : List Slot} {m : Int} {F : List Nat} (h : AgAt w p S m F) (hS : S.length ≤ 1000) :
    Calls Try.prog 14 #[.pointer (some ⟨p, 0, none⟩)] w fun e w' => ∃ v FO, e = .returned v ∧ Items w' v S FO ∧ (∀ g, g ∈ FO → w.heap.size ≤ g) ∧ Chg [] w w' := by
  obtain ⟨i0, hi, j0, j1, j2⟩ := info_parts infoItem
  have h0 := h
  obtain ⟨l, hh, hr⟩ := h0
  have hll := slS.len hh hr
  obtain ⟨A, c, c0, f0, hb, hf, q1, q2⟩ := hh.cell
  have hcl := sl_clone hf (by omega)
  have hta : ∀ (a b c d : Value) (w : World), (Instr.typeAssert (.iface 51 (.agg #[a, b, c, d])) 20 51 false).run Try.prog w = .ok (.agg #[a, b, c, d]) w := fun a b c d w => by kernel_rfl
  have hfld : ∀ (a b c d : Value) (w : World), (Instr.field 51 (.agg #[a, b, c, d]) 0).run Try.prog w = .ok (.agg #[a, b, c]) w := fun a b c d w => by kernel_rfl
  replace hll := Lib.hid hll
  clear f0 hb hf
  go_enter Try.func14, Try.ntmps14
  go_wp2_with fail
  refine hcl.mono ?_
  rintro e w1 ⟨v1, F1, rfl, hf1, hF1, hc1⟩
  have hf1' := hf1
  obtain ⟨A1, k1, rfl, -⟩ := hf1'
  dsimp only
  go_wp2_with fail
  have hb1 := Blk.new w1 26 #[.slice A1 l.length k1]
  have hq1 : Chg [] w1 (w1.alloc (.cells #[.slice A1 l.length k1] 26)) := (Chg.refl _ _).alloc _
  have hstart : slS (w1.alloc (.cells #[.slice A1 l.length k1] 26)) w1.heap.size 0 26 #[.slice none 0 0] S F1 := by
    refine ⟨l, ⟨.slice A1 l.length k1, hb1, by simp, hf1.chg hq1 (by simp), by decide⟩, hr⟩
  have hcz := hc1.trans' hq1
  have hq2 : w.heap.size ≤ w1.heap.size := hc1.size
  clear hb1 hq1 hf1 hc1
  go_loopw [4] (fun v wr => ∃ (D S' : List Slot) (FO : List Nat), S = D ++ S' ∧ slS wr w1.heap.size 0 26 #[.slice none 0 0] S' F1 ∧ Items wr v D FO ∧ (∀ g, g ∈ FO → w.heap.size ≤ g ∧ g ∉ w1.heap.size :: F1) ∧ Chg [] w wr) (fun _ wr => lenAt wr ⟨w1.heap.size, 0, none⟩)
  case atStart => exact ⟨[], S, [], rfl, hstart, Fix.nil _ _ _, by simp, hcz⟩
  case round =>
    obtain ⟨D, S', FO, hsp, hh1, ho, hO, hc⟩ := hrel
    clear hstart h hh c0
    have hlen : D.length + S'.length = S.length := by rw [hsp, List.length_append]
    replace hsp := Lib.hid hsp
    have hh2 := hh1
    obtain ⟨l', hx, hr'⟩ := hh2
    have hl' := slS.len hx hr'
    obtain ⟨A2, k2, c0, -, -, -, q3, q4⟩ := hx.cell
    rw [hl'] at c0 q3
    unfold maxLen at q4
    clear hx hr' hl'
    cases S' with
    | nil =>
      have hfin : D = S := by rw [hsp.out, List.append_nil]
      rw [List.length_nil] at c0
      go_wp2_with fail
      go_ret
      exact ⟨_, FO, rfl, by rw [← hfin]; exact ho, fun g hg => (hO g hg).1, hc⟩
    | cons x S' =>
      rw [List.length_cons] at c0 hlen q3
      have hpop := sl_Pop hh1 (by omega)
      have hltq : ∀ g, g ∈ w1.heap.size :: F1 → g < wr.heap.size := by obtain ⟨l', hx, -⟩ := hh1; exact hx.lt
      have hla := lenAt_of c0
      go_wp2_with fail
      refine hpop.mono ?_
      rintro e w2 ⟨rfl, hh2, hc2⟩
      have hdis : ∀ g, g ∈ FO → g ∉ w1.heap.size :: F1 := fun g hg => (hO g hg).2
      have ho1 := (show Fix wr 31 3 _ D.length ((D.map item).flatMap itEnc) FO from ho).chg hc2 hdis
      dsimp only
      go_wp2_with (at_builtin; refine wpList_append_fix rfl (.tmp 15) (.tmp 20) 22 rfl Try.underlying22 hi j0 j1 j2 rfl (by omega) rfl (ho1.alloc _) rfl (Src.one3 (by simp)) (by simp [Value.oneCell']) (by unfold maxLen; omega) (by omega) ?_; intro v' w3 F3 ha)
      have hw3 : Chg FO w2 w3 := ((Chg.refl FO w2).alloc _).trans' ha.chg
      have hh3 := slS.chg hh2 hw3 (fun g hg hg' => hdis g hg' hg)
      have hh4 := hh3
      obtain ⟨l', hx, hr'⟩ := hh4
      have hl' := slS.len hx hr'
      obtain ⟨A3, k3, e3, -⟩ := hx.cell
      rw [hl'] at e3
      have z1 := hc2.size
      have z2 := hc.size
      refine ⟨⟨D ++ [x], S', F3, by rw [hsp.out]; simp, hh3, ?_, ?_, ?_⟩, by rw [lenAt_of e3, hla]; omega⟩
      · have := ha.fix
        unfold Items
        rw [List.length_append, List.map_append, List.flatMap_append]
        exact this
      · intro g hg
        rcases ha.foot with e | e
        · exact hO g (by rw [← e]; exact hg)
        · rw [e] at hg
          simp at hg
          exact ⟨by omega, fun hg' => by have := hltq g hg'; omega⟩
      · refine (hc.trans hc2 ?_).trans hw3 (fun g hg => .inr (hO g hg).1)
        intro g hg
        right
        rcases List.mem_cons.1 hg with rfl | hg
        · exact hq2
        · have := hF1 g hg
          omega
end Go.Proofs.Ytkpegffoebmhmaa
