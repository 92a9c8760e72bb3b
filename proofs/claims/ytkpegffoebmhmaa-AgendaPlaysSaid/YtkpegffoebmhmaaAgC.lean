/- The agenda's Due. -/
import Derived.Test.YtkpegffoebmhmaaAgB
namespace Go.Proofs.Ytkpegffoebmhmaa
open Go.RowKit Go.Vx
set_option linter.unusedVariables false
set_option linter.unusedSimpArgs false

/-- How long the slice in a cell is. -/
def lenAt (w : World) (a : Addr) : Nat := match w.cell? a with | some (.slice _ n _) => n | _ => 0
theorem lenAt_of {w : World} {a : Addr} {A : Option Addr} {n c : Nat} (h : w.cell? a = some (.slice A n c)) : lenAt w a = n := by
  unfold lenAt
  rw [h]
theorem rep_head {x : Slot} {l S : List Slot} (h : Rep slLt l (x :: S)) : 0 < l.length ∧ nth l 0 = x := by
  obtain ⟨h1, h2, h3⟩ := h
  have hl : 0 < l.length := by rw [h2.length_eq]; simp
  refine ⟨hl, ?_⟩
  have hr := root_least slLin h1
  obtain ⟨k, hk, e⟩ := List.mem_iff_getElem.1 (h2.mem_iff.2 (List.mem_cons_self (a := x) (l := S)))
  have a1 := hr k hk
  rw [at_eq hk, e] at a1
  have hm : nth l 0 ∈ x :: S := h2.mem_iff.1 (by rw [at_eq hl]; exact List.getElem_mem hl)
  rcases List.mem_cons.1 hm with h | h
  · exact h
  · have a2 := (List.pairwise_cons.1 h3).1 _ h
    rcases slLin.tri x (nth l 0) with t | t | t
    · rw [t] at a1; cases a1
    · exact t.symm
    · rw [t] at a2; cases a2
theorem AgAt.head {w : World} {p : Nat} {x : Slot} {S : List Slot} {m : Int} {F : List Nat} (h : AgAt w p (x :: S) m F) : ∃ g c, w.cell? ⟨p, 0, none⟩ = some (.slice (some ⟨g, 0, none⟩) (S.length + 1) c) ∧ w.cell? ⟨g, 0, none⟩ = some (.int .i64 x.1) := by
  obtain ⟨l, h, hr⟩ := h
  have hll := slS.len h hr
  obtain ⟨hl, hx⟩ := rep_head hr
  obtain ⟨A, c, c0, f0, hb, hf, h1, h2⟩ := h.cell
  obtain ⟨g, c', e, -, hc⟩ := hf.elem encLen (by omega) (k := 0) hl
  injection e with e1 e2 e3
  subst e1
  have h0 := (hc 0 (by omega)).1
  rw [hx] at h0
  rw [hll] at c0
  refine ⟨g, c, c0, ?_⟩
  simpa [slEnc] using h0
def item (x : Slot) : Item := (x.1, x.2.1, x.2.2.1)
theorem infoItem : (Try.prog.info? 31).map (fun i => (i.zero, i.size, i.bytes)) = some (some (.agg #[.int .i64 0, .int .i64 0, .int .i64 0]), 3, 24) := by kernel_rfl
/-- The items of some slots in memory. -/
def Items (w : World) (v : Value) (D : List Slot) (FO : List Nat) : Prop := Fix w 31 3 v D.length ((D.map item).flatMap itEnc) FO
theorem Items.chg {w w' : World} {v : Value} {D : List Slot} {FO S : List Nat} (h : Items w v D FO) (k : Chg S w w') (hd : ∀ g, g ∈ FO → g ∉ S) : Items w' v D FO := Fix.chg h k hd
/-- How many are due. -/
def due (period : Int) (S : List Slot) : List Slot := S.takeWhile fun x => decide (x.1 ≤ period)
def later (period : Int) (S : List Slot) : List Slot := S.dropWhile fun x => decide (x.1 ≤ period)
theorem due_split {period : Int} : ∀ {D S : List Slot}, (∀ d ∈ D, d.1 ≤ period) → (S = [] ∨ ∃ x S', S = x :: S' ∧ ¬ x.1 ≤ period) → due period (D ++ S) = D ∧ later period (D ++ S) = S
  | [], S, _, h => by
    unfold due later
    rcases h with rfl | ⟨x, S', rfl, hx⟩
    · exact ⟨rfl, rfl⟩
    · simp [hx]
  | d :: D, S, hd, h => by
    obtain ⟨h1, h2⟩ := due_split (fun x hx => hd x (List.mem_cons_of_mem _ hx)) h
    have := hd d (by simp)
    unfold due later at *
    simp [this, h1, h2]
set_option maxRecDepth 8000 in
set_option maxHeartbeats 4000000 in
theorem ag_due {w : World} {p : Nat} {S : List Slot} {m : Int} {F : List Nat} (h : AgAt w p S m F) (hS : S.length ≤ 1000) (period : Int) :
    Calls Try.prog 12 #[.pointer (some ⟨p, 0, none⟩), .int .i64 period] w fun e w' => ∃ v FO, e = .returned v ∧ Items w' v (due period S) FO ∧ AgAt w' p (later period S) m F ∧ (∀ g, g ∈ FO → w.heap.size ≤ g) ∧ Chg (p :: F) w w' := by
  obtain ⟨i0, hi, j0, j1, j2⟩ := info_parts infoItem
  have hpF := h.lt
  go_enter Try.func12, Try.ntmps12
  go_wp2_with fail
  go_loopw [5] (fun v wr => ∃ (D S' : List Slot) (FO : List Nat), S = D ++ S' ∧ (∀ d ∈ D, d.1 ≤ period) ∧ AgAt wr p S' m F ∧ Items wr v D FO ∧ (∀ g, g ∈ FO → w.heap.size ≤ g) ∧ Chg (p :: F) w wr) (fun _ wr => lenAt wr ⟨p, 0, none⟩)
  case atStart => exact ⟨[], S, [], rfl, by simp, h, Fix.nil _ _ _, by simp, Chg.refl _ _⟩
  case round =>
    obtain ⟨D, S', FO, hsp, hD, hh, ho, hO, hc⟩ := hrel
    clear h
    have hln := ag_len hh
    have hlen : D.length + S'.length = S.length := by rw [hsp, List.length_append]
    replace hsp := Lib.hid hsp
    cases S' with
    | nil =>
      have hfin := due_split (S := []) hD (.inl rfl)
      rw [← hsp.out] at hfin
      rw [List.length_nil] at hln
      go_wp2_with (go_at_call 9; refine hln.mono ?_; rintro e w' ⟨rfl, rfl⟩)
      go_ret
      rw [hfin.1, hfin.2]
      exact ⟨_, FO, rfl, ho, hh, hO, hc⟩
    | cons x S' =>
      obtain ⟨g, c, c0, c1⟩ := hh.head
      rw [List.length_cons] at hln
      rw [List.length_cons] at hlen
      by_cases hx : x.1 ≤ period
      · have b1 : decide (x.1 ≤ period) = true := by simpa using hx
        have hnx := ag_next hh (by omega)
        have hla := lenAt_of c0
        go_wp2_with (go_at_call 9; refine hln.mono ?_; rintro e w' ⟨rfl, rfl⟩)
        refine hnx.mono ?_
        rintro e w1 ⟨rfl, hh1, hc1⟩
        have hdis : ∀ g, g ∈ FO → g ∉ p :: F := fun g hg hg' => by have := hO g hg; have := hpF g hg'; omega
        have ho1 := (show Fix wr 31 3 _ D.length ((D.map item).flatMap itEnc) FO from ho).chg hc1 hdis
        obtain ⟨A2, c2, e0, -⟩ := hh1.cells
        have hla2 := lenAt_of e0
        dsimp only
        go_wp2_with (at_builtin; refine wpList_append_fix rfl (.tmp 28) (.tmp 30) 22 rfl Try.underlying22 hi j0 j1 j2 rfl (by omega) rfl ((ho1.alloc _).alloc _) rfl (Src.one3 (by simp)) (by simp [Value.oneCell']) (by unfold maxLen; omega) (by omega) ?_; intro v' w2 F1 ha)
        have hw2 : Chg FO w1 w2 := (((Chg.refl FO w1).alloc _).alloc _).trans' ha.chg
        have hh2 := hh1.chg hw2 (fun g hg hg' => hdis g hg' hg)
        obtain ⟨A3, c3, e3, -⟩ := hh2.cells
        refine ⟨⟨D ++ [x], S', F1, by rw [hsp.out]; simp, ?_, hh2, ?_, ?_, ?_⟩, by rw [lenAt_of e3, hla]; omega⟩
        · intro d hd
          rcases List.mem_append.1 hd with h | h
          · exact hD d h
          · rw [List.mem_singleton.1 h]; exact hx
        · have := ha.fix
          unfold Items
          rw [List.length_append, List.map_append, List.flatMap_append]
          exact this
        · intro g hg
          rcases ha.foot with e | e
          · exact hO g (by rw [← e]; exact hg)
          · have z1 := hc1.size
            have z2 := hc.size
            rw [e] at hg
            simp at hg
            omega
        · exact (hc.trans' hc1).trans hw2 (fun g hg => .inr (hO g hg))
      · have b1 : decide (x.1 ≤ period) = false := by simpa using hx
        have hfin := due_split (S := x :: S') hD (.inr ⟨x, S', rfl, hx⟩)
        rw [← hsp.out] at hfin
        go_wp2_with (go_at_call 9; refine hln.mono ?_; rintro e w' ⟨rfl, rfl⟩)
        go_ret
        rw [hfin.1, hfin.2]
        exact ⟨_, FO, rfl, ho, hh, hO, hc⟩
end Go.Proofs.Ytkpegffoebmhmaa
