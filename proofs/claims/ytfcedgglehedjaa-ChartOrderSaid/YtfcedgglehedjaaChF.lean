/- Charts: New; alive; ChartDebits. -/
import Derived.Test.YtfcedgglehedjaaChE
namespace Go.Proofs.Ytfcedgglehedjaa
open Go.RowKit Go.Vx Go.Maps Go.Sort Go.Shelf
set_option linter.unusedVariables false
set_option linter.unusedSimpArgs false

theorem putE_zero {L : CL} {a : Acc} (h : putE L a = 0) : rowB a.code a.kind = true ∧ getC L a.code = none := by
  unfold putE at h
  cases hr : rowB a.code a.kind with
  | false => simp [hr] at h
  | true =>
    refine ⟨rfl, ?_⟩
    cases hg : getC L a.code with
    | none => rfl
    | some o => simp [hr, hg] at h
theorem putL_zero {L : CL} {a : Acc} (h : putE L a = 0) : putL L a = putC L a := by simp [putL, h]
theorem putL_not {L : CL} {a : Acc} (h : putE L a ≠ 0) : putL L a = L := by simp [putL, h]
/-- By their codes, each code one that may be. -/
structure Good (L : CL) : Prop where
  srt : SrtC L
  row : ∀ a ∈ L, rowB a.code a.kind = true
theorem Good.nil : Good [] := ⟨List.Pairwise.nil, by simp⟩
theorem Good.wf {L : CL} (h : Good L) : ∀ a ∈ L, (Lit.int .i64 a.code).wf = true := fun a ha => by
  obtain ⟨h1, h2, -⟩ := row_parts (h.row a ha)
  exact code_wf h1 h2
theorem Good.put {L : CL} (h : Good L) {a : Acc} (hr : rowB a.code a.kind = true) : Good (putC L a) := ⟨h.srt.put a, fun x hx => by
  rcases putC_mem.1 hx with rfl | hx
  · exact hr
  · exact h.row x hx.1⟩
theorem newL_good : ∀ {l : List Acc} {L : CL}, Good L → Good (newL L l)
  | [], L, h => h
  | a :: l, L, h => by
    unfold newL
    split
    · rename_i h0
      exact newL_good (h.put (putE_zero h0).1)
    · exact h
theorem newL_len : ∀ {l : List Acc} {L : CL}, (newL L l).length ≤ L.length + l.length
  | [], L => by simp [newL]
  | a :: l, L => by
    unfold newL
    split
    · have h1 := newL_len (l := l) (L := putC L a)
      have h2 := putC_len L a
      simp only [List.length_cons]
      omega
    · simp
def NewPost (w : World) (l : List Acc) (e : Ending) (w' : World) : Prop :=
  (newE [] l = 0 ∧ ∃ p F, e = .returned (.tuple #[.pointer (some ⟨p, 0, none⟩), .int .i64 0]) ∧ CAt w' p (newL [] l) F ∧ (∀ g, g ∈ p :: F → w.heap.size ≤ g) ∧ Chg [] w w') ∨
  (newE [] l ≠ 0 ∧ e = .returned (.tuple #[.pointer none, .int .i64 (newE [] l)]) ∧ Chg [] w w')
set_option maxRecDepth 100000 in
set_option maxHeartbeats 4000000 in
theorem ch_new {w : World} {A : Option Addr} {n c : Nat} {l : List Acc} (hs : Src w 3 A n (l.flatMap accEnc)) (hn : n ≤ 1000) : Calls Try.prog 12 #[.slice A n c] w (NewPost w l) := by
  have hl : l.length = n := by have := hs.1; rw [flatMap_len accEnc_len] at this; omega
  replace hl := Lib.hid hl
  have h0 := CAt.new w
  have hz0 : Chg [] w (w.alloc (.cells #[.map none] 26)) := (Chg.refl [] w).alloc _
  go_enter Try.func12, Try.ntmps12
  go_wp2_with fail
  generalize w.alloc (.cells #[.map none] 26) = wa at *
  obtain ⟨p, hp⟩ : ∃ p, w.heap.size = p := ⟨_, rfl⟩
  rw [hp] at h0 ⊢
  replace hp := Lib.hid hp
  go_loopw [12] (fun iv wr => ∃ (k : Nat) (L : CL) (F : List Nat), k ≤ n ∧ iv = .int .i64 k ∧ CAt wr p L F ∧ (∀ g, g ∈ p :: F → w.heap.size ≤ g) ∧ Chg [] w wr ∧ newE [] l = newE L (l.drop k) ∧ newL [] l = newL L (l.drop k) ∧ L.length ≤ k) (fun iv _ => n - (intOf iv).toNat)
  case atStart => exact ⟨0, [], [], by omega, rfl, h0, fun g hg => by simp at hg; rw [hp.out]; omega, hz0, rfl, rfl, by simp⟩
  case round =>
    clear h0 hz0
    obtain ⟨k, L, F, hk, rfl, hc, hF, hz, he, hL, hlen⟩ := hrel
    by_cases hlt : k < n
    · obtain ⟨ad, rfl, c1, c2, c3⟩ := acc_cells (hs.chg hz (by simp)) (i := k) (by rw [hl.out]; exact hlt)
      rw [List.drop_eq_getElem_cons (by rw [hl.out]; exact hlt)] at he hL
      generalize (l[k]'(by rw [hl.out]; exact hlt)) = a at *
      simp only [newE, newL] at he hL
      have hput := fun w' (hz' : Chg [] wr w') => ch_put (hc.keep hz') (by omega) a
      obtain ⟨ac, ak, ar⟩ := a
      unfold accV at hput
      dsimp only at *
      by_cases hp0 : putE L ⟨ac, ak, ar⟩ = 0
      · rw [if_pos hp0] at he hL
        rw [hp0, putL_zero hp0] at hput
        have hlen2 := putC_len L ⟨ac, ak, ar⟩
        generalize putC L ⟨ac, ak, ar⟩ = L2 at *
        replace he := Lib.hid he
        replace hL := Lib.hid hL
        clear hp0
        go_wp2_with fail
        refine (hput _ ((Chg.refl [] wr).alloc _)).mono ?_
        rintro e w2 ⟨rfl, F2, hc2, hF2, hz2⟩
        clear hput c1 c2 c3
        have hsz := hz.size
        have hz3 : Chg [] w w2 := (hz.alloc _).trans hz2 (fun g hg => .inr (hF g hg))
        go_wp2_with fail
        refine ⟨⟨k + 1, L2, F2, by omega, by go_num, hc2, fun g hg => ?_, hz3, he.out, hL.out, by omega⟩, by simp [intOf]; omega⟩
        rcases List.mem_cons.1 hg with rfl | hg
        · exact hF _ (by simp)
        · rcases hF2 g hg with h | h
          · exact hF g (by simp [h])
          · simp at h
            omega
      · rw [if_neg hp0] at he hL
        have hb : (putE L ⟨ac, ak, ar⟩ != 0) = true := by simpa using hp0
        rw [putL_not hp0] at hput
        have hne : newE [] l ≠ 0 := by rw [he]; exact hp0
        generalize putE L ⟨ac, ak, ar⟩ = pe at *
        replace he := Lib.hid he
        clear hp0 hL
        go_wp2_with fail
        refine (hput _ ((Chg.refl [] wr).alloc _)).mono ?_
        rintro e w2 ⟨rfl, F2, hc2, hF2, hz2⟩
        have hz3 : Chg [] w w2 := (hz.alloc _).trans hz2 (fun g hg => .inr (hF g hg))
        clear hput c1 c2 c3
        go_wp2_with fail
        go_ret2
        exact .inr ⟨hne, by rw [he.out]; rfl, hz3⟩
    · obtain rfl : k = n := by omega
      rw [List.drop_of_length_le (by rw [hl.out]; exact Nat.le_refl _)] at he hL
      simp only [newE, newL] at he hL
      go_wp2_with fail
      go_ret2
      exact .inl ⟨he, p, F, rfl, by rw [hL]; exact hc, hF, hz⟩
theorem r_row (c k : Int) (w : World) : Calls Try.prog 11 #[.int .i64 c, .int .i64 k] w fun e w' => e = .returned (.bool (rowB c k)) ∧ w = w' := by
  have h1 : c < 1 → Hid (false = rowB c k) := fun h => Lib.hid (by simp [rowB]; omega)
  have h2 : ¬ c ≤ 9999 → Hid (false = rowB c k) := fun h => Lib.hid (by simp [rowB]; omega)
  have h3 : k < 1 → Hid (false = rowB c k) := fun h => Lib.hid (by simp [rowB, knownB]; omega)
  have h4 : 1 ≤ c → c ≤ 9999 → 1 ≤ k → Hid (decide (k ≤ 5) = rowB c k) := fun h h' h'' => Lib.hid (by simp [rowB, knownB, h, h', h''])
  rcases Int.lt_or_le c 1 with a1 | a1
  · replace h1 := h1 a1
    clear h2 h3 h4
    have b1 : decide (1 ≤ c) = false := by simp; omega
    go_enter Try.func11, Try.ntmps11
    go_wp2
    go_ret
    exact ⟨ret_bool h1.out, rfl⟩
  · have b1 : decide (1 ≤ c) = true := by simpa using a1
    rcases Int.lt_or_le 9999 c with a2 | a2
    · replace h2 := h2 (by omega)
      clear h1 h3 h4
      have b2 : decide (c ≤ 9999) = false := by simp; omega
      go_enter Try.func11, Try.ntmps11
      go_wp2
      go_ret
      exact ⟨ret_bool h2.out, rfl⟩
    · have b2 : decide (c ≤ 9999) = true := by simpa using a2
      rcases Int.lt_or_le k 1 with a3 | a3
      · replace h3 := h3 a3
        clear h1 h2 h4
        have b3 : decide (1 ≤ k) = false := by simp; omega
        go_enter Try.func11, Try.ntmps11
        go_wp2
        go_ret
        exact ⟨ret_bool h3.out, rfl⟩
      · have b3 : decide (1 ≤ k) = true := by simpa using a3
        replace h4 := h4 a1 a2 a3
        clear h1 h2 h3
        go_enter Try.func11, Try.ntmps11
        go_wp2
        go_ret
        exact ⟨ret_bool h4.out, rfl⟩
end Go.Proofs.Ytfcedgglehedjaa
