/- Charts: plain laws on New; the book's SameAccounts; the argument of accounts. -/
import Derived.Test.YtfcedgglehedjaaChH
import Derived.Laws.StructEq
namespace Go.Proofs.Ytfcedgglehedjaa
open Go.RowKit Go.Vx Go.Maps Go.Sort Go.Shelf
set_option linter.unusedVariables false
set_option linter.unusedSimpArgs false

theorem acc_eq (x y : Int) (r : Bool) (w : World) : (binOp BinOp.eql 28 (.agg #[.int .i64 x, .int .i64 y, .bool r]) (.agg #[.int .i64 x, .int .i64 y, .bool r])).run Try.prog w = .ok (.bool true) w := by
  rw [run_eql_struct, show (10000 : Nat) = 9999 + 1 from rfl, run_equalIn_agg w 9999 28 _ _ (by kernel_rfl) (by kernel_rfl)]
  simp only [Program.fieldsOf, Try.underlying28]
  have e1 := fun a b w => run_equalIn_int (P := Try.prog) w 9998 3 .i64 .i64 a b Try.underlying3
  have e2 := fun a b w => run_equalIn_bool' (P := Try.prog) w 9998 4 a b Try.underlying4
  have p0 : ∀ w, (part 3 #[.int .i64 x, .int .i64 y, .bool r] 0).run Try.prog w = .ok (.int .i64 x) w := fun w => by kernel_rfl
  have p1 : ∀ w, (part 3 #[.int .i64 x, .int .i64 y, .bool r] 1).run Try.prog w = .ok (.int .i64 y) w := fun w => by kernel_rfl
  have p2 : ∀ w, (part 4 #[.int .i64 x, .int .i64 y, .bool r] 2).run Try.prog w = .ok (.bool r) w := fun w => by kernel_rfl
  simp [Op.eqFields, Sem.run_bind, p0, p1, p2, e1, e2, Result.andThen]
theorem putE_iff {L : CL} {a : Acc} : putE L a = 0 ↔ rowB a.code a.kind = true ∧ getC L a.code = none := by
  refine ⟨putE_zero, fun ⟨h1, h2⟩ => ?_⟩
  simp [putE, h1, h2]
theorem getC_put {L : CL} {a : Acc} {k : Int} : getC (putC L a) k = none ↔ getC L k = none ∧ a.code ≠ k := by
  rw [getC_none, getC_none]
  constructor
  · intro h
    have ha := h a (putC_mem.2 (.inl rfl))
    exact ⟨fun x hx e => h x (putC_mem.2 (.inr ⟨hx, fun e' => ha (by rw [← e', e])⟩)) e, ha⟩
  · rintro ⟨h1, h2⟩ x hx
    rcases putC_mem.1 hx with rfl | ⟨hx, -⟩
    · exact h2
    · exact h1 x hx
theorem newE_zero : ∀ (l : List Acc) (L : CL), newE L l = 0 ↔ (∀ a ∈ l, rowB a.code a.kind = true) ∧ (l.map Acc.code).Nodup ∧ ∀ a ∈ l, getC L a.code = none
  | [], L => by simp [newE]
  | a :: l, L => by
    unfold newE
    by_cases h : putE L a = 0
    · rw [if_pos h, newE_zero l (putC L a)]
      obtain ⟨h1, h2⟩ := putE_iff.1 h
      simp only [List.map_cons, List.nodup_cons, List.mem_cons, List.mem_map]
      constructor
      · rintro ⟨r1, r2, r3⟩
        refine ⟨fun b hb => ?_, ⟨?_, r2⟩, fun b hb => ?_⟩
        · rcases hb with rfl | hb
          · exact h1
          · exact r1 b hb
        · rintro ⟨b, hb, e⟩
          exact (getC_put.1 (r3 b hb)).2 e.symm
        · rcases hb with rfl | hb
          · exact h2
          · exact (getC_put.1 (r3 b hb)).1
      · rintro ⟨r1, ⟨r2, r3⟩, r4⟩
        exact ⟨fun b hb => r1 b (.inr hb), r3, fun b hb => getC_put.2 ⟨r4 b (.inr hb), fun e => r2 ⟨b, hb, e.symm⟩⟩⟩
    · rw [if_neg h]
      refine ⟨fun e => absurd e h, fun ⟨r1, _, r3⟩ => absurd (putE_iff.2 ⟨r1 a (by simp), r3 a (by simp)⟩) h⟩
theorem newL_mem : ∀ {l : List Acc} {L : CL}, newE L l = 0 → ∀ x, x ∈ newL L l ↔ x ∈ L ∨ x ∈ l
  | [], L, _, x => by simp [newL]
  | a :: l, L, h, x => by
    unfold newE at h
    unfold newL
    split at h
    · rename_i h0
      rw [if_pos h0, newL_mem h, putC_mem, List.mem_cons]
      have h2 := getC_none.1 (putE_iff.1 h0).2
      constructor
      · rintro ((rfl | ⟨h, -⟩) | h)
        · exact .inr (.inl rfl)
        · exact .inl h
        · exact .inr (.inr h)
      · rintro (h | rfl | h)
        · exact .inl (.inr ⟨h, h2 x h⟩)
        · exact .inl (.inl rfl)
        · exact .inr h
    · rename_i h0
      exact absurd h h0
theorem newL_len0 : ∀ {l : List Acc} {L : CL}, newE L l = 0 → (newL L l).length = L.length + l.length
  | [], L, _ => by simp [newL]
  | a :: l, L, h => by
    unfold newE at h
    unfold newL
    split at h
    · rename_i h0
      have h2 := getC_none.1 (putE_iff.1 h0).2
      have h3 : delC L a.code = L := by
        unfold delC
        rw [List.filter_eq_self]
        intro x hx
        simpa using h2 x hx
      rw [if_pos h0, newL_len0 h]
      unfold putC
      rw [insC_len, h3, List.length_cons]
      omega
    · rename_i h0
      exact absurd h h0
/-- Whatever the order. -/
theorem new_perm {l m : List Acc} (h : l.Perm m) : (newE [] l = 0 ↔ newE [] m = 0) ∧ (newE [] l = 0 → newL [] l = newL [] m) := by
  have h1 : newE [] l = 0 ↔ newE [] m = 0 := by
    rw [newE_zero, newE_zero]
    have hm : ∀ x, x ∈ l ↔ x ∈ m := fun x => h.mem_iff
    have hn : (l.map Acc.code).Nodup ↔ (m.map Acc.code).Nodup := (h.map _).nodup_iff
    simp only [hm, hn]
  refine ⟨h1, fun h0 => srtC_ext (newL_good Good.nil).srt (newL_good Good.nil).srt fun x => ?_⟩
  rw [newL_mem h0, newL_mem (h1.1 h0), h.mem_iff]
theorem rot_perm (l : List Acc) (k : Nat) : (l.drop k ++ l.take k).Perm l := by
  have := (List.perm_append_comm (l₁ := l.drop k) (l₂ := l.take k))
  rwa [List.take_append_drop] at this
/-- How many accounts are of a lesser kind. -/
def cntLt (L : CL) (k : Int) : Nat := (L.filter fun a => decide (a.kind < k)).length
theorem cntLt_step (L : CL) (k : Int) : cntLt L (k + 1) = cntLt L k + (kindL L [k]).length := by
  unfold cntLt kindL
  rw [List.length_map]
  induction L with
  | nil => rfl
  | cons a L ih =>
    rw [List.filter_cons, List.filter_cons, List.filter_cons]
    have hc : ([k] : List Int).contains a.kind = decide (a.kind = k) := by simp
    rw [hc]
    rcases Int.lt_trichotomy a.kind k with h | h | h
    · rw [if_pos (by simp; omega), if_pos (by simpa using h), if_neg (by simp; omega)]
      simp only [List.length_cons]
      omega
    · rw [if_pos (by simp; omega), if_neg (by simp; omega), if_pos (by simpa using h)]
      simp only [List.length_cons]
      omega
    · rw [if_neg (by simp; omega), if_neg (by simp; omega), if_neg (by simp; omega)]
      exact ih
theorem good_kind {L : CL} (h : Good L) : ∀ a ∈ L, 1 ≤ a.kind ∧ a.kind ≤ 5 := fun a ha => by
  obtain ⟨-, -, h3⟩ := row_parts (h.row a ha)
  simpa [knownB] using h3
theorem cntLt_one {L : CL} (h : Good L) : cntLt L 1 = 0 := by
  unfold cntLt
  rw [List.length_eq_zero_iff, List.filter_eq_nil_iff]
  intro a ha
  have := good_kind h a ha
  simp
  omega
theorem cntLt_six {L : CL} (h : Good L) : cntLt L 6 = L.length := by
  unfold cntLt
  congr 1
  rw [List.filter_eq_self]
  intro a ha
  have := good_kind h a ha
  simp
  omega
theorem kindL_all {L : CL} (h : Good L) : (kindL L [1, 2, 3, 4, 5]).length = L.length := by
  unfold kindL
  rw [List.length_map]
  congr 1
  rw [List.filter_eq_self]
  intro a ha
  have := good_kind h a ha
  simp
  omega
theorem kindL_none (L : CL) : kindL L [] = [] := by
  unfold kindL
  simp
theorem ch_new_ok {w : World} {A : Option Addr} {n c : Nat} {l : List Acc} (hs : Src w 3 A n (l.flatMap accEnc)) (hn : n ≤ 1000) (hE : newE [] l = 0) : Calls Try.prog 12 #[.slice A n c] w fun e w' => ∃ p, e = .returned (.tuple #[.pointer (some ⟨p, 0, none⟩), .int .i64 0]) ∧ CNew w w' p (newL [] l) := by
  refine (ch_new hs hn).mono ?_
  rintro e w' (⟨-, p, F, rfl, h1, h2, h3⟩ | ⟨h, -⟩)
  · exact ⟨p, rfl, ⟨F, h1, h2⟩, h3⟩
  · exact absurd hE h
theorem ch_new_bad {w : World} {A : Option Addr} {n c : Nat} {l : List Acc} (hs : Src w 3 A n (l.flatMap accEnc)) (hn : n ≤ 1000) (hE : newE [] l ≠ 0) : Calls Try.prog 12 #[.slice A n c] w fun e w' => e = .returned (.tuple #[.pointer none, .int .i64 (newE [] l)]) ∧ Chg [] w w' := by
  refine (ch_new hs hn).mono ?_
  rintro e w' (⟨h, -⟩ | ⟨-, h⟩)
  · exact absurd h hE
  · exact h
set_option maxRecDepth 8000 in
set_option maxHeartbeats 2000000 in
theorem same_accs {w : World} {A B : Option Addr} {n c d : Nat} {l : List Acc} (h1 : Src w 3 A n (l.flatMap accEnc)) (h2 : Src w 3 B n (l.flatMap accEnc)) (hn : n ≤ 1000000) :
    Calls Try.prog 14 #[.slice A n c, .slice B n d] w fun e w' => e = .returned (.bool true) ∧ Chg [] w w' := by
  have hl : l.length = n := by have := h1.1; rw [flatMap_len accEnc_len] at this; omega
  replace hl := Lib.hid hl
  go_enter Try.func14, Try.ntmps14
  go_wp2_with fail
  go_loopw [5] (fun iv wr => ∃ k : Nat, k ≤ n ∧ iv = .int .i64 k ∧ Chg [] w wr) (fun iv _ => n - (intOf iv).toNat)
  case atStart => exact ⟨0, by omega, rfl, Chg.refl _ _⟩
  case round =>
    obtain ⟨k, hk, rfl, hc⟩ := hrel
    by_cases hlt : k < n
    · obtain ⟨a, rfl, c1, c2, c3⟩ := acc_cells (h1.chg hc (by simp)) (i := k) (by rw [hl.out]; exact hlt)
      obtain ⟨b, rfl, d1, d2, d3⟩ := acc_cells (h2.chg hc (by simp)) (i := k) (by rw [hl.out]; exact hlt)
      have he := acc_eq (l[k]'(by rw [hl.out]; exact hlt)).code (l[k]'(by rw [hl.out]; exact hlt)).kind (l[k]'(by rw [hl.out]; exact hlt)).ret
      generalize (l[k]'(by rw [hl.out]; exact hlt)) = x at *
      obtain ⟨xc, xk, xr⟩ := x
      dsimp only at *
      go_wp2_with fail
      go_quiet (fail)
      go_wp2_with fail
      go_roundw
      case measure => simp [intOf]; omega
      case rel => exact ⟨k + 1, by omega, by go_num, hc.drewN _⟩
    · obtain rfl : k = n := by omega
      go_wp2_with fail
      go_ret
      exact ⟨by trivial, hc⟩
end Go.Proofs.Ytfcedgglehedjaa
