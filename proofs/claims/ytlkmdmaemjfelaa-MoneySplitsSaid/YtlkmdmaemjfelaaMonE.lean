/- The money's total, and Add. -/
import Derived.Test.YtlkmdmaemjfelaaMonA
import Derived.Test.YtlkmdmaemjfelaaHeap
import Derived.Deep.RegionLaw
namespace Go.Proofs.Ytlkmdmaemjfelaa
open Go.RowKit Go.Vx
set_option linter.unusedVariables false
set_option linter.unusedSimpArgs false

theorem tdm (a : Int) : a.tdiv 1000000000 * 1000000000 + a.tmod 1000000000 = a ∧ -1000000000 < a.tmod 1000000000 ∧ a.tmod 1000000000 < 1000000000 := by
  rcases Int.lt_or_le a 0 with h | h
  · have e1 : a.tdiv 1000000000 = -((-a) / 1000000000) := by rw [← Int.tdiv_eq_ediv_of_nonneg (by omega), Int.neg_tdiv, Int.neg_neg]
    have e2 : a.tmod 1000000000 = -((-a) % 1000000000) := by rw [← Int.tmod_eq_emod_of_nonneg (by omega), Int.neg_tmod, Int.neg_neg]
    rw [e1, e2]
    omega
  · rw [Int.tdiv_eq_ediv_of_nonneg h, Int.tmod_eq_emod_of_nonneg h]
    omega
set_option maxHeartbeats 1000000 in
theorem m_take {w : World} {p : Nat} {h lo : Int} (hb : Blk w p 90 #[.int .i64 h, .int .i64 lo]) {a : Int} (ha : okM a = true) (h1 : -1000000000000000 ≤ h ∧ h ≤ 1000000000000000) (h2 : -1000000000 < lo ∧ lo < 1000000000) :
    Calls Try.prog 71 #[.pointer (some ⟨p, 0, none⟩), .int .i64 a] w fun e w' => e = .returned (.tuple #[]) ∧ ∃ h' lo' : Int, Blk w' p 90 #[.int .i64 h', .int .i64 lo'] ∧ h' * 1000000000 + lo' = h * 1000000000 + lo + a ∧ (-1000000000 < lo' ∧ lo' < 1000000000) ∧ Chg [p] w w' := by
  have hA := okM_iff.1 ha
  clear ha
  have c0 : w.cell? ⟨p, 0, none⟩ = some (.int .i64 h) := hb.cell 0
  have c1 : w.cell? ⟨p, 1, none⟩ = some (.int .i64 lo) := hb.cell 1
  have f0 := hb.frozen 0
  have f1 := hb.frozen 1
  obtain ⟨q1, q2, q3⟩ := tdm a
  obtain ⟨r1, r2, r3⟩ := tdm (lo + a.tmod 1000000000)
  generalize hd : a.tdiv 1000000000 = d at *
  generalize hm : a.tmod 1000000000 = m at *
  generalize hd2 : (lo + m).tdiv 1000000000 = d2 at *
  generalize hm2 : (lo + m).tmod 1000000000 = m2 at *
  have e1 : IntKind.i64.wrap (h + d) = h + d := by rw [IntKind.wrap_i64]; omega
  have e2 : IntKind.i64.wrap (lo + m) = lo + m := by rw [IntKind.wrap_i64]; omega
  have e3 : IntKind.i64.wrap (h + d + d2) = h + d + d2 := by rw [IntKind.wrap_i64]; omega
  have e4 : IntKind.i64.wrap d2 = d2 := by rw [IntKind.wrap_i64]; omega
  have e5 : IntKind.i64.wrap d = d := by rw [IntKind.wrap_i64]; omega
  go_enter Try.func71, Try.ntmps71
  go_wp2_with fail
  go_region_law (fail)
  all_goals
    go_wp2_with fail
    go_end0
    refine ⟨by trivial, h + d + d2, m2, ?_, by omega, ⟨r2, r3⟩, (((((Chg.refl [p] w).setCell (by simp) _).setCell (by simp) _).drew.setCell (by simp) _).setCell (by simp) _)⟩
    exact ((((hb.set_ 0 _).set_ 1 _).drew.set_ 0 _).set_ 1 _)
/-- What a sum tells. -/
def told (s : Int) : Int × Int := if okM s = true then (s, 0) else (0, 2)
def addUp (l : List Int) : Int × Int := if l.all okM = true then told l.sum else (0, 2)
theorem fits1 (a : Int) (A : Option Addr) (w : World) (hs : Src w 1 A 1 ([a].map (Value.int .i64))) : Calls Try.prog 19 #[.slice A 1 1] w fun e w' => e = .returned (.bool (okM a)) ∧ w = w' := by
  have := m_fits (l := [a]) (c := 1) hs (by omega)
  rwa [show [a].all okM = okM a by simp] at this
set_option maxHeartbeats 1000000 in
set_option maxRecDepth 8000 in
theorem m_tell {w : World} {p : Nat} {h lo : Int} (hb : Blk w p 90 #[.int .i64 h, .int .i64 lo]) (h1 : -1000000000000000 ≤ h ∧ h ≤ 1000000000000000) (h2 : -1000000000 < lo ∧ lo < 1000000000) :
    Calls Try.prog 72 #[.pointer (some ⟨p, 0, none⟩)] w fun e w' => e = .returned (.tuple #[.int .i64 (told (h * 1000000000 + lo)).1, .int .i64 (told (h * 1000000000 + lo)).2]) ∧ Chg [] w w' := by
  have c0 : w.cell? ⟨p, 0, none⟩ = some (.int .i64 h) := hb.cell 0
  have c1 : w.cell? ⟨p, 1, none⟩ = some (.int .i64 lo) := hb.cell 1
  by_cases b1 : 1000000 < h
  · have e : told (h * 1000000000 + lo) = (0, 2) := by
      unfold told
      rw [if_neg]
      rw [okM_iff]
      omega
    rw [e]
    have d1 : decide (1000000 < h) = true := by simpa using b1
    go_enter Try.func72, Try.ntmps72
    go_wp2_with fail
    go_ret2
    exact ⟨by trivial, Chg.refl _ _⟩
  have d1 : decide (1000000 < h) = false := by simp; omega
  by_cases b2 : h < -1000000
  · have e : told (h * 1000000000 + lo) = (0, 2) := by
      unfold told
      rw [if_neg]
      rw [okM_iff]
      omega
    rw [e]
    have d2 : decide (h < -1000000) = true := by simpa using b2
    go_enter Try.func72, Try.ntmps72
    go_wp2_with fail
    go_ret2
    exact ⟨by trivial, Chg.refl _ _⟩
  have d2 : decide (h < -1000000) = false := by simp; omega
  have e1 : IntKind.i64.wrap (h * 1000000000) = h * 1000000000 := by rw [IntKind.wrap_i64]; omega
  have e2 : IntKind.i64.wrap (h * 1000000000 + lo) = h * 1000000000 + lo := by rw [IntKind.wrap_i64]; omega
  have hz : ∀ s, s = h * 1000000000 + lo → Hid (Value.int .i64 (h * 1000000000 + lo) = .int .i64 s) := by rintro s rfl; exact Lib.hid rfl
  cases ho : okM (h * 1000000000 + lo) with
  | true =>
    have e : told (h * 1000000000 + lo) = (h * 1000000000 + lo, 0) := by unfold told; rw [if_pos ho]
    rw [e]
    have hfit := fits1 (h * 1000000000 + lo)
    rw [ho] at hfit
    clear e ho hz
    go_enter Try.func72, Try.ntmps72
    go_wp2_with fail
    go_region_law (fail)
    all_goals
      go_wp2_with (go_at_call 19; refine (hfit _ _ (by exact Src.one1 rfl)).mono ?_; rintro e w' ⟨rfl, rfl⟩)
      go_ret2
      exact ⟨by trivial, (Chg.refl _ _).drew.alloc _⟩
  | false =>
    have e : told (h * 1000000000 + lo) = (0, 2) := by unfold told; rw [ho]; rfl
    rw [e]
    have hfit := fits1 (h * 1000000000 + lo)
    rw [ho] at hfit
    clear e ho hz
    go_enter Try.func72, Try.ntmps72
    go_wp2_with fail
    go_region_law (fail)
    all_goals
      go_wp2_with (go_at_call 19; refine (hfit _ _ (by exact Src.one1 rfl)).mono ?_; rintro e w' ⟨rfl, rfl⟩)
      go_ret2
      exact ⟨by trivial, (Chg.refl _ _).drew.alloc _⟩
theorem sum_okM : ∀ {l : List Int}, l.all okM = true → -(l.length * 1000000000000000) ≤ l.sum ∧ l.sum ≤ l.length * 1000000000000000
  | [], _ => by simp
  | a :: l, h => by
    simp only [List.all_cons, Bool.and_eq_true] at h
    have := sum_okM h.2
    have := okM_iff.1 h.1
    simp only [List.sum_cons, List.length_cons]
    omega
set_option maxHeartbeats 1000000 in
set_option maxRecDepth 8000 in
theorem m_add {w : World} {A : Option Addr} {n c : Nat} {l : List Int} (hs : Src w 1 A n (l.map (Value.int .i64))) (hn : n ≤ 1000) :
    Calls Try.prog 20 #[.slice A n c] w fun e w' => e = .returned (.tuple #[.int .i64 (addUp l).1, .int .i64 (addUp l).2]) ∧ Chg [] w w' := by
  have hl : l.length = n := by have := hs.1; simpa using this
  have hfit := m_fits hs (by omega) (c := c)
  cases ho : l.all okM with
  | false =>
    have e : addUp l = (0, 2) := by unfold addUp; rw [ho]; rfl
    rw [e]
    rw [ho] at hfit
    go_enter Try.func20, Try.ntmps20
    go_wp2_with (go_at_call 19; refine hfit.mono ?_; rintro e w' ⟨rfl, rfl⟩)
    go_ret2
    exact ⟨by trivial, Chg.refl _ _⟩
  | true =>
    have e : addUp l = told l.sum := by unfold addUp; rw [if_pos ho]
    rw [ho] at hfit
    rw [e]
    have hat : ∀ k, k < n → okM (nth l k) = true ∧ (l.take (k + 1)).sum = (l.take k).sum + nth l k := fun k hk => by
      rw [at_eq (by omega)]
      exact ⟨List.all_eq_true.1 ho _ (List.getElem_mem (by omega)), sum_take (by omega)⟩
    have hbd : ∀ k, k ≤ n → -1000000000000000000 ≤ (l.take k).sum ∧ (l.take k).sum ≤ 1000000000000000000 := fun k hk => by
      have h1 : (l.take k).all okM = true := by
        rw [List.all_eq_true] at ho ⊢
        exact fun x hx => ho x (List.mem_of_mem_take hx)
      have := sum_okM h1
      have hlk : (l.take k).length = k := by simp; omega
      rw [hlk] at this
      omega
    replace hl := Lib.hid hl
    clear e ho
    go_enter Try.func20, Try.ntmps20
    go_wp2_with (go_at_call 19; refine hfit.mono ?_; rintro e w' ⟨rfl, rfl⟩)
    go_loopw [12] (fun iv wr => ∃ (k : Nat) (h lo : Int), k ≤ n ∧ iv = .int .i64 k ∧ Blk wr w.heap.size 90 #[.int .i64 h, .int .i64 lo] ∧ h * 1000000000 + lo = (l.take k).sum ∧ (-1000000000 < lo ∧ lo < 1000000000) ∧ Chg [] w wr) (fun iv _ => n - (intOf iv).toNat)
    case atStart => exact ⟨0, 0, 0, by omega, rfl, Blk.new _ _ _, by simp, by omega, (Chg.refl _ _).alloc _⟩
    case round =>
      obtain ⟨k, h, lo, hk, rfl, hb, hv, hlo, hc⟩ := hrel
      have hbk := hbd k hk
      by_cases hlt : k < n
      · obtain ⟨ad, rfl, hcc⟩ := (hs.chg hc (by simp)).2 (by omega)
        obtain ⟨a1, a2⟩ := hat k hlt
        have hck := hcc k (.int .i64 (nth l k)) (by rw [List.getElem?_map, List.getElem?_eq_getElem (by rw [hl.out]; exact hlt), ← at_eq]; rfl)
        have htk := m_take hb a1 (by omega) hlo
        clear hcc
        replace hv := Lib.hid hv
        replace a2 := Lib.hid a2
        generalize nth l k = x at *
        go_wp2_with (go_at_call 71; refine htk.mono ?_; rintro e w' ⟨rfl, h', lo', hb', hv', hlo', hc'⟩)
        go_roundw
        case measure => simp [intOf]; omega
        case rel =>
          refine ⟨k + 1, h', lo', by omega, by go_num, hb', ?_, hlo', hc.trans hc' (by simp)⟩
          rw [hv', hv.out, a2.out]
      · obtain rfl : k = n := by omega
        have htl := m_tell hb (by omega) hlo
        rw [hv, ← hl.out, List.take_length] at htl
        clear hfit hat hbd hbk hv
        generalize hr : told l.sum = r at *
        replace hr := Lib.hid hr
        go_wp2_with (go_at_call 72; refine htl.mono ?_; rintro e w' ⟨rfl, hc'⟩)
        go_ret2
        exact ⟨by rw [hr.out]; rfl, hc.trans' hc'⟩
end Go.Proofs.Ytlkmdmaemjfelaa
