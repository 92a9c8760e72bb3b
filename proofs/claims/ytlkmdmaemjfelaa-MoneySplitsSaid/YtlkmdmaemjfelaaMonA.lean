/- The money's small functions: Fits, size, signed, weigh. -/
import Derived.Test.YtlkmdmaemjfelaaProg
import Derived.Test.YtlkmdmaemjfelaaRows2
import Derived.Test.YtlkmdmaemjfelaaOpen
import Derived.Deep.RegionLaw
namespace Go.Proofs.Ytlkmdmaemjfelaa
open Go.RowKit Go.Vx
set_option linter.unusedVariables false
set_option linter.unusedSimpArgs false

/-- An amount that may be. -/
def okM (a : Int) : Bool := !(decide (a < -1000000000000000) || decide (1000000000000000 < a))
theorem okM_iff {a : Int} : okM a = true ↔ -1000000000000000 ≤ a ∧ a ≤ 1000000000000000 := by simp [okM]
theorem okM_not {a : Int} : okM a = false ↔ (a < -1000000000000000 ∨ 1000000000000000 < a) := by
  simp [okM]
  omega
theorem all_take {α : Type} {p : α → Bool} {l : List α} {k : Nat} (hk : k < l.length) : (l.take (k + 1)).all p = ((l.take k).all p && p l[k]) := by
  rw [List.take_add_one, List.all_append]
  simp [hk]
theorem all_bad {α : Type} {p : α → Bool} {l : List α} {k : Nat} (hk : k < l.length) (h : p l[k] = false) : l.all p = false := by
  rw [List.all_eq_false]
  exact ⟨l[k], List.getElem_mem hk, by simp [h]⟩
theorem m_fits {w : World} {A : Option Addr} {n c : Nat} {l : List Int} (hs : Src w 1 A n (l.map (Value.int .i64))) (hn : n ≤ 1000000) :
    Calls Try.prog 19 #[.slice A n c] w fun e w' => e = .returned (.bool (l.all okM)) ∧ w = w' := by
  have hl : l.length = n := by have := hs.1; simpa using this
  go_enter Try.func19, Try.ntmps19
  go_wp2
  go_loopw [7] (fun i wr => ∃ k : Nat, k ≤ n ∧ i = .int .i64 k ∧ (l.take k).all okM = true ∧ w = wr) (fun i _ => n - (intOf i).toNat)
  case atStart => exact ⟨0, by omega, rfl, by simp, rfl⟩
  case round =>
    obtain ⟨k, hk, rfl, hall, rfl⟩ := hrel
    by_cases hlt : k < n
    · obtain ⟨ad, rfl, hc⟩ := hs.2 (by omega)
      have hck := hc k (.int .i64 (l[k]'(by omega))) (by simp [hl, hlt])
      have e1 := all_take (p := okM) (l := l) (k := k) (by omega)
      have e2 := all_bad (p := okM) (l := l) (k := k) (by omega)
      generalize hx : l[k]'(by omega) = x at *
      clear hc
      replace hall := Lib.hid hall
      replace e1 := Lib.hid e1
      cases h1 : okM x with
      | true =>
        have b1 : decide (x < -1000000000000000) = false := by simp [okM] at h1; simp; omega
        have b2 : decide (1000000000000000 < x) = false := by simp [okM] at h1; simp; omega
        clear e2
        replace h1 := Lib.hid h1
        go_wp2
        go_roundw
        case measure => simp [intOf]; omega
        case rel => exact ⟨k + 1, by omega, by go_num, by rw [e1.out, hall.out, h1.out]; rfl, by trivial⟩
      | false =>
        replace e2 := Lib.hid (e2 h1)
        rcases okM_not.1 h1 with h2 | h2
        · have b1 : decide (x < -1000000000000000) = true := by simpa using h2
          go_wp2
          go_ret
          exact ⟨by rw [e2.out]; rfl, rfl⟩
        · have b1 : decide (x < -1000000000000000) = false := by simp; omega
          have b2 : decide (1000000000000000 < x) = true := by simpa using h2
          go_wp2
          go_ret
          exact ⟨by rw [e2.out]; rfl, rfl⟩
    · obtain rfl : k = n := by omega
      rw [← hl, List.take_length] at hall
      replace hall := Lib.hid hall
      replace hl := Lib.hid hl
      go_wp2
      go_ret
      exact ⟨by rw [hall.out]; rfl, by trivial⟩
theorem m_size (a : Int) (ha : okM a = true) (w : World) :
    Calls Try.prog 25 #[.int .i64 a] w fun e w' => e = .returned (.int .u64 (a.natAbs : Int)) ∧ w = w' := by
  obtain ⟨h1, h2⟩ := okM_iff.1 ha
  clear ha
  rcases Int.lt_or_le a 0 with h | h
  · have e : IntKind.u64.wrap (IntKind.i64.wrap (-a)) = (a.natAbs : Int) := by
      rw [IntKind.wrap_i64, IntKind.wrap_u64]; omega
    go_enter Try.func25, Try.ntmps25
    go_wp2
    go_ret
    exact ⟨by rw [show (a.natAbs : Int) = -a by omega]; rfl, rfl⟩
  · have e : IntKind.u64.wrap a = (a.natAbs : Int) := by
      rw [IntKind.wrap_u64]; omega
    go_enter Try.func25, Try.ntmps25
    go_wp2
    go_ret
    exact ⟨rfl, rfl⟩
theorem m_signed (n : Nat) (like : Int) (hn : n ≤ 1000000000000000) (w : World) :
    Calls Try.prog 30 #[.int .u64 n, .int .i64 like] w fun e w' => e = .returned (.int .i64 (if like < 0 then -(n : Int) else n)) ∧ w = w' := by
  rcases Int.lt_or_le like 0 with h | h
  · have e : IntKind.i64.wrap (n : Int) = (n : Int) := by rw [IntKind.wrap_i64]; omega
    go_enter Try.func30, Try.ntmps30
    go_wp2
    go_ret
    exact ⟨rfl, rfl⟩
  · have e : IntKind.i64.wrap (n : Int) = (n : Int) := by rw [IntKind.wrap_i64]; omega
    go_enter Try.func30, Try.ntmps30
    go_wp2
    go_ret
    exact ⟨rfl, rfl⟩
/-- A weight that may be. -/
def okW (a : Int) : Bool := !(decide (a < 0) || decide (1000000 < a))
theorem okW_iff {a : Int} : okW a = true ↔ 0 ≤ a ∧ a ≤ 1000000 := by simp [okW]
theorem okW_not {a : Int} : okW a = false ↔ (a < 0 ∨ 1000000 < a) := by
  simp [okW]
  omega
def weigh (l : List Int) : Int := if l.length ≤ 20 ∧ l.all okW = true then l.sum else 0
theorem sum_take {l : List Int} {k : Nat} (hk : k < l.length) : (l.take (k + 1)).sum = (l.take k).sum + l[k] := by
  rw [List.take_add_one, List.sum_append]
  simp [hk]
theorem sum_okW : ∀ {l : List Int}, l.all okW = true → 0 ≤ l.sum ∧ l.sum ≤ l.length * 1000000
  | [], _ => by simp
  | a :: l, h => by
    simp only [List.all_cons, Bool.and_eq_true] at h
    have := sum_okW h.2
    have := okW_iff.1 h.1
    simp only [List.sum_cons, List.length_cons]
    omega
theorem m_weigh {w : World} {A : Option Addr} {n c : Nat} {l : List Int} (hs : Src w 1 A n (l.map (Value.int .i64))) (hn : n ≤ 1000000) :
    Calls Try.prog 24 #[.slice A n c] w fun e w' => e = .returned (.int .i64 (weigh l)) ∧ w = w' := by
  have hl : l.length = n := by have := hs.1; simpa using this
  have hweigh : ∀ r, weigh l = r → Hid (Ending.returned (Value.int .i64 r) = Ending.returned (Value.int .i64 (weigh l))) := by rintro r rfl; exact Lib.hid rfl
  by_cases h20 : 20 < n
  · have e := hweigh 0 (by simp [weigh]; omega)
    have b : decide (20 < (n : Int)) = true := by simp; omega
    clear hweigh
    go_enter Try.func24, Try.ntmps24
    go_wp2
    go_ret
    exact ⟨e.out, rfl⟩
  have b : decide (20 < (n : Int)) = false := by simp; omega
  go_enter Try.func24, Try.ntmps24
  go_wp2
  go_loopw [3, 11] (fun s i wr => ∃ k : Nat, k ≤ n ∧ i = .int .i64 k ∧ s = .int .i64 (l.take k).sum ∧ (l.take k).all okW = true ∧ w = wr) (fun _ i _ => n - (intOf i).toNat)
  case atStart => exact ⟨0, by omega, rfl, by simp, by simp, rfl⟩
  case round =>
    obtain ⟨k, hk, rfl, rfl, hall, rfl⟩ := hrel
    obtain ⟨s1, s2⟩ := sum_okW hall
    have hlk : (l.take k).length = k := by simp; omega
    rw [hlk] at s2
    by_cases hlt : k < n
    · obtain ⟨ad, rfl, hc⟩ := hs.2 (by omega)
      have hck := hc k (.int .i64 (l[k]'(by omega))) (by simp [hl, hlt])
      have e1 := all_take (p := okW) (l := l) (k := k) (by omega)
      have e2 := all_bad (p := okW) (l := l) (k := k) (by omega)
      have e3 := sum_take (l := l) (k := k) (by omega)
      generalize hx : l[k]'(by omega) = x at *
      clear hc
      replace hall := Lib.hid hall
      replace e1 := Lib.hid e1
      replace e3 := Lib.hid e3
      cases h1 : okW x with
      | true =>
        have b1 : decide (x < 0) = false := by simp [okW] at h1; simp; omega
        have b2 : decide (1000000 < x) = false := by simp [okW] at h1; simp; omega
        have h3 := okW_iff.1 h1
        clear e2
        replace h1 := Lib.hid h1
        have e4 : Hid (IntKind.i64.wrap ((l.take k).sum + x) = (l.take (k + 1)).sum) := by show _ = _; rw [IntKind.wrap_i64, e3.out]; omega
        generalize (l.take k).sum = s at *
        go_wp2
        go_roundw
        case measure => simp [intOf]; omega
        case rel => exact ⟨k + 1, by omega, by go_num, by first | rw [e3.out] | rw [e4.out], by rw [e1.out, hall.out, h1.out]; rfl, by trivial⟩
      | false =>
        have e := hweigh 0 (by simp [weigh, e2 h1])
        clear e2 hweigh
        generalize (l.take k).sum = s at *
        rcases okW_not.1 h1 with h2 | h2
        · have b1 : decide (x < 0) = true := by simpa using h2
          go_wp2
          go_ret
          exact ⟨e.out, rfl⟩
        · have b1 : decide (x < 0) = false := by simp; omega
          have b2 : decide (1000000 < x) = true := by simpa using h2
          go_wp2
          go_ret
          exact ⟨e.out, rfl⟩
    · obtain rfl : k = n := by omega
      have e := hweigh (l.take k).sum (by
        rw [← hl, List.take_length] at hall ⊢
        rw [weigh, if_pos ⟨by omega, hall⟩])
      clear hweigh
      replace hall := Lib.hid hall
      replace hl := Lib.hid hl
      generalize (l.take k).sum = s at *
      go_wp2
      go_ret
      exact ⟨e.out, by trivial⟩
end Go.Proofs.Ytlkmdmaemjfelaa
