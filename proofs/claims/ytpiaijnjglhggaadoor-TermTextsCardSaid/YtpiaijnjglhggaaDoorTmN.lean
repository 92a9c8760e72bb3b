/- The reference's month in letters: Digits. -/
import Derived.Test.YtpiaijnjglhggaaDoorTmG
import Derived.Test.YtpiaijnjglhggaaDoorTmE
import Derived.Laws.Cover1
namespace Go.Proofs.YtpiaijnjglhggaaDoor
open Go.RowKit Go.Vx
set_option linter.unusedVariables false
set_option linter.unusedSimpArgs false

/-- One more round where nothing is written yet. -/
def szOf : Value → Nat
  | .string b => if b.size = 0 then 1 else 0
  | _ => 0
theorem szOf_push (d : UInt8) (A : ByteArray) : szOf (.string (⟨#[d]⟩ ++ A)) = 0 := by
  show (if (⟨#[d]⟩ ++ A : ByteArray).size = 0 then 1 else 0) = 0
  rw [if_neg]
  show ¬ (⟨#[d]⟩ ++ A : ByteArray).data.size = 0
  simp [ByteArray.data_append]
/-- What stands of the digits: u is left, the letters behind it are written. -/
def Digs (n u : Nat) (s : List UInt8) : Prop := (0 < u ∨ s = [] → Lib.decDigits u ++ s = Lib.decDigits n) ∧ (u = 0 → s ≠ [] → s = Lib.decDigits n) ∧ u ≤ n
theorem digs_next {n u : Nat} {s : List UInt8} (h : Digs n u s) (hu : 0 < u ∨ s = []) : Digs n (u / 10) (UInt8.ofNat (48 + u % 10) :: s) := by
  obtain ⟨h1, h2, h3⟩ := h
  have h4 := h1 hu
  refine ⟨fun h => ?_, fun h _ => ?_, by omega⟩
  · rcases h with h | h
    · rw [← h4]
      conv => rhs; rw [Lib.decDigits]
      rw [dif_neg (by omega)]
      simp
    · cases h
  · rw [← h4, Lib.decDigits, dif_pos (by omega), show u % 10 = u by omega]
    rfl
/-- A string of one letter, out of a row of one. -/
theorem one_byte (w : World) (x : Int) (h0 : 0 ≤ x) (h1 : x < 256) :
    (convert 50 9 (.slice (some ⟨w.heap.size, 0, none⟩) 1 1)).run Tryd.prog (w.alloc (.cells #[.int .u8 x] 5)) = .ok (.string ⟨#[UInt8.ofNat x.toNat]⟩) (w.alloc (.cells #[.int .u8 x] 5)) :=
  run_convert_bytes_back (w.alloc (.cells #[.int .u8 x] 5)) 50 9 5 ⟨w.heap.size, 0, none⟩ 1 [UInt8.ofNat x.toNat] Tryd.underlying50 Tryd.underlying5 Tryd.underlying9 (fun j hj => by
    obtain rfl : j = 0 := by simpa using hj
    rw [show (⟨w.heap.size, 0, none⟩ : Addr).add 0 = ⟨w.heap.size, 0, none⟩ from rfl, (Blk.new w 5 #[.int .u8 x]).cell]
    simp
    omega)
theorem byte_push (d : UInt8) (s : List UInt8) : (⟨#[d]⟩ : ByteArray) ++ ⟨s.toArray⟩ = ⟨(d :: s).toArray⟩ := by
  apply ByteArray.ext
  simp [ByteArray.data_append]
set_option maxRecDepth 8000 in
set_option maxHeartbeats 4000000 in
theorem r1_digits (n : Nat) (hn : n ≤ 9999) (w : World) : Calls Tryd.prog 24 #[.int .i64 n] w fun e w' => e = .returned (.string (numC n)) ∧ Chg [] w w' := by
  have hfin : ∀ u s, Digs n u s → u = 0 → s ≠ [] → Hid ((⟨s.toArray⟩ : ByteArray) = numC n) := fun u s h h0 hs => Lib.hid (by
    rw [h.2.1 h0 hs]
    unfold numC Lib.itoa
    rw [if_neg (by omega), Int.toNat_natCast])
  generalize numC n = R at *
  go_enter Tryd.func24, Tryd.ntmps24
  go_wp2_with fail
  go_loopw [3, 4] (fun sv uv wr => ∃ (u : Nat) (s : List UInt8), sv = .string ⟨s.toArray⟩ ∧ uv = .int .u64 u ∧ Digs n u s ∧ s.length + u ≤ n + 1 ∧ Chg [] w wr) (fun sv uv _ => (intOf uv).toNat + szOf sv)
  case atStart => exact ⟨n, [], rfl, by go_num, ⟨fun _ => by simp, fun _ h => absurd rfl h, Nat.le_refl _⟩, by simp, Chg.refl _ _⟩
  case round =>
    obtain ⟨u, s, rfl, rfl, hd, hl, hc⟩ := hrel
    by_cases hu : 0 < u
    · have hnx := digs_next hd (.inl hu)
      have hle := hd.2.2
      clear hd hfin
      have b1 : decide (0 < (u : Int)) = true := by simp; omega
      have hsz : (⟨s.toArray⟩ : ByteArray).size ≤ 10001 := by show s.toArray.size ≤ _; simp; omega
      have hpush := byte_push (UInt8.ofNat (48 + (u : Int) % 10).toNat) s
      rw [show (48 + (u : Int) % 10).toNat = 48 + u % 10 by omega] at hpush
      go_wp2_with fail
      rw [one_byte _ _ (by omega) (by omega)]
      rw [show (48 + (u : Int) % 10).toNat = 48 + u % 10 by omega]
      go_wp2_with fail
      go_roundw
      case measure =>
        have hz := szOf_push
        simp [intOf, hz]
        omega
      case rel => exact ⟨u / 10, UInt8.ofNat (48 + u % 10) :: s, by rw [show (48 : UInt8) + UInt8.ofNat (u % 10) = UInt8.ofNat (48 + u % 10) by simp, hpush], by go_num, hnx, by simp; omega, hc.alloc _⟩
    · obtain rfl : u = 0 := by omega
      cases s with
      | nil =>
        have hnx := digs_next hd (.inr rfl)
        clear hd hfin
        have hpush := byte_push (UInt8.ofNat 48) []
        go_wp2_with fail
        rw [one_byte _ _ (by omega) (by omega)]
        go_wp2_with fail
        go_roundw
        case measure =>
          have h1 : szOf (.string ⟨#[]⟩) = 1 := rfl
          have hz := szOf_push
          simp [intOf, hz, h1]
        case rel => exact ⟨0, [UInt8.ofNat 48], rfl, by go_num, hnx, by simp, hc.alloc _⟩
      | cons x s =>
        have hf := hfin 0 (x :: s) hd rfl (by simp)
        clear hd hfin
        have hne : (⟨(x :: s).toArray⟩ : ByteArray).toList.isEmpty = false := by rw [Lib.toList_data]; rfl
        generalize (⟨(x :: s).toArray⟩ : ByteArray) = S at *
        go_wp2_with fail
        go_ret
        exact ⟨by rw [← hf.out]; rfl, hc⟩
end Go.Proofs.YtpiaijnjglhggaaDoor
