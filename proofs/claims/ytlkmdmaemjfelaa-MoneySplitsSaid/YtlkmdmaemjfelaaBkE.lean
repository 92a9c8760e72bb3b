/- Lists that are kept: a kind of which there are none. (printed by bk.py) -/
import Derived.Test.YtlkmdmaemjfelaaProg
import Derived.Test.YtlkmdmaemjfelaaBkA
namespace Go.Proofs.Ytlkmdmaemjfelaa
open Go.RowKit Go.Vx
set_option linter.unusedVariables false
set_option linter.unusedSimpArgs false
set_option maxRecDepth 8000 in
theorem bke_stillTexts {w : World} {p : Nat} (h : w.cell? ⟨p, 0, none⟩ = some (.slice none 0 0)) : Calls Try.prog 31 #[.pointer (some ⟨p, 0, none⟩)] w fun e w' => e = .returned (.bool true) ∧ w = w' := by
  go_enter Try.func31, Try.ntmps31
  go_wp2_with fail
  go_loopw [3] (fun iv wr => iv = .int .i64 0 ∧ w = wr) (fun iv _ => 0)
  case atStart => exact ⟨rfl, rfl⟩
  case round =>
    obtain ⟨rfl, rfl⟩ := hrel
    go_wp2_with fail
    go_ret
    exact ⟨by trivial, rfl⟩
set_option maxRecDepth 8000 in
theorem bke_putTexts {w : World} {p : Nat} (h : w.cell? ⟨p, 0, none⟩ = some (.slice none 0 0)) : Calls Try.prog 43 #[.pointer (some ⟨p, 0, none⟩)] w fun e w' => e = .returned (.tuple #[]) ∧ w = w' := by
  go_enter Try.func43, Try.ntmps43
  go_wp2_with fail
  go_loopw [2, 3, 4] (fun iv _ _ wr => iv = .int .i64 0 ∧ w = wr) (fun iv _ _ _ => 0)
  case atStart => exact ⟨rfl, rfl⟩
  case round =>
    obtain ⟨rfl, rfl⟩ := hrel
    go_wp2_with fail
    go_end0
    exact ⟨rfl, rfl⟩
set_option maxRecDepth 8000 in
theorem bke_growTexts {w : World} {p : Nat} (h : w.cell? ⟨p, 0, none⟩ = some (.slice none 0 0)) : Calls Try.prog 51 #[.pointer (some ⟨p, 0, none⟩)] w fun e w' => e = .returned (.slice none 0 0) ∧ w = w' := by
  go_enter Try.func51, Try.ntmps51
  go_wp2_with fail
  go_loopw [3, 4, 5, 6] (fun ov iv _ _ wr => ov = .slice none 0 0 ∧ iv = .int .i64 0 ∧ w = wr) (fun _ iv _ _ _ => 0)
  case atStart => exact ⟨rfl, rfl, rfl⟩
  case round =>
    obtain ⟨rfl, rfl, rfl⟩ := hrel
    go_wp2_with fail
    go_ret
    exact ⟨rfl, rfl⟩
set_option maxRecDepth 8000 in
theorem bke_markedTexts {w : World} : Calls Try.prog 61 #[.slice none 0 0] w fun e w' => e = .returned (.bool true) ∧ w = w' := by
  go_enter Try.func61, Try.ntmps61
  go_wp2_with fail
  go_loopw [3] (fun iv wr => iv = .int .i64 0 ∧ w = wr) (fun iv _ => 0)
  case atStart => exact ⟨rfl, rfl⟩
  case round =>
    obtain ⟨rfl, rfl⟩ := hrel
    go_wp2_with fail
    go_ret
    exact ⟨by trivial, rfl⟩
set_option maxRecDepth 8000 in
theorem bke_stillInts {w : World} {p : Nat} (h : w.cell? ⟨p, 2, none⟩ = some (.slice none 0 0)) : Calls Try.prog 32 #[.pointer (some ⟨p, 0, none⟩)] w fun e w' => e = .returned (.bool true) ∧ w = w' := by
  go_enter Try.func32, Try.ntmps32
  go_wp2_with fail
  go_loopw [3] (fun iv wr => iv = .int .i64 0 ∧ w = wr) (fun iv _ => 0)
  case atStart => exact ⟨rfl, rfl⟩
  case round =>
    obtain ⟨rfl, rfl⟩ := hrel
    go_wp2_with fail
    go_ret
    exact ⟨by trivial, rfl⟩
set_option maxRecDepth 8000 in
theorem bke_putInts {w : World} {p : Nat} (h : w.cell? ⟨p, 2, none⟩ = some (.slice none 0 0)) : Calls Try.prog 44 #[.pointer (some ⟨p, 0, none⟩)] w fun e w' => e = .returned (.tuple #[]) ∧ w = w' := by
  go_enter Try.func44, Try.ntmps44
  go_wp2_with fail
  go_loopw [2, 3, 4] (fun iv _ _ wr => iv = .int .i64 0 ∧ w = wr) (fun iv _ _ _ => 0)
  case atStart => exact ⟨rfl, rfl⟩
  case round =>
    obtain ⟨rfl, rfl⟩ := hrel
    go_wp2_with fail
    go_end0
    exact ⟨rfl, rfl⟩
set_option maxRecDepth 8000 in
theorem bke_growInts {w : World} {p : Nat} (h : w.cell? ⟨p, 2, none⟩ = some (.slice none 0 0)) : Calls Try.prog 52 #[.pointer (some ⟨p, 0, none⟩)] w fun e w' => e = .returned (.slice none 0 0) ∧ w = w' := by
  go_enter Try.func52, Try.ntmps52
  go_wp2_with fail
  go_loopw [3, 4, 5, 6] (fun ov iv _ _ wr => ov = .slice none 0 0 ∧ iv = .int .i64 0 ∧ w = wr) (fun _ iv _ _ _ => 0)
  case atStart => exact ⟨rfl, rfl, rfl⟩
  case round =>
    obtain ⟨rfl, rfl, rfl⟩ := hrel
    go_wp2_with fail
    go_ret
    exact ⟨rfl, rfl⟩
set_option maxRecDepth 8000 in
theorem bke_markedInts {w : World} : Calls Try.prog 62 #[.slice none 0 0] w fun e w' => e = .returned (.bool true) ∧ w = w' := by
  go_enter Try.func62, Try.ntmps62
  go_wp2_with fail
  go_loopw [3] (fun iv wr => iv = .int .i64 0 ∧ w = wr) (fun iv _ => 0)
  case atStart => exact ⟨rfl, rfl⟩
  case round =>
    obtain ⟨rfl, rfl⟩ := hrel
    go_wp2_with fail
    go_ret
    exact ⟨by trivial, rfl⟩
set_option maxRecDepth 8000 in
theorem bke_stillAccounts {w : World} {p : Nat} (h : w.cell? ⟨p, 4, none⟩ = some (.slice none 0 0)) : Calls Try.prog 33 #[.pointer (some ⟨p, 0, none⟩)] w fun e w' => e = .returned (.bool true) ∧ w = w' := by
  go_enter Try.func33, Try.ntmps33
  go_wp2_with fail
  go_loopw [3] (fun iv wr => iv = .int .i64 0 ∧ w = wr) (fun iv _ => 0)
  case atStart => exact ⟨rfl, rfl⟩
  case round =>
    obtain ⟨rfl, rfl⟩ := hrel
    go_wp2_with fail
    go_ret
    exact ⟨by trivial, rfl⟩
set_option maxRecDepth 8000 in
theorem bke_putAccounts {w : World} {p : Nat} (h : w.cell? ⟨p, 4, none⟩ = some (.slice none 0 0)) : Calls Try.prog 45 #[.pointer (some ⟨p, 0, none⟩)] w fun e w' => e = .returned (.tuple #[]) ∧ w = w' := by
  go_enter Try.func45, Try.ntmps45
  go_wp2_with fail
  go_loopw [2, 3, 4] (fun iv _ _ wr => iv = .int .i64 0 ∧ w = wr) (fun iv _ _ _ => 0)
  case atStart => exact ⟨rfl, rfl⟩
  case round =>
    obtain ⟨rfl, rfl⟩ := hrel
    go_wp2_with fail
    go_end0
    exact ⟨rfl, rfl⟩
set_option maxRecDepth 8000 in
theorem bke_growAccounts {w : World} {p : Nat} (h : w.cell? ⟨p, 4, none⟩ = some (.slice none 0 0)) : Calls Try.prog 53 #[.pointer (some ⟨p, 0, none⟩)] w fun e w' => e = .returned (.slice none 0 0) ∧ w = w' := by
  go_enter Try.func53, Try.ntmps53
  go_wp2_with fail
  go_loopw [3, 4, 5, 6] (fun ov iv _ _ wr => ov = .slice none 0 0 ∧ iv = .int .i64 0 ∧ w = wr) (fun _ iv _ _ _ => 0)
  case atStart => exact ⟨rfl, rfl, rfl⟩
  case round =>
    obtain ⟨rfl, rfl, rfl⟩ := hrel
    go_wp2_with fail
    go_ret
    exact ⟨rfl, rfl⟩
set_option maxRecDepth 8000 in
theorem bke_markedAccounts {w : World} : Calls Try.prog 63 #[.slice none 0 0] w fun e w' => e = .returned (.bool true) ∧ w = w' := by
  go_enter Try.func63, Try.ntmps63
  go_wp2_with fail
  go_loopw [3] (fun iv wr => iv = .int .i64 0 ∧ w = wr) (fun iv _ => 0)
  case atStart => exact ⟨rfl, rfl⟩
  case round =>
    obtain ⟨rfl, rfl⟩ := hrel
    go_wp2_with fail
    go_ret
    exact ⟨by trivial, rfl⟩
set_option maxRecDepth 8000 in
theorem bke_stillBalances {w : World} {p : Nat} (h : w.cell? ⟨p, 6, none⟩ = some (.slice none 0 0)) : Calls Try.prog 34 #[.pointer (some ⟨p, 0, none⟩)] w fun e w' => e = .returned (.bool true) ∧ w = w' := by
  go_enter Try.func34, Try.ntmps34
  go_wp2_with fail
  go_loopw [3] (fun iv wr => iv = .int .i64 0 ∧ w = wr) (fun iv _ => 0)
  case atStart => exact ⟨rfl, rfl⟩
  case round =>
    obtain ⟨rfl, rfl⟩ := hrel
    go_wp2_with fail
    go_ret
    exact ⟨by trivial, rfl⟩
set_option maxRecDepth 8000 in
theorem bke_putBalances {w : World} {p : Nat} (h : w.cell? ⟨p, 6, none⟩ = some (.slice none 0 0)) : Calls Try.prog 46 #[.pointer (some ⟨p, 0, none⟩)] w fun e w' => e = .returned (.tuple #[]) ∧ w = w' := by
  go_enter Try.func46, Try.ntmps46
  go_wp2_with fail
  go_loopw [2, 3, 4] (fun iv _ _ wr => iv = .int .i64 0 ∧ w = wr) (fun iv _ _ _ => 0)
  case atStart => exact ⟨rfl, rfl⟩
  case round =>
    obtain ⟨rfl, rfl⟩ := hrel
    go_wp2_with fail
    go_end0
    exact ⟨rfl, rfl⟩
set_option maxRecDepth 8000 in
theorem bke_growBalances {w : World} {p : Nat} (h : w.cell? ⟨p, 6, none⟩ = some (.slice none 0 0)) : Calls Try.prog 54 #[.pointer (some ⟨p, 0, none⟩)] w fun e w' => e = .returned (.slice none 0 0) ∧ w = w' := by
  go_enter Try.func54, Try.ntmps54
  go_wp2_with fail
  go_loopw [3, 4, 5, 6] (fun ov iv _ _ wr => ov = .slice none 0 0 ∧ iv = .int .i64 0 ∧ w = wr) (fun _ iv _ _ _ => 0)
  case atStart => exact ⟨rfl, rfl, rfl⟩
  case round =>
    obtain ⟨rfl, rfl, rfl⟩ := hrel
    go_wp2_with fail
    go_ret
    exact ⟨rfl, rfl⟩
set_option maxRecDepth 8000 in
theorem bke_markedBalances {w : World} : Calls Try.prog 64 #[.slice none 0 0] w fun e w' => e = .returned (.bool true) ∧ w = w' := by
  go_enter Try.func64, Try.ntmps64
  go_wp2_with fail
  go_loopw [3] (fun iv wr => iv = .int .i64 0 ∧ w = wr) (fun iv _ => 0)
  case atStart => exact ⟨rfl, rfl⟩
  case round =>
    obtain ⟨rfl, rfl⟩ := hrel
    go_wp2_with fail
    go_ret
    exact ⟨by trivial, rfl⟩
set_option maxRecDepth 8000 in
theorem bke_stillLines {w : World} {p : Nat} (h : w.cell? ⟨p, 8, none⟩ = some (.slice none 0 0)) : Calls Try.prog 35 #[.pointer (some ⟨p, 0, none⟩)] w fun e w' => e = .returned (.bool true) ∧ w = w' := by
  go_enter Try.func35, Try.ntmps35
  go_wp2_with fail
  go_loopw [3] (fun iv wr => iv = .int .i64 0 ∧ w = wr) (fun iv _ => 0)
  case atStart => exact ⟨rfl, rfl⟩
  case round =>
    obtain ⟨rfl, rfl⟩ := hrel
    go_wp2_with fail
    go_ret
    exact ⟨by trivial, rfl⟩
set_option maxRecDepth 8000 in
theorem bke_putLines {w : World} {p : Nat} (h : w.cell? ⟨p, 8, none⟩ = some (.slice none 0 0)) : Calls Try.prog 47 #[.pointer (some ⟨p, 0, none⟩)] w fun e w' => e = .returned (.tuple #[]) ∧ w = w' := by
  go_enter Try.func47, Try.ntmps47
  go_wp2_with fail
  go_loopw [2, 3, 4] (fun iv _ _ wr => iv = .int .i64 0 ∧ w = wr) (fun iv _ _ _ => 0)
  case atStart => exact ⟨rfl, rfl⟩
  case round =>
    obtain ⟨rfl, rfl⟩ := hrel
    go_wp2_with fail
    go_end0
    exact ⟨rfl, rfl⟩
set_option maxRecDepth 8000 in
theorem bke_growLines {w : World} {p : Nat} (h : w.cell? ⟨p, 8, none⟩ = some (.slice none 0 0)) : Calls Try.prog 55 #[.pointer (some ⟨p, 0, none⟩)] w fun e w' => e = .returned (.slice none 0 0) ∧ w = w' := by
  go_enter Try.func55, Try.ntmps55
  go_wp2_with fail
  go_loopw [3, 4, 5, 6] (fun ov iv _ _ wr => ov = .slice none 0 0 ∧ iv = .int .i64 0 ∧ w = wr) (fun _ iv _ _ _ => 0)
  case atStart => exact ⟨rfl, rfl, rfl⟩
  case round =>
    obtain ⟨rfl, rfl, rfl⟩ := hrel
    go_wp2_with fail
    go_ret
    exact ⟨rfl, rfl⟩
set_option maxRecDepth 8000 in
theorem bke_markedLines {w : World} : Calls Try.prog 65 #[.slice none 0 0] w fun e w' => e = .returned (.bool true) ∧ w = w' := by
  go_enter Try.func65, Try.ntmps65
  go_wp2_with fail
  go_loopw [3] (fun iv wr => iv = .int .i64 0 ∧ w = wr) (fun iv _ => 0)
  case atStart => exact ⟨rfl, rfl⟩
  case round =>
    obtain ⟨rfl, rfl⟩ := hrel
    go_wp2_with fail
    go_ret
    exact ⟨by trivial, rfl⟩
set_option maxRecDepth 8000 in
theorem bke_stillJournals {w : World} {p : Nat} (h : w.cell? ⟨p, 10, none⟩ = some (.slice none 0 0)) : Calls Try.prog 36 #[.pointer (some ⟨p, 0, none⟩)] w fun e w' => e = .returned (.bool true) ∧ w = w' := by
  go_enter Try.func36, Try.ntmps36
  go_wp2_with fail
  go_loopw [3] (fun iv wr => iv = .int .i64 0 ∧ w = wr) (fun iv _ => 0)
  case atStart => exact ⟨rfl, rfl⟩
  case round =>
    obtain ⟨rfl, rfl⟩ := hrel
    go_wp2_with fail
    go_ret
    exact ⟨by trivial, rfl⟩
set_option maxRecDepth 8000 in
theorem bke_putJournals {w : World} {p : Nat} (h : w.cell? ⟨p, 10, none⟩ = some (.slice none 0 0)) : Calls Try.prog 41 #[.pointer (some ⟨p, 0, none⟩)] w fun e w' => e = .returned (.tuple #[]) ∧ w = w' := by
  go_enter Try.func41, Try.ntmps41
  go_wp2_with fail
  go_loopw [2, 3, 4] (fun iv _ _ wr => iv = .int .i64 0 ∧ w = wr) (fun iv _ _ _ => 0)
  case atStart => exact ⟨rfl, rfl⟩
  case round =>
    obtain ⟨rfl, rfl⟩ := hrel
    go_wp2_with fail
    go_end0
    exact ⟨rfl, rfl⟩
set_option maxRecDepth 8000 in
theorem bke_growJournals {w : World} {p : Nat} (h : w.cell? ⟨p, 10, none⟩ = some (.slice none 0 0)) : Calls Try.prog 56 #[.pointer (some ⟨p, 0, none⟩)] w fun e w' => e = .returned (.slice none 0 0) ∧ w = w' := by
  go_enter Try.func56, Try.ntmps56
  go_wp2_with fail
  go_loopw [3, 4, 5, 6] (fun ov iv _ _ wr => ov = .slice none 0 0 ∧ iv = .int .i64 0 ∧ w = wr) (fun _ iv _ _ _ => 0)
  case atStart => exact ⟨rfl, rfl, rfl⟩
  case round =>
    obtain ⟨rfl, rfl, rfl⟩ := hrel
    go_wp2_with fail
    go_ret
    exact ⟨rfl, rfl⟩
set_option maxRecDepth 8000 in
theorem bke_markedJournals {w : World} : Calls Try.prog 66 #[.slice none 0 0] w fun e w' => e = .returned (.bool true) ∧ w = w' := by
  go_enter Try.func66, Try.ntmps66
  go_wp2_with fail
  go_loopw [3] (fun iv wr => iv = .int .i64 0 ∧ w = wr) (fun iv _ => 0)
  case atStart => exact ⟨rfl, rfl⟩
  case round =>
    obtain ⟨rfl, rfl⟩ := hrel
    go_wp2_with fail
    go_ret
    exact ⟨by trivial, rfl⟩
set_option maxRecDepth 8000 in
theorem bke_stillChanges {w : World} {p : Nat} (h : w.cell? ⟨p, 12, none⟩ = some (.slice none 0 0)) : Calls Try.prog 37 #[.pointer (some ⟨p, 0, none⟩)] w fun e w' => e = .returned (.bool true) ∧ w = w' := by
  go_enter Try.func37, Try.ntmps37
  go_wp2_with fail
  go_loopw [3] (fun iv wr => iv = .int .i64 0 ∧ w = wr) (fun iv _ => 0)
  case atStart => exact ⟨rfl, rfl⟩
  case round =>
    obtain ⟨rfl, rfl⟩ := hrel
    go_wp2_with fail
    go_ret
    exact ⟨by trivial, rfl⟩
set_option maxRecDepth 8000 in
theorem bke_putChanges {w : World} {p : Nat} (h : w.cell? ⟨p, 12, none⟩ = some (.slice none 0 0)) : Calls Try.prog 42 #[.pointer (some ⟨p, 0, none⟩)] w fun e w' => e = .returned (.tuple #[]) ∧ w = w' := by
  go_enter Try.func42, Try.ntmps42
  go_wp2_with fail
  go_loopw [2, 3, 4] (fun iv _ _ wr => iv = .int .i64 0 ∧ w = wr) (fun iv _ _ _ => 0)
  case atStart => exact ⟨rfl, rfl⟩
  case round =>
    obtain ⟨rfl, rfl⟩ := hrel
    go_wp2_with fail
    go_end0
    exact ⟨rfl, rfl⟩
set_option maxRecDepth 8000 in
theorem bke_growChanges {w : World} {p : Nat} (h : w.cell? ⟨p, 12, none⟩ = some (.slice none 0 0)) : Calls Try.prog 57 #[.pointer (some ⟨p, 0, none⟩)] w fun e w' => e = .returned (.slice none 0 0) ∧ w = w' := by
  go_enter Try.func57, Try.ntmps57
  go_wp2_with fail
  go_loopw [3, 4, 5, 6] (fun ov iv _ _ wr => ov = .slice none 0 0 ∧ iv = .int .i64 0 ∧ w = wr) (fun _ iv _ _ _ => 0)
  case atStart => exact ⟨rfl, rfl, rfl⟩
  case round =>
    obtain ⟨rfl, rfl, rfl⟩ := hrel
    go_wp2_with fail
    go_ret
    exact ⟨rfl, rfl⟩
set_option maxRecDepth 8000 in
theorem bke_markedChanges {w : World} : Calls Try.prog 67 #[.slice none 0 0] w fun e w' => e = .returned (.bool true) ∧ w = w' := by
  go_enter Try.func67, Try.ntmps67
  go_wp2_with fail
  go_loopw [3] (fun iv wr => iv = .int .i64 0 ∧ w = wr) (fun iv _ => 0)
  case atStart => exact ⟨rfl, rfl⟩
  case round =>
    obtain ⟨rfl, rfl⟩ := hrel
    go_wp2_with fail
    go_ret
    exact ⟨by trivial, rfl⟩
set_option maxRecDepth 8000 in
theorem bke_stillConflicts {w : World} {p : Nat} (h : w.cell? ⟨p, 14, none⟩ = some (.slice none 0 0)) : Calls Try.prog 38 #[.pointer (some ⟨p, 0, none⟩)] w fun e w' => e = .returned (.bool true) ∧ w = w' := by
  go_enter Try.func38, Try.ntmps38
  go_wp2_with fail
  go_loopw [3] (fun iv wr => iv = .int .i64 0 ∧ w = wr) (fun iv _ => 0)
  case atStart => exact ⟨rfl, rfl⟩
  case round =>
    obtain ⟨rfl, rfl⟩ := hrel
    go_wp2_with fail
    go_ret
    exact ⟨by trivial, rfl⟩
set_option maxRecDepth 8000 in
theorem bke_putConflicts {w : World} {p : Nat} (h : w.cell? ⟨p, 14, none⟩ = some (.slice none 0 0)) : Calls Try.prog 48 #[.pointer (some ⟨p, 0, none⟩)] w fun e w' => e = .returned (.tuple #[]) ∧ w = w' := by
  go_enter Try.func48, Try.ntmps48
  go_wp2_with fail
  go_loopw [2, 3, 4] (fun iv _ _ wr => iv = .int .i64 0 ∧ w = wr) (fun iv _ _ _ => 0)
  case atStart => exact ⟨rfl, rfl⟩
  case round =>
    obtain ⟨rfl, rfl⟩ := hrel
    go_wp2_with fail
    go_end0
    exact ⟨rfl, rfl⟩
set_option maxRecDepth 8000 in
theorem bke_growConflicts {w : World} {p : Nat} (h : w.cell? ⟨p, 14, none⟩ = some (.slice none 0 0)) : Calls Try.prog 58 #[.pointer (some ⟨p, 0, none⟩)] w fun e w' => e = .returned (.slice none 0 0) ∧ w = w' := by
  go_enter Try.func58, Try.ntmps58
  go_wp2_with fail
  go_loopw [3, 4, 5, 6] (fun ov iv _ _ wr => ov = .slice none 0 0 ∧ iv = .int .i64 0 ∧ w = wr) (fun _ iv _ _ _ => 0)
  case atStart => exact ⟨rfl, rfl, rfl⟩
  case round =>
    obtain ⟨rfl, rfl, rfl⟩ := hrel
    go_wp2_with fail
    go_ret
    exact ⟨rfl, rfl⟩
set_option maxRecDepth 8000 in
theorem bke_markedConflicts {w : World} : Calls Try.prog 68 #[.slice none 0 0] w fun e w' => e = .returned (.bool true) ∧ w = w' := by
  go_enter Try.func68, Try.ntmps68
  go_wp2_with fail
  go_loopw [3] (fun iv wr => iv = .int .i64 0 ∧ w = wr) (fun iv _ => 0)
  case atStart => exact ⟨rfl, rfl⟩
  case round =>
    obtain ⟨rfl, rfl⟩ := hrel
    go_wp2_with fail
    go_ret
    exact ⟨by trivial, rfl⟩
set_option maxRecDepth 8000 in
theorem bke_stillTrios {w : World} {p : Nat} (h : w.cell? ⟨p, 16, none⟩ = some (.slice none 0 0)) : Calls Try.prog 39 #[.pointer (some ⟨p, 0, none⟩)] w fun e w' => e = .returned (.bool true) ∧ w = w' := by
  go_enter Try.func39, Try.ntmps39
  go_wp2_with fail
  go_loopw [3] (fun iv wr => iv = .int .i64 0 ∧ w = wr) (fun iv _ => 0)
  case atStart => exact ⟨rfl, rfl⟩
  case round =>
    obtain ⟨rfl, rfl⟩ := hrel
    go_wp2_with fail
    go_ret
    exact ⟨by trivial, rfl⟩
set_option maxRecDepth 8000 in
theorem bke_putTrios {w : World} {p : Nat} (h : w.cell? ⟨p, 16, none⟩ = some (.slice none 0 0)) : Calls Try.prog 49 #[.pointer (some ⟨p, 0, none⟩)] w fun e w' => e = .returned (.tuple #[]) ∧ w = w' := by
  go_enter Try.func49, Try.ntmps49
  go_wp2_with fail
  go_loopw [2, 3, 4] (fun iv _ _ wr => iv = .int .i64 0 ∧ w = wr) (fun iv _ _ _ => 0)
  case atStart => exact ⟨rfl, rfl⟩
  case round =>
    obtain ⟨rfl, rfl⟩ := hrel
    go_wp2_with fail
    go_end0
    exact ⟨rfl, rfl⟩
set_option maxRecDepth 8000 in
theorem bke_growTrios {w : World} {p : Nat} (h : w.cell? ⟨p, 16, none⟩ = some (.slice none 0 0)) : Calls Try.prog 59 #[.pointer (some ⟨p, 0, none⟩)] w fun e w' => e = .returned (.slice none 0 0) ∧ w = w' := by
  go_enter Try.func59, Try.ntmps59
  go_wp2_with fail
  go_loopw [3, 4, 5, 6] (fun ov iv _ _ wr => ov = .slice none 0 0 ∧ iv = .int .i64 0 ∧ w = wr) (fun _ iv _ _ _ => 0)
  case atStart => exact ⟨rfl, rfl, rfl⟩
  case round =>
    obtain ⟨rfl, rfl, rfl⟩ := hrel
    go_wp2_with fail
    go_ret
    exact ⟨rfl, rfl⟩
set_option maxRecDepth 8000 in
theorem bke_markedTrios {w : World} : Calls Try.prog 69 #[.slice none 0 0] w fun e w' => e = .returned (.bool true) ∧ w = w' := by
  go_enter Try.func69, Try.ntmps69
  go_wp2_with fail
  go_loopw [3] (fun iv wr => iv = .int .i64 0 ∧ w = wr) (fun iv _ => 0)
  case atStart => exact ⟨rfl, rfl⟩
  case round =>
    obtain ⟨rfl, rfl⟩ := hrel
    go_wp2_with fail
    go_ret
    exact ⟨by trivial, rfl⟩
set_option maxRecDepth 8000 in
theorem bke_stillPairs {w : World} {p : Nat} (h : w.cell? ⟨p, 18, none⟩ = some (.slice none 0 0)) : Calls Try.prog 40 #[.pointer (some ⟨p, 0, none⟩)] w fun e w' => e = .returned (.bool true) ∧ w = w' := by
  go_enter Try.func40, Try.ntmps40
  go_wp2_with fail
  go_loopw [3] (fun iv wr => iv = .int .i64 0 ∧ w = wr) (fun iv _ => 0)
  case atStart => exact ⟨rfl, rfl⟩
  case round =>
    obtain ⟨rfl, rfl⟩ := hrel
    go_wp2_with fail
    go_ret
    exact ⟨by trivial, rfl⟩
set_option maxRecDepth 8000 in
theorem bke_putPairs {w : World} {p : Nat} (h : w.cell? ⟨p, 18, none⟩ = some (.slice none 0 0)) : Calls Try.prog 50 #[.pointer (some ⟨p, 0, none⟩)] w fun e w' => e = .returned (.tuple #[]) ∧ w = w' := by
  go_enter Try.func50, Try.ntmps50
  go_wp2_with fail
  go_loopw [2, 3, 4] (fun iv _ _ wr => iv = .int .i64 0 ∧ w = wr) (fun iv _ _ _ => 0)
  case atStart => exact ⟨rfl, rfl⟩
  case round =>
    obtain ⟨rfl, rfl⟩ := hrel
    go_wp2_with fail
    go_end0
    exact ⟨rfl, rfl⟩
set_option maxRecDepth 8000 in
theorem bke_growPairs {w : World} {p : Nat} (h : w.cell? ⟨p, 18, none⟩ = some (.slice none 0 0)) : Calls Try.prog 60 #[.pointer (some ⟨p, 0, none⟩)] w fun e w' => e = .returned (.slice none 0 0) ∧ w = w' := by
  go_enter Try.func60, Try.ntmps60
  go_wp2_with fail
  go_loopw [3, 4, 5, 6] (fun ov iv _ _ wr => ov = .slice none 0 0 ∧ iv = .int .i64 0 ∧ w = wr) (fun _ iv _ _ _ => 0)
  case atStart => exact ⟨rfl, rfl, rfl⟩
  case round =>
    obtain ⟨rfl, rfl, rfl⟩ := hrel
    go_wp2_with fail
    go_ret
    exact ⟨rfl, rfl⟩
set_option maxRecDepth 8000 in
theorem bke_markedPairs {w : World} : Calls Try.prog 70 #[.slice none 0 0] w fun e w' => e = .returned (.bool true) ∧ w = w' := by
  go_enter Try.func70, Try.ntmps70
  go_wp2_with fail
  go_loopw [3] (fun iv wr => iv = .int .i64 0 ∧ w = wr) (fun iv _ => 0)
  case atStart => exact ⟨rfl, rfl⟩
  case round =>
    obtain ⟨rfl, rfl⟩ := hrel
    go_wp2_with fail
    go_ret
    exact ⟨by trivial, rfl⟩
end Go.Proofs.Ytlkmdmaemjfelaa
