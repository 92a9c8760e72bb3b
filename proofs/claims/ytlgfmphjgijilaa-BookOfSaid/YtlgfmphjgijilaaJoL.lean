/- Journals: slices.Insert at the end. -/
import Derived.Test.YtlgfmphjgijilaaJoK
import Derived.Deep.RegionLaw
namespace Go.Proofs.Ytlgfmphjgijilaa
open Go.RowKit Go.Vx
set_option linter.unusedVariables false
set_option linter.unusedSimpArgs false

theorem jnInfo : (Try.prog.info? 31).map (fun i => (i.zero, i.size, i.bytes)) = some (some (.agg #[.int .i64 0, .int .i64 0, .int .i64 0, .string ⟨#[]⟩, .slice none 0 0, .bool false]), 6, 72) := by kernel_rfl
/-- What Insert of one leaves. -/
def InsPost (w : World) (v : Value) (n : Nat) (Q : List JV) (q : JV) (F : List Nat) (e : Ending) (w' : World) : Prop := ∃ v' F', e = .returned v' ∧ Appended w w' 31 6 v v' n 1 (Q.flatMap jvEnc) (jvEnc q) F F'
theorem jb_ins_end {w : World} {A : Option Addr} {n c : Nat} {Q : List JV} {F : List Nat} (hf : Fix w 31 6 (.slice A n c) n (Q.flatMap jvEnc) F) (hn : n ≤ 1000) {q : JV} {A1 : Option Addr} (hs : Src w 6 A1 1 (jvEnc q)) (h1 : ∀ u ∈ jvEnc q, u.oneCell' = true) :
    Calls Try.prog 32 #[.slice A n c, .int .i64 n, .slice A1 1 1] w (InsPost w (.slice A n c) n Q q F) := by
  obtain ⟨i1, hi1, k0, k1, k2⟩ := info_parts jnInfo
  unfold InsPost
  obtain ⟨B, cb, hv, -, hnc, hcm, -⟩ := id hf
  cases hv
  go_enter Try.func32, Try.ntmps32
  go_wp2_with (at_builtin; refine wpList_append_fix rfl (.tmp 23) (.tmp 24) 24 rfl Try.underlying24 hi1 k0 k1 k2 rfl (by omega) rfl hf rfl hs h1 (by unfold maxLen; omega) (by omega) ?_; intro v' w' F' hA)
  all_goals
    replace hA : Appended w w' 31 6 (.slice A n c) v' n 1 (Q.flatMap jvEnc) (jvEnc q) F F' := hA
    go_ret
    exact ⟨v', rfl, F', by first | exact hA | (rw [show c = n by assumption] at hA; exact hA)⟩
end Go.Proofs.Ytlgfmphjgijilaa
