/- Journals: one more behind all (plain). -/
import Derived.Test.YtlgfmphjgijilaaJoL
namespace Go.Proofs.Ytlgfmphjgijilaa
open Go.RowKit Go.Vx
set_option linter.unusedVariables false
set_option linter.unusedSimpArgs false

theorem BAt.push {w w1 : World} {p : Nat} {Q : List JV} {R : List Nat} (h : BAt w p Q R) {A : Option Addr} {c : Nat} {Ft F' : List Nat} {v' : Value} {q : JV} (hb : Blk w p 26 #[.slice A Q.length c]) (hf : Fix w 31 6 (.slice A Q.length c) Q.length (Q.flatMap jvEnc) Ft) (hR : ∀ g ∈ Ft, g ∈ R) (hp : p ∉ Ft)
    (hq : Fix w 28 3 q.pv q.j.lines.length (q.j.lines.flatMap lnEnc) q.pF) (hA : Appended w w1 31 6 (.slice A Q.length c) v' Q.length 1 (Q.flatMap jvEnc) (jvEnc q) Ft F') :
    BAt (w1.setCell ⟨p, 0, none⟩ v') p (Q ++ [q]) (F' ++ (q.pF ++ R)) ∧ Chg (p :: R) w (w1.setCell ⟨p, 0, none⟩ v') := by
  have hb1 : Blk w1 p 26 #[.slice A Q.length c] := hb.chg hA.chg hp
  have hc1 : Chg (p :: R) w w1 := hA.chg.mono fun g hg => List.mem_cons_of_mem _ (hR g hg)
  have hc : Chg (p :: R) w (w1.setCell ⟨p, 0, none⟩ v') := Chg.setCell hc1 (p := ⟨p, 0, none⟩) (.inl (List.mem_cons_self (a := p) (l := R))) v'
  have he : ∀ x ∈ Q ++ [q], Fix w 28 3 x.pv x.j.lines.length (x.j.lines.flatMap lnEnc) x.pF := fun x hx => by
    rcases List.mem_append.1 hx with hx | hx
    · exact h.each x hx
    · rw [List.mem_singleton.1 hx]; exact hq
  refine ⟨⟨⟨v', F', ?_, ?_, fun g hg => List.mem_append_left _ hg⟩, fun x hx => ?_, fun x hx g hg => ?_⟩, hc⟩
  · exact hb1.set_ 0 v'
  · have := hA.fix.far_blk hb1 (by decide) 0 v'
    simpa using this
  · exact (((he x hx).chg hA.chg ((he x hx).disj hf (by decide)))).far_blk hb1 (by decide) 0 v'
  · rcases List.mem_append.1 hx with hx | hx
    · exact List.mem_append_right _ (List.mem_append_right _ (h.foot x hx g hg))
    · rw [List.mem_singleton.1 hx] at hg; exact List.mem_append_right _ (List.mem_append_left _ hg)
end Go.Proofs.Ytlgfmphjgijilaa
