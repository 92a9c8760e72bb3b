/- Journals: the laws' argument of journals, opened. -/
import Derived.Test.YtlgfmphjgijilaaJrK
import Derived.OpenShut
namespace Go.Proofs.Ytlgfmphjgijilaa
open Go.RowKit Go.Vx
set_option linter.unusedVariables false
set_option linter.unusedSimpArgs false

/-- A journal of an argument. -/
structure JArg (w : World) (x : JV) : Prop where
  hi : (Lit.int .i64 x.j.id).wf = true
  he : (Lit.int .i64 x.j.ent).wf = true
  hp : (Lit.int .i64 x.j.per).wf = true
  hr : x.j.ref.size ≤ maxLen
  hl : x.j.lines.length ≤ maxLen
  ok : JOk w x
  hw : ∀ l ∈ x.j.lines, (Lit.int .i64 l.acct).wf = true ∧ (Lit.int .i64 l.amt).wf = true ∧ (Lit.int .i64 l.part).wf = true
open Go.ChangeShapes Go.WideShapes Go.Deep in
theorem opn_lines {H : Type} {enc : TypeId × Value → H} {w : World} {base : Nat} {spare : Nat → Bool} {held : Bool} {A : Option Addr} {len cap : Nat} {d : DataW H} {ps : List MemPlace}
    (h : DataW.Trod enc Try.prog w base spare held 29 (.slice A len cap) d ps) : ∃ l : List Ln, l.length = len ∧ len ≤ cap ∧ cap ≤ maxLen ∧ Go.Vx.Src w 3 A len (l.flatMap lnEnc) ∧ ∀ x ∈ l, (Lit.int .i64 x.acct).wf = true ∧ (Lit.int .i64 x.amt).wf = true ∧ (Lit.int .i64 x.part).wf = true := by
  refine opn Try.underlying29 (size := 3) (by kernel_rfl) lnEnc _ lnEnc_len (fun fuel cs x hl hx => ?_) h
  obtain ⟨n, hf⟩ := opn_fields Try.underlying28 (by kernel_rfl) (by simpa using hl) hx
  match cs, hl with
  | [c0, c1, c2], _ =>
    obtain ⟨v0, y0, e0, h0⟩ := hf 0 _ rfl
    obtain ⟨v1, y1, e1, h1⟩ := hf 1 _ rfl
    obtain ⟨v2, y2, e2, h2⟩ := hf 2 _ rfl
    simp at e0 e1 e2
    subst e0 e1 e2
    obtain ⟨a, ha, -, wa⟩ := DataW.trod_int Try.underlying3 h0
    obtain ⟨b, hb, -, wb⟩ := DataW.trod_int Try.underlying3 h1
    obtain ⟨c, hc, -, wc⟩ := DataW.trod_int Try.underlying3 h2
    simp at ha hb hc
    subst ha hb hc
    exact ⟨⟨a, b, c⟩, rfl, wa, wb, wc⟩
open Go.ChangeShapes Go.WideShapes Go.Deep in
theorem opn_api_Journal {H : Type} {enc : TypeId × Value → H} {w : World} {base : Nat} {spare : Nat → Bool} {held : Bool} {A : Option Addr} {len cap : Nat} {d : DataW H} {ps : List MemPlace}
    (h : DataW.Trod enc Try.prog w base spare held 24 (.slice A len cap) d ps) : ∃ l : List JV, l.length = len ∧ len ≤ cap ∧ cap ≤ maxLen ∧ Go.Vx.Src w 6 A len (l.flatMap jvEnc) ∧ ∀ x ∈ l, JArg w x := by
  refine opn Try.underlying24 (size := 6) (by kernel_rfl) jvEnc _ jvEnc_len (fun fuel cs x hl hx => ?_) h
  obtain ⟨n, hf⟩ := opn_fields Try.underlying31 (by kernel_rfl) (by simpa using hl) hx
  match cs, hl with
  | [c0, c1, c2, c3, c4, c5], _ =>
    obtain ⟨v0, y0, e0, h0⟩ := hf 0 _ rfl
    obtain ⟨v1, y1, e1, h1⟩ := hf 1 _ rfl
    obtain ⟨v2, y2, e2, h2⟩ := hf 2 _ rfl
    obtain ⟨v3, y3, e3, h3⟩ := hf 3 _ rfl
    obtain ⟨v4, y4, e4, h4⟩ := hf 4 _ rfl
    obtain ⟨v5, y5, e5, h5⟩ := hf 5 _ rfl
    simp at e0 e1 e2 e3 e4 e5
    subst e0 e1 e2 e3 e4 e5
    obtain ⟨a, ha, -, wa⟩ := DataW.trod_int Try.underlying3 h0
    obtain ⟨b, hb, -, wb⟩ := DataW.trod_int Try.underlying3 h1
    obtain ⟨c, hc, -, wc⟩ := DataW.trod_int Try.underlying3 h2
    obtain ⟨s, hs, -, ws⟩ := DataW.trod_string Try.underlying9 h3
    obtain ⟨bo, hbo, -⟩ := DataW.trod_bool Try.underlying4 h5
    simp at ha hb hc hs hbo
    subst ha hb hc hs hbo
    have hsl : ∃ A m k, c4 = .slice A m k := by
      rcases open_slice Try.underlying29 h4 with ⟨hcs, _⟩ | ⟨a, len', cap', m, n, D, Pl, hcs, _⟩
      · simp at hcs; exact ⟨none, 0, 0, hcs⟩
      · simp at hcs; exact ⟨_, _, _, hcs⟩
    obtain ⟨A4, m4, k4, rfl⟩ := hsl
    obtain ⟨l, hl1, hl2, hl3, hl4, hl5⟩ := opn_lines (d := y4.1) (ps := y4.2) (A := A4) (len := m4) (cap := k4) ⟨_, h4⟩
    subst hl1
    exact ⟨⟨⟨a, b, c, s, l, bo⟩, .slice A4 l.length k4, []⟩, rfl, ⟨wa, wb, wc, ws, by dsimp only; omega, ⟨A4, k4, rfl, hl4⟩, hl5⟩⟩
end Go.Proofs.Ytlgfmphjgijilaa
