/- AgendaPlays: the argument's opener. -/
import Derived.Test.YtkpegffoebmhmaaAgG
namespace Go.Proofs.Ytkpegffoebmhmaa
open Go.RowKit Go.Vx Go.WideShapes Go.ChangeShapes Go.Deep
set_option linter.unusedVariables false
set_option linter.unusedSimpArgs false

/-- An act: its kind, its number, its items (where they stand, which they are). -/
structure PlayV where
  kind : Int
  n : Int
  A : Option Addr
  len : Nat
  cap : Nat
  l : List Item
def playCells (x : PlayV) : List Value := [.int .i64 x.kind, .int .i64 x.n, .slice x.A x.len x.cap]
structure PlayOk (W : World) (x : PlayV) : Prop where
  hk : (Lit.int .i64 x.kind).wf = true
  hn : (Lit.int .i64 x.n).wf = true
  hl : x.l.length = x.len
  hc : x.len ≤ x.cap
  hm : x.cap ≤ maxLen
  src : Src W 3 x.A x.len (x.l.flatMap itEnc)
theorem opn_variorumlaw8_Op {H : Type} {enc : TypeId × Value → H} {w : World} {base : Nat} {spare : Nat → Bool} {held : Bool} {A : Option Addr} {len cap : Nat} {d : DataW H} {ps : List MemPlace}
    (h : DataW.Trod enc Try.prog w base spare held 36 (.slice A len cap) d ps) : ∃ l : List PlayV, l.length = len ∧ len ≤ cap ∧ cap ≤ maxLen ∧ Src w 3 A len (l.flatMap playCells) ∧ ∀ x ∈ l, PlayOk w x := by
  refine opn Try.underlying36 (size := 3) (by kernel_rfl) playCells (PlayOk w) (by intro x; rfl) (fun fuel cs x hl hx => ?_) h
  obtain ⟨n, hf⟩ := opn_fields Try.underlying39 (by kernel_rfl) (by simpa using hl) hx
  obtain ⟨v0, y0, h0, t0⟩ := hf 0 _ rfl
  obtain ⟨v1, y1, h1, t1⟩ := hf 1 _ rfl
  obtain ⟨v3, y3, h3, t3⟩ := hf 2 _ rfl
  obtain ⟨k, hk, _, wk⟩ := DataW.trod_int Try.underlying3 t0
  obtain ⟨m, hm, _, wm⟩ := DataW.trod_int Try.underlying3 t1
  have hsl : ∃ A n c, v3 = .slice A n c := by
    rcases open_slice Try.underlying22 t3 with ⟨hcs, _⟩ | ⟨a, len', cap', _, _, _, _, hcs, _⟩
    · simp at hcs; exact ⟨_, _, _, hcs⟩
    · simp at hcs; exact ⟨_, _, _, hcs⟩
  obtain ⟨B, nB, cB, rfl⟩ := hsl
  obtain ⟨lb, b1, b2, b3, b4, -⟩ := opn_agenda_Item ⟨n, t3⟩
  simp at hk hm
  subst hk hm
  refine ⟨⟨k, m, B, nB, cB, lb⟩, ?_, wk, wm, b1, b2, b3, b4⟩
  have : cs = [.int .i64 k, .int .i64 m, .slice B nB cB] := by
    match cs, hl with
    | [a, b, c], _ => simp at h0 h1 h3; simp [h0, h1, h3]
  rw [this]; rfl
end Go.Proofs.Ytkpegffoebmhmaa
