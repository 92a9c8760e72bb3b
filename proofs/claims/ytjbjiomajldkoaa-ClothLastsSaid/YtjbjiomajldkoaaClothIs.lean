/- Light, Is: a cloth and the reference's, side by side. -/
import Derived.Test.YtjbjiomajldkoaaClothTw
import Derived.Test.YtjbjiomajldkoaaClothH
import Derived.Test.YtjbjiomajldkoaaOpen
namespace Go.Vx
open Go.RowKit Go.ChangeShapes Go.WideShapes Go.Deep Go.Proofs Go.Proofs.Ytjbjiomajldkoaa
set_option linter.unusedVariables false
set_option linter.unusedSimpArgs false

/-- An act. -/
structure OpV where
  kind : Int
  n : Int
  s : ByteArray
  A : Option Addr
  len : Nat
  cap : Nat
  keep : List Bool
def opCells (x : OpV) : List Value := [.int .i64 x.kind, .int .i64 x.n, .string x.s, .slice x.A x.len x.cap]
structure OpOk (W : World) (x : OpV) : Prop where
  hk : (Lit.int .i64 x.kind).wf = true
  hn : (Lit.int .i64 x.n).wf = true
  hs : x.s.size ≤ maxLen
  hl : x.keep.length = x.len
  hc : x.len ≤ x.cap
  hm : x.cap ≤ maxLen
  src : Src W 1 x.A x.len (x.keep.map .bool)
theorem opn_variorumlaw20_Op {H : Type} {enc : TypeId × Value → H} {w : World} {base : Nat} {spare : Nat → Bool} {held : Bool} {A : Option Addr} {len cap : Nat} {d : DataW H} {ps : List MemPlace}
    (h : DataW.Trod enc Try.prog w base spare held 22 (.slice A len cap) d ps) : ∃ l : List OpV, l.length = len ∧ len ≤ cap ∧ cap ≤ maxLen ∧ Src w 4 A len (l.flatMap opCells) ∧ ∀ x ∈ l, OpOk w x := by
  refine opn Try.underlying22 (size := 4) (by kernel_rfl) opCells (OpOk w) (by intro x; rfl) (fun fuel cs x hl hx => ?_) h
  obtain ⟨n, hf⟩ := opn_fields Try.underlying30 (by kernel_rfl) (by simpa using hl) hx
  obtain ⟨v0, y0, h0, t0⟩ := hf 0 _ rfl
  obtain ⟨v1, y1, h1, t1⟩ := hf 1 _ rfl
  obtain ⟨v2, y2, h2, t2⟩ := hf 2 _ rfl
  obtain ⟨v3, y3, h3, t3⟩ := hf 3 _ rfl
  obtain ⟨k, hk, _, wk⟩ := DataW.trod_int Try.underlying3 t0
  obtain ⟨m, hm, _, wm⟩ := DataW.trod_int Try.underlying3 t1
  obtain ⟨s, hs, _, ws⟩ := DataW.trod_string Try.underlying9 t2
  have hsl : ∃ A n c, v3 = .slice A n c := by
    rcases open_slice Try.underlying23 t3 with ⟨hcs, _⟩ | ⟨a, len', cap', _, _, _, _, hcs, _⟩
    · simp at hcs; exact ⟨_, _, _, hcs⟩
    · simp at hcs; exact ⟨_, _, _, hcs⟩
  obtain ⟨B, nB, cB, rfl⟩ := hsl
  obtain ⟨lb, b1, b2, b3, b4⟩ := opn_bools Try.underlying23 Try.underlying4 (by kernel_rfl) ⟨n, t3⟩
  simp at hk hm hs
  subst hk hm hs
  refine ⟨⟨k, m, s, B, nB, cB, lb⟩, ?_, wk, wm, ws, b1, b2, b3, b4⟩
  have : cs = [.int .i64 k, .int .i64 m, .string s, .slice B nB cB] := by
    match cs, hl with
    | [a, b, c, d], _ => simp at h0 h1 h2 h3; simp [h0, h1, h2, h3]
  rw [this]; rfl
end Go.Vx
namespace Go.Proofs.Ytjbjiomajldkoaa
open Go.RowKit Go.Vx
set_option linter.unusedVariables false
set_option linter.unusedSimpArgs false

/-- The cells of an element of a source. -/
theorem Src.el {w : World} {α : Type} {e : α → List Value} {size m : Nat} {A : Option Addr} {l : List α} (h : Src w size A m (l.flatMap e)) (he : ∀ x, (e x).length = size) (h00 : 0 < size) {k : Nat} (hk : k < l.length) (hm : l.length = m) :
    ∃ ad, A = some ad ∧ w.cell? (ad.add (k * size)) = (e l[k])[0]? ∧ ∀ j, 0 < j → j < size → w.cell? ⟨(ad.add (k * size)).block, (ad.add (k * size)).off + j, none⟩ = (e l[k])[j]? := by
  obtain ⟨ad, ha, hc⟩ := h.2 (by omega)
  have key : ∀ (j : Nat) (hj : j < size) (l : List α) (k : Nat) (hk : k < l.length), (l.flatMap e)[k * size + j]? = (e l[k])[j]? := by
    intro j hj l
    induction l with
    | nil => intro k hk; simp at hk
    | cons x l ih =>
      intro k hk
      rw [List.flatMap_cons]
      cases k with
      | zero => rw [List.getElem?_append_left (by rw [he]; omega)]; simp
      | succ k =>
        rw [List.getElem?_append_right (by rw [he, Nat.add_mul]; omega), he]
        have := ih k (by simpa using hk)
        rw [show (k + 1) * size + j - size = k * size + j by rw [Nat.add_mul]; omega]
        simpa using this
  have main : ∀ j, j < size → w.cell? (ad.add (k * size + j)) = (e l[k])[j]? := by
    intro j hj
    have hlt : j < (e l[k]).length := by rw [he]; exact hj
    rw [List.getElem?_eq_getElem hlt]
    exact hc _ _ (by rw [key j hj l k hk, List.getElem?_eq_getElem hlt])
  refine ⟨ad, ha, ?_, fun j h0 hj => ?_⟩
  · exact main 0 h00
  · rw [← main j hj]
    congr 1
    unfold Addr.add
    by_cases hks : k * size = 0 <;> simp [hks, show j ≠ 0 by omega, Nat.add_assoc]

def LightPost (l : List OpV) (w : World) (e : Ending) (w' : World) : Prop := ∃ b, e = .returned (.bool b) ∧ w = w' ∧ (b = true → l.length ≤ 60 ∧ ∀ x, x ∈ l → x.s.size ≤ 100 ∧ x.keep.length ≤ 60)
set_option maxHeartbeats 1000000 in
theorem light_at (w : World) (A : Option Addr) (len cap : Nat) (l : List OpV) (x : l.length = len ∧ len ≤ cap ∧ cap ≤ maxLen ∧ Src w 4 A len (l.flatMap opCells) ∧ ∀ x ∈ l, OpOk w x) :
    Calls Try.prog 7 #[.slice A len cap] w (LightPost l w) := by
  obtain ⟨hl, h1, h2, hs, hok⟩ := x
  unfold maxLen at h2
  go_enter Try.func7, Try.ntmps7
  go_wp2
  go_loopw [3] (fun i wr => ∃ k : Nat, k ≤ len ∧ k ≤ 100 ∧ i = .int .i64 k ∧ w = wr ∧ ∀ j, j < k → (h : j < l.length) → l[j].s.size ≤ 100 ∧ l[j].keep.length ≤ 60) (fun i _ => len - (intOf i).toNat)
  case atStart => exact ⟨0, by omega, by omega, rfl, rfl, by intro j hj; omega⟩
  case round =>
    obtain ⟨k, hk, hk2, rfl, rfl, hj⟩ := hrel
    by_cases hlt : k < len
    · by_cases hlt2 : k < 100
      · obtain ⟨ad, rfl, -, hc⟩ := Src.el hs (fun _ => rfl) (by omega) (k := k) (by omega) hl
        have d2 := hc 2 (by omega) (by omega)
        have d3 := hc 3 (by omega) (by omega)
        have ho := hok _ (List.getElem_mem (show k < l.length by omega))
        have hsz := ho.hs
        have hkl := ho.hl
        have hkc := ho.hc
        have hkm := ho.hm
        unfold maxLen at hsz hkm
        simp only [opCells, List.getElem?_cons_succ, List.getElem?_cons_zero] at d2 d3
        have HJ : Hid (l[k].s.size ≤ 100 → l[k].keep.length ≤ 60 → ∀ j, j < k + 1 → (h : j < l.length) → l[j].s.size ≤ 100 ∧ l[j].keep.length ≤ 60) := by
          intro a b j hjk hjl
          rcases Nat.lt_or_ge j k with h | h
          · exact hj j h hjl
          · obtain rfl : j = k := by omega
            exact ⟨a, b⟩
        clear hc ho hj
        generalize l[k].s = s at *
        generalize l[k].A = B at *
        generalize l[k].cap = cB at *
        have HK := HJ.out
        rw [hkl] at HK
        clear HJ hkl
        replace HK := Lib.hid HK
        generalize l[k].len = lB at *
        by_cases q1 : 100 < s.size
        · go_wp2
          go_ret
          exact ⟨false, rfl, rfl, by simp⟩
        · by_cases q2 : 60 < lB
          · go_wp2
            go_ret
            exact ⟨false, rfl, rfl, by simp⟩
          · go_wp2
            go_roundw
            case measure => simp [intOf]; omega
            case rel => exact ⟨k + 1, by omega, by omega, by go_num, by trivial, HK.out (by omega) (by omega)⟩
      · go_wp2
        go_ret
        exact ⟨_, rfl, rfl, fun h => absurd (of_decide_eq_true h) (by omega)⟩
    · go_wp2
      go_ret
      refine ⟨decide ((len : Int) ≤ 60), rfl, rfl, ?_⟩
      intro h
      have h60 := of_decide_eq_true h
      refine ⟨by omega, ?_⟩
      intro x hx
      obtain ⟨j, hj1, rfl⟩ := List.mem_iff_getElem.1 hx
      exact hj j (by omega) hj1

theorem text_press {c : ClothS} (hok : RowsOk c.pressed.length c.loose) (row : Nat) (hr : row < c.pressed.length) : c.text row = (pressTo c.pressed c.loose).getD row ⟨#[]⟩ := by
  unfold ClothS.text
  obtain ⟨pr, lo, t, sn, le, ke⟩ := c
  simp only at hok hr ⊢
  have key : ∀ l : List (Int × ByteArray), (∀ t, t ∈ l → 0 ≤ t.1 ∧ t.1 < (pr.length : Int)) → (match l.find? fun t => t.1 == (row : Int) with | some t => t.2 | none => pr[row]?.getD ⟨#[]⟩) = (pressTo pr l.reverse)[row]?.getD ⟨#[]⟩ := by
    intro l
    induction l with
    | nil => intro _; rfl
    | cons x l ih =>
      intro hl
      have hx := hl x (by simp)
      have ih := ih (fun t ht => hl t (by simp [ht]))
      rw [List.reverse_cons, pressTo_snoc, List.find?_cons]
      by_cases hxr : x.1 = (row : Int)
      · have : (x.1 == (row : Int)) = true := by simpa using hxr
        rw [this]
        rw [show x.1.toNat = row by omega, List.getElem?_set_self (by rw [pressTo_length]; exact hr)]
        rfl
      · have : (x.1 == (row : Int)) = false := by simpa using hxr
        rw [this, List.getElem?_set_ne (by omega)]
        exact ih
  have := key lo.reverse (fun t ht => hok t (by simpa using ht))
  rw [List.reverse_reverse] at this
  simp only [List.getD_eq_getElem?_getD]
  exact this
end Go.Proofs.Ytjbjiomajldkoaa
