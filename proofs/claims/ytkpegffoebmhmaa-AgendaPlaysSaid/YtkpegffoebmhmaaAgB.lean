/- The agenda's Put. -/
import Derived.Test.YtkpegffoebmhmaaAgA
import Derived.Deep.RegionLaw
namespace Go.Proofs.Ytkpegffoebmhmaa
open Go.RowKit Go.Vx
set_option linter.unusedVariables false
set_option linter.unusedSimpArgs false

/-- The cells of an element of a source. -/
theorem _root_.Go.Vx.Src.elem {w : World} {α : Type} {e : α → List Value} {size m : Nat} {A : Option Addr} {l : List α} (h : Src w size A m (l.flatMap e)) (he : ∀ x, (e x).length = size) (h00 : 0 < size) {k : Nat} (hk : k < l.length) (hm : l.length = m) :
    ∃ ad, A = some ad ∧ w.cell? (ad.add (k * size)) = (e l[k])[0]? ∧ ∀ j, 0 < j → j < size → w.cell? ⟨(ad.add (k * size)).block, (ad.add (k * size)).off + j, none⟩ = (e l[k])[j]? := by
  obtain ⟨ad, ha, hc⟩ := h.2 (by omega)
  have key : ∀ (j : Nat) (hj : j < size) (l : List α) (k : Nat) (hk : k < l.length), (l.flatMap e)[k * size + j]? = (e l[k])[j]? := by
    intro j hj l
    induction l with
    | nil => intro k hk; simp at hk
    | cons x l ih =>
      intro k hk
      rw [List.flatMap_cons]
      cases k with
      | zero => rw [List.getElem?_append_left (by rw [he]; omega)]; simp
      | succ k =>
        rw [List.getElem?_append_right (by rw [he, Nat.add_mul]; omega), he]
        have := ih k (by simpa using hk)
        rw [show (k + 1) * size + j - size = k * size + j by rw [Nat.add_mul]; omega]
        simpa using this
  have main : ∀ j, j < size → w.cell? (ad.add (k * size + j)) = (e l[k])[j]? := by
    intro j hj
    have hlt : j < (e l[k]).length := by rw [he]; exact hj
    rw [List.getElem?_eq_getElem hlt]
    exact hc _ _ (by rw [key j hj l k hk, List.getElem?_eq_getElem hlt])
  refine ⟨ad, ha, ?_, fun j h0 hj => ?_⟩
  · exact main 0 h00
  · rw [← main j hj]
    congr 1
    unfold Addr.add
    by_cases hks : k * size = 0 <;> simp [hks, show j ≠ 0 by omega, Nat.add_assoc]

/-- An item: its period, its rank, its number. -/
abbrev Item := Int × Int × Int
def itEnc (x : Item) : List Value := [.int .i64 x.1, .int .i64 x.2.1, .int .i64 x.2.2]
def slot (x : Item) (m : Int) : Slot := (x.1, x.2.1, x.2.2, m)
def put1 (st : List Slot × Int) (x : Item) : List Slot × Int := if st.1.length < 1000 then (ins slLt (slot x st.2) st.1, st.2 + 1) else st
def puts : List Slot × Int → List Item → List Slot × Int
  | st, [] => st
  | st, x :: l => puts (put1 st x) l
theorem put1_len {st : List Slot × Int} {x : Item} (h : st.1.length ≤ 1000) : (put1 st x).1.length ≤ 1000 := by
  unfold put1
  split
  · rw [(ins_perm _ _).length_eq, List.length_cons]; omega
  · exact h
theorem puts_take (l : List Item) : ∀ (k : Nat) (st : List Slot × Int) (hk : k < l.length), puts st (l.take (k + 1)) = put1 (puts st (l.take k)) l[k] := by
  induction l with
  | nil => intro k st hk; simp at hk
  | cons x l ih =>
    intro k st hk
    cases k with
    | zero => rfl
    | succ k =>
      rw [List.take_succ_cons, puts, List.take_succ_cons, puts, ih k _ (by simpa using hk)]
      rfl
set_option maxRecDepth 8000 in
set_option maxHeartbeats 4000000 in
theorem ag_put {w : World} {p : Nat} {S : List Slot} {m : Int} {F : List Nat} (h : AgAt w p S m F) (hS : S.length ≤ 1000) (hm0 : 0 ≤ m) (hm : m ≤ 1000000000) {A : Option Addr} {n c : Nat} {l : List Item} (hs : Src w 3 A n (l.flatMap itEnc)) (hl : l.length = n) (hn : n ≤ 10000) (hA : 0 < n → ∀ ad, A = some ad → ad.block ∉ p :: F) :
    Calls Try.prog 7 #[.pointer (some ⟨p, 0, none⟩), .slice A n c] w fun e w' => e = .returned (.int .i64 (puts (S, m) l).1.length) ∧ ∃ F', AgAt w' p (puts (S, m) l).1 (puts (S, m) l).2 F' ∧ Chg (p :: F) w w' ∧ ∀ g, g ∈ F' → g ∈ F ∨ w.heap.size ≤ g := by
  replace hl := Lib.hid hl
  go_enter Try.func7, Try.ntmps7
  go_wp2_with fail
  go_loopw [11] (fun iv wr => ∃ (k : Nat) (S' : List Slot) (m' : Int) (F' : List Nat), k ≤ n ∧ iv = .int .i64 k ∧ (S', m') = puts (S, m) (l.take k) ∧ S'.length ≤ 1000 ∧ 0 ≤ m' ∧ m' ≤ m + k ∧ AgAt wr p S' m' F' ∧ Chg (p :: F) w wr ∧ ∀ g, g ∈ F' → g ∈ F ∨ w.heap.size ≤ g) (fun iv _ => n - (intOf iv).toNat)
  case atStart => exact ⟨0, S, m, F, by omega, rfl, rfl, hS, hm0, by omega, h, Chg.refl _ _, fun g hg => .inl hg⟩
  case round =>
    obtain ⟨k, S', m', F', hk, rfl, hst, hS', hm1, hm2, hh, hc, hF⟩ := hrel
    have hlt0 := h.lt
    clear h
    obtain ⟨B, cB, c0, c1, f0, f1, q1, q2⟩ := hh.cells
    unfold maxLen at q2
    by_cases hkn : k < n
    · have hpt := puts_take l k (S, m) (by rw [hl.out]; exact hkn)
      have hsrc := hs.chg hc (fun ad e hg => hA (by omega) ad e hg)
      obtain ⟨ad, rfl, d0, hcel⟩ := hsrc.elem (fun _ => rfl) (by omega) (k := k) (by rw [hl.out]; exact hkn) hl.out
      have d1 := hcel 1 (by omega) (by omega)
      have d2 := hcel 2 (by omega) (by omega)
      simp only [itEnc, List.getElem?_cons_zero, List.getElem?_cons_succ] at d0 d1 d2
      generalize l[k]'(by rw [hl.out]; exact hkn) = x at *
      rw [← hst] at hpt
      clear hcel hst
      replace hpt := Lib.hid hpt
      by_cases hfull : S'.length < 1000
      · have b1 : decide ((S'.length : Int) < 1000) = true := by simp; omega
        have hpl := hh.lt p (by simp)
        have a0 := cell_al c0
        have a1 := cell_al c1
        have g0 : ∀ o, (wr.alloc o).frozen? ⟨p, 0, none⟩ = false := fun o => by rw [((Chg.refl [] wr).alloc o).frozen hpl (by simp), f0]
        have g1 : ∀ o, (wr.alloc o).frozen? ⟨p, 1, none⟩ = false := fun o => by rw [((Chg.refl [] wr).alloc o).frozen hpl (by simp), f1]
        have a1d : ∀ o, (wr.alloc o).drew.cell? ⟨p, 1, none⟩ = some (.int .i64 m') := a1
        have hpush := fun w1 (k : Chg [] wr w1) => sl_Push (hh.chg k (by simp) : AgAt w1 p S' m' F') (slot x m') (by omega)
        go_upto_region 7 with fail
        go_region_law (go_simp; go_at_call 15; refine (hpush _ ((Chg.refl _ _).alloc _).drew).mono ?_; rintro e w1 ⟨rfl, F1, hS1, hc1, hF1⟩)
        all_goals
          have hA1 : AgAt w1 p (ins slLt (slot x m') S') m' F1 := hS1
          have hil : (ins slLt (slot x m') S').length = S'.length + 1 := by rw [(ins_perm _ _).length_eq, List.length_cons]
          have hcw : Chg (p :: F) w w1 := by
            refine (((hc.alloc (.cells #[.int .i64 x.1, .int .i64 x.2.1, .int .i64 x.2.2] 31)).drew).trans hc1 ?_)
            intro g hg
            rcases List.mem_cons.1 hg with rfl | hg
            · exact .inl (by simp)
            · rcases hF g hg with h | h
              · exact .inl (by simp [h])
              · exact .inr h
          obtain ⟨B1, cB1, e0, e1, e2, e3, -, -⟩ := hA1.cells
          rw [hil] at e0
          have hb := hA1.bump (m' + 1)
          have hp1 : put1 (S', m') x = (ins slLt (slot x m') S', m' + 1) := by unfold put1; rw [if_pos hfull]
          replace hb := Lib.hid hb
          replace hil := Lib.hid hil
          clear hpush a0 a1 g0 g1 a1d c0 c1 f0 f1 hsrc d0 d1 d2 hA1 hS1 hh
          go_wp2_with fail
          go_roundw
          case measure => simp [intOf]; omega
          case rel =>
            refine ⟨k + 1, ins slLt (slot x m') S', m' + 1, F1, by omega, by go_num, by rw [hpt.out, hp1], by rw [hil.out]; omega, by omega, by omega, hb.out, hcw.setCell (.inl (by simp)) _, ?_⟩
            intro g hg
            rcases hF1 g hg with h | h
            · exact hF g h
            · have := hc.size
              simp at h
              exact .inr (by omega)
      · have b1 : decide ((S'.length : Int) < 1000) = false := by simp; omega
        have hpl := hh.lt p (by simp)
        have a0 := cell_al c0
        have hp1 : put1 (S', m') x = (S', m') := by unfold put1; rw [if_neg hfull]
        have hh2 := hh.chg ((Chg.refl [] wr).alloc (.cells #[.int .i64 x.1, .int .i64 x.2.1, .int .i64 x.2.2] 31)) (by simp)
        replace hh2 := Lib.hid hh2
        replace hp1 := Lib.hid hp1
        go_wp2_with fail
        go_roundw
        case measure => simp [intOf]; omega
        case rel => exact ⟨k + 1, S', m', F', by omega, by go_num, by rw [hpt.out, hp1.out], hS', hm1, by omega, hh2.out, hc.alloc _, hF⟩
    · obtain rfl : k = n := by omega
      rw [List.take_of_length_le (by rw [hl.out]; omega)] at hst
      replace hst := Lib.hid hst
      replace hh := Lib.hid hh
      go_wp2_with fail
      go_ret
      rw [← hst.out]
      exact ⟨rfl, F', hh.out, hc, hF⟩
end Go.Proofs.Ytkpegffoebmhmaa
