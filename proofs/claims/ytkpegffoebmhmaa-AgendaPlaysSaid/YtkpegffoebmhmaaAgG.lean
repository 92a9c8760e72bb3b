/- AgendaTakes. -/
import Derived.Test.YtkpegffoebmhmaaAgF
import Derived.Test.YtkpegffoebmhmaaOpen
import Derived.Deep.QuietTactic
import Derived.Clock
import Derived.Deep.CutBlock
namespace Go.Proofs.Ytkpegffoebmhmaa
open Go.RowKit Go.Vx
set_option linter.unusedVariables false
set_option linter.unusedSimpArgs false

/-- An item's cells are whole numbers. -/
def ItOk (W : World) (x : Item) : Prop := True
theorem opn_agenda_Item {H : Type} {enc : TypeId × Value → H} {w : World} {base : Nat} {spare : Nat → Bool} {held : Bool} {A : Option Addr} {len cap : Nat} {d : DataW H} {ps : List MemPlace}
    (h : DataW.Trod enc Try.prog w base spare held 22 (.slice A len cap) d ps) : ∃ l : List Item, l.length = len ∧ len ≤ cap ∧ cap ≤ maxLen ∧ Src w 3 A len (l.flatMap itEnc) ∧ ∀ x ∈ l, ItOk w x := by
  refine opn Try.underlying22 (size := 3) (by kernel_rfl) itEnc (ItOk w) (by intro x; rfl) (fun fuel cs x hl hx => ?_) h
  obtain ⟨n, hf⟩ := opn_fields Try.underlying31 (by kernel_rfl) (by simpa using hl) hx
  obtain ⟨v0, y0, h0, t0⟩ := hf 0 _ rfl
  obtain ⟨v1, y1, h1, t1⟩ := hf 1 _ rfl
  obtain ⟨v2, y2, h2, t2⟩ := hf 2 _ rfl
  obtain ⟨a, ha, _, _⟩ := DataW.trod_int Try.underlying3 t0
  obtain ⟨b, hb, _, _⟩ := DataW.trod_int Try.underlying3 t1
  obtain ⟨c, hc, _, _⟩ := DataW.trod_int Try.underlying3 t2
  simp at ha hb hc
  subst ha hb hc
  refine ⟨(a, b, c), ?_, trivial⟩
  have : cs = [.int .i64 a, .int .i64 b, .int .i64 c] := by
    match cs, hl with
    | [x, y, z], _ => simp at h0 h1 h2; simp [h0, h1, h2]
  rw [this]; rfl
theorem puts_len : ∀ (l : List Item) (st : List Slot × Int), st.1.length + l.length ≤ 1000 → (puts st l).1.length = st.1.length + l.length ∧ (puts st l).2 = st.2 + l.length
  | [], st, _ => ⟨rfl, by simp [puts]⟩
  | x :: l, st, h => by
    rw [List.length_cons] at h ⊢
    have e : put1 st x = (ins slLt (slot x st.2) st.1, st.2 + 1) := by unfold put1; rw [if_pos (by omega)]
    have hl : (ins slLt (slot x st.2) st.1).length = st.1.length + 1 := by rw [(ins_perm _ _).length_eq, List.length_cons]
    rw [puts, e]
    obtain ⟨h1, h2⟩ := puts_len l (ins slLt (slot x st.2) st.1, st.2 + 1) (by simp only [hl]; omega)
    rw [h1, h2]
    simp only [hl]
    exact ⟨by omega, by omega⟩
/-- Counting up to a thousand. -/
theorem put_count {S : List Slot} {m : Int} {x : Item} {i : Nat} (h : S.length = min i 1000) : (puts (S, m) [x]).1.length = min (i + 1) 1000 := by
  rw [puts, puts]
  unfold put1
  split
  · rw [(ins_perm _ _).length_eq, List.length_cons]
    simp only at *
    omega
  · simp only at *
    omega
theorem Items.lt {w : World} {v : Value} {D : List Slot} {FO : List Nat} (h : Items w v D FO) : ∀ g, g ∈ FO → g < w.heap.size := Fix.lt h
theorem nth_mid {α : Type} [Inhabited α] (l r : List α) (x : α) : nth (l ++ x :: r) l.length = x := by
  unfold nth
  rw [List.getD_eq_getElem?_getD, List.getElem?_append_right (Nat.le_refl _)]
  simp
theorem stays_nth {id : Int} {S : List Slot} {i : Nat} (hi : i < S.length) (hx : ((nth S i).2.2.1 == id) = false) : (stays id (S.take i)).length < (stays id S).length ∧ nth (stays id S) (stays id (S.take i)).length = nth S i := by
  have e : stays id S = stays id (S.take i) ++ (nth S i :: stays id (S.drop (i + 1))) := by
    have h1 : stays id S = stays id (S.take (i + 1)) ++ stays id (S.drop (i + 1)) := by
      unfold stays
      rw [← List.filter_append, List.take_append_drop]
    rw [h1, stays_take hi, hx]
    simp
  rw [e]
  exact ⟨by simp, nth_mid _ _ _⟩
theorem stays_twice (id : Int) (S : List Slot) : stays id (stays id S) = stays id S := by
  unfold stays
  rw [List.filter_filter]
  simp
set_option maxRecDepth 8000 in
set_option maxHeartbeats 4000000 in
theorem takes_in {w : World} {A : Option Addr} {n c : Nat} {l : List Item} (hs : Src w 3 A n (l.flatMap itEnc)) (hl : l.length = n) (hn : n ≤ 60) (id : Int) {k : Nat} (hk : k ≤ 1100) :
    Calls Try.prog 5 #[.slice A n c, .int .i64 id, .int .i64 k] w fun e w' => e = .returned (.bool true) ∧ Chg [] w w' := by
  have hAb : 0 < n → ∀ ad, A = some ad → ad.block < w.heap.size := by
    intro h0 ad hA
    obtain ⟨ad', e, hc⟩ := hs.2 h0
    rw [hA] at e
    injection e with e
    subst e
    have h3 : 0 < (l.flatMap itEnc).length := by rw [hs.1]; omega
    have := hc 0 _ (List.getElem?_eq_getElem h3)
    exact Go.Clock.block_lt this
  have hpl := puts_len l ([], 0) (by simp; omega)
  have b1 : decide ((k : Int) < 0) = false := by simp
  have b2 : decide (1100 < (k : Int)) = false := by simp; omega
  replace hl := Lib.hid hl
  go_enter Try.func5, Try.ntmps5
  go_wp2_with (go_at_call 6; refine (ag_alive _).mono ?_; rintro e w0 ⟨rfl, hc0⟩)
  have hs0 := (hs.chg hc0 (by simp)).chg ((Chg.refl [] w0).alloc (.cells #[.slice none 0 0, .int .i64 0] 28)) (by simp)
  have hput := ag_put (AgAt.new w0) (by simp) (by omega) (by omega) (c := c) hs0 hl.out (by omega) (fun h0 ad e => by have := hAb h0 ad e; have := hc0.size; simp; omega)
  refine hput.mono ?_
  rintro e w1 ⟨rfl, F1, h1, hc1, hF1⟩
  obtain ⟨S, m, hSm⟩ : ∃ S m, puts ([], 0) l = (S, m) := ⟨_, _, rfl⟩
  rw [hSm] at hpl h1
  obtain ⟨hlen, -⟩ := hpl
  replace hlen : S.length = n := by have := hlen; simp at this; rw [this]; exact hl.out
  replace h1 : AgAt w1 w0.heap.size S m F1 := h1
  have hfar1 : ∀ g, g ∈ w0.heap.size :: F1 → w0.heap.size ≤ g := fun g hg => by
    rcases List.mem_cons.1 hg with rfl | hg
    · exact Nat.le_refl _
    · have := hF1 g hg; simp at this; omega
  have hz1 : Chg [] w w1 := (hc0.alloc _).trans hc1 (fun g hg => by simp at hg; subst hg; exact .inr hc0.size)
  have hw0 := hc0.size
  clear hput hc1 hF1 hs0 hSm
  have hal := ag_all h1 (by omega)
  dsimp only
  go_wp2_with fail
  refine hal.mono ?_
  rintro e w2 ⟨v2, FO2, rfl, ho2, hO2, hc2⟩
  have hz2 := hz1.trans' hc2
  have h2 := h1.chg hc2 (by simp)
  have hltF := h1.lt
  have htk := ag_take h2 (by omega) id
  clear hal h1
  dsimp only
  go_wp2_with fail
  refine htk.mono ?_
  rintro e w3 ⟨rfl, F3, h3, hF3, hc3⟩
  have hdis : ∀ g, g ∈ FO2 → g ∉ w0.heap.size :: F1 := fun g hg hg' => by have := hO2 g hg; have := hltF g hg'; omega
  have ho3 := ho2.chg hc3 hdis
  have hz3 : Chg [] w w3 := hz2.trans hc3 (fun g hg => .inr (by have := hfar1 g hg; omega))
  have hsl : (stays id S).length ≤ S.length := List.length_filter_le _ _
  have hfar3 : ∀ g, g ∈ w0.heap.size :: F3 → w.heap.size ≤ g := fun g hg => by
    rcases List.mem_cons.1 hg with rfl | hg
    · exact hw0
    · rcases hF3 g hg with h | h
      · have := hfar1 g (by simp [h]); omega
      · have := hz2.size; omega
  have hdis3 : ∀ g, g ∈ FO2 → g ∉ w0.heap.size :: F3 := fun g hg hg' => by
    rcases List.mem_cons.1 hg' with rfl | hg'
    · exact hdis _ hg (by simp)
    · rcases hF3 g hg' with h | h
      · exact hdis g hg (by simp [h])
      · have := ho2.lt g hg; omega
  have hal3 := ag_all h3 (by omega)
  clear htk h2 ho2 hc2 hc3 hc0
  dsimp only
  go_wp2_with fail
  refine hal3.mono ?_
  rintro e w4 ⟨v4, FO4, rfl, ho4, hO4, hc4⟩
  have ho4a := ho3.chg hc4 (by simp)
  have hz4 := hz3.trans' hc4
  have h4 := h3.chg hc4 (by simp)
  clear hal3 h3 ho3 hc4
  have hS60 : S.length ≤ 60 := by omega
  replace hlen := Lib.hid hlen
  dsimp only
  go_upto_block 0 with fail
  obtain ⟨A2, c2, rfl, hk2a, hk2b⟩ := ho4a.nilv
  obtain ⟨A4, c4, rfl, hk4a, hk4b⟩ := ho4.nilv
  unfold maxLen at hk2b hk4b
  have hwas : ∀ wr, Chg [] w4 wr → ∀ i, i < S.length → ∃ g, A2 = some ⟨g, 0, none⟩ ∧ wr.cell? ⟨g, i * 3, none⟩ = some (.int .i64 (nth S i).1) ∧ wr.cell? ⟨g, i * 3 + 1, none⟩ = some (.int .i64 (nth S i).2.1) ∧ wr.cell? ⟨g, i * 3 + 2, none⟩ = some (.int .i64 (nth S i).2.2.1) := fun wr hc i hi => by
    obtain ⟨g, c', e, -, -, -, x1, x2, x3⟩ := (ho4a.chg hc (by simp)).cells hi
    injection e with e
    exact ⟨g, e, x1, x2, x3⟩
  have hnow : ∀ wr, Chg [] w4 wr → ∀ i, i < (stays id S).length → ∃ g, A4 = some ⟨g, 0, none⟩ ∧ wr.cell? ⟨g, i * 3, none⟩ = some (.int .i64 (nth (stays id S) i).1) ∧ wr.cell? ⟨g, i * 3 + 1, none⟩ = some (.int .i64 (nth (stays id S) i).2.1) ∧ wr.cell? ⟨g, i * 3 + 2, none⟩ = some (.int .i64 (nth (stays id S) i).2.2.1) := fun wr hc i hi => by
    obtain ⟨g, c', e, -, -, -, x1, x2, x3⟩ := (ho4.chg hc (by simp)).cells hi
    injection e with e
    exact ⟨g, e, x1, x2, x3⟩
  clear ho4 ho4a hO2 hO4 hdis hdis3
  go_cut [11] (fun kv wx => kv = .int .i64 (stays id S).length ∧ Chg [] w4 wx)
  case first =>
    go_wp2_with fail
    go_loopw [11, 12] (fun kv iv wr => ∃ i : Nat, i ≤ S.length ∧ iv = .int .i64 i ∧ kv = .int .i64 (stays id (S.take i)).length ∧ Chg [] w4 wr) (fun _ iv _ => S.length - (intOf iv).toNat)
    case atStart => exact ⟨0, by omega, rfl, rfl, Chg.refl _ _⟩
    case round =>
      obtain ⟨i, hi, rfl, rfl, hc⟩ := hrel
      have hkb : (stays id (S.take i)).length ≤ S.length := Nat.le_trans (List.length_filter_le _ _) (by simp; omega)
      by_cases hlt : i < S.length
      · obtain ⟨g, rfl, x1, x2, x3⟩ := hwas wr hc i hlt
        have htk := stays_take (id := id) hlt
        have hsn := stays_nth (id := id) hlt
        cases hx : ((nth S i).2.2.1 == id) with
        | true =>
          rw [hx] at htk
          clear hsn hwas hnow
          have hk1 : Hid ((stays id (S.take (i + 1))).length = (stays id (S.take i)).length) := by show _ = _; rw [htk]; simp
          generalize nth S i = x at *
          clear htk
          go_wp2_with fail
          go_roundw
          case measure => simp [intOf]; omega
          case rel => exact ⟨i + 1, by omega, by go_num, by rw [hk1.out], hc⟩
        | false =>
          rw [hx] at htk
          obtain ⟨s1, s2⟩ := hsn hx
          obtain ⟨g', rfl, y1, y2, y3⟩ := hnow wr hc _ s1
          rw [s2] at y1 y2 y3
          have hk1 : Hid ((stays id (S.take (i + 1))).length = (stays id (S.take i)).length + 1) := by show _ = _; rw [htk]; simp
          have hb : decide (((stays id S).length : Int) ≤ ((stays id (S.take i)).length : Int)) = false := by simp only [decide_eq_false_iff_not]; omega
          clear s2 hwas hnow htk
          generalize nth S i = x at *
          go_wp2_with fail
          go_quiet (fail)
          go_wp2_with fail
          go_roundw
          case measure => simp [intOf]; omega
          case rel => exact ⟨i + 1, by omega, by go_num, by rw [hk1.out]; go_num, hc.drewN _⟩
      · obtain rfl : i = S.length := by omega
        rw [List.take_length]
        go_wp2_with fail
        go_meet
        exact ⟨by trivial, hc⟩
  case rest =>
    obtain ⟨rfl, hc5⟩ := hcut
    have h5 := h4.chg hc5 (by simp)
    have hz5 := hz4.trans' hc5
    have htk := ag_take h5 (by omega) id
    rw [stays_twice] at htk
    have e1 : ((S.length : Int) - ((stays id S).length : Int) != (S.length : Int) - ((stays id S).length : Int)) = false := by simp
    have hsub : ((stays id S).length : Int) - ((stays id S).length : Int) = 0 := by omega
    rw [hsub] at htk
    have hlen2 : ((S.length : Int) != (n : Int)) = false := by rw [hlen.out]; simp
    clear h4 h5 hwas hnow hc5 hsub
    go_wp2_with (go_at_call 13; refine htk.mono ?_; rintro e w6 ⟨rfl, F6, h6, hF6, hc6⟩)
    have hz6 : Chg [] w w6 := hz5.trans hc6 (fun g hg => .inr (hfar3 g hg))
    have hnew := AgAt.new w6
    have hz7 : Chg [] w (w6.alloc (.cells #[.slice none 0 0, .int .i64 0] 28)) := hz6.alloc _
    have hz6s := hz6.size
    clear h6 hF6 hc6 hz5 e1 hlen2 htk hz1 hz2 hz3 hz4 hF3 hfar1 hfar3 hS60
    go_loopw [14] (fun iv wr => ∃ (i : Nat) (S : List Slot) (m : Int) (F : List Nat), i ≤ k ∧ iv = .int .i64 i ∧ S.length = min i 1000 ∧ 0 ≤ m ∧ m ≤ i ∧ AgAt wr w6.heap.size S m F ∧ (∀ g, g ∈ F → w.heap.size ≤ g) ∧ Chg [] w wr) (fun iv _ => k - (intOf iv).toNat)
    case atStart => exact ⟨0, [], 0, [], by omega, rfl, rfl, by omega, by omega, hnew, by simp, hz7⟩
    case round =>
      obtain ⟨i, S, m, F, hi, rfl, hSi, hm0, hm1, hh, hF, hc⟩ := hrel
      clear hnew hz7
      by_cases hlt : i < k
      · have hlF := hh.lt
        have hput := ag_put (hh.chg ((Chg.refl [] wr).alloc (.cells #[.int .i64 0, .int .i64 0, .int .i64 i] 31)) (by simp)) (by omega) hm0 (by omega) (n := 1) (c := 1) (l := [(0, 0, (i : Int))]) (Src.lit rfl rfl) rfl (by omega) (fun _ ad e => by injection e with e; subst e; intro hg; have := hlF _ hg; simp at this)
        have hcnt := put_count (m := m) (x := (0, 0, (i : Int))) hSi
        have hm2 : 0 ≤ (puts (S, m) [(0, 0, (i : Int))]).2 ∧ (puts (S, m) [(0, 0, (i : Int))]).2 ≤ m + 1 := by
          rw [puts, puts]
          unfold put1
          split <;> simp <;> omega
        obtain ⟨hm2, hm3⟩ := hm2
        generalize puts (S, m) [(0, 0, (i : Int))] = st at *
        have hmin : Hid (min ((i : Int) + 1) 1000 = ((min (i + 1) 1000 : Nat) : Int)) := by show _ = _; omega
        rw [hcnt] at hput
        replace hSi := Lib.hid hSi
        replace hcnt := Lib.hid hcnt
        go_wp2_with fail
        refine hput.mono ?_
        rintro e w7 ⟨rfl, F7, h7, hc7, hF7⟩
        dsimp only
        have hb : (((min (i + 1) 1000 : Nat) : Int) != min ((i : Int) + 1) 1000) = false := by rw [hmin.out]; simp
        go_wp2_with fail
        go_roundw
        case measure => simp [intOf]; omega
        case rel =>
          refine ⟨i + 1, st.1, st.2, F7, by omega, by go_num, hcnt.out, hm2, by omega, h7, ?_, ?_⟩
          · intro g hg
            have := hc.size
            rcases hF7 g hg with h | h
            · exact hF g h
            · simp at h; omega
          · refine (hc.alloc _).trans hc7 ?_
            intro g hg
            right
            rcases List.mem_cons.1 hg with rfl | hg
            · exact hz6s
            · exact hF g hg
      · obtain rfl : i = k := by omega
        have hln := ag_len hh
        have hmin : Hid (min (i : Int) 1000 = ((min i 1000 : Nat) : Int)) := by show _ = _; omega
        rw [hSi] at hln
        replace hSi := Lib.hid hSi
        have hb : (((min i 1000 : Nat) : Int) == min (i : Int) 1000) = true := by rw [hmin.out]; simp
        go_wp2_with (go_at_call 9; refine hln.mono ?_; rintro e w8 ⟨rfl, rfl⟩)
        all_goals
          go_ret
          refine ⟨?_, hc⟩
          first
            | rw [show (((min i 1000 : Nat) : Int) == 1000) = true by rw [beq_iff_eq]; omega]; rfl
            | rw [show (((min i 1000 : Nat) : Int) == (i : Int)) = true by rw [beq_iff_eq]; omega]; rfl
set_option maxRecDepth 8000 in
set_option maxHeartbeats 1000000 in
theorem agendaTakes_walk (w : World) (A : Option Addr) (n c : Nat) (l : List Item) (x : l.length = n ∧ n ≤ c ∧ c ≤ maxLen ∧ Src w 3 A n (l.flatMap itEnc) ∧ ∀ x ∈ l, ItOk w x) (y : n * 24 ≤ 140737488351232) (id : Int) (wi : (Lit.int .i64 id).wf = true) (k : Int) (wk : (Lit.int .i64 k).wf = true) :
    Calls Try.prog 5 #[.slice A n c, .int .i64 id, .int .i64 k] w fun e w' => e = .returned (.bool true) ∧ Chg [] w w' := by
  obtain ⟨h1, h2, h3, h4, h5⟩ := x
  by_cases h : n ≤ 60 ∧ 0 ≤ k ∧ k ≤ 1100
  · obtain ⟨a1, a2, a3⟩ := h
    obtain ⟨k, rfl⟩ := Int.eq_ofNat_of_zero_le a2
    exact takes_in h4 h1 a1 id (by omega)
  · have hb : (decide (60 < (n : Int)) = true) ∨ (decide (60 < (n : Int)) = false ∧ decide (k < 0) = true) ∨ (decide (60 < (n : Int)) = false ∧ decide (k < 0) = false ∧ decide (1100 < k) = true) := by
      simp only [decide_eq_true_eq, decide_eq_false_iff_not]
      omega
    clear h
    rcases hb with b1 | ⟨b1, b2⟩ | ⟨b1, b2, b3⟩
    all_goals
      go_enter Try.func5, Try.ntmps5
      go_wp2_with (go_at_call 6; refine (ag_alive _).mono ?_; rintro e w0 ⟨rfl, hc0⟩)
      go_ret
      exact ⟨by trivial, hc0⟩
end Go.Proofs.Ytkpegffoebmhmaa
