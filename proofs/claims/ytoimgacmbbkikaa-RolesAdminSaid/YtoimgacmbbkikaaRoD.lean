/- Roles: how many may do all: a range over the map, in every order. -/
import Derived.Test.YtoimgacmbbkikaaRoC
namespace Go.Proofs.Ytoimgacmbbkikaa
open Go.RowKit Go.Vx Go.Maps
set_option linter.unusedVariables false
set_option linter.unusedSimpArgs false

def adm (L : RL) : Nat := (L.filter fun x => hasB x.2 8).length
/-- Of those that are no longer to come. -/
def admDone (L : RL) (left : Lit → Bool) : Nat := (L.filter fun x => !left (.string x.1) && hasB x.2 8).length
theorem admDone_end {L : RL} {left : Lit → Bool} (h : ∀ kl, left kl = false) : admDone L left = adm L := by
  unfold admDone adm
  congr 1
  exact List.filter_congr fun x _ => by simp [h]
theorem admDone_start (L : RL) : admDone L (Maps.has (dat L)) = 0 := by
  unfold admDone
  rw [List.length_eq_zero_iff, List.filter_eq_nil_iff]
  intro x hx
  have : Maps.has (dat L) (.string x.1) = true := by
    unfold dat
    rw [Maps.has_eq, List.any_map, List.any_eq_true]
    exact ⟨x, hx, by simp [ent, Lit.sameKey]⟩
  simp [this]
theorem adm_step {k : List UInt8} {c : Int} {left : Lit → Bool} (hl : left (.string k) = true) : ∀ {L : RL}, Uniq L → (k, c) ∈ L →
    admDone L (fun z => left z && !z.sameKey (.string k)) = admDone L left + if hasB c 8 then 1 else 0
  | y :: r, hu, hm => by
    have hu' := List.pairwise_cons.1 hu
    have hoff : ∀ x : List UInt8 × Int, x.1 ≠ k → (!(left (.string x.1) && !(Lit.string x.1).sameKey (.string k)) && hasB x.2 8) = (!left (.string x.1) && hasB x.2 8) := fun x hx => by
      have : (Lit.string x.1).sameKey (.string k) = false := by simpa [Lit.sameKey] using hx
      simp [this]
    unfold admDone at *
    rw [List.filter_cons, List.filter_cons]
    by_cases he : y.1 = k
    · have hc : y.2 = c := by
        rcases List.mem_cons.1 hm with h | h
        · rw [← h]
        · exact absurd he (hu'.1 _ h)
      have hs : (Lit.string y.1).sameKey (.string k) = true := by simp [Lit.sameKey, he]
      have hr : r.filter (fun x => !(left (.string x.1) && !(Lit.string x.1).sameKey (.string k)) && hasB x.2 8) = r.filter fun x => !left (.string x.1) && hasB x.2 8 :=
        List.filter_congr fun x hx => hoff x fun e => hu'.1 x hx (by rw [e, he])
      have hs2 : (Lit.string k).sameKey (.string k) = true := by simp [Lit.sameKey]
      simp only [hr, hs2, he, hl, hc, Bool.not_true, Bool.and_false, Bool.not_false, Bool.true_and, Bool.false_and]
      cases hasB c 8 <;> simp
    · have hm' : (k, c) ∈ r := by
        rcases List.mem_cons.1 hm with h | h
        · exact absurd (by rw [← h]) he
        · exact h
      have ih := adm_step hl hu'.2 hm'
      unfold admDone at ih
      have ho := hoff y he
      simp only [ho]
      cases hb : (!left (.string y.1) && hasB y.2 8)
      · simpa using ih
      · simp only [if_true, List.length_cons]
        rw [ih]
        omega
theorem dat_in {L : RL} {k : List UInt8} {c : Int} (h : ∀ zd, (dat L).atKey (.string k) zd = .lit (.int .i64 c)) : (k, c) ∈ L := by
  have h1 := h (.agg [])
  unfold dat DataW.atKey at h1
  dsimp only at h1
  rw [List.find?_map] at h1
  cases hf : L.find? ((fun p : Lit × DataW Unit => p.1.sameKey (.string k)) ∘ ent) with
  | none => rw [hf] at h1; simp at h1
  | some x =>
    rw [hf] at h1
    have hx := List.mem_of_find?_eq_some hf
    have hk := List.find?_some hf
    obtain ⟨x1, x2⟩ := x
    simp [ent, Lit.sameKey] at h1 hk
    subst h1 hk
    exact hx
theorem keyOf_str_inv {key : Value} {kl : Lit} (h : keyOf Try.prog 9 key = some kl) : ∃ s : ByteArray, key = .string s ∧ kl = .string s.data.toList := by
  cases key <;> simp [keyOf, Try.underlying9, mapKey] at h
  rename_i s
  exact ⟨s, rfl, h.2.symm⟩
/-- The step of a range over the roles. -/
theorem next_ro (w : World) {ops : Array Oper} {rest : List Oper} {o : Oper} {a : Act} {Q : Exit → Act → World → Prop} (hg : o.guard = none) (it : Operand) (hop : o.op = Op.next it false) (b r : Nat) (L : RL) (left : Lit → Bool) (cnt : Nat)
    (hit : a.eval it = .pointer (some ⟨r, 0, none⟩)) (h : w.ranges Try.prog 9 (plainElem Try.prog 39) b r L.length (dat L) left cnt)
    (hDone : cnt = 0 → Hid (∀ kl, left kl = false) → wpList Try.prog ops Q rest (a.put o.dst (.tuple #[.bool false])) w)
    (hMore : ∀ (x : ByteArray) (c : Int) (w' : World) (cnt' : Nat), Hid (left (.string x.data.toList) = true) → Hid ((x.data.toList, c) ∈ L) → w'.ranges Try.prog 9 (plainElem Try.prog 39) b r L.length (dat L) (fun z => left z && !z.sameKey (.string x.data.toList)) cnt' → Hid (cnt' < cnt) →
      w.grownBy w' (some r) → Hid (w'.heap.size = w.heap.size) → (Instr.entry (.pointer (some ⟨r, 0, none⟩))).run Try.prog w' = .ok (.tuple #[.string x, .int .i64 c]) w' → wpList Try.prog ops Q rest (a.put o.dst (.tuple #[.bool true, .string x, .int .i64 c])) w') :
    wpList Try.prog ops Q (o :: rest) a w := by
  refine wpList_next_ranges w hg it hop 9 roKeyed (plainElem Try.prog 39) Value.string (Value.int .i64) (fun key kl h => by obtain ⟨s, rfl, -⟩ := keyOf_str_inv h; exact ⟨s, rfl⟩) (fun v y h => by obtain ⟨c, rfl, -⟩ := plainElem_int_inv Try.underlying39 h; exact ⟨c, rfl⟩) b r L.length (dat L) left cnt hit h
    (fun h1 h2 => hDone h1 (Lib.hid h2)) ?_
  intro x c kl y w1 cnt1 hkey hlk hv hat hrg1 hlt hg1 hs1 hen
  obtain ⟨s', es, rfl⟩ := keyOf_str_inv hkey
  injection es with es
  subst es
  obtain ⟨c', ec, rfl, -⟩ := plainElem_int_inv Try.underlying39 hv
  injection ec with _ ec
  subst ec
  exact hMore _ _ _ _ (Lib.hid hlk) (Lib.hid (dat_in hat)) hrg1 (Lib.hid hlt) hg1 (Lib.hid hs1) hen
set_option maxHeartbeats 4000000 in
theorem ro_admins {w : World} {p b : Nat} {L : RL} (hb : Blk w p 27 #[.map (some b)]) (hm : RMap w b L) (hL : L.length ≤ 1000000) :
    Calls Try.prog 18 #[.pointer (some ⟨p, 0, none⟩)] w fun e w' => e = .returned (.int .i64 (adm L)) ∧ Chg [] w w' := by
  have hu := hm.uniq
  have c0 : w.cell? ⟨p, 0, none⟩ = some (.map (some b)) := hb.cell 0
  have hhas := fun s w => ro_has s 8 w
  go_enter Try.func18, Try.ntmps18
  go_wp2_with (first | (at_range; refine wpList_range_own _ rfl _ 25 rfl 9 39 roKeyed Try.underlying25 (plainElem Try.prog 39) b L.length (dat L) rfl hm ?_; intro w0 hrg0 hg0 hs0) | go_in)
  go_frame
  have hz0 : Chg [] w w0 := ⟨hg0.os, hg0.tape, hg0.output, hg0.size, fun k hk _ => hg0.block k hk (by simp)⟩
  obtain ⟨r, hr⟩ : ∃ r, r = w.heap.size := ⟨_, rfl⟩
  rw [← hr] at hrg0 ⊢
  have hr2 : w.heap.size ≤ r := by omega
  have hadm : (adm L : Int) ≤ 1000000 := by
    have : adm L ≤ L.length := List.length_filter_le _ _
    omega
  clear hr
  go_loopw [3] (fun nv wr => ∃ left cnt, wr.ranges Try.prog 9 (plainElem Try.prog 39) b r L.length (dat L) left cnt ∧ nv = .int .i64 (admDone L left) ∧ Chg [] w wr) (fun _ wr => wr.rangeLeft b r)
  case atStart => exact ⟨_, _, hrg0, by rw [admDone_start]; rfl, hz0⟩
  case round =>
    obtain ⟨left, cnt, hrg, rfl, hz⟩ := hrel
    have hdl : (admDone L left : Int) ≤ 1000000 := by
      have : admDone L left ≤ L.length := List.length_filter_le _ _
      omega
    go_wp2_with (first | (at_next; refine next_ro _ rfl _ rfl b r L left cnt rfl hrg ?_ ?_) | go_in)
    · intro hc0 hl0
      have he := Lib.hid (admDone_end (L := L) hl0.out)
      go_wp2
      go_ret
      exact ⟨by rw [← he.out]; rfl, hz⟩
    · intro x c w1 cnt1 hlk hin hrg1 hlt hg1 hs1 hen
      have hst := Lib.hid (adm_step hlk.out hu hin.out)
      have hz1 : Chg [] w w1 := hz.trans (chg_grown hg1) (fun g hg => .inr (by simp at hg; omega))
      have hm1 := hrg.left_eq
      have hm2 := hrg1.left_eq
      have hmz : Hid (w1.rangeLeft b r < wr.rangeLeft b r) := Lib.hid (by rw [hm1, hm2]; exact hlt.out)
      clear hlk hin hm1 hm2 hlt hadm
      cases hx : hasB c 8 with
      | true =>
        have hh := hhas c
        rw [hx] at hh
        have hst2 := hst.out
        rw [hx] at hst2
        replace hst2 := Lib.hid hst2
        replace hx := Lib.hid hx
        clear hhas
        go_wp2_with (go_at_call 16; refine (hh _).mono ?_; rintro e w' ⟨rfl, rfl⟩)
        go_roundw
        case measure => exact hmz.out
        case rel => exact ⟨_, _, hrg1, by rw [hst2.out]; go_num, hz1⟩
      | false =>
        have hh := hhas c
        rw [hx] at hh
        have hst2 := hst.out
        rw [hx] at hst2
        replace hst2 := Lib.hid hst2
        replace hx := Lib.hid hx
        clear hhas
        go_wp2_with (go_at_call 16; refine (hh _).mono ?_; rintro e w' ⟨rfl, rfl⟩)
        go_roundw
        case measure => exact hmz.out
        case rel => exact ⟨_, _, hrg1, by rw [hst2.out]; go_num, hz1⟩
end Go.Proofs.Ytoimgacmbbkikaa
