/- Journals: Room, Few; a book of journals. -/
import Derived.Test.YtlgfmphjgijilaaJrG
namespace Go.Proofs.Ytlgfmphjgijilaa
open Go.RowKit Go.Vx
set_option linter.unusedVariables false
set_option linter.unusedSimpArgs false

/-- What Room of two sizes tells. -/
def RoomOk (a b : Nat) (r : Int) : Prop := -1 ≤ r ∧ r ≤ 2000 ∧ (0 ≤ r → a ≤ 2000 ∧ b ≤ 2000)
set_option maxRecDepth 100000 in
set_option maxHeartbeats 4000000 in
theorem bk_room {w : World} {g : Nat} {c : Nat} {a b : Nat} (hs : Blk w g 3 #[.int .i64 (a : Nat), .int .i64 (b : Nat)]) (ha : (a : Int) ≤ 9223372036854775807) (hb : (b : Int) ≤ 9223372036854775807) {left : Int} (h1 : 0 ≤ left) (h2 : left ≤ 2000) :
    Calls Try.prog 35 #[.int .i64 left, .slice (some ⟨g, 0, none⟩) 2 c] w fun e w' => ∃ r : Int, e = .returned (.int .i64 r) ∧ RoomOk a b r ∧ w' = w := by
  have c0 : w.cell? ⟨g, 0, none⟩ = some (.int .i64 (a : Nat)) := hs.cell 0
  have c1 : w.cell? ⟨g, 1, none⟩ = some (.int .i64 (b : Nat)) := hs.cell 1
  clear hs
  go_enter Try.func35, Try.ntmps35
  go_wp2_with fail
  go_loopw [0, 5] (fun lv iv wr => ∃ k l, k ≤ 2 ∧ iv = .int .i64 (k : Nat) ∧ lv = .int .i64 l ∧ 0 ≤ l ∧ l ≤ 2000 ∧ (1 ≤ k → a ≤ 2000) ∧ (2 ≤ k → b ≤ 2000) ∧ wr = w) (fun _ iv _ => 2 - (intOf iv).toNat)
  case atStart => exact ⟨0, left, by omega, rfl, rfl, h1, h2, by omega, by omega, rfl⟩
  case round =>
    obtain ⟨k, l, hk, rfl, rfl, hl1, hl2, hka, hkb, rfl⟩ := hrel
    have b1 : decide (l < 0) = false := by simp; omega
    rcases (show k = 0 ∨ k = 1 ∨ k = 2 by omega) with rfl | rfl | rfl
    · by_cases hx : l < (a : Int)
      · have b2 : decide (l < (a : Int)) = true := by simpa using hx
        clear hka hkb hx
        go_wp2_with fail
        go_ret
        exact ⟨-1, rfl, ⟨by omega, by omega, by omega⟩, rfl⟩
      · have b2 : decide (l < (a : Int)) = false := by simpa using hx
        have hw : IntKind.i64.wrap (l - (a : Int)) = l - (a : Int) := by rw [IntKind.wrap_i64]; omega
        have h3 : 0 ≤ l - (a : Int) ∧ l - (a : Int) ≤ 2000 ∧ a ≤ 2000 := by omega
        replace h3 := Lib.hid h3
        clear hka hkb hx
        go_wp2_with fail
        exact ⟨⟨1, l - (a : Int), by omega, rfl, rfl, h3.out.1, h3.out.2.1, fun _ => h3.out.2.2, by omega, trivial⟩, by simp [intOf]⟩
    · have ha2 := hka (by omega)
      by_cases hx : l < (b : Int)
      · have b2 : decide (l < (b : Int)) = true := by simpa using hx
        clear hka hkb hx
        go_wp2_with fail
        go_ret
        exact ⟨-1, rfl, ⟨by omega, by omega, by omega⟩, rfl⟩
      · have b2 : decide (l < (b : Int)) = false := by simpa using hx
        have hw : IntKind.i64.wrap (l - (b : Int)) = l - (b : Int) := by rw [IntKind.wrap_i64]; omega
        have h3 : 0 ≤ l - (b : Int) ∧ l - (b : Int) ≤ 2000 ∧ b ≤ 2000 := by omega
        replace h3 := Lib.hid h3
        replace ha2 := Lib.hid ha2
        clear hka hkb hx
        go_wp2_with fail
        exact ⟨⟨2, l - (b : Int), by omega, rfl, rfl, h3.out.1, h3.out.2.1, fun _ => ha2.out, fun _ => h3.out.2.2, trivial⟩, by simp [intOf]⟩
    · have hab := And.intro (hka (by omega)) (hkb (by omega))
      replace hab := Lib.hid hab
      clear hka hkb
      go_wp2_with fail
      go_ret
      exact ⟨l, rfl, ⟨by omega, hl2, fun _ => hab.out⟩, rfl⟩
/-- What Few tells. -/
def FewPost (w : World) (n : Nat) (Q : List JV) (few : Int) (e : Ending) (w' : World) : Prop := ∃ b, e = .returned (.bool b) ∧ (b = true → (n : Int) ≤ few ∧ ∀ q ∈ Q, q.j.ref.size ≤ 2000 ∧ q.j.lines.length ≤ 2000) ∧ Chg [] w w'
set_option maxRecDepth 100000 in
set_option maxHeartbeats 4000000 in
theorem bk_few {w : World} {A : Option Addr} {n c : Nat} {Q : List JV} (hs : Go.Vx.Src w 6 A n (Q.flatMap jvEnc)) (hn : (n : Int) ≤ 9223372036854775807) (ho : ∀ q ∈ Q, ∃ A c, q.pv = .slice A q.j.lines.length c ∧ (q.j.lines.length : Int) ≤ 9223372036854775807 ∧ (q.j.ref.size : Int) ≤ 9223372036854775807) {few : Int} (hf : 0 ≤ few ∧ few ≤ 1000) :
    Calls Try.prog 10 #[.int .i64 few, .slice A n c] w (FewPost w n Q few) := by
  have hl : Q.length = n := by have := hs.1; rw [flatMap_len jvEnc_len] at this; omega
  replace hl := Lib.hid hl
  replace ho := Lib.hid ho
  go_enter Try.func10, Try.ntmps10
  go_wp2_with fail
  go_loopw [5, 6] (fun rv iv wr => ∃ (k : Nat) (r : Int), k ≤ n ∧ iv = .int .i64 k ∧ rv = .int .i64 r ∧ -1 ≤ r ∧ r ≤ 2000 ∧ (0 ≤ r → ∀ i, (hi : i < Q.length) → i < k → Q[i].j.ref.size ≤ 2000 ∧ Q[i].j.lines.length ≤ 2000) ∧ Chg [] w wr) (fun _ iv _ => n - (intOf iv).toNat)
  case atStart => exact ⟨0, 2000, by omega, rfl, rfl, by omega, by omega, fun _ i _ h => by omega, Chg.refl _ _⟩
  case round =>
    obtain ⟨k, r, hk, rfl, rfl, hr1, hr2, hj, hzr⟩ := hrel
    by_cases hlt : k < n
    · by_cases hkf : (k : Int) ≤ few
      · by_cases hr0 : 0 ≤ r
        · have hkl : k < Q.length := by rw [hl.out]; exact hlt
          obtain ⟨ad, rfl, c0, c1, c2, c3, c4, c5⟩ := jv_cells (hs.chg hzr (by simp)) hkl
          obtain ⟨Ap, cp, hpp, hp1, hp2⟩ := ho.out _ (List.getElem_mem hkl)
          rw [hpp] at c4
          have hlt2 : (k : Int) < (n : Int) := by omega
          have hkw : IntKind.i64.wrap ((k : Int) + 1) = (k : Int) + 1 := by rw [IntKind.wrap_i64]; omega
          have hj2 : Q[k].j.ref.size ≤ 2000 ∧ Q[k].j.lines.length ≤ 2000 → Hid (∀ i, (hi : i < Q.length) → i < k + 1 → Q[i].j.ref.size ≤ 2000 ∧ Q[i].j.lines.length ≤ 2000) := fun h => Lib.hid (fun i hi h2 => by
            by_cases e : i = k
            · subst e; exact h
            · exact hj hr0 i hi (by omega))
          have hroom := fun W g (hb : Blk W g 3 #[.int .i64 (Q[k].j.ref.size : Nat), .int .i64 (Q[k].j.lines.length : Nat)]) => bk_room (c := 2) hb hp2 hp1 (left := r) hr0 hr2
          replace hroom := Lib.hid hroom
          replace hj2 := Lib.hid hj2
          clear hj hpp hp1 hp2
          generalize Q[k].j.lines.length = LL at *
          generalize Q[k].j.ref = S at *
          generalize Q[k] = x at *
          have c3' : wr.drew.cell? ⟨(ad.add (k * 6)).block, (ad.add (k * 6)).off + 3, none⟩ = _ := c3
          have c4' : wr.drew.cell? ⟨(ad.add (k * 6)).block, (ad.add (k * 6)).off + 4, none⟩ = _ := c4
          go_wp2_with fail
          go_region_law (go_simp; go_at_call 35; refine (hroom.out _ _ (by first | exact Blk.drew (Blk.new _ _ _) | exact Blk.new _ _ _)).mono ?_; rintro e w2 ⟨r2, rfl, hrr, rfl⟩)
          all_goals
            go_wp2_with fail
            exact ⟨⟨k + 1, r2, by omega, by go_num, rfl, hrr.1, hrr.2.1, fun h => (hj2.out (hrr.2.2 h)).out, by first | exact (hzr.alloc _).drew | exact hzr.drew.alloc _⟩, by simp [intOf]; omega⟩
        · have b1 : decide (0 ≤ r) = false := by simpa using hr0
          have hlt2 : (k : Int) < (n : Int) := by omega
          clear hj
          go_wp2_with fail
          all_goals
            go_ret
            exact ⟨_, rfl, fun h => by simp at h <;> omega, hzr⟩
      · have b1 : decide ((k : Int) ≤ few) = false := by simpa using hkf
        have b2 : decide ((n : Int) ≤ few) = false := by simp; omega
        have hlt2 : (k : Int) < (n : Int) := by omega
        clear hj
        go_wp2_with fail
        all_goals
          go_ret
          exact ⟨_, rfl, fun h => by simp at h, hzr⟩
    · obtain rfl : k = n := by omega
      have hall : 0 ≤ r → Hid (∀ q ∈ Q, q.j.ref.size ≤ 2000 ∧ q.j.lines.length ≤ 2000) := fun h => Lib.hid (fun q hq => by
        obtain ⟨i, hi, rfl⟩ := List.getElem_of_mem hq
        exact hj h i hi (by have := hl.out; omega))
      replace hall := Lib.hid hall
      clear hj
      by_cases hkf : (k : Int) ≤ few
      · have b2 : decide ((k : Int) ≤ few) = true := by simpa using hkf
        go_wp2_with fail
        all_goals
          go_ret
          exact ⟨_, rfl, fun h => ⟨hkf, (hall.out (by simpa using h)).out⟩, hzr⟩
      · have b2 : decide ((k : Int) ≤ few) = false := by simpa using hkf
        go_wp2_with fail
        all_goals
          go_ret
          exact ⟨_, rfl, fun h => by simp at h, hzr⟩
end Go.Proofs.Ytlgfmphjgijilaa
