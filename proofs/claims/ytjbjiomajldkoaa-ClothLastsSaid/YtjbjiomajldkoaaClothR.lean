/- The reference's cloth: what each of its calls answers and does. -/
import Derived.Test.YtjbjiomajldkoaaClothF
import Derived.Test.YtjbjiomajldkoaaCopy
namespace Go.Proofs.Ytjbjiomajldkoaa
open Go.RowKit Go.Vx
set_option linter.unusedVariables false
set_option linter.unusedSimpArgs false

structure RefAt (w : World) (p : Nat) (now last lo ke : Value) (c : ClothS) (n : Int) (kl : List Bool) (Fn Fl G H : List Nat) : Prop where
  blk : Blk w p 65 #[now, last, lo, .bool c.torn, .bool c.snagged, .int .i64 n, ke]
  hn : Fix w 9 1 now c.pressed.length ((pressTo c.pressed c.loose).map .string) Fn
  hl : Fix w 9 1 last c.pressed.length (c.pressed.map .string) Fl
  hlo : Fix w 72 2 lo c.loose.length (threadCells c.loose) G
  hke : Fix w 4 1 ke kl.length (kl.map .bool) H
  dis : ∀ g, g ∈ Fn → g ∉ Fl
  arm : c.snagged = true → kl = c.keep ∧ n = c.left
theorem infoWrite : (Try.prog.info? 72).map (fun i => (i.zero, i.size, i.bytes)) = some (some (.agg #[.int .i64 0, .string ⟨#[]⟩]), 2, 24) := by kernel_rfl
section
variable {w w' : World} {p : Nat} {now last lo ke : Value} {c : ClothS} {n : Int} {kl : List Bool} {Fn Fl G H : List Nat}
theorem RefAt.chg {S : List Nat} (h : RefAt w p now last lo ke c n kl Fn Fl G H) (k : Chg S w w') (hd : ∀ g, g ∈ p :: (Fn ++ Fl ++ G ++ H) → g ∉ S) : RefAt w' p now last lo ke c n kl Fn Fl G H :=
  ⟨h.blk.chg k (hd p (by simp)), h.hn.chg k fun g hg => hd g (by simp [hg]), h.hl.chg k fun g hg => hd g (by simp [hg]), h.hlo.chg k fun g hg => hd g (by simp [hg]), h.hke.chg k fun g hg => hd g (by simp [hg]), h.dis, h.arm⟩
/-- The power falls. -/
theorem rfalls (h : RefAt w p now last lo ke c n kl Fn Fl G H) (hleft : c.leftOk) :
    Calls Try.prog 39 #[.pointer (some ⟨p, 0, none⟩)] w fun e w' => e = .returned (.bool c.going) ∧ ∃ n' : Int, (c.going = false → c.snagged = true → n' = c.left - 1) ∧
      Blk w' p 65 #[now, last, lo, .bool c.torn, .bool c.snagged, .int .i64 n', ke] ∧ Chg [p] w w' := by
  have c4 : w.cell? ⟨p, 4, none⟩ = some (.bool c.snagged) := h.blk.cell 4
  have c5 : w.cell? ⟨p, 5, none⟩ = some (.int .i64 n) := h.blk.cell 5
  have f5 := h.blk.frozen 5
  cases hs : c.snagged with
  | false =>
    go_enter Try.func39, Try.ntmps39
    go_wp2
    go_ret
    exact ⟨by simp [ClothS.going, hs], n, by simp, by simpa [hs] using h.blk, Chg.refl _ _⟩
  | true =>
    obtain ⟨-, rfl⟩ := h.arm hs
    obtain ⟨l0, l1⟩ := hleft hs
    go_enter Try.func39, Try.ntmps39
    by_cases h0 : c.left = 0
    · have hb : (c.left == 0) = true := by simpa using h0
      go_wp2
      go_ret
      exact ⟨by simp [ClothS.going, hs, h0], c.left, by simp [ClothS.going, hs, h0], by simpa [hs] using h.blk, Chg.refl _ _⟩
    · have hb : (c.left == 0) = false := by simpa using h0
      go_wp2
      go_ret
      refine ⟨?_, c.left - 1, by intros; omega, ?_, (Chg.refl _ _).setCell (by simp) _⟩
      · simp [ClothS.going, hs]; omega
      · have := h.blk.set_ 5 (.int .i64 (c.left - 1))
        simpa [hs] using this
theorem rread_bad (h : RefAt w p now last lo ke c n kl Fn Fl G H) (row : Int) (hm : c.may row ≠ 0) :
    Calls Try.prog 30 #[.pointer (some ⟨p, 0, none⟩), .int .i64 row] w fun e w' => e = .returned (.tuple #[.string ⟨#[]⟩, .int .i64 (c.may row)]) ∧ w = w' := by
  have c3 : w.cell? ⟨p, 3, none⟩ = some (.bool c.torn) := h.blk.cell 3
  have c0 : w.cell? ⟨p, 0, none⟩ = some now := h.blk.cell 0
  obtain ⟨A, m, rfl, -, h1, h2, -⟩ := id h.hn
  unfold maxLen at h2
  go_enter Try.func30, Try.ntmps30
  go_wp2_with fail
  all_goals first | exact absurd (by unfold ClothS.may; rw [if_neg (by simp [*]), if_neg (by omega)]) hm | (go_ret2; refine ⟨?_, rfl⟩; simp_all [ClothS.may]; done) | (go_ret2; refine ⟨?_, rfl⟩; simp_all [ClothS.may]; omega)
theorem rread_ok (h : RefAt w p now last lo ke c n kl Fn Fl G H) (row : Nat) (hm : c.may row = 0) :
    Calls Try.prog 30 #[.pointer (some ⟨p, 0, none⟩), .int .i64 row] w fun e w' => e = .returned (.tuple #[.string ((pressTo c.pressed c.loose).getD row ⟨#[]⟩), .int .i64 0]) ∧ w = w' := by
  obtain ⟨ht, hr0, hr1⟩ := may_zero hm
  have c3 : w.cell? ⟨p, 3, none⟩ = some (.bool c.torn) := h.blk.cell 3
  have c0 : w.cell? ⟨p, 0, none⟩ = some now := h.blk.cell 0
  obtain ⟨g, m, rfl, h1, h2, -, d0, f0⟩ := h.hn.at_ (k := row) (j := 0) (by omega) (by omega)
  unfold maxLen at h2
  rw [List.getElem?_eq_getElem (by simp [pressTo_length]; omega)] at d0
  simp only [Nat.mul_one, Nat.add_zero, List.getElem_map] at d0
  have HE : Hid ((pressTo c.pressed c.loose).getD row ⟨#[]⟩ = (pressTo c.pressed c.loose)[row]'(by rw [pressTo_length]; omega)) := by
    show _ = _
    rw [List.getD_eq_getElem?_getD, List.getElem?_eq_getElem (by rw [pressTo_length]; omega)]; rfl
  rw [HE.out]
  generalize (pressTo c.pressed c.loose)[row]'(by rw [pressTo_length]; omega) = s at d0 ⊢
  go_enter Try.func30, Try.ntmps30
  go_wp2
  go_ret2
  exact ⟨rfl, rfl⟩
end
end Go.Proofs.Ytjbjiomajldkoaa
