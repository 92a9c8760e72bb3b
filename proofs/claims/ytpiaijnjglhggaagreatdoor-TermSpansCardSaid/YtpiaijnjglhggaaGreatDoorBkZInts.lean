/- Lists that are kept: Apart of a book of Ints. (printed by bk.py) -/
import Derived.Test.YtpiaijnjglhggaaGreatDoorBkPInts
import Derived.Test.YtpiaijnjglhggaaGreatDoorBkE
namespace Go.Proofs.YtpiaijnjglhggaaGreatDoor
open Go.RowKit Go.Vx
set_option linter.unusedVariables false
set_option linter.unusedSimpArgs false
set_option maxRecDepth 100000 in
set_option maxHeartbeats 16000000 in
theorem bkz_apartInts {w : World} {p : Nat} {cs : Array Value} (hb : Blk w p 35 cs) (hcs : cs.size = 20) (n0 : cs[0]? = some (.slice none 0 0)) (n4 : cs[4]? = some (.slice none 0 0)) (n6 : cs[6]? = some (.slice none 0 0)) (n8 : cs[8]? = some (.slice none 0 0)) (n10 : cs[10]? = some (.slice none 0 0)) (n12 : cs[12]? = some (.slice none 0 0)) (n14 : cs[14]? = some (.slice none 0 0)) (n16 : cs[16]? = some (.slice none 0 0)) (n18 : cs[18]? = some (.slice none 0 0))
    {LInts : List Kept} {RInts : List Nat} (SInts : KStInts w cs LInts RInts) (EInts : ∀ K ∈ LInts, ElInts K.xs ∧ K.n ≤ 90000) (lInts : LInts.length ≤ 1000) :
    Calls Tryz.prog 8 #[.pointer (some ⟨p, 0, none⟩)] w fun e w' => e = .returned (.bool true) ∧ Chg (keptF LInts) w w' := by
  have q0 : ∀ w', Blk w' p 35 cs → w'.cell? ⟨p, 0, none⟩ = some (.slice none 0 0) := fun w' h => by rw [h.cell]; exact n0
  have q4 : ∀ w', Blk w' p 35 cs → w'.cell? ⟨p, 4, none⟩ = some (.slice none 0 0) := fun w' h => by rw [h.cell]; exact n4
  have q6 : ∀ w', Blk w' p 35 cs → w'.cell? ⟨p, 6, none⟩ = some (.slice none 0 0) := fun w' h => by rw [h.cell]; exact n6
  have q8 : ∀ w', Blk w' p 35 cs → w'.cell? ⟨p, 8, none⟩ = some (.slice none 0 0) := fun w' h => by rw [h.cell]; exact n8
  have q10 : ∀ w', Blk w' p 35 cs → w'.cell? ⟨p, 10, none⟩ = some (.slice none 0 0) := fun w' h => by rw [h.cell]; exact n10
  have q12 : ∀ w', Blk w' p 35 cs → w'.cell? ⟨p, 12, none⟩ = some (.slice none 0 0) := fun w' h => by rw [h.cell]; exact n12
  have q14 : ∀ w', Blk w' p 35 cs → w'.cell? ⟨p, 14, none⟩ = some (.slice none 0 0) := fun w' h => by rw [h.cell]; exact n14
  have q16 : ∀ w', Blk w' p 35 cs → w'.cell? ⟨p, 16, none⟩ = some (.slice none 0 0) := fun w' h => by rw [h.cell]; exact n16
  have q18 : ∀ w', Blk w' p 35 cs → w'.cell? ⟨p, 18, none⟩ = some (.slice none 0 0) := fun w' h => by rw [h.cell]; exact n18
  obtain ⟨tInts, vInts, MInts, TInts, VInts, cInts, -, rInts, -, -, -, -⟩ := SInts.ex
  have fInts := (rInts.far hb (by decide) (by decide)).2
  have q2 : ∀ w', Blk w' p 35 cs → w'.cell? ⟨p, 2, none⟩ = some tInts := fun w' h => by rw [h.cell]; exact cInts
  go_enter Tryz.func8, Tryz.ntmps8
  go_wp2_with fail
  refine (bke_stillTexts (q0 _ hb)).mono ?_
  rintro e w' ⟨rfl, rfl⟩
  dsimp only
  go_wp2_with fail
  refine (bkp_stillInts hb SInts (fun K hK => ⟨(EInts K hK).1, by have := (EInts K hK).2; omega⟩) (by omega)).mono ?_
  rintro e w1 ⟨rfl, mw1, ew1⟩
  have zw1 : Chg [] w w1 := by rw [ew1]; exact (Chg.refl _ _).drewN _
  clear ew1
  have bw1 := hb.chg zw1 (by simp)
  have yw1 := (Chg.refl (keptF LInts) w).trans zw1 (by simp)
  replace SInts := SInts.chg zw1 (by simp)
  replace rInts := rInts.keep zw1
  dsimp only
  go_wp2_with fail
  refine (bke_stillAccounts (q4 _ bw1)).mono ?_
  rintro e w' ⟨rfl, rfl⟩
  dsimp only
  go_wp2_with fail
  refine (bke_stillBalances (q6 _ bw1)).mono ?_
  rintro e w' ⟨rfl, rfl⟩
  dsimp only
  go_wp2_with fail
  refine (bke_stillLines (q8 _ bw1)).mono ?_
  rintro e w' ⟨rfl, rfl⟩
  dsimp only
  go_wp2_with fail
  refine (bke_stillJournals (q10 _ bw1)).mono ?_
  rintro e w' ⟨rfl, rfl⟩
  dsimp only
  go_wp2_with fail
  refine (bke_stillChanges (q12 _ bw1)).mono ?_
  rintro e w' ⟨rfl, rfl⟩
  dsimp only
  go_wp2_with fail
  refine (bke_stillConflicts (q14 _ bw1)).mono ?_
  rintro e w' ⟨rfl, rfl⟩
  dsimp only
  go_wp2_with fail
  refine (bke_stillTrios (q16 _ bw1)).mono ?_
  rintro e w' ⟨rfl, rfl⟩
  dsimp only
  go_wp2_with fail
  refine (bke_stillPairs (q18 _ bw1)).mono ?_
  rintro e w' ⟨rfl, rfl⟩
  dsimp only
  go_wp2_with fail
  clear SInts
  refine (bke_putJournals (q10 _ bw1)).mono ?_
  rintro e w' ⟨rfl, rfl⟩
  dsimp only
  go_wp2_with fail
  refine (bke_putChanges (q12 _ bw1)).mono ?_
  rintro e w' ⟨rfl, rfl⟩
  dsimp only
  go_wp2_with fail
  refine (bke_putTexts (q0 _ bw1)).mono ?_
  rintro e w' ⟨rfl, rfl⟩
  dsimp only
  go_wp2_with fail
  refine (bkp_putInts bw1 cInts rInts (fun K hK => by have := (EInts K hK).2; omega) lInts).mono ?_
  rintro e w2 ⟨rfl, gInts, zw2⟩
  have bw2 := bw1.chg zw2 fInts
  have yw2 := yw1.trans zw2 (fun g hg => .inl (by simp [hg]))
  clear rInts
  have rInts := gInts
  clear gInts
  dsimp only
  go_wp2_with fail
  refine (bke_putAccounts (q4 _ bw2)).mono ?_
  rintro e w' ⟨rfl, rfl⟩
  dsimp only
  go_wp2_with fail
  refine (bke_putBalances (q6 _ bw2)).mono ?_
  rintro e w' ⟨rfl, rfl⟩
  dsimp only
  go_wp2_with fail
  refine (bke_putLines (q8 _ bw2)).mono ?_
  rintro e w' ⟨rfl, rfl⟩
  dsimp only
  go_wp2_with fail
  refine (bke_putConflicts (q14 _ bw2)).mono ?_
  rintro e w' ⟨rfl, rfl⟩
  dsimp only
  go_wp2_with fail
  refine (bke_putTrios (q16 _ bw2)).mono ?_
  rintro e w' ⟨rfl, rfl⟩
  dsimp only
  go_wp2_with fail
  refine (bke_putPairs (q18 _ bw2)).mono ?_
  rintro e w' ⟨rfl, rfl⟩
  dsimp only
  go_wp2_with fail
  have FInts := putTo_keptF mkInts LInts LInts.length (Nat.le_refl _)
  refine (bke_growTexts (q0 _ bw2)).mono ?_
  rintro e w' ⟨rfl, rfl⟩
  dsimp only
  go_wp2_with fail
  refine (bkp_growInts bw2 cInts rInts (fun j hj => putTo_marked mkInts LInts hj) (putTo_n mkInts LInts _ (fun K hK => (EInts K hK).2)) (by rw [putTo_len]; exact lInts)).mono ?_
  rintro e w3 ⟨uInts, QInts, AInts, BInts, rfl, LInts', gInts, hInts, iInts, zw3⟩
  rw [FInts] at zw3 iInts
  have bw3 := bw2.chg zw3 fInts
  have yw3 := yw2.trans zw3 (fun g hg => .inl (by simp [hg]))
  clear rInts
  dsimp only
  go_wp2_with fail
  refine (bke_growAccounts (q4 _ bw3)).mono ?_
  rintro e w' ⟨rfl, rfl⟩
  dsimp only
  go_wp2_with fail
  refine (bke_growBalances (q6 _ bw3)).mono ?_
  rintro e w' ⟨rfl, rfl⟩
  dsimp only
  go_wp2_with fail
  refine (bke_growLines (q8 _ bw3)).mono ?_
  rintro e w' ⟨rfl, rfl⟩
  dsimp only
  go_wp2_with fail
  refine (bke_growJournals (q10 _ bw3)).mono ?_
  rintro e w' ⟨rfl, rfl⟩
  dsimp only
  go_wp2_with fail
  refine (bke_growChanges (q12 _ bw3)).mono ?_
  rintro e w' ⟨rfl, rfl⟩
  dsimp only
  go_wp2_with fail
  refine (bke_growConflicts (q14 _ bw3)).mono ?_
  rintro e w' ⟨rfl, rfl⟩
  dsimp only
  go_wp2_with fail
  refine (bke_growTrios (q16 _ bw3)).mono ?_
  rintro e w' ⟨rfl, rfl⟩
  dsimp only
  go_wp2_with fail
  refine (bke_growPairs (q18 _ bw3)).mono ?_
  rintro e w' ⟨rfl, rfl⟩
  dsimp only
  go_wp2_with fail
  have x0 := q0 _ bw3
  have x2 := q2 _ bw3
  have x4 := q4 _ bw3
  have x6 := q6 _ bw3
  have x8 := q8 _ bw3
  have x10 := q10 _ bw3
  have x12 := q12 _ bw3
  have x14 := q14 _ bw3
  have x16 := q16 _ bw3
  have x18 := q18 _ bw3
  go_wp2_with fail
  refine bke_markedTexts.mono ?_
  rintro e w' ⟨rfl, rfl⟩
  dsimp only
  go_wp2_with fail
  refine bke_markedTexts.mono ?_
  rintro e w' ⟨rfl, rfl⟩
  dsimp only
  go_wp2_with fail
  refine (bkp_markedInts gInts (by rw [LInts', putTo_len]; exact lInts)).mono ?_
  rintro e w4 ⟨rfl, zw4⟩
  have bw4 := bw3.chg zw4 (by simp)
  have yw4 := yw3.trans zw4 (by simp)
  replace gInts := gInts.chg zw4 (by simp) (by simp)
  replace hInts := hInts.chg zw4 (by simp) (by simp)
  clear x0
  have x0 := q0 _ bw4
  clear x2
  have x2 := q2 _ bw4
  clear x4
  have x4 := q4 _ bw4
  clear x6
  have x6 := q6 _ bw4
  clear x8
  have x8 := q8 _ bw4
  clear x10
  have x10 := q10 _ bw4
  clear x12
  have x12 := q12 _ bw4
  clear x14
  have x14 := q14 _ bw4
  clear x16
  have x16 := q16 _ bw4
  clear x18
  have x18 := q18 _ bw4
  dsimp only
  go_wp2_with fail
  refine (bkp_markedInts hInts (by rw [putTo_len]; exact lInts)).mono ?_
  rintro e w5 ⟨rfl, zw5⟩
  have bw5 := bw4.chg zw5 (by simp)
  have yw5 := yw4.trans zw5 (by simp)
  replace gInts := gInts.chg zw5 (by simp) (by simp)
  replace hInts := hInts.chg zw5 (by simp) (by simp)
  clear x0
  have x0 := q0 _ bw5
  clear x2
  have x2 := q2 _ bw5
  clear x4
  have x4 := q4 _ bw5
  clear x6
  have x6 := q6 _ bw5
  clear x8
  have x8 := q8 _ bw5
  clear x10
  have x10 := q10 _ bw5
  clear x12
  have x12 := q12 _ bw5
  clear x14
  have x14 := q14 _ bw5
  clear x16
  have x16 := q16 _ bw5
  clear x18
  have x18 := q18 _ bw5
  dsimp only
  go_wp2_with fail
  refine bke_markedAccounts.mono ?_
  rintro e w' ⟨rfl, rfl⟩
  dsimp only
  go_wp2_with fail
  refine bke_markedAccounts.mono ?_
  rintro e w' ⟨rfl, rfl⟩
  dsimp only
  go_wp2_with fail
  refine bke_markedBalances.mono ?_
  rintro e w' ⟨rfl, rfl⟩
  dsimp only
  go_wp2_with fail
  refine bke_markedBalances.mono ?_
  rintro e w' ⟨rfl, rfl⟩
  dsimp only
  go_wp2_with fail
  refine bke_markedLines.mono ?_
  rintro e w' ⟨rfl, rfl⟩
  dsimp only
  go_wp2_with fail
  refine bke_markedLines.mono ?_
  rintro e w' ⟨rfl, rfl⟩
  dsimp only
  go_wp2_with fail
  refine bke_markedJournals.mono ?_
  rintro e w' ⟨rfl, rfl⟩
  dsimp only
  go_wp2_with fail
  refine bke_markedJournals.mono ?_
  rintro e w' ⟨rfl, rfl⟩
  dsimp only
  go_wp2_with fail
  refine bke_markedChanges.mono ?_
  rintro e w' ⟨rfl, rfl⟩
  dsimp only
  go_wp2_with fail
  refine bke_markedChanges.mono ?_
  rintro e w' ⟨rfl, rfl⟩
  dsimp only
  go_wp2_with fail
  refine bke_markedConflicts.mono ?_
  rintro e w' ⟨rfl, rfl⟩
  dsimp only
  go_wp2_with fail
  refine bke_markedConflicts.mono ?_
  rintro e w' ⟨rfl, rfl⟩
  dsimp only
  go_wp2_with fail
  refine bke_markedTrios.mono ?_
  rintro e w' ⟨rfl, rfl⟩
  dsimp only
  go_wp2_with fail
  refine bke_markedTrios.mono ?_
  rintro e w' ⟨rfl, rfl⟩
  dsimp only
  go_wp2_with fail
  refine bke_markedPairs.mono ?_
  rintro e w' ⟨rfl, rfl⟩
  dsimp only
  go_wp2_with fail
  refine bke_markedPairs.mono ?_
  rintro e w' ⟨rfl, rfl⟩
  dsimp only
  go_wp2_with fail
  go_ret
  exact ⟨by trivial, yw5⟩
end Go.Proofs.YtpiaijnjglhggaaGreatDoor
