/- BookFull. -/
import Derived.Test.YtlgfmphjgijilaaJoY
namespace Go.Proofs.Ytlgfmphjgijilaa
open Go.RowKit Go.Vx
set_option linter.unusedVariables false
set_option linter.unusedSimpArgs false

def jF (i : Int) : Jn := ⟨i, 1, 0, ⟨#[]⟩, [⟨1, i, 0⟩, ⟨2, -i, 0⟩], false⟩
theorem checkF {i : Int} (h1 : 1 ≤ i) (h2 : i ≤ 300) : checkE (jF i) = 0 := by
  have hf : frontB (jF i) = true := by
    have : refB ⟨#[]⟩ = true := by decide
    unfold frontB jF
    simp [this, entB, perB]
    try omega
  unfold checkE
  rw [hf]
  have a1 : (i != 0) = true := by simp; omega
  have a2 : (-i != 0) = true := by simp; omega
  have a3 : fitM i = true := by unfold fitM; simp; omega
  have a4 : fitM (-i) = true := by unfold fitM; simp; omega
  have a5 : (jF i).lines.all (lineB (jF i).ent) = true := by
    show (lineB 1 ⟨1, i, 0⟩ && (lineB 1 ⟨2, -i, 0⟩ && true)) = true
    unfold lineB
    simp [a1, a2]
    try omega
  have a6 : ((jF i).lines.all fun x => fitM x.amt) = true := by
    show (fitM i && (fitM (-i) && true)) = true
    simp [a3, a4]
  have a7 : sumL (jF i).lines = 0 := by
    show (0 + i) + -i = 0
    omega
  rw [a5, a6, a7]
  rfl
def LF (k : Nat) : List Jn := (List.range k).map fun n : Nat => jF ((n : Int) + 1)
theorem takenF (L : List Jn) (i : Int) : takenN L (jF i) = false := by unfold takenN jF; simp [show ByteArray.toList ⟨#[]⟩ = [] from by decide +kernel]
theorem foundF {k : Nat} {i : Int} (h : (k : Int) < i) : foundN (LF k) i = false := by
  unfold foundN LF
  rw [List.any_eq_false]
  intro q hq
  obtain ⟨n, hn, rfl⟩ := List.mem_map.1 hq
  rw [List.mem_range] at hn
  simp [jF]
  omega
theorem insF : ∀ (L : List Jn) (x : Jn), (∀ q ∈ L, q.id < x.id) → insN L x = L ++ [x]
  | [], x, _ => rfl
  | q :: L, x, h => by unfold insN; rw [if_pos (h q (by simp)), insF L x (fun y hy => h y (by simp [hy]))]; rfl
theorem insLF (k : Nat) : insN (LF k) (jF ((k : Int) + 1)) = LF (k + 1) := by
  rw [insF]
  · unfold LF; rw [List.range_succ, List.map_append]; rfl
  · intro q hq
    obtain ⟨n, hn, rfl⟩ := List.mem_map.1 hq
    rw [List.mem_range] at hn
    show (n : Int) + 1 < (k : Int) + 1
    omega
theorem lenLF (k : Nat) : (LF k).length = k := by simp [LF]
theorem postLF {k : Nat} (h : k < 200) : postN (LF k) (jF ((k : Int) + 1)) = 0 := by
  unfold postN
  rw [if_neg (by simp [checkF (i := (k : Int) + 1) (by omega) (by omega)]), if_neg (by rw [show (jF ((k : Int) + 1)).id = (k : Int) + 1 from rfl, foundF (by omega)]; simp), if_neg (by rw [takenF]; simp), if_neg (by rw [lenLF]; omega)]
theorem postFull {i : Int} (h1 : 200 < i) (h2 : i ≤ 300) : postN (LF 200) (jF i) = 13 := by
  unfold postN
  rw [if_neg (by simp [checkF (i := i) (by omega) (by omega)]), if_neg (by rw [show (jF i).id = i from rfl, foundF (by omega)]; simp), if_neg (by rw [takenF]; simp), if_pos (by rw [lenLF]; omega)]
def jLast : Jn := ⟨201, 1, 0, ⟨#[]⟩, [⟨1, 1, 0⟩, ⟨2, -1, 0⟩], false⟩
theorem endF : ∀ m : Fin 20, foundN (LF 200) ((m : Nat) + 1 : Int) = true ∧ foundN (dropN (LF 200) ((m : Nat) + 1 : Int)) ((m : Nat) + 1 : Int) = false ∧ postN (dropN (LF 200) ((m : Nat) + 1 : Int)) jLast = 0 ∧ (dropN (LF 200) ((m : Nat) + 1 : Int)).length = 199 := by decide +kernel
theorem dropAgain (L : List Jn) (i : Int) : dropN (dropN L i) i = dropN L i := by unfold dropN; rw [List.filter_filter]; simp
theorem slot_len (L : List Jn) (i : Int) (x : Jn) : (insN (dropN L i) x).length = (dropN L i).length + 1 := len_insN _ _
set_option maxRecDepth 100000 in
set_option maxHeartbeats 4000000 in
theorem bookFull_walk (more : Int) (wf : (Lit.int .i64 more).wf = true) (w : World) : Calls Try.prog 3 #[.int .i64 more] w fun e w' => e = .returned (.bool true) ∧ Chg [] w w' := by
  have hal := l6_alive
  by_cases hm1 : more < 1
  · have b1 : decide (more < 1) = true := by simpa using hm1
    clear hm1
    go_enter Try.func3, Try.ntmps3
    go_wp2_with fail
    refine (hal _).mono ?_
    rintro e w1 ⟨rfl, hz⟩
    clear hal
    go_wp2_with fail
    go_ret
    exact ⟨rfl, hz⟩
  by_cases hm2 : 20 < more
  · have b1 : decide (more < 1) = false := by simpa using hm1
    have b2 : decide (20 < more) = true := by simpa using hm2
    clear hm1 hm2
    go_enter Try.func3, Try.ntmps3
    go_wp2_with fail
    refine (hal _).mono ?_
    rintro e w1 ⟨rfl, hz⟩
    clear hal
    go_wp2_with fail
    go_ret
    exact ⟨rfl, hz⟩
  have b1 : decide (more < 1) = false := by simpa using hm1
  have b2 : decide (20 < more) = false := by simpa using hm2
  obtain ⟨m, rfl⟩ : ∃ m : Nat, more = (m : Int) + 1 := ⟨(more - 1).toNat, by omega⟩
  have hm : m < 20 := by omega
  obtain ⟨hE1, hE2, hE3, hE4⟩ := endF ⟨m, hm⟩
  dsimp only at hE1 hE2 hE3 hE4
  have hw1 : IntKind.i64.wrap (200 + ((m : Int) + 1)) = 201 + (m : Int) := by rw [IntKind.wrap_i64]; omega
  replace hE1 := Lib.hid hE1
  replace hE2 := Lib.hid hE2
  replace hE3 := Lib.hid hE3
  replace hE4 := Lib.hid hE4
  clear hm1 hm2
  go_enter Try.func3, Try.ntmps3
  go_wp2_with fail
  refine (hal _).mono ?_
  rintro e w1 ⟨rfl, hz1⟩
  clear hal
  go_wp2_with fail
  go_loopw [4] (fun iv wr => ∃ (i : Nat) (R : List Nat), i ≤ 201 + m ∧ iv = .int .i64 ((i : Int) + 1) ∧ BN wr w1.heap.size (LF (min i 200)) R ∧ (∀ g ∈ R, w1.heap.size ≤ g) ∧ Chg [] w wr) (fun iv _ => 300 - (intOf iv).toNat)
  case atStart => exact ⟨0, [], by omega, rfl, by rw [show LF (min 0 200) = [] from rfl]; exact BN.new w1, by simp, hz1.alloc _⟩
  case round =>
    obtain ⟨i, R, hi, rfl, hb, hR, hz⟩ := hrel
    have hiw : IntKind.i64.wrap ((i : Int) + 1 + 1) = (i : Int) + 1 + 1 := by rw [IntKind.wrap_i64]; omega
    have hng : IntKind.i64.wrap (-((i : Int) + 1)) = -((i : Int) + 1) := by rw [IntKind.wrap_i64]; omega
    by_cases hlt : i < 201 + m
    · have hlt2 : (i : Int) + 1 ≤ 201 + (m : Int) := by omega
      go_wp2_with fail
      have hp := bn_post (hb.keep (((Chg.refl [] wr).alloc (.cells #[.int .i64 1, .int .i64 ((i : Int) + 1), .int .i64 0, .int .i64 2, .int .i64 (-((i : Int) + 1)), .int .i64 0] 28)).alloc (.cells #[.int .i64 ((i : Int) + 1), .int .i64 1, .int .i64 0, .string ⟨#[]⟩, .slice (some ⟨wr.heap.size, 0, none⟩) 2 2, .bool false] 31))) (jF ((i : Int) + 1)) (n := 2) (c := 2) (blk_src (size := 3) ((Blk.new_at rfl).alloc _) rfl) (by omega) (by show ByteArray.size ⟨#[]⟩ ≤ maxLen; decide)
      have hL : BPost ((wr.alloc (.cells #[.int .i64 1, .int .i64 ((i : Int) + 1), .int .i64 0, .int .i64 2, .int .i64 (-((i : Int) + 1)), .int .i64 0] 28)).alloc (.cells #[.int .i64 ((i : Int) + 1), .int .i64 1, .int .i64 0, .string ⟨#[]⟩, .slice (some ⟨wr.heap.size, 0, none⟩) 2 2, .bool false] 31)) w1.heap.size (LF (min i 200)) R (jF ((i : Int) + 1)) =
          fun e w' => e = .returned (.int .i64 (if i < 200 then 0 else 13)) ∧ ∃ R', BN w' w1.heap.size (LF (min (i + 1) 200)) R' ∧ (∀ g ∈ R', g ∈ R ∨ ((wr.alloc (.cells #[.int .i64 1, .int .i64 ((i : Int) + 1), .int .i64 0, .int .i64 2, .int .i64 (-((i : Int) + 1)), .int .i64 0] 28)).alloc (.cells #[.int .i64 ((i : Int) + 1), .int .i64 1, .int .i64 0, .string ⟨#[]⟩, .slice (some ⟨wr.heap.size, 0, none⟩) 2 2, .bool false] 31)).heap.size ≤ g) ∧ Chg (w1.heap.size :: R) ((wr.alloc (.cells #[.int .i64 1, .int .i64 ((i : Int) + 1), .int .i64 0, .int .i64 2, .int .i64 (-((i : Int) + 1)), .int .i64 0] 28)).alloc (.cells #[.int .i64 ((i : Int) + 1), .int .i64 1, .int .i64 0, .string ⟨#[]⟩, .slice (some ⟨wr.heap.size, 0, none⟩) 2 2, .bool false] 31)) w' := by
        unfold BPost
        by_cases h : i < 200
        · rw [Nat.min_eq_left (by omega), postLF h, if_pos rfl, insLF, if_pos h, Nat.min_eq_left (by omega)]
        · rw [Nat.min_eq_right (by omega), postFull (by omega) (by omega), if_neg (by omega), if_neg h, Nat.min_eq_right (by omega)]
      rw [hL] at hp
      clear hL
      unfold jF jnV at hp
      dsimp only at hp
      refine hp.mono ?_
      rintro e w2 ⟨rfl, R2, hb2, hf2, hz2⟩
      clear hp
      have hzz := (hz.alloc (.cells #[.int .i64 1, .int .i64 ((i : Int) + 1), .int .i64 0, .int .i64 2, .int .i64 (-((i : Int) + 1)), .int .i64 0] 28)).alloc (.cells #[.int .i64 ((i : Int) + 1), .int .i64 1, .int .i64 0, .string ⟨#[]⟩, .slice (some ⟨wr.heap.size, 0, none⟩) 2 2, .bool false] 31)
      have hlt1 := hb.lt
      have hs1 := hz1.size
      have hR2 : ∀ g ∈ R2, w1.heap.size ≤ g := fun g hg => (hf2 g hg).elim (hR g) (fun h => by simp at h; omega)
      have hz3 : Chg [] w w2 := hzz.trans hz2 (fun g hg => .inr (by
        rcases List.mem_cons.1 hg with h | h
        · omega
        · have := hR g h; omega))
      clear hz2 hf2 hb hz hzz hlt1 hs1
      replace hz3 := Lib.hid hz3
      replace hR2 := Lib.hid hR2
      replace hb2 := Lib.hid hb2
      by_cases hi2 : i < 200
      · rw [if_pos hi2]
        have hi3 : decide ((i : Int) + 1 ≤ 200) = true := by simp; omega
        have hi4 : decide (200 < (i : Int) + 1) = false := by simp; omega
        replace hi2 := Lib.hid hi2
        replace hlt := Lib.hid hlt
        clear hlt2
        go_wp2_with fail
        exact ⟨⟨i + 1, R2, by have := hlt.out; omega, by rw [Value.int.injEq]; exact ⟨rfl, by omega⟩, hb2.out, hR2.out, hz3.out⟩, by have := hlt.out; simp [intOf]; omega⟩
      · rw [if_neg hi2]
        have hi3 : decide ((i : Int) + 1 ≤ 200) = false := by simp; omega
        have hi4 : decide (200 < (i : Int) + 1) = true := by simp; omega
        replace hi2 := Lib.hid hi2
        replace hlt := Lib.hid hlt
        clear hlt2
        go_wp2_with fail
        exact ⟨⟨i + 1, R2, by have := hlt.out; omega, by rw [Value.int.injEq]; exact ⟨rfl, by omega⟩, hb2.out, hR2.out, hz3.out⟩, by have := hlt.out; simp [intOf]; omega⟩
    · have hlt2 : decide ((i : Int) + 1 ≤ 201 + (m : Int)) = false := by simp; omega
      rw [Nat.min_eq_right (by omega)] at hb
      clear hlt hi hiw hng
      have hs1 := hz1.size
      obtain ⟨R1, hb1, hR1⟩ := hb.trim
      replace hR1 : ∀ g ∈ R1, w1.heap.size ≤ g ∧ g < wr.heap.size := fun g hg => ⟨hR g (hR1 g hg).1, (hR1 g hg).2⟩
      have hpl := hb.lt
      clear hb hR hz1
      have hza := (hz.alloc (.cells #[.int .i64 1, .int .i64 1, .int .i64 0, .int .i64 2, .int .i64 (-1), .int .i64 0] 28)).alloc (.cells #[.int .i64 201, .int .i64 1, .int .i64 0, .string ⟨#[]⟩, .slice (some ⟨wr.heap.size, 0, none⟩) 2 2, .bool false] 31)
      have hba := hb1.keep (((Chg.refl [] wr).alloc (.cells #[.int .i64 1, .int .i64 1, .int .i64 0, .int .i64 2, .int .i64 (-1), .int .i64 0] 28)).alloc (.cells #[.int .i64 201, .int .i64 1, .int .i64 0, .string ⟨#[]⟩, .slice (some ⟨wr.heap.size, 0, none⟩) 2 2, .bool false] 31))
      have hA := (Blk.new wr 28 #[.int .i64 1, .int .i64 1, .int .i64 0, .int .i64 2, .int .i64 (-1), .int .i64 0]).alloc (.cells #[.int .i64 201, .int .i64 1, .int .i64 0, .string ⟨#[]⟩, .slice (some ⟨wr.heap.size, 0, none⟩) 2 2, .bool false] 31)
      have hJ : Blk ((wr.alloc (.cells #[.int .i64 1, .int .i64 1, .int .i64 0, .int .i64 2, .int .i64 (-1), .int .i64 0] 28)).alloc (.cells #[.int .i64 201, .int .i64 1, .int .i64 0, .string ⟨#[]⟩, .slice (some ⟨wr.heap.size, 0, none⟩) 2 2, .bool false] 31)) (wr.heap.size + 1) 31 _ := Blk.new_at (by simp)
      clear hz hb1
      replace hE1 := hE1
      go_wp2_with fail
      revert hza hba hA hJ
      generalize (wr.alloc (.cells #[.int .i64 1, .int .i64 1, .int .i64 0, .int .i64 2, .int .i64 (-1), .int .i64 0] 28)).alloc (.cells #[.int .i64 201, .int .i64 1, .int .i64 0, .string ⟨#[]⟩, .slice (some ⟨wr.heap.size, 0, none⟩) 2 2, .bool false] 31) = wa
      generalize wr.heap.size = G at *
      generalize w1.heap.size = P at *
      intro hza hba hA hJ
      have hnG : ∀ k, G ≤ k → k ∉ P :: R1 := fun k hk hm => by
        rcases List.mem_cons.1 hm with h | h
        · omega
        · have := (hR1 k h).2; omega
      have hnw : ∀ g ∈ P :: R1, g ∈ ([] : List Nat) ∨ w.heap.size ≤ g := fun g hg => .inr (by
        rcases List.mem_cons.1 hg with h | h
        · omega
        · have := (hR1 g h).1; omega)
      refine (bn_len hba).mono ?_
      rintro e w2 ⟨rfl, hz2⟩
      rw [lenLF]
      have hb2 := hba.keep hz2
      have hz := hza.trans' hz2
      have hA2 := hA.chg hz2 (by simp)
      have hJ2 := hJ.chg hz2 (by simp)
      clear hba hza hA hJ hz2
      replace hnG := Lib.hid hnG
      replace hnw := Lib.hid hnw
      go_wp2_with fail
      refine (bn_drop hb2 (id := (m : Int) + 1) (by omega)).mono ?_
      rintro e w3 ⟨rfl, hb3, hz3⟩
      rw [hE1.out]
      have hz' := hz.trans hz3 hnw.out
      have hA3 := hA2.chg hz3 (hnG.out G (Nat.le_refl _))
      have hJ3 := hJ2.chg hz3 (hnG.out (G + 1) (by omega))
      clear hb2 hz hA2 hJ2 hz3
      go_wp2_with fail
      refine (bn_drop hb3 (id := (m : Int) + 1) (by omega)).mono ?_
      rintro e w4 ⟨rfl, hb4, hz4⟩
      rw [hE2.out]
      rw [dropAgain] at hb4
      have hz'' := hz'.trans hz4 hnw.out
      have hA4 := hA3.chg hz4 (hnG.out G (Nat.le_refl _))
      have hJ4 := hJ3.chg hz4 (hnG.out (G + 1) (by omega))
      clear hb3 hz' hA3 hJ3 hz4
      have c0 := hJ4.cell 0
      have c1 := hJ4.cell 1
      have c2 := hJ4.cell 2
      have c3 := hJ4.cell 3
      have c4 := hJ4.cell 4
      have c5 := hJ4.cell 5
      go_wp2_with fail
      refine (bn_post hb4 jLast (n := 2) (c := 2) (blk_src (size := 3) hA4 rfl) (by omega) (by decide)).mono ?_
      rintro e w5 ⟨rfl, R5, hb5, -, hz5⟩
      rw [hE3.out] at hb5 ⊢
      rw [if_pos rfl] at hb5
      have hzz := hz''.trans hz5 hnw.out
      clear hb4 hz'' hA4 hJ4 hz5 c0 c1 c2 c3 c4 c5
      have hln := bn_len hb5
      rw [len_insN, hE4.out] at hln
      go_wp2_with fail
      refine hln.mono ?_
      rintro e w6 ⟨rfl, hz6⟩
      go_wp2_with fail
      go_ret
      exact ⟨rfl, hzz.trans' hz6⟩
end Go.Proofs.Ytlgfmphjgijilaa
