/- Lineage: Base, Bases. -/
import Derived.Test.YtaabkapjdmceaaaLnJ
namespace Go.Proofs.Ytaabkapjdmceaaa
open Go.RowKit Go.Vx Go.Maps
set_option linter.unusedVariables false
set_option linter.unusedSimpArgs false

def bestStep (C : Lin0) (acc : Option Nat) (x : Nat) : Option Nat :=
  match acc with
  | none => some x
  | some y => if genAt C y < genAt C x ∨ (genAt C x = genAt C y ∧ x < y) then some x else some y
def bestL (C : Lin0) (l : List Nat) : Option Nat := l.foldl (bestStep C) none
section
variable {w : World} {lp : Nat} {Q : List LC} {R : List Nat}
theorem bases_there (h : LinAt w lp Q R) {a b x : Nat} (hx : x ∈ basesL (comsOf Q) a b) : isThere (comsOf Q) x = true := common_there h.wf ((bases_spec h.wf).2 x |>.1 hx).1
theorem bases_le (h : LinAt w lp Q R) (hQ : Q.length ≤ 400) (a b : Nat) : (basesL (comsOf Q) a b).length ≤ 400 := by
  have h1 := len_there (C := comsOf Q) (l := basesL (comsOf Q) a b) ((bases_spec h.wf).1.imp fun {a b} h e => by rw [e, (lnLin _).irr] at h; cases h) fun x hx => bases_there h hx
  have e : (comsOf Q).length = Q.length := List.length_map _
  rw [e] at h1
  exact Nat.le_trans h1 hQ
def genO (C : Lin0) : Option Nat → Int
  | none => 0
  | some x => (genAt C x : Int)
def BestAt (w : World) (b : Nat) (C : Lin0) (o : Option Nat) : Prop :=
  ∃ v ro au, Blk w b 43 #[.int .i64 (o.getD 0 : Nat), .int .i64 (genO C o), v, .int .i64 ro, .string au] ∧ ∃ A n c, v = .slice A n c
set_option maxRecDepth 100000 in
set_option maxHeartbeats 16000000 in
theorem ln_base (h : LinAt w lp Q R) (hQ : Q.length ≤ 400) (a b : Int) :
    Calls Try.prog 13 #[.pointer (some ⟨lp, 0, none⟩), .int .i64 a, .int .i64 b] w fun e w' => e = .returned (.tuple #[.int .i64 ((bestL (comsOf Q) (basesL (comsOf Q) a.toNat b.toNat)).getD 0 : Nat), .bool (bestL (comsOf Q) (basesL (comsOf Q) a.toNat b.toNat)).isSome]) ∧ Chg [] w w' := by
  have h1 := fun w' (k : Chg [] w w') => ln_bases (h.keep k) hQ a b
  have hG := fun w' (k : Chg [] w w') i (hi : i < Q.length) => ln_get (h.keep k) hQ hi
  have hge := fun i (hi : i < Q.length) => h.gen_at hi
  have hth : ∀ x ∈ basesL (comsOf Q) a.toNat b.toNat, 1 ≤ x ∧ x ≤ Q.length := fun x hx => by
    have := isThere_iff.1 (bases_there h hx)
    rwa [List.length_map] at this
  have hl := bases_le h hQ a.toNat b.toNat
  have hst : Hid (∀ o x, bestStep (comsOf Q) o x = match o with | none => some x | some y => if genAt (comsOf Q) y < genAt (comsOf Q) x ∨ (genAt (comsOf Q) x = genAt (comsOf Q) y ∧ x < y) then some x else some y) := Lib.hid fun o x => rfl
  have hD : Hid (bestL (comsOf Q) (basesL (comsOf Q) a.toNat b.toNat) = (basesL (comsOf Q) a.toNat b.toNat).foldl (bestStep (comsOf Q)) none) := Lib.hid rfl
  generalize bestL (comsOf Q) (basesL (comsOf Q) a.toNat b.toNat) = D at *
  generalize basesL (comsOf Q) a.toNat b.toNat = B at *
  generalize bestStep (comsOf Q) = st at *
  have hB0 := Blk.new w 43 #[.int .i64 0, .int .i64 0, .slice none 0 0, .int .i64 0, .string ⟨#[]⟩]
  have hz0 : Chg [] w (w.alloc (.cells #[.int .i64 0, .int .i64 0, .slice none 0 0, .int .i64 0, .string ⟨#[]⟩] 43)) := (Chg.refl _ _).alloc _
  go_enter Try.func13, Try.ntmps13
  go_wp2_with fail
  refine (h1 _ hz0).mono ?_
  rintro e w1 ⟨v, F, rfl, hf, hF, hz⟩
  obtain ⟨A, c, rfl, -⟩ := _root_.id hf
  replace hB0 := hB0.chg hz (by simp)
  replace hF : ∀ g ∈ F, w.heap.size < g := fun g hg => by
    have := hF g hg
    simp at this
    omega
  replace hz := hz0.trans' hz
  clear h1 hz0
  go_wp2_with fail
  go_loopw [9, 20] (fun fv kv wr => ∃ (k : Nat) (o : Option Nat), k ≤ B.length ∧ kv = .int .i64 k ∧ Hid (o = (B.take k).foldl st none) ∧ fv = .bool o.isSome ∧ BestAt wr w.heap.size (comsOf Q) o ∧ Fix wr 3 1 (.slice A B.length c) B.length (natVals B) F ∧ Chg [] w wr) (fun _ kv _ => B.length - (intOf kv).toNat)
  case atStart => exact ⟨0, none, by omega, rfl, Lib.hid rfl, rfl, ⟨_, 0, ⟨#[]⟩, hB0, _, _, _, rfl⟩, hf, hz⟩
  case round =>
    clear hf hz hB0
    obtain ⟨k, o, hk, rfl, ho, rfl, ⟨bv, bro, bau, hbb, bA, bn, bc, rfl⟩, hf, hz⟩ := hrel
    by_cases hlt : k < B.length
    · obtain ⟨g', c', hBq, -, -, -, hcj, -⟩ := hf.at_ (k := k) (j := 0) hlt (by omega)
      have hB' : A = some ⟨g', 0, none⟩ := by injection hBq
      subst hB'
      clear hBq
      have hcell : wr.cell? ⟨g', k, none⟩ = some (.int .i64 (B[k] : Nat)) := by
        rw [show k * 1 + 0 = k by omega] at hcj
        rw [hcj]
        simp [natVals, List.getElem?_eq_getElem hlt]
      clear hcj
      have hfold := foldl_take st none B hlt
      rw [← ho.out, hst.out] at hfold
      have hx := hth _ (List.getElem_mem hlt)
      generalize B[k] = x at *
      obtain ⟨i, rfl⟩ : ∃ i, x = i + 1 := ⟨x - 1, by omega⟩
      have hi : i < Q.length := by omega
      have hGk := hG _ hz i hi
      have hgi := (hge i hi).1
      have hgb := (hge i hi).2.2
      rw [← hgi] at hGk hgb
      generalize Q[i].com.root = ro at *
      generalize Q[i].com.author = au at *
      generalize Q[i].com.par = P at *
      clear hgi
      replace hfold := Lib.hid hfold
      clear ho
      go_wp2_with fail
      refine hGk.mono ?_
      rintro e w5 ⟨v5, F5, rfl, hf5, -, hz5⟩
      obtain ⟨A5, c5, rfl, -⟩ := _root_.id hf5
      have hb5 := hbb.chg hz5 (by simp)
      have hfB := hf.chg hz5 (by simp)
      have hzz := hz.trans' hz5
      have hn1 : ¬ w5.heap.size = w.heap.size := by have := hb5.lt; omega
      have hn2 : ¬ w.heap.size = w5.heap.size := by have := hb5.lt; omega
      have z0 := hb5.cell 0
      have z1 := hb5.cell 1
      have z2 := hb5.cell 2
      have z3 := hb5.cell 3
      have z4 := hb5.cell 4
      have y0 := hb5.frozen 0
      have y1 := hb5.frozen 1
      have y2 := hb5.frozen 2
      have y3 := hb5.frozen 3
      have y4 := hb5.frozen 4
      have hstay : ∀ W', Chg [w5.heap.size] w5 W' → Blk W' w.heap.size 43 #[.int .i64 (o.getD 0 : Nat), .int .i64 (genO (comsOf Q) o), .slice bA bn bc, .int .i64 bro, .string bau] ∧ Fix W' 3 1 (.slice (some ⟨g', 0, none⟩) B.length c) B.length (natVals B) F ∧ Chg [] w W' := fun W' k => by
        have hlt5 := hfB.lt
        exact ⟨hb5.chg k (by simp; omega), hfB.chg k (fun g hg hm => by
          have := hlt5 g hg
          simp at hm
          omega), hzz.trans k (fun g hg => by
          have := hzz.size
          simp at hg
          omega)⟩
      have htake : BestAt ((((((w5.alloc (.cells #[.int .i64 ((i : Int) + 1), .int .i64 (genAt (comsOf Q) (i + 1) : Nat), .slice A5 P.length c5, .int .i64 ro, .string au] 43)).setCell ⟨w.heap.size, 0, none⟩ (.int .i64 ((i : Int) + 1))).setCell ⟨w.heap.size, 1, none⟩ (.int .i64 (genAt (comsOf Q) (i + 1) : Nat))).setCell ⟨w.heap.size, 2, none⟩ (.slice A5 P.length c5)).setCell ⟨w.heap.size, 3, none⟩ (.int .i64 ro)).setCell ⟨w.heap.size, 4, none⟩ (.string au)) w.heap.size (comsOf Q) (some (i + 1)) ∧ Fix ((((((w5.alloc (.cells #[.int .i64 ((i : Int) + 1), .int .i64 (genAt (comsOf Q) (i + 1) : Nat), .slice A5 P.length c5, .int .i64 ro, .string au] 43)).setCell ⟨w.heap.size, 0, none⟩ (.int .i64 ((i : Int) + 1))).setCell ⟨w.heap.size, 1, none⟩ (.int .i64 (genAt (comsOf Q) (i + 1) : Nat))).setCell ⟨w.heap.size, 2, none⟩ (.slice A5 P.length c5)).setCell ⟨w.heap.size, 3, none⟩ (.int .i64 ro)).setCell ⟨w.heap.size, 4, none⟩ (.string au)) 3 1 (.slice (some ⟨g', 0, none⟩) B.length c) B.length (natVals B) F ∧ Chg [] w ((((((w5.alloc (.cells #[.int .i64 ((i : Int) + 1), .int .i64 (genAt (comsOf Q) (i + 1) : Nat), .slice A5 P.length c5, .int .i64 ro, .string au] 43)).setCell ⟨w.heap.size, 0, none⟩ (.int .i64 ((i : Int) + 1))).setCell ⟨w.heap.size, 1, none⟩ (.int .i64 (genAt (comsOf Q) (i + 1) : Nat))).setCell ⟨w.heap.size, 2, none⟩ (.slice A5 P.length c5)).setCell ⟨w.heap.size, 3, none⟩ (.int .i64 ro)).setCell ⟨w.heap.size, 4, none⟩ (.string au)) := by
        have k : Chg [w.heap.size] w5 ((((((w5.alloc (.cells #[.int .i64 ((i : Int) + 1), .int .i64 (genAt (comsOf Q) (i + 1) : Nat), .slice A5 P.length c5, .int .i64 ro, .string au] 43)).setCell ⟨w.heap.size, 0, none⟩ (.int .i64 ((i : Int) + 1))).setCell ⟨w.heap.size, 1, none⟩ (.int .i64 (genAt (comsOf Q) (i + 1) : Nat))).setCell ⟨w.heap.size, 2, none⟩ (.slice A5 P.length c5)).setCell ⟨w.heap.size, 3, none⟩ (.int .i64 ro)).setCell ⟨w.heap.size, 4, none⟩ (.string au)) := ((((((Chg.refl [w.heap.size] w5).alloc _).setCell (by simp) _).setCell (by simp) _).setCell (by simp) _).setCell (by simp) _).setCell (by simp) _
        have hbk := (((((hb5.alloc (.cells #[.int .i64 ((i : Int) + 1), .int .i64 (genAt (comsOf Q) (i + 1) : Nat), .slice A5 P.length c5, .int .i64 ro, .string au] 43)).set_ 0 (.int .i64 ((i : Int) + 1))).set_ 1 (.int .i64 (genAt (comsOf Q) (i + 1) : Nat))).set_ 2 (.slice A5 P.length c5)).set_ 3 (.int .i64 ro)).set_ 4 (.string au)
        refine ⟨⟨_, ro, au, by simpa [genO] using hbk, _, _, _, rfl⟩, hfB.chg k (fun g hg hm => ?_), hzz.trans k (fun g hg => ?_)⟩
        · have := hF g hg
          simp at hm
          omega
        · simp at hg
          omega
      cases o with
      | none =>
        have hf2 : (B.take (k + 1)).foldl st none = some (i + 1) := hfold.out
        replace hf2 := Lib.hid hf2.symm
        simp [genO] at z0 z1 z2 z3 z4
        have t0 := cell_al z0
        have t1 := cell_al z1
        have t2 := cell_al z2
        have t3 := cell_al z3
        have t4 := cell_al z4
        have r0 := fun o => (hb5.alloc o).frozen 0
        have r1 := fun o => (hb5.alloc o).frozen 1
        have r2 := fun o => (hb5.alloc o).frozen 2
        have r3 := fun o => (hb5.alloc o).frozen 3
        have r4 := fun o => (hb5.alloc o).frozen 4
        clear hfold hGk hbb hb5 hf hz hG hz5 hge hzz hfB
        replace htake := Lib.hid htake
        simp only [Option.isSome_none]
        go_wp2_with fail
        refine ⟨⟨k + 1, some (i + 1), by omega, by go_num, hf2, rfl, htake.out.1, htake.out.2.1, htake.out.2.2⟩, by simp [intOf]; omega⟩
      | some y =>
        simp [genO] at z0 z1 z2 z3 z4
        have t0 := cell_al z0
        have t1 := cell_al z1
        have t2 := cell_al z2
        have t3 := cell_al z3
        have t4 := cell_al z4
        have r0 := fun o => (hb5.alloc o).frozen 0
        have r1 := fun o => (hb5.alloc o).frozen 1
        have r2 := fun o => (hb5.alloc o).frozen 2
        have r3 := fun o => (hb5.alloc o).frozen 3
        have r4 := fun o => (hb5.alloc o).frozen 4
        clear hGk hf hz hG hz5 hge hfB
        replace htake := Lib.hid htake
        replace hstay := Lib.hid hstay
        simp only [Option.isSome_some]
        by_cases hgt : genAt (comsOf Q) y < genAt (comsOf Q) (i + 1)
        · have hf2 : (B.take (k + 1)).foldl st none = some (i + 1) := by rw [hfold.out]; exact if_pos (.inl hgt)
          replace hf2 := Lib.hid hf2.symm
          clear hfold
          go_wp2_with fail
          refine ⟨⟨k + 1, some (i + 1), by omega, by go_num, hf2, rfl, htake.out.1, htake.out.2.1, htake.out.2.2⟩, by simp [intOf]; omega⟩
        · by_cases heq : genAt (comsOf Q) (i + 1) = genAt (comsOf Q) y
          · by_cases hlt2 : i + 1 < y
            · have hf2 : (B.take (k + 1)).foldl st none = some (i + 1) := by rw [hfold.out]; exact if_pos (.inr ⟨heq, hlt2⟩)
              replace hf2 := Lib.hid hf2.symm
              clear hfold
              generalize genAt (comsOf Q) (i + 1) = g1 at *
              generalize genAt (comsOf Q) y = g2 at *
              subst heq
              go_wp2_with fail
              refine ⟨⟨k + 1, some (i + 1), by omega, by go_num, hf2, rfl, htake.out.1, htake.out.2.1, htake.out.2.2⟩, by simp [intOf]; omega⟩
            · have hf2 : (B.take (k + 1)).foldl st none = some y := by rw [hfold.out]; exact if_neg (by omega)
              replace hf2 := Lib.hid hf2.symm
              clear hfold
              generalize genAt (comsOf Q) (i + 1) = g1 at *
              have hst2 := Lib.hid (hstay.out _ ((Chg.refl _ _).alloc (.cells #[.int .i64 ((i : Int) + 1), .int .i64 (g1 : Nat), .slice A5 P.length c5, .int .i64 ro, .string au] 43)))
              clear hstay
              replace heq := heq.symm
              generalize hg2 : genAt (comsOf Q) y = g2 at *
              subst heq
              go_wp2_with fail
              refine ⟨⟨k + 1, some y, by omega, by go_num, hf2, rfl, ⟨_, _, _, hst2.out.1, _, _, _, rfl⟩, hst2.out.2.1, hst2.out.2.2⟩, by simp [intOf]; omega⟩
          · have hf2 : (B.take (k + 1)).foldl st none = some y := by rw [hfold.out]; exact if_neg (by omega)
            replace hf2 := Lib.hid hf2.symm
            clear hfold
            have hst2 := Lib.hid (hstay.out _ ((Chg.refl _ _).alloc (.cells #[.int .i64 ((i : Int) + 1), .int .i64 (genAt (comsOf Q) (i + 1) : Nat), .slice A5 P.length c5, .int .i64 ro, .string au] 43)))
            clear hstay
            have hlt3 : genAt (comsOf Q) (i + 1) < genAt (comsOf Q) y := by omega
            go_wp2_with fail
            refine ⟨⟨k + 1, some y, by omega, by go_num, hf2, rfl, ⟨_, _, _, hst2.out.1, _, _, _, rfl⟩, hst2.out.2.1, hst2.out.2.2⟩, by simp [intOf]; omega⟩
    · obtain rfl : k = B.length := by omega
      rw [List.take_length] at ho
      rw [← ho.out] at hD
      obtain rfl := hD.out
      clear hD ho
      have z0 := hbb.cell 0
      simp at z0
      go_wp2_with fail
      go_ret2
      exact ⟨rfl, hz⟩
end
end Go.Proofs.Ytaabkapjdmceaaa
