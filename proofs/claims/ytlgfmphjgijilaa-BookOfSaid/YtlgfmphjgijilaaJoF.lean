/- Journals: a book in memory; find. -/
import Derived.Test.YtlgfmphjgijilaaJoE
namespace Go.Proofs.Ytlgfmphjgijilaa
open Go.RowKit Go.Vx
set_option linter.unusedVariables false
set_option linter.unusedSimpArgs false

/-- A journal of a book. -/
structure JV where
  j : Jn
  pv : Value
  pF : List Nat
def jvEnc (x : JV) : List Value := [.int .i64 x.j.id, .int .i64 x.j.ent, .int .i64 x.j.per, .string x.j.ref, x.pv, .bool x.j.void]
theorem jvEnc_len (x : JV) : (jvEnc x).length = 6 := rfl
instance : Inhabited Jn := ⟨⟨0, 0, 0, ⟨#[]⟩, [], false⟩⟩
instance : Inhabited JV := ⟨⟨default, .slice none 0 0, []⟩⟩
def SrtJ (Q : List JV) : Prop := Q.Pairwise fun x y => x.j.id < y.j.id
theorem jv_cells {w : World} {A : Option Addr} {n : Nat} {Q : List JV} (hs : Src w 6 A n (Q.flatMap jvEnc)) {i : Nat} (hi : i < Q.length) : ∃ ad, A = some ad ∧ w.cell? (ad.add (i * 6)) = some (.int .i64 Q[i].j.id) ∧ w.cell? ⟨(ad.add (i * 6)).block, (ad.add (i * 6)).off + 1, none⟩ = some (.int .i64 Q[i].j.ent) ∧ w.cell? ⟨(ad.add (i * 6)).block, (ad.add (i * 6)).off + 2, none⟩ = some (.int .i64 Q[i].j.per) ∧
    w.cell? ⟨(ad.add (i * 6)).block, (ad.add (i * 6)).off + 3, none⟩ = some (.string Q[i].j.ref) ∧ w.cell? ⟨(ad.add (i * 6)).block, (ad.add (i * 6)).off + 4, none⟩ = some Q[i].pv ∧ w.cell? ⟨(ad.add (i * 6)).block, (ad.add (i * 6)).off + 5, none⟩ = some (.bool Q[i].j.void) := by
  have hl : Q.length = n := by have := hs.1; rw [flatMap_len jvEnc_len] at this; omega
  obtain ⟨ad, rfl, hc⟩ := hs.2 (by omega)
  have key : ∀ j u, j < 6 → (jvEnc Q[i])[j]? = some u → w.cell? (ad.add (i * 6 + j)) = some u := fun j u hj hu => by
    apply hc
    rw [flatMap_at jvEnc_len Q i hi j hj, at_eq hi]
    exact hu
  have e : ∀ j, j ≠ 0 → ad.add (i * 6 + j) = ⟨(ad.add (i * 6)).block, (ad.add (i * 6)).off + j, none⟩ := fun j hj => by
    unfold Addr.add
    by_cases hks : i * 6 = 0 <;> simp [hks, hj, Nat.add_assoc]
  exact ⟨ad, rfl, key 0 _ (by omega) rfl, by rw [← e 1 (by omega)]; exact key 1 _ (by omega) rfl, by rw [← e 2 (by omega)]; exact key 2 _ (by omega) rfl, by rw [← e 3 (by omega)]; exact key 3 _ (by omega) rfl, by rw [← e 4 (by omega)]; exact key 4 _ (by omega) rfl, by rw [← e 5 (by omega)]; exact key 5 _ (by omega) rfl⟩
theorem jb_ahead (i e p : Int) (r : ByteArray) (v : Value) (b : Bool) (id : Int) {d : Int} (hd : IntKind.i64.wrap (i - id) = d) (w : World) : Calls Try.prog 45 #[.agg #[.int .i64 i, .int .i64 e, .int .i64 p, .string r, v, .bool b], .int .i64 id] w fun e w' => e = .returned (.int .i64 d) ∧ Chg [] w w' := by
  go_enter Try.func45, Try.ntmps45
  go_wp2_with fail
  go_ret
  exact ⟨rfl, (Chg.refl _ _).alloc _⟩
set_option maxRecDepth 100000 in
set_option maxHeartbeats 4000000 in
theorem jb_bsf {w : World} {A : Option Addr} {n c : Nat} {Q : List JV} (hs : Src w 6 A n (Q.flatMap jvEnc)) (hn : n ≤ 1000) (hQ : SrtJ Q) (hid : ∀ q ∈ Q, 1 ≤ q.j.id ∧ q.j.id ≤ 999999) {id : Int} (h1 : 1 ≤ id) (h2 : id ≤ 999999) :
    Calls Try.prog 44 #[.slice A n c, .int .i64 id, .func (.func 45) #[] #[]] w fun e w' => ∃ i : Nat, i ≤ n ∧ e = .returned (.tuple #[.int .i64 i, .bool (Q.any fun q => q.j.id == id)]) ∧ (∀ k, (hk : k < Q.length) → k < i → Q[k].j.id < id) ∧ (∀ k, (hk : k < Q.length) → i ≤ k → id ≤ Q[k].j.id) ∧ Chg [] w w' := by
  have hl : Q.length = n := by have := hs.1; rw [flatMap_len jvEnc_len] at this; omega
  replace hl := Lib.hid hl
  replace hQ := Lib.hid hQ
  replace hid := Lib.hid hid
  go_enter Try.func44, Try.ntmps44
  go_wp2_with fail
  go_loopw [9, 10] (fun iv jv wr => ∃ i j : Nat, i ≤ j ∧ j ≤ n ∧ iv = .int .i64 i ∧ jv = .int .i64 j ∧ (∀ k, (hk : k < Q.length) → k < i → Q[k].j.id < id) ∧ (∀ k, (hk : k < Q.length) → j ≤ k → id ≤ Q[k].j.id) ∧ Chg [] w wr) (fun iv jv _ => (intOf jv).toNat - (intOf iv).toNat)
  case atStart => exact ⟨0, n, by omega, by omega, rfl, rfl, fun k _ h => by omega, fun k hk h => by rw [hl.out] at hk; omega, Chg.refl _ _⟩
  case round =>
    obtain ⟨i, j, hij, hjn, rfl, rfl, hlo, hhi, hz⟩ := hrel
    by_cases hlt : i < j
    · obtain ⟨h, hh⟩ : ∃ h, (i + j) / 2 = h := ⟨_, rfl⟩
      have hh1 : i ≤ h := by omega
      have hh2 : h < j := by omega
      have hhl : h < Q.length := by rw [hl.out]; omega
      have q1 : IntKind.i64.wrap ((i : Int) + j) = (i : Int) + j := by rw [IntKind.wrap_i64]; omega
      have q2 : IntKind.u64.wrap ((i : Int) + j) = (i : Int) + j := by rw [IntKind.wrap_u64]; omega
      have q4 : IntKind.i64.wrap (h : Int) = h := by rw [IntKind.wrap_i64]; omega
      obtain ⟨ad, rfl, c0, c1, c2, c3, c4, c5⟩ := jv_cells (hs.chg hz (by simp)) hhl
      have hb := hid.out _ (List.getElem_mem hhl)
      have hah := fun W => jb_ahead Q[h].j.id Q[h].j.ent Q[h].j.per Q[h].j.ref Q[h].pv Q[h].j.void id (d := Q[h].j.id - id) (by rw [IntKind.wrap_i64]; omega) W
      have hsr := fun a b (ha : a < Q.length) (hb' : b < Q.length) (hab : a < b) => List.pairwise_iff_getElem.1 hQ.out a b ha hb' hab
      by_cases hcmp : Q[h].j.id < id
      · have b1 : decide (Q[h].j.id - id < 0) = true := by simp; omega
        have hlo2 : ∀ k, (hk : k < Q.length) → k < h + 1 → Q[k].j.id < id := fun k hk hk2 => by
          by_cases e : k = h
          · subst e; exact hcmp
          · have := hsr k h hk hhl (by omega)
            omega
        replace hlo2 := Lib.hid hlo2
        replace hhi := Lib.hid hhi
        clear hlo hsr hb hcmp
        generalize Q[h] = x at *
        go_wp2_with fail
        refine (hah _).mono ?_
        rintro e w2 ⟨rfl, hz2⟩
        clear hah
        go_wp2_with fail
        exact ⟨⟨h + 1, j, by omega, hjn, by rw [Value.int.injEq]; exact ⟨rfl, by omega⟩, rfl, hlo2.out, hhi.out, hz.trans' hz2⟩, by simp [intOf]; omega⟩
      · have b1 : decide (Q[h].j.id - id < 0) = false := by simp; omega
        have hhi2 : ∀ k, (hk : k < Q.length) → h ≤ k → id ≤ Q[k].j.id := fun k hk hk2 => by
          by_cases e : k = h
          · subst e; omega
          · have := hsr h k hhl hk (by omega)
            omega
        replace hhi2 := Lib.hid hhi2
        replace hlo := Lib.hid hlo
        clear hhi hsr hb hcmp
        generalize Q[h] = x at *
        go_wp2_with fail
        refine (hah _).mono ?_
        rintro e w2 ⟨rfl, hz2⟩
        clear hah
        go_wp2_with fail
        exact ⟨⟨i, h, by omega, by omega, rfl, by rw [Value.int.injEq]; exact ⟨rfl, by omega⟩, hlo.out, hhi2.out, hz.trans' hz2⟩, by simp [intOf]; omega⟩
    · obtain rfl : i = j := by omega
      have hany : (Q.any fun q => q.j.id == id) = if h : i < Q.length then (Q[i].j.id == id) else false := by
        have hsr := fun a b (ha : a < Q.length) (hb' : b < Q.length) (hab : a < b) => List.pairwise_iff_getElem.1 hQ.out a b ha hb' hab
        rw [Bool.eq_iff_iff, List.any_eq_true]
        constructor
        · rintro ⟨q, hq, he⟩
          obtain ⟨k, hk, rfl⟩ := List.getElem_of_mem hq
          simp only [beq_iff_eq] at he
          have h1 : i ≤ k := by
            rcases Nat.lt_or_ge k i with h | h
            · have := hlo k hk h; omega
            · exact h
          have h2 : k = i := by
            by_cases e : k = i
            · exact e
            · have h3 := hsr i k (by omega) hk (by omega)
              have h4 := hhi i (by omega) (Nat.le_refl _)
              omega
          subst h2
          rw [dif_pos hk]
          simpa using he
        · intro h
          split at h
          · rename_i hk
            exact ⟨Q[i], List.getElem_mem hk, h⟩
          · cases h
      by_cases hin : i < n
      · have hil : i < Q.length := by rw [hl.out]; exact hin
        rw [dif_pos hil] at hany
        have hb := hid.out _ (List.getElem_mem hil)
        obtain ⟨ad, rfl, c0, c1, c2, c3, c4, c5⟩ := jv_cells (hs.chg hz (by simp)) hil
        have hah := fun W => jb_ahead Q[i].j.id Q[i].j.ent Q[i].j.per Q[i].j.ref Q[i].pv Q[i].j.void id (d := Q[i].j.id - id) (by rw [IntKind.wrap_i64]; omega) W
        have he : Hid ((Q[i].j.id - id == 0) = (Q.any fun q => q.j.id == id)) := Lib.hid (by rw [hany, Bool.eq_iff_iff]; simp; omega)
        replace hlo := Lib.hid hlo
        replace hhi := Lib.hid hhi
        clear hany hb
        generalize Q[i] = x at *
        go_wp2_with fail
        refine (hah _).mono ?_
        rintro e w2 ⟨rfl, hz2⟩
        clear hah
        go_wp2_with fail
        go_ret2
        exact ⟨i, by omega, by rw [← he.out]; rfl, hlo.out, hhi.out, hz.trans' hz2⟩
      · rw [dif_neg (by rw [hl.out]; exact hin)] at hany
        replace hlo := Lib.hid hlo
        replace hhi := Lib.hid hhi
        replace hany := Lib.hid hany
        go_wp2_with fail
        go_ret2
        exact ⟨i, by omega, by rw [hany.out]; rfl, hlo.out, hhi.out, hz⟩
end Go.Proofs.Ytlgfmphjgijilaa
