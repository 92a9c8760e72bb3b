/- RolesAdmin, walked: the loop. -/
import Derived.Test.YtoimgacmbbkikaaRoJ
namespace Go.Proofs.Ytoimgacmbbkikaa
open Go.RowKit Go.Vx Go.Maps
set_option linter.unusedVariables false
set_option linter.unusedSimpArgs false

theorem may8 {w : World} {p : Nat} {L : RL} {F : List Nat} (h : RAt w p L F) {k : List UInt8} (hk : k.length ≤ 60) :
    Calls Try.prog 8 #[.pointer (some ⟨p, 0, none⟩), .string ⟨k.toArray⟩, .int .i64 8] w fun e w' => e = .returned (.int .i64 (if hasB (getR L k) 8 then 0 else 10)) ∧ w = w' := by
  have hm := ro_may h ⟨k.toArray⟩ (by unfold maxLen; show (k.toArray).size ≤ _; simp; omega) 8
  have e : mayC L (⟨k.toArray⟩ : ByteArray).data.toList 8 = if hasB (getR L k) 8 then 0 else 10 := by
    unfold mayC
    rw [al6]
    simp
  rw [e] at hm
  exact hm
set_option maxRecDepth 8000 in
set_option maxHeartbeats 8000000 in
theorem admin_in {w : World} {A : Option Addr} {n c : Nat} {l : List OpR} (hs : Src w 3 A n (l.flatMap opRCells)) (hl : l.length = n) (hn : n ≤ 60) {first : ByteArray} (hu : userB first = true) :
    Calls Try.prog 4 #[.slice A n c, .string first] w fun e w' => e = .returned (.bool true) ∧ Chg [] w w' := by
  have hs12 : first.size ≤ 12 := by
    unfold userB at hu
    simp at hu
    omega
  have hsm : first.size ≤ maxLen := by unfold maxLen; omega
  have hur := r17_user first hsm
  rw [hu] at hur
  have b1 : decide (60 < (n : Int)) = false := by simp; omega
  have h80 : orI (getR [] first.data.toList) 8 = 8 := by show orI 0 8 = 8; decide +kernel
  have hga : (userB first && asksB 8) = true := by rw [hu, al6]; rfl
  have hgv := fun (w : World) (p : Nat) (h : RAt w p [] []) => ro_give h (by intro x hx; simp at hx) (by simp) first (by omega) 8 hga (by rw [h80]; decide)
  have hgl : giveL [] first.data.toList 8 = [(first.data.toList, 8)] := by
    unfold giveL
    rw [h80]
    rfl
  have hfl : first.data.toList.length ≤ 60 := by rw [size_list]; omega
  rw [hgl] at hgv
  clear h80 hgl hga hsm
  replace hl := Lib.hid hl
  replace hu := Lib.hid hu
  go_enter Try.func4, Try.ntmps4
  go_wp2_with (first | (go_at_call 5; refine (hur _).mono ?_; rintro e w' ⟨rfl, rfl⟩) | (go_at_call 6; refine (l22_alive _).mono ?_; rintro e w0 ⟨rfl, hc0⟩))
  refine (hgv _ _ (RAt.new w0)).mono ?_
  rintro e w1 ⟨rfl, F1, h1, hF1, hc1⟩
  have hz1 : Chg [] w w1 := (hc0.alloc _).trans hc1 (fun g hg => by simp at hg; subst hg; exact .inr hc0.size)
  have h8 : hasB 8 8 = true := by decide +kernel
  have hR : RA w w1 w0.heap.size 1 [(first.data.toList, 8)] F1 :=
    ⟨h1, fun g hg => (by
      have := hc0.size
      rcases List.mem_cons.1 hg with rfl | hg
      · exact this
      · rcases hF1 g hg with h | h
        · simp at h
        · simp at h; omega), by intro x hx; simp at hx; subst hx; exact ⟨by show (0 : Int) ≤ 8; decide, by show (8 : Int) ≤ 15; decide⟩, by unfold adm; simp [h8], by simp, hz1, by intro x hx; simp at hx; subst hx; exact hfl⟩
  clear hgv h1 hF1 hc1 hz1 hur h8 hfl
  generalize [(first.data.toList, (8 : Int))] = L0 at *
  dsimp only
  go_wp2_with fail
  go_loopw [6] (fun iv wr => ∃ (i : Nat) (L : RL) (F : List Nat), i ≤ n ∧ iv = .int .i64 i ∧ RA w wr w0.heap.size (i + 1) L F) (fun iv _ => n - (intOf iv).toNat)
  case atStart => exact ⟨0, L0, F1, by omega, rfl, hR⟩
  case round =>
    clear hR
    obtain ⟨i, L, F, hi, rfl, hR⟩ := hrel
    by_cases hil : i < n
    · obtain ⟨ad, rfl, d0, hcel⟩ := srcElem (hs.chg hR.chg (by simp)) (fun _ => rfl) (by omega) (k := i) (by rw [hl.out]; exact hil) hl.out
      have d1 := hcel 1 (by omega) (by omega)
      have d2 := hcel 2 (by omega) (by omega)
      simp only [opRCells, List.getElem?_cons_succ, List.getElem?_cons_zero] at d0 d1 d2
      clear hcel
      generalize l[i]'(by rw [hl.out]; exact hil) = o at d0 d1 d2
      obtain ⟨okd, owh, ous⟩ := o
      dsimp only at d0 d1 d2
      by_cases h60 : ous.size ≤ 60
      · have b2 : decide (60 < (ous.size : Int)) = false := by simp; omega
        have hRd := hR.quiet (Chg.refl [] wr).drew
        have hgv := ra_give hRd (by omega) ous h60 owh
        have htk := ra_take hRd (by omega) ous h60 owh
        clear hRd
        go_upto_if 47 with fail
        go_cut [6] (fun z wx => z = .int .i64 i ∧ ∃ (L : RL) (F : List Nat), RA w wx w0.heap.size (i + 1 + 1) L F)
        case first =>
          by_cases hk : okd = 1
          · have hkb : (okd == 1) = true := by simpa using hk
            clear hk htk hR
            go_wp2_with fail
            go_still_tail 11, (by kernel_rfl)
            change wpList _ _ _ _ _ wr.drew
            go_wp2_with fail
            refine hgv.mono ?_
            rintro e w2 ⟨c2, L2, F2, rfl, hR2⟩
            dsimp only
            go_wp2_with fail
            go_meet
            exact ⟨rfl, L2, F2, hR2⟩
          · have hkb : (okd == 1) = false := by simpa using hk
            clear hk hgv hR
            go_wp2_with fail
            go_still_tail 11, (by kernel_rfl)
            change wpList _ _ _ _ _ wr.drew
            go_wp2_with fail
            refine htk.mono ?_
            rintro e w2 ⟨c2, L2, F2, rfl, hR2⟩
            dsimp only
            go_wp2_with fail
            go_meet
            exact ⟨rfl, L2, F2, hR2⟩
        case rest =>
          obtain ⟨rfl, L2, F2, hR2⟩ := hcut
          have hall := ra_all hR2 (by omega)
          clear hgv htk hR hR2 d0 d1 d2
          go_wp2_with fail
          refine hall.mono ?_
          rintro e w3 ⟨v3, ks, G, rfl, hN, hkl, ⟨k0, hk0, hh0⟩, hsh, hG, hR3⟩
          obtain ⟨q0, hq0, hqk⟩ := List.getElem_of_mem hk0
          have hgood : hasB (getR L2 ks[q0]) 8 = true := by rw [hqk]; exact hh0
          obtain ⟨A3, c3, rfl, -⟩ := id (show Fix w3 9 1 v3 ks.length _ G from hN)
          have hln : ks.length ≤ 1000 := by omega
          replace hgood := Lib.hid hgood
          clear hall hk0 hh0 hqk
          dsimp only
          go_wp2_with fail
          go_loopw [7, 9] (fun nv kv wr' => ∃ (q m : Nat), q ≤ ks.length ∧ kv = .int .i64 q ∧ nv = .int .i64 m ∧ m ≤ q ∧ (q0 < q → 1 ≤ m) ∧ w3 = wr') (fun _ kv _ => ks.length - (intOf kv).toNat)
          case atStart => exact ⟨0, 0, by omega, rfl, rfl, by omega, by omega, rfl⟩
          case round =>
            obtain ⟨q, m, hq, rfl, rfl, hmq, hm0, rfl⟩ := hrel
            by_cases hql : q < ks.length
            · obtain ⟨g, c', e', -, x0⟩ := names_at hN hql
              injection e' with e' ec e''
              clear ec
              subst e' e''
              have hmy := may8 hR3.at_ (hsh _ (List.getElem_mem hql))
              have hone : q = q0 → hasB (getR L2 ks[q]) 8 = true := fun h => by subst h; exact hgood.out
              clear hN hsh
              generalize ks[q] = kk at *
              cases hb : hasB (getR L2 kk) 8 with
              | true =>
                rw [hb] at hmy
                replace hb := Lib.hid hb
                clear hone
                simp only [if_true] at hmy
                go_wp2_with (go_at_call 8; refine hmy.mono ?_; rintro e w' ⟨rfl, rfl⟩)
                go_roundw
                case measure => simp [intOf]; omega
                case rel => exact ⟨q + 1, m + 1, by omega, by go_num, by go_num, by omega, fun _ => by omega, by trivial⟩
              | false =>
                rw [hb] at hmy
                have hne : q ≠ q0 := fun h => by rw [hone h] at hb; cases hb
                replace hb := Lib.hid hb
                replace hne := Lib.hid hne
                clear hone
                simp only [Bool.false_eq_true, if_false] at hmy
                go_wp2_with (go_at_call 8; refine hmy.mono ?_; rintro e w' ⟨rfl, rfl⟩)
                go_roundw
                case measure => simp [intOf]; omega
                case rel => exact ⟨q + 1, m, by omega, by go_num, rfl, by omega, fun h => hm0 (by have := hne.out; omega), by trivial⟩
            · obtain rfl : q = ks.length := by omega
              have hm1 := hm0 hq0
              have hb : decide ((m : Int) < 1) = false := by simp; omega
              clear hm0 hN hsh
              go_wp2_with fail
              go_roundw
              case measure => simp [intOf]; omega
              case rel => exact ⟨i + 1, L2, F2, by omega, by go_num, hR3⟩
      · have b2 : decide (60 < (ous.size : Int)) = true := by simp; omega
        go_wp2_with fail
        go_ret
        exact ⟨by trivial, hR.chg⟩
    · obtain rfl : i = n := by omega
      go_wp2_with fail
      go_ret
      exact ⟨by trivial, hR.chg⟩
set_option maxHeartbeats 1000000 in
theorem rolesAdmin_walk (w : World) (A : Option Addr) (n c : Nat) (l : List OpR) (x : l.length = n ∧ n ≤ c ∧ c ≤ maxLen ∧ Src w 3 A n (l.flatMap opRCells) ∧ ∀ x ∈ l, OpROk w x) (y : n * 32 ≤ 140737488351232) (first : ByteArray) (w1 : first.size ≤ 140737488351232) :
    Calls Try.prog 4 #[.slice A n c, .string first] w fun e w' => e = .returned (.bool true) ∧ Chg [] w w' := by
  obtain ⟨h1, h2, h3, h4, h5⟩ := x
  have hsm : first.size ≤ maxLen := by unfold maxLen; omega
  have hur := r17_user first hsm
  by_cases h : n ≤ 60
  · cases hu : userB first with
    | true => exact admin_in h4 h1 h hu
    | false =>
      rw [hu] at hur
      have hb : decide (60 < (n : Int)) = false := by simp; omega
      clear h
      replace hu := Lib.hid hu
      go_enter Try.func4, Try.ntmps4
      go_wp2_with (first | (go_at_call 5; refine (hur _).mono ?_; rintro e w' ⟨rfl, rfl⟩) | (go_at_call 6; refine (l22_alive _).mono ?_; rintro e w0 ⟨rfl, hc0⟩))
      go_ret
      exact ⟨by trivial, hc0⟩
  · have hb : decide (60 < (n : Int)) = true := by simp; omega
    clear h
    go_enter Try.func4, Try.ntmps4
    go_wp2_with (first | (go_at_call 5; refine (hur _).mono ?_; rintro e w' ⟨rfl, rfl⟩) | (go_at_call 6; refine (l22_alive _).mono ?_; rintro e w0 ⟨rfl, hc0⟩))
    go_ret
    exact ⟨by trivial, hc0⟩
end Go.Proofs.Ytoimgacmbbkikaa
