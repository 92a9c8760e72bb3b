/- RolesParts, walked. -/
import Derived.Test.YtoimgacmbbkikaaRoG
namespace Go.Proofs.Ytoimgacmbbkikaa
open Go.RowKit Go.Vx Go.Maps
set_option linter.unusedVariables false
set_option linter.unusedSimpArgs false

theorem get_ins {x : List UInt8 × Int} {k : List UInt8} : ∀ {L : RL}, (∀ y ∈ L, y.1 ≠ x.1) → getR (insR x L) k = if x.1 = k then x.2 else getR L k
  | [], _ => by
    unfold getR insR
    by_cases h : x.1 = k <;> simp [h]
  | y :: r, h => by
    rw [insR]
    split
    · unfold getR
      by_cases h : x.1 = k <;> simp [h]
    · have ih := get_ins (k := k) fun z hz => h z (List.mem_cons_of_mem _ hz)
      have hy := h y (by simp)
      unfold getR at ih ⊢
      rw [List.find?_cons, List.find?_cons]
      by_cases hk : y.1 = k
      · have : x.1 ≠ k := fun e => hy (by rw [hk, e])
        simp [hk, this]
      · simp only [show (y.1 == k) = false by simpa using hk]
        exact ih
theorem get_del_other {L : RL} {k k' : List UInt8} (h : k' ≠ k) : getR (delR L k) k' = getR L k' := by
  unfold getR delR
  rw [List.find?_filter]
  have : (fun a : List UInt8 × Int => decide ((!(a.1 == k)) = true ∧ (a.1 == k') = true)) = fun a => a.1 == k' := by
    funext a
    by_cases h1 : a.1 = k'
    · simp [h1, h]
    · simp [h1]
  rw [this]
theorem get_del_same (L : RL) (k : List UInt8) : getR (delR L k) k = 0 := by
  unfold getR delR
  rw [List.find?_filter]
  have : (fun a : List UInt8 × Int => decide ((!(a.1 == k)) = true ∧ (a.1 == k) = true)) = fun _ => false := by
    funext a
    by_cases h1 : a.1 = k <;> simp [h1]
  rw [this, List.find?_eq_none.2 (by simp)]
theorem get_put_same (L : RL) (k : List UInt8) (v : Int) : getR (putR L k v) k = v := by
  unfold putR
  rw [get_ins]
  · simp
  · intro y hy
    have := (List.mem_filter.1 hy).2
    simpa using this
theorem get_put_other (L : RL) {k k' : List UInt8} (v : Int) (h : k' ≠ k) : getR (putR L k v) k' = getR L k' := by
  unfold putR
  rw [get_ins, if_neg (by simpa using fun e => h e.symm), get_del_other h]
  intro y hy
  have := (List.mem_filter.1 hy).2
  simpa using this
theorem get_take_same (L : RL) (k : List UInt8) (a : Int) : getR (takeL L k a) k = lessI (getR L k) a := by
  unfold takeL
  rw [get_put_same]
  by_cases h : lessI (getR L k) a = 0
  · simp [h, get_del_same]
  · rw [if_neg (by simpa using h), get_put_same]
def FinP (w K : Nat) : Prop := (0 < bits BinOp.and IntKind.i64 (w : Int) (K : Int) → orI ((w % K : Nat) : Int) (K : Int) = ((w % (2 * K) : Nat) : Int)) ∧ (¬ 0 < bits BinOp.and IntKind.i64 (w : Int) (K : Int) → w % K = w % (2 * K)) ∧ hasB (w : Int) (K : Int) = decide (0 < bits BinOp.and IntKind.i64 (w : Int) (K : Int))
instance (w K : Nat) : Decidable (FinP w K) := by unfold FinP; infer_instance
theorem fin1 {K : Nat} (hK : K = 1 ∨ K = 2 ∨ K = 4 ∨ K = 8) {w : Nat} (hw : w < 16) : FinP w K := by
  rcases hK with rfl | rfl | rfl | rfl
  · exact (show ∀ w : Fin 16, FinP w.val 1 by decide +kernel) ⟨w, hw⟩
  · exact (show ∀ w : Fin 16, FinP w.val 2 by decide +kernel) ⟨w, hw⟩
  · exact (show ∀ w : Fin 16, FinP w.val 4 by decide +kernel) ⟨w, hw⟩
  · exact (show ∀ w : Fin 16, FinP w.val 8 by decide +kernel) ⟨w, hw⟩
theorem fin2 : ∀ (w v : Fin 16), (meetsB (w.val : Int) (v.val : Int) = decide (0 < bits BinOp.and IntKind.i64 (w.val : Int) (v.val : Int))) ∧ (0 ≤ lessI (w.val : Int) (v.val : Int)) ∧ lessI (w.val : Int) (v.val : Int) ≤ 15 ∧ orI 0 (w.val : Int) = w.val := by decide +kernel
theorem adm_two {k : List UInt8} (hk : k ≠ zzz) {v : Int} (h : hasB v 8 = true) : adm (putR [(zzz, 8)] k v) = 2 := by
  have h8 : hasB 8 8 = true := by decide +kernel
  have hd : delR [(zzz, 8)] k = [(zzz, 8)] := by
    unfold delR
    simp [Ne.symm hk]
  unfold putR adm
  rw [hd, insR]
  split <;> simp [insR, h, h8]
theorem wf16 {v : Int} (h0 : 0 ≤ v) (h1 : v ≤ 15) : (Lit.int .i64 v).wf = true := WalkArith.wf_i64 (by omega)
theorem asks16 {v : Int} (h0 : 1 ≤ v) (h1 : v ≤ 15) : asksB v = true := by unfold asksB; simp [h0, h1]
/-- Two agendas of roles side by side. -/
structure Two (w wr : World) (pa pb : Nat) (LA LB : RL) (FA FB : List Nat) : Prop where
  a : RAt wr pa LA FA
  b : RAt wr pb LB FB
  dis : ∀ g, g ∈ pa :: FA → g ∉ pb :: FB
  fa : ∀ g, g ∈ pa :: FA → w.heap.size ≤ g
  fb : ∀ g, g ∈ pb :: FB → w.heap.size ≤ g
  chg : Chg [] w wr
theorem Two.quiet {w wr w' : World} {pa pb : Nat} {LA LB : RL} {FA FB : List Nat} (h : Two w wr pa pb LA LB FA FB) (k : Chg [] wr w') : Two w w' pa pb LA LB FA FB :=
  ⟨h.a.chg k (by simp), h.b.chg k (by simp), h.dis, h.fa, h.fb, h.chg.trans' k⟩
theorem Two.stepA {w wr w' : World} {pa pb : Nat} {LA LB LA' : RL} {FA FB FA' : List Nat} (h : Two w wr pa pb LA LB FA FB) (k : Chg (pa :: FA) wr w') (ha : RAt w' pa LA' FA') (hF : ∀ g, g ∈ FA' → g ∈ FA ∨ wr.heap.size ≤ g) : Two w w' pa pb LA' LB FA' FB := by
  refine ⟨ha, h.b.chg k (fun g hg hg' => h.dis g hg' hg), fun g hg hg' => ?_, fun g hg => ?_, h.fb, h.chg.trans k fun g hg => .inr (h.fa g hg)⟩
  · rcases List.mem_cons.1 hg with rfl | hg
    · exact h.dis _ (by simp) hg'
    · rcases hF g hg with h1 | h1
      · exact h.dis g (by simp [h1]) hg'
      · have := h.b.lt g hg'; omega
  · rcases List.mem_cons.1 hg with rfl | hg
    · exact h.fa _ (by simp)
    · rcases hF g hg with h1 | h1
      · exact h.fa g (by simp [h1])
      · have := h.chg.size; omega
theorem Two.flip {w wr : World} {pa pb : Nat} {LA LB : RL} {FA FB : List Nat} (h : Two w wr pa pb LA LB FA FB) : Two w wr pb pa LB LA FB FA := ⟨h.b, h.a, fun g h1 h2 => h.dis g h2 h1, h.fb, h.fa, h.chg⟩
theorem Two.stepB {w wr w' : World} {pa pb : Nat} {LA LB LB' : RL} {FA FB FB' : List Nat} (h : Two w wr pa pb LA LB FA FB) (k : Chg (pb :: FB) wr w') (hb : RAt w' pb LB' FB') (hF : ∀ g, g ∈ FB' → g ∈ FB ∨ wr.heap.size ≤ g) : Two w w' pa pb LA LB' FA FB' :=
  (h.flip.stepA k hb hF).flip
theorem bytes_zzz {s : ByteArray} (h : (s.toList == [122, 122, 122]) = true) : s.data.toList = zzz := by
  have h1 : s.toList = [122, 122, 122] := by simpa using h
  rw [ByteArray.toList_eq] at h1
  exact h1
theorem get_zzz {k : List UInt8} (h : k ≠ zzz) : getR [(zzz, 8)] k = 0 := by
  unfold getR
  simp [Ne.symm h]
set_option maxHeartbeats 16000000 in
theorem parts_in {w : World} {s : ByteArray} (hu : userB s = true) {what less : Nat} (w1 : 1 ≤ what) (w2 : what ≤ 15) (l1 : 1 ≤ less) (l2 : less ≤ 15) (hz : s.data.toList ≠ zzz) :
    Calls Try.prog 3 #[.string s, .int .i64 what, .int .i64 less] w fun e w' => e = .returned (.bool true) ∧ Chg [] w w' := by
  have hs12 : s.size ≤ 12 := by
    unfold userB at hu
    simp at hu
    omega
  have hs6 : s.size ≤ 1000000 := by omega
  have hsm : s.size ≤ maxLen := by unfold maxLen; omega
  have hur := r17_user s hsm
  rw [hu] at hur
  have hsz : (s.toList == [122, 122, 122]) = false := by
    cases h : (s.toList == [122, 122, 122]) with
    | false => rfl
    | true => exact absurd (bytes_zzz h) hz
  have g1 : giveL [] zzz 8 = [(zzz, 8)] := by decide +kernel
  have z1 : userB ⟨#[122, 122, 122]⟩ = true := by decide +kernel
  have z2 : (Lit.int .i64 (orI (getR [] zzz) 8)).wf = true := by decide +kernel
  have gz : giveL [] (⟨#[122, 122, 122]⟩ : ByteArray).data.toList 8 = [(zzz, 8)] := g1
  have hgv := fun (w : World) (p : Nat) (h : RAt w p [] []) => ro_give h (by intro x hx; simp at hx) (by simp) ⟨#[122, 122, 122]⟩ (by decide) 8 (by rw [z1, al6]; rfl) z2
  rw [gz] at hgv
  clear g1 z1 z2 gz
  have b1 : decide ((what : Int) < 1) = false := by simp; omega
  have b2 : decide (15 < (what : Int)) = false := by simp; omega
  have b3 : decide ((less : Int) < 1) = false := by simp; omega
  have b4 : decide (15 < (less : Int)) = false := by simp; omega
  go_enter Try.func3, Try.ntmps3
  go_wp2_with (first | (go_at_call 5; refine (hur _).mono ?_; rintro e w' ⟨rfl, rfl⟩) | (go_at_call 6; refine (l22_alive _).mono ?_; rintro e w0 ⟨rfl, hc0⟩))
  have hs0 := hc0.size
  have hza : Chg [] w ((w0.alloc (.cells #[.map none] 27)).alloc (.cells #[.map none] 27)) := (hc0.alloc _).alloc _
  have hra := (RAt.new w0).chg ((Chg.refl [] _).alloc (.cells #[.map none] 27)) (by simp)
  have hrb := RAt.new (w0.alloc (.cells #[.map none] 27))
  have hsz1 : (w0.alloc (.cells #[.map none] 27)).heap.size = w0.heap.size + 1 := by simp
  rw [hsz1] at hrb
  have hT : Two w ((w0.alloc (.cells #[.map none] 27)).alloc (.cells #[.map none] 27)) w0.heap.size (w0.heap.size + 1) [] [] [] [] :=
    ⟨hra, hrb, by simp, by simp; omega, by simp; omega, hza⟩
  obtain ⟨pb, hpb⟩ : ∃ pb, pb = w0.heap.size + 1 := ⟨_, rfl⟩
  obtain ⟨pa, hpa⟩ : ∃ pa, pa = w0.heap.size := ⟨_, rfl⟩
  rw [← hpb, ← hpa] at hT
  obtain ⟨wi, hwi⟩ : ∃ wi, wi = (w0.alloc (.cells #[.map none] 27)).alloc (.cells #[.map none] 27) := ⟨_, rfl⟩
  rw [← hwi] at hT ⊢
  rw [← hpb, ← hpa]
  clear hc0 hwi hs0 hsz1 hpa hpb hra hrb hza hur b1 b2 b3 b4 hs12
  refine (hgv _ _ hT.a).mono ?_
  rintro e w1' ⟨rfl, Fa, ha1, hFa, hc1⟩
  have hT1 := hT.stepA hc1 ha1 hFa
  clear hT ha1 hFa hc1
  dsimp only
  go_wp2_with fail
  refine (hgv _ _ hT1.b).mono ?_
  rintro e w2' ⟨rfl, Fb, hb1, hFb, hc1⟩
  have hT2 := hT1.stepB hc1 hb1 hFb
  clear hT1 hb1 hFb hc1 hgv
  obtain ⟨-, f1, f2, f3⟩ := fin2 ⟨what, by omega⟩ ⟨less, by omega⟩
  have hF0 : Fine [(zzz, 8)] := by intro x hx; simp at hx; subst hx; decide
  have hor : orI (getR [(zzz, 8)] s.data.toList) (what : Int) = what := by rw [get_zzz hz]; exact f3
  have hg := ro_give hT2.a hF0 (by simp) s hs6 what (by rw [hu, asks16 (by omega) (by omega)]; rfl) (by rw [hor]; exact wf16 (by omega) (by omega))
  have hgl : giveL [(zzz, 8)] s.data.toList (what : Int) = putR [(zzz, 8)] s.data.toList what := by unfold giveL; rw [hor]
  rw [hgl] at hg
  clear hgl hor f1 f2 f3
  dsimp only
  go_wp2_with fail
  refine hg.mono ?_
  rintro e w3 ⟨rfl, Fa3, ha3, hFa3, hc3⟩
  have hT3 := hT2.stepA hc3 ha3 hFa3
  have hLA : getR (putR [(zzz, 8)] s.data.toList (what : Int)) s.data.toList = what := get_put_same _ _ _
  have hadm : hasB (what : Int) 8 = true → adm (putR [(zzz, 8)] s.data.toList (what : Int)) = 2 := fun h => adm_two hz h
  have hLAl : (putR [(zzz, 8)] s.data.toList (what : Int)).length ≤ 2 := put_len _ _ _
  generalize putR [(zzz, 8)] s.data.toList (what : Int) = LA at *
  have hg0 : getR [(zzz, 8)] s.data.toList = ((what % 1 : Nat) : Int) := by rw [get_zzz hz, Nat.mod_one]; rfl
  replace hLA := Lib.hid hLA
  replace hg0 := Lib.hid hg0
  replace hadm := Lib.hid hadm
  replace hF0 := Lib.hid hF0
  clear ha3 hFa3 hc3 hT2 hg
  dsimp only
  go_wp2_with fail
  go_loopw [9] (fun kv wr => ∃ (K : Nat) (LB : RL) (FB : List Nat), (K = 1 ∨ K = 2 ∨ K = 4 ∨ K = 8 ∨ K = 16) ∧ kv = .int .i64 K ∧ Two w wr pa pb LA LB Fa3 FB ∧ Fine LB ∧ LB.length ≤ K ∧ Hid (getR LB s.data.toList = ((what % K : Nat) : Int))) (fun kv _ => 17 - (intOf kv).toNat)
  case atStart => exact ⟨1, [(zzz, 8)], Fb, .inl rfl, rfl, hT3, hF0.out, by simp, hg0⟩
  case round =>
    clear hT3
    obtain ⟨K, LB, FB, hK, rfl, hT, hF, hl, hgb⟩ := hrel
    have hKb : 1 ≤ K ∧ K ≤ 16 := by omega
    obtain ⟨hKb1, hKb2⟩ := hKb
    by_cases h16 : K = 16
    · subst h16
      clear hK
      have hgb2 : getR LB s.data.toList = what := by rw [hgb.out, Nat.mod_eq_of_lt (by omega)]
      obtain ⟨m1, m2, m3, -⟩ := fin2 ⟨what, by omega⟩ ⟨less, by omega⟩
      dsimp only at m1 m2 m3
      replace hgb2 := Lib.hid hgb2
      have hasu : (userB s && asksB (less : Int)) = true := by rw [hu, asks16 (by omega) (by omega)]; rfl
      by_cases hp : 0 < bits BinOp.and IntKind.i64 (what : Int) (less : Int)
      · have hd : decide (0 < bits BinOp.and IntKind.i64 (what : Int) (less : Int)) = true := by simpa using hp
        rw [hd] at m1
        have htc : takeC LA s.data.toList (less : Int) = 0 := by
          unfold takeC
          rw [hLA.out, m1]
          cases h8 : hasB (what : Int) 8 with
          | false => simp
          | true => rw [hadm.out h8]; simp
        have htk := ro_take hT.a (by omega) s hs6 less hasu htc (by rw [hLA.out]; exact wf16 m2 m3)
        have hget : getR (takeL LA s.data.toList (less : Int)) s.data.toList = bits BinOp.andNot IntKind.i64 (what : Int) (less : Int) := by
          rw [get_take_same, hLA.out]
          rfl
        generalize takeL LA s.data.toList (less : Int) = LA2 at *
        replace hget := Lib.hid hget
        replace htc := Lib.hid htc
        clear hp m1 m2 m3
        go_wp2_with fail
        refine htk.mono ?_
        rintro e w5 ⟨rfl, ha5, hc5⟩
        have hT5 := hT.stepA hc5 ha5 (fun g hg => .inl hg)
        have ho1 := ro_of hT5.b s hsm
        have ho2 := ro_of hT5.a s hsm
        rw [hgb2.out] at ho1
        rw [hget.out] at ho2
        clear htk ha5 hc5
        dsimp only
        go_wp2_with fail
        refine ho1.mono ?_
        rintro e w6 ⟨rfl, rfl⟩
        dsimp only
        go_wp2_with fail
        refine ho2.mono ?_
        rintro e w6 ⟨rfl, rfl⟩
        dsimp only
        go_wp2_with fail
        go_ret
        exact ⟨by simp, hT5.chg⟩
      · have hd : decide (0 < bits BinOp.and IntKind.i64 (what : Int) (less : Int)) = false := by simpa using hp
        rw [hd] at m1
        have htc : takeC LA s.data.toList (less : Int) = 9 := by
          unfold takeC
          rw [hLA.out, m1]
          rfl
        have htk := ro_take_no hT.a (by omega) s hs6 less hasu (by rw [htc]; decide)
        rw [htc] at htk
        replace htc := Lib.hid htc
        clear hp m1 m2 m3
        go_wp2_with fail
        refine htk.mono ?_
        rintro e w5 ⟨rfl, hc5⟩
        have hT5 := hT.quiet hc5
        have ho1 := ro_of hT5.b s hsm
        have ho2 := ro_of hT5.a s hsm
        rw [hgb2.out] at ho1
        rw [hLA.out] at ho2
        clear htk hc5
        dsimp only
        go_wp2_with fail
        refine ho1.mono ?_
        rintro e w6 ⟨rfl, rfl⟩
        dsimp only
        go_wp2_with fail
        refine ho2.mono ?_
        rintro e w6 ⟨rfl, rfl⟩
        dsimp only
        go_wp2_with fail
        go_ret
        exact ⟨by simp, hT5.chg⟩
    · have hK4 : K = 1 ∨ K = 2 ∨ K = 4 ∨ K = 8 := by omega
      have hK8 : K ≤ 8 := by omega
      have hK2 : 2 * K = 1 ∨ 2 * K = 2 ∨ 2 * K = 4 ∨ 2 * K = 8 ∨ 2 * K = 16 := by omega
      obtain ⟨f1, f2, f3⟩ := fin1 hK4 (show what < 16 by omega)
      have hKd : decide ((K : Int) ≤ 8) = true := by simp; omega
      replace hK2 := Lib.hid hK2
      clear hK h16 hK4
      have hmay := fun w' (k : Chg [] _ w') => ro_may (hT.quiet k).a s hsm K
      by_cases hp : 0 < bits BinOp.and IntKind.i64 (what : Int) (K : Int)
      · have hd : decide (0 < bits BinOp.and IntKind.i64 (what : Int) (K : Int)) = true := by simpa using hp
        have hmc : mayC LA s.data.toList K = 0 := by
          unfold mayC
          rw [asks16 (by omega) (by omega), hLA.out, f3, hd]
          rfl
        have hg1 := f1 hp
        have hor : orI (getR LB s.data.toList) (K : Int) = ((what % (2 * K) : Nat) : Int) := by rw [hgb.out]; exact hg1
        have hle : what % (2 * K) ≤ 15 := Nat.le_trans (Nat.mod_le _ _) w2
        have hgl : giveL LB s.data.toList (K : Int) = putR LB s.data.toList ((what % (2 * K) : Nat) : Int) := by unfold giveL; rw [hor]
        have hgv := ro_give hT.b hF (by omega) s hs6 K (by rw [hu, asks16 (by omega) (by omega)]; rfl) (by rw [hor]; exact wf16 (by omega) (by omega))
        rw [hgl] at hgv
        have hF2 : Fine (putR LB s.data.toList ((what % (2 * K) : Nat) : Int)) := hF.put _ (by omega) (by omega)
        have hl2 : (putR LB s.data.toList ((what % (2 * K) : Nat) : Int)).length ≤ LB.length + 1 := put_len _ _ _
        have hgb2 : Hid (getR (putR LB s.data.toList ((what % (2 * K) : Nat) : Int)) s.data.toList = ((what % (2 * K) : Nat) : Int)) := Lib.hid (get_put_same _ _ _)
        clear f1 f2 f3 hp hg1 hor hgl hle
        generalize putR LB s.data.toList ((what % (2 * K) : Nat) : Int) = LB2 at *
        rw [hmc] at hmay
        replace hmc := Lib.hid hmc
        go_wp2_with fail
        refine hgv.mono ?_
        rintro e w5 ⟨rfl, FB2, hb5, hFB2, hc5⟩
        have hT5 := hT.stepB hc5 hb5 hFB2
        have hmay5 := ro_may hT5.a s hsm K
        rw [hmc.out] at hmay5
        clear hmay hgv hb5 hFB2 hc5
        dsimp only
        go_wp2_with fail
        refine hmay5.mono ?_
        rintro e w6 ⟨rfl, rfl⟩
        dsimp only
        go_wp2_with fail
        go_roundw
        case measure => simp [intOf]; omega
        case rel => exact ⟨2 * K, LB2, FB2, hK2.out, by go_num, hT5, hF2, by omega, hgb2⟩
      · have hd : decide (0 < bits BinOp.and IntKind.i64 (what : Int) (K : Int)) = false := by simpa using hp
        have hmc : mayC LA s.data.toList K = 10 := by
          unfold mayC
          rw [asks16 (by omega) (by omega), hLA.out, f3, hd]
          rfl
        have hg2 := f2 hp
        have hgb2 : Hid (getR LB s.data.toList = ((what % (2 * K) : Nat) : Int)) := Lib.hid (by rw [hgb.out, hg2])
        clear f1 f2 f3 hp hg2
        have hmay := ro_may hT.a s hsm K
        rw [hmc] at hmay
        replace hmc := Lib.hid hmc
        go_wp2_with fail
        refine hmay.mono ?_
        rintro e w5 ⟨rfl, rfl⟩
        dsimp only
        go_wp2_with fail
        go_roundw
        case measure => simp [intOf]; omega
        case rel => exact ⟨2 * K, LB, FB, hK2.out, by go_num, hT, hF, by omega, hgb2⟩
set_option maxHeartbeats 4000000 in
theorem rolesParts_walk (s : ByteArray) (w0 : s.size ≤ 140737488351232) (what : Int) (w1 : (Lit.int .i64 what).wf = true) (less : Int) (w2 : (Lit.int .i64 less).wf = true) (w : World) :
    Calls Try.prog 3 #[.string s, .int .i64 what, .int .i64 less] w fun e w' => e = .returned (.bool true) ∧ Chg [] w w' := by
  have hsm : s.size ≤ maxLen := by unfold maxLen; omega
  by_cases h : userB s = true ∧ 1 ≤ what ∧ what ≤ 15 ∧ 1 ≤ less ∧ less ≤ 15 ∧ s.data.toList ≠ zzz
  · obtain ⟨h1, h2, h3, h4, h5, h6⟩ := h
    obtain ⟨a, rfl⟩ := Int.eq_ofNat_of_zero_le (show 0 ≤ what by omega)
    obtain ⟨b, rfl⟩ := Int.eq_ofNat_of_zero_le (show 0 ≤ less by omega)
    exact parts_in h1 (by omega) (by omega) (by omega) (by omega) h6
  · have hur := r17_user s hsm
    have hb : (userB s = false) ∨ (userB s = true ∧ decide (what < 1) = true) ∨ (userB s = true ∧ decide (what < 1) = false ∧ decide (15 < what) = true) ∨ (userB s = true ∧ decide (what < 1) = false ∧ decide (15 < what) = false ∧ decide (less < 1) = true) ∨ (userB s = true ∧ decide (what < 1) = false ∧ decide (15 < what) = false ∧ decide (less < 1) = false ∧ decide (15 < less) = true) ∨ (userB s = true ∧ decide (what < 1) = false ∧ decide (15 < what) = false ∧ decide (less < 1) = false ∧ decide (15 < less) = false ∧ s.data.toList = zzz) := by
      simp only [decide_eq_true_eq, decide_eq_false_iff_not]
      cases hu : userB s with
      | false => exact .inl rfl
      | true =>
        rw [hu] at h
        right
        by_cases hz : s.data.toList = zzz
        · simp only [hz, and_true, true_and]
          omega
        · simp only [hz, true_and, and_false, or_false]
          simp only [true_and, ne_eq, hz, not_false_eq_true, and_true] at h
          omega
    clear h
    rcases hb with hu | ⟨hu, b1⟩ | ⟨hu, b1, b2⟩ | ⟨hu, b1, b2, b3⟩ | ⟨hu, b1, b2, b3, b4⟩ | ⟨hu, b1, b2, b3, b4, hz⟩
    all_goals
      rw [hu] at hur
      replace hu := Lib.hid hu
    iterate 5
      go_enter Try.func3, Try.ntmps3
      go_wp2_with (first | (go_at_call 5; refine (hur _).mono ?_; rintro e w' ⟨rfl, rfl⟩) | (go_at_call 6; refine (l22_alive _).mono ?_; rintro e w0 ⟨rfl, hc0⟩))
      go_ret
      exact ⟨by trivial, hc0⟩
    have hsz : (s.toList == [122, 122, 122]) = true := by
      rw [ByteArray.toList_eq, hz]
      rfl
    have g1 : giveL [] zzz 8 = [(zzz, 8)] := by decide +kernel
    have z1 : userB ⟨#[122, 122, 122]⟩ = true := by decide +kernel
    have z2 : (Lit.int .i64 (orI (getR [] zzz) 8)).wf = true := by decide +kernel
    have hgv := fun (w : World) (p : Nat) (h : RAt w p [] []) => ro_give h (by intro x hx; simp at hx) (by simp) ⟨#[122, 122, 122]⟩ (by decide) 8 (by rw [z1, al6]; rfl) z2
    clear g1 z1 z2
    replace hz := Lib.hid hz
    go_enter Try.func3, Try.ntmps3
    go_wp2_with (first | (go_at_call 5; refine (hur _).mono ?_; rintro e w' ⟨rfl, rfl⟩) | (go_at_call 6; refine (l22_alive _).mono ?_; rintro e w0 ⟨rfl, hc0⟩))
    have hra := (RAt.new w0).chg ((Chg.refl [] _).alloc (.cells #[.map none] 27)) (by simp)
    have hrb := RAt.new (w0.alloc (.cells #[.map none] 27))
    have hsz1 : (w0.alloc (.cells #[.map none] 27)).heap.size = w0.heap.size + 1 := by simp
    rw [hsz1] at hrb
    have hs0 := hc0.size
    have hT : Two w ((w0.alloc (.cells #[.map none] 27)).alloc (.cells #[.map none] 27)) w0.heap.size (w0.heap.size + 1) [] [] [] [] :=
      ⟨hra, hrb, by simp, by simp; omega, by simp; omega, (hc0.alloc _).alloc _⟩
    clear hra hrb hsz1
    refine (hgv _ _ hT.a).mono ?_
    rintro e w1' ⟨rfl, Fa, ha1, hFa, hc1⟩
    have hT1 := hT.stepA hc1 ha1 hFa
    clear hT ha1 hFa hc1
    dsimp only
    go_wp2_with fail
    refine (hgv _ _ hT1.b).mono ?_
    rintro e w2' ⟨rfl, Fb, hb1, hFb, hc1⟩
    have hT2 := hT1.stepB hc1 hb1 hFb
    clear hT1 hb1 hFb hc1 hgv
    dsimp only
    go_wp2_with fail
    go_ret
    exact ⟨by trivial, hT2.chg⟩
end Go.Proofs.Ytoimgacmbbkikaa
