/- Charts: Kind, the book's SameAccounts; plain laws on New. -/
import Derived.Test.YtfcedgglehedjaaChG
import Derived.Deep.QuietTactic
namespace Go.Proofs.Ytfcedgglehedjaa
open Go.RowKit Go.Vx Go.Maps Go.Sort Go.Shelf
set_option linter.unusedVariables false
set_option linter.unusedSimpArgs false

theorem sl_contains {w : World} {A : Option Addr} {n c : Nat} {l : List Int} (h : Src w 1 A n (l.map encI)) (hA : ∀ ad, A = some ad → ad.spot = none) (x : Int) (hn : n ≤ 1000000) :
    Calls Try.prog 21 #[.slice A n c, .int .i64 x] w fun e w' => e = .returned (.bool (l.contains x)) ∧ w' = w := by
  have hl : l.length = n := by have := h.1; simpa using this
  rcases Nat.eq_zero_or_pos n with hz | hz
  · subst hz
    have : l = [] := List.eq_nil_of_length_eq_zero hl
    subst this
    exact Try.slices_Contains_int_empty _ _ _ _
  · obtain ⟨ad, rfl, hc⟩ := h.2 hz
    obtain ⟨blk, off, spot⟩ := ad
    obtain rfl : spot = none := hA _ rfl
    have := Try.slices_Contains_int blk off n c l x w (by simp [hl]) (by omega) (fun j hj => by
      have := hc j (encI (l.getD j 0)) (by simp [List.getD_eq_getElem?_getD, hj])
      rw [← this]
      congr 1
      unfold Addr.add
      by_cases hj0 : j = 0 <;> simp [hj0])
    rwa [List.take_of_length_le (by simp [hl])] at this
/-- The codes of accounts of some kinds. -/
def kindL (L : CL) (ks : List Int) : List Int := (L.filter fun a => ks.contains a.kind).map Acc.code
theorem kindL_take (L : CL) (ks : List Int) {k : Nat} (hk : k < L.length) : kindL (L.take (k + 1)) ks = kindL (L.take k) ks ++ (if ks.contains L[k].kind then [L[k].code] else []) := by
  unfold kindL
  rw [List.take_succ_eq_append_getElem hk, List.filter_append, List.map_append]
  congr 1
  rw [List.filter_cons, List.filter_nil]
  cases ks.contains L[k].kind <;> rfl
theorem fix_spot {w : World} {e : TypeId} {size n c : Nat} {A : Option Addr} {xs : List Value} {F : List Nat} (h : Fix w e size (.slice A n c) n xs F) (h0 : 0 < n) : ∃ g, A = some ⟨g, 0, none⟩ := by
  obtain ⟨A', c', hv, h1, h2, h3, h4⟩ := h
  cases hv
  rcases h4 with ⟨rfl, -⟩ | ⟨g, cur, rfl, -⟩
  · omega
  · exact ⟨g, rfl⟩
theorem kiIntInfo : (Try.prog.info? 3).map (fun i => (i.zero, i.size, i.bytes)) = some (some (.int .i64 0), 1, 8) := by kernel_rfl
set_option maxRecDepth 100000 in
set_option maxHeartbeats 4000000 in
theorem CNew.kind {w0 w : World} {p : Nat} {L : CL} (h : CNew w0 w p L) (hL : Good L) (hn : L.length ≤ 100000) {A : Option Addr} {m c : Nat} {ks : List Int} (hs : Src w 1 A m (ks.map encI)) (hA : ∀ ad, A = some ad → ad.spot = none) (hm : m ≤ 1000000) :
    Calls Try.prog 13 #[.pointer (some ⟨p, 0, none⟩), .slice A m c] w fun e w' => ∃ v F', e = .returned v ∧ Fix w' 3 1 v (kindL L ks).length ((kindL L ks).map encI) F' ∧ (∀ g ∈ F', w.heap.size ≤ g) ∧ Chg [] w w' := by
  obtain ⟨i1, hi1, k0, k1, k2⟩ := info_parts kiIntInfo
  have hall := h.all hL hn
  have hct := fun w' (k : Chg [] w w') x => sl_contains (c := c) (hs.chg k (by simp)) hA x hm
  clear hs
  go_enter Try.func13, Try.ntmps13
  go_wp2_with fail
  refine hall.mono ?_
  rintro e w1 ⟨av, AF, rfl, haf, hAF, hz1⟩
  obtain ⟨aA, ac, rfl, -⟩ := _root_.id haf
  clear hall
  go_wp2_with fail
  go_loopw [5, 11] (fun ov iv wr => ∃ (k : Nat) (A' : Option Addr) (c' : Nat) (F' : List Nat), k ≤ L.length ∧ iv = .int .i64 k ∧ ov = .slice A' (kindL (L.take k) ks).length c' ∧ Fix wr 3 1 (.slice A' (kindL (L.take k) ks).length c') (kindL (L.take k) ks).length ((kindL (L.take k) ks).map encI) F' ∧ (∀ g ∈ F', w1.heap.size ≤ g) ∧ Chg [] w1 wr) (fun _ iv _ => L.length - (intOf iv).toNat)
  case atStart => exact ⟨0, none, 0, [], by omega, rfl, rfl, Fix.nil _ _ _, by simp, Chg.refl _ _⟩
  case round =>
    obtain ⟨k, A', c', F', hk2, rfl, rfl, hf, hF', hz⟩ := hrel
    have hlen : (kindL (L.take k) ks).length ≤ k := by
      unfold kindL
      rw [List.length_map]
      refine Nat.le_trans (List.length_filter_le _ _) ?_
      rw [List.length_take]
      omega
    by_cases hlt : k < L.length
    · obtain ⟨ad, rfl, c0, c1, c2⟩ := acc_cells (Fix.src (haf.chg hz (by simp))) hlt
      have htk := kindL_take L ks hlt
      have hcc := fun w' (k' : Chg [] w1 w') => hct w' (hz1.trans' k') L[k].kind
      generalize L[k] = a at *
      obtain ⟨xc, xk, xr⟩ := a
      dsimp only at *
      generalize kindL (L.take k) ks = q at *
      cases hb : ks.contains xk with
      | false =>
        rw [hb] at htk hcc
        simp only [Bool.false_eq_true, if_false, List.append_nil] at htk
        replace htk := Lib.hid htk
        clear hct hb
        go_wp2_with fail
        refine (hcc _ (hz.alloc _)).mono ?_
        rintro e w2 ⟨rfl, rfl⟩
        go_wp2_with fail
        refine ⟨⟨k + 1, A', c', F', by omega, by go_num, ?_, ?_, hF', hz.alloc _⟩, by simp [intOf]; omega⟩
        · rw [htk.out]
        · rw [htk.out]; exact hf.alloc _
      | true =>
        rw [hb] at htk hcc
        simp only [if_true] at htk
        replace htk := Lib.hid htk
        clear hct hb
        go_wp2_with fail
        refine (hcc _ (hz.alloc _)).mono ?_
        rintro e w2 ⟨rfl, rfl⟩
        go_wp2_with first
          | (at_builtin; go_loud (refine wpList_append_fix rfl (.tmp 19) (.tmp 22) 40 rfl Try.underlying40 hi1 k0 k1 k2 rfl (by omega) rfl ((hf.alloc _).alloc _) rfl (Src.one1 (by simp)) (by simp [Value.oneCell']) (by unfold maxLen; omega) (by omega) ?_; intro v3 w3 F3 hA3))
        obtain ⟨A3, c3, rfl, -⟩ := _root_.id hA3.fix
        have hz3 : Chg [] w1 w3 := ((hz.alloc _).alloc _).trans hA3.chg (fun g hg => .inr (hF' g hg))
        have hsz := hz.size
        refine ⟨⟨k + 1, A3, c3, F3, by omega, by go_num, ?_, ?_, fun g hg => ?_, hz3⟩, by simp [intOf]; omega⟩
        · rw [htk.out, List.length_append]; rfl
        · rw [htk.out, List.length_append, List.map_append]; exact hA3.fix
        · rcases hA3.foot with e | e
          · rw [e] at hg
            exact hF' g hg
          · rw [e] at hg
            simp at hg
            omega
    · obtain rfl : k = L.length := by omega
      rw [List.take_length] at hf ⊢
      clear hct
      go_wp2_with fail
      go_ret
      exact ⟨_, F', rfl, hf, fun g hg => Nat.le_trans hz1.size (hF' g hg), hz1.trans' hz⟩
end Go.Proofs.Ytfcedgglehedjaa
