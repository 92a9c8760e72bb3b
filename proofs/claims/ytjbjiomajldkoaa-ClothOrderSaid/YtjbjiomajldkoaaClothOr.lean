/- ClothOrder: the walk. -/
import Derived.Test.YtjbjiomajldkoaaClothSn
import Derived.Test.YtjbjiomajldkoaaOpen
namespace Go.Proofs.Ytjbjiomajldkoaa
open Go.RowKit Go.Vx
set_option linter.unusedVariables false
set_option linter.unusedSimpArgs false

def olds : ByteArray := ⟨#[111, 108, 100]⟩
def okTexts (l : List ByteArray) : List ByteArray := l.filter fun s => decide (s.size ≤ 40)
/-- The text that is to stand behind the tear, of the first k that were woven. -/
def wantTo (acc : List ByteArray) (keep : List Bool) : Nat → ByteArray
  | 0 => olds
  | k + 1 => if keep.getD k false then acc.getD k em else wantTo acc keep k
theorem wantTo_append (acc : List ByteArray) (keep : List Bool) (x : ByteArray) : ∀ k, k ≤ acc.length → wantTo (acc ++ [x]) keep k = wantTo acc keep k
  | 0, _ => rfl
  | k + 1, h => by
    simp only [wantTo]
    rw [wantTo_append acc keep x k (by omega)]
    have : (acc ++ [x]).getD k em = acc.getD k em := by
      rw [List.getD_eq_getElem?_getD, List.getD_eq_getElem?_getD, List.getElem?_append_left (by omega)]
    rw [this]
theorem want_press (acc : List ByteArray) (keep : List Bool) : ∀ k, k ≤ acc.length → pressTo [em, olds] (keptTo (acc.map fun s => ((1 : Int), s)) keep k) = [em, wantTo acc keep k]
  | 0, _ => rfl
  | k + 1, h => by
    have ih := want_press acc keep k (by omega)
    simp only [keptTo, wantTo]
    have hk : (acc.map fun s => ((1 : Int), s))[k]? = some (1, acc[k]'(by omega)) := by simp [show k < acc.length by omega]
    have hg : acc.getD k em = acc[k]'(by omega) := by simp [List.getD_eq_getElem?_getD, List.getElem?_eq_getElem (show k < acc.length by omega)]
    split
    · rw [hk, hg]
      simp only [Option.toList_some]
      rw [pressTo_snoc, ih]
      rfl
    · simpa using ih
theorem okTexts_take (l : List ByteArray) (k : Nat) (h : k < l.length) : okTexts (l.take (k + 1)) = okTexts (l.take k) ++ (if l[k].size ≤ 40 then [l[k]] else []) := by
  rw [List.take_succ_eq_append_getElem h, okTexts, List.filter_append]
  unfold okTexts
  by_cases hs : l[k].size ≤ 40 <;> simp [hs]
theorem okTexts_le (l : List ByteArray) : (okTexts l).length ≤ l.length := List.length_filter_le _ _
/-- The cloth behind k texts. -/
def orC (acc : List ByteArray) : ClothS := ⟨[em, olds], acc.map fun s => (1, s), false, false, 0, []⟩
theorem orC_rows (acc : List ByteArray) : RowsOk 2 (orC acc).loose := by
  intro t ht
  obtain ⟨s, _, rfl⟩ := List.mem_map.1 ht
  exact ⟨(by decide : (0 : Int) ≤ 1), (by decide : (1 : Int) < 2)⟩

set_option maxHeartbeats 1000000 in
theorem order_out (w : World) (A0 : Option Addr) (n0 c0 : Nat) (A1 : Option Addr) (n1 c1 : Nat) (h0 : n0 ≤ 9223372036854775807) (h1 : n1 ≤ 9223372036854775807) (h : 30 < n0 ∨ (n0 ≤ 30 ∧ 60 < n1)) :
    Calls Try.prog 4 #[.slice A0 n0 c0, .slice A1 n1 c1] w (AlivePost w) := by
  rcases h with h | ⟨h2, h⟩
  all_goals
    go_enter Try.func4, Try.ntmps4
    go_wp2_with (go_at_call 8; refine (alive_at _).mono ?_; rintro e w1 ⟨rfl, hw1⟩)
    go_ret
    exact ⟨rfl, hw1⟩
set_option maxHeartbeats 2000000 in
theorem order_in (w : World) (A0 : Option Addr) (n0 c0 : Nat) (l : List ByteArray) (A1 : Option Addr) (n1 c1 : Nat) (keep : List Bool) (hl : l.length = n0) (hs0 : Src w 1 A0 n0 (l.map .string)) (hsz : ∀ s ∈ l, s.size ≤ maxLen) (hs1 : Src w 1 A1 n1 (keep.map .bool)) (h0 : n0 ≤ 30) (h1 : n1 ≤ 60) :
    Calls Try.prog 4 #[.slice A0 n0 c0, .slice A1 n1 c1] w (AlivePost w) := by
  have b1 : decide ((30 : Int) < n0) = false := by simp; omega
  have b2 : decide ((60 : Int) < n1) = false := by simp; omega
  have hkl : keep.length = n1 := by have := hs1.1; simpa using this
  go_enter Try.func4, Try.ntmps4
  go_wp2_with (go_at_call 8; refine (alive_at _).mono ?_; rintro e w1 ⟨rfl, hw1⟩)
  refine (new_at 2 _).mono ?_
  rintro e w2 ⟨p, pr, F, rfl, hc2, hw2, hF⟩
  replace hc2 : ClothAt w2 p pr (.slice none 0 0) (.slice none 0 0) ⟨[em, em], [], false, false, 0, []⟩ F [] [] := hc2
  have hz2 : Chg [] w w2 := hw1.trans hw2 (by simp)
  have hF2 : ∀ g, g ∈ p :: (F ++ [] ++ []) → w.heap.size ≤ g := fun g hg => Nat.le_trans hw1.size (hF g (by simpa using hg))
  clear hw1 hw2 hF
  go_wp2_with fail
  refine (weave_at hc2 1 olds rfl (by decide) (by decide) (by decide) (by intro t ht; simp at ht) (by intro h; simp at h)).mono ?_
  rintro e w3 ⟨lo3, ke3, G3, H3, rfl, hc3, hw3, hG3, hH3⟩
  replace hc3 : ClothAt w3 p pr lo3 ke3 ⟨[em, em], [(1, olds)], false, false, 0, []⟩ F G3 H3 := hc3
  rw [show ClothS.weaveR ⟨[em, em], [], false, false, 0, []⟩ = 0 from rfl]
  have hz3 : Chg [] w w3 := hz2.trans hw3 (by intro g hg; exact .inr (hF2 g (by simpa using hg)))
  have hF3 := foot_sub hF2 hz2.size hG3 hH3
  clear hc2 hz2 hw3 hG3 hH3 hF2
  go_wp2_with fail
  refine (press_on hc3 rfl (by decide) (by decide) (by intro t ht; simp at ht; subst ht; decide) (by intro h; simp at h)).mono ?_
  rintro e w4 ⟨lo4, ke4, G4, H4, rfl, hc4, hw4, hG4, hH4⟩
  replace hc4 : ClothAt w4 p pr lo4 ke4 (orC []) F G4 H4 := hc4
  rw [show ClothS.weaveR ⟨[em, em], [(1, olds)], false, false, 0, []⟩ = 0 from rfl]
  have hz4 : Chg [] w w4 := hz3.trans hw4 (by intro g hg; exact .inr (hF3 g (by simp at hg ⊢; rcases hg with hg | hg | hg <;> simp [hg])))
  have hF4 := foot_sub hF3 hz3.size hG4 hH4
  clear hc3 hz3 hw4 hG4 hH4 hF3
  go_wp2_with fail
  go_loopw [6, 7, 8] (fun s m i wr => ∃ (k : Nat) (lo ke : Value) (G H : List Nat), k ≤ n0 ∧ i = .int .i64 k ∧ s = .string (wantTo (okTexts (l.take k)) keep (okTexts (l.take k)).length) ∧ m = .int .i64 (okTexts (l.take k)).length ∧ ClothAt wr p pr lo ke (orC (okTexts (l.take k))) F G H ∧ Chg [] w wr ∧ (∀ g, g ∈ p :: (F ++ G ++ H) → w.heap.size ≤ g)) (fun _ _ i _ => n0 - (intOf i).toNat)
  case atStart => exact ⟨0, lo4, ke4, G4, H4, Nat.zero_le _, rfl, rfl, rfl, hc4, hz4, hF4⟩
  case round =>
    obtain ⟨k, lo, ke, G, H, hk, rfl, rfl, rfl, hc, hz, hB⟩ := hrel
    have hol := okTexts_le (l.take k)
    rw [List.length_take] at hol
    by_cases hlt : k < n0
    · obtain ⟨ad, rfl, hca⟩ := (hs0.chg hz (by simp)).2 (by omega)
      have hck := hca k (.string (l[k]'(by omega))) (by simp <;> omega)
      have hadl : ad.block < w.heap.size := by
        obtain ⟨ad', e', hca'⟩ := hs0.2 (by omega)
        injection e' with e'
        subst e'
        have := World.block_lt_of_cell? w _ (hca' k (.string (l[k]'(by omega))) (by simp <;> omega))
        rwa [add_block] at this
      have hsk := hsz (l[k]'(by omega)) (List.getElem_mem _)
      unfold maxLen at hsk
      have htk := okTexts_take l k (by omega)
      clear hca
      generalize l[k]'(by omega) = s at *
      by_cases h100 : 100 < s.size
      · go_wp2_with fail
        go_ret
        exact ⟨rfl, hz⟩
      · by_cases h40 : s.size ≤ 40
        · rw [if_pos h40] at htk
          have hb : decide ((100 : Int) < s.size) = false := by simp; omega
          go_wp2_with fail
          refine (weave_at hc 1 s rfl h40 (by simp only [orC, List.length_map]; omega) (by simp [orC]) (orC_rows _) (by intro h; simp [orC] at h)).mono ?_
          rintro e w5 ⟨lo5, ke5, G5, H5, rfl, hc5, hw5, hG5, hH5⟩
          replace hc5 : ClothAt w5 p pr lo5 ke5 (orC (okTexts (l.take k) ++ [s])) F G5 H5 := by
            have : (orC (okTexts (l.take k))).weaveS 1 s = orC (okTexts (l.take k) ++ [s]) := by
              simp [ClothS.weaveS, ClothS.going, orC, ClothS.add, ClothS.gone]
            rw [this] at hc5
            exact hc5
          rw [show (orC (okTexts (l.take k))).weaveR = 0 from rfl]
          have hz5 : Chg [] w w5 := hz.trans hw5 (by intro g hg; exact .inr (hB g (by simp at hg ⊢; rcases hg with hg | hg | hg <;> simp [hg])))
          have hB5 := foot_sub hB hz.size hG5 hH5
          have hck5 : w5.cell? (ad.add k) = some (.string s) := (hw5.cell (p := ad.add k) (by rw [add_block]; have := hz.size; omega) (by rw [add_block]; intro hg; have := hB ad.block (by simp at hg ⊢; rcases hg with hg | hg | hg <;> simp [hg]); omega)).trans hck
          clear hc hz hw5 hB hG5 hH5 hck
          have hlen : (okTexts (l.take (k + 1))).length = (okTexts (l.take k)).length + 1 := by rw [htk]; simp
          have hwa := wantTo_append (okTexts (l.take k)) keep s (okTexts (l.take k)).length (Nat.le_refl _)
          have hgd : (okTexts (l.take k) ++ [s]).getD (okTexts (l.take k)).length em = s := by simp [List.getD_eq_getElem?_getD]
          have hw1 : Hid (wantTo (okTexts (l.take (k + 1))) keep (okTexts (l.take (k + 1))).length = if keep.getD (okTexts (l.take k)).length false then s else wantTo (okTexts (l.take k)) keep (okTexts (l.take k)).length) := by
            show _ = _
            rw [hlen, htk]
            simp only [wantTo]
            rw [hwa, hgd]
          have hlen' := Lib.hid hlen
          have htk' := Lib.hid htk
          clear hlen htk hwa hgd
          generalize okTexts (l.take k) = acc at *
          by_cases hkn : acc.length < n1
          · obtain ⟨kd, rfl, hkc⟩ := (hs1.chg hz5 (by simp)).2 (by omega)
            have hkk := hkc acc.length (.bool (keep[acc.length]'(by omega))) (by simp [hkn, hkl])
            clear hkc
            cases hb2 : keep[acc.length]'(by omega) with
            | true =>
              rw [hb2] at hkk
              have ew : (if keep.getD acc.length false = true then s else wantTo acc keep acc.length) = s := by simp [hb2, hkl, hkn]
              have ew' := Lib.hid ew
              clear ew
              go_wp2_with fail
              go_roundw
              case measure => simp [intOf]; omega
              case rel => exact ⟨k + 1, lo5, ke5, G5, H5, by omega, by go_num, by rw [hw1.out, ew'.out], by rw [hlen'.out]; go_num, by rw [htk'.out]; exact hc5, hz5, hB5⟩
            | false =>
              rw [hb2] at hkk
              have ew : (if keep.getD acc.length false = true then s else wantTo acc keep acc.length) = wantTo acc keep acc.length := by simp [hb2, hkl, hkn]
              have ew' := Lib.hid ew
              clear ew
              go_wp2_with fail
              go_roundw
              case measure => simp [intOf]; omega
              case rel => exact ⟨k + 1, lo5, ke5, G5, H5, by omega, by go_num, by rw [hw1.out, ew'.out], by rw [hlen'.out]; go_num, by rw [htk'.out]; exact hc5, hz5, hB5⟩
          · have ew : (if keep.getD acc.length false = true then s else wantTo acc keep acc.length) = wantTo acc keep acc.length := by simp [hkl, hkn]
            have ew' := Lib.hid ew
            clear ew
            go_wp2_with fail
            go_roundw
            case measure => simp [intOf]; omega
            case rel => exact ⟨k + 1, lo5, ke5, G5, H5, by omega, by go_num, by rw [hw1.out, ew'.out], by rw [hlen'.out]; go_num, by rw [htk'.out]; exact hc5, hz5, hB5⟩
        · rw [if_neg h40] at htk
          go_wp2_with fail
          refine (weave_long hc 1 s rfl (by omega) (by omega)).mono ?_
          rintro e w5 ⟨rfl, rfl⟩
          go_wp2_with fail
          go_roundw
          case measure => simp [intOf]; omega
          case rel =>
            rw [List.append_nil] at htk
            exact ⟨k + 1, lo, ke, G, H, by omega, by go_num, by rw [htk], by rw [htk], by rw [htk]; exact hc, hz, hB⟩
    · obtain rfl : k = n0 := by omega
      rw [show l.take k = l by rw [← hl]; exact List.take_length] at hol hc ⊢
      generalize okTexts l = acc at *
      have hll : (orC acc).loose.length = acc.length := by simp [orC]
      go_wp2_with fail
      refine (loose_at hc).mono ?_
      rintro e w5 ⟨rfl, rfl⟩
      rw [hll]
      go_wp2_with fail
      refine (tear_on hc rfl (orC_rows _) (by rw [hll]; omega) (hs1.chg hz (by simp)) (by omega)).mono ?_
      rintro e w6 ⟨rfl, h6, hw6⟩
      have e6 : (orC acc).tear keep = ⟨[em, wantTo acc keep acc.length], [], true, false, 0, []⟩ := by
        have := want_press acc keep acc.length (Nat.le_refl _)
        simp only [ClothS.tear, orC, List.length_map]
        rw [this]
      rw [e6] at h6
      have hz6 : Chg [] w w6 := hz.trans hw6 (by intro g hg; exact .inr (hB g (by simp at hg ⊢; rcases hg with hg | hg <;> simp [hg])))
      have hp : w.heap.size ≤ p := hB p (by simp)
      clear hc hz hw6 hB e6
      go_wp2_with fail
      refine (read_may h6 1 (by rw [show ClothS.may ⟨[em, wantTo acc keep acc.length], [], true, false, 0, []⟩ 1 = 14 from rfl]; decide)).mono ?_
      rintro e w7 ⟨rfl, hw7⟩
      rw [show ClothS.may ⟨[em, wantTo acc keep acc.length], [], true, false, 0, []⟩ 1 = 14 from rfl]
      have h7 := h6.chg hw7 (by simp)
      have hz7 : Chg [] w w7 := hz6.trans hw7 (by simp)
      clear h6 hz6 hw7
      go_wp2_with fail
      refine (mend_at h7).mono ?_
      rintro e w8 ⟨rfl, h8, hw8⟩
      replace h8 : ClothAt w8 p pr (.slice none 0 0) (.slice none 0 0) ⟨[em, wantTo acc keep acc.length], [], false, false, 0, []⟩ F [] [] := h8
      have hz8 : Chg [] w w8 := hz7.trans hw8 (by intro g hg; simp at hg; subst hg; exact .inr hp)
      clear h7 hz7 hw8
      go_wp2_with fail
      refine (read_at h8 1 rfl (by simp)).mono ?_
      rintro e w9 ⟨rfl, hw9⟩
      rw [show ClothS.text ⟨[em, wantTo acc keep acc.length], [], false, false, 0, []⟩ 1 = wantTo acc keep acc.length from rfl]
      have hz9 : Chg [] w w9 := hz8.trans hw9 (by simp)
      generalize wantTo acc keep acc.length = s at *
      go_wp2_with fail
      go_ret
      exact ⟨rfl, hz9⟩
theorem clothOrder_walk (w : World) (A0 : Option Addr) (n0 c0 : Nat) (l : List ByteArray) (x0 : l.length = n0 ∧ n0 ≤ c0 ∧ c0 ≤ maxLen ∧ Src w 1 A0 n0 (l.map .string) ∧ ∀ s ∈ l, s.size ≤ maxLen) (y0 : n0 * 16 ≤ 140737488351232)
    (A1 : Option Addr) (n1 c1 : Nat) (keep : List Bool) (x1 : keep.length = n1 ∧ n1 ≤ c1 ∧ c1 ≤ maxLen ∧ Src w 1 A1 n1 (keep.map .bool)) (y1 : n1 * 1 ≤ 140737488351232) :
    Calls Try.prog 4 #[.slice A0 n0 c0, .slice A1 n1 c1] w fun e w' => e = .returned (.bool true) ∧ Chg [] w w' := by
  by_cases h : n0 ≤ 30 ∧ n1 ≤ 60
  · exact order_in w A0 n0 c0 l A1 n1 c1 keep x0.1 x0.2.2.2.1 x0.2.2.2.2 x1.2.2.2 h.1 h.2
  · exact order_out w A0 n0 c0 A1 n1 c1 (by omega) (by omega) (by omega)
end Go.Proofs.Ytjbjiomajldkoaa
