/- Journals: lent lists, and whether they stay. -/
import Derived.Test.YtlgfmphjgijilaaJsC
namespace Go.Proofs.Ytlgfmphjgijilaa
open Go.RowKit Go.Vx
set_option linter.unusedVariables false
set_option linter.unusedSimpArgs false

def markJV : JV := ⟨⟨0, 0, 0, ⟨#[109, 97, 114, 107]⟩, [], false⟩, .slice none 0 0, []⟩
theorem mark_jap (w : World) (F : List Nat) : JAp w F markJV := ⟨none, 0, rfl, ⟨rfl, fun h => by simp [markJV] at h⟩, fun ad h => by cases h⟩
theorem src_pre {w : World} {A : Option Addr} {n : Nat} {xs ys : List Value} {size m : Nat} (h : Go.Vx.Src w size A (n + m) (xs ++ ys)) (hl : xs.length = n * size) : Go.Vx.Src w size A n xs := by
  refine ⟨hl, fun hn => ?_⟩
  obtain ⟨ad, ha, hc⟩ := h.2 (by omega)
  exact ⟨ad, ha, fun j u hu => hc j u (by rw [List.getElem?_append_left (List.getElem?_eq_some_iff.1 hu).1]; exact hu)⟩
/-- A list that is lent: with room behind it, in which a mark stands. -/
def Lent (w : World) (g c : Nat) (X : List JV) : Prop := Fix w 31 6 (.slice (some ⟨g, 0, none⟩) (X.length + 1) c) (X.length + 1) ((X ++ [markJV]).flatMap jvEnc) [g] ∧ (∀ x ∈ X, JAp w [g] x)
theorem Lent.keep {w w' : World} {g c : Nat} {X : List JV} (h : Lent w g c X) (k : Chg [] w w') : Lent w' g c X := ⟨h.1.chg k (by simp), fun x hx => (h.2 x hx).keep k⟩
theorem Lent.row {w : World} {g c : Nat} {X : List JV} (h : Lent w g c X) (hl : ∀ x ∈ X, x.j.lines.length ≤ 1000000) : RowOk w (some ⟨g, 0, none⟩) X.length X := by
  refine ⟨?_, fun x hx => (h.2 x hx).ok, hl, rfl⟩
  have := Fix.src h.1
  rw [List.flatMap_append] at this
  exact src_pre this (by rw [flatMap_len jvEnc_len])
def LentPost (w : World) (L : List Jn) (e : Ending) (w' : World) : Prop := ∃ X g c, e = .returned (.slice (some ⟨g, 0, none⟩) X.length c) ∧ Lent w' g c X ∧ jns X = L ∧ w.heap.size ≤ g ∧ X.length + 1 ≤ c ∧ Chg [] w w'
set_option maxRecDepth 100000 in
set_option maxHeartbeats 4000000 in
theorem bk_lentj {w : World} {A : Option Addr} {n c : Nat} {Q : List JV} (ha : RowOk w A n Q) (hn : n ≤ 100000) :
    Calls Try.prog 20 #[.slice A n c] w (LentPost w (jns Q)) := by
  obtain ⟨i1, hi1, k0, k1, k2⟩ := info_parts jnInfo
  have hcp := bk_copyj (c := c) ha hn
  have hl := Lib.hid ha.2.2.2
  obtain ⟨PP, hPP⟩ : ∃ PP, PP = LentPost w (jns Q) := ⟨_, rfl⟩
  rw [← hPP]
  replace hPP := Lib.hid hPP
  clear ha
  go_enter Try.func20, Try.ntmps20
  go_wp2_with fail
  refine hcp.mono ?_
  rintro e w2 ⟨X, v, F, rfl, hf, hX, hJ, hF, hz⟩
  clear hcp
  have hXl : X.length = n := by
    have := congrArg List.length hX
    rw [List.length_map, List.length_map, hl.out] at this
    exact this
  subst hXl
  have hw2 := (Chg.refl [] w2).alloc (.cells #[.int .i64 0, .int .i64 0, .int .i64 0, .string ⟨#[109, 97, 114, 107]⟩, .slice none 0 0, .bool false] 31)
  have hpush := fun v v3 w3 F3 => put_push (w1 := w) (v := v) (v' := v3) (W' := w3) (F' := F3) (fun x hx => (hJ x hx).keep hw2) hF (hz.trans' hw2) (mark_jap _ F)
  have hfa := hf.chg hw2 (by simp)
  obtain ⟨v3, w3, F3, hrun, hA3⟩ := run_append_fix (P := Try.prog) (ty := 24) (w2.alloc (.cells #[.int .i64 0, .int .i64 0, .int .i64 0, .string ⟨#[109, 97, 114, 107]⟩, .slice none 0 0, .bool false] 31)) Try.underlying24 hi1 k0 k1 k2 rfl (by omega) hfa (c := 1) (show Go.Vx.Src _ 6 (some ⟨w2.heap.size, 0, none⟩) 1 (jvEnc markJV) from blk_src (size := 6) (Blk.new_at rfl) rfl) (one_jv rfl) (by unfold maxLen; omega) (by omega)
  have hp3 := hpush _ v3 w3 F3 hA3
  obtain ⟨g3, c3, rfl, rfl⟩ := hA3.head (by omega)
  obtain ⟨_, c3', hvv, -, hnc3, hcm3, -⟩ := _root_.id hp3.1
  injection hvv with ha0 _ hcc
  subst ha0 hcc
  have hc3 : X.length + 1 ≤ c3 := by simpa using hnc3
  have hc4 : X.length ≤ c3 := by omega
  have hc5 : X.length ≤ X.length + 1 := by omega
  unfold maxLen at hcm3
  replace hp3 := Lib.hid hp3
  replace hX := Lib.hid hX
  clear hf hJ hF hw2 hA3 hnc3 hpush hfa hz
  replace hc3 := Lib.hid hc3
  clear hc5 hi1 k0 k1 k2
  obtain ⟨N, hN⟩ : ∃ N, X.length = N := ⟨_, rfl⟩
  rw [hN] at hc4 hn hl hrun ⊢
  have hN' := Lib.hid hN
  clear hN
  go_wp2_with (at_builtin; refine wpList_append_eq _ rfl _ _ 24 24 rfl _ _ rfl rfl hrun ?_; clear hrun)
  rw [hPP.out]
  obtain ⟨h1, h2, h3, h4⟩ := hp3.out
  refine ⟨X, g3, c3, by rw [hN'.out]; rfl, ⟨by simpa using h1, fun x hx => h2 x (List.mem_append_left _ hx)⟩, hX.out, h3 g3 (by simp), hc3.out, h4⟩
set_option maxRecDepth 100000 in
set_option maxHeartbeats 4000000 in
theorem bk_staysj {w : World} {B : Option Addr} {g c d : Nat} {X Y : List JV} (hm : Lent w g c X) (hlx : ∀ x ∈ X, x.j.lines.length ≤ 1000000) (hc : X.length + 1 ≤ c) (hb : RowOk w B X.length Y) (hn : X.length ≤ 100000) (hxy : jns X = jns Y) :
    Calls Try.prog 24 #[.slice (some ⟨g, 0, none⟩) X.length c, .slice B X.length d] w fun e w' => e = .returned (.bool true) ∧ Chg [] w w' := by
  have hsm := bk_samej (c := c) (d := d) (hm.row hlx) hb (by omega) hxy
  have hmk : w.cell? ⟨g, X.length * 6 + 3, none⟩ = some (.string ⟨#[109, 97, 114, 107]⟩) := by
    have h := (book_cells hm.1 (i := X.length) (by simp) (by simp) 3 (by omega)).1
    have e : (X ++ [markJV])[X.length]'(by simp) = markJV := by simp
    rw [e] at h
    exact h
  have hgl := hm.1.lt g (by simp)
  obtain ⟨_, c3', hvv, -, -, hcm3, -⟩ := _root_.id hm.1
  injection hvv with ha0 _ hcc
  subst ha0 hcc
  unfold maxLen at hcm3
  clear hm hb hxy hlx
  generalize X.length = n at *
  have hw1 : IntKind.i64.wrap ((n : Int) + 1) = (n : Int) + 1 := by rw [IntKind.wrap_i64]; omega
  have e1 : (n : Int) < (n : Int) + 1 := by omega
  have e2 : ((n : Int) + 1).toNat = n + 1 := by omega
  have e3 : (0 : Int) ≤ (n : Int) + 1 := by omega
  have hmc : (ByteArray.toList ⟨#[109, 97, 114, 107]⟩ == ByteArray.toList ⟨#[109, 97, 114, 107]⟩) = true := beq_self_eq_true _
  go_enter Try.func24, Try.ntmps24
  go_wp2_with fail
  refine hsm.mono ?_
  rintro e w2 ⟨rfl, hz⟩
  have hmk2 : w2.cell? ⟨g, n * 6 + 3, none⟩ = some (.string ⟨#[109, 97, 114, 107]⟩) := (hz.cell hgl (by simp)).trans hmk
  clear hsm hmk
  go_wp2_with fail
  go_ret
  exact ⟨rfl, hz⟩
end Go.Proofs.Ytlgfmphjgijilaa
