/- ChartOrder: the region that turns the list round, a declaration of its own. -/
import Derived.Test.YtfcedgglehedjaaChI
import Derived.Deep.RegionLaw
namespace Go.Proofs.Ytfcedgglehedjaa
open Go.RowKit Go.Vx Go.Maps Go.Sort Go.Shelf Go.WideShapes Go.ChangeShapes Go.Deep
set_option linter.unusedVariables false
set_option linter.unusedSimpArgs false

theorem opn_api_Account {H : Type} {enc : TypeId × Value → H} {w : World} {base : Nat} {spare : Nat → Bool} {held : Bool} {A : Option Addr} {len cap : Nat} {d : DataW H} {ps : List MemPlace}
    (h : DataW.Trod enc Try.prog w base spare held 32 (.slice A len cap) d ps) : ∃ l : List Acc, l.length = len ∧ len ≤ cap ∧ cap ≤ maxLen ∧ Src w 3 A len (l.flatMap accEnc) ∧ ∀ x ∈ l, (Lit.int .i64 x.code).wf = true ∧ (Lit.int .i64 x.kind).wf = true := by
  refine opn Try.underlying32 (size := 3) (by kernel_rfl) accEnc (fun x => (Lit.int .i64 x.code).wf = true ∧ (Lit.int .i64 x.kind).wf = true) accEnc_len (fun fuel cs x hl hx => ?_) h
  obtain ⟨n, hf⟩ := opn_fields Try.underlying28 (by kernel_rfl) (by simpa using hl) hx
  obtain ⟨v0, y0, h0, t0⟩ := hf 0 _ rfl
  obtain ⟨v1, y1, h1, t1⟩ := hf 1 _ rfl
  obtain ⟨v2, y2, h2, t2⟩ := hf 2 _ rfl
  obtain ⟨k, hk, _, wk⟩ := DataW.trod_int Try.underlying3 t0
  obtain ⟨m, hm, _, wm⟩ := DataW.trod_int Try.underlying3 t1
  obtain ⟨b, hb, -⟩ := DataW.trod_bool Try.underlying4 t2
  simp at hk hm hb
  subst hk hm hb
  refine ⟨⟨k, m, b⟩, ?_, wk, wm⟩
  have : cs = [.int .i64 k, .int .i64 m, .bool b] := by
    match cs, hl with
    | [a, b, c], _ => simp at h0 h1 h2; simp [h0, h1, h2]
  rw [this]; rfl
theorem acc_drop {w : World} {ad : Addr} {n k : Nat} {l : List Acc} (h : Src w 3 (some ad) n (l.flatMap accEnc)) (hl : l.length = n) (hk : k ≤ n) : Src w 3 (some (ad.add (k * 3))) (n - k) ((l.drop k).flatMap accEnc) := by
  obtain ⟨h1, h2⟩ := h
  have e : (l.drop k).flatMap accEnc = (l.flatMap accEnc).drop (k * 3) := by
    have h3 : l.flatMap accEnc = (l.take k).flatMap accEnc ++ (l.drop k).flatMap accEnc := by rw [← List.flatMap_append, List.take_append_drop]
    have h4 : ((l.take k).flatMap accEnc).length = k * 3 := by
      rw [flatMap_len accEnc_len]
      simp
      omega
    rw [h3, ← h4, List.drop_left]
  rw [e]
  refine ⟨by rw [List.length_drop, h1]; omega, fun h0 => ?_⟩
  obtain ⟨ad', e', hc⟩ := h2 (by omega)
  obtain rfl : ad = ad' := by simpa using e'
  refine ⟨_, rfl, fun j u hu => ?_⟩
  rw [List.getElem?_drop] at hu
  have := hc (k * 3 + j) u hu
  rwa [vx_add]
theorem acc_take {w : World} {A : Option Addr} {n k : Nat} {l : List Acc} (h : Src w 3 A n (l.flatMap accEnc)) (hl : l.length = n) (hk : k ≤ n) : Src w 3 A k ((l.take k).flatMap accEnc) := by
  obtain ⟨h1, h2⟩ := h
  have e : (l.take k).flatMap accEnc = (l.flatMap accEnc).take (k * 3) := by
    have h3 : l.flatMap accEnc = (l.take k).flatMap accEnc ++ (l.drop k).flatMap accEnc := by rw [← List.flatMap_append, List.take_append_drop]
    have h4 : ((l.take k).flatMap accEnc).length = k * 3 := by
      rw [flatMap_len accEnc_len]
      simp
      omega
    rw [h3, ← h4, List.take_left]
  rw [e]
  refine ⟨by rw [List.length_take, h1]; omega, fun h0 => ?_⟩
  obtain ⟨ad, rfl, hc⟩ := h2 (by omega)
  refine ⟨_, rfl, fun j u hu => ?_⟩
  rw [List.getElem?_take] at hu
  split at hu
  · exact hc j u hu
  · simp at hu
/-- A region of a text, by its number. -/
def regAt (n : Nat) : Code → Option Code
  | .region i ops d => if i = n then some (.region i ops d) else none
  | .seq a b => match regAt n a with
    | some c => some c
    | none => regAt n b
  | .cond _ a b => match regAt n a with
    | some c => some c
    | none => regAt n b
  | .block _ c => regAt n c
  | .loop c => regAt n c
  | .scope c => regAt n c
  | _ => none
noncomputable def coReg5 : Code := (Try.f4.body.bind (regAt 5)).getD .skip
set_option maxRecDepth 100000 in
set_option maxHeartbeats 8000000 in
theorem co_reg5 {w w2 : World} {ad : Addr} {n k c : Nat} {l : List Acc} {P : World → Value → Int → World → Prop} (hl : l.length = n) (hk : k < n) (hn : n ≤ 20) (hc : n ≤ c) (hcm : c ≤ 9223372036854775807) (hs : Src w 3 (some ad) n (l.flatMap accEnc)) (hz : Chg [] w w2)
    (hnew : ∀ w4 A4 c4, Chg [] w w4 → Src w4 3 A4 n ((l.drop k ++ l.take k).flatMap accEnc) → Calls Try.prog 12 #[.slice A4 n c4] w4 fun e w5 => ∃ v x, e = .returned (.tuple #[v, .int .i64 x]) ∧ P w4 v x w5)
    (x1 x2 x3 x4 x6 x7 x8 x9 x10 x11 x12 x13 x14 x15 x16 x17 x18 x19 x20 x21 x22 x23 x24 x25 x26 x27 x28 x29 x30 x31 x32 x33 x34 x35 x36 x37 x38 x39 x40 x41 x42 x43 x44 x45 x46 x47 x48 x49 x50 x51 x52 x53 x54 x55 x56 x57 x58 x59 x60 x61 x62 x63 x64 x65 x66 x67 x68 x69 x70 x71 x72 x73 x74 x75 x76 x77 x78 x79 x80 x81 x82 x83 x84 x85 x86 x87 x88 x89 x90 x91 x92 x93 x94 x95 x96 x97 x98 x99 x100 x101 x102 x103 x104 x105 x106 : Value) (Q : Exit → Act → World → Prop)
    (hQ : ∀ (w4 w5 : World) (v : Value) (x : Int) (y40 y41 y42 y43 y44 y45 y46 y47 y48 y49 y50 y51 : Value), Chg [] w w4 → P w4 v x w5 → Q .normal ⟨#[.slice (some ad) n c, x1, x2, x3, x4, .int .i64 k, x6, x7, v, .int .i64 x, x10, x11, x12, x13, x14, x15, x16, x17, x18, x19, x20, x21, x22, x23, x24, x25, x26, x27, x28, x29, x30, x31, x32, x33, x34, x35, x36, x37, x38, x39, y40, y41, y42, y43, y44, y45, y46, y47, y48, y49, y50, y51, x52, x53, x54, x55, x56, x57, x58, x59, x60, x61, x62, x63, x64, x65, x66, x67, x68, x69, x70, x71, x72, x73, x74, x75, x76, x77, x78, x79, x80, x81, x82, x83, x84, x85, x86, x87, x88, x89, x90, x91, x92, x93, x94, x95, x96, x97, x98, x99, x100, x101, x102, x103, x104, x105, x106], []⟩ w5) :
    Code.wp Try.prog coReg5 Q ⟨#[.slice (some ad) n c, x1, x2, x3, x4, .int .i64 k, x6, x7, x8, x9, x10, x11, x12, x13, x14, x15, x16, x17, x18, x19, x20, x21, x22, x23, x24, x25, x26, x27, x28, x29, x30, x31, x32, x33, x34, x35, x36, x37, x38, x39, x40, x41, x42, x43, x44, x45, x46, x47, x48, x49, x50, x51, x52, x53, x54, x55, x56, x57, x58, x59, x60, x61, x62, x63, x64, x65, x66, x67, x68, x69, x70, x71, x72, x73, x74, x75, x76, x77, x78, x79, x80, x81, x82, x83, x84, x85, x86, x87, x88, x89, x90, x91, x92, x93, x94, x95, x96, x97, x98, x99, x100, x101, x102, x103, x104, x105, x106], []⟩ w2 := by
  conv => arg 2; whnf
  dsimp only at hQ ⊢
  replace hQ := Lib.hid hQ
  replace hnew := Lib.hid hnew
  obtain ⟨i1, hi1, k0, k1, k2⟩ := info_parts accInfo
  have hzd : Chg [] w w2.drew := hz.drew
  have g1 : k ≤ n := by omega
  have g2 : k ≤ c := by omega
  have g3 : ¬ c = k := by omega
  have hs1 := Lib.hid fun w' (z : Chg [] w w') => acc_drop (k := k) (hs.chg z (by simp)) hl (by omega)
  have hs2 := Lib.hid fun w' (z : Chg [] w w') => acc_take (k := k) (hs.chg z (by simp)) hl (by omega)
  replace hl := Lib.hid hl
  clear hs
  refine wp_region_noPanic ?_
  go_region_law (first
    | (refine step_append_fix rfl _ _ 32 rfl Try.underlying32 hi1 k0 k1 k2 rfl (by omega) (n := 0) (xs := []) (F := []) rfl (Fix.nil _ _ _) rfl (hs1.out _ hzd) (oneAccs _) (by unfold maxLen; omega) (by omega) ?_; intro v3 w3 F3 hA3; have h3 := hA3.fix; simp only [Nat.zero_add, List.nil_append] at h3; have hz3 : Chg [] w w3 := hzd.trans' hA3.chg; have hF3 : ∀ g ∈ F3, w.heap.size ≤ g := fun g hg => (by rcases hA3.foot with e | e <;> rw [e] at hg <;> simp at hg; have := hzd.size; simp at this; omega))
    | (refine step_append_fix rfl _ _ 32 rfl Try.underlying32 hi1 k0 k1 k2 rfl (by omega) rfl h3 rfl (hs2.out _ hz3) (oneAccs _) (by unfold maxLen; omega) (by omega) ?_; intro v4 w4 F4 hA4; have hf4 := hA4.fix; rw [show n - k + k = n by omega] at hf4; obtain ⟨A4, c4, rfl, -⟩ := _root_.id hf4; have h4 : Src w4 3 A4 n ((l.drop k ++ l.take k).flatMap accEnc) := (by rw [List.flatMap_append]; exact Fix.src hf4); have hz4 : Chg [] w w4 := hz3.trans hA4.chg (fun g hg => .inr (hF3 g hg)))
    | (go_simp; go_at_call 12; refine (hnew.out _ _ _ hz4 h4).mono ?_; rintro e w5 ⟨v5, x5, rfl, hP⟩))
  all_goals
    refine NoPanic.normal ?_
    exact hQ.out _ _ _ _ _ _ _ _ _ _ _ _ _ _ _ _ hz4 hP
end Go.Proofs.Ytfcedgglehedjaa
