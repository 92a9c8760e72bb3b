/- BookOf: its drawn region. -/
import Derived.Test.YtlgfmphjgijilaaJsE
namespace Go.Proofs.Ytlgfmphjgijilaa
open Go.RowKit Go.Vx
set_option linter.unusedVariables false
set_option linter.unusedSimpArgs false

theorem jn_drop {w : World} {ad : Addr} {n k : Nat} {l : List JV} (h : Go.Vx.Src w 6 (some ad) n (l.flatMap jvEnc)) (hl : l.length = n) (hk : k < n) : Go.Vx.Src w 6 (some (ad.add (k * 6))) (n - k) ((l.drop k).flatMap jvEnc) := by
  obtain ⟨h1, h2⟩ := h
  have e : (l.drop k).flatMap jvEnc = (l.flatMap jvEnc).drop (k * 6) := ((jv_take l k (by omega)).2).symm
  rw [e]
  refine ⟨by rw [List.length_drop, h1]; omega, fun h0 => ?_⟩
  obtain ⟨ad', e', hc⟩ := h2 (by omega)
  obtain rfl : ad = ad' := by simpa using e'
  refine ⟨_, rfl, fun j u hu => ?_⟩
  rw [List.getElem?_drop] at hu
  have := hc (k * 6 + j) u hu
  rwa [vx_add]
theorem jn_take {w : World} {A : Option Addr} {n k : Nat} {l : List JV} (h : Go.Vx.Src w 6 A n (l.flatMap jvEnc)) (hl : l.length = n) (hk : k ≤ n) : Go.Vx.Src w 6 A k ((l.take k).flatMap jvEnc) := by
  obtain ⟨h1, h2⟩ := h
  have e : (l.take k).flatMap jvEnc = (l.flatMap jvEnc).take (k * 6) := ((jv_take l k (by omega)).1).symm
  rw [e]
  refine ⟨by rw [List.length_take, h1]; omega, fun h0 => ?_⟩
  obtain ⟨ad, rfl, hc⟩ := h2 (by omega)
  refine ⟨_, rfl, fun j u hu => ?_⟩
  rw [List.getElem?_take] at hu
  split at hu
  · exact hc j u hu
  · simp at hu
/-- A region of a text, by its number. -/
def regAt (n : Nat) : Code → Option Code
  | .region i ops d => if i = n then some (.region i ops d) else none
  | .seq a b => match regAt n a with
    | some c => some c
    | none => regAt n b
  | .cond _ a b => match regAt n a with
    | some c => some c
    | none => regAt n b
  | .block _ c => regAt n c
  | .loop c => regAt n c
  | .scope c => regAt n c
  | _ => none
noncomputable def boReg18 : Code := (Try.f5.body.bind (regAt 18)).getD .skip
set_option maxRecDepth 100000 in
set_option maxHeartbeats 8000000 in
theorem bo_reg18 {w w2 : World} {ad : Addr} {n k c : Nat} {l : List JV} {P : World → Value → Int → World → Prop} (hl : l.length = n) (hk : k < n) (hn : n ≤ 30) (hc : n ≤ c) (hcm : c ≤ 9223372036854775807) (hs : Go.Vx.Src w 6 (some ad) n (l.flatMap jvEnc)) (hone : ∀ x ∈ l, x.pv.oneCell' = true) (hz : Chg [] w w2)
    (hnew : ∀ w4 A4 c4, Chg [] w w4 → Go.Vx.Src w4 6 A4 n ((l.drop k ++ l.take k).flatMap jvEnc) → Calls Try.prog 21 #[.slice A4 n c4] w4 fun e w5 => ∃ v x, e = .returned (.tuple #[v, .int .i64 x]) ∧ P w4 v x w5)
    (x1 x2 x3 x4 x5 x6 x7 x8 x9 x10 x12 x13 x14 x15 x16 x17 x18 x19 x20 x21 x22 x23 x24 x25 x26 x27 x28 x29 x30 x31 x32 x33 x34 x35 x36 x37 x38 x39 x40 x41 x42 x43 x44 x45 x46 x47 x48 x49 x50 x51 x52 x53 x54 x55 x56 x57 x58 x59 x60 x61 x62 x63 x64 x65 x66 x67 x68 x69 x70 x71 x72 x73 x74 x75 x76 x77 x78 x79 x80 x81 x82 x83 x84 x85 x86 x87 x88 x89 x90 x91 x92 x93 x94 x95 x96 x97 x98 x99 x100 x101 x102 x103 x104 x105 x106 x107 x108 x109 x110 x111 x112 x113 x114 x115 x116 x117 x118 x119 : Value) (Q : Exit → Act → World → Prop)
    (hQ : ∀ (w4 w5 : World) (v : Value) (x : Int) (y86 y87 y88 y89 y90 y91 y92 y93 y94 y95 y96 y97 : Value), Chg [] w w4 → P w4 v x w5 → Q .normal ⟨#[.slice (some ad) n c, x1, x2, x3, x4, x5, x6, x7, x8, x9, x10, .int .i64 k, v, .int .i64 x, x14, x15, x16, x17, x18, x19, x20, x21, x22, x23, x24, x25, x26, x27, x28, x29, x30, x31, x32, x33, x34, x35, x36, x37, x38, x39, x40, x41, x42, x43, x44, x45, x46, x47, x48, x49, x50, x51, x52, x53, x54, x55, x56, x57, x58, x59, x60, x61, x62, x63, x64, x65, x66, x67, x68, x69, x70, x71, x72, x73, x74, x75, x76, x77, x78, x79, x80, x81, x82, x83, x84, x85, y86, y87, y88, y89, y90, y91, y92, y93, y94, y95, y96, y97, x98, x99, x100, x101, x102, x103, x104, x105, x106, x107, x108, x109, x110, x111, x112, x113, x114, x115, x116, x117, x118, x119], []⟩ w5) :
    Code.wp Try.prog boReg18 Q ⟨#[.slice (some ad) n c, x1, x2, x3, x4, x5, x6, x7, x8, x9, x10, .int .i64 k, x12, x13, x14, x15, x16, x17, x18, x19, x20, x21, x22, x23, x24, x25, x26, x27, x28, x29, x30, x31, x32, x33, x34, x35, x36, x37, x38, x39, x40, x41, x42, x43, x44, x45, x46, x47, x48, x49, x50, x51, x52, x53, x54, x55, x56, x57, x58, x59, x60, x61, x62, x63, x64, x65, x66, x67, x68, x69, x70, x71, x72, x73, x74, x75, x76, x77, x78, x79, x80, x81, x82, x83, x84, x85, x86, x87, x88, x89, x90, x91, x92, x93, x94, x95, x96, x97, x98, x99, x100, x101, x102, x103, x104, x105, x106, x107, x108, x109, x110, x111, x112, x113, x114, x115, x116, x117, x118, x119], []⟩ w2 := by
  conv => arg 2; whnf
  dsimp only at hQ ⊢
  replace hQ := Lib.hid hQ
  replace hnew := Lib.hid hnew
  obtain ⟨i1, hi1, k0, k1, k2⟩ := info_parts jnInfo
  have hzd : Chg [] w w2.drew := hz.drew
  have g1 : k ≤ n := by omega
  have g2 : k ≤ c := by omega
  have g3 : ¬ c = k := by omega
  have hs1 := Lib.hid fun w' (z : Chg [] w w') => jn_drop (k := k) (hs.chg z (by simp)) hl (by omega)
  have hs2 := Lib.hid fun w' (z : Chg [] w w') => jn_take (k := k) (hs.chg z (by simp)) hl (by omega)
  have ho1 : ∀ u ∈ (l.drop k).flatMap jvEnc, u.oneCell' = true := fun u hu => by
    obtain ⟨x, hx, hu⟩ := List.mem_flatMap.1 hu
    exact one_jv (hone x (List.mem_of_mem_drop hx)) u hu
  have ho2 : ∀ u ∈ (l.take k).flatMap jvEnc, u.oneCell' = true := fun u hu => by
    obtain ⟨x, hx, hu⟩ := List.mem_flatMap.1 hu
    exact one_jv (hone x (List.mem_of_mem_take hx)) u hu
  replace ho1 := Lib.hid ho1
  replace ho2 := Lib.hid ho2
  replace hl := Lib.hid hl
  clear hs hone
  refine wp_region_noPanic ?_
  go_region_law (first
    | (refine step_append_fix rfl _ _ 24 rfl Try.underlying24 hi1 k0 k1 k2 rfl (by omega) (n := 0) (xs := []) (F := []) rfl (Fix.nil _ _ _) rfl (hs1.out _ hzd) ho1.out (by unfold maxLen; omega) (by omega) ?_; intro v3 w3 F3 hA3; have h3 := hA3.fix; simp only [Nat.zero_add, List.nil_append] at h3; have hz3 : Chg [] w w3 := hzd.trans' hA3.chg; have hF3 : ∀ g ∈ F3, w.heap.size ≤ g := fun g hg => (by rcases hA3.foot with e | e <;> rw [e] at hg <;> simp at hg; have := hzd.size; simp at this; omega))
    | (refine step_append_fix rfl _ _ 24 rfl Try.underlying24 hi1 k0 k1 k2 rfl (by omega) rfl h3 rfl (hs2.out _ hz3) ho2.out (by unfold maxLen; omega) (by omega) ?_; intro v4 w4 F4 hA4; have hf4 := hA4.fix; rw [show n - k + k = n by omega] at hf4; obtain ⟨A4, c4, rfl, -⟩ := _root_.id hf4; have h4 : Go.Vx.Src w4 6 A4 n ((l.drop k ++ l.take k).flatMap jvEnc) := (by rw [List.flatMap_append]; exact Fix.src hf4); have hz4 : Chg [] w w4 := hz3.trans hA4.chg (fun g hg => .inr (hF3 g hg)))
    | (go_simp; go_at_call 21; refine (hnew.out _ _ _ hz4 h4).mono ?_; rintro e w5 ⟨v5, x5, rfl, hP⟩))
  all_goals
    refine NoPanic.normal ?_
    exact hQ.out _ _ _ _ _ _ _ _ _ _ _ _ _ _ _ _ hz4 hP
end Go.Proofs.Ytlgfmphjgijilaa
