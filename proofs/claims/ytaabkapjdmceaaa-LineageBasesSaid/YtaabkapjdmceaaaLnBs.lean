/- LineageBases. -/
import Derived.Test.YtaabkapjdmceaaaLnZ
import Derived.StillTailTactics
namespace Go.Proofs.Ytaabkapjdmceaaa
open Go.RowKit Go.Vx Go.Maps Go.Sort
set_option linter.unusedVariables false
set_option linter.unusedSimpArgs false

theorem isL_nat {C : Lin0} (hC : WfL C) {a b : Int} (h : isL C a.toNat b.toNat = true) : ((a.toNat : Nat) : Int) = a := by
  obtain ⟨hb, hab⟩ := (isL_iff hC).1 h
  have := isThere_iff.1 (hab.there hC hb).1
  omega
theorem nodup_ne {z : List Nat} (h : z.Nodup) {i k : Nat} (hi : i < z.length) (hk : k < z.length) (hne : i ≠ k) : z[i] ≠ z[k] := by
  rcases Nat.lt_or_gt_of_ne hne with h1 | h1
  · exact List.pairwise_iff_getElem.1 h i k hi hk h1
  · exact fun e => List.pairwise_iff_getElem.1 h k i hk hi h1 e.symm
/-- A region of a text, by its number. -/
def regAt (n : Nat) : Code → Option Code
  | .region i ops d => if i = n then some (.region i ops d) else none
  | .seq a b => match regAt n a with
    | some c => some c
    | none => regAt n b
  | .cond _ a b => match regAt n a with
    | some c => some c
    | none => regAt n b
  | .block _ c => regAt n c
  | .loop c => regAt n c
  | .scope c => regAt n c
  | _ => none
/-- A block of a text, by its number. -/
def blockAt (n : Nat) : Code → Option Code
  | .block i c => if i = n then some (.block i c) else blockAt n c
  | .seq a b => match blockAt n a with
    | some c => some c
    | none => blockAt n b
  | .cond _ a b => match blockAt n a with
    | some c => some c
    | none => blockAt n b
  | .loop c => blockAt n c
  | .scope c => blockAt n c
  | _ => none
noncomputable def bsReg15 : Code := (Try.f4.body.bind (regAt 15)).getD .skip
/-- What stands in a block. -/
def inAt (n : Nat) (c : Code) : Option Code := match blockAt n c with
  | some (.block _ c) => some c
  | _ => none
noncomputable def bsBlock0 : Code := (Try.f4.body.bind (inAt 0)).getD .skip
noncomputable def bsBlock4 : Code := (Try.f4.body.bind (inAt 4)).getD .skip
set_option maxRecDepth 100000 in
set_option maxHeartbeats 8000000 in
theorem bs_reg15 {wr : World} {rp i k : Nat} {zA : Option Addr} {zc : Nat} {z : List Nat} {C : Lin0} (hI1 : i ≠ k → Calls Try.prog 12 #[.pointer (some ⟨rp, 0, none⟩), .int .i64 (z.getD i 0 : Nat), .int .i64 (z.getD k 0 : Nat)] wr.drew fun e w'' => e = .returned (.bool false) ∧ Chg [] wr.drew w'') (hi : i < z.length) (hk : k < z.length) (hzc : z.length ≤ zc) (hzm : zc ≤ maxLen)
    (hc : ∀ j, j < z.length → ∃ ad, zA = some ad ∧ wr.drew.cell? (ad.add j) = some (.int .i64 (z.getD j 0 : Nat)))
    (x0 x1 x2 x3 x4 x5 x6 x7 x9 x13 x14 x15 x16 x17 x18 x19 x20 x21 x22 x23 x24 x25 x26 x27 x28 x29 x30 x31 x32 x33 x34 x35 x36 x37 x38 x39 x40 x41 x42 x43 x44 x45 x46 x47 x48 x49 x50 x51 x52 x53 x54 x55 x56 x57 x58 x59 x60 x61 x62 x63 x64 x65 x66 x67 x68 x69 x70 x71 x72 x73 x74 x75 x76 x77 x78 x79 x80 x81 x82 x83 x84 x85 x86 x87 x88 x89 x90 x91 x92 x93 x94 x95 x96 x97 x98 x99 x100 x101 x102 x103 x104 x105 x106 x107 x108 x109 x110 x111 x112 x113 x114 x115 x116 x117 x118 x119 x120 x121 x122 x123 x124 x125 x126 x127 x128 x129 x130 x131 x132 x133 x134 x135 x136 x137 x138 x139 x140 x141 x142 x143 : Value) (Q : Exit → Act → World → Prop)
    (hQ : ∀ (wx : World) (y68 y69 y70 y71 y72 y73 y74 y75 y76 y77 y78 y79 y80 y81 : Value), Chg [] wr wx → Q .normal ⟨#[x0, x1, x2, x3, x4, x5, x6, x7, .pointer (some ⟨rp, 0, none⟩), x9, .slice zA z.length zc, .int .i64 i, .int .i64 k, x13, x14, x15, x16, x17, x18, x19, x20, x21, x22, x23, x24, x25, x26, x27, x28, x29, x30, x31, x32, x33, x34, x35, x36, x37, x38, x39, x40, x41, x42, x43, x44, x45, x46, x47, x48, x49, x50, x51, x52, x53, x54, x55, x56, x57, x58, x59, x60, x61, x62, x63, x64, x65, x66, x67, y68, y69, y70, y71, y72, y73, y74, y75, y76, y77, y78, y79, y80, y81, .bool false, x83, x84, x85, x86, x87, x88, x89, x90, x91, x92, x93, x94, x95, x96, x97, x98, x99, x100, x101, x102, x103, x104, x105, x106, x107, x108, x109, x110, x111, x112, x113, x114, x115, x116, x117, x118, x119, x120, x121, x122, x123, x124, x125, x126, x127, x128, x129, x130, x131, x132, x133, x134, x135, x136, x137, x138, x139, x140, x141, x142, x143], []⟩ wx) :
    Code.wp Try.prog bsReg15 Q ⟨#[x0, x1, x2, x3, x4, x5, x6, x7, .pointer (some ⟨rp, 0, none⟩), x9, .slice zA z.length zc, .int .i64 i, .int .i64 k, x13, x14, x15, x16, x17, x18, x19, x20, x21, x22, x23, x24, x25, x26, x27, x28, x29, x30, x31, x32, x33, x34, x35, x36, x37, x38, x39, x40, x41, x42, x43, x44, x45, x46, x47, x48, x49, x50, x51, x52, x53, x54, x55, x56, x57, x58, x59, x60, x61, x62, x63, x64, x65, x66, x67, x68, x69, x70, x71, x72, x73, x74, x75, x76, x77, x78, x79, x80, x81, x82, x83, x84, x85, x86, x87, x88, x89, x90, x91, x92, x93, x94, x95, x96, x97, x98, x99, x100, x101, x102, x103, x104, x105, x106, x107, x108, x109, x110, x111, x112, x113, x114, x115, x116, x117, x118, x119, x120, x121, x122, x123, x124, x125, x126, x127, x128, x129, x130, x131, x132, x133, x134, x135, x136, x137, x138, x139, x140, x141, x142, x143], []⟩ wr := by
  conv => arg 2; whnf
  dsimp only at hQ ⊢
  replace hQ := Lib.hid hQ
  unfold maxLen at hzm
  by_cases hik : i = k
  · have b1 : ((i : Int) == (k : Int)) = true := by simp; omega
    have b2 : ((i : Int) != (k : Int)) = false := by simp; omega
    have hz0 : Chg [] wr wr.drew := (Chg.refl [] wr).drew
    clear hI1 hc
    refine wp_region_noPanic ?_
    go_region
    refine NoPanic.normal ?_
    exact hQ.out _ _ _ _ _ _ _ _ _ _ _ _ _ _ _ hz0
  · have b1 : ((i : Int) == (k : Int)) = false := by simp; omega
    have b2 : ((i : Int) != (k : Int)) = true := by simp; omega
    obtain ⟨ad, rfl, c1⟩ := hc i hi
    obtain ⟨ad', hq, c2⟩ := hc k hk
    cases hq
    replace hI1 := hI1 hik
    clear hc
    generalize ((z.getD i 0 : Nat) : Int) = zi at *
    generalize ((z.getD k 0 : Nat) : Int) = zk at *
    have hz0 : Chg [] wr wr.drew := (Chg.refl [] wr).drew
    go_still_tail 13, (by kernel_rfl)
    change wpList _ _ _ _ _ wr.drew
    go_wp2_with fail
    refine hI1.mono ?_
    rintro e w6 ⟨rfl, hz6⟩
    go_wp2_with fail
    exact hQ.out _ _ _ _ _ _ _ _ _ _ _ _ _ _ _ (hz0.trans' hz6)
end Go.Proofs.Ytaabkapjdmceaaa
