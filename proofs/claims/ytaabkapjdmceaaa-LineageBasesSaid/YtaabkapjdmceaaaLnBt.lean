/- LineageBases: the walk. -/
import Derived.Test.YtaabkapjdmceaaaLnBs
namespace Go.Proofs.Ytaabkapjdmceaaa
open Go.RowKit Go.Vx Go.Maps Go.Sort
set_option linter.unusedVariables false
set_option linter.unusedSimpArgs false

theorem getD_at (z : List Nat) {k : Nat} (h : k < z.length) : z.getD k 0 = z[k] := by simp [List.getD_eq_getElem?_getD, h]
set_option maxRecDepth 100000 in
set_option maxHeartbeats 8000000 in
theorem bs_block0 {w3 wr0 : World} {rp : Nat} {a b : Int} {zA : Option Addr} {zc : Nat} {z : List Nat} {C : Lin0}
    (hIs : ∀ w', Chg [] w3 w' → ∀ x y : Int, Calls Try.prog 12 #[.pointer (some ⟨rp, 0, none⟩), .int .i64 x, .int .i64 y] w' fun e w'' => e = .returned (.bool (isL C x.toNat y.toNat)) ∧ Chg [] w' w'')
    (hisz : ∀ x ∈ z, isL C x a.toNat = true ∧ isL C x b.toNat = true) (hap : ∀ x y, x ∈ z → y ∈ z → x ≠ y → isL C x y = false) (hnd : z.Nodup) (hzl : z.length ≤ zc) (hzm : zc ≤ maxLen)
    (hzc : ∀ w', Chg [] w3 w' → ∀ k, (hk : k < z.length) → ∃ ad, zA = some ad ∧ w'.cell? (ad.add k) = some (.int .i64 (z[k] : Nat))) (hz0 : Chg [] w3 wr0)
    (x0 x3 x4 x5 x6 x7 x9 x12 x13 x14 x15 x16 x17 x18 x19 x20 x21 x22 x23 x24 x25 x26 x27 x28 x29 x30 x31 x32 x33 x34 x35 x36 x37 x38 x39 x40 x41 x42 x43 x44 x45 x46 x47 x48 x49 x50 x51 x52 x53 x54 x55 x56 x57 x58 x59 x60 x61 x62 x63 x64 x65 x66 x67 x68 x69 x70 x71 x72 x73 x74 x75 x76 x77 x78 x79 x80 x81 x82 x83 x84 x85 x86 x87 x88 x89 x90 x91 x92 x93 x94 x95 x96 x97 x98 x99 x100 x101 x102 x103 x104 x105 x106 x107 x108 x109 x110 x111 x112 x113 x114 x115 x116 x117 x118 x119 x120 x121 x122 x123 x124 x125 x126 x127 x128 x129 x130 x131 x132 x133 x134 x135 x136 x137 x138 x139 x140 x141 x142 x143 : Value) (Q : Exit → Act → World → Prop)
    (hQ : ∀ (wx : World) (y6 y11 y12 y38 y39 y40 y41 y42 y43 y44 y45 y46 y47 y48 y49 y50 y51 y52 y53 y54 y55 y56 y57 y58 y59 y60 y61 y62 y63 y64 y65 y66 y67 y68 y69 y70 y71 y72 y73 y74 y75 y76 y77 y78 y79 y80 y81 y82 : Value), Chg [] w3 wx → Q (.exit 0) ⟨#[x0, .int .i64 a, .int .i64 b, x3, x4, x5, y6, x7, .pointer (some ⟨rp, 0, none⟩), x9, .slice zA z.length zc, y11, y12, x13, x14, x15, x16, x17, x18, x19, x20, x21, x22, x23, x24, x25, x26, x27, x28, x29, x30, x31, x32, x33, x34, x35, x36, x37, y38, y39, y40, y41, y42, y43, y44, y45, y46, y47, y48, y49, y50, y51, y52, y53, y54, y55, y56, y57, y58, y59, y60, y61, y62, y63, y64, y65, y66, y67, y68, y69, y70, y71, y72, y73, y74, y75, y76, y77, y78, y79, y80, y81, y82, x83, x84, x85, x86, x87, x88, x89, x90, x91, x92, x93, x94, x95, x96, x97, x98, x99, x100, x101, x102, x103, x104, x105, x106, x107, x108, x109, x110, x111, x112, x113, x114, x115, x116, x117, x118, x119, x120, x121, x122, x123, x124, x125, x126, x127, x128, x129, x130, x131, x132, x133, x134, x135, x136, x137, x138, x139, x140, x141, x142, x143], []⟩ wx) :
    Code.wp Try.prog bsBlock0 Q ⟨#[x0, .int .i64 a, .int .i64 b, x3, x4, x5, x6, x7, .pointer (some ⟨rp, 0, none⟩), x9, .slice zA z.length zc, .int .i64 0, x12, x13, x14, x15, x16, x17, x18, x19, x20, x21, x22, x23, x24, x25, x26, x27, x28, x29, x30, x31, x32, x33, x34, x35, x36, x37, x38, x39, x40, x41, x42, x43, x44, x45, x46, x47, x48, x49, x50, x51, x52, x53, x54, x55, x56, x57, x58, x59, x60, x61, x62, x63, x64, x65, x66, x67, x68, x69, x70, x71, x72, x73, x74, x75, x76, x77, x78, x79, x80, x81, x82, x83, x84, x85, x86, x87, x88, x89, x90, x91, x92, x93, x94, x95, x96, x97, x98, x99, x100, x101, x102, x103, x104, x105, x106, x107, x108, x109, x110, x111, x112, x113, x114, x115, x116, x117, x118, x119, x120, x121, x122, x123, x124, x125, x126, x127, x128, x129, x130, x131, x132, x133, x134, x135, x136, x137, x138, x139, x140, x141, x142, x143], []⟩ wr0 := by
  conv => arg 2; whnf
  dsimp only at hQ ⊢
  replace hQ := Lib.hid hQ
  have hzl2 : zc ≤ 9223372036854775807 := hzm
  go_loopw [11] (fun iv wr => ∃ i : Nat, i ≤ z.length ∧ iv = .int .i64 i ∧ Chg [] w3 wr) (fun iv _ => z.length - (intOf iv).toNat)
  case atStart => exact ⟨0, by omega, rfl, hz0⟩
  case round =>
    clear hz0
    obtain ⟨i, hi, rfl, hz⟩ := hrel
    by_cases hlt : i < z.length
    · obtain ⟨ad, rfl, c1⟩ := hzc _ hz i hlt
      obtain ⟨e1, e2⟩ := hisz _ (List.getElem_mem hlt)
      have hI1 := hIs _ hz (z[i] : Nat) a
      have hI2 := fun w' (k : Chg [] w3 w') => hIs _ k (z[i] : Nat) b
      rw [Int.toNat_natCast, e1] at hI1
      simp only [Int.toNat_natCast, e2] at hI2
      clear e1 e2
      have hc1 : ∀ w', Chg [] wr w' → w'.cell? (ad.add i) = some (.int .i64 (z[i] : Nat)) := fun w' k => (k.cell (World.block_lt_of_cell? _ _ c1) (by simp)).trans c1
      go_wp2_with fail
      refine hI1.mono ?_
      rintro e w4 ⟨rfl, hz4⟩
      have c2 := hc1 _ hz4
      go_wp2_with fail
      refine (hI2 _ (hz.trans' hz4)).mono ?_
      rintro e w5 ⟨rfl, hz5⟩
      replace hz5 := (hz.trans' hz4).trans' hz5
      clear hI1 hI2 c1 c2 hz4 hc1
      go_wp2_with fail
      clear hz
      go_loopw [12] (fun kv wr => ∃ k : Nat, k ≤ z.length ∧ kv = .int .i64 k ∧ Chg [] w3 wr) (fun kv _ => z.length - (intOf kv).toNat)
      case atStart => exact ⟨0, by omega, rfl, hz5⟩
      case round =>
        clear hz5
        obtain ⟨k, hk, rfl, hz⟩ := hrel
        by_cases hltk : k < z.length
        · have hreg := bs_reg15 (wr := wr) (rp := rp) (i := i) (k := k) (zA := some ad) (zc := zc) (z := z) (C := C)
            (fun hne => by
              have := hIs wr.drew hz.drew (z.getD i 0 : Nat) (z.getD k 0 : Nat)
              have e : isL C (z.getD i 0) (z.getD k 0) = false := by
                rw [getD_at z hlt, getD_at z hltk]
                exact hap _ _ (List.getElem_mem hlt) (List.getElem_mem hltk) (nodup_ne hnd hlt hltk hne)
              rw [Int.toNat_natCast, Int.toNat_natCast, e] at this
              exact this)
            hlt hltk hzl hzm (fun j hj => by rw [getD_at z hj]; exact hzc _ hz.drew j hj)
          have hlt' := Lib.hid hltk
          go_upto_region 15 with fail
          refine hreg _ _ _ _ _ _ _ _ _ _ _ _ _ _ _ _ _ _ _ _ _ _ _ _ _ _ _ _ _ _ _ _ _ _ _ _ _ _ _ _ _ _ _ _ _ _ _ _ _ _ _ _ _ _ _ _ _ _ _ _ _ _ _ _ _ _ _ _ _ _ _ _ _ _ _ _ _ _ _ _ _ _ _ _ _ _ _ _ _ _ _ _ _ _ _ _ _ _ _ _ _ _ _ _ _ _ _ _ _ _ _ _ _ _ _ _ _ _ _ _ _ _ _ _ _ _ _ _ _ _ _ _ _ _ _ _ _ _ _ _ _ ?_
          clear hreg
          intro wx y68 y69 y70 y71 y72 y73 y74 y75 y76 y77 y78 y79 y80 y81 hzx
          go_wp2_with fail
          exact ⟨⟨k + 1, by omega, by go_num, hz.trans' hzx⟩, by simp [intOf]; omega⟩
        · obtain rfl : k = z.length := by omega
          go_wp2_with fail
          exact ⟨⟨i + 1, by omega, by go_num, hz⟩, by simp [intOf]; omega⟩
    · obtain rfl : i = z.length := by omega
      clear hlt hi hisz hap hnd
      go_wp2_with fail
      exact hQ.out _ _ _ _ _ _ _ _ _ _ _ _ _ _ _ _ _ _ _ _ _ _ _ _ _ _ _ _ _ _ _ _ _ _ _ _ _ _ _ _ _ _ _ _ _ _ _ _ _ hz
end Go.Proofs.Ytaabkapjdmceaaa
