/- LineageBases: the walk. -/
import Derived.Test.YtaabkapjdmceaaaLnBs
namespace Go.Proofs.Ytaabkapjdmceaaa
open Go.RowKit Go.Vx Go.Maps Go.Sort
set_option linter.unusedVariables false
set_option linter.unusedSimpArgs false

set_option maxRecDepth 100000 in
set_option maxHeartbeats 8000000 in
theorem bs_block4 {w3 wr0 : World} {rp n c : Nat} {A : Option Addr} {a b : Int} {zA : Option Addr} {zc : Nat} {z : List Nat} {C : Lin0} (hn : n ≤ 30)
    (hIs : ∀ w', Chg [] w3 w' → ∀ x y : Int, Calls Try.prog 12 #[.pointer (some ⟨rp, 0, none⟩), .int .i64 x, .int .i64 y] w' fun e w'' => e = .returned (.bool (isL C x.toNat y.toNat)) ∧ Chg [] w' w'')
    (hcov : ∀ x, isL C x a.toNat = true → isL C x b.toNat = true → (z.any fun y => isL C x y) = true) (hzl : z.length ≤ zc) (hzm : zc ≤ maxLen)
    (hzc : ∀ w', Chg [] w3 w' → ∀ k, (hk : k < z.length) → ∃ ad, zA = some ad ∧ w'.cell? (ad.add k) = some (.int .i64 (z[k] : Nat))) (hz0 : Chg [] w3 wr0)
    (x3 x4 x5 x6 x7 x9 x11 x12 x14 x15 x16 x17 x18 x19 x20 x21 x22 x23 x24 x25 x26 x27 x28 x29 x30 x31 x32 x33 x34 x35 x36 x37 x38 x39 x40 x41 x42 x43 x44 x45 x46 x47 x48 x49 x50 x51 x52 x53 x54 x55 x56 x57 x58 x59 x60 x61 x62 x63 x64 x65 x66 x67 x68 x69 x70 x71 x72 x73 x74 x75 x76 x77 x78 x79 x80 x81 x82 x83 x84 x85 x86 x87 x88 x89 x90 x91 x92 x93 x94 x95 x96 x97 x98 x99 x100 x101 x102 x103 x104 x105 x106 x107 x108 x109 x110 x111 x112 x113 x114 x115 x116 x117 x118 x119 x120 x121 x122 x123 x124 x125 x126 x127 x128 x129 x130 x131 x132 x133 x134 x135 x136 x137 x138 x139 x140 x141 x142 x143 : Value) (Q : Exit → Act → World → Prop)
    (hQ : ∀ (wx : World) (y6 y13 y14 y15 y83 y84 y85 y86 y87 y88 y89 y90 y91 y92 y93 y94 y95 y96 y97 y98 y99 y100 y101 y102 y103 y104 y105 y106 y107 y108 y109 y110 y111 y112 y113 y114 y115 y116 y117 y118 : Value), Chg [] w3 wx → Q (.exit 4) ⟨#[.slice A n c, .int .i64 a, .int .i64 b, x3, x4, x5, y6, x7, .pointer (some ⟨rp, 0, none⟩), x9, .slice zA z.length zc, x11, x12, y13, y14, y15, x16, x17, x18, x19, x20, x21, x22, x23, x24, x25, x26, x27, x28, x29, x30, x31, x32, x33, x34, x35, x36, x37, x38, x39, x40, x41, x42, x43, x44, x45, x46, x47, x48, x49, x50, x51, x52, x53, x54, x55, x56, x57, x58, x59, x60, x61, x62, x63, x64, x65, x66, x67, x68, x69, x70, x71, x72, x73, x74, x75, x76, x77, x78, x79, x80, x81, x82, y83, y84, y85, y86, y87, y88, y89, y90, y91, y92, y93, y94, y95, y96, y97, y98, y99, y100, y101, y102, y103, y104, y105, y106, y107, y108, y109, y110, y111, y112, y113, y114, y115, y116, y117, y118, x119, x120, x121, x122, x123, x124, x125, x126, x127, x128, x129, x130, x131, x132, x133, x134, x135, x136, x137, x138, x139, x140, x141, x142, x143], []⟩ wx) :
    Code.wp Try.prog bsBlock4 Q ⟨#[.slice A n c, .int .i64 a, .int .i64 b, x3, x4, x5, x6, x7, .pointer (some ⟨rp, 0, none⟩), x9, .slice zA z.length zc, x11, x12, .int .i64 1, x14, x15, x16, x17, x18, x19, x20, x21, x22, x23, x24, x25, x26, x27, x28, x29, x30, x31, x32, x33, x34, x35, x36, x37, x38, x39, x40, x41, x42, x43, x44, x45, x46, x47, x48, x49, x50, x51, x52, x53, x54, x55, x56, x57, x58, x59, x60, x61, x62, x63, x64, x65, x66, x67, x68, x69, x70, x71, x72, x73, x74, x75, x76, x77, x78, x79, x80, x81, x82, x83, x84, x85, x86, x87, x88, x89, x90, x91, x92, x93, x94, x95, x96, x97, x98, x99, x100, x101, x102, x103, x104, x105, x106, x107, x108, x109, x110, x111, x112, x113, x114, x115, x116, x117, x118, x119, x120, x121, x122, x123, x124, x125, x126, x127, x128, x129, x130, x131, x132, x133, x134, x135, x136, x137, x138, x139, x140, x141, x142, x143], []⟩ wr0 := by
  conv => arg 2; whnf
  dsimp only at hQ ⊢
  replace hQ := Lib.hid hQ
  have hzl2 : zc ≤ 9223372036854775807 := hzm
  go_loopw [13] (fun iv wr => ∃ i : Nat, i ≤ n ∧ iv = .int .i64 ((i + 1 : Nat) : Int) ∧ Chg [] w3 wr) (fun iv _ => n + 1 - (intOf iv).toNat)
  case atStart => exact ⟨0, by omega, rfl, hz0⟩
  case round =>
    clear hz0
    obtain ⟨i, hi, rfl, hz⟩ := hrel
    by_cases hlt : i < n
    · have hI1 := hIs _ hz ((i + 1 : Nat) : Int) a
      have hI2 := fun w' (k : Chg [] w3 w') => hIs _ k ((i + 1 : Nat) : Int) b
      have hI3 := fun w' (k : Chg [] w3 w') (y : Nat) => hIs _ k ((i + 1 : Nat) : Int) (y : Int)
      simp only [Int.toNat_natCast] at hI1 hI2 hI3
      have hcv := hcov (i + 1)
      clear hcov
      cases e1 : isL C (i + 1) a.toNat with
      | false =>
        rw [e1] at hI1
        clear hcv e1
        go_wp2_with fail
        refine hI1.mono ?_
        rintro e w4 ⟨rfl, hz4⟩
        go_wp2_with fail
        exact ⟨⟨i + 1, by omega, by go_num, hz.trans' hz4⟩, by simp [intOf]; omega⟩
      | true =>
        rw [e1] at hI1
        cases e2 : isL C (i + 1) b.toNat with
        | false =>
          rw [e2] at hI2
          clear hcv e1 e2
          go_wp2_with fail
          refine hI1.mono ?_
          rintro e w4 ⟨rfl, hz4⟩
          go_wp2_with fail
          refine (hI2 _ (hz.trans' hz4)).mono ?_
          rintro e w5 ⟨rfl, hz5⟩
          go_wp2_with fail
          exact ⟨⟨i + 1, by omega, by go_num, (hz.trans' hz4).trans' hz5⟩, by simp [intOf]; omega⟩
        | true =>
          rw [e2] at hI2
          replace hcv := hcv e1 e2
          clear e1 e2
          go_wp2_with fail
          refine hI1.mono ?_
          rintro e w4 ⟨rfl, hz4⟩
          go_wp2_with fail
          refine (hI2 _ (hz.trans' hz4)).mono ?_
          rintro e w5 ⟨rfl, hz5⟩
          replace hz5 := (hz.trans' hz4).trans' hz5
          clear hI1 hI2 hz4 hz
          go_wp2_with fail
          go_loopw [14, 15] (fun cv kv wr => ∃ k : Nat, k ≤ z.length ∧ kv = .int .i64 k ∧ cv = .bool ((z.take k).any fun y => isL C (i + 1) y) ∧ Chg [] w3 wr) (fun _ kv _ => z.length - (intOf kv).toNat)
          case atStart => exact ⟨0, by omega, rfl, rfl, hz5⟩
          case round =>
            clear hz5
            obtain ⟨k, hk, rfl, rfl, hz⟩ := hrel
            by_cases hltk : k < z.length
            · obtain ⟨ad, rfl, c1⟩ := hzc _ hz k hltk
              have htk : ((z.take (k + 1)).any fun y => isL C (i + 1) y) = (((z.take k).any fun y => isL C (i + 1) y) || isL C (i + 1) z[k]) := by
                rw [List.take_succ_eq_append_getElem hltk, List.any_append]
                simp
              have hI := hI3 _ hz z[k]
              generalize isL C (i + 1) z[k] = b2 at *
              cases hb : (z.take k).any fun y => isL C (i + 1) y with
              | true =>
                rw [hb] at htk
                replace htk := Lib.hid htk
                clear hI hb hcv
                go_wp2_with fail
                exact ⟨⟨k + 1, by omega, by go_num, by rw [htk.out]; rfl, hz⟩, by simp [intOf]; omega⟩
              | false =>
                rw [hb] at htk
                replace htk := Lib.hid htk
                clear hb hcv
                go_wp2_with fail
                refine hI.mono ?_
                rintro e w6 ⟨rfl, hz6⟩
                go_wp2_with fail
                exact ⟨⟨k + 1, by omega, by go_num, by rw [htk.out]; rfl, hz.trans' hz6⟩, by simp [intOf]; omega⟩
            · obtain rfl : k = z.length := by omega
              rw [List.take_length, hcv]
              clear hcv
              go_wp2_with fail
              exact ⟨⟨i + 1, by omega, by go_num, hz⟩, by simp [intOf]; omega⟩
    · obtain rfl : i = n := by omega
      clear hcov hzc
      go_wp2_with fail
      exact hQ.out _ _ _ _ _ _ _ _ _ _ _ _ _ _ _ _ _ _ _ _ _ _ _ _ _ _ _ _ _ _ _ _ _ _ _ _ _ _ _ _ _ hz
end Go.Proofs.Ytaabkapjdmceaaa
