/- ClothLasts: its last two loops, declarations of their own: what was kept is counted; each row is read. -/
import Derived.Test.YtjbjiomajldkoaaClothLd
namespace Go.Proofs.Ytjbjiomajldkoaa
open Go.RowKit Go.Vx Go.Maps
set_option linter.unusedVariables false
set_option linter.unusedSimpArgs false

set_option maxRecDepth 100000 in
set_option maxHeartbeats 8000000 in
theorem cla_four {w0 : World} {n c m : Nat} {A : Option Addr} {keep : List Bool} {L : List (Int × ByteArray)} (hs : Src w0 1 A n (keep.map .bool)) (hn : n ≤ 80) (hc : n ≤ c) (hcm : c ≤ 9223372036854775807) (hm : L.length = m) (hm6 : m ≤ 60)
    (x0 x1 x3 x4 x5 x6 x7 x8 x9 x10 x11 x12 x13 x14 x16 x19 x20 x21 x22 x23 x24 x25 x26 x27 x28 x29 x30 x31 x32 x33 x34 x35 x36 x37 x38 x39 x40 x41 x42 x43 x44 x45 x46 x47 x48 x49 x50 x51 x52 x53 x54 x55 x56 x57 x58 x59 x60 x61 x62 x63 x64 x65 x66 x67 x68 x69 x70 x71 x72 x73 x74 x75 x76 x77 x78 x79 x80 x81 x82 x83 x84 x85 x86 x87 x88 x89 x90 x91 x92 x93 x94 x95 x96 x97 x98 x99 x100 x101 x102 x103 x104 x105 x106 x107 x108 x109 x110 x111 x112 x113 x114 x115 x116 x117 x118 x119 x120 x121 x122 x123 x124 x125 x126 x127 x128 x129 x130 x131 x132 x133 x134 x135 x136 x137 x138 x139 x140 x141 x142 x143 x144 x145 x146 x147 x148 x149 x150 x151 x152 x153 x154 x155 x156 x157 x158 x159 x160 x161 x162 x163 x164 x165 x166 x167 x168 x169 x170 x171 x172 x173 x174 x175 x176 x177 x178 x179 x180 x181 x182 x183 : Value) (Q : Exit → Act → World → Prop)
    (hQ : ∀ (y18 y126 y127 y128 y129 y130 y131 y132 y133 y134 y135 y136 y137 y138 y139 y140 y141 y142 : Value), Q (.exit 6) ⟨#[x0, x1, .slice A n c, x3, x4, x5, x6, x7, x8, x9, x10, x11, x12, x13, x14, .int .i64 m, x16, .int .i64 ((keptTo L keep m).length : Nat), y18, x19, x20, x21, x22, x23, x24, x25, x26, x27, x28, x29, x30, x31, x32, x33, x34, x35, x36, x37, x38, x39, x40, x41, x42, x43, x44, x45, x46, x47, x48, x49, x50, x51, x52, x53, x54, x55, x56, x57, x58, x59, x60, x61, x62, x63, x64, x65, x66, x67, x68, x69, x70, x71, x72, x73, x74, x75, x76, x77, x78, x79, x80, x81, x82, x83, x84, x85, x86, x87, x88, x89, x90, x91, x92, x93, x94, x95, x96, x97, x98, x99, x100, x101, x102, x103, x104, x105, x106, x107, x108, x109, x110, x111, x112, x113, x114, x115, x116, x117, x118, x119, x120, x121, x122, x123, x124, x125, y126, y127, y128, y129, y130, y131, y132, y133, y134, y135, y136, y137, y138, y139, y140, y141, y142, x143, x144, x145, x146, x147, x148, x149, x150, x151, x152, x153, x154, x155, x156, x157, x158, x159, x160, x161, x162, x163, x164, x165, x166, x167, x168, x169, x170, x171, x172, x173, x174, x175, x176, x177, x178, x179, x180, x181, x182, x183], []⟩ w0) :
    Code.wp Try.prog (claBlock 6) Q ⟨#[x0, x1, .slice A n c, x3, x4, x5, x6, x7, x8, x9, x10, x11, x12, x13, x14, .int .i64 m, x16, .int .i64 0, .int .i64 0, x19, x20, x21, x22, x23, x24, x25, x26, x27, x28, x29, x30, x31, x32, x33, x34, x35, x36, x37, x38, x39, x40, x41, x42, x43, x44, x45, x46, x47, x48, x49, x50, x51, x52, x53, x54, x55, x56, x57, x58, x59, x60, x61, x62, x63, x64, x65, x66, x67, x68, x69, x70, x71, x72, x73, x74, x75, x76, x77, x78, x79, x80, x81, x82, x83, x84, x85, x86, x87, x88, x89, x90, x91, x92, x93, x94, x95, x96, x97, x98, x99, x100, x101, x102, x103, x104, x105, x106, x107, x108, x109, x110, x111, x112, x113, x114, x115, x116, x117, x118, x119, x120, x121, x122, x123, x124, x125, x126, x127, x128, x129, x130, x131, x132, x133, x134, x135, x136, x137, x138, x139, x140, x141, x142, x143, x144, x145, x146, x147, x148, x149, x150, x151, x152, x153, x154, x155, x156, x157, x158, x159, x160, x161, x162, x163, x164, x165, x166, x167, x168, x169, x170, x171, x172, x173, x174, x175, x176, x177, x178, x179, x180, x181, x182, x183], []⟩ w0 := by
  conv => arg 2; whnf
  dsimp only at hQ ⊢
  replace hQ := Lib.hid hQ
  have hkl : keep.length = n := by have := hs.1; simpa using this
  replace hkl := Lib.hid hkl
  replace hm := Lib.hid hm
  go_loopw [17, 18] (fun kv iv wr => ∃ i : Nat, i ≤ n ∧ i ≤ m ∧ iv = .int .i64 i ∧ kv = .int .i64 ((keptTo L keep i).length : Nat) ∧ w0 = wr) (fun _ iv _ => n - (intOf iv).toNat)
  case atStart => exact ⟨0, by omega, by omega, rfl, rfl, rfl⟩
  case round =>
    obtain ⟨i, hi1, hi2, rfl, rfl, rfl⟩ := hrel
    by_cases hgo : i < n ∧ i < m
    · obtain ⟨h1, h2⟩ := hgo
      obtain ⟨ad, rfl, hca⟩ := hs.2 (by omega)
      have d1 := hca i (.bool (keep[i]'(by rw [hkl.out]; exact h1))) (by simp [hkl.out, h1])
      have hst := kept_step L keep (k := i) (by rw [hm.out]; exact h2)
      have hle := keptTo_le L keep i
      have hg : keep.getD i false = keep[i]'(by rw [hkl.out]; exact h1) := by simp [List.getD_eq_getElem?_getD, hkl.out, h1]
      rw [hg] at hst
      clear hca hg
      generalize (keep[i]'(by rw [hkl.out]; exact h1)) = kb at *
      generalize (keptTo L keep i).length = q at *
      replace hst := Lib.hid hst
      cases kb with
      | false =>
        go_wp2_with fail
        refine ⟨⟨i + 1, by omega, by omega, by go_num, ?_⟩, by simp [intOf]; omega⟩
        first
          | (rw [hst.out]; rfl)
          | exact ⟨by rw [hst.out]; rfl, trivial⟩
      | true =>
        go_wp2_with fail
        refine ⟨⟨i + 1, by omega, by omega, by go_num, ?_⟩, by simp [intOf]; omega⟩
        first
          | (rw [hst.out]; go_num)
          | exact ⟨by rw [hst.out]; go_num, trivial⟩
    · have hend : (keptTo L keep i).length = (keptTo L keep m).length := by
        by_cases e : i = m
        · rw [e]
        · have := kept_stay L keep (m - i) i (by rw [hkl.out]; omega)
          rw [show i + (m - i) = m by omega] at this
          exact this.symm
      rw [hend]
      generalize (keptTo L keep m).length = q at *
      clear hend
      rcases (show i = n ∨ (i < n ∧ i = m) by omega) with rfl | ⟨h1, rfl⟩
      · go_wp2_with fail
        exact hQ.out _ _ _ _ _ _ _ _ _ _ _ _ _ _ _ _ _ _
      · go_wp2_with fail
        exact hQ.out _ _ _ _ _ _ _ _ _ _ _ _ _ _ _ _ _ _
set_option maxRecDepth 100000 in
set_option maxHeartbeats 8000000 in
theorem cla_five {w0 : World} {p b8 g lo0 N K : Nat} {pr lo ke : Value} {F G H : List Nat} {P E : List ByteArray} {f : Nat → Option Nat} {T : Nat → List UInt8 → Bool} (hca : ClothAt w0 p pr lo ke (laC P []) F G H) (hP : P.length = 6) (hb8 : Blk w0 b8 28 (six (strCell E))) (hM : MayAt w0 lo0 g N f T) (hf : ∀ j, j < 6 → ∃ b, f j = some b)
    (hgood : ∀ j, T j (P.getD j em).data.toList = true) (hK : K = 0 → P = E) (hsz : ∀ j, (P.getD j em).size ≤ maxLen)
    (x0 x1 x2 x3 x4 x5 x6 x9 x10 x12 x13 x14 x15 x16 x18 x20 x21 x22 x23 x24 x25 x26 x27 x28 x29 x30 x31 x32 x33 x34 x35 x36 x37 x38 x39 x40 x41 x42 x43 x44 x45 x46 x47 x48 x49 x50 x51 x52 x53 x54 x55 x56 x57 x58 x59 x60 x61 x62 x63 x64 x65 x66 x67 x68 x69 x70 x71 x72 x73 x74 x75 x76 x77 x78 x79 x80 x81 x82 x83 x84 x85 x86 x87 x88 x89 x90 x91 x92 x93 x94 x95 x96 x97 x98 x99 x100 x101 x102 x103 x104 x105 x106 x107 x108 x109 x110 x111 x112 x113 x114 x115 x116 x117 x118 x119 x120 x121 x122 x123 x124 x125 x126 x127 x128 x129 x130 x131 x132 x133 x134 x135 x136 x137 x138 x139 x140 x141 x142 x143 x144 x145 x146 x147 x148 x149 x150 x151 x152 x153 x154 x155 x156 x157 x158 x159 x160 x161 x162 x163 x164 x165 x166 x167 x168 x169 x170 x171 x172 x173 x174 x175 x176 x177 x178 x179 x180 x181 x182 x183 : Value) (Q : Exit → Act → World → Prop)
    (hQ : ∀ (wx : World) (y6 y19 y20 y21 y143 y144 y145 y146 y147 y148 y149 y150 y151 y152 y153 y154 y155 y156 y157 y158 y159 y160 y161 y162 y163 y164 y165 y166 y167 y168 y169 y170 y171 y172 y173 : Value), Chg [] w0 wx → Q (.exit 8) ⟨#[x0, x1, x2, x3, x4, x5, y6, .pointer (some ⟨p, 0, none⟩), .pointer (some ⟨b8, 0, none⟩), x9, x10, .pointer (some ⟨g, 0, none⟩), x12, x13, x14, x15, x16, .int .i64 K, x18, y19, y20, y21, x22, x23, x24, x25, x26, x27, x28, x29, x30, x31, x32, x33, x34, x35, x36, x37, x38, x39, x40, x41, x42, x43, x44, x45, x46, x47, x48, x49, x50, x51, x52, x53, x54, x55, x56, x57, x58, x59, x60, x61, x62, x63, x64, x65, x66, x67, x68, x69, x70, x71, x72, x73, x74, x75, x76, x77, x78, x79, x80, x81, x82, x83, x84, x85, x86, x87, x88, x89, x90, x91, x92, x93, x94, x95, x96, x97, x98, x99, x100, x101, x102, x103, x104, x105, x106, x107, x108, x109, x110, x111, x112, x113, x114, x115, x116, x117, x118, x119, x120, x121, x122, x123, x124, x125, x126, x127, x128, x129, x130, x131, x132, x133, x134, x135, x136, x137, x138, x139, x140, x141, x142, y143, y144, y145, y146, y147, y148, y149, y150, y151, y152, y153, y154, y155, y156, y157, y158, y159, y160, y161, y162, y163, y164, y165, y166, y167, y168, y169, y170, y171, y172, y173, x174, x175, x176, x177, x178, x179, x180, x181, x182, x183], []⟩ wx) :
    Code.wp Try.prog (claBlock 8) Q ⟨#[x0, x1, x2, x3, x4, x5, x6, .pointer (some ⟨p, 0, none⟩), .pointer (some ⟨b8, 0, none⟩), x9, x10, .pointer (some ⟨g, 0, none⟩), x12, x13, x14, x15, x16, .int .i64 K, x18, .int .i64 0, x20, x21, x22, x23, x24, x25, x26, x27, x28, x29, x30, x31, x32, x33, x34, x35, x36, x37, x38, x39, x40, x41, x42, x43, x44, x45, x46, x47, x48, x49, x50, x51, x52, x53, x54, x55, x56, x57, x58, x59, x60, x61, x62, x63, x64, x65, x66, x67, x68, x69, x70, x71, x72, x73, x74, x75, x76, x77, x78, x79, x80, x81, x82, x83, x84, x85, x86, x87, x88, x89, x90, x91, x92, x93, x94, x95, x96, x97, x98, x99, x100, x101, x102, x103, x104, x105, x106, x107, x108, x109, x110, x111, x112, x113, x114, x115, x116, x117, x118, x119, x120, x121, x122, x123, x124, x125, x126, x127, x128, x129, x130, x131, x132, x133, x134, x135, x136, x137, x138, x139, x140, x141, x142, x143, x144, x145, x146, x147, x148, x149, x150, x151, x152, x153, x154, x155, x156, x157, x158, x159, x160, x161, x162, x163, x164, x165, x166, x167, x168, x169, x170, x171, x172, x173, x174, x175, x176, x177, x178, x179, x180, x181, x182, x183], []⟩ w0 := by
  conv => arg 2; whnf
  dsimp only at hQ ⊢
  replace hQ := Lib.hid hQ
  replace hgood := Lib.hid hgood
  replace hf := Lib.hid hf
  replace hK := Lib.hid hK
  replace hsz := Lib.hid hsz
  go_loopw [19] (fun iv wr => ∃ i : Nat, i ≤ 6 ∧ iv = .int .i64 i ∧ Chg [] w0 wr) (fun iv _ => 6 - (intOf iv).toNat)
  case atStart => exact ⟨0, by omega, rfl, Chg.refl _ _⟩
  case round =>
    obtain ⟨i, hi, rfl, hz⟩ := hrel
    by_cases hlt : i < 6
    · have hrd := read_at (hca.chg hz (by simp)) i (laC_may hP hlt) (by simp [laC, thr])
      rw [laC_text] at hrd
      obtain ⟨b, hfb⟩ := hf.out i hlt
      have hlk := fun w' (k : Chg [] w0 w') => (((hM.weave k (by simp)).each i b hfb).1).look (hsz.out i)
      simp only [hgood.out i] at hlk
      have c11 := fun w' (k : Chg [] w0 w') => (((hM.weave k (by simp)).blk.cell i).trans (six_get _ hlt))
      have c8 := fun w' (k : Chg [] w0 w') => ((hb8.chg k (by simp)).cell i).trans (six_get _ hlt)
      unfold mapCell at c11
      rw [hfb] at c11
      unfold strCell at c8
      by_cases hk0 : K = 0
      · have hPE := hK.out hk0
        rw [← hPE] at c8
        have b1 : ((K : Int) == 0) = true := by simp [hk0]
        clear hk0 hPE
        generalize P.getD i em = s at *
        clear hgood hf hK hsz
        replace hlk := Lib.hid hlk
        replace c11 := Lib.hid c11
        replace c8 := Lib.hid c8
        go_wp2_with fail
        refine hrd.mono ?_
        rintro e w5 ⟨rfl, hz5⟩
        replace hz5 := hz.trans' hz5
        have l5 := hlk.out _ hz5
        have d11 := c11.out _ hz5
        have d8 := c8.out _ hz5
        clear hrd
        go_wp2_with fail
        exact ⟨⟨i + 1, by omega, by go_num, hz5⟩, by simp [intOf]; omega⟩
      · have b1 : ((K : Int) == 0) = false := by simp; omega
        clear hk0
        generalize P.getD i em = s at *
        clear hgood hf hK hsz c8
        replace hlk := Lib.hid hlk
        replace c11 := Lib.hid c11
        go_wp2_with fail
        refine hrd.mono ?_
        rintro e w5 ⟨rfl, hz5⟩
        replace hz5 := hz.trans' hz5
        have l5 := hlk.out _ hz5
        have d11 := c11.out _ hz5
        clear hrd
        go_wp2_with fail
        exact ⟨⟨i + 1, by omega, by go_num, hz5⟩, by simp [intOf]; omega⟩
    · obtain rfl : i = 6 := by omega
      go_wp2_with fail
      exact hQ.out _ _ _ _ _ _ _ _ _ _ _ _ _ _ _ _ _ _ _ _ _ _ _ _ _ _ _ _ _ _ _ _ _ _ _ _ hz
end Go.Proofs.Ytjbjiomajldkoaa
