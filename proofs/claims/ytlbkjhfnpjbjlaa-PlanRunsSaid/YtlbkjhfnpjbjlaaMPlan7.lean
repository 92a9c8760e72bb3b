/- Parts of the proofs of Plan: contracts of the functions that they reach, in their order. -/
import Derived.Test.YtlbkjhfnpjbjlaaMPlan6
import Derived.Deep.QuietTactic
import Derived.OpenShut
/- Plan: the reference's CheckPlan, its front. Printed by wip/plq.py. -/
namespace Go.Proofs.Ytlbkjhfnpjbjlaa
open Go.RowKit Go.Vx
set_option linter.unusedVariables false
set_option linter.unusedSimpArgs false

/-- A region of a text, by its number. -/
def regAt (n : Nat) : Code → Option Code
  | .region i ops d => if i = n then some (.region i ops d) else none
  | .seq a b => match regAt n a with
    | some c => some c
    | none => regAt n b
  | .cond _ a b => match regAt n a with
    | some c => some c
    | none => regAt n b
  | .block _ c => regAt n c
  | .loop c => regAt n c
  | .scope c => regAt n c
  | _ => none
/-- A block of a text, by its number. -/
def blockAt (n : Nat) : Code → Option Code
  | .block i c => if i = n then some (.block i c) else blockAt n c
  | .seq a b => match blockAt n a with
    | some c => some c
    | none => blockAt n b
  | .cond _ a b => match blockAt n a with
    | some c => some c
    | none => blockAt n b
  | .loop c => blockAt n c
  | .scope c => blockAt n c
  | _ => none
/-- What stands in a block. -/
def inAt (n : Nat) (c : Code) : Option Code := match blockAt n c with
  | some (.block _ c) => some c
  | _ => none
noncomputable def cpReg1 : Code := (Try.f8.body.bind (regAt 1)).getD .skip
set_option maxRecDepth 100000 in
set_option maxHeartbeats 8000000 in
theorem cp_front_a {kind id ent frm til every amt deb cred rank : Int} {tg wt : List Int} {tA wA : Option Addr} {tn wn tc wc : Nat} {w : World} {p : Nat} (hB : Blk w p 27 #[.int .i64 kind, .int .i64 id, .int .i64 ent, .int .i64 frm, .int .i64 til, .int .i64 every, .int .i64 amt, .int .i64 deb, .int .i64 cred, .slice tA tn tc, .slice wA wn wc, .int .i64 rank]) (hh : (decide (1 ≤ id) && decide (id ≤ 999999) && decide (1 ≤ ent) && decide (ent ≤ 9) && perB frm && perB til) = false)
    (x0 x2 x3 x4 x5 x6 x7 x8 x9 x10 x11 x12 x13 x14 x15 x16 x17 x18 x19 x20 x21 x22 x23 x24 x25 x26 x27 x28 x29 x30 x31 x32 x33 x34 x35 x36 x37 x38 x39 x40 x41 x42 x43 x44 x45 x46 x47 x48 x49 x50 x51 x52 x53 x54 x55 x56 x57 x58 x59 x60 x61 x62 x63 x64 x65 x66 x67 x68 x69 x70 x71 x72 x73 x74 x75 x76 x77 x78 x79 x80 x81 x82 x83 x84 x85 x86 x87 x88 x89 x90 x91 x92 x93 x94 x95 x96 x97 x98 x99 x100 x101 x102 x103 x104 x105 x106 x107 x108 x109 x110 x111 x112 x113 x114 x115 x116 x117 x118 x119 x120 x121 x122 x123 x124 x125 x126 x127 x128 x129 x130 x131 x132 x133 x134 x135 x136 x137 x138 x139 x140 x141 x142 x143 x144 x145 x146 x147 x148 x149 x150 x151 x152 x153 x154 x155 x156 x157 x158 x159 x160 x161 x162 x163 x164 x165 x166 x167 x168 x169 x170 : Value) (Q : Exit → Act → World → Prop)
    (hQ : ∀ (y7 y8 y9 y10 y11 y12 y13 y14 y15 y16 y17 y18 y19 y20 y21 y22 y23 y24 y25 y26 y27 y28 y29 y30 y31 y32 y33 y34 y35 y36 y37 y38 y39 y40 y41 y42 y43 y44 y45 y46 y47 y48 y49 y50 y51 y52 y53 y54 y55 y56 y57 y58 y59 y60 y61 y62 y63 y64 y65 y66 : Value), Q .normal ⟨#[x0, .pointer (some ⟨p, 0, none⟩), x2, .bool (frontT ⟨kind, id, ent, frm, til, every, amt, deb, cred, tg, wt, rank⟩), x4, x5, x6, y7, y8, y9, y10, y11, y12, y13, y14, y15, y16, y17, y18, y19, y20, y21, y22, y23, y24, y25, y26, y27, y28, y29, y30, y31, y32, y33, y34, y35, y36, y37, y38, y39, y40, y41, y42, y43, y44, y45, y46, y47, y48, y49, y50, y51, y52, y53, y54, y55, y56, y57, y58, y59, y60, y61, y62, y63, y64, y65, y66, x67, x68, x69, x70, x71, x72, x73, x74, x75, x76, x77, x78, x79, x80, x81, x82, x83, x84, x85, x86, x87, x88, x89, x90, x91, x92, x93, x94, x95, x96, x97, x98, x99, x100, x101, x102, x103, x104, x105, x106, x107, x108, x109, x110, x111, x112, x113, x114, x115, x116, x117, x118, x119, x120, x121, x122, x123, x124, x125, x126, x127, x128, x129, x130, x131, x132, x133, x134, x135, x136, x137, x138, x139, x140, x141, x142, x143, x144, x145, x146, x147, x148, x149, x150, x151, x152, x153, x154, x155, x156, x157, x158, x159, x160, x161, x162, x163, x164, x165, x166, x167, x168, x169, x170], []⟩ w) :
    Code.wp Try.prog cpReg1 Q ⟨#[x0, .pointer (some ⟨p, 0, none⟩), x2, x3, x4, x5, x6, x7, x8, x9, x10, x11, x12, x13, x14, x15, x16, x17, x18, x19, x20, x21, x22, x23, x24, x25, x26, x27, x28, x29, x30, x31, x32, x33, x34, x35, x36, x37, x38, x39, x40, x41, x42, x43, x44, x45, x46, x47, x48, x49, x50, x51, x52, x53, x54, x55, x56, x57, x58, x59, x60, x61, x62, x63, x64, x65, x66, x67, x68, x69, x70, x71, x72, x73, x74, x75, x76, x77, x78, x79, x80, x81, x82, x83, x84, x85, x86, x87, x88, x89, x90, x91, x92, x93, x94, x95, x96, x97, x98, x99, x100, x101, x102, x103, x104, x105, x106, x107, x108, x109, x110, x111, x112, x113, x114, x115, x116, x117, x118, x119, x120, x121, x122, x123, x124, x125, x126, x127, x128, x129, x130, x131, x132, x133, x134, x135, x136, x137, x138, x139, x140, x141, x142, x143, x144, x145, x146, x147, x148, x149, x150, x151, x152, x153, x154, x155, x156, x157, x158, x159, x160, x161, x162, x163, x164, x165, x166, x167, x168, x169, x170], []⟩ w := by
  conv => arg 2; whnf
  dsimp only at hQ ⊢
  obtain ⟨R, hR⟩ : ∃ R, frontT ⟨kind, id, ent, frm, til, every, amt, deb, cred, tg, wt, rank⟩ = R := ⟨_, rfl⟩
  have hRb : R = (decide (1 ≤ id) && (decide (id ≤ 999999) && (decide (1 ≤ ent) && (decide (ent ≤ 9) && ((perB frm && perB til) && (decide (frm ≤ til) && (decide (1 ≤ every) && (decide (every ≤ 60) && (decide (1 ≤ amt) && (decide (amt ≤ 1000000000000000) && codeB cred)))))))))) := by rw [← hR]; rfl
  rw [hR] at hQ
  replace hQ := Lib.hid hQ
  clear hR
  have hv1 := r1_valid frm w
  have hv2 := r1_valid til w
  have hft := r1_fits amt w
  have hcd := r1_code cred w
  have c1 := hB.cell 1
  have c2 := hB.cell 2
  have c3 := hB.cell 3
  have c4 := hB.cell 4
  have c5 := hB.cell 5
  have c6 := hB.cell 6
  have c7 := hB.cell 7
  have c8 := hB.cell 8
  clear hB
  cases p0 : decide (1 ≤ id) with
  | false =>
    have hR : Hid (R = false) := Lib.hid (by rw [hRb, p0]; simp)
    clear hRb hh
    go_wp2_with fail
    have hq := hQ.out
    rw [hR.out] at hq
    exact hq _ _ _ _ _ _ _ _ _ _ _ _ _ _ _ _ _ _ _ _ _ _ _ _ _ _ _ _ _ _ _ _ _ _ _ _ _ _ _ _ _ _ _ _ _ _ _ _ _ _ _ _ _ _ _ _ _ _ _ _
  | true =>
  rw [p0] at hRb
  cases p1 : decide (id ≤ 999999) with
  | false =>
    have hR : Hid (R = false) := Lib.hid (by rw [hRb, p1]; simp)
    clear hRb hh
    go_wp2_with fail
    have hq := hQ.out
    rw [hR.out] at hq
    exact hq _ _ _ _ _ _ _ _ _ _ _ _ _ _ _ _ _ _ _ _ _ _ _ _ _ _ _ _ _ _ _ _ _ _ _ _ _ _ _ _ _ _ _ _ _ _ _ _ _ _ _ _ _ _ _ _ _ _ _ _
  | true =>
  rw [p1] at hRb
  cases p2 : decide (1 ≤ ent) with
  | false =>
    have hR : Hid (R = false) := Lib.hid (by rw [hRb, p2]; simp)
    clear hRb hh
    go_wp2_with fail
    have hq := hQ.out
    rw [hR.out] at hq
    exact hq _ _ _ _ _ _ _ _ _ _ _ _ _ _ _ _ _ _ _ _ _ _ _ _ _ _ _ _ _ _ _ _ _ _ _ _ _ _ _ _ _ _ _ _ _ _ _ _ _ _ _ _ _ _ _ _ _ _ _ _
  | true =>
  rw [p2] at hRb
  cases p3 : decide (ent ≤ 9) with
  | false =>
    have hR : Hid (R = false) := Lib.hid (by rw [hRb, p3]; simp)
    clear hRb hh
    go_wp2_with fail
    have hq := hQ.out
    rw [hR.out] at hq
    exact hq _ _ _ _ _ _ _ _ _ _ _ _ _ _ _ _ _ _ _ _ _ _ _ _ _ _ _ _ _ _ _ _ _ _ _ _ _ _ _ _ _ _ _ _ _ _ _ _ _ _ _ _ _ _ _ _ _ _ _ _
  | true =>
  rw [p3] at hRb
  cases p4 : perB frm with
  | false =>
    have hR : Hid (R = false) := Lib.hid (by rw [hRb, p4]; simp)
    rw [p4] at hv1
    clear hRb hh
    go_wp2_with fail
    refine hv1.mono ?_
    rintro e w2 ⟨rfl, rfl⟩
    go_wp2_with fail
    have hq := hQ.out
    rw [hR.out] at hq
    exact hq _ _ _ _ _ _ _ _ _ _ _ _ _ _ _ _ _ _ _ _ _ _ _ _ _ _ _ _ _ _ _ _ _ _ _ _ _ _ _ _ _ _ _ _ _ _ _ _ _ _ _ _ _ _ _ _ _ _ _ _
  | true =>
  rw [p4] at hRb hv1
  cases p5 : perB til with
  | false =>
    have hR : Hid (R = false) := Lib.hid (by rw [hRb, p5]; simp)
    rw [p5] at hv2
    clear hRb hh
    go_wp2_with fail
    refine hv1.mono ?_
    rintro e w2 ⟨rfl, rfl⟩
    go_wp2_with fail
    refine hv2.mono ?_
    rintro e w2 ⟨rfl, rfl⟩
    go_wp2_with fail
    have hq := hQ.out
    rw [hR.out] at hq
    exact hq _ _ _ _ _ _ _ _ _ _ _ _ _ _ _ _ _ _ _ _ _ _ _ _ _ _ _ _ _ _ _ _ _ _ _ _ _ _ _ _ _ _ _ _ _ _ _ _ _ _ _ _ _ _ _ _ _ _ _ _
  | true =>
  rw [p5] at hRb hv2
  rw [p0, p1, p2, p3, p4, p5] at hh
  simp at hh
end Go.Proofs.Ytlbkjhfnpjbjlaa
/- Plan: the reference's CheckPlan, its front. Printed by wip/plq.py, its second half. -/
namespace Go.Proofs.Ytlbkjhfnpjbjlaa
open Go.RowKit Go.Vx
set_option linter.unusedVariables false
set_option linter.unusedSimpArgs false

set_option maxRecDepth 100000 in
set_option maxHeartbeats 8000000 in
theorem cp_front_b {kind id ent frm til every amt deb cred rank : Int} {tg wt : List Int} {tA wA : Option Addr} {tn wn tc wc : Nat} {w : World} {p : Nat} (hB : Blk w p 27 #[.int .i64 kind, .int .i64 id, .int .i64 ent, .int .i64 frm, .int .i64 til, .int .i64 every, .int .i64 amt, .int .i64 deb, .int .i64 cred, .slice tA tn tc, .slice wA wn wc, .int .i64 rank]) (hh : (decide (1 ≤ id) && decide (id ≤ 999999) && decide (1 ≤ ent) && decide (ent ≤ 9) && perB frm && perB til) = true)
    (x0 x2 x3 x4 x5 x6 x7 x8 x9 x10 x11 x12 x13 x14 x15 x16 x17 x18 x19 x20 x21 x22 x23 x24 x25 x26 x27 x28 x29 x30 x31 x32 x33 x34 x35 x36 x37 x38 x39 x40 x41 x42 x43 x44 x45 x46 x47 x48 x49 x50 x51 x52 x53 x54 x55 x56 x57 x58 x59 x60 x61 x62 x63 x64 x65 x66 x67 x68 x69 x70 x71 x72 x73 x74 x75 x76 x77 x78 x79 x80 x81 x82 x83 x84 x85 x86 x87 x88 x89 x90 x91 x92 x93 x94 x95 x96 x97 x98 x99 x100 x101 x102 x103 x104 x105 x106 x107 x108 x109 x110 x111 x112 x113 x114 x115 x116 x117 x118 x119 x120 x121 x122 x123 x124 x125 x126 x127 x128 x129 x130 x131 x132 x133 x134 x135 x136 x137 x138 x139 x140 x141 x142 x143 x144 x145 x146 x147 x148 x149 x150 x151 x152 x153 x154 x155 x156 x157 x158 x159 x160 x161 x162 x163 x164 x165 x166 x167 x168 x169 x170 : Value) (Q : Exit → Act → World → Prop)
    (hQ : ∀ (y7 y8 y9 y10 y11 y12 y13 y14 y15 y16 y17 y18 y19 y20 y21 y22 y23 y24 y25 y26 y27 y28 y29 y30 y31 y32 y33 y34 y35 y36 y37 y38 y39 y40 y41 y42 y43 y44 y45 y46 y47 y48 y49 y50 y51 y52 y53 y54 y55 y56 y57 y58 y59 y60 y61 y62 y63 y64 y65 y66 : Value), Q .normal ⟨#[x0, .pointer (some ⟨p, 0, none⟩), x2, .bool (frontT ⟨kind, id, ent, frm, til, every, amt, deb, cred, tg, wt, rank⟩), x4, x5, x6, y7, y8, y9, y10, y11, y12, y13, y14, y15, y16, y17, y18, y19, y20, y21, y22, y23, y24, y25, y26, y27, y28, y29, y30, y31, y32, y33, y34, y35, y36, y37, y38, y39, y40, y41, y42, y43, y44, y45, y46, y47, y48, y49, y50, y51, y52, y53, y54, y55, y56, y57, y58, y59, y60, y61, y62, y63, y64, y65, y66, x67, x68, x69, x70, x71, x72, x73, x74, x75, x76, x77, x78, x79, x80, x81, x82, x83, x84, x85, x86, x87, x88, x89, x90, x91, x92, x93, x94, x95, x96, x97, x98, x99, x100, x101, x102, x103, x104, x105, x106, x107, x108, x109, x110, x111, x112, x113, x114, x115, x116, x117, x118, x119, x120, x121, x122, x123, x124, x125, x126, x127, x128, x129, x130, x131, x132, x133, x134, x135, x136, x137, x138, x139, x140, x141, x142, x143, x144, x145, x146, x147, x148, x149, x150, x151, x152, x153, x154, x155, x156, x157, x158, x159, x160, x161, x162, x163, x164, x165, x166, x167, x168, x169, x170], []⟩ w) :
    Code.wp Try.prog cpReg1 Q ⟨#[x0, .pointer (some ⟨p, 0, none⟩), x2, x3, x4, x5, x6, x7, x8, x9, x10, x11, x12, x13, x14, x15, x16, x17, x18, x19, x20, x21, x22, x23, x24, x25, x26, x27, x28, x29, x30, x31, x32, x33, x34, x35, x36, x37, x38, x39, x40, x41, x42, x43, x44, x45, x46, x47, x48, x49, x50, x51, x52, x53, x54, x55, x56, x57, x58, x59, x60, x61, x62, x63, x64, x65, x66, x67, x68, x69, x70, x71, x72, x73, x74, x75, x76, x77, x78, x79, x80, x81, x82, x83, x84, x85, x86, x87, x88, x89, x90, x91, x92, x93, x94, x95, x96, x97, x98, x99, x100, x101, x102, x103, x104, x105, x106, x107, x108, x109, x110, x111, x112, x113, x114, x115, x116, x117, x118, x119, x120, x121, x122, x123, x124, x125, x126, x127, x128, x129, x130, x131, x132, x133, x134, x135, x136, x137, x138, x139, x140, x141, x142, x143, x144, x145, x146, x147, x148, x149, x150, x151, x152, x153, x154, x155, x156, x157, x158, x159, x160, x161, x162, x163, x164, x165, x166, x167, x168, x169, x170], []⟩ w := by
  conv => arg 2; whnf
  dsimp only at hQ ⊢
  obtain ⟨R, hR⟩ : ∃ R, frontT ⟨kind, id, ent, frm, til, every, amt, deb, cred, tg, wt, rank⟩ = R := ⟨_, rfl⟩
  have hRb : R = (decide (1 ≤ id) && (decide (id ≤ 999999) && (decide (1 ≤ ent) && (decide (ent ≤ 9) && ((perB frm && perB til) && (decide (frm ≤ til) && (decide (1 ≤ every) && (decide (every ≤ 60) && (decide (1 ≤ amt) && (decide (amt ≤ 1000000000000000) && codeB cred)))))))))) := by rw [← hR]; rfl
  rw [hR] at hQ
  replace hQ := Lib.hid hQ
  clear hR
  have hv1 := r1_valid frm w
  have hv2 := r1_valid til w
  have hft := r1_fits amt w
  have hcd := r1_code cred w
  have c1 := hB.cell 1
  have c2 := hB.cell 2
  have c3 := hB.cell 3
  have c4 := hB.cell 4
  have c5 := hB.cell 5
  have c6 := hB.cell 6
  have c7 := hB.cell 7
  have c8 := hB.cell 8
  clear hB
  cases p0 : decide (1 ≤ id) with
  | false =>
    rw [p0] at hh
    simp at hh
  | true =>
  rw [p0] at hRb
  cases p1 : decide (id ≤ 999999) with
  | false =>
    rw [p1] at hh
    simp at hh
  | true =>
  rw [p1] at hRb
  cases p2 : decide (1 ≤ ent) with
  | false =>
    rw [p2] at hh
    simp at hh
  | true =>
  rw [p2] at hRb
  cases p3 : decide (ent ≤ 9) with
  | false =>
    rw [p3] at hh
    simp at hh
  | true =>
  rw [p3] at hRb
  cases p4 : perB frm with
  | false =>
    rw [p4] at hh
    simp at hh
  | true =>
  rw [p4] at hRb hv1
  cases p5 : perB til with
  | false =>
    rw [p5] at hh
    simp at hh
  | true =>
  rw [p5] at hRb hv2
  cases p6 : decide (frm ≤ til) with
  | false =>
    have hR : Hid (R = false) := Lib.hid (by rw [hRb, p6]; simp)
    clear hRb hh
    go_wp2_with fail
    refine hv1.mono ?_
    rintro e w2 ⟨rfl, rfl⟩
    go_wp2_with fail
    refine hv2.mono ?_
    rintro e w2 ⟨rfl, rfl⟩
    go_wp2_with fail
    have hq := hQ.out
    rw [hR.out] at hq
    exact hq _ _ _ _ _ _ _ _ _ _ _ _ _ _ _ _ _ _ _ _ _ _ _ _ _ _ _ _ _ _ _ _ _ _ _ _ _ _ _ _ _ _ _ _ _ _ _ _ _ _ _ _ _ _ _ _ _ _ _ _
  | true =>
  rw [p6] at hRb
  cases p7 : decide (1 ≤ every) with
  | false =>
    have hR : Hid (R = false) := Lib.hid (by rw [hRb, p7]; simp)
    clear hRb hh
    go_wp2_with fail
    refine hv1.mono ?_
    rintro e w2 ⟨rfl, rfl⟩
    go_wp2_with fail
    refine hv2.mono ?_
    rintro e w2 ⟨rfl, rfl⟩
    go_wp2_with fail
    have hq := hQ.out
    rw [hR.out] at hq
    exact hq _ _ _ _ _ _ _ _ _ _ _ _ _ _ _ _ _ _ _ _ _ _ _ _ _ _ _ _ _ _ _ _ _ _ _ _ _ _ _ _ _ _ _ _ _ _ _ _ _ _ _ _ _ _ _ _ _ _ _ _
  | true =>
  rw [p7] at hRb
  cases p8 : decide (every ≤ 60) with
  | false =>
    have hR : Hid (R = false) := Lib.hid (by rw [hRb, p8]; simp)
    clear hRb hh
    go_wp2_with fail
    refine hv1.mono ?_
    rintro e w2 ⟨rfl, rfl⟩
    go_wp2_with fail
    refine hv2.mono ?_
    rintro e w2 ⟨rfl, rfl⟩
    go_wp2_with fail
    have hq := hQ.out
    rw [hR.out] at hq
    exact hq _ _ _ _ _ _ _ _ _ _ _ _ _ _ _ _ _ _ _ _ _ _ _ _ _ _ _ _ _ _ _ _ _ _ _ _ _ _ _ _ _ _ _ _ _ _ _ _ _ _ _ _ _ _ _ _ _ _ _ _
  | true =>
  rw [p8] at hRb
  cases p9 : decide (1 ≤ amt) with
  | false =>
    have hR : Hid (R = false) := Lib.hid (by rw [hRb, p9]; simp)
    clear hRb hh
    go_wp2_with fail
    refine hv1.mono ?_
    rintro e w2 ⟨rfl, rfl⟩
    go_wp2_with fail
    refine hv2.mono ?_
    rintro e w2 ⟨rfl, rfl⟩
    go_wp2_with fail
    have hq := hQ.out
    rw [hR.out] at hq
    exact hq _ _ _ _ _ _ _ _ _ _ _ _ _ _ _ _ _ _ _ _ _ _ _ _ _ _ _ _ _ _ _ _ _ _ _ _ _ _ _ _ _ _ _ _ _ _ _ _ _ _ _ _ _ _ _ _ _ _ _ _
  | true =>
  rw [p9] at hRb
  cases p10 : fitM amt with
  | false =>
    have hR : Hid (R = false) := Lib.hid (by rw [hRb]; have : decide (amt ≤ 1000000000000000) = false := (by have := p9; have := p10; unfold fitM at this; simp at *; omega); rw [this]; simp)
    rw [p10] at hft
    clear hRb hh
    go_wp2_with fail
    refine hv1.mono ?_
    rintro e w2 ⟨rfl, rfl⟩
    go_wp2_with fail
    refine hv2.mono ?_
    rintro e w2 ⟨rfl, rfl⟩
    go_wp2_with fail
    refine hft.mono ?_
    rintro e w2 ⟨rfl, rfl⟩
    go_wp2_with fail
    have hq := hQ.out
    rw [hR.out] at hq
    exact hq _ _ _ _ _ _ _ _ _ _ _ _ _ _ _ _ _ _ _ _ _ _ _ _ _ _ _ _ _ _ _ _ _ _ _ _ _ _ _ _ _ _ _ _ _ _ _ _ _ _ _ _ _ _ _ _ _ _ _ _
  | true =>
  have p10' : decide (amt ≤ 1000000000000000) = true := by have := p10; unfold fitM at this; simp at *; omega
  rw [p10'] at hRb
  rw [p10] at hft
  cases p11 : codeB cred with
  | false =>
    have hR : Hid (R = false) := Lib.hid (by rw [hRb, p11]; simp)
    rw [p11] at hcd
    clear hRb hh
    go_wp2_with fail
    refine hv1.mono ?_
    rintro e w2 ⟨rfl, rfl⟩
    go_wp2_with fail
    refine hv2.mono ?_
    rintro e w2 ⟨rfl, rfl⟩
    go_wp2_with fail
    refine hft.mono ?_
    rintro e w2 ⟨rfl, rfl⟩
    go_wp2_with fail
    refine hcd.mono ?_
    rintro e w2 ⟨rfl, rfl⟩
    go_wp2_with fail
    have hq := hQ.out
    rw [hR.out] at hq
    exact hq _ _ _ _ _ _ _ _ _ _ _ _ _ _ _ _ _ _ _ _ _ _ _ _ _ _ _ _ _ _ _ _ _ _ _ _ _ _ _ _ _ _ _ _ _ _ _ _ _ _ _ _ _ _ _ _ _ _ _ _
  | true =>
  rw [p11] at hRb hcd
  have hR : Hid (R = true) := Lib.hid (by rw [hRb]; rfl)
  clear hRb hh
  go_wp2_with fail
  refine hv1.mono ?_
  rintro e w2 ⟨rfl, rfl⟩
  go_wp2_with fail
  refine hv2.mono ?_
  rintro e w2 ⟨rfl, rfl⟩
  go_wp2_with fail
  refine hft.mono ?_
  rintro e w2 ⟨rfl, rfl⟩
  go_wp2_with fail
  refine hcd.mono ?_
  rintro e w2 ⟨rfl, rfl⟩
  go_wp2_with fail
  have hq := hQ.out
  rw [hR.out] at hq
  exact hq _ _ _ _ _ _ _ _ _ _ _ _ _ _ _ _ _ _ _ _ _ _ _ _ _ _ _ _ _ _ _ _ _ _ _ _ _ _ _ _ _ _ _ _ _ _ _ _ _ _ _ _ _ _ _ _ _ _ _ _
set_option maxRecDepth 100000 in
set_option maxHeartbeats 8000000 in
theorem cp_front {kind id ent frm til every amt deb cred rank : Int} {tg wt : List Int} {tA wA : Option Addr} {tn wn tc wc : Nat} {w : World} {p : Nat} (hB : Blk w p 27 #[.int .i64 kind, .int .i64 id, .int .i64 ent, .int .i64 frm, .int .i64 til, .int .i64 every, .int .i64 amt, .int .i64 deb, .int .i64 cred, .slice tA tn tc, .slice wA wn wc, .int .i64 rank])
    (x0 x2 x3 x4 x5 x6 x7 x8 x9 x10 x11 x12 x13 x14 x15 x16 x17 x18 x19 x20 x21 x22 x23 x24 x25 x26 x27 x28 x29 x30 x31 x32 x33 x34 x35 x36 x37 x38 x39 x40 x41 x42 x43 x44 x45 x46 x47 x48 x49 x50 x51 x52 x53 x54 x55 x56 x57 x58 x59 x60 x61 x62 x63 x64 x65 x66 x67 x68 x69 x70 x71 x72 x73 x74 x75 x76 x77 x78 x79 x80 x81 x82 x83 x84 x85 x86 x87 x88 x89 x90 x91 x92 x93 x94 x95 x96 x97 x98 x99 x100 x101 x102 x103 x104 x105 x106 x107 x108 x109 x110 x111 x112 x113 x114 x115 x116 x117 x118 x119 x120 x121 x122 x123 x124 x125 x126 x127 x128 x129 x130 x131 x132 x133 x134 x135 x136 x137 x138 x139 x140 x141 x142 x143 x144 x145 x146 x147 x148 x149 x150 x151 x152 x153 x154 x155 x156 x157 x158 x159 x160 x161 x162 x163 x164 x165 x166 x167 x168 x169 x170 : Value) (Q : Exit → Act → World → Prop)
    (hQ : ∀ (y7 y8 y9 y10 y11 y12 y13 y14 y15 y16 y17 y18 y19 y20 y21 y22 y23 y24 y25 y26 y27 y28 y29 y30 y31 y32 y33 y34 y35 y36 y37 y38 y39 y40 y41 y42 y43 y44 y45 y46 y47 y48 y49 y50 y51 y52 y53 y54 y55 y56 y57 y58 y59 y60 y61 y62 y63 y64 y65 y66 : Value), Q .normal ⟨#[x0, .pointer (some ⟨p, 0, none⟩), x2, .bool (frontT ⟨kind, id, ent, frm, til, every, amt, deb, cred, tg, wt, rank⟩), x4, x5, x6, y7, y8, y9, y10, y11, y12, y13, y14, y15, y16, y17, y18, y19, y20, y21, y22, y23, y24, y25, y26, y27, y28, y29, y30, y31, y32, y33, y34, y35, y36, y37, y38, y39, y40, y41, y42, y43, y44, y45, y46, y47, y48, y49, y50, y51, y52, y53, y54, y55, y56, y57, y58, y59, y60, y61, y62, y63, y64, y65, y66, x67, x68, x69, x70, x71, x72, x73, x74, x75, x76, x77, x78, x79, x80, x81, x82, x83, x84, x85, x86, x87, x88, x89, x90, x91, x92, x93, x94, x95, x96, x97, x98, x99, x100, x101, x102, x103, x104, x105, x106, x107, x108, x109, x110, x111, x112, x113, x114, x115, x116, x117, x118, x119, x120, x121, x122, x123, x124, x125, x126, x127, x128, x129, x130, x131, x132, x133, x134, x135, x136, x137, x138, x139, x140, x141, x142, x143, x144, x145, x146, x147, x148, x149, x150, x151, x152, x153, x154, x155, x156, x157, x158, x159, x160, x161, x162, x163, x164, x165, x166, x167, x168, x169, x170], []⟩ w) :
    Code.wp Try.prog cpReg1 Q ⟨#[x0, .pointer (some ⟨p, 0, none⟩), x2, x3, x4, x5, x6, x7, x8, x9, x10, x11, x12, x13, x14, x15, x16, x17, x18, x19, x20, x21, x22, x23, x24, x25, x26, x27, x28, x29, x30, x31, x32, x33, x34, x35, x36, x37, x38, x39, x40, x41, x42, x43, x44, x45, x46, x47, x48, x49, x50, x51, x52, x53, x54, x55, x56, x57, x58, x59, x60, x61, x62, x63, x64, x65, x66, x67, x68, x69, x70, x71, x72, x73, x74, x75, x76, x77, x78, x79, x80, x81, x82, x83, x84, x85, x86, x87, x88, x89, x90, x91, x92, x93, x94, x95, x96, x97, x98, x99, x100, x101, x102, x103, x104, x105, x106, x107, x108, x109, x110, x111, x112, x113, x114, x115, x116, x117, x118, x119, x120, x121, x122, x123, x124, x125, x126, x127, x128, x129, x130, x131, x132, x133, x134, x135, x136, x137, x138, x139, x140, x141, x142, x143, x144, x145, x146, x147, x148, x149, x150, x151, x152, x153, x154, x155, x156, x157, x158, x159, x160, x161, x162, x163, x164, x165, x166, x167, x168, x169, x170], []⟩ w := by
  cases hh : (decide (1 ≤ id) && decide (id ≤ 999999) && decide (1 ≤ ent) && decide (ent ≤ 9) && perB frm && perB til) with
  | false => exact cp_front_a hB hh _ _ _ _ _ _ _ _ _ _ _ _ _ _ _ _ _ _ _ _ _ _ _ _ _ _ _ _ _ _ _ _ _ _ _ _ _ _ _ _ _ _ _ _ _ _ _ _ _ _ _ _ _ _ _ _ _ _ _ _ _ _ _ _ _ _ _ _ _ _ _ _ _ _ _ _ _ _ _ _ _ _ _ _ _ _ _ _ _ _ _ _ _ _ _ _ _ _ _ _ _ _ _ _ _ _ _ _ _ _ _ _ _ _ _ _ _ _ _ _ _ _ _ _ _ _ _ _ _ _ _ _ _ _ _ _ _ _ _ _ _ _ _ _ _ _ _ _ _ _ _ _ _ _ _ _ _ _ _ _ _ _ _ _ _ _ _ _ _ _ Q hQ
  | true => exact cp_front_b hB hh _ _ _ _ _ _ _ _ _ _ _ _ _ _ _ _ _ _ _ _ _ _ _ _ _ _ _ _ _ _ _ _ _ _ _ _ _ _ _ _ _ _ _ _ _ _ _ _ _ _ _ _ _ _ _ _ _ _ _ _ _ _ _ _ _ _ _ _ _ _ _ _ _ _ _ _ _ _ _ _ _ _ _ _ _ _ _ _ _ _ _ _ _ _ _ _ _ _ _ _ _ _ _ _ _ _ _ _ _ _ _ _ _ _ _ _ _ _ _ _ _ _ _ _ _ _ _ _ _ _ _ _ _ _ _ _ _ _ _ _ _ _ _ _ _ _ _ _ _ _ _ _ _ _ _ _ _ _ _ _ _ _ _ _ _ _ _ _ _ _ Q hQ
end Go.Proofs.Ytlbkjhfnpjbjlaa
/- Plan: the reference's CheckPlan. Printed by wip/pls.py. -/
namespace Go.Proofs.Ytlbkjhfnpjbjlaa
open Go.RowKit Go.Vx
set_option linter.unusedVariables false
set_option linter.unusedSimpArgs false

theorem quiet_same {P : Program} {f : FuncId} {args : Array Value} {w : World} {n : Nat} {v : Value}
    (h : Calls P f args (w.drewN n) fun e w' => e = .returned v ∧ w.drewN n = w') : Calls P f args (w.drewN n) fun e w'' => e = .returned v ∧ ∃ m, w'' = w.drewN m :=
  h.mono fun _ _ ⟨he, hm⟩ => ⟨he, n, hm.symm⟩
set_option maxRecDepth 100000 in
set_option maxHeartbeats 16000000 in
theorem r1_checkPlan (t : Tp) {tA wA : Option Addr} {tn wn tc wc : Nat} {w : World} (ht : Src w 1 tA tn (t.tg.map (Value.int .i64))) (hw : Src w 1 wA wn (t.wt.map (Value.int .i64))) (htn : tn ≤ 1000000) (hwn : wn ≤ 1000000) :
    Calls Try.prog 8 #[tpV t (.slice tA tn tc) (.slice wA wn wc)] w fun e w' => e = .returned (.bool (checkT t)) ∧ Chg [] w w' := by
  have hlt : t.tg.length = tn := by have := ht.1; simpa using this
  have hlw : t.wt.length = wn := by have := hw.1; simpa using this
  obtain ⟨R, hR⟩ : ∃ R, checkT t = R := ⟨_, rfl⟩
  have hRb : R = (frontT t && (if t.kind = 1 then accB t else if t.kind = 2 then allB t else false)) := by rw [← hR]; rfl
  have hac : accB t = (codeB t.deb && ((t.deb != t.cred) && (decide (tn = 0) && decide (wn = 0)))) := by unfold accB; rw [hlt, hlw]
  have hal : allB t = (decide (1 ≤ tn) && (decide (tn < 8) && (decide (wn = tn) && ((List.range tn).all (tgAt t) && (okM t.amt && (weigh t.wt != 0)))))) := by unfold allB; rw [hlt, hlw]
  rw [hR]
  clear hR
  have htg : ∀ i, i < tn → tgAt t i = (codeB (t.tg.getD i 0) && ((t.tg.getD i 0 != t.cred) && (decide (i = 0) || decide (t.tg.getD (i - 1) 0 < t.tg.getD i 0)))) := fun i _ => rfl
  have hcode := r1_code
  have hsg := fun W (z : Chg [] w W) (h0 : okM t.amt = true) (h1 : weigh t.wt ≠ 0) => r_split_good (c := wc) (hw.chg z (by simp)) h0 h1
  have hsb := fun W (z : Chg [] w W) (h : ¬ (okM t.amt = true ∧ weigh t.wt ≠ 0)) => r_split_bad (c := wc) (hw.chg z (by simp)) hwn h
  have hcell : ∀ W, Chg [] w W → ∀ i, i < tn → ∃ ad, tA = some ad ∧ W.cell? (ad.add i) = some (.int .i64 (t.tg.getD i 0)) := fun W z i hi => by
    obtain ⟨ad, ha, hc⟩ := (ht.chg z (by simp)).2 (by omega)
    refine ⟨ad, ha, hc i _ ?_⟩
    rw [List.getElem?_map, List.getElem?_eq_getElem (by omega)]
    simp [List.getD, List.getElem?_eq_getElem (show i < t.tg.length by omega)]
  generalize hall : (List.range tn).all (tgAt t) = al at hal
  have hbad : ∀ i, i < tn → tgAt t i = false → al = false := fun i hi h => by
    rw [← hall]
    exact List.all_eq_false.2 ⟨i, List.mem_range.2 hi, by rw [h]; simp⟩
  have hgood : (∀ i, i < tn → tgAt t i = true) → al = true := fun h => by rw [← hall]; exact range_all.2 h
  generalize tgAt t = tgp at *
  generalize accB t = ab at *
  generalize allB t = lb at *
  obtain ⟨fb, hfb⟩ : ∃ fb, frontT t = fb := ⟨_, rfl⟩
  rw [hfb] at hRb
  obtain ⟨kind, id, ent, frm, til, every, amt, deb, cred, tg, wt, rank⟩ := t
  unfold tpV
  dsimp only at *
  clear hlt hlw ht hw hall
  have hz := (Chg.refl [] w).alloc (.cells #[.int .i64 kind, .int .i64 id, .int .i64 ent, .int .i64 frm, .int .i64 til, .int .i64 every, .int .i64 amt, .int .i64 deb, .int .i64 cred, .slice tA tn tc, .slice wA wn wc, .int .i64 rank] 27)
  have hB := Blk.new w 27 #[.int .i64 kind, .int .i64 id, .int .i64 ent, .int .i64 frm, .int .i64 til, .int .i64 every, .int .i64 amt, .int .i64 deb, .int .i64 cred, .slice tA tn tc, .slice wA wn wc, .int .i64 rank]
  obtain ⟨w1, hw1⟩ : ∃ w1, w1 = w.alloc (.cells #[.int .i64 kind, .int .i64 id, .int .i64 ent, .int .i64 frm, .int .i64 til, .int .i64 every, .int .i64 amt, .int .i64 deb, .int .i64 cred, .slice tA tn tc, .slice wA wn wc, .int .i64 rank] 27) := ⟨_, rfl⟩
  obtain ⟨jb, hjb⟩ : ∃ jb, w.heap.size = jb := ⟨_, rfl⟩
  rw [← hw1] at hB hz
  rw [hjb] at hB
  have hB0 := Lib.hid hB
  have hBc := Lib.hid fun W (k : Chg [] w1 W) => hB.chg k (by simp)
  replace htg := Lib.hid htg
  replace hsg := Lib.hid hsg
  replace hsb := Lib.hid hsb
  replace hcell := Lib.hid hcell
  replace hbad := Lib.hid hbad
  replace hgood := Lib.hid hgood
  replace hcode := Lib.hid hcode
  replace hac := Lib.hid hac
  replace hal := Lib.hid hal
  replace hRb := Lib.hid hRb
  have d0 := hB.cell 0
  have d6 := hB.cell 6
  have d7 := hB.cell 7
  have d8 := hB.cell 8
  have d9 := hB.cell 9
  have d10 := hB.cell 10
  clear hB
  go_enter Try.func8, Try.ntmps8
  go_upto_region 1 with fail
  rw [← hw1]
  try rw [hjb]
  clear hw1 hjb
  refine cp_front (tg := tg) (wt := wt) hB0.out _ _ _ _ _ _ _ _ _ _ _ _ _ _ _ _ _ _ _ _ _ _ _ _ _ _ _ _ _ _ _ _ _ _ _ _ _ _ _ _ _ _ _ _ _ _ _ _ _ _ _ _ _ _ _ _ _ _ _ _ _ _ _ _ _ _ _ _ _ _ _ _ _ _ _ _ _ _ _ _ _ _ _ _ _ _ _ _ _ _ _ _ _ _ _ _ _ _ _ _ _ _ _ _ _ _ _ _ _ _ _ _ _ _ _ _ _ _ _ _ _ _ _ _ _ _ _ _ _ _ _ _ _ _ _ _ _ _ _ _ _ _ _ _ _ _ _ _ _ _ _ _ _ _ _ _ _ _ _ _ _ _ _ _ _ _ _ _ _ _ _ ?_
  intro y7 y8 y9 y10 y11 y12 y13 y14 y15 y16 y17 y18 y19 y20 y21 y22 y23 y24 y25 y26 y27 y28 y29 y30 y31 y32 y33 y34 y35 y36 y37 y38 y39 y40 y41 y42 y43 y44 y45 y46 y47 y48 y49 y50 y51 y52 y53 y54 y55 y56 y57 y58 y59 y60 y61 y62 y63 y64 y65 y66
  rw [hfb]
  clear hfb hB0
  by_cases h1 : kind = 1
  · have b1 : (kind == 1) = true := by simpa using h1
    have hR1 : Hid (R = (fb && ab)) := Lib.hid (by rw [hRb.out, if_pos h1])
    clear h1 hRb
    cases fb with
    | false =>
      have hR : Hid (R = false) := Lib.hid (by rw [hR1.out]; rfl)
      go_wp2_with fail
      go_ret
      exact ⟨by rw [hR.out]; rfl, hz⟩
    | true =>
    have hcd := hcode.out deb w1
    cases hc : codeB deb with
    | false =>
      have hR : Hid (R = false) := Lib.hid (by rw [hR1.out, hac.out, hc]; rfl)
      rw [hc] at hcd
      go_wp2_with (go_at_call 25; refine hcd.mono ?_; rintro e w2 ⟨rfl, rfl⟩)
      go_ret
      exact ⟨by rw [hR.out]; rfl, hz⟩
    | true =>
    rw [hc] at hcd
    cases p1 : (deb != cred) with
    | false =>
      have hR : Hid (R = false) := Lib.hid (by rw [hR1.out, hac.out, p1]; simp)
      go_wp2_with (go_at_call 25; refine hcd.mono ?_; rintro e w2 ⟨rfl, rfl⟩)
      go_ret
      exact ⟨by rw [hR.out]; rfl, hz⟩
    | true =>
      have hwr : IntKind.i64.wrap ((tn : Int) + (wn : Int)) = (tn : Int) + (wn : Int) := by rw [IntKind.wrap_i64]; omega
      have hR : Hid (R = (((tn : Int) + (wn : Int)) == 0)) := Lib.hid (by
        rw [hR1.out, hac.out, hc, p1, Bool.eq_iff_iff]
        simp
        omega)
      go_wp2_with (go_at_call 25; refine hcd.mono ?_; rintro e w2 ⟨rfl, rfl⟩)
      go_ret
      exact ⟨by rw [hR.out]; rfl, hz⟩
  have b1 : (kind == 1) = false := beq_eq_false_iff_ne.2 h1
  by_cases h2 : kind = 2
  case neg =>
    have b2 : (kind == 2) = false := beq_eq_false_iff_ne.2 h2
    have hR : Hid (R = false) := Lib.hid (by rw [hRb.out, if_neg h1, if_neg h2]; simp)
    clear h1 h2 hRb
    go_wp2_with fail
    go_ret
    exact ⟨by rw [hR.out]; rfl, hz⟩
  have b2 : (kind == 2) = true := by simpa using h2
  have hR1 : Hid (R = (fb && lb)) := Lib.hid (by rw [hRb.out, if_neg h1, if_pos h2])
  clear h1 h2 hRb
  cases fb with
  | false =>
    have hR : Hid (R = false) := Lib.hid (by rw [hR1.out]; rfl)
    go_wp2_with fail
    go_ret
    exact ⟨by rw [hR.out]; rfl, hz⟩
  | true =>
  by_cases h3 : tn < 1
  · have b3 : decide ((tn : Int) < 1) = true := by simp; omega
    have hR : Hid (R = false) := Lib.hid (by rw [hR1.out, hal.out, decide_eq_false (show ¬ 1 ≤ tn by omega)]; simp)
    clear h3
    go_wp2_with fail
    go_ret
    exact ⟨by rw [hR.out]; rfl, hz⟩
  have b3 : decide ((tn : Int) < 1) = false := by simp; omega
  by_cases h4 : 7 < tn
  · have b4 : decide ((7 : Int) < tn) = true := by simp; omega
    have hR : Hid (R = false) := Lib.hid (by rw [hR1.out, hal.out, decide_eq_false (show ¬ tn < 8 by omega)]; simp)
    clear h3 h4
    go_wp2_with fail
    go_ret
    exact ⟨by rw [hR.out]; rfl, hz⟩
  have b4 : decide ((7 : Int) < tn) = false := by simp; omega
  by_cases h5 : wn = tn
  case neg =>
    have b5 : ((wn : Int) != (tn : Int)) = true := bne_iff_ne.2 (by omega)
    have hR : Hid (R = false) := Lib.hid (by rw [hR1.out, hal.out, decide_eq_false h5]; simp)
    clear h3 h4 h5
    go_wp2_with fail
    go_ret
    exact ⟨by rw [hR.out]; rfl, hz⟩
  subst h5
  have b5 : ((wn : Int) != (wn : Int)) = false := by simp
  have hRb2 : Hid (R = (al && (okM amt && (weigh wt != 0)))) := Lib.hid (by rw [hR1.out, hal.out, decide_eq_true (show 1 ≤ wn by omega), decide_eq_true (show wn < 8 by omega)]; simp)
  have hn8 : wn < 8 := by omega
  clear h3 h4 hR1 hal hac
  go_wp2_with fail
  go_loopw [4] (fun iv wr => ∃ k : Nat, k ≤ wn ∧ iv = .int .i64 k ∧ (∀ i, i < k → tgp i = true) ∧ Chg [] w1 wr) (fun iv _ => wn - (intOf iv).toNat)
  case atStart => exact ⟨0, by omega, rfl, fun i h => by omega, Chg.refl _ _⟩
  case round =>
    obtain ⟨k, hk, rfl, hj, hzr⟩ := hrel
    have hzw := hz.trans' hzr
    have hB2 := hBc.out _ hzr
    have d6 : wr.cell? ⟨jb, 6, none⟩ = some (.int .i64 amt) := hB2.cell 6
    have d8 : wr.cell? ⟨jb, 8, none⟩ = some (.int .i64 cred) := hB2.cell 8
    have d9 : wr.cell? ⟨jb, 9, none⟩ = some (.slice tA wn tc) := hB2.cell 9
    have d10 : wr.cell? ⟨jb, 10, none⟩ = some (.slice wA wn wc) := hB2.cell 10
    have f8 : wr.drew.cell? ⟨jb, 8, none⟩ = some (.int .i64 cred) := d8
    have f9 : wr.drew.cell? ⟨jb, 9, none⟩ = some (.slice tA wn tc) := d9
    clear hB2
    by_cases hlt : k < wn
    · obtain ⟨ad, hA, c0⟩ := hcell.out _ hzw k hlt
      have hcd := fun W => hcode.out (tg.getD k 0) W
      have htk := htg.out k hlt
      have hlt2 : (k : Int) < (wn : Int) := by omega
      have hkw : IntKind.i64.wrap ((k : Int) + 1) = (k : Int) + 1 := by rw [IntKind.wrap_i64]; omega
      have hno : tgp k = false → Hid (R = false) := fun h => Lib.hid (by rw [hRb2.out, hbad.out k hlt h]; rfl)
      have hyes : tgp k = true → Hid (∀ i, i < k + 1 → tgp i = true) := fun h => Lib.hid (fun i hi => by
        by_cases e : i = k
        · subst e; exact h
        · exact hj i (by omega))
      rw [htk] at hno hyes
      clear hj htk
      cases hc : codeB (tg.getD k 0) with
      | false =>
        have hR := hno (by rw [hc]; rfl)
        rw [hc] at hcd
        subst hA
        clear hno hyes
        have e0 : wr.drew.cell? (ad.add k) = _ := c0
        generalize tg.getD k 0 = x at *
        go_wp2_with fail
        go_quiet ((go_at_call 25; exact quiet_same (hcd _)))
        all_goals
          go_wp2_with fail
          go_ret
          exact ⟨by rw [hR.out]; rfl, hzw.drewN _⟩
      | true =>
      rw [hc] at hcd
      cases p1 : (tg.getD k 0 != cred) with
      | false =>
        have hR := hno (by rw [hc, p1]; rfl)
        have p1' : (tg.getD k 0 == cred) = true := by simpa using p1
        subst hA
        clear hno hyes p1
        have e0 : wr.drew.cell? (ad.add k) = _ := c0
        generalize tg.getD k 0 = x at *
        go_wp2_with fail
        go_quiet ((go_at_call 25; exact quiet_same (hcd _)))
        all_goals
          go_wp2_with fail
          go_ret
          exact ⟨by rw [hR.out]; rfl, hzw.drewN _⟩
      | true =>
      have p1' : (tg.getD k 0 == cred) = false := by simpa using p1
      by_cases hk0 : k = 0
      · have hx := hyes (by rw [hc, p1, decide_eq_true hk0]; rfl)
        subst hk0
        subst hA
        have c0' : wr.cell? ad = some (.int .i64 (tg.getD 0 0)) := by
          have := c0
          unfold Addr.add at this
          simpa using this
        have e0 : wr.drew.cell? ad = _ := c0'
        clear hno hyes c0 p1
        generalize tg.getD 0 0 = x at *
        go_wp2_with fail
        go_quiet ((go_at_call 25; exact quiet_same (hcd _)))
        all_goals
          go_wp2_with fail
          exact ⟨⟨1, by omega, rfl, hx.out, hzr.drewN _⟩, by simp [intOf]; omega⟩
      · obtain ⟨ad', hA', c1⟩ := hcell.out _ hzw (k - 1) (by omega)
        rw [hA] at hA'
        injection hA' with hA'
        subst hA'
        subst hA
        have hk1 : IntKind.i64.wrap ((k : Int) - 1) = ((k - 1 : Nat) : Int) := by rw [IntKind.wrap_i64]; omega
        have b4 : (0 : Int) < (k : Int) := by omega
        have b4'' : decide ((0 : Int) < (k : Int)) = true := by simpa using b4
        have b4' : 0 < k := by omega
        have hk3 : k - 1 < wn := by omega
        have hk2 : ((k - 1 : Nat) : Int) < (wn : Int) := by omega
        have e0 : wr.drew.cell? (ad.add k) = _ := c0
        have e1 : wr.drew.cell? (ad.add (k - 1)) = _ := c1
        cases p2 : decide (tg.getD (k - 1) 0 < tg.getD k 0) with
        | true =>
          have hx := hyes (by rw [hc, p1, p2]; simp)
          have b6 : decide (tg.getD k 0 ≤ tg.getD (k - 1) 0) = false := by simp at p2 ⊢; omega
          clear hno hyes p2 p1
          replace hk0 := Lib.hid hk0
          generalize tg.getD k 0 = x at *
          generalize tg.getD (k - 1) 0 = y at *
          generalize k - 1 = m at *
          go_wp2_with fail
          go_quiet ((go_at_call 25; exact quiet_same (hcd _)))
          all_goals
            go_wp2_with fail
            exact ⟨⟨k + 1, by omega, by go_num, hx.out, hzr.drewN _⟩, by simp [intOf]; omega⟩
        | false =>
          have hR := hno (by rw [hc, p1, p2, decide_eq_false hk0]; rfl)
          have b6 : decide (tg.getD k 0 ≤ tg.getD (k - 1) 0) = true := by simp at p2 ⊢; omega
          clear hno hyes p2 p1
          replace hk0 := Lib.hid hk0
          generalize tg.getD k 0 = x at *
          generalize tg.getD (k - 1) 0 = y at *
          generalize k - 1 = m at *
          go_wp2_with fail
          go_quiet ((go_at_call 25; exact quiet_same (hcd _)))
          all_goals
            go_wp2_with fail
            go_ret
            exact ⟨by rw [hR.out]; rfl, hzw.drewN _⟩
    · obtain rfl : k = wn := by omega
      have hal := hgood.out hj
      clear hj
      by_cases hs : okM amt = true ∧ weigh wt ≠ 0
      · have hR : Hid (R = true) := Lib.hid (by rw [hRb2.out, hal, hs.1]; simp [hs.2])
        have hsp := hsg.out _ hzw hs.1 hs.2
        clear hs hal
        go_wp2_with fail
        refine hsp.mono ?_
        rintro e w2 ⟨v, F, rfl, -, -, hz2⟩
        clear hsp
        go_wp2_with fail
        go_ret
        exact ⟨by rw [hR.out]; rfl, hzw.trans' hz2⟩
      · have hR : Hid (R = false) := Lib.hid (by
          rw [hRb2.out, hal]
          cases ho : okM amt with
          | false => rfl
          | true =>
            have : weigh wt = 0 := Decidable.byContradiction fun h => hs ⟨ho, h⟩
            simp [this])
        have hsp := hsb.out _ hzw hs
        clear hs hal
        go_wp2_with fail
        refine hsp.mono ?_
        rintro e w2 ⟨rfl, rfl⟩
        clear hsp
        go_wp2_with fail
        go_ret
        exact ⟨by rw [hR.out]; rfl, hzw⟩
end Go.Proofs.Ytlbkjhfnpjbjlaa
/- Plan: the laws' first call. -/
namespace Go.Proofs.Ytlbkjhfnpjbjlaa
open Go.RowKit Go.Vx
set_option linter.unusedVariables false
set_option linter.unusedSimpArgs false

def tAl : Tp := ⟨1, 1, 1, 3, 4, 1, 5, 1, 2, [], [], 0⟩
def TAl : List TV := [⟨tAl, none, 0, none, 0⟩]
def L1Al : List Ln := [⟨1, 5, 0⟩, ⟨2, -5, 0⟩]
def L2Al : List Ln := [⟨1, -5, 0⟩, ⟨2, 5, 0⟩]
def runAl : List Jn := [⟨10, 1, 3, ⟨#[]⟩, L1Al, false⟩, ⟨11, 1, 4, ⟨#[]⟩, L2Al, false⟩, ⟨12, 1, 4, ⟨#[]⟩, L1Al, false⟩, ⟨13, 1, 5, ⟨#[]⟩, L2Al, false⟩]
set_option maxRecDepth 100000 in
theorem run_al : runN TAl (puts ([], 0) (itsN TAl 1)).1 10 = some runAl := by kernel_rfl
theorem chk_al : chkE tAl = 0 := by kernel_rfl
theorem row_al (w : World) : TRow ((w.alloc (.cells #[.int .i64 1, .int .i64 1, .int .i64 1, .int .i64 3, .int .i64 4, .int .i64 1, .int .i64 5, .int .i64 1, .int .i64 2, .slice none 0 0, .slice none 0 0, .int .i64 0] 24)).alloc (.cells #[.int .i64 1, .int .i64 1, .int .i64 1, .int .i64 3, .int .i64 4, .int .i64 1, .int .i64 5, .int .i64 1, .int .i64 2, .slice none 0 0, .slice none 0 0, .int .i64 0] 24)) (some ⟨w.heap.size + 1, 0, none⟩) 1 TAl :=
  ⟨Src.lit (size := 12) (m := 1) (B := w.heap.size + 1) (by simp) rfl, fun x hx => by
    rw [List.mem_singleton.1 hx]
    exact ⟨⟨rfl, fun h => absurd h (by decide)⟩, ⟨rfl, fun h => absurd h (by decide)⟩, by decide, by decide⟩, rfl⟩
set_option maxRecDepth 100000 in
set_option maxHeartbeats 4000000 in
theorem pl_alive (w : World) : Calls Try.prog 10 #[] w fun e w' => e = .returned (.bool true) ∧ Chg [] w w' := by
  have hrun := pl_run (c := 1) (row_al w) (by omega) 10 (by omega) (by omega)
  rw [run_al] at hrun
  have hz := ((Chg.refl [] w).alloc (.cells #[.int .i64 1, .int .i64 1, .int .i64 1, .int .i64 3, .int .i64 4, .int .i64 1, .int .i64 5, .int .i64 1, .int .i64 2, .slice none 0 0, .slice none 0 0, .int .i64 0] 24)).alloc (.cells #[.int .i64 1, .int .i64 1, .int .i64 1, .int .i64 3, .int .i64 4, .int .i64 1, .int .i64 5, .int .i64 1, .int .i64 2, .slice none 0 0, .slice none 0 0, .int .i64 0] 24)
  have hB := (Blk.new w 24 #[.int .i64 1, .int .i64 1, .int .i64 1, .int .i64 3, .int .i64 4, .int .i64 1, .int .i64 5, .int .i64 1, .int .i64 2, .slice none 0 0, .slice none 0 0, .int .i64 0]).alloc (.cells #[.int .i64 1, .int .i64 1, .int .i64 1, .int .i64 3, .int .i64 4, .int .i64 1, .int .i64 5, .int .i64 1, .int .i64 2, .slice none 0 0, .slice none 0 0, .int .i64 0] 24)
  go_enter Try.func10, Try.ntmps10
  go_wp2_with fail
  refine hrun.mono ?_
  rintro e w2 ⟨X, v, F, rfl, hf, hj, hl, -, -, hz2⟩
  rw [show runE (some runAl) = 0 from rfl]
  have hj' : jns X = runAl := hj
  have hX4 : X.length = 4 := by have := congrArg List.length hj'; rw [List.length_map] at this; exact this
  obtain ⟨x0, x1, x2, x3, rfl⟩ : ∃ a b c d, X = [a, b, c, d] := by
    match X, hX4 with
    | [a, b, c, d], _ => exact ⟨a, b, c, d, rfl⟩
  have hjj := hj'
  unfold jns runAl at hjj
  simp only [List.map_cons, List.map_nil, List.cons.injEq, and_true] at hjj
  obtain ⟨j0, j1, j2, j3⟩ := hjj
  have hl1 := hl x1 (by simp)
  rw [j1] at hl1
  obtain ⟨ga, ca, hpv, hq1, hq2, -, hcl, -⟩ := hl1.at_ (k := 0) (j := 1) (by show (0 : Nat) < 2; omega) (by omega)
  obtain ⟨g, c, rfl, hc1, hc2, -, h00, -⟩ := hf.at_ (k := 0) (j := 0) (by show (0 : Nat) < 4; omega) (by omega)
  obtain ⟨g', c', e', -, -, -, h30, -⟩ := hf.at_ (k := 3) (j := 0) (by show (3 : Nat) < 4; omega) (by omega)
  cases e'
  obtain ⟨g', c', e', -, -, -, h32, -⟩ := hf.at_ (k := 3) (j := 2) (by show (3 : Nat) < 4; omega) (by omega)
  cases e'
  obtain ⟨g', c', e', -, -, -, h14, -⟩ := hf.at_ (k := 1) (j := 4) (by show (1 : Nat) < 4; omega) (by omega)
  cases e'
  have k00 : w2.cell? ⟨g, 0, none⟩ = some (.int .i64 10) := by rw [show (.int .i64 10 : Value) = .int .i64 x0.j.id from by rw [j0]]; exact h00
  have k30 : w2.cell? ⟨g, 18, none⟩ = some (.int .i64 13) := by rw [show (.int .i64 13 : Value) = .int .i64 x3.j.id from by rw [j3]]; exact h30
  have k32 : w2.cell? ⟨g, 20, none⟩ = some (.int .i64 5) := by rw [show (.int .i64 5 : Value) = .int .i64 x3.j.per from by rw [j3]]; exact h32
  have k14 : w2.cell? ⟨g, 10, none⟩ = some (.slice (some ⟨ga, 0, none⟩) 2 ca) := by rw [← show x1.pv = (.slice (some ⟨ga, 0, none⟩) 2 ca : Value) from hpv]; exact h14
  have kl : w2.cell? ⟨ga, 1, none⟩ = some (.int .i64 (-5)) := hcl
  have hB2 := hB.chg hz2 (by simp)
  have c0 := hB2.cell 0
  have c1 := hB2.cell 1
  have c2 := hB2.cell 2
  have c3 := hB2.cell 3
  have c4 := hB2.cell 4
  have c5 := hB2.cell 5
  have c6 := hB2.cell 6
  have c7 := hB2.cell 7
  have c8 := hB2.cell 8
  have c9 := hB2.cell 9
  have c10 := hB2.cell 10
  have c11 := hB2.cell 11
  have hck := pl_check tAl (w := w2) (tA := none) (wA := none) (tn := 0) (wn := 0) (tc := 0) (wc := 0) ⟨rfl, fun h => absurd h (by decide)⟩ ⟨rfl, fun h => absurd h (by decide)⟩ (by decide) (by decide)
  rw [chk_al] at hck
  unfold tpV tAl at hck
  dsimp only at hck
  have hzw := hz.trans' hz2
  clear hrun hf hj hj' hX4 j0 j1 j2 j3 hl hl1 hpv hcl h00 h30 h32 h14 hB hB2 hz hz2
  rw [show ([x0, x1, x2, x3] : List JV).length = 4 from rfl] at *
  go_wp2_with (go_at_call 14; refine hck.mono ?_; rintro e w3 ⟨rfl, hz3⟩)
  go_ret
  exact ⟨by trivial, hzw.trans' hz3⟩
end Go.Proofs.Ytlbkjhfnpjbjlaa
/- Plan: Small. -/
namespace Go.Proofs.Ytlbkjhfnpjbjlaa
open Go.RowKit Go.Vx
set_option linter.unusedVariables false
set_option linter.unusedSimpArgs false

/-- Templates in memory, of any length. -/
def TRow0 (w : World) (A : Option Addr) (n : Nat) (T : List TV) : Prop := Src w 12 A n (T.flatMap tvEnc) ∧ (∀ x ∈ T, Src w 1 x.tA x.t.tg.length (x.t.tg.map (Value.int .i64)) ∧ Src w 1 x.wA x.t.wt.length (x.t.wt.map (Value.int .i64))) ∧ T.length = n
theorem TRow0.keep {w w' : World} {A : Option Addr} {n : Nat} {T : List TV} (h : TRow0 w A n T) (k : Chg [] w w') : TRow0 w' A n T := ⟨h.1.chg k (by simp), fun x hx => ⟨(h.2.1 x hx).1.chg k (by simp), (h.2.1 x hx).2.chg k (by simp)⟩, h.2.2⟩
theorem TRow0.row {w : World} {A : Option Addr} {n : Nat} {T : List TV} (h : TRow0 w A n T) (hl : ∀ x ∈ T, x.t.tg.length ≤ 20 ∧ x.t.wt.length ≤ 20) : TRow w A n T := ⟨h.1, fun x hx => ⟨(h.2.1 x hx).1, (h.2.1 x hx).2, by have := hl x hx; omega, by have := hl x hx; omega⟩, h.2.2⟩
theorem TRow0.cells {w : World} {A : Option Addr} {n : Nat} {T : List TV} (h : TRow0 w A n T) {i : Nat} (hi : i < n) : ∃ ad, A = some ad ∧ (Src w 1 (T.getD i default).tA (T.getD i default).t.tg.length ((T.getD i default).t.tg.map (Value.int .i64)) ∧ Src w 1 (T.getD i default).wA (T.getD i default).t.wt.length ((T.getD i default).t.wt.map (Value.int .i64))) ∧ w.cell? (ad.add (i * 12)) = some (.int .i64 (T.getD i default).t.kind) ∧
    (∀ j u, 0 < j → j < 12 → (tvEnc (T.getD i default))[j]? = some u → w.cell? ⟨(ad.add (i * 12)).block, (ad.add (i * 12)).off + j, none⟩ = some u) := by
  obtain ⟨hs, hok, hl⟩ := h
  subst hl
  obtain ⟨ad, rfl, hc⟩ := hs.2 (by omega)
  have hg : T.getD i default = T[i] := by simp [List.getD, List.getElem?_eq_getElem hi]
  rw [hg]
  have key : ∀ j u, j < 12 → (tvEnc T[i])[j]? = some u → w.cell? (ad.add (i * 12 + j)) = some u := fun j u hj hu => by
    apply hc
    rw [flatMap_at tvEnc_len T i hi j hj, at_eq hi]
    exact hu
  have e : ∀ j, j ≠ 0 → ad.add (i * 12 + j) = ⟨(ad.add (i * 12)).block, (ad.add (i * 12)).off + j, none⟩ := fun j hj => by
    unfold Addr.add
    by_cases hks : i * 12 = 0 <;> simp [hks, hj, Nat.add_assoc]
  exact ⟨ad, rfl, hok _ (List.getElem_mem hi), key 0 _ (by omega) rfl, fun j u h0 hj hu => by rw [← e j (by omega)]; exact key j u hj hu⟩
def cntOf (t : Tp) : Nat := if checkT t = true then cntT t else 0
theorem cntOf_per (t : Tp) : cntOf t = (perL t).length := by
  unfold cntOf perL
  split
  · rw [per_len]
  · rfl
def cntS (T : List TV) (k : Nat) : Nat := ((List.range k).map fun i => cntOf (T.getD i default).t).sum
theorem cntS_succ (T : List TV) (k : Nat) : cntS T (k + 1) = cntS T k + cntOf (T.getD k default).t := by
  unfold cntS
  rw [List.range_succ, List.map_append, List.sum_append]
  simp
theorem cntS_le (T : List TV) : ∀ k, cntS T k ≤ k * 1200
  | 0 => by simp [cntS]
  | k + 1 => by
    rw [cntS_succ, cntOf_per]
    have := cntS_le T k
    have := perL_len (T.getD k default).t
    omega
theorem its_cnt (T : List TV) : ∀ k, (itsN T k).length = cntS T k
  | 0 => rfl
  | k + 1 => by
    rw [its_succ, List.length_append, its_cnt T k, cntS_succ, cntOf_per]
    unfold perIt
    rw [List.length_map]
def okLen (x : TV) : Bool := decide (x.t.tg.length ≤ 20) && decide (x.t.wt.length ≤ 20)
def smallN (T : List TV) : Bool := (List.range (min T.length 20)).all (fun i => okLen (T.getD i default)) && (decide (T.length ≤ 8) && decide (cntS T (min T.length 20) ≤ 120))
theorem small_yes {T : List TV} (h : smallN T = true) : T.length ≤ 8 ∧ (∀ x ∈ T, x.t.tg.length ≤ 20 ∧ x.t.wt.length ≤ 20) ∧ (itsN T T.length).length ≤ 120 := by
  unfold smallN at h
  simp only [Bool.and_eq_true, decide_eq_true_eq] at h
  obtain ⟨h1, h2, h3⟩ := h
  rw [show min T.length 20 = T.length by omega] at h1 h3
  refine ⟨h2, fun x hx => ?_, by rw [its_cnt]; exact h3⟩
  obtain ⟨i, hi, rfl⟩ := List.getElem_of_mem hx
  have := range_all.1 h1 i hi
  unfold okLen at this
  simp only [List.getD, List.getElem?_eq_getElem hi, Option.getD_some, Bool.and_eq_true, decide_eq_true_eq] at this
  exact this
theorem quo_nat {d e : Int} (hd : 0 ≤ d) (he : 0 < e) : d.tdiv e = ((d.toNat / e.toNat : Nat) : Int) := by
  obtain ⟨a, rfl⟩ : ∃ a : Nat, d = a := ⟨d.toNat, by omega⟩
  obtain ⟨b, rfl⟩ : ∃ b : Nat, e = b := ⟨e.toNat, by omega⟩
  simp
set_option maxRecDepth 100000 in
set_option maxHeartbeats 8000000 in
theorem pl_small {T : List TV} {A : Option Addr} {n c : Nat} {w : World} (h : TRow0 w A n T) (hn : n ≤ 4611686018427387904) :
    Calls Try.prog 7 #[.slice A n c] w fun e w' => e = .returned (.bool (smallN T)) ∧ Chg [] w w' := by
  obtain ⟨R, hR⟩ : ∃ R, smallN T = R := ⟨_, rfl⟩
  have hTn : T.length = n := h.2.2
  have hRb : R = ((List.range (min n 20)).all (fun i => okLen (T.getD i default)) && (decide (n ≤ 8) && decide (cntS T (min n 20) ≤ 120))) := by rw [← hR, ← hTn]; rfl
  rw [hR]
  clear hR hTn
  have hcell := fun W (z : Chg [] w W) k (hk : k < n) => (h.keep z).cells hk
  have hcs := cntS_succ T
  have hcl := cntS_le T
  have hc0 : cntS T 0 = 0 := rfl
  have hno : ∀ k, k < n → k < 20 → okLen (T.getD k default) = false → Hid (R = false) := fun k h1 h2 h3 => Lib.hid (by
    rw [hRb, List.all_eq_false.2 ⟨k, List.mem_range.2 (by omega), by rw [h3]; simp⟩]; rfl)
  have hyes : ∀ k, k = min n 20 → (∀ i, i < k → okLen (T.getD i default) = true) → Hid (R = (decide (n ≤ 8) && decide (cntS T k ≤ 120))) := fun k h1 h2 => Lib.hid (by
    subst h1
    rw [hRb, range_all.2 h2]; rfl)
  generalize cntS T = CS at *
  replace hcell := Lib.hid hcell
  replace hcs := Lib.hid hcs
  replace hcl := Lib.hid hcl
  replace hc0 := Lib.hid hc0
  replace hno := Lib.hid hno
  replace hyes := Lib.hid hyes
  clear h hRb
  go_enter Try.func7, Try.ntmps7
  go_wp2_with fail
  go_loopw [3, 4] (fun sv iv wr => ∃ k : Nat, k ≤ n ∧ k ≤ 20 ∧ iv = .int .i64 k ∧ sv = .int .i64 (CS k) ∧ Hid (∀ i, i < k → okLen (T.getD i default) = true) ∧ Chg [] w wr) (fun _ iv _ => 20 - (intOf iv).toNat)
  case atStart => exact ⟨0, by omega, by omega, rfl, by rw [hc0.out]; rfl, Lib.hid (fun i hi => by omega), Chg.refl _ _⟩
  case round =>
    obtain ⟨k, hk, hk20, rfl, rfl, hj, hzr⟩ := hrel
    have hkw : IntKind.i64.wrap ((k : Int) + 1) = (k : Int) + 1 := by rw [IntKind.wrap_i64]; omega
    by_cases hlt : k < n
    · have hlt2 : (k : Int) < (n : Int) := by omega
      have b1 : decide ((k : Int) < (n : Int)) = true := by simpa using hlt2
      by_cases hk2 : k < 20
      · have b2 : decide ((k : Int) < 20) = true := by simp; omega
        obtain ⟨ad, rfl, hok, c0, hcj⟩ := hcell.out _ hzr k hlt
        have hcsk := hcs.out k
        have hclk := hcl.out k
        have hnok := hno.out k hlt hk2
        have hnext : okLen (T.getD k default) = true → Hid (∀ i, i < k + 1 → okLen (T.getD i default) = true) := fun h => Lib.hid (fun i hi => by
          by_cases e : i = k
          · rw [e]; exact h
          · exact hj.out i (by omega))
        generalize T.getD k default = x at *
        have c1 := hcj 1 _ (by omega) (by omega) rfl
        have c2 := hcj 2 _ (by omega) (by omega) rfl
        have c3 := hcj 3 _ (by omega) (by omega) rfl
        have c4 := hcj 4 _ (by omega) (by omega) rfl
        have c5 := hcj 5 _ (by omega) (by omega) rfl
        have c6 := hcj 6 _ (by omega) (by omega) rfl
        have c7 := hcj 7 _ (by omega) (by omega) rfl
        have c8 := hcj 8 _ (by omega) (by omega) rfl
        have c9 := hcj 9 _ (by omega) (by omega) rfl
        have c10 := hcj 10 _ (by omega) (by omega) rfl
        have c11 := hcj 11 _ (by omega) (by omega) rfl
        clear hcj
        obtain ⟨t, tA, tc, wA, wc⟩ := x
        unfold okLen at hnok hnext
        dsimp only at *
        have hcO : cntOf t = if checkT t = true then cntT t else 0 := rfl
        have hcf := @check_front t
        have hcT : checkT t = true → cntT t = (t.til - t.frm).toNat / t.every.toNat + 1 := fun _ => rfl
        have hrf := fun W => pl_ref t tA wA t.tg.length t.wt.length tc wc W
        have hck := fun W (z : Chg [] wr W) (h1 : t.tg.length ≤ 1000000) (h2 : t.wt.length ≤ 1000000) => r1_checkPlan t (tc := tc) (wc := wc) (hok.1.chg z (by simp)) (hok.2.chg z (by simp)) h1 h2
        generalize cntOf t = CO at *
        generalize cntT t = CT at *
        generalize checkT t = cb at *
        obtain ⟨kind, id', ent, frm, til, every, amt, deb, cred, tg, wt, rank⟩ := t
        unfold tpV at hrf hck
        dsimp only at *
        have hB := Blk.new wr 24 #[.int .i64 kind, .int .i64 id', .int .i64 ent, .int .i64 frm, .int .i64 til, .int .i64 every, .int .i64 amt, .int .i64 deb, .int .i64 cred, .slice tA tg.length tc, .slice wA wt.length wc, .int .i64 rank]
        have hz1 := (Chg.refl [] wr).alloc (.cells #[.int .i64 kind, .int .i64 id', .int .i64 ent, .int .i64 frm, .int .i64 til, .int .i64 every, .int .i64 amt, .int .i64 deb, .int .i64 cred, .slice tA tg.length tc, .slice wA wt.length wc, .int .i64 rank] 24)
        by_cases h1 : 20 < tg.length
        · have b3 : decide ((20 : Int) < (tg.length : Int)) = true := by simp; omega
          have hR := hnok (by rw [decide_eq_false (by omega)]; rfl)
          clear hnok hnext hcf hcT hck hok hB
          replace hcsk := Lib.hid hcsk
          generalize tg.length = tn at *
          generalize wt.length = wn at *
          go_wp2_with fail
          go_ret
          exact ⟨by rw [hR.out]; rfl, hzr.trans' hz1⟩
        have b3 : decide ((20 : Int) < (tg.length : Int)) = false := by simp; omega
        by_cases h2 : 20 < wt.length
        · have b4 : decide ((20 : Int) < (wt.length : Int)) = true := by simp; omega
          have hR := hnok (by rw [decide_eq_false (show ¬ wt.length ≤ 20 by omega)]; simp)
          clear hnok hnext hcf hcT hck hok hB
          replace hcsk := Lib.hid hcsk
          generalize tg.length = tn at *
          generalize wt.length = wn at *
          go_wp2_with fail
          go_ret
          exact ⟨by rw [hR.out]; rfl, hzr.trans' hz1⟩
        have b4 : decide ((20 : Int) < (wt.length : Int)) = false := by simp; omega
        have hnx := hnext (by rw [decide_eq_true (show tg.length ≤ 20 by omega), decide_eq_true (show wt.length ≤ 20 by omega)]; rfl)
        have hck2 := fun W z => hck W z (by omega) (by omega)
        clear hnok hnext hck hok h1 h2
        generalize tg.length = tn at *
        generalize wt.length = wn at *
        replace hck2 := Lib.hid hck2
        replace hcf := Lib.hid hcf
        replace hcT := Lib.hid hcT
        replace hcO := Lib.hid hcO
        replace hcsk := Lib.hid hcsk
        go_wp2_with fail
        refine (hrf _).mono ?_
        rintro e w2 ⟨rfl, hz2⟩
        have hz12 := hz1.trans' hz2
        have hck3 := hck2.out _ hz12
        have hB2 := Lib.hid (hB.chg hz2 (by simp))
        clear c0 c1 c2 c3 c4 c5 c6 c7 c8 c9 c10 c11 hrf hck2 hB
        go_wp2_with fail
        refine hck3.mono ?_
        rintro e w3 ⟨rfl, hz3⟩
        clear hck3
        have hzw := (hzr.trans' hz12).trans' hz3
        cases cb with
        | false =>
          have hq : CS (k + 1) = CS k := by rw [hcsk.out, hcO.out]; rfl
          replace hq := Lib.hid hq
          go_wp2_with fail
          exact ⟨⟨k + 1, by omega, by omega, by go_num, by rw [hq.out], hnx, hzw⟩, by simp [intOf]; omega⟩
        | true =>
          have hB3 := hB2.out.chg hz3 (by simp)
          obtain ⟨jb, hjb⟩ : ∃ jb, wr.heap.size = jb := ⟨_, rfl⟩
          rw [hjb] at hB3 ⊢
          have e3 := hB3.cell 3
          have e4 := hB3.cell 4
          have e5 := hB3.cell 5
          obtain ⟨q1, q2, q3, q4, q5, -⟩ := hcf.out rfl
          have hq : CS (k + 1) = CS k + CT := by rw [hcsk.out, hcO.out, if_pos rfl]
          have hCT := hcT.out rfl
          have hdv := quo_nat (d := til - frm) (e := every) (by omega) (by omega)
          have hdl : (til - frm).toNat / every.toNat ≤ (til - frm).toNat := Nat.div_le_self _ _
          have hw1 : IntKind.i64.wrap (til - frm) = til - frm := by rw [IntKind.wrap_i64]; omega
          have hne : ¬ every = 0 := by omega
          generalize (til - frm).toNat / every.toNat = Q at *
          have hQ : Q ≤ 1199 := by omega
          have hw2 : IntKind.i64.wrap (Q : Int) = (Q : Int) := by rw [IntKind.wrap_i64]; omega
          have hw3 : IntKind.i64.wrap ((Q : Int) + 1) = (Q : Int) + 1 := by rw [IntKind.wrap_i64]; omega
          have hw4 : IntKind.i64.wrap ((CS k : Int) + ((Q : Int) + 1)) = (CS k : Int) + ((Q : Int) + 1) := by rw [IntKind.wrap_i64]; omega
          have hcv : ((CS (k + 1) : Nat) : Int) = (CS k : Int) + ((Q : Int) + 1) := by rw [hq, hCT]; push_cast; rfl
          replace hcv := Lib.hid hcv
          clear hq hCT hdl q1 q2 q3 q4 q5 hB3 hB2 hjb
          go_wp2_with fail
          exact ⟨⟨k + 1, by omega, by omega, by go_num, by rw [hcv.out], hnx, hzw⟩, by simp [intOf]; omega⟩
      · obtain rfl : k = 20 := by omega
        have hR := hyes.out 20 (by omega) hj.out
        have hR2 : Hid (R = false) := Lib.hid (by rw [hR.out, decide_eq_false (show ¬ n ≤ 8 by omega)]; rfl)
        have b3 : decide ((n : Int) ≤ 8) = false := by simp; omega
        have b2 : decide (((20 : Nat) : Int) < 20) = false := by simp
        clear hR hj
        go_wp2_with fail
        go_ret
        exact ⟨by rw [hR2.out]; rfl, hzr⟩
    · obtain rfl : k = n := by omega
      have hR := hyes.out k (by omega) hj.out
      have b1 : decide ((k : Int) < (k : Int)) = false := by simp
      have hclk := hcl.out k
      cases b3 : decide ((k : Int) ≤ 8) with
      | false =>
        have hR2 : Hid (R = false) := Lib.hid (by rw [hR.out, decide_eq_false (show ¬ k ≤ 8 by simp at b3; omega)]; rfl)
        clear hR hj hlt
        go_wp2_with fail
        go_ret
        exact ⟨by rw [hR2.out]; rfl, hzr⟩
      | true =>
        have hR2 : Hid (R = decide ((CS k : Int) ≤ 120)) := Lib.hid (by rw [hR.out, decide_eq_true (show k ≤ 8 by simp at b3; omega), Bool.eq_iff_iff]; simp; omega)
        clear hR hj hlt
        go_wp2_with fail
        go_ret
        exact ⟨by rw [hR2.out]; rfl, hzr⟩
end Go.Proofs.Ytlbkjhfnpjbjlaa
/- Plan: the laws' arguments, opened. -/
namespace Go.Proofs.Ytlbkjhfnpjbjlaa
open Go.RowKit Go.Vx
set_option linter.unusedVariables false
set_option linter.unusedSimpArgs false

/-- A template of an argument. -/
structure TArg (w : World) (x : TV) : Prop where
  tg : Src w 1 x.tA x.t.tg.length (x.t.tg.map (Value.int .i64))
  wt : Src w 1 x.wA x.t.wt.length (x.t.wt.map (Value.int .i64))
  tn : x.t.tg.length ≤ maxLen
  wn : x.t.wt.length ≤ maxLen
  tc : x.t.tg.length ≤ x.tc
  wc : x.t.wt.length ≤ x.wc
  hr : (Lit.int .i64 x.t.rank).wf = true
open Go.ChangeShapes Go.WideShapes Go.Deep in
theorem opn_tp {H : Type} {enc : TypeId × Value → H} {w : World} {base : Nat} {spare : Nat → Bool} {held : Bool} {fuel : Nat} {cs : List Value} {x : DataW H × List MemPlace} (hl : cs.length = 12)
    (hx : DataW.trod enc Try.prog w base spare held fuel 24 cs = some x) : ∃ y : TV, tvEnc y = cs ∧ TArg w y := by
  obtain ⟨n, hf⟩ := opn_fields Try.underlying24 (by kernel_rfl) (by simpa using hl) hx
  match cs, hl with
  | [c0, c1, c2, c3, c4, c5, c6, c7, c8, c9, c10, c11], _ =>
    obtain ⟨v0, y0, e0, h0⟩ := hf 0 _ rfl
    obtain ⟨v1, y1, e1, h1⟩ := hf 1 _ rfl
    obtain ⟨v2, y2, e2, h2⟩ := hf 2 _ rfl
    obtain ⟨v3, y3, e3, h3⟩ := hf 3 _ rfl
    obtain ⟨v4, y4, e4, h4⟩ := hf 4 _ rfl
    obtain ⟨v5, y5, e5, h5⟩ := hf 5 _ rfl
    obtain ⟨v6, y6, e6, h6⟩ := hf 6 _ rfl
    obtain ⟨v7, y7, e7, h7⟩ := hf 7 _ rfl
    obtain ⟨v8, y8, e8, h8⟩ := hf 8 _ rfl
    obtain ⟨v9, y9, e9, h9⟩ := hf 9 _ rfl
    obtain ⟨v10, y10, e10, h10⟩ := hf 10 _ rfl
    obtain ⟨v11, y11, e11, h11⟩ := hf 11 _ rfl
    simp at e0 e1 e2 e3 e4 e5 e6 e7 e8 e9 e10 e11
    subst e0 e1 e2 e3 e4 e5 e6 e7 e8 e9 e10 e11
    obtain ⟨a0, q0, -, -⟩ := DataW.trod_int Try.underlying3 h0
    obtain ⟨a1, q1, -, -⟩ := DataW.trod_int Try.underlying3 h1
    obtain ⟨a2, q2, -, -⟩ := DataW.trod_int Try.underlying3 h2
    obtain ⟨a3, q3, -, -⟩ := DataW.trod_int Try.underlying3 h3
    obtain ⟨a4, q4, -, -⟩ := DataW.trod_int Try.underlying3 h4
    obtain ⟨a5, q5, -, -⟩ := DataW.trod_int Try.underlying3 h5
    obtain ⟨a6, q6, -, -⟩ := DataW.trod_int Try.underlying3 h6
    obtain ⟨a7, q7, -, -⟩ := DataW.trod_int Try.underlying3 h7
    obtain ⟨a8, q8, -, -⟩ := DataW.trod_int Try.underlying3 h8
    obtain ⟨a11, q11, -, wr⟩ := DataW.trod_int Try.underlying3 h11
    simp at q0 q1 q2 q3 q4 q5 q6 q7 q8 q11
    subst q0 q1 q2 q3 q4 q5 q6 q7 q8 q11
    have hsl : ∀ (v : Value) (y : DataW H × List MemPlace), DataW.trod enc Try.prog w base spare held n 22 [v] = some y → ∃ A m k, v = .slice A m k := fun v y h => by
      rcases open_slice Try.underlying22 h with ⟨hcs, _⟩ | ⟨a, len', cap', m, n, D, Pl, hcs, _⟩
      · simp at hcs; exact ⟨none, 0, 0, hcs⟩
      · simp at hcs; exact ⟨_, _, _, hcs⟩
    obtain ⟨A9, m9, k9, rfl⟩ := hsl _ _ h9
    obtain ⟨A10, m10, k10, rfl⟩ := hsl _ _ h10
    obtain ⟨l9, r1, r2, r3, r4, -⟩ := opn_ints Try.underlying22 Try.underlying3 (by kernel_rfl) (d := y9.1) (ps := y9.2) (A := A9) (len := m9) (cap := k9) ⟨_, h9⟩
    obtain ⟨l10, s1, s2, s3, s4, -⟩ := opn_ints Try.underlying22 Try.underlying3 (by kernel_rfl) (d := y10.1) (ps := y10.2) (A := A10) (len := m10) (cap := k10) ⟨_, h10⟩
    subst r1 s1
    exact ⟨⟨⟨a0, a1, a2, a3, a4, a5, a6, a7, a8, l9, l10, a11⟩, A9, k9, A10, k10⟩, rfl, ⟨r4, s4, by dsimp only; omega, by dsimp only; omega, r2, s2, wr⟩⟩
open Go.ChangeShapes Go.WideShapes Go.Deep in
theorem opn_plan_Template {H : Type} {enc : TypeId × Value → H} {w : World} {base : Nat} {spare : Nat → Bool} {held : Bool} {A : Option Addr} {len cap : Nat} {d : DataW H} {ps : List MemPlace}
    (h : DataW.Trod enc Try.prog w base spare held 45 (.slice A len cap) d ps) : ∃ l : List TV, l.length = len ∧ len ≤ cap ∧ cap ≤ maxLen ∧ Src w 12 A len (l.flatMap tvEnc) ∧ ∀ x ∈ l, TArg w x :=
  opn Try.underlying45 (size := 12) (by kernel_rfl) tvEnc _ tvEnc_len (fun fuel cs x hl hx => opn_tp hl hx) h
open Go.ChangeShapes Go.WideShapes Go.Deep in
theorem opn_st_plan_Template {H : Type} {enc : TypeId × Value → H} {w : World} {base : Nat} {spare : Nat → Bool} {held : Bool} {cs : Array Value} {d : DataW H} {ps : List MemPlace}
    (h : DataW.Trod enc Try.prog w base spare held 24 (.agg cs) d ps) (hs : cs.size = Try.prog.cellsOf 24) : ∃ l : TV, cs = #[.int .i64 l.t.kind, .int .i64 l.t.id, .int .i64 l.t.ent, .int .i64 l.t.frm, .int .i64 l.t.til, .int .i64 l.t.every, .int .i64 l.t.amt, .int .i64 l.t.deb, .int .i64 l.t.cred, .slice l.tA l.t.tg.length l.tc, .slice l.wA l.t.wt.length l.wc, .int .i64 l.t.rank] ∧ TArg w l := by
  obtain ⟨fuel, hf⟩ := h
  have h12 : Try.prog.cellsOf 24 = 12 := by kernel_rfl
  obtain ⟨y, hy, ha⟩ := opn_tp (cs := cs.toList) (by simpa [h12] using hs) hf
  refine ⟨y, ?_, ha⟩
  apply Array.toList_inj.1
  rw [← hy]
  rfl
theorem TArg.row {w : World} {A : Option Addr} {n : Nat} {T : List TV} (h1 : T.length = n) (h2 : Src w 12 A n (T.flatMap tvEnc)) (h3 : ∀ x ∈ T, TArg w x) : TRow0 w A n T := ⟨h2, fun x hx => ⟨(h3 x hx).tg, (h3 x hx).wt⟩, h1⟩
end Go.Proofs.Ytlbkjhfnpjbjlaa
