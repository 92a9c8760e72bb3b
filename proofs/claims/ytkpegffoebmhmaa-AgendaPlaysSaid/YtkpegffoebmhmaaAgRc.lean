/- AgendaPlays: one of its acts, a declaration of its own (cut by agr.py). -/
import Derived.Test.YtkpegffoebmhmaaAgRb
import Derived.StillTailTactics
namespace Go.Proofs.Ytkpegffoebmhmaa
open Go.RowKit Go.Vx
set_option linter.unusedVariables false
set_option linter.unusedSimpArgs false

set_option maxRecDepth 1000000 in
set_option maxHeartbeats 16000000 in
theorem act2 {w wa : World} {pa ob k : Nat} {S : List Slot} {m : Int} {F FR : List Nat} {B : Option Addr} {cB : Nat} {okd on : Int} {oA : Option Addr} {oln ocp : Nat} {ol : List Item}
    (hP1 : PA w wa pa S m F (.slice B S.length cB) FR) (ho : PlayOk wa ⟨okd, on, oA, oln, ocp, ol⟩) (hRl2 : ∀ g, g ∈ FR → g < wa.heap.size) (hbo : Blk wa ob 39 #[.int .i64 okd, .int .i64 on, .slice oA oln ocp]) (hobF : ob ∉ pa :: F)
    (hAb : 0 < oln → ∀ ad, oA = some ad → ad.block < w.heap.size) (h30 : oln ≤ 30) (hocap : oln ≤ ocp) (hocm : ocp ≤ 2 ^ 63 - 1) (hol2 : Hid (ol.length = oln)) (hk40 : k ≤ 40) (hm : m ≤ 30 * k) (hcB1 : S.length ≤ cB) (hcB2 : cB ≤ 2 ^ 63 - 1)
    (b1 : (okd == 1) = false) (b2 : (okd == 2) = true)
    (x0 x1 x2 x5 x8 x9 x10 x11 x12 x13 x14 x15 x16 x17 x18 x19 x20 x21 x22 x23 x24 x25 x26 x27 x28 x29 x30 x31 x32 x33 x34 x35 x36 x37 x38 x39 x40 x41 x42 x43 x44 x45 x47 x48 x49 x50 x51 x52 x53 x54 x55 x56 x57 x58 x59 x60 x61 x62 x63 x64 x65 x66 x67 x68 x69 x70 x71 x72 x73 x74 x75 x76 x77 x78 x79 x80 x81 x82 x83 x84 x85 x86 x87 x88 x89 x90 x91 x92 x93 x94 x95 x96 x97 x98 x99 x100 x101 x102 x103 x104 x105 x106 x107 x108 x109 x110 x111 x112 x113 x114 x115 x116 x117 x118 x119 x120 x121 x122 x123 x124 x125 x126 x127 x128 x129 x130 x131 x132 x133 x134 x135 x136 x137 x138 x139 x140 x141 x142 x143 x144 x145 x146 x147 x148 x149 x150 x151 x152 x153 x154 x155 x156 x157 x158 x159 x160 x161 x162 x163 x164 x165 x166 x167 x168 x169 x170 x171 x172 x173 x174 x175 x176 x177 x178 x179 x180 x181 x182 x183 x184 x185 x186 x187 x188 x189 x190 x191 x192 x193 x194 x195 x196 x197 x198 x199 x200 x201 x202 x203 x204 x205 x206 x207 x208 x209 x210 x211 x212 x213 x214 x215 x216 x217 x218 x219 x220 x221 x222 x223 x224 x225 x226 x227 x228 x229 x230 x231 x232 x233 x234 x235 x236 x237 x238 x239 x240 x241 x242 x243 x244 x245 x246 x247 x248 x249 x250 x251 x252 x253 x254 x255 x256 x257 x258 x259 x260 x261 x262 x263 x264 x265 x266 x267 x268 x269 x270 x271 x272 x273 : Value) (Q : Exit → Act → World → Prop)
    (hQ : ∀ (rv : Value) (wx : World) (y8 y9 y10 y11 y12 y13 y14 y15 y47 y48 y49 y50 y51 y52 y53 y54 y55 y56 y57 y58 y59 y60 y61 y62 y63 y64 y65 y66 y67 y68 y69 y70 y71 y72 y73 y74 y75 y76 y77 y78 y79 y80 y81 y82 y83 y84 y85 y86 y87 y88 y89 y90 y91 y92 y93 y94 y95 y96 y97 y98 y99 y100 y101 y102 y103 y104 y105 y106 y107 y108 y109 y110 y111 y112 y113 y114 y115 y116 y117 y118 y119 y120 y121 y122 y123 y124 y125 y126 y127 y128 y129 y130 y131 y132 y133 y134 y135 y136 y137 y138 y139 y140 y141 y142 y143 y144 y145 y146 y147 y148 y149 y150 y151 y152 y153 y154 y155 y156 y157 y158 y159 y160 y161 y162 y163 y164 y165 y166 y167 y168 y169 y170 y171 y172 y173 y174 y175 y176 y177 y178 y179 y180 y181 y182 y183 y184 y185 y186 y187 y188 y189 y190 y191 y192 y193 y194 y195 y196 y197 y198 y199 y200 y201 y202 y203 y204 y205 y206 y207 y208 y209 y210 y211 y212 y213 y214 y215 y216 y217 y218 y219 y220 : Value), (ActPost w wx pa k rv) → Q .normal ⟨#[x0, x1, x2, .pointer (some ⟨pa, 0, none⟩), rv, x5, .pointer (some ⟨ob, 0, none⟩), .bool true, y8, y9, y10, y11, y12, y13, y14, y15, x16, x17, x18, x19, x20, x21, x22, x23, x24, x25, x26, x27, x28, x29, x30, x31, x32, x33, x34, x35, x36, x37, x38, x39, x40, x41, x42, x43, x44, x45, .int .i64 okd, y47, y48, y49, y50, y51, y52, y53, y54, y55, y56, y57, y58, y59, y60, y61, y62, y63, y64, y65, y66, y67, y68, y69, y70, y71, y72, y73, y74, y75, y76, y77, y78, y79, y80, y81, y82, y83, y84, y85, y86, y87, y88, y89, y90, y91, y92, y93, y94, y95, y96, y97, y98, y99, y100, y101, y102, y103, y104, y105, y106, y107, y108, y109, y110, y111, y112, y113, y114, y115, y116, y117, y118, y119, y120, y121, y122, y123, y124, y125, y126, y127, y128, y129, y130, y131, y132, y133, y134, y135, y136, y137, y138, y139, y140, y141, y142, y143, y144, y145, y146, y147, y148, y149, y150, y151, y152, y153, y154, y155, y156, y157, y158, y159, y160, y161, y162, y163, y164, y165, y166, y167, y168, y169, y170, y171, y172, y173, y174, y175, y176, y177, y178, y179, y180, y181, y182, y183, y184, y185, y186, y187, y188, y189, y190, y191, y192, y193, y194, y195, y196, y197, y198, y199, y200, y201, y202, y203, y204, y205, y206, y207, y208, y209, y210, y211, y212, y213, y214, y215, y216, y217, y218, y219, y220, x221, x222, x223, x224, x225, x226, x227, x228, x229, x230, x231, x232, x233, x234, x235, x236, x237, x238, x239, x240, x241, x242, x243, x244, x245, x246, x247, x248, x249, x250, x251, x252, x253, x254, x255, x256, x257, x258, x259, x260, x261, x262, x263, x264, x265, x266, x267, x268, x269, x270, x271, x272, x273], []⟩ wx) :
    Code.wp Try.prog codeB2 Q ⟨#[x0, x1, x2, .pointer (some ⟨pa, 0, none⟩), .slice B S.length cB, x5, .pointer (some ⟨ob, 0, none⟩), .bool true, x8, x9, x10, x11, x12, x13, x14, x15, x16, x17, x18, x19, x20, x21, x22, x23, x24, x25, x26, x27, x28, x29, x30, x31, x32, x33, x34, x35, x36, x37, x38, x39, x40, x41, x42, x43, x44, x45, .int .i64 okd, x47, x48, x49, x50, x51, x52, x53, x54, x55, x56, x57, x58, x59, x60, x61, x62, x63, x64, x65, x66, x67, x68, x69, x70, x71, x72, x73, x74, x75, x76, x77, x78, x79, x80, x81, x82, x83, x84, x85, x86, x87, x88, x89, x90, x91, x92, x93, x94, x95, x96, x97, x98, x99, x100, x101, x102, x103, x104, x105, x106, x107, x108, x109, x110, x111, x112, x113, x114, x115, x116, x117, x118, x119, x120, x121, x122, x123, x124, x125, x126, x127, x128, x129, x130, x131, x132, x133, x134, x135, x136, x137, x138, x139, x140, x141, x142, x143, x144, x145, x146, x147, x148, x149, x150, x151, x152, x153, x154, x155, x156, x157, x158, x159, x160, x161, x162, x163, x164, x165, x166, x167, x168, x169, x170, x171, x172, x173, x174, x175, x176, x177, x178, x179, x180, x181, x182, x183, x184, x185, x186, x187, x188, x189, x190, x191, x192, x193, x194, x195, x196, x197, x198, x199, x200, x201, x202, x203, x204, x205, x206, x207, x208, x209, x210, x211, x212, x213, x214, x215, x216, x217, x218, x219, x220, x221, x222, x223, x224, x225, x226, x227, x228, x229, x230, x231, x232, x233, x234, x235, x236, x237, x238, x239, x240, x241, x242, x243, x244, x245, x246, x247, x248, x249, x250, x251, x252, x253, x254, x255, x256, x257, x258, x259, x260, x261, x262, x263, x264, x265, x266, x267, x268, x269, x270, x271, x272, x273], []⟩ wa := by
  conv => arg 2; whnf
  have hS := hP1.len
  have hm0 := hP1.m0
  have hml : (S.map item).length = S.length := by simp
  have e0 : wa.cell? ⟨ob, 0, none⟩ = some (.int .i64 okd) := hbo.cell 0
  have e1 : wa.cell? ⟨ob, 1, none⟩ = some (.int .i64 on) := hbo.cell 1
  have e2 : wa.cell? ⟨ob, 2, none⟩ = some (.slice oA oln ocp) := hbo.cell 2
  cases S with
  | nil =>
    have hnx := ag_next_none hP1.ag
    go_wp2_with fail
    refine hnx.mono ?_
    rintro e w1 ⟨rfl, hc1⟩
    dsimp only
    go_wp2_with fail
    unfold ActPost
    exact ⟨[], m, F, FR, by omega, (hP1.quiet hc1).quiet ((Chg.refl _ _).alloc _)⟩
  | cons s S' =>
    have hS2 : S'.length < 999999 := by simp at hS; omega
    have hnx := ag_next hP1.ag hS2
    have hlt1 := hP1.ag.lt
    go_wp2_with fail
    refine hnx.mono ?_
    rintro e w1 ⟨rfl, hA1, hc1⟩
    have hr1 := (hP1.rs.chg hc1 hP1.dis).chg ((Chg.refl [] w1).alloc (.cells #[.int .i64 s.1, .int .i64 s.2.1, .int .i64 s.2.2.1] 31)) (by simp)
    have hA2 := hA1.chg ((Chg.refl [] w1).alloc (.cells #[.int .i64 s.1, .int .i64 s.2.1, .int .i64 s.2.2.1] 31)) (by simp)
    have hbx := Blk.new w1 31 #[.int .i64 s.1, .int .i64 s.2.1, .int .i64 s.2.2.1]
    obtain ⟨ad', c', e', y0, y1, y2⟩ := hr1.at_ (k := 0) (by simp)
    injection e' with e' ec e''
    clear ec
    subst e' e''
    have ez : ad'.add (0 * 3) = ad' := by simp [Addr.add]
    rw [ez] at y0 y1 y2
    have hn0 : nth (List.map item (s :: S')) 0 = item s := rfl
    rw [hn0] at y0 y1 y2
    simp only [item] at y0 y1 y2
    have z0 := hbx.cell 0
    have z1 := hbx.cell 1
    have z2 := hbx.cell 2
    simp at z0 z1 z2
    clear ez hn0
    have hlen : (s :: S').length = S'.length + 1 := rfl
    rw [hlen] at hr1
    try rw [hlen]
    clear hlen
    obtain ⟨t1, t2⟩ := RItems.tail hr1 (by simp)
    replace t1 := Lib.hid t1
    replace t2 := Lib.hid t2
    have hfin : ∀ rv' wx, Chg [] (w1.alloc (.cells #[.int .i64 s.1, .int .i64 s.2.1, .int .i64 s.2.2.1] 31)) wx → RItems wx rv' (S'.map item) FR → PA w wx pa S' m F rv' FR := fun rv' wx hcx hrx => hP1.act ((hc1.alloc _).trans' (hcx.mono (by simp))) (hA2.chg hcx (by simp)) (fun g hg => .inl hg) hrx (fun g hg => hg) (hP1.old.sub fun y hy => by simp [hy]) (by simp at hS; omega) hm0 hRl2
    dsimp only
    go_wp2_with fail
    go_quiet (fail)
    go_wp2_with fail
    all_goals
      unfold ActPost
      refine ⟨S', m, F, FR, by omega, hfin _ _ ((Chg.refl [] _).drewN _) ?_⟩
      first
        | exact t1.out.chg ((Chg.refl [] _).drewN _) (by simp)
        | exact (t2.out (by omega)).chg ((Chg.refl [] _).drewN _) (by simp)
end Go.Proofs.Ytkpegffoebmhmaa
