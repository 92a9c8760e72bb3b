/- AgendaPlays: one of its acts, a declaration of its own (cut by agr.py). -/
import Derived.Test.YtkpegffoebmhmaaAgRb
import Derived.StillTailTactics
namespace Go.Proofs.Ytkpegffoebmhmaa
open Go.RowKit Go.Vx
set_option linter.unusedVariables false
set_option linter.unusedSimpArgs false

set_option maxRecDepth 1000000 in
set_option maxHeartbeats 16000000 in
theorem act4 {w wa : World} {pa ob k : Nat} {S : List Slot} {m : Int} {F FR : List Nat} {B : Option Addr} {cB : Nat} {okd on : Int} {oA : Option Addr} {oln ocp : Nat} {ol : List Item}
    (hP1 : PA w wa pa S m F (.slice B S.length cB) FR) (ho : PlayOk wa ⟨okd, on, oA, oln, ocp, ol⟩) (hRl2 : ∀ g, g ∈ FR → g < wa.heap.size) (hbo : Blk wa ob 39 #[.int .i64 okd, .int .i64 on, .slice oA oln ocp]) (hobF : ob ∉ pa :: F)
    (hAb : 0 < oln → ∀ ad, oA = some ad → ad.block < w.heap.size) (h30 : oln ≤ 30) (hocap : oln ≤ ocp) (hocm : ocp ≤ 2 ^ 63 - 1) (hol2 : Hid (ol.length = oln)) (hk40 : k ≤ 40) (hm : m ≤ 30 * k) (hcB1 : S.length ≤ cB) (hcB2 : cB ≤ 2 ^ 63 - 1)
    (b1 : (okd == 1) = false) (b2 : (okd == 2) = false) (b3 : (okd == 3) = false)
    (x0 x1 x2 x5 x8 x9 x10 x11 x12 x13 x14 x15 x16 x17 x18 x19 x20 x21 x22 x23 x24 x25 x26 x27 x28 x29 x30 x31 x32 x33 x34 x35 x36 x37 x38 x39 x40 x41 x42 x43 x44 x45 x47 x48 x49 x50 x51 x52 x53 x54 x55 x56 x57 x58 x59 x60 x61 x62 x63 x64 x65 x66 x67 x68 x69 x70 x71 x72 x73 x74 x75 x76 x77 x78 x79 x80 x81 x82 x83 x84 x85 x86 x87 x88 x89 x90 x91 x92 x93 x94 x95 x96 x97 x98 x99 x100 x101 x102 x103 x104 x105 x106 x107 x108 x109 x110 x111 x112 x113 x114 x115 x116 x117 x118 x119 x120 x121 x122 x123 x124 x125 x126 x127 x128 x129 x130 x131 x132 x133 x134 x135 x136 x137 x138 x139 x140 x141 x142 x143 x144 x145 x146 x147 x148 x149 x150 x151 x152 x153 x154 x155 x156 x157 x158 x159 x160 x161 x162 x163 x164 x165 x166 x167 x168 x169 x170 x171 x172 x173 x174 x175 x176 x177 x178 x179 x180 x181 x182 x183 x184 x185 x186 x187 x188 x189 x190 x191 x192 x193 x194 x195 x196 x197 x198 x199 x200 x201 x202 x203 x204 x205 x206 x207 x208 x209 x210 x211 x212 x213 x214 x215 x216 x217 x218 x219 x220 x221 x222 x223 x224 x225 x226 x227 x228 x229 x230 x231 x232 x233 x234 x235 x236 x237 x238 x239 x240 x241 x242 x243 x244 x245 x246 x247 x248 x249 x250 x251 x252 x253 x254 x255 x256 x257 x258 x259 x260 x261 x262 x263 x264 x265 x266 x267 x268 x269 x270 x271 x272 x273 : Value) (Q : Exit → Act → World → Prop)
    (hQ : ∀ (rv : Value) (wx : World) (y8 y9 y10 y11 y12 y13 y14 y15 y47 y48 y49 y50 y51 y52 y53 y54 y55 y56 y57 y58 y59 y60 y61 y62 y63 y64 y65 y66 y67 y68 y69 y70 y71 y72 y73 y74 y75 y76 y77 y78 y79 y80 y81 y82 y83 y84 y85 y86 y87 y88 y89 y90 y91 y92 y93 y94 y95 y96 y97 y98 y99 y100 y101 y102 y103 y104 y105 y106 y107 y108 y109 y110 y111 y112 y113 y114 y115 y116 y117 y118 y119 y120 y121 y122 y123 y124 y125 y126 y127 y128 y129 y130 y131 y132 y133 y134 y135 y136 y137 y138 y139 y140 y141 y142 y143 y144 y145 y146 y147 y148 y149 y150 y151 y152 y153 y154 y155 y156 y157 y158 y159 y160 y161 y162 y163 y164 y165 y166 y167 y168 y169 y170 y171 y172 y173 y174 y175 y176 y177 y178 y179 y180 y181 y182 y183 y184 y185 y186 y187 y188 y189 y190 y191 y192 y193 y194 y195 y196 y197 y198 y199 y200 y201 y202 y203 y204 y205 y206 y207 y208 y209 y210 y211 y212 y213 y214 y215 y216 y217 y218 y219 y220 : Value), (ActPost w wx pa k rv) → Q .normal ⟨#[x0, x1, x2, .pointer (some ⟨pa, 0, none⟩), rv, x5, .pointer (some ⟨ob, 0, none⟩), .bool true, y8, y9, y10, y11, y12, y13, y14, y15, x16, x17, x18, x19, x20, x21, x22, x23, x24, x25, x26, x27, x28, x29, x30, x31, x32, x33, x34, x35, x36, x37, x38, x39, x40, x41, x42, x43, x44, x45, .int .i64 okd, y47, y48, y49, y50, y51, y52, y53, y54, y55, y56, y57, y58, y59, y60, y61, y62, y63, y64, y65, y66, y67, y68, y69, y70, y71, y72, y73, y74, y75, y76, y77, y78, y79, y80, y81, y82, y83, y84, y85, y86, y87, y88, y89, y90, y91, y92, y93, y94, y95, y96, y97, y98, y99, y100, y101, y102, y103, y104, y105, y106, y107, y108, y109, y110, y111, y112, y113, y114, y115, y116, y117, y118, y119, y120, y121, y122, y123, y124, y125, y126, y127, y128, y129, y130, y131, y132, y133, y134, y135, y136, y137, y138, y139, y140, y141, y142, y143, y144, y145, y146, y147, y148, y149, y150, y151, y152, y153, y154, y155, y156, y157, y158, y159, y160, y161, y162, y163, y164, y165, y166, y167, y168, y169, y170, y171, y172, y173, y174, y175, y176, y177, y178, y179, y180, y181, y182, y183, y184, y185, y186, y187, y188, y189, y190, y191, y192, y193, y194, y195, y196, y197, y198, y199, y200, y201, y202, y203, y204, y205, y206, y207, y208, y209, y210, y211, y212, y213, y214, y215, y216, y217, y218, y219, y220, x221, x222, x223, x224, x225, x226, x227, x228, x229, x230, x231, x232, x233, x234, x235, x236, x237, x238, x239, x240, x241, x242, x243, x244, x245, x246, x247, x248, x249, x250, x251, x252, x253, x254, x255, x256, x257, x258, x259, x260, x261, x262, x263, x264, x265, x266, x267, x268, x269, x270, x271, x272, x273], []⟩ wx) :
    Code.wp Try.prog codeB2 Q ⟨#[x0, x1, x2, .pointer (some ⟨pa, 0, none⟩), .slice B S.length cB, x5, .pointer (some ⟨ob, 0, none⟩), .bool true, x8, x9, x10, x11, x12, x13, x14, x15, x16, x17, x18, x19, x20, x21, x22, x23, x24, x25, x26, x27, x28, x29, x30, x31, x32, x33, x34, x35, x36, x37, x38, x39, x40, x41, x42, x43, x44, x45, .int .i64 okd, x47, x48, x49, x50, x51, x52, x53, x54, x55, x56, x57, x58, x59, x60, x61, x62, x63, x64, x65, x66, x67, x68, x69, x70, x71, x72, x73, x74, x75, x76, x77, x78, x79, x80, x81, x82, x83, x84, x85, x86, x87, x88, x89, x90, x91, x92, x93, x94, x95, x96, x97, x98, x99, x100, x101, x102, x103, x104, x105, x106, x107, x108, x109, x110, x111, x112, x113, x114, x115, x116, x117, x118, x119, x120, x121, x122, x123, x124, x125, x126, x127, x128, x129, x130, x131, x132, x133, x134, x135, x136, x137, x138, x139, x140, x141, x142, x143, x144, x145, x146, x147, x148, x149, x150, x151, x152, x153, x154, x155, x156, x157, x158, x159, x160, x161, x162, x163, x164, x165, x166, x167, x168, x169, x170, x171, x172, x173, x174, x175, x176, x177, x178, x179, x180, x181, x182, x183, x184, x185, x186, x187, x188, x189, x190, x191, x192, x193, x194, x195, x196, x197, x198, x199, x200, x201, x202, x203, x204, x205, x206, x207, x208, x209, x210, x211, x212, x213, x214, x215, x216, x217, x218, x219, x220, x221, x222, x223, x224, x225, x226, x227, x228, x229, x230, x231, x232, x233, x234, x235, x236, x237, x238, x239, x240, x241, x242, x243, x244, x245, x246, x247, x248, x249, x250, x251, x252, x253, x254, x255, x256, x257, x258, x259, x260, x261, x262, x263, x264, x265, x266, x267, x268, x269, x270, x271, x272, x273], []⟩ wa := by
  conv => arg 2; whnf
  have hS := hP1.len
  have hm0 := hP1.m0
  have hml : (S.map item).length = S.length := by simp
  have e0 : wa.cell? ⟨ob, 0, none⟩ = some (.int .i64 okd) := hbo.cell 0
  have e1 : wa.cell? ⟨ob, 1, none⟩ = some (.int .i64 on) := hbo.cell 1
  have e2 : wa.cell? ⟨ob, 2, none⟩ = some (.slice oA oln ocp) := hbo.cell 2
  have htk := ag_take hP1.ag hS on
  have hsl : (stays on S).length ≤ S.length := List.length_filter_le _ _
  obtain ⟨i0, hi, j0, j1, j2⟩ := info_parts infoRItem
  go_wp2_with fail
  go_loopw [14, 15] (fun lv iv wx => ∃ (i : Nat) (G : List Nat), i ≤ S.length ∧ iv = .int .i64 i ∧ Fix wx 41 3 lv (stays on (S.take i)).length (((stays on (S.take i)).map item).flatMap itEnc) G ∧ (∀ g, g ∈ G → wa.heap.size ≤ g) ∧ Chg [] wa wx) (fun _ iv _ => S.length - (intOf iv).toNat)
  case atStart => exact ⟨0, [], by omega, rfl, Fix.nil _ _ _, by simp, Chg.refl _ _⟩
  case round =>
    obtain ⟨i, G, hi2, rfl, hfx, hG, hcx⟩ := hrel
    by_cases hil : i < S.length
    · obtain ⟨ad', c', e', y0, y1, y2⟩ := (hP1.rs.chg hcx (by simp)).at_ (k := i) (by rw [hml]; exact hil)
      injection e' with e' ec e''
      clear ec
      subst e' e''
      have hn0 : nth (List.map item S) i = item (nth S i) := by rw [at_eq (by rw [hml]; exact hil), at_eq hil, List.getElem_map]
      rw [hn0] at y0 y1 y2
      simp only [item] at y0 y1 y2
      have hst := stays_take (id := on) hil
      have hkl : (stays on (S.take i)).length ≤ 1000 := by
        have h1 : (stays on (S.take i)).length ≤ (S.take i).length := List.length_filter_le _ _
        have h2 : (S.take i).length ≤ S.length := by simp; omega
        omega
      have e1x := (hbo.chg hcx (by simp)).cell 1
      simp at e1x
      clear hn0 htk
      generalize nth S i = x at *
      replace hst := Lib.hid hst
      cases hx : (x.2.2.1 == on) with
      | true =>
        have hx2 : (x.2.2.1 != on) = false := by simp [bne, hx]
        replace hx := Lib.hid hx
        go_wp2_with fail
        go_quiet (fail)
        go_wp2_with fail
        go_roundw
        case measure => simp [intOf]; omega
        case rel =>
          refine ⟨i + 1, G, by omega, by go_num, ?_, hG, hcx.drewN _⟩
          rw [hst.out, hx.out]
          simpa using hfx.drewN _
      | false =>
        have hx2 : (x.2.2.1 != on) = true := by simp [bne, hx]
        replace hx := Lib.hid hx
        go_wp2_with fail
        go_quiet (fail)
        go_wp2_with (at_builtin; refine wpList_append_fix rfl (.tmp 61) (.tmp 66) 37 rfl Try.underlying37 hi j0 j1 j2 rfl (by omega) rfl ((hfx.drewN _).alloc _) rfl (Src.one3 (by simp)) (by simp [Value.oneCell']) (by unfold maxLen; omega) (by omega) ?_; intro v' w2 F2 ha)
        go_roundw
        case measure => simp [intOf]; omega
        case rel =>
          refine ⟨i + 1, F2, by omega, by go_num, ?_, ?_, ((hcx.drewN _).alloc _).trans ha.chg (fun g hg => .inr (hG g hg))⟩
          · rw [hst.out, hx.out]
            have := ha.fix
            simp only [Bool.false_eq_true, if_false, List.length_append, List.flatMap_append, List.map_append]
            exact this
          · intro g hg
            rcases ha.foot with e | e
            · exact hG g (by rw [← e]; exact hg)
            · have y2 := hcx.size
              rw [e] at hg
              simp at hg
              omega
    · obtain rfl : i = S.length := by omega
      rw [List.take_length] at hfx
      have hml3 : ((stays on S).map item).length = (stays on S).length := by simp
      rw [← hml3] at hfx
      have hrl := RItems.of_fix hfx
      rw [hml3] at hfx
      obtain ⟨A3, c3, rfl, -⟩ := id hfx
      have hP2 := hP1.quiet hcx
      have htk2 := ag_take hP2.ag hS on
      have hltF := hP1.ag.lt
      have hGl := hfx.lt
      have hGd : ∀ g, g ∈ G → g ∉ pa :: F := fun g hg h => by have := hG g hg; have := hltF g h; omega
      have e1x := (hbo.chg hcx (by simp)).cell 1
      simp at e1x
      have hold := stays_old on hP1.old
      have hml4 := Lib.hid hml3
      clear htk hfx hml3
      go_wp2_with (go_at_call 13; refine htk2.mono ?_; rintro e w6 ⟨rfl, F6, h6, hF6, hc6⟩)
      unfold ActPost
      refine ⟨stays on S, m, F6, G, by omega, hP2.act2 hc6 h6 hF6 (by have hq := hrl.chg hc6 hGd; exact hq) ?_ hold (by omega) hm0⟩
      intro g hg h
      rcases List.mem_cons.1 h with rfl | h
      · exact hGd _ hg (by simp)
      · rcases hF6 g h with h | h
        · exact hGd g hg (by simp [h])
        · have := hGl g hg; omega
end Go.Proofs.Ytkpegffoebmhmaa
