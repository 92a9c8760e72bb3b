/- AgendaPlays: one of its acts, a declaration of its own (cut by agr.py). -/
import Derived.Test.YtkpegffoebmhmaaAgRa
import Derived.StillTailTactics
namespace Go.Proofs.Ytkpegffoebmhmaa
open Go.RowKit Go.Vx
set_option linter.unusedVariables false
set_option linter.unusedSimpArgs false

/-- A block of a text, by its number. -/
def blockAt (n : Nat) : Code → Option Code
  | .block i c => if i = n then some (.block i c) else blockAt n c
  | .seq a b => match blockAt n a with
    | some c => some c
    | none => blockAt n b
  | .cond _ a b => match blockAt n a with
    | some c => some c
    | none => blockAt n b
  | .loop c => blockAt n c
  | .scope c => blockAt n c
  | _ => none
noncomputable def codeB2 : Code := (Try.f4.body.bind (blockAt 2)).getD .skip
def ActPost (w wx : World) (pa k : Nat) (rv : Value) : Prop := ∃ (S' : List Slot) (m' : Int) (F' FR' : List Nat), m' ≤ 30 * k + 30 ∧ PA w wx pa S' m' F' rv FR'
theorem itLen (l : List Item) : (l.flatMap itEnc).length = l.length * 3 := flatMap_len2 (enc := itEnc) (fun _ => rfl) l
set_option maxRecDepth 1000000 in
set_option maxHeartbeats 16000000 in
theorem act1 {w wa : World} {pa ob k : Nat} {S : List Slot} {m : Int} {F FR : List Nat} {B : Option Addr} {cB : Nat} {okd on : Int} {oA : Option Addr} {oln ocp : Nat} {ol : List Item}
    (hP1 : PA w wa pa S m F (.slice B S.length cB) FR) (ho : PlayOk wa ⟨okd, on, oA, oln, ocp, ol⟩) (hRl2 : ∀ g, g ∈ FR → g < wa.heap.size) (hbo : Blk wa ob 39 #[.int .i64 okd, .int .i64 on, .slice oA oln ocp]) (hobF : ob ∉ pa :: F)
    (hAb : 0 < oln → ∀ ad, oA = some ad → ad.block < w.heap.size) (h30 : oln ≤ 30) (hocap : oln ≤ ocp) (hocm : ocp ≤ 2 ^ 63 - 1) (hol2 : Hid (ol.length = oln)) (hk40 : k ≤ 40) (hm : m ≤ 30 * k) (hcB1 : S.length ≤ cB) (hcB2 : cB ≤ 2 ^ 63 - 1)
    (b1 : (okd == 1) = true)
    (x0 x1 x2 x5 x8 x9 x10 x11 x12 x13 x14 x15 x16 x17 x18 x19 x20 x21 x22 x23 x24 x25 x26 x27 x28 x29 x30 x31 x32 x33 x34 x35 x36 x37 x38 x39 x40 x41 x42 x43 x44 x45 x47 x48 x49 x50 x51 x52 x53 x54 x55 x56 x57 x58 x59 x60 x61 x62 x63 x64 x65 x66 x67 x68 x69 x70 x71 x72 x73 x74 x75 x76 x77 x78 x79 x80 x81 x82 x83 x84 x85 x86 x87 x88 x89 x90 x91 x92 x93 x94 x95 x96 x97 x98 x99 x100 x101 x102 x103 x104 x105 x106 x107 x108 x109 x110 x111 x112 x113 x114 x115 x116 x117 x118 x119 x120 x121 x122 x123 x124 x125 x126 x127 x128 x129 x130 x131 x132 x133 x134 x135 x136 x137 x138 x139 x140 x141 x142 x143 x144 x145 x146 x147 x148 x149 x150 x151 x152 x153 x154 x155 x156 x157 x158 x159 x160 x161 x162 x163 x164 x165 x166 x167 x168 x169 x170 x171 x172 x173 x174 x175 x176 x177 x178 x179 x180 x181 x182 x183 x184 x185 x186 x187 x188 x189 x190 x191 x192 x193 x194 x195 x196 x197 x198 x199 x200 x201 x202 x203 x204 x205 x206 x207 x208 x209 x210 x211 x212 x213 x214 x215 x216 x217 x218 x219 x220 x221 x222 x223 x224 x225 x226 x227 x228 x229 x230 x231 x232 x233 x234 x235 x236 x237 x238 x239 x240 x241 x242 x243 x244 x245 x246 x247 x248 x249 x250 x251 x252 x253 x254 x255 x256 x257 x258 x259 x260 x261 x262 x263 x264 x265 x266 x267 x268 x269 x270 x271 x272 x273 : Value) (Q : Exit → Act → World → Prop)
    (hQ : ∀ (rv : Value) (wx : World) (y8 y9 y10 y11 y12 y13 y14 y15 y47 y48 y49 y50 y51 y52 y53 y54 y55 y56 y57 y58 y59 y60 y61 y62 y63 y64 y65 y66 y67 y68 y69 y70 y71 y72 y73 y74 y75 y76 y77 y78 y79 y80 y81 y82 y83 y84 y85 y86 y87 y88 y89 y90 y91 y92 y93 y94 y95 y96 y97 y98 y99 y100 y101 y102 y103 y104 y105 y106 y107 y108 y109 y110 y111 y112 y113 y114 y115 y116 y117 y118 y119 y120 y121 y122 y123 y124 y125 y126 y127 y128 y129 y130 y131 y132 y133 y134 y135 y136 y137 y138 y139 y140 y141 y142 y143 y144 y145 y146 y147 y148 y149 y150 y151 y152 y153 y154 y155 y156 y157 y158 y159 y160 y161 y162 y163 y164 y165 y166 y167 y168 y169 y170 y171 y172 y173 y174 y175 y176 y177 y178 y179 y180 y181 y182 y183 y184 y185 y186 y187 y188 y189 y190 y191 y192 y193 y194 y195 y196 y197 y198 y199 y200 y201 y202 y203 y204 y205 y206 y207 y208 y209 y210 y211 y212 y213 y214 y215 y216 y217 y218 y219 y220 : Value), (ActPost w wx pa k rv) → Q .normal ⟨#[x0, x1, x2, .pointer (some ⟨pa, 0, none⟩), rv, x5, .pointer (some ⟨ob, 0, none⟩), .bool true, y8, y9, y10, y11, y12, y13, y14, y15, x16, x17, x18, x19, x20, x21, x22, x23, x24, x25, x26, x27, x28, x29, x30, x31, x32, x33, x34, x35, x36, x37, x38, x39, x40, x41, x42, x43, x44, x45, .int .i64 okd, y47, y48, y49, y50, y51, y52, y53, y54, y55, y56, y57, y58, y59, y60, y61, y62, y63, y64, y65, y66, y67, y68, y69, y70, y71, y72, y73, y74, y75, y76, y77, y78, y79, y80, y81, y82, y83, y84, y85, y86, y87, y88, y89, y90, y91, y92, y93, y94, y95, y96, y97, y98, y99, y100, y101, y102, y103, y104, y105, y106, y107, y108, y109, y110, y111, y112, y113, y114, y115, y116, y117, y118, y119, y120, y121, y122, y123, y124, y125, y126, y127, y128, y129, y130, y131, y132, y133, y134, y135, y136, y137, y138, y139, y140, y141, y142, y143, y144, y145, y146, y147, y148, y149, y150, y151, y152, y153, y154, y155, y156, y157, y158, y159, y160, y161, y162, y163, y164, y165, y166, y167, y168, y169, y170, y171, y172, y173, y174, y175, y176, y177, y178, y179, y180, y181, y182, y183, y184, y185, y186, y187, y188, y189, y190, y191, y192, y193, y194, y195, y196, y197, y198, y199, y200, y201, y202, y203, y204, y205, y206, y207, y208, y209, y210, y211, y212, y213, y214, y215, y216, y217, y218, y219, y220, x221, x222, x223, x224, x225, x226, x227, x228, x229, x230, x231, x232, x233, x234, x235, x236, x237, x238, x239, x240, x241, x242, x243, x244, x245, x246, x247, x248, x249, x250, x251, x252, x253, x254, x255, x256, x257, x258, x259, x260, x261, x262, x263, x264, x265, x266, x267, x268, x269, x270, x271, x272, x273], []⟩ wx) :
    Code.wp Try.prog codeB2 Q ⟨#[x0, x1, x2, .pointer (some ⟨pa, 0, none⟩), .slice B S.length cB, x5, .pointer (some ⟨ob, 0, none⟩), .bool true, x8, x9, x10, x11, x12, x13, x14, x15, x16, x17, x18, x19, x20, x21, x22, x23, x24, x25, x26, x27, x28, x29, x30, x31, x32, x33, x34, x35, x36, x37, x38, x39, x40, x41, x42, x43, x44, x45, .int .i64 okd, x47, x48, x49, x50, x51, x52, x53, x54, x55, x56, x57, x58, x59, x60, x61, x62, x63, x64, x65, x66, x67, x68, x69, x70, x71, x72, x73, x74, x75, x76, x77, x78, x79, x80, x81, x82, x83, x84, x85, x86, x87, x88, x89, x90, x91, x92, x93, x94, x95, x96, x97, x98, x99, x100, x101, x102, x103, x104, x105, x106, x107, x108, x109, x110, x111, x112, x113, x114, x115, x116, x117, x118, x119, x120, x121, x122, x123, x124, x125, x126, x127, x128, x129, x130, x131, x132, x133, x134, x135, x136, x137, x138, x139, x140, x141, x142, x143, x144, x145, x146, x147, x148, x149, x150, x151, x152, x153, x154, x155, x156, x157, x158, x159, x160, x161, x162, x163, x164, x165, x166, x167, x168, x169, x170, x171, x172, x173, x174, x175, x176, x177, x178, x179, x180, x181, x182, x183, x184, x185, x186, x187, x188, x189, x190, x191, x192, x193, x194, x195, x196, x197, x198, x199, x200, x201, x202, x203, x204, x205, x206, x207, x208, x209, x210, x211, x212, x213, x214, x215, x216, x217, x218, x219, x220, x221, x222, x223, x224, x225, x226, x227, x228, x229, x230, x231, x232, x233, x234, x235, x236, x237, x238, x239, x240, x241, x242, x243, x244, x245, x246, x247, x248, x249, x250, x251, x252, x253, x254, x255, x256, x257, x258, x259, x260, x261, x262, x263, x264, x265, x266, x267, x268, x269, x270, x271, x272, x273], []⟩ wa := by
  conv => arg 2; whnf
  have hS := hP1.len
  have hm0 := hP1.m0
  have hml : (S.map item).length = S.length := by simp
  have e0 : wa.cell? ⟨ob, 0, none⟩ = some (.int .i64 okd) := hbo.cell 0
  have e1 : wa.cell? ⟨ob, 1, none⟩ = some (.int .i64 on) := hbo.cell 1
  have e2 : wa.cell? ⟨ob, 2, none⟩ = some (.slice oA oln ocp) := hbo.cell 2
  obtain ⟨i0, hi, j0, j1, j2⟩ := info_parts infoItem
  have hsrc : Src wa.drew 3 oA oln (ol.flatMap itEnc) := ho.src
  have o1 := oneItems ol
  have oblt := hbo.lt
  have e2d : wa.drew.cell? ⟨ob, 2, none⟩ = some (.slice oA oln ocp) := e2
  have e2a := cell_al e2d
  have e2w : ∀ w', Chg [] wa.drew w' → w'.cell? ⟨ob, 2, none⟩ = some (.slice oA oln ocp) := fun w' h => by rw [h.cell oblt (by simp)]; exact e2
  go_upto_region 22 with fail
  go_cut [8] from 81 to 90 (fun mv wx => ∃ g c2, mv = .slice (some ⟨g, 0, none⟩) oln c2 ∧ oln + 1 ≤ c2 ∧ c2 ≤ maxLen ∧ Fix wx 31 3 (.slice (some ⟨g, 0, none⟩) (oln + 1) c2) (oln + 1) (ol.flatMap itEnc ++ [.int .i64 0, .int .i64 0, .int .i64 (-77)]) [g] ∧ wa.heap.size ≤ g ∧ Chg [] wa wx)
  case first =>
    have hfin : ∀ (g c2 : Nat) (wx : World), oln + 1 ≤ c2 → c2 ≤ maxLen → Fix wx 31 3 (.slice (some ⟨g, 0, none⟩) (oln + 1) c2) (oln + 1) (ol.flatMap itEnc ++ [.int .i64 0, .int .i64 0, .int .i64 (-77)]) [g] → wa.heap.size ≤ g → Chg [] wa wx → Hid (∃ g' c2', Value.slice (some ⟨g, 0, none⟩) oln c2 = .slice (some ⟨g', 0, none⟩) oln c2' ∧ oln + 1 ≤ c2' ∧ c2' ≤ maxLen ∧ Fix wx 31 3 (.slice (some ⟨g', 0, none⟩) (oln + 1) c2') (oln + 1) (ol.flatMap itEnc ++ [.int .i64 0, .int .i64 0, .int .i64 (-77)]) [g'] ∧ wa.heap.size ≤ g' ∧ Chg [] wa wx) := fun g c2 wx h1 h2 h3 h4 h5 => Lib.hid ⟨g, c2, rfl, h1, h2, h3, h4, h5⟩
    refine reg22 (ol := ol) hsrc hbo h30 hocap hocm _ _ _ _ _ _ _ _ _ _ _ _ _ _ _ _ _ _ _ _ _ _ _ _ _ _ _ _ _ _ _ _ _ _ _ _ _ _ _ _ _ _ _ _ _ _ _ _ _ _ _ _ _ _ _ _ _ _ _ _ _ _ _ _ _ _ _ _ _ _ _ _ _ _ _ _ _ _ _ _ _ _ _ _ _ _ _ _ _ _ _ _ _ _ _ _ _ _ _ _ _ _ _ _ _ _ _ _ _ _ _ _ _ _ _ _ _ _ _ _ _ _ _ _ _ _ _ _ _ _ _ _ _ _ _ _ _ _ _ _ _ _ _ _ _ _ _ _ _ _ _ _ _ _ _ _ _ _ _ _ _ _ _ _ _ _ _ _ _ _ _ _ _ _ _ _ _ _ _ _ _ _ _ _ _ _ _ _ _ _ _ _ _ _ _ _ _ _ _ _ _ _ _ _ _ _ _ _ _ _ _ _ _ _ _ _ _ _ _ _ _ _ _ _ _ _ _ _ _ _ _ _ _ _ _ _ _ _ _ _ _ _ _ _ _ _ _ _ _ _ _ _ _ _ _ _ _ _ _ _ _ _ _ _ _ _ _ _ _ _ _ _ _ _ ?_
    intro g c2 wx y81 y82 y83 y84 y85 y86 y87 y88 y89 y90 q1 q2 hf hg2 hz2
    have hfin2 := hfin g c2 wx q1 q2 hf hg2 hz2
    clear hfin
    go_wp2_with fail
    go_meet
    exact hfin2.out
  case rest =>
    obtain ⟨g2, c2, rfl, q1, q2, hfm, hg2, hcx⟩ := hcut
    have hP2 := hP1.quiet hcx
    have hol3 : ol.length = oln := hol2.out
    replace hol3 := Lib.hid hol3
    have hRl3 : ∀ g, g ∈ FR → g < wc.heap.size := fun g hg => by have := hRl2 g hg; have := hcx.size; omega
    have hpa := puts_all ol S m hP1.old hS hm0
    have hPl := hP1.ag.lt
    unfold maxLen at q2
    clear hP1 hRl2 e0 e1 e2d e2a e2w hi j0 j1 j2
    go_wp2_with fail
    go_loopw [4, 9] (fun rv iv wr => ∃ (i : Nat) (G : List Nat), i ≤ oln ∧ iv = .int .i64 i ∧ RItems wr rv ((ol.take i).foldl putItem (S.map item)) G ∧ (∀ g, g ∈ G → g ∈ FR ∨ wc.heap.size ≤ g) ∧ Chg [] wc wr) (fun _ iv _ => oln - (intOf iv).toNat)
    case atStart => exact ⟨0, FR, by omega, rfl, hP2.rs, fun g hg => .inl hg, Chg.refl _ _⟩
    case round =>
      obtain ⟨i, G, hi, rfl, hr, hG, hc⟩ := hrel
      have hfl := fold_len (ol.take i) (S.map item) (by rw [List.length_map]; exact hS)
      have hsr := (show Src wa 3 oA oln (ol.flatMap itEnc) from ho.src).chg (hcx.trans' hc) (by simp)
      have e2x := (hbo.chg (hcx.trans' hc) (by simp)).cell 2
      simp at e2x
      by_cases hil : i < oln
      · have hft := fold_take ol (S.map item) i (by rw [hol3.out]; exact hil)
        rw [at_eq (by rw [hol3.out]; exact hil)] at hft
        obtain ⟨ad2, rfl, d0, hcel⟩ := hsr.elem (fun _ => rfl) (by omega) (k := i) (by rw [hol3.out]; exact hil) hol3.out
        have d1 := hcel 1 (by omega) (by omega)
        have d2 := hcel 2 (by omega) (by omega)
        simp only [itEnc, List.getElem?_cons_zero, List.getElem?_cons_succ] at d0 d1 d2
        clear hcel
        generalize ol[i]'(by rw [hol3.out]; exact hil) = x at *
        have hput := fun w' (k : Chg [] _ w') => r_put (hr.chg k (by simp)) hfl x
        replace hft := Lib.hid hft
        clear hr hfl hpa hml
        generalize (ol.take i).foldl putItem (S.map item) = L at *
        go_wp2_with fail
        go_still_tail 20, (by kernel_rfl)
        change wpList _ _ _ _ _ wr.drew
        go_wp2_with fail
        refine (hput _ (Chg.refl _ _).drew).mono ?_
        rintro e w1 ⟨v', G', rfl, h1, h2, h3⟩
        dsimp only
        go_wp2_with fail
        go_roundw
        case measure => simp [intOf]; omega
        case rel =>
          refine ⟨i + 1, G', by omega, by go_num, by rw [hft.out]; exact h1, ?_, hc.drew.trans' h3⟩
          intro g hg
          rcases h2 g hg with h | h
          · exact hG g h
          · have := hc.size
            exact .inr (Nat.le_trans this h)
      · obtain rfl : i = oln := by omega
        clear hfl
        rw [List.take_of_length_le (by rw [hol3.out]; omega), ← hpa.2.1] at hr
        obtain ⟨-, p1, p2, p3, p4⟩ := id hpa
        obtain ⟨po, -⟩ := hpa
        have hsm : Src wr 3 (some ⟨g2, 0, none⟩) i (ol.flatMap itEnc) := by
          have h1 := (hfm.chg hc (by simp)).shorter (m := i) (by omega)
          have h2 : (ol.flatMap itEnc).length = i * 3 := by rw [itLen, hol3.out]
          rw [List.take_left' (by rw [h2])] at h1
          exact h1.src
        have hnp : g2 ∉ pa :: F := fun h => by have := hPl g2 h; omega
        have hput := ag_put (hP2.ag.chg hc (by simp)) hS hm0 (by omega) (c := c2) hsm hol3.out (by omega) (fun _ ad e => by injection e with e; subst e; exact hnp)
        rw [hol3.out] at p4
        obtain ⟨G0, hr0, hG0, hGl⟩ := hr.tight
        clear p1 hsm hr
        generalize hT : puts (S, m) ol = T at *
        clear hT
        obtain ⟨T, m5⟩ := T
        dsimp only at p2 p3 p4 po hput hr0
        obtain ⟨B', cB', rfl, hcB1', hcB2', -⟩ := id hr0
        have hmlT : (T.map item).length = T.length := by simp
        rw [hmlT] at hr0 hcB1' ⊢
        unfold maxLen at hcB2'
        have hGd : ∀ g, g ∈ G0 → g ∉ pa :: F := fun g hg h => by
          rcases hG g (hG0 g hg) with h1 | h1
          · exact hP2.dis g h1 h
          · have := hPl g h; have := hcx.size; omega
        have hP3 := hP2.quiet hc
        have hmlT2 := Lib.hid hmlT
        have hml2 := Lib.hid hml
        clear hml hmlT
        go_wp2_with fail
        refine hput.mono ?_
        rintro e w5 ⟨rfl, F5, h5, hc5, hF5⟩
        have hr5 := hr0.chg hc5 hGd
        have hP5 : PA w w5 pa T m5 F5 (.slice B' T.length cB') G0 := hP3.act2 hc5 h5 hF5 hr5 (fun g hg h => by
          rcases List.mem_cons.1 h with rfl | h
          · exact hGd _ hg (by simp)
          · rcases hF5 g h with h | h
            · exact hGd g hg (by simp [h])
            · have := hGl g hg; omega) po p2 p3
        have hfm5 := (hfm.chg hc (by simp)).chg hc5 (by simpa using hnp)
        have hlast : w5.cell? ⟨g2, i * 3 + 2, none⟩ = some (.int .i64 (-77)) := by
          obtain ⟨g', c', e', -, -, -, x, -⟩ := hfm5.at_ (k := i) (j := 2) (by omega) (by omega)
          injection e' with e'
          injection e' with e'
          injection e' with e'
          subst e'
          rw [x, List.getElem?_append_right (by rw [itLen, hol3.out]; omega), itLen, hol3.out]
          simp
        have hob5 : Blk w5 ob 39 #[.int .i64 okd, .int .i64 on, .slice oA i ocp] := (hbo.chg (hcx.trans' hc) (by simp)).chg hc5 (fun h => hobF h)
        have hs5 : Src w5 3 oA i (ol.flatMap itEnc) := by
          rcases Nat.eq_zero_or_pos i with h0 | h0
          · exact ⟨hsr.1, fun h => by omega⟩
          · exact hsr.chg hc5 (fun ad e h => by have := hAb h0 ad e; have := hP3.far _ h; omega)
        have hsm5 : Src w5 3 (some ⟨g2, 0, none⟩) i (ol.flatMap itEnc) := by
          have h1 := hfm5.shorter (m := i) (by omega)
          have h2 : (ol.flatMap itEnc).length = i * 3 := by rw [itLen, hol3.out]
          rw [List.take_left' (by rw [h2])] at h1
          exact h1.src
        have hlen1 : i + 1 ≤ c2 := q1
        clear hput hAb hsr hfm hfm5 hr0 hr5 e2x ho hsrc e2 hbo hP2 hP3 hc5 hF5 hPl hGd hGl hG0 hG hRl3 h5
        dsimp only
        go_wp2_with fail
        clear hlast
        go_loopw [7, 10] (fun okv kv wr' => ∃ q : Nat, q ≤ i ∧ okv = .bool true ∧ kv = .int .i64 q ∧ Chg [] w5 wr') (fun _ kv _ => i - (intOf kv).toNat)
        case atStart => exact ⟨0, by omega, rfl, rfl, Chg.refl _ _⟩
        case round =>
          obtain ⟨q, hq, rfl, rfl, hc6⟩ := hrel
          by_cases hql : q < i
          · obtain ⟨ad3, e3, c0, hcel⟩ := (hsm5.chg hc6 (by simp)).elem (fun _ => rfl) (by omega) (k := q) (by rw [hol3.out]; exact hql) hol3.out
            have c1 := hcel 1 (by omega) (by omega)
            have c2' := hcel 2 (by omega) (by omega)
            injection e3 with e3
            subst e3
            have ea : (⟨g2, 0, none⟩ : Addr).add (q * 3) = ⟨g2, q * 3, none⟩ := by
              unfold Addr.add
              by_cases h0 : q * 3 = 0 <;> simp [h0]
            rw [ea] at c0 c1 c2'
            dsimp only at c0 c1 c2'
            clear hcel ea
            obtain ⟨ad2, rfl, d0, hcel⟩ := (hs5.chg hc6 (by simp)).elem (fun _ => rfl) (by omega) (k := q) (by rw [hol3.out]; exact hql) hol3.out
            have d1 := hcel 1 (by omega) (by omega)
            have d2 := hcel 2 (by omega) (by omega)
            simp only [itEnc, List.getElem?_cons_zero, List.getElem?_cons_succ] at c0 c1 c2' d0 d1 d2
            have e2y := (hob5.chg hc6 (by simp)).cell 2
            simp at e2y
            clear hcel hs5 hsm5 hob5
            generalize ol[q]'(by rw [hol3.out]; exact hql) = x at *
            go_wp2_with fail
            go_quiet (fail)
            go_wp2_with fail
            go_roundw
            case measure => simp [intOf]; omega
            case rel => exact ⟨q + 1, by omega, by trivial, by go_num, hc6.drewN _⟩
          · obtain rfl : q = i := by omega
            go_wp2_with fail
            unfold ActPost
            exact ⟨T, m5, F5, G0, by omega, hP5.quiet hc6⟩
end Go.Proofs.Ytkpegffoebmhmaa
