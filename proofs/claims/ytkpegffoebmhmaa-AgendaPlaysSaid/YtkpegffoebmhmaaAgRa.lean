/- AgendaPlays: the region that makes a list with room behind it, a declaration of its own (printed by agra.py). -/
import Derived.Test.YtkpegffoebmhmaaAgQ
namespace Go.Proofs.Ytkpegffoebmhmaa
open Go.RowKit Go.Vx
set_option linter.unusedVariables false
set_option linter.unusedSimpArgs false

/-- A region of a text, by its number. -/
def regAt (n : Nat) : Code → Option Code
  | .region i ops d => if i = n then some (.region i ops d) else none
  | .seq a b => match regAt n a with
    | some c => some c
    | none => regAt n b
  | .cond _ a b => match regAt n a with
    | some c => some c
    | none => regAt n b
  | .block _ c => regAt n c
  | .loop c => regAt n c
  | .scope c => regAt n c
  | _ => none
noncomputable def code22 : Code := (Try.f4.body.bind (regAt 22)).getD .skip
set_option maxRecDepth 1000000 in
set_option maxHeartbeats 16000000 in
theorem reg22 {wa : World} {ob : Nat} {oA : Option Addr} {oln ocp : Nat} {ol : List Item} {okd on : Int} (hsrc : Src wa.drew 3 oA oln (ol.flatMap itEnc)) (hbo : Blk wa ob 39 #[.int .i64 okd, .int .i64 on, .slice oA oln ocp]) (h30 : oln ≤ 30) (hocap : oln ≤ ocp) (hocm : ocp ≤ 2 ^ 63 - 1)
    (x0 x1 x2 x3 x4 x5 x7 x8 x9 x10 x11 x12 x13 x14 x15 x16 x17 x18 x19 x20 x21 x22 x23 x24 x25 x26 x27 x28 x29 x30 x31 x32 x33 x34 x35 x36 x37 x38 x39 x40 x41 x42 x43 x44 x45 x46 x47 x48 x49 x50 x51 x52 x53 x54 x55 x56 x57 x58 x59 x60 x61 x62 x63 x64 x65 x66 x67 x68 x69 x70 x71 x72 x73 x74 x75 x76 x77 x78 x79 x80 x81 x82 x83 x84 x85 x86 x87 x88 x89 x90 x91 x92 x93 x94 x95 x96 x97 x98 x99 x100 x101 x102 x103 x104 x105 x106 x107 x108 x109 x110 x111 x112 x113 x114 x115 x116 x117 x118 x119 x120 x121 x122 x123 x124 x125 x126 x127 x128 x129 x130 x131 x132 x133 x134 x135 x136 x137 x138 x139 x140 x141 x142 x143 x144 x145 x146 x147 x148 x149 x150 x151 x152 x153 x154 x155 x156 x157 x158 x159 x160 x161 x162 x163 x164 x165 x166 x167 x168 x169 x170 x171 x172 x173 x174 x175 x176 x177 x178 x179 x180 x181 x182 x183 x184 x185 x186 x187 x188 x189 x190 x191 x192 x193 x194 x195 x196 x197 x198 x199 x200 x201 x202 x203 x204 x205 x206 x207 x208 x209 x210 x211 x212 x213 x214 x215 x216 x217 x218 x219 x220 x221 x222 x223 x224 x225 x226 x227 x228 x229 x230 x231 x232 x233 x234 x235 x236 x237 x238 x239 x240 x241 x242 x243 x244 x245 x246 x247 x248 x249 x250 x251 x252 x253 x254 x255 x256 x257 x258 x259 x260 x261 x262 x263 x264 x265 x266 x267 x268 x269 x270 x271 x272 x273 : Value) (Q : Exit → Act → World → Prop)
    (hQ : ∀ (g c2 : Nat) (wx : World) (y81 y82 y83 y84 y85 y86 y87 y88 y89 y90 : Value), oln + 1 ≤ c2 → c2 ≤ maxLen → Fix wx 31 3 (.slice (some ⟨g, 0, none⟩) (oln + 1) c2) (oln + 1) (ol.flatMap itEnc ++ [.int .i64 0, .int .i64 0, .int .i64 (-77)]) [g] → wa.heap.size ≤ g → Chg [] wa wx →
      Q .normal ⟨#[x0, x1, x2, x3, x4, x5, .pointer (some ⟨ob, 0, none⟩), x7, .slice (some ⟨g, 0, none⟩) oln c2, x9, x10, x11, x12, x13, x14, x15, x16, x17, x18, x19, x20, x21, x22, x23, x24, x25, x26, x27, x28, x29, x30, x31, x32, x33, x34, x35, x36, x37, x38, x39, x40, x41, x42, x43, x44, x45, x46, x47, x48, x49, x50, x51, x52, x53, x54, x55, x56, x57, x58, x59, x60, x61, x62, x63, x64, x65, x66, x67, x68, x69, x70, x71, x72, x73, x74, x75, x76, x77, x78, x79, x80, y81, y82, y83, y84, y85, y86, y87, y88, y89, y90, x91, x92, x93, x94, x95, x96, x97, x98, x99, x100, x101, x102, x103, x104, x105, x106, x107, x108, x109, x110, x111, x112, x113, x114, x115, x116, x117, x118, x119, x120, x121, x122, x123, x124, x125, x126, x127, x128, x129, x130, x131, x132, x133, x134, x135, x136, x137, x138, x139, x140, x141, x142, x143, x144, x145, x146, x147, x148, x149, x150, x151, x152, x153, x154, x155, x156, x157, x158, x159, x160, x161, x162, x163, x164, x165, x166, x167, x168, x169, x170, x171, x172, x173, x174, x175, x176, x177, x178, x179, x180, x181, x182, x183, x184, x185, x186, x187, x188, x189, x190, x191, x192, x193, x194, x195, x196, x197, x198, x199, x200, x201, x202, x203, x204, x205, x206, x207, x208, x209, x210, x211, x212, x213, x214, x215, x216, x217, x218, x219, x220, x221, x222, x223, x224, x225, x226, x227, x228, x229, x230, x231, x232, x233, x234, x235, x236, x237, x238, x239, x240, x241, x242, x243, x244, x245, x246, x247, x248, x249, x250, x251, x252, x253, x254, x255, x256, x257, x258, x259, x260, x261, x262, x263, x264, x265, x266, x267, x268, x269, x270, x271, x272, x273], []⟩ wx) :
    Code.wp Try.prog code22 Q ⟨#[x0, x1, x2, x3, x4, x5, .pointer (some ⟨ob, 0, none⟩), x7, x8, x9, x10, x11, x12, x13, x14, x15, x16, x17, x18, x19, x20, x21, x22, x23, x24, x25, x26, x27, x28, x29, x30, x31, x32, x33, x34, x35, x36, x37, x38, x39, x40, x41, x42, x43, x44, x45, x46, x47, x48, x49, x50, x51, x52, x53, x54, x55, x56, x57, x58, x59, x60, x61, x62, x63, x64, x65, x66, x67, x68, x69, x70, x71, x72, x73, x74, x75, x76, x77, x78, x79, x80, x81, x82, x83, x84, x85, x86, x87, x88, x89, x90, x91, x92, x93, x94, x95, x96, x97, x98, x99, x100, x101, x102, x103, x104, x105, x106, x107, x108, x109, x110, x111, x112, x113, x114, x115, x116, x117, x118, x119, x120, x121, x122, x123, x124, x125, x126, x127, x128, x129, x130, x131, x132, x133, x134, x135, x136, x137, x138, x139, x140, x141, x142, x143, x144, x145, x146, x147, x148, x149, x150, x151, x152, x153, x154, x155, x156, x157, x158, x159, x160, x161, x162, x163, x164, x165, x166, x167, x168, x169, x170, x171, x172, x173, x174, x175, x176, x177, x178, x179, x180, x181, x182, x183, x184, x185, x186, x187, x188, x189, x190, x191, x192, x193, x194, x195, x196, x197, x198, x199, x200, x201, x202, x203, x204, x205, x206, x207, x208, x209, x210, x211, x212, x213, x214, x215, x216, x217, x218, x219, x220, x221, x222, x223, x224, x225, x226, x227, x228, x229, x230, x231, x232, x233, x234, x235, x236, x237, x238, x239, x240, x241, x242, x243, x244, x245, x246, x247, x248, x249, x250, x251, x252, x253, x254, x255, x256, x257, x258, x259, x260, x261, x262, x263, x264, x265, x266, x267, x268, x269, x270, x271, x272, x273], []⟩ wa := by
  conv => arg 2; whnf
  obtain ⟨i0, hi, j0, j1, j2⟩ := info_parts infoItem
  have o1 := oneItems ol
  have oblt := hbo.lt
  have e2 : wa.cell? ⟨ob, 2, none⟩ = some (.slice oA oln ocp) := hbo.cell 2
  have e2d : wa.drew.cell? ⟨ob, 2, none⟩ = some (.slice oA oln ocp) := e2
  have e2a := cell_al e2d
  have e2w : ∀ w', Chg [] wa.drew w' → w'.cell? ⟨ob, 2, none⟩ = some (.slice oA oln ocp) := fun w' h => by rw [h.cell oblt (by simp)]; exact e2
  go_region_held3 (fun w' => w'.cell? ⟨ob, 2, none⟩ = some (.slice oA oln ocp))
    (first
      | go_keep
      | exact e2e
      | exact e2b
      | exact e2c _
      | exact e2a _)
    (first
    | (refine step_append_fix rfl _ _ 22 rfl Try.underlying22 hi j0 j1 j2 rfl (by omega) (n := 0) (xs := []) (F := []) rfl (Fix.nil _ _ _) rfl hsrc o1 (by unfold maxLen; omega) (by omega) ?_; intro v1 w1 F1 ha1; have e2b := e2w w1 ha1.chg; have e2c := cell_al e2b; have hobF : ob ∉ F1 := (by rcases ha1.foot with e | e <;> rw [e] <;> simp; omega))
    | (refine step_append_fix rfl _ _ 22 rfl Try.underlying22 hi j0 j1 j2 rfl (by omega) (n := 0) (xs := []) (F := []) rfl (Fix.nil _ _ _) rfl (hsrc.alloc _) o1 (by unfold maxLen; omega) (by omega) ?_; intro v1 w1 F1 ha1; have e2b := e2w w1 (((Chg.refl [] _).alloc _).trans' ha1.chg); have hobF : ob ∉ F1 := (by rcases ha1.foot with e | e <;> rw [e] <;> simp; omega))
    | (refine step_append_fix rfl _ _ 22 rfl Try.underlying22 hi j0 j1 j2 rfl (by omega) (m := 1) rfl (by first | exact ha1.fix.alloc _ | exact ha1.fix) rfl (by first | exact Src.one3 rfl | exact (Src.one3 (w := wa.drew) (t := 31) (x := .int .i64 0) (y := .int .i64 0) (z := .int .i64 (-77)) rfl).chg (S := []) ha1.chg (by simp)) (by simp [Value.oneCell']) (by unfold maxLen; omega) (by omega) ?_; intro v2 w2 F2 ha2; obtain ⟨g2, c2, rfl, rfl⟩ := ha2.head (by omega); obtain ⟨q1, q2⟩ := Fix.cap ha2.fix; have hk2 : oln ≤ c2 := (by omega); have e2e : w2.cell? ⟨ob, 2, none⟩ = some (.slice oA oln ocp) := (by first | exact (ha2.chg.cell (World.block_lt_of_cell? _ _ (e2c _)) hobF).trans (e2c _) | exact (ha2.chg.cell (World.block_lt_of_cell? _ _ e2b) hobF).trans e2b)))
  all_goals
    have hF1 : ∀ g, g ∈ F1 → g ∈ ([] : List Nat) ∨ wa.heap.size ≤ g := fun g hg => by
      rcases ha1.foot with e | e <;> rw [e] at hg <;> simp at hg
      subst hg
      right
      simp
    have hz : Chg [] wa w1 := by first | exact ((Chg.refl [] wa).drew).trans' ha1.chg | exact (((Chg.refl [] wa).drew).alloc _).trans' ha1.chg
    have hz2 : Chg [] wa w2 := by first | exact hz.trans ha2.chg hF1 | exact (hz.alloc _).trans ha2.chg hF1
    have hg2 : wa.heap.size ≤ g2 := by
      have hs1 := hz.size
      rcases ha2.foot with e | e
      · rcases hF1 g2 (by rw [← e]; simp) with h | h
        · simp at h
        · exact h
      · simp at e
        omega
    have hf := ha2.fix
    rw [Nat.zero_add] at q1
    rw [List.nil_append, Nat.zero_add] at hf
    first | exact hQ _ _ _ _ _ _ _ _ _ _ _ _ _ q1 q2 hf hg2 hz2 | (go_wp2_with fail; exact hQ _ _ _ _ _ _ _ _ _ _ _ _ _ q1 q2 hf hg2 hz2)
end Go.Proofs.Ytkpegffoebmhmaa
