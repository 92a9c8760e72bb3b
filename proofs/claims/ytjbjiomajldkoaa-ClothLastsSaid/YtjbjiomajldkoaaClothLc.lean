/- ClothLasts: its second loop, a declaration of its own: the six sets are made. -/
import Derived.Test.YtjbjiomajldkoaaClothLb
namespace Go.Proofs.Ytjbjiomajldkoaa
open Go.RowKit Go.Vx Go.Maps
set_option linter.unusedVariables false
set_option linter.unusedSimpArgs false

theorem MayAt.put {w0 w : World} {g : Nat} {f : Nat → Option Nat} {E : List ByteArray} {k : Nat} (h : MayAt w w0.heap.size g 1 f (mayB E [])) (hk : k < 6) (hf : ∀ j, k ≤ j → f j = none) (hz : Chg [g] w0 w) (hE : (E.getD k em).size ≤ maxLen) :
    ∃ w2, (Instr.mapUpdate 34 (.map (some w.heap.size)) (.string (E.getD k em)) (.bool true)).run Try.prog (w.alloc (.map #[] 0)) = .ok () w2 ∧ w2.cell? ⟨g, k, none⟩ = some (mapCell f k) ∧ w2.frozen? ⟨g, k, none⟩ = false ∧ Chg [] w w2 ∧
      MayAt (w2.setCell ⟨g, k, none⟩ (.map (some w.heap.size))) w0.heap.size g 1 (fun j => if j = k then some w.heap.size else f j) (mayB E []) := by
  obtain ⟨w2, hrun, hs, hc⟩ := (SetAt.new w).store (by omega) hE
  have hgl := h.blk.lt
  have hsz := hz.size
  have hc2 : Chg [] w w2 := ((Chg.refl [] w).alloc _).trans hc (fun x hx => .inr (by simp at hx; omega))
  have hb2 := h.blk.chg hc2 (by simp)
  have hfar : Chg [g] w2 (w2.setCell ⟨g, k, none⟩ (.map (some w.heap.size))) := (Chg.refl [g] w2).setCell (.inl (by simp)) _
  refine ⟨w2, hrun, (hb2.cell k).trans (six_get _ hk), hb2.frozen k, hc2, ?_, fun j b hb => ?_, fun i j b hi hj => ?_⟩
  · have := hb2.set_ k (.map (some w.heap.size))
    rw [six_set _ hk] at this
    have e : (fun i => if i = k then Value.map (some w.heap.size) else mapCell f i) = mapCell (fun j => if j = k then some w.heap.size else f j) := by
      funext i
      unfold mapCell
      by_cases h : i = k <;> simp [h]
    rwa [e] at this
  · by_cases e : j = k
    · subst e
      simp only [if_true] at hb
      cases hb
      refine ⟨?_, hsz⟩
      have h1 := hs.chg hfar (by simp; omega)
      have e : (fun k => false || (E.getD j em).data.toList == k) = mayB E [] j := by
        funext x
        rw [mayB_nil]
        simp
      rw [e] at h1
      exact h1
    · simp only [e, if_false] at hb
      have h1 := h.each j b hb
      exact ⟨(h1.1.chg hc2 (by simp)).chg hfar (by have := h.ne hb; simpa using fun e => this e.symm), h1.2⟩
  · have hlt : ∀ j b, f j = some b → b < w.heap.size := fun j b hb => (h.each j b hb).1.lt
    by_cases ei : i = k <;> by_cases ej : j = k
    · omega
    · rw [if_pos ei] at hi
      rw [if_neg ej] at hj
      cases hi
      have := hlt j _ hj
      omega
    · rw [if_neg ei] at hi
      rw [if_pos ej] at hj
      cases hj
      have := hlt i _ hi
      omega
    · rw [if_neg ei] at hi
      rw [if_neg ej] at hj
      exact h.inj i j b hi hj
set_option maxRecDepth 100000 in
set_option maxHeartbeats 8000000 in
theorem cla_two {w0 : World} {b8 g : Nat} {E : List ByteArray} (hb8 : Blk w0 b8 28 (six (strCell E))) (hg : Blk w0 g 35 (six (mapCell fun _ => none))) (hE : ∀ j, (E.getD j em).size ≤ maxLen)
    (x0 x1 x2 x3 x4 x5 x6 x7 x9 x10 x13 x14 x15 x16 x17 x18 x19 x20 x21 x22 x23 x24 x25 x26 x27 x28 x29 x30 x31 x32 x33 x34 x35 x36 x37 x38 x39 x40 x41 x42 x43 x44 x45 x46 x47 x48 x49 x50 x51 x52 x53 x54 x55 x56 x57 x58 x59 x60 x61 x62 x63 x64 x65 x66 x67 x68 x69 x70 x71 x72 x73 x74 x75 x76 x77 x78 x79 x80 x81 x82 x83 x84 x85 x86 x87 x88 x89 x90 x91 x92 x93 x94 x95 x96 x97 x98 x99 x100 x101 x102 x103 x104 x105 x106 x107 x108 x109 x110 x111 x112 x113 x114 x115 x116 x117 x118 x119 x120 x121 x122 x123 x124 x125 x126 x127 x128 x129 x130 x131 x132 x133 x134 x135 x136 x137 x138 x139 x140 x141 x142 x143 x144 x145 x146 x147 x148 x149 x150 x151 x152 x153 x154 x155 x156 x157 x158 x159 x160 x161 x162 x163 x164 x165 x166 x167 x168 x169 x170 x171 x172 x173 x174 x175 x176 x177 x178 x179 x180 x181 x182 x183 : Value) (Q : Exit → Act → World → Prop)
    (hQ : ∀ (wx : World) (y12 y77 y78 y79 y80 y81 y82 y83 y84 y85 y86 y87 : Value), (∃ f, MayAt wx w0.heap.size g 1 f (mayB E []) ∧ (∀ j, j < 6 → ∃ b, f j = some b) ∧ Chg [g] w0 wx) → Q (.exit 2) ⟨#[x0, x1, x2, x3, x4, x5, x6, x7, .pointer (some ⟨b8, 0, none⟩), x9, x10, .pointer (some ⟨g, 0, none⟩), y12, x13, x14, x15, x16, x17, x18, x19, x20, x21, x22, x23, x24, x25, x26, x27, x28, x29, x30, x31, x32, x33, x34, x35, x36, x37, x38, x39, x40, x41, x42, x43, x44, x45, x46, x47, x48, x49, x50, x51, x52, x53, x54, x55, x56, x57, x58, x59, x60, x61, x62, x63, x64, x65, x66, x67, x68, x69, x70, x71, x72, x73, x74, x75, x76, y77, y78, y79, y80, y81, y82, y83, y84, y85, y86, y87, x88, x89, x90, x91, x92, x93, x94, x95, x96, x97, x98, x99, x100, x101, x102, x103, x104, x105, x106, x107, x108, x109, x110, x111, x112, x113, x114, x115, x116, x117, x118, x119, x120, x121, x122, x123, x124, x125, x126, x127, x128, x129, x130, x131, x132, x133, x134, x135, x136, x137, x138, x139, x140, x141, x142, x143, x144, x145, x146, x147, x148, x149, x150, x151, x152, x153, x154, x155, x156, x157, x158, x159, x160, x161, x162, x163, x164, x165, x166, x167, x168, x169, x170, x171, x172, x173, x174, x175, x176, x177, x178, x179, x180, x181, x182, x183], []⟩ wx) :
    Code.wp Try.prog (claBlock 2) Q ⟨#[x0, x1, x2, x3, x4, x5, x6, x7, .pointer (some ⟨b8, 0, none⟩), x9, x10, .pointer (some ⟨g, 0, none⟩), .int .i64 0, x13, x14, x15, x16, x17, x18, x19, x20, x21, x22, x23, x24, x25, x26, x27, x28, x29, x30, x31, x32, x33, x34, x35, x36, x37, x38, x39, x40, x41, x42, x43, x44, x45, x46, x47, x48, x49, x50, x51, x52, x53, x54, x55, x56, x57, x58, x59, x60, x61, x62, x63, x64, x65, x66, x67, x68, x69, x70, x71, x72, x73, x74, x75, x76, x77, x78, x79, x80, x81, x82, x83, x84, x85, x86, x87, x88, x89, x90, x91, x92, x93, x94, x95, x96, x97, x98, x99, x100, x101, x102, x103, x104, x105, x106, x107, x108, x109, x110, x111, x112, x113, x114, x115, x116, x117, x118, x119, x120, x121, x122, x123, x124, x125, x126, x127, x128, x129, x130, x131, x132, x133, x134, x135, x136, x137, x138, x139, x140, x141, x142, x143, x144, x145, x146, x147, x148, x149, x150, x151, x152, x153, x154, x155, x156, x157, x158, x159, x160, x161, x162, x163, x164, x165, x166, x167, x168, x169, x170, x171, x172, x173, x174, x175, x176, x177, x178, x179, x180, x181, x182, x183], []⟩ w0 := by
  conv => arg 2; whnf
  dsimp only at hQ ⊢
  replace hQ := Lib.hid hQ
  replace hE := Lib.hid hE
  have hmm := @run_makeMap Try.prog
  have h0 : MayAt w0 w0.heap.size g 1 (fun _ => none) (mayB E []) := ⟨hg, fun j b hb => (by cases hb), fun i j b hi => (by cases hi)⟩
  have hbg : b8 ≠ g := Blk.ne_ hb8 hg (by decide)
  clear hg
  replace h0 := Lib.hid h0
  go_loopw [12] (fun iv wr => ∃ (k : Nat) (f : Nat → Option Nat), k ≤ 6 ∧ iv = .int .i64 k ∧ MayAt wr w0.heap.size g 1 f (mayB E []) ∧ (∀ j, j < k → ∃ b, f j = some b) ∧ (∀ j, k ≤ j → f j = none) ∧ Chg [g] w0 wr) (fun iv _ => 6 - (intOf iv).toNat)
  case atStart => exact ⟨0, fun _ => none, by omega, rfl, h0.out, fun j h => by omega, fun j _ => rfl, Chg.refl _ _⟩
  case round =>
    clear h0
    obtain ⟨k, f, hk, rfl, hM, hf1, hf2, hz⟩ := hrel
    by_cases hlt : k < 6
    · obtain ⟨w2, hrun, c2, f2, hz2, hM2⟩ := hM.put hlt hf2 hz (hE.out k)
      have hb8r := hb8.chg hz (by simpa using hbg)
      have c8 : wr.cell? ⟨b8, k, none⟩ = some (.string (E.getD k em)) := (hb8r.cell k).trans (six_get _ hlt)
      have c8a := cell_al c8
      have hz3 : Chg [g] w0 (w2.setCell ⟨g, k, none⟩ (.map (some wr.heap.size))) := (hz.trans' (hz2.mono (by simp))).setCell (.inl (by simp)) _
      have hfin : Hid (MayAt (w2.setCell ⟨g, k, none⟩ (.map (some wr.heap.size))) w0.heap.size g 1 (fun j => if j = k then some wr.heap.size else f j) (mayB E []) ∧ (∀ j, j < k + 1 → ∃ b, (if j = k then some wr.heap.size else f j) = some b) ∧ (∀ j, k + 1 ≤ j → (if j = k then some wr.heap.size else f j) = none) ∧ Chg [g] w0 (w2.setCell ⟨g, k, none⟩ (.map (some wr.heap.size)))) := Lib.hid (by
        refine ⟨hM2, fun j hj => ?_, fun j hj => ?_, hz3⟩
        · by_cases e : j = k
          · exact ⟨_, by rw [if_pos e]⟩
          · obtain ⟨b, hb⟩ := hf1 j (by omega)
            exact ⟨b, by rw [if_neg e]; exact hb⟩
        · rw [if_neg (by omega)]
          exact hf2 j (by omega))
      unfold mapCell at c2
      generalize E.getD k em = s at *
      clear hM hf1 hf2 hz hb8r hz2 hM2 hz3 hb8
      go_wp2_with fail
      exact ⟨⟨k + 1, _, by omega, by go_num, hfin.out⟩, by simp [intOf]; omega⟩
    · obtain rfl : k = 6 := by omega
      have hfin := Lib.hid (show ∃ f, MayAt wr w0.heap.size g 1 f (mayB E []) ∧ (∀ j, j < 6 → ∃ b, f j = some b) ∧ Chg [g] w0 wr from ⟨f, hM, hf1, hz⟩)
      clear hM hf1 hf2 hz
      go_wp2_with fail
      exact hQ.out _ _ _ _ _ _ _ _ _ _ _ _ _ hfin.out
end Go.Proofs.Ytjbjiomajldkoaa
