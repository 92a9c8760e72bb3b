/- ClothLasts: its first loop, a declaration of its own. -/
import Derived.Test.YtjbjiomajldkoaaClothLa
namespace Go.Proofs.Ytjbjiomajldkoaa
open Go.RowKit Go.Vx Go.Maps
set_option linter.unusedVariables false
set_option linter.unusedSimpArgs false

/-- A region of a text, by its number. -/
def regAt (n : Nat) : Code → Option Code
  | .region i ops d => if i = n then some (.region i ops d) else none
  | .seq a b => match regAt n a with
    | some c => some c
    | none => regAt n b
  | .cond _ a b => match regAt n a with
    | some c => some c
    | none => regAt n b
  | .block _ c => regAt n c
  | .loop c => regAt n c
  | .scope c => regAt n c
  | _ => none
/-- A block of a text, by its number. -/
def blockAt (n : Nat) : Code → Option Code
  | .block i c => if i = n then some (.block i c) else blockAt n c
  | .seq a b => match blockAt n a with
    | some c => some c
    | none => blockAt n b
  | .cond _ a b => match blockAt n a with
    | some c => some c
    | none => blockAt n b
  | .loop c => blockAt n c
  | .scope c => blockAt n c
  | _ => none
/-- What stands in a block. -/
def inAt (n : Nat) (c : Code) : Option Code := match blockAt n c with
  | some (.block _ c) => some c
  | _ => none
noncomputable def claBlock (n : Nat) : Code := (Try.f3.body.bind (inAt n)).getD .skip
/-- A cloth with threads, and the six texts. -/
def LaA (w wx : World) (p : Nat) (pr : Value) (F : List Nat) (b8 : Nat) (B : List ByteArray) (q : List (Nat × ByteArray)) (E : List ByteArray) : Prop :=
  ∃ lo ke G H, ClothAt wx p pr lo ke (laC B q) F G H ∧ Blk wx b8 28 (six (strCell E)) ∧ Chg [] w wx ∧ (∀ g, g ∈ p :: (F ++ G ++ H) → w.heap.size ≤ g) ∧ w.heap.size ≤ b8 ∧ b8 ∉ p :: (F ++ G ++ H)
theorem op_cells {w : World} {A : Option Addr} {n : Nat} {l : List OpV} (hs : Src w 4 A n (l.flatMap opCells)) (hl : l.length = n) : ∀ w', Chg [] w w' → ∀ k, (hk : k < l.length) → ∃ ad, A = some ad ∧ w'.cell? ⟨(ad.add (k * 4)).block, (ad.add (k * 4)).off + 1, none⟩ = some (.int .i64 l[k].n) ∧ w'.cell? ⟨(ad.add (k * 4)).block, (ad.add (k * 4)).off + 2, none⟩ = some (.string l[k].s) := by
  intro w' z k hk
  obtain ⟨ad, ha, -, hc⟩ := Src.el (hs.chg z (by simp)) (fun _ => rfl) (by omega) hk hl
  exact ⟨ad, ha, hc 1 (by omega) (by omega), hc 2 (by omega) (by omega)⟩
set_option maxRecDepth 100000 in
set_option maxHeartbeats 8000000 in
theorem cla_one {w wr0 : World} {p b8 n c : Nat} {pr : Value} {F : List Nat} {A : Option Addr} {l : List OpV} (hcel : ∀ w', Chg [] w w' → ∀ k, (hk : k < l.length) → ∃ ad, A = some ad ∧ w'.cell? ⟨(ad.add (k * 4)).block, (ad.add (k * 4)).off + 1, none⟩ = some (.int .i64 l[k].n) ∧ w'.cell? ⟨(ad.add (k * 4)).block, (ad.add (k * 4)).off + 2, none⟩ = some (.string l[k].s)) (hl : l.length = n) (hn : n ≤ 60) (hc : n ≤ c) (hcm : c ≤ 9223372036854775807) (hsz : ∀ x ∈ l, x.s.size ≤ 100)
    (h0 : LaA w wr0 p pr F b8 base6 [] base6)
    (x1 x2 x3 x4 x5 x6 x10 x11 x12 x13 x14 x15 x16 x17 x18 x19 x20 x21 x22 x23 x24 x25 x26 x27 x28 x29 x30 x31 x32 x33 x34 x35 x36 x37 x38 x39 x40 x41 x42 x43 x44 x45 x46 x47 x48 x49 x50 x51 x52 x53 x54 x55 x56 x57 x58 x59 x60 x61 x62 x63 x64 x65 x66 x67 x68 x69 x70 x71 x72 x73 x74 x75 x76 x77 x78 x79 x80 x81 x82 x83 x84 x85 x86 x87 x88 x89 x90 x91 x92 x93 x94 x95 x96 x97 x98 x99 x100 x101 x102 x103 x104 x105 x106 x107 x108 x109 x110 x111 x112 x113 x114 x115 x116 x117 x118 x119 x120 x121 x122 x123 x124 x125 x126 x127 x128 x129 x130 x131 x132 x133 x134 x135 x136 x137 x138 x139 x140 x141 x142 x143 x144 x145 x146 x147 x148 x149 x150 x151 x152 x153 x154 x155 x156 x157 x158 x159 x160 x161 x162 x163 x164 x165 x166 x167 x168 x169 x170 x171 x172 x173 x174 x175 x176 x177 x178 x179 x180 x181 x182 x183 : Value) (Q : Exit → Act → World → Prop)
    (hQ : ∀ (wx : World) (y9 y10 y43 y44 y45 y46 y47 y48 y49 y50 y51 y52 y53 y54 y55 y56 y57 y58 y59 y60 y61 y62 y63 y64 y65 y66 y67 y68 y69 y70 y71 y72 : Value), LaA w wx p pr F b8 base6 (wov l) (lastsOf (wov l)) → Q (.exit 0) ⟨#[.slice A n c, x1, x2, x3, x4, x5, x6, .pointer (some ⟨p, 0, none⟩), .pointer (some ⟨b8, 0, none⟩), y9, y10, x11, x12, x13, x14, x15, x16, x17, x18, x19, x20, x21, x22, x23, x24, x25, x26, x27, x28, x29, x30, x31, x32, x33, x34, x35, x36, x37, x38, x39, x40, x41, x42, y43, y44, y45, y46, y47, y48, y49, y50, y51, y52, y53, y54, y55, y56, y57, y58, y59, y60, y61, y62, y63, y64, y65, y66, y67, y68, y69, y70, y71, y72, x73, x74, x75, x76, x77, x78, x79, x80, x81, x82, x83, x84, x85, x86, x87, x88, x89, x90, x91, x92, x93, x94, x95, x96, x97, x98, x99, x100, x101, x102, x103, x104, x105, x106, x107, x108, x109, x110, x111, x112, x113, x114, x115, x116, x117, x118, x119, x120, x121, x122, x123, x124, x125, x126, x127, x128, x129, x130, x131, x132, x133, x134, x135, x136, x137, x138, x139, x140, x141, x142, x143, x144, x145, x146, x147, x148, x149, x150, x151, x152, x153, x154, x155, x156, x157, x158, x159, x160, x161, x162, x163, x164, x165, x166, x167, x168, x169, x170, x171, x172, x173, x174, x175, x176, x177, x178, x179, x180, x181, x182, x183], []⟩ wx) :
    Code.wp Try.prog (claBlock 0) Q ⟨#[.slice A n c, x1, x2, x3, x4, x5, x6, .pointer (some ⟨p, 0, none⟩), .pointer (some ⟨b8, 0, none⟩), .int .i64 0, x10, x11, x12, x13, x14, x15, x16, x17, x18, x19, x20, x21, x22, x23, x24, x25, x26, x27, x28, x29, x30, x31, x32, x33, x34, x35, x36, x37, x38, x39, x40, x41, x42, x43, x44, x45, x46, x47, x48, x49, x50, x51, x52, x53, x54, x55, x56, x57, x58, x59, x60, x61, x62, x63, x64, x65, x66, x67, x68, x69, x70, x71, x72, x73, x74, x75, x76, x77, x78, x79, x80, x81, x82, x83, x84, x85, x86, x87, x88, x89, x90, x91, x92, x93, x94, x95, x96, x97, x98, x99, x100, x101, x102, x103, x104, x105, x106, x107, x108, x109, x110, x111, x112, x113, x114, x115, x116, x117, x118, x119, x120, x121, x122, x123, x124, x125, x126, x127, x128, x129, x130, x131, x132, x133, x134, x135, x136, x137, x138, x139, x140, x141, x142, x143, x144, x145, x146, x147, x148, x149, x150, x151, x152, x153, x154, x155, x156, x157, x158, x159, x160, x161, x162, x163, x164, x165, x166, x167, x168, x169, x170, x171, x172, x173, x174, x175, x176, x177, x178, x179, x180, x181, x182, x183], []⟩ wr0 := by
  conv => arg 2; whnf
  dsimp only at hQ ⊢
  replace hQ := Lib.hid hQ
  replace hcel := Lib.hid hcel
  replace hsz := Lib.hid hsz
  replace hl := Lib.hid hl
  replace h0 := Lib.hid h0
  go_loopw [9] (fun iv wr => ∃ k : Nat, k ≤ n ∧ iv = .int .i64 k ∧ LaA w wr p pr F b8 base6 (wov (l.take k)) (lastsOf (wov (l.take k)))) (fun iv _ => n - (intOf iv).toNat)
  case atStart => exact ⟨0, by omega, rfl, h0.out⟩
  case round =>
    clear h0
    obtain ⟨k, hk, rfl, hLa⟩ := hrel
    by_cases hlt : k < n
    · have hkl : k < l.length := by rw [hl.out]; exact hlt
      obtain ⟨lo, ke, G, H, hca, hb, hz, hF, hb8, hbF⟩ := hLa
      obtain ⟨ad, rfl, d1, d2⟩ := hcel.out _ hz k hkl
      have hce2 := fun w' (z : Chg [] w w') => hcel.out w' z k hkl
      have hs100 := hsz.out _ (List.getElem_mem hkl)
      have htk := wov_take l hkl
      have hIn := wov_in (l.take k)
      have hlen := wov_len (l.take k)
      rw [List.length_take] at hlen
      generalize l[k] = x at *
      obtain ⟨xk, xn, xs, xA, xl, xc, xke⟩ := x
      dsimp only at *
      generalize wov (l.take k) = q at *
      obtain ⟨hr6, hr1, hr2, hr3⟩ := m6_spec xn
      generalize m6 xn = r at *
      have q1 : IntKind.i64.wrap (xn.tmod 6) = xn.tmod 6 := by rw [IntKind.wrap_i64]; omega
      have q2 : IntKind.i64.wrap (xn.tmod 6 + 6) = xn.tmod 6 + 6 := by rw [IntKind.wrap_i64]; omega
      have q3 : IntKind.i64.wrap (r : Int) = r := by rw [IntKind.wrap_i64]; omega
      have hmay := laC_may (B := base6) (q := q) rfl hr6
      by_cases h40 : xs.size ≤ 40
      · rw [if_pos h40] at htk
        have hwv := weave_at hca (r : Int) xs hmay h40 (by show (thr q).length < 1000000; rw [thr_len]; omega) (by simp [laC]) (laC_rows rfl hIn) (by intro h; simp [laC] at h)
        rw [laC_weave] at hwv
        replace htk := Lib.hid htk
        clear hmay
        go_wp2_with fail
        refine hwv.mono ?_
        rintro e w5 ⟨lo5, ke5, G5, H5, rfl, hc5, hz5, hG5, hH5⟩
        clear hwv
        have hsz1 := hz.size
        have hblt := hb.lt
        have hz5' : Chg [] w w5 := hz.trans hz5 (fun g hg => .inr (hF g (by simp at hg ⊢; rcases hg with hg | hg | hg <;> simp [hg])))
        have hb5 := hb.chg hz5 (fun hm => hbF (by simp at hm ⊢; rcases hm with hm | hm | hm <;> simp [hm]))
        have hF5 := foot_sub hF hz.size hG5 hH5
        have hbF5 : b8 ∉ p :: (F ++ G5 ++ H5) := by
          intro hm
          simp only [List.mem_cons, List.mem_append] at hm hbF
          rcases hm with hm | (hm | hm) | hm
          · exact hbF (.inl hm)
          · exact hbF (.inr (.inl (.inl hm)))
          · rcases hG5 _ hm with h | h
            · exact hbF (.inr (.inl (.inr h)))
            · omega
          · rcases hH5 _ hm with h | h
            · exact hbF (.inr (.inr h))
            · omega
        obtain ⟨ad', hq, -, d3⟩ := hce2 _ hz5'
        cases hq
        have c5 : w5.cell? ⟨b8, r, none⟩ = some (strCell (lastsOf q) r) := (hb5.cell r).trans (six_get _ hr6)
        have f5 : w5.frozen? ⟨b8, r, none⟩ = false := hb5.frozen r
        have hb6 := hb5.set_ r (.string xs)
        rw [strCell_set (lastsOf_len q) hr6, ← lastsOf_snoc] at hb6
        have hfar : ∀ g, g ∈ p :: (F ++ G5 ++ H5) → g ∉ [b8] := fun g hg hm => by
          obtain rfl : g = b8 := by simpa using hm
          exact hbF5 hg
        have hc6 := hc5.chg ((Chg.refl [b8] w5).setCell (p := ⟨b8, r, none⟩) (.inl (by simp)) (.string xs)) hfar
        have hz6 : Chg [] w (w5.setCell ⟨b8, r, none⟩ (.string xs)) := hz5'.setCell (.inr hb8) _
        have hla : Hid (LaA w (w5.setCell ⟨b8, r, none⟩ (.string xs)) p pr F b8 base6 (q ++ [(r, xs)]) (lastsOf (q ++ [(r, xs)]))) := Lib.hid ⟨lo5, ke5, G5, H5, hc6, hb6, hz6, hF5, hb8, hbF5⟩
        rw [show (laC base6 q).weaveR = 0 from rfl]
        clear hce2 hca hb hz hF hbF hz5 hG5 hH5 hc5 hb5 hF5 hbF5 hb6 hfar hc6 hz6 hz5' q1 q2 hr1 hr2 hr3 d1 d2
        go_wp2_with fail
        exact ⟨⟨k + 1, by omega, by go_num, by rw [htk.out]; exact hla.out⟩, by simp [intOf]; omega⟩
      · rw [if_neg h40, List.append_nil] at htk
        have hwv := weave_long hca (r : Int) xs hmay (by omega) (by omega)
        have hla : Hid (LaA w wr p pr F b8 base6 q (lastsOf q)) := Lib.hid ⟨lo, ke, G, H, hca, hb, hz, hF, hb8, hbF⟩
        replace htk := Lib.hid htk
        clear hmay hce2 hca hb hz hF hbF
        go_wp2_with fail
        refine hwv.mono ?_
        rintro e w5 ⟨rfl, rfl⟩
        clear hwv
        go_wp2_with fail
        exact ⟨⟨k + 1, by omega, by go_num, by rw [htk.out]; exact hla.out⟩, by simp [intOf]; omega⟩
    · obtain rfl : k = n := by omega
      rw [List.take_of_length_le (by rw [hl.out]; exact Nat.le_refl _)] at hLa
      replace hLa := Lib.hid hLa
      go_wp2_with fail
      exact hQ.out _ _ _ _ _ _ _ _ _ _ _ _ _ _ _ _ _ _ _ _ _ _ _ _ _ _ _ _ _ _ _ _ _ hLa.out
end Go.Proofs.Ytjbjiomajldkoaa
