/- ClothLasts: its third loop, a declaration of its own: what is woven later. -/
import Derived.Test.YtjbjiomajldkoaaClothLc
import Derived.StillTailTactics
namespace Go.Proofs.Ytjbjiomajldkoaa
open Go.RowKit Go.Vx Go.Maps
set_option linter.unusedVariables false
set_option linter.unusedSimpArgs false

theorem fix_blks {w : World} {e : TypeId} {size n : Nat} {v : Value} {xs : List Value} {F : List Nat} (h : Fix w e size v n xs F) : ∀ g ∈ F, ∃ cs, Blk w g e cs := by
  obtain ⟨A, c, -, -, -, -, h5⟩ := h
  rcases h5 with ⟨-, rfl⟩ | ⟨g', cur, -, rfl, hb, -⟩
  · simp
  · intro g hg
    obtain rfl : g = g' := by simpa using hg
    exact ⟨_, hb⟩
theorem cloth_blks {w : World} {p : Nat} {pr lo ke : Value} {c : ClothS} {F G H : List Nat} (h : ClothAt w p pr lo ke c F G H) : ∀ x, x ∈ p :: (F ++ G ++ H) → ∃ cs t, Blk w x t cs ∧ t ≠ 35 := by
  intro x hx
  simp only [List.mem_cons, List.mem_append] at hx
  rcases hx with rfl | (hx | hx) | hx
  · exact ⟨_, _, h.blk, by decide⟩
  · obtain ⟨cs, hb⟩ := fix_blks h.hpr x hx
    exact ⟨cs, _, hb, by decide⟩
  · obtain ⟨cs, hb⟩ := fix_blks h.hlo x hx
    exact ⟨cs, _, hb, by decide⟩
  · obtain ⟨cs, hb⟩ := fix_blks h.hke x hx
    exact ⟨cs, _, hb, by decide⟩
theorem map_ne {w : World} {b N x : Nat} {P : List UInt8 → Bool} {t : TypeId} {cs : Array Value} (hs : SetAt w b N P) (hb : Blk w x t cs) : x ≠ b := by
  rintro rfl
  obtain ⟨n, D, ⟨es, clock, hh, -⟩, -⟩ := hs
  unfold Blk at hb
  rw [hb] at hh
  cases hh
theorem MayAt.weave {w w' : World} {lo g N : Nat} {f : Nat → Option Nat} {T : Nat → List UInt8 → Bool} {S : List Nat} (h : MayAt w lo g N f T) (k : Chg S w w') (hS : ∀ x ∈ S, ∃ cs t, Blk w x t cs ∧ t ≠ 35) : MayAt w' lo g N f T :=
  ⟨h.blk.chg k (fun hm => by
    obtain ⟨cs, t, hb, ht⟩ := hS g hm
    exact Blk.ne_ hb h.blk ht rfl), fun j b hb => ⟨(h.each j b hb).1.chg k (fun hm => by
    obtain ⟨cs, t, hb', -⟩ := hS b hm
    exact map_ne (h.each j b hb).1 hb' rfl), (h.each j b hb).2⟩, h.inj⟩
theorem MayAt.more {w : World} {lo g N N' : Nat} {f : Nat → Option Nat} {T : Nat → List UInt8 → Bool} (h : MayAt w lo g N f T) (hN : N ≤ N') : MayAt w lo g N' f T := ⟨h.blk, fun j b hb => ⟨(h.each j b hb).1.more hN, (h.each j b hb).2⟩, h.inj⟩
/-- A store into a set leaves the cloth and the six texts. -/
theorem LaA.map {w wx w' : World} {p b8 b N : Nat} {pr : Value} {F : List Nat} {B E : List ByteArray} {q : List (Nat × ByteArray)} {P : List UInt8 → Bool} (h : LaA w wx p pr F b8 B q E) (hs : SetAt wx b N P) (hc : Chg [b] wx w') (hb : w.heap.size ≤ b) : LaA w w' p pr F b8 B q E := by
  obtain ⟨lo, ke, G, H, hca, hb8, hz, hF, h8, h9⟩ := h
  refine ⟨lo, ke, G, H, hca.chg hc (fun x hx hm => ?_), hb8.chg hc (fun hm => ?_), hz.trans hc (fun x hx => .inr (by simp at hx; omega)), hF, h8, h9⟩
  · obtain ⟨cs, t, hbx, -⟩ := cloth_blks hca x hx
    exact map_ne hs hbx (by simpa using hm)
  · exact map_ne hs hb8 (by simpa using hm)
set_option maxRecDepth 100000 in
set_option maxHeartbeats 8000000 in
theorem cla_three {w wr0 : World} {p b8 g lo n c : Nat} {pr : Value} {F : List Nat} {A : Option Addr} {l : List OpV} {E : List ByteArray} {f : Nat → Option Nat} (hcel : ∀ w', Chg [] w w' → ∀ k, (hk : k < l.length) → ∃ ad, A = some ad ∧ w'.cell? ⟨(ad.add (k * 4)).block, (ad.add (k * 4)).off + 1, none⟩ = some (.int .i64 l[k].n) ∧ w'.cell? ⟨(ad.add (k * 4)).block, (ad.add (k * 4)).off + 2, none⟩ = some (.string l[k].s)) (hl : l.length = n) (hn : n ≤ 60) (hc : n ≤ c) (hcm : c ≤ 9223372036854775807) (hsz : ∀ x ∈ l, x.s.size ≤ 100)
    (hE6 : E.length = 6) (hlo : w.heap.size ≤ lo) (hf : ∀ j, j < 6 → ∃ b, f j = some b)
    (h0 : LaA w wr0 p pr F b8 E [] E) (hM0 : MayAt wr0 lo g 1 f (mayB E []))
    (x0 x2 x3 x4 x5 x6 x8 x9 x10 x12 x14 x15 x16 x17 x18 x19 x20 x21 x22 x23 x24 x25 x26 x27 x28 x29 x30 x31 x32 x33 x34 x35 x36 x37 x38 x39 x40 x41 x42 x43 x44 x45 x46 x47 x48 x49 x50 x51 x52 x53 x54 x55 x56 x57 x58 x59 x60 x61 x62 x63 x64 x65 x66 x67 x68 x69 x70 x71 x72 x73 x74 x75 x76 x77 x78 x79 x80 x81 x82 x83 x84 x85 x86 x87 x88 x89 x90 x91 x92 x93 x94 x95 x96 x97 x98 x99 x100 x101 x102 x103 x104 x105 x106 x107 x108 x109 x110 x111 x112 x113 x114 x115 x116 x117 x118 x119 x120 x121 x122 x123 x124 x125 x126 x127 x128 x129 x130 x131 x132 x133 x134 x135 x136 x137 x138 x139 x140 x141 x142 x143 x144 x145 x146 x147 x148 x149 x150 x151 x152 x153 x154 x155 x156 x157 x158 x159 x160 x161 x162 x163 x164 x165 x166 x167 x168 x169 x170 x171 x172 x173 x174 x175 x176 x177 x178 x179 x180 x181 x182 x183 : Value) (Q : Exit → Act → World → Prop)
    (hQ : ∀ (wx : World) (y13 y14 y88 y89 y90 y91 y92 y93 y94 y95 y96 y97 y98 y99 y100 y101 y102 y103 y104 y105 y106 y107 y108 y109 y110 y111 y112 y113 y114 y115 y116 y117 y118 : Value), LaA w wx p pr F b8 E (wov l) E → MayAt wx lo g (n + 1) f (mayB E (wov l)) → Q (.exit 4) ⟨#[x0, .slice A n c, x2, x3, x4, x5, x6, .pointer (some ⟨p, 0, none⟩), x8, x9, x10, .pointer (some ⟨g, 0, none⟩), x12, y13, y14, x15, x16, x17, x18, x19, x20, x21, x22, x23, x24, x25, x26, x27, x28, x29, x30, x31, x32, x33, x34, x35, x36, x37, x38, x39, x40, x41, x42, x43, x44, x45, x46, x47, x48, x49, x50, x51, x52, x53, x54, x55, x56, x57, x58, x59, x60, x61, x62, x63, x64, x65, x66, x67, x68, x69, x70, x71, x72, x73, x74, x75, x76, x77, x78, x79, x80, x81, x82, x83, x84, x85, x86, x87, y88, y89, y90, y91, y92, y93, y94, y95, y96, y97, y98, y99, y100, y101, y102, y103, y104, y105, y106, y107, y108, y109, y110, y111, y112, y113, y114, y115, y116, y117, y118, x119, x120, x121, x122, x123, x124, x125, x126, x127, x128, x129, x130, x131, x132, x133, x134, x135, x136, x137, x138, x139, x140, x141, x142, x143, x144, x145, x146, x147, x148, x149, x150, x151, x152, x153, x154, x155, x156, x157, x158, x159, x160, x161, x162, x163, x164, x165, x166, x167, x168, x169, x170, x171, x172, x173, x174, x175, x176, x177, x178, x179, x180, x181, x182, x183], []⟩ wx) :
    Code.wp Try.prog (claBlock 4) Q ⟨#[x0, .slice A n c, x2, x3, x4, x5, x6, .pointer (some ⟨p, 0, none⟩), x8, x9, x10, .pointer (some ⟨g, 0, none⟩), x12, .int .i64 0, x14, x15, x16, x17, x18, x19, x20, x21, x22, x23, x24, x25, x26, x27, x28, x29, x30, x31, x32, x33, x34, x35, x36, x37, x38, x39, x40, x41, x42, x43, x44, x45, x46, x47, x48, x49, x50, x51, x52, x53, x54, x55, x56, x57, x58, x59, x60, x61, x62, x63, x64, x65, x66, x67, x68, x69, x70, x71, x72, x73, x74, x75, x76, x77, x78, x79, x80, x81, x82, x83, x84, x85, x86, x87, x88, x89, x90, x91, x92, x93, x94, x95, x96, x97, x98, x99, x100, x101, x102, x103, x104, x105, x106, x107, x108, x109, x110, x111, x112, x113, x114, x115, x116, x117, x118, x119, x120, x121, x122, x123, x124, x125, x126, x127, x128, x129, x130, x131, x132, x133, x134, x135, x136, x137, x138, x139, x140, x141, x142, x143, x144, x145, x146, x147, x148, x149, x150, x151, x152, x153, x154, x155, x156, x157, x158, x159, x160, x161, x162, x163, x164, x165, x166, x167, x168, x169, x170, x171, x172, x173, x174, x175, x176, x177, x178, x179, x180, x181, x182, x183], []⟩ wr0 := by
  conv => arg 2; whnf
  dsimp only at hQ ⊢
  replace hQ := Lib.hid hQ
  replace hcel := Lib.hid hcel
  replace hsz := Lib.hid hsz
  replace hl := Lib.hid hl
  replace h0 := Lib.hid h0
  replace hM0 := Lib.hid hM0
  replace hf := Lib.hid hf
  go_loopw [13] (fun iv wr => ∃ k : Nat, k ≤ n ∧ iv = .int .i64 k ∧ LaA w wr p pr F b8 E (wov (l.take k)) E ∧ MayAt wr lo g (k + 1) f (mayB E (wov (l.take k)))) (fun iv _ => n - (intOf iv).toNat)
  case atStart => exact ⟨0, by omega, rfl, h0.out, hM0.out⟩
  case round =>
    clear h0 hM0
    obtain ⟨k, hk, rfl, hLa, hM⟩ := hrel
    by_cases hlt : k < n
    · have hkl : k < l.length := by rw [hl.out]; exact hlt
      have hLa0 := Lib.hid hLa
      obtain ⟨lo', ke, G, H, hca, hb, hz, hF, hb8, hbF⟩ := hLa
      obtain ⟨ad, rfl, d1, d2⟩ := hcel.out _ hz k hkl
      have hce2 := fun w' (z : Chg [] w w') => hcel.out w' z k hkl
      have hs100 := hsz.out _ (List.getElem_mem hkl)
      have htk := wov_take l hkl
      have hIn := wov_in (l.take k)
      have hlen := wov_len (l.take k)
      rw [List.length_take] at hlen
      generalize l[k] = x at *
      obtain ⟨xk, xn, xs, xA, xl, xc, xke⟩ := x
      dsimp only at *
      generalize wov (l.take k) = q at *
      obtain ⟨hr6, hr1, hr2, hr3⟩ := m6_spec xn
      generalize m6 xn = r at *
      have q1 : IntKind.i64.wrap (xn.tmod 6) = xn.tmod 6 := by rw [IntKind.wrap_i64]; omega
      have q2 : IntKind.i64.wrap (xn.tmod 6 + 6) = xn.tmod 6 + 6 := by rw [IntKind.wrap_i64]; omega
      have q3 : IntKind.i64.wrap (r : Int) = r := by rw [IntKind.wrap_i64]; omega
      have hmay := laC_may (q := q) hE6 hr6
      by_cases h40 : xs.size ≤ 40
      · rw [if_pos h40] at htk
        have hwv := weave_at hca (r : Int) xs hmay h40 (by show (thr q).length < 1000000; rw [thr_len]; omega) (by simp [laC]) (laC_rows hE6 hIn) (by intro h; simp [laC] at h)
        rw [laC_weave] at hwv
        have hblks := cloth_blks hca
        replace htk := Lib.hid htk
        clear hmay
        go_wp2_with fail
        refine hwv.mono ?_
        rintro e w5 ⟨lo5, ke5, G5, H5, rfl, hc5, hz5, hG5, hH5⟩
        clear hwv
        have hsz1 := hz.size
        have hblt := hb.lt
        have hz5' : Chg [] w w5 := hz.trans hz5 (fun g hg => .inr (hF g (by simp at hg ⊢; rcases hg with hg | hg | hg <;> simp [hg])))
        have hb5 := hb.chg hz5 (fun hm => hbF (by simp at hm ⊢; rcases hm with hm | hm | hm <;> simp [hm]))
        have hF5 := foot_sub hF hz.size hG5 hH5
        have hbF5 : b8 ∉ p :: (F ++ G5 ++ H5) := by
          intro hm
          simp only [List.mem_cons, List.mem_append] at hm hbF
          rcases hm with hm | (hm | hm) | hm
          · exact hbF (.inl hm)
          · exact hbF (.inr (.inl (.inl hm)))
          · rcases hG5 _ hm with h | h
            · exact hbF (.inr (.inl (.inr h)))
            · omega
          · rcases hH5 _ hm with h | h
            · exact hbF (.inr (.inr h))
            · omega
        have hM5 := hM.weave hz5 (fun x hx => hblks x (by simp at hx ⊢; rcases hx with hx | hx | hx <;> simp [hx]))
        have hLa5 : LaA w w5 p pr F b8 E (q ++ [(r, xs)]) E := ⟨lo5, ke5, G5, H5, hc5, hb5, hz5', hF5, hb8, hbF5⟩
        obtain ⟨b, hfb⟩ := hf.out r hr6
        have hM5d : MayAt w5.drew lo g (k + 1) f (mayB E q) := hM5.weave (Chg.refl [] w5).drew (by simp)
        obtain ⟨w6, hrun, hM6, hz6⟩ := hM5d.store (by omega) hfb (s := xs) (by unfold maxLen; omega)
        have hse := hM5d.each r b hfb
        have hLa5d : LaA w w5.drew p pr F b8 E (q ++ [(r, xs)]) E := ⟨lo5, ke5, G5, H5, hc5.chg (Chg.refl [] w5).drew (by simp), hb5.drew, hz5'.drew, hF5, hb8, hbF5⟩
        have hLa6 := Lib.hid (hLa5d.map hse.1 hz6 (Nat.le_trans hlo hse.2))
        have eT : (fun j k => mayB E q j k || (r == j && xs.data.toList == k)) = mayB E (q ++ [(r, xs)]) := by
          funext j k
          rw [mayB_snoc]
        rw [eT] at hM6
        replace hM6 := Lib.hid hM6
        obtain ⟨ad', hq, -, d3⟩ := hce2 _ hz5'.drew
        cases hq
        have c5 : w5.drew.cell? ⟨g, r, none⟩ = some (.map (some b)) := by
          have := (hM5d.blk.cell r).trans (six_get _ hr6)
          unfold mapCell at this
          rwa [hfb] at this
        have d3d : w5.drew.cell? ⟨(ad.add (k * 4)).block, (ad.add (k * 4)).off + 2, none⟩ = some (.string xs) := d3
        have c5' : w5.cell? ⟨g, r, none⟩ = some (.map (some b)) := c5
        have d3' : w5.cell? ⟨(ad.add (k * 4)).block, (ad.add (k * 4)).off + 2, none⟩ = some (.string xs) := d3
        rw [show (laC E q).weaveR = 0 from rfl]
        clear hce2 hca hb hz hF hbF hz5 hG5 hH5 hc5 hb5 hF5 hbF5 hz6 hz5' q1 q2 hr1 hr2 hr3 d1 d2 hM hM5 hM5d hLa5 hLa5d hse hblks eT hLa0
        go_wp2_with fail
        go_region
        all_goals
          go_wp2_with fail
          exact ⟨⟨k + 1, by omega, by go_num, by rw [htk.out]; exact hLa6.out, by rw [htk.out]; exact hM6.out⟩, by simp [intOf]; omega⟩
      · rw [if_neg h40, List.append_nil] at htk
        have hwv := weave_long hca (r : Int) xs hmay (by omega) (by omega)
        replace htk := Lib.hid htk
        replace hM := Lib.hid hM
        clear hmay hce2 hca hb hz hF hbF
        go_wp2_with fail
        refine hwv.mono ?_
        rintro e w5 ⟨rfl, rfl⟩
        clear hwv
        go_wp2_with fail
        exact ⟨⟨k + 1, by omega, by go_num, by rw [htk.out]; exact hLa0.out, by rw [htk.out]; exact hM.out.more (by omega)⟩, by simp [intOf]; omega⟩
    · obtain rfl : k = n := by omega
      rw [List.take_of_length_le (by rw [hl.out]; exact Nat.le_refl _)] at hLa hM
      replace hLa := Lib.hid hLa
      replace hM := Lib.hid hM
      go_wp2_with fail
      exact hQ.out _ _ _ _ _ _ _ _ _ _ _ _ _ _ _ _ _ _ _ _ _ _ _ _ _ _ _ _ _ _ _ _ _ _ hLa.out hM.out
end Go.Proofs.Ytjbjiomajldkoaa
