/- Journals: slices.Insert ahead of others. -/
import Derived.Test.YtlgfmphjgijilaaJoN
import Derived.Test.YtlgfmphjgijilaaCpN
import Derived.Lib.Overlaps
import Derived.Lib.AppendZerosOnto
import Derived.Laws.Externs
namespace Go.Proofs.Ytlgfmphjgijilaa
open Go.RowKit Go.Vx
set_option linter.unusedVariables false
set_option linter.unusedSimpArgs false

theorem jb_overlaps {w : World} {g1 g : Nat} {cs1 cs : Array Value} (h1 : Blk w g1 31 cs1) (h2 : Blk w g 31 cs) (hne : g1 ≠ g) (h0 : cs.size ≠ 0) (o la ca lb cb : Nat) :
    (callFunc 48 #[.slice (some ⟨g1, 0, none⟩) la ca, .slice (some ⟨g, o, none⟩) lb cb]).run Try.prog w = .ok (.value (.bool false)) w := by
  obtain ⟨i1, hi1, k0, k1, k2⟩ := info_parts jnInfo
  have hz : ∀ w, (Go.sizeOf 31).run Try.prog w = .ok 6 w := fun w => by simp [sizeOf, typeInfo, hi1, k1]
  unfold Blk at h1 h2
  rw [run_callFunc_extern Try.func48 (by kernel_rfl) (by kernel_rfl) (by kernel_rfl) (e := Extern.SlicesOverlaps.overlaps #[24, 24] #[4]) (by kernel_rfl),
    Lib.run_overlaps_apart w 24 4 31 Try.underlying24 6 hz ⟨g1, 0, none⟩ ⟨g, o, none⟩ la ca lb cb hne 31 31 cs1.size cs.size (by simp [World.shape?, h1]) (by simp [World.shape?, h2]) h0 (Blk.frozen (t := 31) h1 _) (Blk.frozen (t := 31) h1 _)]
  rfl
theorem ins_rows {α : Type} (cur xs news : List α) {a k L : Nat} (hx : cur.take L = xs) (hl : xs.length = L) (ha : a ≤ L) (hL : L + k ≤ cur.length) (hk : news.length = k) {c1 : List α} (h1 : c1 = cur.take (a + k) ++ (xs.drop a ++ cur.drop (a + k + (L - a)))) :
    (c1.take a ++ (news ++ c1.drop (a + k))).take (L + k) = xs.take a ++ (news ++ xs.drop a) ∧ (c1.take a ++ (news ++ c1.drop (a + k))).length = cur.length ∧ c1.length = cur.length := by
  have q : c1.length = cur.length := by rw [h1]; simp; omega
  have t1 : c1.take a = xs.take a := by
    rw [h1, List.take_append_of_le_length (by simp; omega), List.take_take, Nat.min_eq_left (by omega), ← hx, List.take_take, Nat.min_eq_left ha]
  have t2 : c1.drop (a + k) = xs.drop a ++ cur.drop (a + k + (L - a)) := by
    rw [h1, List.drop_append_of_le_length (by simp; omega), List.drop_eq_nil_of_le (by simp; omega)]; rfl
  refine ⟨?_, by simp [q, hk]; omega, q⟩
  rw [t1, t2, ← List.append_assoc news, ← List.append_assoc]
  rw [List.take_append_of_le_length (by simp [hl, hk]; omega), List.take_of_length_le (by simp [hl, hk]; omega)]
set_option maxRecDepth 100000 in
set_option maxHeartbeats 4000000 in
theorem jb_ins_room {w : World} {g g1 n c i : Nat} {xs : List Value} {cs1 : Array Value} (hf : Fix w 31 6 (.slice (some ⟨g, 0, none⟩) n c) n xs [g]) (hi : i < n) (hc : n + 1 ≤ c) (hn : n ≤ 1000) (h1 : Blk w g1 31 cs1) (h6 : cs1.size = 6) (hne : g1 ≠ g)
    (hx : ∀ u ∈ xs, u.oneCell' = true) (hy : ∀ u ∈ cs1.toList, u.oneCell' = true) :
    Calls Try.prog 32 #[.slice (some ⟨g, 0, none⟩) n c, .int .i64 i, .slice (some ⟨g1, 0, none⟩) 1 1] w fun e w' => e = .returned (.slice (some ⟨g, 0, none⟩) (n + 1) c) ∧ Fix w' 31 6 (.slice (some ⟨g, 0, none⟩) (n + 1) c) (n + 1) (xs.take (i * 6) ++ (cs1.toList ++ xs.drop (i * 6))) [g] ∧ Chg [g] w w' := by
  obtain ⟨i1, hi1, k0, k1, k2⟩ := info_parts jnInfo
  have hsz : (Try.prog.info? 31).map (·.size) = some 6 := by rw [hi1]; simp [k1]
  obtain ⟨A, c', hv, hl, hnc, hcm, h4⟩ := id hf
  injection hv with ha _ hcc
  subst ha hcc
  rcases h4 with ⟨h0, -⟩ | ⟨g', cur, ha, hF, hb, hs, ht⟩
  · omega
  obtain rfl : g = g' := by injection ha with ha; injection ha
  clear ha hF hf
  unfold maxLen at hcm
  have hov := fun W (k : Chg [] w W) o la ca lb cb => jb_overlaps (w := W) (h1.chg k (by simp)) (hb.chg k (by simp)) hne (by omega) o la ca lb cb
  have hov := hov w (Chg.refl _ _)
  have hw1 : IntKind.i64.wrap ((i : Int) + 1) = (i : Int) + 1 := by rw [IntKind.wrap_i64]; omega
  have hw2 : IntKind.i64.wrap ((n : Int) + 1) = (n : Int) + 1 := by rw [IntKind.wrap_i64]; omega
  have e1 : ¬ (i : Int) = n := by omega
  have e2 : ¬ (c : Int) < (n : Int) + 1 := by omega
  have e4 : ¬ c = i + 1 := by omega
  have e5 : ¬ c = i := by omega
  have e6 : (i : Int) ≤ (n : Int) + 1 := by omega
  have e7 : ((i : Int) + 1).toNat = i + 1 := by omega
  have e8 : ((n : Int) + 1).toNat = n + 1 := by omega
  have e9 : (0 : Int) ≤ (i : Int) + 1 := by omega
  have e10 : i ≤ n := by omega
  have e11 : i + 1 ≤ n + 1 := by omega
  have e12 : i + 1 ≤ c := by omega
  have e13 : i ≤ n + 1 := by omega
  have e14 : n + 1 ≤ c := hc
  have e15 : i ≤ c := by omega
  replace hl := Lib.hid hl
  replace hs := Lib.hid hs
  replace ht := Lib.hid ht
  replace h6 := Lib.hid h6
  replace hx := Lib.hid hx
  replace hy := Lib.hid hy
  go_enter Try.func32, Try.ntmps32
  go_wp2_with (simp only [hov])
  have hd : (xs.drop (i * 6)).length = (n - i) * 6 := by rw [List.length_drop, hl.out]; omega
  obtain ⟨c1, hc1⟩ : ∃ c1, c1 = cur.toList.take ((i + 1) * 6) ++ (xs.drop (i * 6) ++ cur.toList.drop ((i + 1) * 6 + (xs.drop (i * 6)).length)) := ⟨_, rfl⟩
  have hir := ins_rows cur.toList xs cs1.toList (a := i * 6) (k := 6) (L := n * 6) ht.out hl.out (by omega) (by have := hs.out; simp; omega) (by simpa using h6.out) (c1 := c1) (by rw [hc1, hd, show (i + 1) * 6 = i * 6 + 6 by omega, show n * 6 - i * 6 = (n - i) * 6 by omega])
  have hb1 : Blk (w.drew.setRow g c1.toArray) g 31 c1.toArray := Blk.setRow (w := w.drew) hb _
  have h11 : Blk (w.drew.setRow g c1.toArray) g1 31 cs1 := Blk.setRow_far (w := w.drew) h1 hne _
  have hsrc : ∀ j v, (xs.drop (i * 6))[j]? = some v → w.drew.cell? ((⟨g, i * 6, none⟩ : Addr).add j) = some v := fun j v hv => by
    rw [Addr.add_lit, Blk.cell (w := w.drew) hb]
    rw [List.getElem?_drop, ← ht.out, List.getElem?_take] at hv
    split at hv
    · simpa using hv
    · cases hv
  have hsrc2 : ∀ j v, cs1.toList[j]? = some v → (w.drew.setRow g c1.toArray).cell? ((⟨g1, 0, none⟩ : Addr).add j) = some v := fun j v hv => by
    rw [Addr.add_lit, h11.cell]
    simpa using hv
  have hx1 : ∀ u ∈ xs.drop (i * 6), u.oneCell' = true := fun u hu => hx.out u (List.mem_of_mem_drop hu)
  have hn1 : (xs.drop (i * 6)).length = Nat.min (n + 1 - i) (n - i) * 6 := by rw [hd]; show _ = min _ _ * 6; omega
  have hn2 : cs1.toList.length = Nat.min 1 (n + 1 - i) * 6 := by show _ = min _ _ * 6; have := h6.out; simp; omega
  have hf1 : (i + 1) * 6 + (xs.drop (i * 6)).length ≤ cur.size := by rw [hd, hs.out]; omega
  have hf2 : i * 6 + cs1.toList.length ≤ c1.toArray.size := by have := hir.2.2; have := hs.out; have := h6.out; simp at *; omega
  have hcp := fun ty dc sc => run_copy_rowN (P := Try.prog) w.drew 24 24 ty 31 6 g ((i + 1) * 6) (n - i) dc ⟨g, i * 6, none⟩ (n + 1 - i) sc cur 31 (xs.drop (i * 6)) Try.underlying24 hsz hb hn1 hsrc hf1 hx1
  rw [← hc1] at hcp
  have hcp2 := fun ty dc sc => run_copy_rowN (P := Try.prog) (w.drew.setRow g c1.toArray) 24 24 ty 31 6 g (i * 6) (n + 1 - i) dc ⟨g1, 0, none⟩ 1 sc c1.toArray 31 cs1.toList Try.underlying24 hsz hb1 hn2 hsrc2 hf2 hy.out
  replace hir := Lib.hid hir
  clear hc1 hn1 hn2 hd
  go_region_law (refine step_copy_eq rfl _ _ 24 24 rfl _ _ (by simp [Act.eval, Act.put]) (by simp [Act.eval, Act.put]) (hcp _ _ _) ?_)
  go_wp2_with (at_builtin; refine wpList_copy_eq _ rfl _ _ 24 24 rfl _ _ rfl rfl (hcp2 _ _ _) ?_)

  go_ret
  refine ⟨rfl, ⟨_, c, rfl, ?_, hc, hcm, .inr ⟨g, _, rfl, rfl, Blk.setRow hb1 _, ?_, ?_⟩⟩, ?_⟩
  · have := h6.out; have := hl.out; simp; omega
  · have := hir.out.2.1; have := hs.out; have := h6.out; simp at *; omega
  · have h := hir.out.1
    rw [show (n + 1) * 6 = n * 6 + 6 by omega]
    have e : cs1.toList.length = 6 := by simpa using h6.out
    simpa [e, h6.out] using h
  · exact ((Chg.refl [g] w).drew.setRow (.inl (by simp)) _).setRow (.inl (by simp)) _
theorem grow_rows {α : Type} (row xs news : List α) {a k L : Nat} (hx : row.take a = xs.take a) (hl : xs.length = L) (ha : a ≤ L) (hL : L + k ≤ row.length) (hk : news.length = k) {c1 : List α} (h1 : c1 = row.take a ++ (news ++ row.drop (a + k))) :
    (c1.take (a + k) ++ (xs.drop a ++ c1.drop (a + k + (L - a)))).take (L + k) = xs.take a ++ (news ++ xs.drop a) ∧ (c1.take (a + k) ++ (xs.drop a ++ c1.drop (a + k + (L - a)))).length = row.length ∧ c1.length = row.length := by
  have q : c1.length = row.length := by rw [h1]; simp [hk]; omega
  have t1 : c1.take (a + k) = xs.take a ++ news := by
    rw [h1, ← List.append_assoc, List.take_append_of_le_length (by simp [hk]; omega), List.take_of_length_le (by simp [hk]; omega), hx]
  refine ⟨?_, by simp [q]; omega, q⟩
  rw [t1, List.append_assoc, ← List.append_assoc news, ← List.append_assoc]
  rw [List.take_append_of_le_length (by simp [hl, hk]; omega), List.take_of_length_le (by simp [hl, hk]; omega)]
set_option maxRecDepth 100000 in
set_option maxHeartbeats 4000000 in
theorem jb_ins_grow {w : World} {g g1 n i : Nat} {xs : List Value} {cs1 : Array Value} (hf : Fix w 31 6 (.slice (some ⟨g, 0, none⟩) n n) n xs [g]) (hi : i < n) (hn : n ≤ 1000) (h1 : Blk w g1 31 cs1) (h6 : cs1.size = 6)
    (hx : ∀ u ∈ xs, u.oneCell' = true) (hy : ∀ u ∈ cs1.toList, u.oneCell' = true) :
    Calls Try.prog 32 #[.slice (some ⟨g, 0, none⟩) n n, .int .i64 i, .slice (some ⟨g1, 0, none⟩) 1 1] w fun e w' => ∃ c, e = .returned (.slice (some ⟨w.heap.size, 0, none⟩) (n + 1) c) ∧ Fix w' 31 6 (.slice (some ⟨w.heap.size, 0, none⟩) (n + 1) c) (n + 1) (xs.take (i * 6) ++ (cs1.toList ++ xs.drop (i * 6))) [w.heap.size] ∧ Chg [] w w' := by
  obtain ⟨i1, hi1, k0, k1, k2⟩ := info_parts jnInfo
  have hsz : (Try.prog.info? 31).map (·.size) = some 6 := by rw [hi1]; simp [k1]
  obtain ⟨A, c', hv, hl, hnc, hcm, h4⟩ := id hf
  injection hv with ha _ hcc
  subst ha hcc
  rcases h4 with ⟨h0, -⟩ | ⟨g', cur, ha, hF, hb, hs, ht⟩
  · omega
  obtain rfl : g = g' := by injection ha with ha; injection ha
  clear ha hF hf
  unfold maxLen at hcm
  obtain ⟨G, hG⟩ : ∃ G, w.heap.size = G := ⟨_, rfl⟩
  have hold : (Builtin.firstCells i1.size i (.slice (some ⟨g, 0, none⟩) i n)).run Try.prog w.drew = .ok (xs.take (i * 6)).toArray w.drew := by
    rw [k1]
    exact run_firstCells_some w.drew 6 i ⟨g, 0, none⟩ i n (xs.take (i * 6)) (by rw [List.length_take]; omega) (fun j v hj => by
      rw [Addr.add_lit, Blk.cell (w := w.drew) hb]
      rw [← ht, List.take_take, List.getElem?_take] at hj
      split at hj
      · simpa using hj
      · cases hj)
  have hap := fun ty => Lib.run_append_grow_zeros (P := Try.prog) w 24 3 ty 31 i1 _ .i64 .i64 Try.underlying24 Try.underlying3 hi1 k0 (some ⟨g, 0, none⟩) i n (xs.take (i * 6)) hold (n + 1 - i) (by omega) (by omega) (by omega) (by omega) (by rw [k2]; omega) (by rw [k2]; exact growslice_fits (by omega) (by omega))
  rw [show i + (n + 1 - i) = n + 1 by omega, hG] at hap
  obtain ⟨gc, hgc⟩ : ∃ gc, gc = grownCap w (n + 1) n 31 := ⟨_, rfl⟩
  have hg1 : n + 1 ≤ gc := by rw [hgc]; exact grownCap_ge w _ _ _
  have hg2 : gc ≤ 9223372036854775807 := by
    have := grownCap_le_maxLen w (n + 1) n 31 (by unfold maxLen; omega)
    rw [← hgc] at this
    unfold maxLen at this
    omega
  rw [← hgc] at hap
  obtain ⟨row, hrow⟩ : ∃ row : Array Value, row = (xs.take (i * 6)).toArray ++ Builtin.zeroCells (Value.agg #[.int .i64 0, .int .i64 0, .int .i64 0, .string ⟨#[]⟩, .slice none 0 0, .bool false]).cells (n + 1 - i) ++ Builtin.zeroCells (Value.agg #[.int .i64 0, .int .i64 0, .int .i64 0, .string ⟨#[]⟩, .slice none 0 0, .bool false]).cells (gc - (n + 1)) := ⟨_, rfl⟩
  have hrs : row.size = gc * 6 := by
    rw [hrow]
    simp only [Array.size_append, size_zeroCells]
    rw [show (Value.agg #[.int .i64 0, .int .i64 0, .int .i64 0, .string ⟨#[]⟩, .slice none 0 0, .bool false]).cells.size = 6 from rfl]
    simp
    omega
  have hrt : row.toList.take (i * 6) = xs.take (i * 6) := by
    rw [hrow]
    simp only [Array.toList_append, List.append_assoc]
    rw [List.take_append_of_le_length (by simp; omega), List.take_of_length_le (by simp; omega)]
  rw [← hrow] at hap
  clear hgc hrow
  have hiX : ((n : Int) + 1) - i = ((n + 1 - i : Nat) : Int) := by omega
  rw [← hiX] at hap
  obtain ⟨W1, hW1⟩ : ∃ W1, W1 = w.drew.alloc (.cells row 31) := ⟨_, rfl⟩
  have hch : Chg [] w W1 := by rw [hW1]; exact (Chg.refl [] w).drew.alloc _
  have hbW : Blk W1 G 31 row := by rw [hW1, ← hG]; exact Blk.new w.drew _ _
  have hbg : Blk W1 g 31 cur := hb.chg hch (by simp)
  have hbg1 : Blk W1 g1 31 cs1 := h1.chg hch (by simp)
  have hgG : g ≠ G := by have := hb.lt; omega
  have hg1G : g1 ≠ G := by have := h1.lt; omega
  rw [← hW1] at hap
  obtain ⟨c1, hc1⟩ : ∃ c1, c1 = row.toList.take (i * 6) ++ (cs1.toList ++ row.toList.drop (i * 6 + cs1.toList.length)) := ⟨_, rfl⟩
  have hir := grow_rows row.toList xs cs1.toList (a := i * 6) (k := 6) (L := n * 6) hrt hl (by omega) (by simp; omega) (by simpa using h6) (c1 := c1) (by rw [hc1]; simp [h6])
  obtain ⟨W2, hW2⟩ : ∃ W2, W2 = W1.setRow G c1.toArray := ⟨_, rfl⟩
  have hb2 : Blk W2 G 31 c1.toArray := by rw [hW2]; exact Blk.setRow hbW _
  have hbg2 : Blk W2 g 31 cur := by rw [hW2]; exact Blk.setRow_far hbg hgG _
  have hch2 : Chg [] w W2 := by rw [hW2]; exact hch.setRow (.inr (by omega)) _
  have hd : (xs.drop (i * 6)).length = (n - i) * 6 := by rw [List.length_drop, hl]; omega
  have hcp := fun ty dc sc => run_copy_rowN (P := Try.prog) W1 24 24 ty 31 6 G (i * 6) (n + 1 - i) dc ⟨g1, 0, none⟩ 1 sc row 31 cs1.toList Try.underlying24 hsz hbW (by show _ = min _ _ * 6; simp; omega)
    (fun j v hv => by rw [Addr.add_lit, hbg1.cell]; simpa using hv) (by simp; omega) hy
  rw [← hc1, ← hW2] at hcp
  have hcp2 := fun ty dc sc => run_copy_rowN (P := Try.prog) W2.drew 24 24 ty 31 6 G ((i + 1) * 6) (n - i) dc ⟨g, i * 6, none⟩ (n - i) sc c1.toArray 31 (xs.drop (i * 6)) Try.underlying24 hsz hb2 (by rw [hd]; show _ = min _ _ * 6; omega)
    (fun j v hv => by
      rw [Addr.add_lit, Blk.cell (w := W2.drew) hbg2]
      rw [List.getElem?_drop, ← ht, List.getElem?_take] at hv
      split at hv
      · simpa using hv
      · cases hv) (by have := hir.2.2; simp at this; simp [hd]; omega) (fun u hu => hx u (List.mem_of_mem_drop hu))
  have hw1 : IntKind.i64.wrap ((i : Int) + 1) = (i : Int) + 1 := by rw [IntKind.wrap_i64]; omega
  have hw2 : IntKind.i64.wrap ((n : Int) + 1) = (n : Int) + 1 := by rw [IntKind.wrap_i64]; omega
  have hw3 : IntKind.i64.wrap ((n : Int) + 1 - i) = (n : Int) + 1 - i := by rw [IntKind.wrap_i64]; omega
  have e1 : ¬ (i : Int) = n := by omega
  have e2 : (n : Int) < (n : Int) + 1 := by omega
  have e4 : ¬ gc = i + 1 := by omega
  have e5 : ¬ gc = i := by omega
  have e5' : ¬ n = i := by omega
  have e6 : (i : Int) ≤ (n : Int) + 1 := by omega
  have e7 : ((i : Int) + 1).toNat = i + 1 := by omega
  have e9 : (0 : Int) ≤ (i : Int) + 1 := by omega
  have e10 : i ≤ n := by omega
  have e11 : i + 1 ≤ n + 1 := by omega
  have e12 : i + 1 ≤ gc := by omega
  have e13 : i ≤ n + 1 := by omega
  have e15 : i ≤ gc := by omega
  have hG2 : Hid (w.heap.size = G) := Lib.hid hG
  rw [hG]
  have hir2 := Lib.hid hir
  have hl2 := Lib.hid hl
  have hrs2 := Lib.hid hrs
  have h62 := Lib.hid h6
  have hgn := Lib.hid hg1
  have hgm := Lib.hid hg2
  have hdd := Lib.hid hd
  clear hir hl hs ht h6 hrs hg1 hd hc1 hW2 hW1 hx hy hrt hG hold k0 k1 k2 hi1 hsz hnc hcm hiX hgG hg1G
  go_enter Try.func32, Try.ntmps32
  go_wp2_with first
    | (at_builtin; refine wpList_append_eq _ rfl _ _ 24 3 rfl _ _ rfl rfl (hap _) ?_)
    | (at_builtin; refine wpList_copy_eq _ rfl _ _ 24 24 rfl _ _ rfl rfl (hcp _ _ _) ?_)
  go_region_law (refine step_copy_eq rfl _ _ 24 24 rfl _ _ (by simp [Act.eval, Act.put]) (by simp [Act.eval, Act.put]) (hcp2 _ _ _) ?_)
  go_wp2_with fail
  go_ret
  refine ⟨gc, rfl, ⟨_, gc, rfl, ?_, hgn.out, hgm.out, .inr ⟨G, _, rfl, rfl, Blk.setRow (w := W2.drew) hb2 _, ?_, ?_⟩⟩, ?_⟩
  · have := h62.out; have := hl2.out; simp; omega
  · have := hir2.out.2.1; have := hrs2.out; have := hdd.out; simp at *; omega
  · have h := hir2.out.1
    rw [show (n + 1) * 6 = n * 6 + 6 by omega]
    have e : (i + 1) * 6 + (xs.length - i * 6) = i * 6 + 6 + (n * 6 - i * 6) := by have := hl2.out; omega
    rw [e, show (i + 1) * 6 = i * 6 + 6 by omega]
    simpa using h
  · exact hch2.drew.setRow (.inr (by rw [hG2.out]; exact Nat.le_refl _)) _
/-- What Insert of one leaves, anywhere. -/
def InsAny (w : World) (v : Value) (n i : Nat) (xs ys : List Value) (F : List Nat) (e : Ending) (w' : World) : Prop := ∃ v' F', e = .returned v' ∧ Fix w' 31 6 v' (n + 1) (xs.take (i * 6) ++ (ys ++ xs.drop (i * 6))) F' ∧ Chg F w w' ∧ (∀ g ∈ F', g ∈ F ∨ w.heap.size ≤ g)
theorem jb_ins {w : World} {A : Option Addr} {n c i : Nat} {Q : List JV} {F : List Nat} (hf : Fix w 31 6 (.slice A n c) n (Q.flatMap jvEnc) F) (hi : i ≤ n) (hn : n ≤ 1000) {g1 : Nat} {q : JV} (h1 : Blk w g1 31 (jvEnc q).toArray) (hne : g1 ∉ F)
    (hx : ∀ u ∈ Q.flatMap jvEnc, u.oneCell' = true) (hy : ∀ u ∈ jvEnc q, u.oneCell' = true) :
    Calls Try.prog 32 #[.slice A n c, .int .i64 i, .slice (some ⟨g1, 0, none⟩) 1 1] w (InsAny w (.slice A n c) n i (Q.flatMap jvEnc) (jvEnc q) F) := by
  have hs : Go.Vx.Src w 6 (some ⟨g1, 0, none⟩) 1 (jvEnc q) := ⟨by simp [jvEnc_len], fun _ => ⟨_, rfl, fun j u hu => by rw [Addr.add_lit, h1.cell]; simpa using hu⟩⟩
  by_cases hin : i = n
  · subst hin
    refine (jb_ins_end hf hn hs hy).mono ?_
    rintro e w' ⟨v', F', rfl, hA⟩
    have hl : (Q.flatMap jvEnc).length = i * 6 := by obtain ⟨_, _, _, h, _⟩ := hf; exact h
    refine ⟨v', F', rfl, ?_, hA.chg, fun g hg => ?_⟩
    · rw [List.take_of_length_le (by omega), List.drop_eq_nil_of_le (by omega), List.append_nil]
      exact hA.fix
    · rcases hA.foot with h | h
      · exact .inl (h ▸ hg)
      · rw [h, List.mem_singleton] at hg; exact .inr (by omega)
  · have hlt : i < n := by omega
    obtain ⟨B, c', hv, hl, hnc, hcm, h4⟩ := id hf
    injection hv with ha _ hcc
    subst ha hcc
    rcases h4 with ⟨h0, -⟩ | ⟨g, cur, rfl, rfl, hb, hs', ht⟩
    · omega
    · by_cases hc : n + 1 ≤ c
      · refine (jb_ins_room hf hlt hc hn h1 (by simp [jvEnc_len]) (by simpa using hne) hx (by simpa using hy)).mono ?_
        rintro e w' ⟨rfl, hf', hz⟩
        exact ⟨_, [g], rfl, by simpa using hf', hz, fun g hg => .inl hg⟩
      · obtain rfl : c = n := by omega
        refine (jb_ins_grow hf hlt hn h1 (by simp [jvEnc_len]) hx (by simpa using hy)).mono ?_
        rintro e w' ⟨c', rfl, hf', hz⟩
        exact ⟨_, [w.heap.size], rfl, by simpa using hf', hz.mono (by simp), fun g hg => .inr (by simp at hg; omega)⟩
end Go.Proofs.Ytlgfmphjgijilaa
