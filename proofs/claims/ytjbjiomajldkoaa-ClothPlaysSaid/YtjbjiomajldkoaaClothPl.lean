/- ClothPlays, walked. -/
import Derived.Test.YtjbjiomajldkoaaClothDq
namespace Go.Proofs.Ytjbjiomajldkoaa
open Go.RowKit Go.Vx Go.Shelf
set_option linter.unusedVariables false
set_option linter.unusedSimpArgs false

theorem weave_nil (w : World) (row : Int) (s : ByteArray) : Calls Try.prog 10 #[.pointer none, .int .i64 row, .string s] w fun e w' => e = .returned (.int .i64 1) ∧ w = w' := by
  go_enter Try.func10, Try.ntmps10
  go_wp2_with (go_at_call 23; refine (may_nil _ _).mono ?_; rintro e w' ⟨rfl, rfl⟩)
  go_ret
  exact ⟨rfl, rfl⟩
theorem read_nil (w : World) (row : Int) :
    Calls Try.prog 15 #[.pointer none, .int .i64 row] w fun e w' => e = .returned (.tuple #[.string ⟨#[]⟩, .int .i64 1]) ∧ Chg [] w w' := by
  refine (callsIn_wide (n := 8)).1 ?_
  refine callsIn_of_wp_marks Try.func15 rfl trivial ?_ rfl
  simp only [Try.ntmps15, List.size_toArray, List.length_cons, List.length_nil, Nat.reduceAdd, Nat.reduceSub, Array.replicate_succ, Array.replicate_zero, List.push_toArray, List.append_toArray, List.nil_append, List.cons_append]
  gi_wp2_with (refine ⟨trivial, ?_⟩; gi_at_call 23; refine (callsIn_wide.2 (may_nil _ row)).mono ?_; rintro e w' ⟨rfl, rfl⟩)
  exact ⟨.tuple #[.string ⟨#[]⟩, .int .i64 1], by simp [results, Try.f15, go_sem], rfl, (((Chg.refl _ _).alloc _).alloc _).alloc _⟩
theorem is_pair {w : World} {p q : Nat} {c : ClothS} {S T : List Nat} {k : Nat} (h : Pair w p q c S T) (g : Good c k) (hk : k < 1000000) :
    Calls Try.prog 19 #[.pointer (some ⟨p, 0, none⟩), .pointer (some ⟨q, 0, none⟩)] w fun e w' => e = .returned (.bool true) ∧ Chg [] w w' := by
  obtain ⟨⟨pr, lo, ke, F, G, H, hc, rfl⟩, ⟨now, last, lo2, ke2, n, kl, Fn, Fl, G2, H2, hr, rfl⟩, -⟩ := h
  have := g.ll
  exact is_at hc hr (by omega) g.ok
theorem twin_cl {w : World} {p : Nat} {c : ClothS} {S : List Nat} {k : Nat} (h : Cl w p c S) (g : Good c k) (hk : k < 1000000) :
    Calls Try.prog 20 #[.pointer (some ⟨p, 0, none⟩)] w fun e w' => ∃ q, e = .returned (.pointer (some ⟨q, 0, none⟩)) ∧ ∃ S', Cl w' q c S' ∧ Chg [] w w' ∧ ∀ g, g ∈ S' → w.heap.size ≤ g := by
  obtain ⟨pr, lo, ke, F, G, H, h, rfl⟩ := h
  have h1 := g.ll
  have h2 := g.kl
  have h3 := g.pl
  refine (twin_at h (by omega) (by omega) (by omega)).mono ?_
  rintro e w' ⟨q, rfl, pr', lo', ke', F', G', H', h', hw, hf⟩
  exact ⟨q, rfl, _, ⟨pr', lo', ke', F', G', H', h', rfl⟩, hw, hf⟩
theorem new_cl (rows : Int) (w : World) :
    Calls Try.prog 9 #[.int .i64 rows] w fun e w' => ∃ p, e = .returned (.pointer (some ⟨p, 0, none⟩)) ∧ ∃ S, Cl w' p ⟨List.replicate (min (max rows 0) 2000).toNat ⟨#[]⟩, [], false, false, 0, []⟩ S ∧ Chg [] w w' ∧ ∀ g, g ∈ S → w.heap.size ≤ g := by
  refine (new_at rows w).mono ?_
  rintro e w' ⟨p, pr, F, rfl, h, hw, hf⟩
  exact ⟨p, rfl, _, ⟨pr, _, _, F, [], [], h, rfl⟩, hw, by simpa using hf⟩

theorem opOk_chg {w w' : World} {o : OpV} (h : OpOk w o) (k : Chg [] w w') : OpOk w' o := ⟨h.hk, h.hn, h.hs, h.hl, h.hc, h.hm, h.src.chg k (by simp)⟩
theorem drop_step {w W W' : World} {p q : Nat} {c : ClothS} {S T D D' : List Nat} (h : Pair W p q c S T) (hd : ∀ g, g ∈ D → g ∉ S ++ T) (hw : Chg D W W') (hD : ∀ g, g ∈ D' → g ∈ D ∨ W.heap.size ≤ g)
    (hz : Chg [] w W) (hf : ∀ g, g ∈ D → w.heap.size ≤ g) : Pair W' p q c S T ∧ (∀ g, g ∈ D' → g ∉ S ++ T) ∧ Chg [] w W' ∧ ∀ g, g ∈ D' → w.heap.size ≤ g := by
  refine ⟨h.chg hw (fun g hg hs => hd g hs hg), fun g hg hs => ?_, hz.trans hw (fun g hg => .inr (hf g hg)), fun g hg => ?_⟩
  · rcases hD g hg with h1 | h1
    · exact hd g h1 hs
    · rcases List.mem_append.1 hs with h2 | h2
      · have := h.cl.lt g h2; omega
      · have := h.rf.lt g h2; omega
  · have := hz.size
    rcases hD g hg with h1 | h1
    · exact hf g h1
    · omega
set_option maxHeartbeats 8000000 in
theorem plays_in (w : World) (rows : Int) (A : Option Addr) (len cap : Nat) (l : List OpV) (x : l.length = len ∧ len ≤ cap ∧ cap ≤ maxLen ∧ Src w 4 A len (l.flatMap opCells) ∧ ∀ x ∈ l, OpOk w x)  :
    Calls Try.prog 6 #[.int .i64 rows, .slice A len cap] w fun e w' => e = .returned (.bool true) ∧ Chg [] w w' := by
  have hli := light_at w A len cap l x
  obtain ⟨hl, h1, h2, hs, hok⟩ := x
  unfold maxLen at h2
  go_enter Try.func6, Try.ntmps6
  go_wp2_with fail
  refine hli.mono ?_
  rintro e w' ⟨b, rfl, rfl, hb⟩
  clear hli
  cases b with
  | false =>
    clear hb
    go_wp2_with fail
    refine (alive_at _).mono ?_
    rintro e w1 ⟨rfl, hw1⟩
    go_wp2_with fail
    go_ret
    exact ⟨rfl, hw1⟩
  | true =>
    obtain ⟨hb1, hb2⟩ := hb rfl
    clear hb
    go_wp2_with fail
    refine (alive_at _).mono ?_
    rintro e w1 ⟨rfl, hw1⟩
    go_wp2_with fail
    refine (new_cl rows w1).mono ?_
    rintro e w2 ⟨p, rfl, S, hc, hw2, hS⟩
    go_wp2_with fail
    refine (rnew rows w2).mono ?_
    rintro e w3 ⟨q, rfl, T, hr, hw3, hT⟩
    have hg : Good ⟨List.replicate (min (max rows 0) 2000).toNat ⟨#[]⟩, [], false, false, 0, []⟩ 0 :=
      ⟨Nat.le_refl _, by simp, by intro t ht; simp at ht, by intro h; simp at h, by simp; omega⟩
    generalize (⟨List.replicate (min (max rows 0) 2000).toNat ⟨#[]⟩, [], false, false, 0, []⟩ : ClothS) = c at hc hr hg
    have hp : Pair w3 p q c S T := ⟨hc.chg hw3 (by simp), hr, fun g h1 h2 => by have := hc.lt g h1; have := hT g h2; omega⟩
    have hz : Chg [] w w3 := (hw1.trans' hw2).trans' hw3
    have hf : ∀ g, g ∈ S ++ T → w.heap.size ≤ g := by
      intro g hg
      have s1 := hw1.size
      have s2 := hw2.size
      rcases List.mem_append.1 hg with h | h
      · have := hS g h; omega
      · have := hT g h; omega
    clear hc hr hw1 hw2 hw3 hS hT
    go_wp2_with fail
    refine (is_pair hp hg (by omega)).mono ?_
    rintro e w4 ⟨rfl, hw4⟩
    replace hp := hp.chg hw4 (by simp)
    replace hz := hz.trans' hw4
    clear hw4
    go_wp2_with fail
    go_loopw [5, 7] (fun cv i wr => ∃ (k p : Nat) (c : ClothS) (S T : List Nat), k ≤ len ∧ cv = .pointer (some ⟨p, 0, none⟩) ∧ i = .int .i64 k ∧ Pair wr p q c S T ∧ Good c k ∧ Chg [] w wr ∧ ∀ g, g ∈ S ++ T → w.heap.size ≤ g) (fun _ i _ => len - (intOf i).toNat)
    case atStart => exact ⟨0, p, c, S, T, Nat.zero_le _, rfl, rfl, hp, hg, hz, hf⟩
    case round =>
      clear hp hg hz hf
      obtain ⟨k, p, c, S, T, hk, rfl, rfl, hp, hg, hz, hf⟩ := hrel
      by_cases hlt : k < len
      · obtain ⟨ad, rfl, d0, hc⟩ := Src.el (hs.chg hz (by simp)) (fun _ => rfl) (by omega) (k := k) (by omega) hl
        have d1 := hc 1 (by omega) (by omega)
        have d2 := hc 2 (by omega) (by omega)
        have d3 := hc 3 (by omega) (by omega)
        have ho := hok _ (List.getElem_mem (show k < l.length by omega))
        obtain ⟨ho1, ho2⟩ := hb2 _ (List.getElem_mem (show k < l.length by omega))
        simp only [opCells, List.getElem?_cons_succ, List.getElem?_cons_zero] at d0 d1 d2 d3
        clear hc
        generalize l[k] = o at d0 d1 d2 d3 ho ho1 ho2
        by_cases h6 : o.kind = 6
        · have h6b : (o.kind == 6) = true := by simpa using h6
          go_wp2_with fail
          refine (twin_cl hp.cl hg (by omega)).mono ?_
          rintro e w5 ⟨p2, rfl, S2, hc2, hw5, hS2⟩
          have hp5 := hp.chg hw5 (by simp)
          have hd2 : ∀ g, g ∈ S2 → g ∉ S ++ T := by
            intro g h1 h2
            have := hS2 g h1
            rcases List.mem_append.1 h2 with h | h
            · have := hp.cl.lt g h; omega
            · have := hp.rf.lt g h; omega
          have hp2 : Pair w5 p2 q c S2 T := ⟨hc2, hp5.rf, fun g h1 h2 => hd2 g h1 (by simp [h2])⟩
          have hz5 := hz.trans' hw5
          have hf2 : ∀ g, g ∈ S2 → w.heap.size ≤ g := fun g hg => by have := hS2 g hg; have := hz.size; omega
          go_wp2_with fail
          refine (is_pair hp2 hg (by omega)).mono ?_
          rintro e w6 ⟨rfl, hw6⟩
          replace hp5 := hp5.chg hw6 (by simp)
          replace hp2 := hp2.chg hw6 (by simp)
          replace hz5 := hz5.trans' hw6
          have e1 : w6.cell? ⟨(ad.add (k * 4)).block, (ad.add (k * 4)).off + 1, none⟩ = some (.int .i64 o.n) := ((hw5.trans' hw6).cell (World.block_lt_of_cell? _ _ d1) (by simp)).trans d1
          clear hc2 hw5 hw6 hS2 hp d0 d1 d2 d3 hz
          go_wp2_with fail
          ·
            refine (cweave hp5.cl hg (by omega) 0 ⟨#[122]⟩ (by decide)).mono ?_
            rintro e w7 ⟨D7, rfl, hd7, hw7, hD7⟩
            obtain ⟨hk7, hq7, hz7, hf7⟩ := drop_step hp2 (fun g h1 h2 => by rcases List.mem_append.1 h2 with h | h; exact hd2 g h (by simp [h1]); exact hp5.dis g h1 h) hw7 hD7 hz5 (fun g h => hf g (by simp [h]))
            have hg7 := hg.weaveX 0 ⟨#[122]⟩
            go_wp2_with fail
            refine (cpress hd7 hg7 (by omega)).mono ?_
            rintro e w8 ⟨D8, rfl, hd8, hw8, hD8⟩
            obtain ⟨hk8, hq8, hz8, hf8⟩ := drop_step hk7 hq7 hw8 hD8 hz7 hf7
            have hg8 := hg7.pressX
            clear hk7 hq7 hz7 hf7 hd7 hw7 hD7
            go_wp2_with fail
            refine (ctear (keep := []) (n := 0) (A := none) hd8 hg8 (by omega) ⟨by simp, by simp⟩ (by omega)).mono ?_
            rintro e w9 ⟨D9, rfl, hd9, hw9, hD9⟩
            obtain ⟨hk9, hq9, hz9, hf9⟩ := drop_step hk8 hq8 hw9 hD9 hz8 hf8
            clear hk8 hq8 hz8 hf8 hd8 hw8 hD8 hg8 hg7 hd9 hw9 hD9 hf9 hq9
            go_wp2_with fail
            refine (is_pair hk9 hg (by omega)).mono ?_
            rintro e w10 ⟨rfl, hw10⟩
            go_wp2_with fail
            go_roundw
            case measure => simp [intOf]; omega
            case rel => exact ⟨k + 1, p2, c, S2, T, by omega, rfl, by go_num, hk9.chg hw10 (by simp), hg.mono (by omega), hz9.trans' hw10, fun g h => by rcases List.mem_append.1 h with h | h; exact hf2 g h; exact hf g (by simp [h])⟩
          ·
            refine (cweave hp2.cl hg (by omega) 0 ⟨#[122]⟩ (by decide)).mono ?_
            rintro e w7 ⟨D7, rfl, hd7, hw7, hD7⟩
            obtain ⟨hk7, hq7, hz7, hf7⟩ := drop_step hp5 hd2 hw7 hD7 hz5 hf2
            have hg7 := hg.weaveX 0 ⟨#[122]⟩
            go_wp2_with fail
            refine (cpress hd7 hg7 (by omega)).mono ?_
            rintro e w8 ⟨D8, rfl, hd8, hw8, hD8⟩
            obtain ⟨hk8, hq8, hz8, hf8⟩ := drop_step hk7 hq7 hw8 hD8 hz7 hf7
            have hg8 := hg7.pressX
            clear hk7 hq7 hz7 hf7 hd7 hw7 hD7
            go_wp2_with fail
            refine (ctear (keep := []) (n := 0) (A := none) hd8 hg8 (by omega) ⟨by simp, by simp⟩ (by omega)).mono ?_
            rintro e w9 ⟨D9, rfl, hd9, hw9, hD9⟩
            obtain ⟨hk9, hq9, hz9, hf9⟩ := drop_step hk8 hq8 hw9 hD9 hz8 hf8
            clear hk8 hq8 hz8 hf8 hd8 hw8 hD8 hg8 hg7 hd9 hw9 hD9 hf9 hq9
            go_wp2_with fail
            refine (is_pair hk9 hg (by omega)).mono ?_
            rintro e w10 ⟨rfl, hw10⟩
            go_wp2_with fail
            go_roundw
            case measure => simp [intOf]; omega
            case rel => exact ⟨k + 1, p, c, S, T, by omega, rfl, by go_num, hk9.chg hw10 (by simp), hg.mono (by omega), hz9.trans' hw10, hf⟩
        · have h6b : (o.kind == 6) = false := by simpa using h6
          go_wp2_with fail
          refine (do_at hp hg (by omega) o (opOk_chg ho hz) ho1 ho2 ?_).mono ?_
          · intro h0 ad' ha hs
            obtain ⟨ad2, ha2, hc2⟩ := ho.src.2 h0
            rw [ha] at ha2
            cases ha2
            have hh := hc2 0 (.bool (o.keep[0]'(by have := ho.hl; omega))) (by simp [ho.hl, h0])
            have := World.block_lt_of_cell? _ _ hh
            rw [show ad'.add 0 = ad' by simp [Addr.add]] at this
            have := hf _ hs
            omega
          · rintro e w5 ⟨rfl, S5, T5, hp5, hw5, hf5⟩
            have hg5 := hg.act o ho.hn ho2
            have hz5 : Chg [] w w5 := hz.trans hw5 (fun g hg => .inr (hf g hg))
            have hff : ∀ g, g ∈ S5 ++ T5 → w.heap.size ≤ g := fun g hg => by
              have := hz.size
              rcases hf5 g hg with h | h
              · exact hf g h
              · omega
            clear hp hw5 hf5 hz hf d0 d1 d2 d3
            go_wp2_with fail
            refine (is_pair hp5 hg5 (by omega)).mono ?_
            rintro e w6 ⟨rfl, hw6⟩
            go_wp2_with fail
            go_roundw
            case measure => simp [intOf]; omega
            case rel => exact ⟨k + 1, p, c.act o, S5, T5, by omega, rfl, by go_num, hp5.chg hw6 (by simp), hg5, hz5.trans' hw6, hff⟩
      · clear hp hf
        go_wp2_with (first | (go_at_call 14; refine (mend_nil _).mono ?_; rintro e w' ⟨rfl, rfl⟩) | (go_at_call 16; refine (snag_nil _ _ _ _ _).mono ?_; rintro e w' ⟨rfl, rfl⟩))
        refine (read_nil _ _).mono ?_
        rintro e w5 ⟨rfl, hw5⟩
        go_wp2_with (first | (go_at_call 10; refine (weave_nil _ _ _).mono ?_; rintro e w' ⟨rfl, rfl⟩) | (go_at_call 11; refine (press_nil _).mono ?_; rintro e w' ⟨rfl, rfl⟩) | (go_at_call 13; refine (tear_nil _ _ _ _).mono ?_; rintro e w' ⟨rfl, rfl⟩) | (go_at_call 22; refine (rows_nil _).mono ?_; rintro e w' ⟨rfl, rfl⟩) | (go_at_call 12; refine (loose_nil _).mono ?_; rintro e w' ⟨rfl, rfl⟩) | (go_at_call 17; refine (on_nil _).mono ?_; rintro e w' ⟨rfl, rfl⟩) | (go_at_call 20; refine (twin_nil _).mono ?_; rintro e w' ⟨rfl, rfl⟩))
        go_ret
        exact ⟨rfl, hz.trans' hw5⟩
theorem clothPlays_walk (w : World) (rows : Int) (_ : (Lit.int .i64 rows).wf = true) (A : Option Addr) (len cap : Nat) (l : List OpV) (x : l.length = len ∧ len ≤ cap ∧ cap ≤ maxLen ∧ Src w 4 A len (l.flatMap opCells) ∧ ∀ x ∈ l, OpOk w x) (_ : len * 56 ≤ 140737488351232) :
    Calls Try.prog 6 #[.int .i64 rows, .slice A len cap] w fun e w' => e = .returned (.bool true) ∧ Chg [] w w' := plays_in w rows A len cap l x
end Go.Proofs.Ytjbjiomajldkoaa
