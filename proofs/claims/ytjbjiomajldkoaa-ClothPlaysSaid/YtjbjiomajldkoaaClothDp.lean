/- Do, walked. -/
import Derived.Test.YtjbjiomajldkoaaClothDo
namespace Go.Proofs.Ytjbjiomajldkoaa
open Go.RowKit Go.Vx
set_option linter.unusedVariables false
set_option linter.unusedSimpArgs false

def ClothS.act (c : ClothS) (o : OpV) : ClothS :=
  if o.kind = 1 then c.weaveX o.n o.s else if o.kind = 2 then c.pressX else if o.kind = 3 then c.tearX o.keep else if o.kind = 4 then { c with torn := false } else if o.kind = 5 then c.snag o.n o.keep else c
def DoPost (w : World) (p q : Nat) (c' : ClothS) (S T : List Nat) (e : Ending) (w' : World) : Prop :=
  e = .returned (.bool true) ∧ ∃ S' T', Pair w' p q c' S' T' ∧ Chg (S ++ T) w w' ∧ ∀ g, g ∈ S' ++ T' → g ∈ S ++ T ∨ w.heap.size ≤ g
section
variable {w w' : World} {p q : Nat} {c : ClothS} {S T F : List Nat}
/-- One side first, then the other one. -/
theorem Pair.left {S' : List Nat} {c' : ClothS} (h : Pair w p q c S T) (h1 : Cl w' p c' S') (hw : Chg S w w') (hS : ∀ g, g ∈ S' → g ∈ S ∨ w.heap.size ≤ g) :
    Ref w' q c T ∧ ∀ g, g ∈ S' → g ∉ T := by
  refine ⟨h.rf.chg hw (fun g hg hs => h.dis g hs hg), fun g hg ht => ?_⟩
  rcases hS g hg with h1 | h1
  · exact h.dis g h1 ht
  · have := h.rf.lt g ht; omega
theorem pair_done {w0 w1 w2 : World} {S' T' : List Nat} {c' : ClothS} (h1 : Cl w1 p c' S') (hw : Chg S w0 w1) (hS : ∀ g, g ∈ S' → g ∈ S ∨ w0.heap.size ≤ g) (hd : ∀ g, g ∈ S' → g ∉ T)
    (h2 : Ref w2 q c' T') (hw2 : Chg T w1 w2) (hT : ∀ g, g ∈ T' → g ∈ T ∨ w1.heap.size ≤ g) : Pair w2 p q c' S' T' ∧ Chg (S ++ T) w0 w2 ∧ ∀ g, g ∈ S' ++ T' → g ∈ S ++ T ∨ w0.heap.size ≤ g := by
  refine ⟨⟨h1.chg hw2 (fun g hg ht => hd g hg ht), h2, ?_⟩, (hw.mono (by simp +contextual)).trans' (hw2.mono (by simp +contextual)), ?_⟩
  · intro g hg ht
    rcases hT g ht with h | h
    · exact hd g hg h
    · have := h1.lt g hg; omega
  · intro g hg
    have := hw.size
    rcases List.mem_append.1 hg with hg | hg
    · rcases hS g hg with h | h
      · exact .inl (by simp [h])
      · exact .inr h
    · rcases hT g hg with h | h
      · exact .inl (by simp [h])
      · exact .inr (by omega)
theorem do_fin {W w2 : World} {S' T' : List Nat} {c' : ClothS} (hw0 : Chg [] w W) (hp : Pair w2 p q c' S' T' ∧ Chg (S ++ T) W w2 ∧ ∀ g, g ∈ S' ++ T' → g ∈ S ++ T ∨ W.heap.size ≤ g) : DoPost w p q c' S T (.returned (.bool true)) w2 := by
  refine ⟨rfl, S', T', hp.1, (hw0.mono (by simp)).trans' hp.2.1, fun g hg => ?_⟩
  have := hw0.size
  rcases hp.2.2 g hg with h | h
  · exact .inl h
  · exact .inr (by omega)
/-- The facts behind the box: the same for every kind. -/
structure Boxy (w W : World) (p q : Nat) (c : ClothS) (S T : List Nat) (B : Nat) (kind n : Int) (s : ByteArray) (A : Option Addr) (len cap : Nat) (keep : List Bool) : Prop where
  pair : Pair W p q c S T
  blk : Blk W B 30 #[.int .i64 kind, .int .i64 n, .string s, .slice A len cap]
  chg : Chg [] w W
  src : Src W 1 A len (keep.map .bool)
  fs : B ∉ S
  ft : B ∉ T
  af : 0 < len → ∀ ad, A = some ad → ad.block ∉ S ++ T
theorem Boxy.of (h : Pair w p q c S T) {kind n : Int} {s : ByteArray} {A : Option Addr} {len cap : Nat} {keep : List Bool} (osrc : Src w 1 A len (keep.map .bool)) (hA : 0 < len → ∀ ad, A = some ad → ad.block ∉ S ++ T) :
    Boxy w (w.alloc (.cells #[.int .i64 kind, .int .i64 n, .string s, .slice A len cap] 30)) p q c S T w.heap.size kind n s A len cap keep :=
  ⟨h.chg (F := []) ((Chg.refl _ w).alloc _) (by simp), Blk.new w _ _, (Chg.refl _ w).alloc _, osrc.alloc _, fun hb => absurd (h.cl.lt _ hb) (by omega), fun hb => absurd (h.rf.lt _ hb) (by omega), hA⟩
theorem Boxy.drew {W : World} {B : Nat} {kind n : Int} {s : ByteArray} {A : Option Addr} {len cap : Nat} {keep : List Bool} (b : Boxy w W p q c S T B kind n s A len cap keep) : Boxy w W.drew p q c S T B kind n s A len cap keep :=
  ⟨b.pair.chg (F := []) (Chg.refl _ W).drew (by simp), b.blk.drew, b.chg.drew, b.src, b.fs, b.ft, b.af⟩
set_option maxHeartbeats 4000000 in
theorem do1 {k : Nat} (h : Pair w p q c S T) (g : Good c k) (hk : k < 1000000) (n : Int) (s : ByteArray) (A : Option Addr) (len cap : Nat) (keep : List Bool) (osrc : Src w 1 A len (keep.map .bool)) (hs : s.size ≤ 100) (hA : 0 < len → ∀ ad, A = some ad → ad.block ∉ S ++ T) :
    Calls Try.prog 21 #[.pointer (some ⟨p, 0, none⟩), .pointer (some ⟨q, 0, none⟩), .agg #[.int .i64 1, .int .i64 n, .string s, .slice A len cap]] w (DoPost w p q (c.weaveX n s) S T) := by
  have b := Boxy.of (kind := 1) (n := n) (s := s) (cap := cap) h osrc hA
  go_enter Try.func21, Try.ntmps21
  go_wp2_with fail
  generalize w.alloc (.cells #[.int .i64 1, .int .i64 n, .string s, .slice A len cap] 30) = W at b ⊢
  generalize w.heap.size = B at b ⊢
  have d1 : W.cell? ⟨B, 1, none⟩ = some (.int .i64 n) := b.blk.cell 1
  have d2 : W.cell? ⟨B, 2, none⟩ = some (.string s) := b.blk.cell 2
  have bd := b.drew
  have hcw := cweave bd.pair.cl g hk n s (by omega)
  obtain ⟨x, hx⟩ : ∃ x, x = c.weaveXR n s := ⟨_, rfl⟩
  have hxx : (x == x) = true := by simp
  rw [← hx] at hcw
  go_region_law (first
    | (go_simp; go_at_call 10; refine hcw.mono ?_; rintro e w1 ⟨S1, rfl, hc1, hw1, hS1⟩; have hb1 := bd.blk.chg hw1 bd.fs; obtain ⟨hr1, hd1⟩ := bd.pair.left hc1 hw1 hS1; have hrw := rweave hr1 g hk n s (by omega); rw [← hx] at hrw; have e1 : w1.cell? ⟨B, 1, none⟩ = some (.int .i64 n) := hb1.cell 1; have e2 : w1.cell? ⟨B, 2, none⟩ = some (.string s) := hb1.cell 2)
    | (go_simp; go_at_call 33; refine hrw.mono ?_; rintro e w2 ⟨T1, rfl, hr2, hw2, hT2⟩))
  all_goals
    go_wp2_with fail
    go_ret
    exact do_fin bd.chg (pair_done hc1 hw1 hS1 hd1 hr2 hw2 hT2)
set_option maxHeartbeats 4000000 in
theorem do2 {k : Nat} (h : Pair w p q c S T) (g : Good c k) (hk : k < 1000000) (n : Int) (s : ByteArray) (A : Option Addr) (len cap : Nat) (keep : List Bool) (osrc : Src w 1 A len (keep.map .bool)) (hA : 0 < len → ∀ ad, A = some ad → ad.block ∉ S ++ T) :
    Calls Try.prog 21 #[.pointer (some ⟨p, 0, none⟩), .pointer (some ⟨q, 0, none⟩), .agg #[.int .i64 2, .int .i64 n, .string s, .slice A len cap]] w (DoPost w p q c.pressX S T) := by
  have b := Boxy.of (kind := 2) (n := n) (s := s) (cap := cap) h osrc hA
  go_enter Try.func21, Try.ntmps21
  go_wp2_with fail
  generalize w.alloc (.cells #[.int .i64 2, .int .i64 n, .string s, .slice A len cap] 30) = W at b ⊢
  generalize w.heap.size = B at b ⊢
  have hcw := cpress b.pair.cl g hk
  obtain ⟨x, hx⟩ : ∃ x, x = c.pressXR := ⟨_, rfl⟩
  have hxx : (x == x) = true := by simp
  rw [← hx] at hcw
  refine hcw.mono ?_
  rintro e w1 ⟨S1, rfl, hc1, hw1, hS1⟩
  obtain ⟨hr1, hd1⟩ := b.pair.left hc1 hw1 hS1
  have hrw := rpress hr1 g hk
  rw [← hx] at hrw
  go_wp2_with fail
  refine hrw.mono ?_
  rintro e w2 ⟨T1, rfl, hr2, hw2, hT2⟩
  go_wp2_with fail
  go_ret
  exact do_fin b.chg (pair_done hc1 hw1 hS1 hd1 hr2 hw2 hT2)
set_option maxHeartbeats 4000000 in
theorem do3 {k : Nat} (h : Pair w p q c S T) (g : Good c k) (hk : k < 1000000) (n : Int) (s : ByteArray) (A : Option Addr) (len cap : Nat) (keep : List Bool) (osrc : Src w 1 A len (keep.map .bool)) (hl : len ≤ 60) (hA : 0 < len → ∀ ad, A = some ad → ad.block ∉ S ++ T) :
    Calls Try.prog 21 #[.pointer (some ⟨p, 0, none⟩), .pointer (some ⟨q, 0, none⟩), .agg #[.int .i64 3, .int .i64 n, .string s, .slice A len cap]] w (DoPost w p q (c.tearX keep) S T) := by
  have b := Boxy.of (kind := 3) (n := n) (s := s) (cap := cap) h osrc hA
  go_enter Try.func21, Try.ntmps21
  go_wp2_with fail
  generalize w.alloc (.cells #[.int .i64 3, .int .i64 n, .string s, .slice A len cap] 30) = W at b ⊢
  generalize w.heap.size = B at b ⊢
  have d3 : W.cell? ⟨B, 3, none⟩ = some (.slice A len cap) := b.blk.cell 3
  have bd := b.drew
  have hcw := ctear (m := cap) bd.pair.cl g hk bd.src (by omega)
  obtain ⟨x, hx⟩ : ∃ x, x = c.tearXR keep := ⟨_, rfl⟩
  have hxx : (x == x) = true := by simp
  rw [← hx] at hcw
  go_region_law (first
    | (go_simp; go_at_call 13; refine hcw.mono ?_; rintro e w1 ⟨S1, rfl, hc1, hw1, hS1⟩; have hb1 := bd.blk.chg hw1 bd.fs; obtain ⟨hr1, hd1⟩ := bd.pair.left hc1 hw1 hS1; have sr1 : Src w1 1 A len (keep.map .bool) := (by rcases Nat.eq_zero_or_pos len with h0 | h0; exact ⟨bd.src.1, by omega⟩; exact bd.src.chg hw1 (fun ad ha hs => bd.af h0 ad ha (by simp [hs]))); have hrw := rtear (m := cap) hr1 g hk sr1 (by omega) (fun h0 ad ha hs => bd.af h0 ad ha (by simp [hs])); rw [← hx] at hrw; have e3 : w1.cell? ⟨B, 3, none⟩ = some (.slice A len cap) := hb1.cell 3)
    | (go_simp; go_at_call 35; refine hrw.mono ?_; rintro e w2 ⟨T1, rfl, hr2, hw2, hT2⟩))
  all_goals
    go_wp2_with fail
    go_ret
    exact do_fin bd.chg (pair_done hc1 hw1 hS1 hd1 hr2 hw2 hT2)
set_option maxHeartbeats 4000000 in
theorem do4 (h : Pair w p q c S T) (n : Int) (s : ByteArray) (A : Option Addr) (len cap : Nat) (keep : List Bool) (osrc : Src w 1 A len (keep.map .bool)) (hA : 0 < len → ∀ ad, A = some ad → ad.block ∉ S ++ T) :
    Calls Try.prog 21 #[.pointer (some ⟨p, 0, none⟩), .pointer (some ⟨q, 0, none⟩), .agg #[.int .i64 4, .int .i64 n, .string s, .slice A len cap]] w (DoPost w p q { c with torn := false } S T) := by
  have b := Boxy.of (kind := 4) (n := n) (s := s) (cap := cap) h osrc hA
  go_enter Try.func21, Try.ntmps21
  go_wp2_with fail
  generalize w.alloc (.cells #[.int .i64 4, .int .i64 n, .string s, .slice A len cap] 30) = W at b ⊢
  generalize w.heap.size = B at b ⊢
  obtain ⟨pr, lo, ke, F, G, H, hc, hS⟩ := b.pair.cl
  refine (mend_at hc).mono ?_
  rintro e w1 ⟨rfl, hc1, hw1⟩
  have hp1 : p ∈ S := by rw [hS]; simp
  have hc1' : Cl w1 p { c with torn := false } S := ⟨pr, lo, ke, F, G, H, hc1, hS⟩
  have hw1' : Chg S W w1 := hw1.mono (by simpa using hp1)
  obtain ⟨hr1, hd1⟩ := b.pair.left hc1' hw1' (fun g hg => .inl hg)
  obtain ⟨now, last, lo, ke, n', kl, Fn, Fl, G', H', hr, hT⟩ := hr1
  have d3 : w1.cell? ⟨q, 3, none⟩ = some (.bool c.torn) := hr.blk.cell 3
  have f3 := hr.blk.frozen 3
  go_wp2_with fail
  go_ret
  have hz : Chg [q] w1 (w1.setCell ⟨q, 3, none⟩ (.bool false)) := (Chg.refl _ _).setCell (by simp) _
  have hr2 : Ref (w1.setCell ⟨q, 3, none⟩ (.bool false)) q { c with torn := false } T :=
    ⟨now, last, lo, ke, n', kl, Fn, Fl, G', H', ⟨hr.blk.set_ 3 _, hr.hn.chg hz (hr.hn.not_mem hr.blk (by decide)), hr.hl.chg hz (hr.hl.not_mem hr.blk (by decide)), hr.hlo.chg hz (hr.hlo.not_mem hr.blk (by decide)), hr.hke.chg hz (hr.hke.not_mem hr.blk (by decide)), hr.dis, hr.arm⟩, hT⟩
  exact do_fin b.chg (pair_done hc1' hw1' (fun g hg => .inl hg) hd1 hr2 (hz.mono (by rw [hT]; simp)) (fun g hg => .inl hg))
set_option maxHeartbeats 4000000 in
theorem do6 (h : Pair w p q c S T) (kind n : Int) (s : ByteArray) (A : Option Addr) (len cap : Nat) (keep : List Bool) (osrc : Src w 1 A len (keep.map .bool)) (hA : 0 < len → ∀ ad, A = some ad → ad.block ∉ S ++ T) (h1 : kind ≠ 1) (h2 : kind ≠ 2) (h3 : kind ≠ 3) (h4 : kind ≠ 4) (h5 : kind ≠ 5) :
    Calls Try.prog 21 #[.pointer (some ⟨p, 0, none⟩), .pointer (some ⟨q, 0, none⟩), .agg #[.int .i64 kind, .int .i64 n, .string s, .slice A len cap]] w (DoPost w p q c S T) := by
  have b := Boxy.of (kind := kind) (n := n) (s := s) (cap := cap) h osrc hA
  have e1 : (kind == 1) = false := by simpa using h1
  have e2 : (kind == 2) = false := by simpa using h2
  have e3 : (kind == 3) = false := by simpa using h3
  have e4 : (kind == 4) = false := by simpa using h4
  have e5 : (kind == 5) = false := by simpa using h5
  clear h1 h2 h3 h4 h5
  go_enter Try.func21, Try.ntmps21
  go_wp2_with fail
  go_ret
  exact ⟨rfl, S, T, b.pair, b.chg.mono (by simp), fun g hg => .inl hg⟩
end
end Go.Proofs.Ytjbjiomajldkoaa
