/- The cloth's read: the threads are looked through from behind. -/
import Derived.Test.YtjbjiomajldkoaaClothF
import Derived.RangeFuncNested
import Derived.RangeFuncLeaves
import Derived.RangeFuncCalls
import Derived.Shelf.Abstract
import Derived.OwnWalkIn
import Derived.TacticsInMore
import Derived.LoopNIn
import Derived.LoopIn
namespace Go.Proofs.Ytjbjiomajldkoaa
open Go.RowKit Go.Vx Go.Shelf
set_option linter.unusedVariables false
set_option linter.unusedSimpArgs false
attribute [local go_sem] Oper.semAt_some

/-- What comes, in its order: the last one first, each with its place. -/
def back (l : List (Int × ByteArray)) : List (Nat × (Int × ByteArray)) := (l.zipIdx.map fun x => (x.2, x.1)).reverse
def encBack (x : Nat × (Int × ByteArray)) : Array Value := #[.int .i64 x.1, .agg #[.int .i64 x.2.1, .string x.2.2]]
theorem back_length (l : List (Int × ByteArray)) : (back l).length = l.length := by simp [back]
theorem back_at (l : List (Int × ByteArray)) (k : Nat) (h : k < l.length) : (back l)[k]? = some (l.length - 1 - k, l[l.length - 1 - k]) := by
  simp [back, List.getElem?_reverse, h]
theorem back_take (l : List (Int × ByteArray)) (k : Nat) (h : k < l.length) : (back l).take (k + 1) = (back l).take k ++ [(l.length - 1 - k, l[l.length - 1 - k])] := by
  have := back_at l k h
  rw [List.take_add_one, this]
  rfl

set_option maxRecDepth 100000 in
set_option maxHeartbeats 2000000 in
theorem back1_in (F : Fence) (n : Nat) (h7 : F.fn 38) (hro : F.round = none) (hn : 1 ≤ n) (l Bs n₀ : Nat) (A : Option Addr) (cap : Nat) (zs : List (Int × ByteArray)) (hz : zs.length ≤ 1000000) (G : List Nat) (hG : ∀ g, g ∈ G → g < n₀) (hBn : Bs < n₀)
    (J Jx : List (Nat × (Int × ByteArray)) → World → Prop)
    (hY : ∀ pre x W, J pre W → pre.length < zs.length → YieldAt F (n - 1) Try.prog l (encBack x) W fun e W' =>
      (e = .returned (.bool true) ∧ J (pre ++ [x]) W' ∧ Below n₀ W W') ∨ (e = .returned (.bool false) ∧ Jx (pre ++ [x]) W'))
    (W : World) (hBs : W.cell? ⟨Bs, 0, none⟩ = some (.slice A zs.length cap)) (hc : Fix W 57 2 (.slice A zs.length cap) zs.length (threadCells zs) G) (h0 : J [] W) :
    CallsIn F n Try.prog 38 #[.func (.yield l) #[] #[], .pointer (some ⟨Bs, 0, none⟩)] W fun e W' => (∃ v, e = .returned v) ∧
      ((∃ ys, ys = back zs ∧ J ys W') ∨ (∃ pre, pre <+: back zs ∧ Jx pre W')) := by
  refine callsIn_of_wp Try.func38 rfl h7 ?_ hro
  simp only [Try.ntmps38, List.size_toArray, List.length_cons, List.length_nil, Nat.reduceAdd, Nat.reduceSub, Array.replicate_succ, Array.replicate_zero, List.push_toArray, List.append_toArray, List.nil_append, List.cons_append]
  gi_wp2
  gi_loopw [3] (fun i wr => ∃ k : Nat, k ≤ zs.length ∧ i = .int .i64 ((zs.length : Int) - 1 - k) ∧ J ((back zs).take k) wr ∧ Below n₀ W wr)
    (fun i _ => (intOf i + 1).toNat)
  case atStart => exact ⟨0, Nat.zero_le _, by simp, by simpa using h0, Below.refl _ _⟩
  case round =>
    obtain ⟨k, hk, rfl, hJs, hnx⟩ := hrel
    by_cases hlt : k < zs.length
    · have hBs1 : wr.cell? ⟨Bs, 0, none⟩ = some (.slice A zs.length cap) := (hnx.cell (p := ⟨Bs, 0, none⟩) hBn).trans hBs
      obtain ⟨m, hm⟩ : ∃ m : Nat, (zs.length : Int) - 1 - k = (m : Int) := ⟨zs.length - 1 - k, by omega⟩
      have hmk : zs.length - 1 - k = m := by omega
      have hml : m < zs.length := by omega
      obtain ⟨g, rfl, rfl, hel⟩ := (hc.below hnx hG).el hml
      have d0 := (hel 0 (by omega)).1
      have d1 := (hel 1 (by omega)).1
      rw [(threadCells_at _ m hml).1] at d0
      rw [(threadCells_at _ m hml).2] at d1
      rw [Nat.add_zero] at d0
      clear hel
      obtain ⟨fn, tmps, assign, body, hy, hR⟩ := hY _ (m, zs[m]) wr hJs (by rw [List.length_take, back_length]; omega)
      have HT : Hid ((back zs).take k ++ [(m, zs[m])] = (back zs).take (k + 1)) := by
        have := back_take zs k hlt
        simp only [hmk] at this
        exact this.symm
      have Hm := Lib.hid hm
      rw [hm]
      clear hm hmk
      simp only [encBack] at hy
      gi_wp2
      refine hR.mono ?_
      rintro e W3 (⟨rfl, hJ3, hk3⟩ | ⟨rfl, hJx3⟩)
      · gi_wp2
        go_roundw
        case rel => exact ⟨k + 1, by omega, by rw [Value.int.injEq]; exact ⟨rfl, by have := Hm.out; omega⟩, by rw [← HT.out]; exact hJ3, hnx.trans hk3⟩
        case measure => simp [intOf]
      · gi_wp2
        refine bodyPost_ret (results_none rfl _ _ _) rfl ?_
        exact ⟨⟨_, rfl⟩, .inr ⟨_, by rw [HT.out]; exact List.take_prefix _ _, hJx3⟩⟩
    · obtain rfl : k = zs.length := by omega
      gi_wp2
      go_end0
      refine ⟨⟨_, rfl⟩, .inl ⟨_, rfl, ?_⟩⟩
      rw [← back_length zs, List.take_length] at hJs
      exact hJs

theorem backSeq_in (F : Fence) (n : Nat) (h5 : F.fn 28) (hro : F.round = none) (a : Option Addr) (len cap : Nat) (w : World) :
    CallsIn F n Try.prog 28 #[.slice a len cap] w fun e w' => e = .returned (.func (.func 38) #[] #[.pointer (some ⟨w.heap.size, 0, none⟩)]) ∧ w' = w.alloc (.cells #[.slice a len cap] 51) := by
  refine callsIn_of_wp Try.func28 rfl h5 ?_ hro
  simp only [Try.ntmps28, List.size_toArray, List.length_cons, List.length_nil, Nat.reduceAdd, Nat.reduceSub, Array.replicate_succ, Array.replicate_zero, List.push_toArray, List.append_toArray, List.nil_append, List.cons_append]
  gi_wp2
  go_ret
  exact ⟨rfl, rfl⟩
theorem back_stops (F : Fence) (n : Nat) (h7 : F.fn 38) (hro : F.round = none) (hn : 1 ≤ n) (Bs n₀ : Nat) (A : Option Addr) (cap : Nat) (zs : List (Int × ByteArray)) (hz : zs.length ≤ 1000000) (G : List Nat) (w : World) (hBs : Bs < n₀) (hn₀ : n₀ ≤ w.heap.size)
    (hG : ∀ g, g ∈ G → g < n₀) (hb : w.cell? ⟨Bs, 0, none⟩ = some (.slice A zs.length cap)) (hc : Fix w 57 2 (.slice A zs.length cap) zs.length (threadCells zs) G) :
    SeqStopsK F n Try.prog 38 #[.pointer (some ⟨Bs, 0, none⟩)] encBack (Below n₀) (fun ys => ys = back zs) (fun pre => pre <+: back zs) zs.length w := fun l J Jx W hW _ _ hY h0 =>
  back1_in F n h7 hro hn l Bs n₀ A cap zs hz G hG hBs J Jx hY W (((hW.mono hn₀).cell (p := ⟨Bs, 0, none⟩) hBs).trans hb) (hc.below (hW.mono hn₀) hG) h0

/-- What a row reads as. -/
def ClothS.text (c : ClothS) (row : Nat) : ByteArray := match (c.loose.reverse.find? fun t => t.1 == (row : Int)) with | some t => t.2 | none => c.pressed.getD row ⟨#[]⟩

section
variable {w w' : World} {p : Nat} {pr lo ke : Value} {c : ClothS} {F G H : List Nat}
theorem read_may (h : ClothAt w p pr lo ke c F G H) (row : Int) (hm : c.may row ≠ 0) :
    Calls Try.prog 15 #[.pointer (some ⟨p, 0, none⟩), .int .i64 row] w fun e w' => e = .returned (.tuple #[.string ⟨#[]⟩, .int .i64 (c.may row)]) ∧ Chg [] w w' := by
  have hb : (c.may row != 0) = true := by simpa using hm
  have h2 := ((h.alloc (.cells #[.int .i64 row] 3)).alloc (.cells #[.string ⟨#[]⟩] 9)).alloc (.cells #[.int .i64 0] 31)
  refine (callsIn_wide (n := 8)).1 ?_
  refine callsIn_of_wp_marks Try.func15 rfl trivial ?_ rfl
  simp only [Try.ntmps15, List.size_toArray, List.length_cons, List.length_nil, Nat.reduceAdd, Nat.reduceSub, Array.replicate_succ, Array.replicate_zero, List.push_toArray, List.append_toArray, List.nil_append, List.cons_append]
  gi_wp2_with (refine ⟨trivial, ?_⟩; gi_at_call 23; refine (callsIn_wide.2 (may_at h2 row)).mono ?_; rintro e w' ⟨rfl, rfl⟩)
  exact ⟨.tuple #[.string ⟨#[]⟩, .int .i64 (c.may row)], by simp [results, Try.f15, go_sem], rfl, (((Chg.refl _ _).alloc _).alloc _).alloc _⟩

def ReadPost (w : World) (s : ByteArray) (e : Ending) (w' : World) : Prop := e = .returned (.tuple #[.string s, .int .i64 0]) ∧ Chg [] w w'
theorem text_hit {c : ClothS} {row : Nat} {pre : List (Nat × (Int × ByteArray))} {x : Nat × (Int × ByteArray)} (hp : pre ++ [x] <+: back c.loose) (hn : ∀ y, y ∈ pre → y.2.1 ≠ (row : Int)) (hx : x.2.1 = (row : Int)) : c.text row = x.2.2 := by
  obtain ⟨t, ht⟩ := hp
  have e : c.loose.reverse = (back c.loose).map (·.2) := by simp [back, List.map_reverse, Function.comp_def, List.zipIdx_map_fst]
  unfold ClothS.text
  rw [e, ← ht]
  have : ((pre ++ [x] ++ t).map (·.2)).find? (fun t => t.1 == (row : Int)) = some x.2 := by
    simp only [List.map_append, List.map_cons, List.map_nil, List.append_assoc, List.find?_append]
    rw [List.find?_eq_none.2 (by intro y hy; obtain ⟨z, hz, rfl⟩ := List.mem_map.1 hy; simpa using hn z hz)]
    simp [hx]
  rw [this]
theorem text_miss {c : ClothS} {row : Nat} (hn : ∀ y, y ∈ back c.loose → y.2.1 ≠ (row : Int)) : c.text row = c.pressed.getD row ⟨#[]⟩ := by
  have e : c.loose.reverse = (back c.loose).map (·.2) := by simp [back, List.map_reverse, Function.comp_def, List.zipIdx_map_fst]
  unfold ClothS.text
  rw [e, List.find?_eq_none.2 (by intro y hy; obtain ⟨z, hz, rfl⟩ := List.mem_map.1 hy; simpa using hn z hz)]

set_option maxRecDepth 100000 in
set_option maxHeartbeats 4000000 in
theorem read_at (h : ClothAt w p pr lo ke c F G H) (row : Nat) (hm : c.may row = 0) (hl : c.loose.length ≤ 1000000) :
    Calls Try.prog 15 #[.pointer (some ⟨p, 0, none⟩), .int .i64 row] w (ReadPost w (c.text row)) := by
  obtain ⟨ht, hr0, hr1⟩ := may_zero hm
  have hb : (c.may row != 0) = false := by simpa using hm
  have h3 := ((h.alloc (.cells #[.int .i64 row] 3)).alloc (.cells #[.string ⟨#[]⟩] 9)).alloc (.cells #[.int .i64 0] 31)
  have b3 := ((Boxed.new w 3 (.int .i64 row)).alloc (.cells #[.string ⟨#[]⟩] 9)).alloc (.cells #[.int .i64 0] 31)
  have b4 := (Boxed.new (w.alloc (.cells #[.int .i64 row] 3)) 9 (.string ⟨#[]⟩)).alloc (.cells #[.int .i64 0] 31)
  have b5 := Boxed.new ((w.alloc (.cells #[.int .i64 row] 3)).alloc (.cells #[.string ⟨#[]⟩] 9)) 31 (.int .i64 0)
  simp only [World.size_alloc] at b4 b5
  obtain ⟨L, lc, rfl, -⟩ := id h3.hlo
  have c1 := h3.blk.cell 1
  simp at c1
  refine (callsIn_wide (n := 8)).1 ?_
  refine callsIn_of_wp_marks Try.func15 rfl trivial ?_ rfl
  simp only [Try.ntmps15, List.size_toArray, List.length_cons, List.length_nil, Nat.reduceAdd, Nat.reduceSub, Array.replicate_succ, Array.replicate_zero, List.push_toArray, List.append_toArray, List.nil_append, List.cons_append]
  gi_wp2_with (refine ⟨trivial, ?_⟩; first | (gi_at_call 23; refine (callsIn_wide.2 (may_at h3 row)).mono ?_; rintro e w' ⟨rfl, rfl⟩) | (gi_at_call 28; refine (backSeq_in _ _ trivial rfl _ _ _ _).mono ?_; rintro e w' ⟨rfl, rfl⟩))
  have bS := Boxed.new (((w.alloc (.cells #[.int .i64 row] 3)).alloc (.cells #[.string ⟨#[]⟩] 9)).alloc (.cells #[.int .i64 0] 31)) 51 (.slice L c.loose.length lc)
  simp only [World.size_alloc] at bS
  have h4 := h3.alloc (.cells #[.slice L c.loose.length lc] 51)
  replace b3 := b3.alloc (.cells #[.slice L c.loose.length lc] 51)
  replace b4 := b4.alloc (.cells #[.slice L c.loose.length lc] 51)
  replace b5 := b5.alloc (.cells #[.slice L c.loose.length lc] 51)
  have hch : Chg [] w ((((w.alloc (.cells #[.int .i64 row] 3)).alloc (.cells #[.string ⟨#[]⟩] 9)).alloc (.cells #[.int .i64 0] 31)).alloc (.cells #[.slice L c.loose.length lc] 51)) := ((((Chg.refl _ _).alloc _).alloc _).alloc _).alloc _
  have hsz : ((((w.alloc (.cells #[.int .i64 row] 3)).alloc (.cells #[.string ⟨#[]⟩] 9)).alloc (.cells #[.int .i64 0] 31)).alloc (.cells #[.slice L c.loose.length lc] 51)).heap.size = w.heap.size + 4 := by simp
  clear c1 h3
  generalize ((((w.alloc (.cells #[.int .i64 row] 3)).alloc (.cells #[.string ⟨#[]⟩] 9)).alloc (.cells #[.int .i64 0] 31)).alloc (.cells #[.slice L c.loose.length lc] 51)) = W0 at b3 b4 b5 bS h4 hch hsz ⊢
  refine wpIn_rangeFunc_ownH (F := Fence.wide) (n := 8) rfl (by omega) (gf := 38) (lb := #[.pointer (some ⟨w.heap.size + 1 + 1 + 1, 0, none⟩)]) rfl trivial (enters_of Try.func38 (by kernel_rfl) rfl)
    (back_stops Fence.wide 7 trivial rfl (by omega) (w.heap.size + 1 + 1 + 1) W0.heap.size L lc c.loose hl G W0 (by omega) (Nat.le_refl _) h4.hlo.lt bS.cell h4.hlo) belowK_t (belowK_b (by omega)) (Below.refl _ _) (fun _ => rfl)
    (fun pre W => (∀ y, y ∈ pre → y.2.1 ≠ (row : Int)) ∧ Below W0.heap.size W0 W)
    (fun c' pre W => (((c' = .ret ∧ ∃ q x, pre = q ++ [x] ∧ (∀ y, y ∈ q → y.2.1 ≠ (row : Int)) ∧ x.2.1 = (row : Int) ∧ True) ∧ (∃ x, pre.getLast? = some x ∧ Boxed W (w.heap.size + 1) 9 (.string x.2.2))) ∧ Boxed W (w.heap.size + 1 + 1) 31 (.int .i64 0)) ∧ Below w.heap.size w W)
    (OwnFrom.and (ownFrom_pure _ _) (ownFrom_below (Nat.le_refl _) (Nat.le_refl _)))
    (fun c' => OwnFrom.and (OwnFrom.and (OwnFrom.and (ownFrom_pure _ _) (fun pre X Y rw hs hg hr => by obtain ⟨x, e1, e2⟩ := hs; exact ⟨x, e1, Own.from (boxed_own (w.heap.size + 1) 9 (fun (_ : Unit) => Value.string x.2.2)) _ () X Y rw e2 hg hr⟩)) (Own.from (boxed_own _ _ _) _)) (ownFrom_below (by omega) (by omega)))
    ⟨by simp, Below.refl _ _⟩
    (fun x a' W => ∃ Bx, Blk W Bx 57 #[.int .i64 x.2.1, .string x.2.2] ∧ a' = { tmps := #[.pointer (some ⟨p, 0, none⟩), .int .i64 row, undef, .pointer (some ⟨w.heap.size, 0, none⟩), .pointer (some ⟨w.heap.size + 1, 0, none⟩), .pointer (some ⟨w.heap.size + 1 + 1, 0, none⟩), .int .i64 0, undef, .pointer (some ⟨Bx, 0, none⟩), .pointer (some ⟨p, 0, none⟩), .int .i64 row, .int .i64 0, .int .i64 0, .bool false, undef, .pointer (some ⟨p, 0, none⟩), .pointer (some ⟨p, 0, none⟩), .pointer (some ⟨p, 1, none⟩), .slice L c.loose.length lc, .func (.func 38) #[] #[.pointer (some ⟨w.heap.size + 1 + 1 + 1, 0, none⟩)], .int .i64 x.1, .agg #[.int .i64 x.2.1, .string x.2.2], undef, undef, undef, undef, undef, undef, undef, undef, undef, undef, undef, undef, undef], defers := [] })
    (fun x a' _ X Y rw hs hg hr => by obtain ⟨Bx, e2, e3⟩ := hs; exact ⟨Bx, e2.grown hg (fun e => by obtain ⟨_, o, ho, hc⟩ := hr Bx e.symm; rw [show X.heap[Bx]? = _ from e2] at ho; cases ho; cases hc), e3⟩)
    ?assign ?body ?done ?stop
  case assign =>
    rintro l pre x W K ⟨hp, hB1⟩ hK
    simp only [encBack]
    gi_wp2
    exact hK _ _ ((KeepsOthers.alloc _ _).from _) ((Below.refl _ W).alloc hB1.size _) ⟨hp, hB1.alloc hB1.size _⟩ ⟨W.heap.size, Blk.new W _ _, rfl⟩
  case body =>
    rintro l pre x a' W hl ⟨r, hr⟩ ⟨hp, hB1⟩ ⟨Bx, bX, rfl⟩ hlt
    have b3W : Boxed W w.heap.size 3 (.int .i64 row) := (hB1.block _ b3.lt).trans b3
    have b4W : Boxed W (w.heap.size + 1) 9 (.string ⟨#[]⟩) := (hB1.block _ b4.lt).trans b4
    have b5W : Boxed W (w.heap.size + 1 + 1) 31 (.int .i64 0) := (hB1.block _ b5.lt).trans b5
    have c3 := b3W.cell
    have c4 := b4W.cell
    have f4 := b4W.frozen
    have c5 := b5W.cell
    have f5 := b5W.frozen
    have x0 : W.cell? ⟨Bx, 0, none⟩ = some (.int .i64 x.2.1) := bX.cell 0
    have x1 : W.cell? ⟨Bx, 1, none⟩ = some (.string x.2.2) := bX.cell 1
    by_cases hxr : x.2.1 = (row : Int)
    · have hx : (x.2.1 == (row : Int)) = true := by simpa using hxr
      gi_wp2
      refine ⟨((KeepsOthers.setCell _ _ _).trans (KeepsOthers.setCell _ _ _)).from _, ⟨⟨⟨rfl, pre, x, rfl, hp, hxr, trivial⟩, x, by simp, ?_⟩, ?_⟩, ?_⟩
      · exact (b4W.set _).other (by omega) _
      · exact (b5W.other (by omega) _).set _
      · exact ((hch.below.trans (hB1.mono (by omega))).setCell (p := ⟨w.heap.size + 1, 0, none⟩) (by simp) _).setCell (p := ⟨w.heap.size + 1 + 1, 0, none⟩) (by simp; omega) _
    · have hx : (x.2.1 == (row : Int)) = false := by simpa using hxr
      gi_wp2
      refine ⟨KeepsFrom.refl _ _, Below.refl _ _, ?_, hB1⟩
      intro y hy
      rcases List.mem_append.1 hy with hy | hy
      · exact hp y hy
      · simp at hy; subst hy; exact hxr
  case done =>
    rintro D ys W hD rfl ⟨hp, hB1⟩ hK
    have b3W : Boxed W w.heap.size 3 (.int .i64 row) := (hB1.block _ b3.lt).trans b3
    have b4W : Boxed W (w.heap.size + 1) 9 (.string ⟨#[]⟩) := (hB1.block _ b4.lt).trans b4
    have b5W : Boxed W (w.heap.size + 1 + 1) 31 (.int .i64 0) := (hB1.block _ b5.lt).trans b5
    have hW : ClothAt W p pr (.slice L c.loose.length lc) ke c F G H := h4.chg (S := []) (.of_below hB1) (by simp)
    obtain ⟨A, pm, hv, -, hm1, hm2, -⟩ := id hW.hpr
    obtain ⟨pa, pn, pm', hv'⟩ := hW.prn
    rw [hv] at hv'
    injection hv' with hA e1 e2
    subst hA e1 e2 hv
    unfold maxLen at hm2
    have hri : row < c.pressed.length := by omega
    obtain ⟨gp, hpa, -, hep⟩ := hW.hpr.el hri
    injection hpa with hpa
    subst hpa
    obtain ⟨dp, -⟩ := hep 0 (by omega)
    rw [List.getElem?_map, List.getElem?_eq_getElem (by omega)] at dp
    simp only [Nat.mul_one, Nat.add_zero, Option.map_some] at dp
    clear hep
    have c0 := hW.blk.cell 0
    simp at c0
    have c3 := b3W.cell
    have c4 := b4W.cell
    have f4 := b4W.frozen
    have c5 := b5W.cell
    have f5 := b5W.frozen
    gi_wp2
    refine wpIn_wide.2 ?_
    go_still_tail 7, (by kernel_rfl)
    change wpList _ _ _ _ _ W.drew
    go_wp2
    gi_wp2
    have hK' : (((W.setCell ⟨w.heap.size + 1, 0, none⟩ (.string c.pressed[row])).setCell ⟨w.heap.size + 1 + 1, 0, none⟩ (.int .i64 0)).drew).heap[D]? = some (.deferred (some [])) := ((KeepsOthers.setCell _ _ _).trans (KeepsOthers.setCell _ _ _)).same D _ hK rfl
    refine ⟨by simp, .inl ⟨_, _, rfl, run_takeDeferred hK', ?_⟩⟩
    have bR : Boxed ((W.setCell ⟨w.heap.size + 1, 0, none⟩ (.string c.pressed[row])).setCell ⟨w.heap.size + 1 + 1, 0, none⟩ (.int .i64 0)).drew (w.heap.size + 1) 9 (.string c.pressed[row]) := (b4W.set _).other (by omega) _
    have bE : Boxed ((W.setCell ⟨w.heap.size + 1, 0, none⟩ (.string c.pressed[row])).setCell ⟨w.heap.size + 1 + 1, 0, none⟩ (.int .i64 0)).drew (w.heap.size + 1 + 1) 31 (.int .i64 0) := (b5W.other (by omega) _).set _
    have hc4 := cell_kept bR.cell (grownBy_putObj' _ D (.deferred none)) (fun r e => by cases e; exact ⟨_, hK', rfl⟩)
    have hc5 := cell_kept bE.cell (grownBy_putObj' _ D (.deferred none)) (fun r e => by cases e; exact ⟨_, hK', rfl⟩)
    have hBW : Below w.heap.size w ((W.setCell ⟨w.heap.size + 1, 0, none⟩ (.string c.pressed[row])).setCell ⟨w.heap.size + 1 + 1, 0, none⟩ (.int .i64 0)).drew :=
      (((hch.below.trans (hB1.mono (by omega))).setCell (p := ⟨w.heap.size + 1, 0, none⟩) (by simp) _).setCell (p := ⟨w.heap.size + 1 + 1, 0, none⟩) (by simp; omega) _).drew
    refine ⟨.tuple #[.string c.pressed[row], .int .i64 0], ?_, ?_, .of_below (hBW.trans (belowK_b (w := w) (Nat.le_refl _) _ D _ _ (by omega) hK' rfl rfl))⟩
    · simp [results, Try.f15, go_sem, hc4, hc5]
    · rw [text_miss hp]
      simp [List.getD_eq_getElem?_getD, hri]
  case stop =>
    rintro D c' pre W hD hpre ⟨⟨⟨⟨rfl, q, x, rfl, hq, hx, -⟩, y, hy, bR⟩, bE⟩, hBW⟩ hK
    obtain rfl : x = y := by simpa using hy
    gi_wp2
    refine ⟨by simp, .inl ⟨_, _, rfl, run_takeDeferred hK, ?_⟩⟩
    have hc4 := cell_kept bR.cell (grownBy_putObj' _ D (.deferred none)) (fun r e => by cases e; exact ⟨_, hK, rfl⟩)
    have hc5 := cell_kept bE.cell (grownBy_putObj' _ D (.deferred none)) (fun r e => by cases e; exact ⟨_, hK, rfl⟩)
    refine ⟨.tuple #[.string x.2.2, .int .i64 0], ?_, by rw [text_hit hpre hq hx], .of_below (hBW.trans (belowK_b (w := w) (Nat.le_refl _) W D _ _ (by omega) hK rfl rfl))⟩
    simp [results, Try.f15, go_sem, hc4, hc5]
end
end Go.Proofs.Ytjbjiomajldkoaa
