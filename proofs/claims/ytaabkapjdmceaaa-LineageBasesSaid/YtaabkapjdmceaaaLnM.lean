/- Lineage: what the laws use, in plain words. -/
import Derived.Test.YtaabkapjdmceaaaLnH
import Derived.Test.YtaabkapjdmceaaaLnL
import Derived.Deep.QuietTactic
namespace Go.Proofs.Ytaabkapjdmceaaa
open Go.RowKit Go.Vx Go.Maps Go.Sort
set_option linter.unusedVariables false
set_option linter.unusedSimpArgs false

theorem Fix.lit1 (w : World) (t : TypeId) (u : Value) : Fix (w.alloc (.cells #[u] t)) t 1 (.slice (some ⟨w.heap.size, 0, none⟩) 1 1) 1 [u] [w.heap.size] :=
  ⟨_, 1, rfl, rfl, Nat.le_refl _, by decide, .inr ⟨_, _, rfl, rfl, Blk.new _ _ _, rfl, rfl⟩⟩
theorem Fix.lit2 (w : World) (t : TypeId) (u v : Value) : Fix (w.alloc (.cells #[u, v] t)) t 1 (.slice (some ⟨w.heap.size, 0, none⟩) 2 2) 2 [u, v] [w.heap.size] :=
  ⟨_, 2, rfl, rfl, Nat.le_refl _, by decide, .inr ⟨_, _, rfl, rfl, Blk.new _ _ _, rfl, rfl⟩⟩
/-- A lineage of versions C, made behind w0. -/
structure LnNew (w0 w : World) (lp : Nat) (C : Lin0) : Prop where
  ex : ∃ Q R, LinAt w lp Q R ∧ comsOf Q = C ∧ ∀ g ∈ R, w0.heap.size ≤ g
  new : w0.heap.size ≤ lp
  chg : Chg [] w0 w
def addC (C : Lin0) (root : Int) (author : ByteArray) (l : List Nat) : Lin0 := C ++ [⟨maxGen C l + 1, l, root, author⟩]
section
variable {w0 w w' : World} {lp : Nat} {C : Lin0}
theorem LnNew.keep (h : LnNew w0 w lp C) (k : Chg [] w w') : LnNew w0 w' lp C := by
  obtain ⟨Q, R, h1, h2, h3⟩ := h.ex
  exact ⟨⟨Q, R, h1.keep k, h2, h3⟩, h.new, h.chg.trans' k⟩
theorem LnNew.wf (h : LnNew w0 w lp C) : WfL C := by
  obtain ⟨Q, R, h1, rfl, h3⟩ := h.ex
  exact h1.wf
theorem LnNew.start (w : World) (h : Chg [] w0 w) : LnNew w0 (w.alloc (.cells #[.slice none 0 0] 26)) w.heap.size [] :=
  ⟨⟨[], [], LinAt.new w, rfl, by simp⟩, h.size, h.alloc _⟩
theorem LnNew.add (h : LnNew w0 w lp C) {A : Option Addr} {n c : Nat} {l F0 : List Nat} (hs : Fix w 3 1 (.slice A n c) n (natVals l) F0) (root : Int) (author : ByteArray) (hC : C.length < 400) (hr : 0 ≤ root) (ha1 : 1 ≤ author.size) (ha2 : author.size ≤ 12)
    (hn : n ≤ 2) (hnd : l.Nodup) (hth : ∀ p ∈ l, isThere C p = true) :
    Calls Try.prog 8 #[.pointer (some ⟨lp, 0, none⟩), .int .i64 root, .string author, .slice A n c] w fun e w' => e = .returned (.tuple #[.int .i64 ((C.length + 1 : Nat) : Int), .int .i64 0]) ∧ LnNew w0 w' lp (addC C root author l) := by
  obtain ⟨Q, R, h1, rfl, h3⟩ := h.ex
  have hQ : Q.length < 400 := by rwa [List.length_map] at hC
  refine (ln_add h1 (by omega) hs root author hr ha1 ha2 hn hnd hth).mono ?_
  rintro e w' ⟨-, h⟩
  obtain ⟨rfl, v, F1, F2, hl, hc, hF⟩ := h hQ
  refine ⟨by rw [List.length_map], ⟨_, _, hl, by unfold comsOf addC; rw [List.map_append]; rfl, fun g hg => ?_⟩, ‹LnNew w0 w lp _›.new, ‹LnNew w0 w lp _›.chg.trans hc fun g hg => ?_⟩
  · rcases List.mem_append.1 hg with hg | hg
    · exact h3 g hg
    · rcases hF g hg with e | e
      · exact h3 g e
      · have := ‹LnNew w0 w lp _›.chg.size
        omega
  · rcases List.mem_cons.1 hg with rfl | hg
    · exact .inr ‹LnNew w0 w _ _›.new
    · exact .inr (h3 g hg)
theorem LnNew.addTo (h : LnNew w0 w lp C) {A : Option Addr} {n c : Nat} {l F0 : List Nat} (hs : Fix w 3 1 (.slice A n c) n (natVals l) F0) (root : Int) (author : ByteArray) (hC : C.length < 400) (hr : 0 ≤ root) (ha1 : 1 ≤ author.size) (ha2 : author.size ≤ 12)
    (hn : n ≤ 2) (hnd : l.Nodup) (hth : ∀ p ∈ l, isThere C p = true) {k : Int} {C' : Lin0} (hk : ((C.length + 1 : Nat) : Int) = k) (hC' : addC C root author l = C') :
    Calls Try.prog 8 #[.pointer (some ⟨lp, 0, none⟩), .int .i64 root, .string author, .slice A n c] w fun e w' => e = .returned (.tuple #[.int .i64 k, .int .i64 0]) ∧ LnNew w0 w' lp C' := by
  subst hk hC'
  exact h.add hs root author hC hr ha1 ha2 hn hnd hth
theorem LnNew.addFull (h : LnNew w0 w lp C) {A : Option Addr} {n c : Nat} {l F0 : List Nat} (hs : Fix w 3 1 (.slice A n c) n (natVals l) F0) (root : Int) (author : ByteArray) (hC : C.length = 400) (hr : 0 ≤ root) (ha1 : 1 ≤ author.size) (ha2 : author.size ≤ 12)
    (hn : n ≤ 2) (hnd : l.Nodup) (hth : ∀ p ∈ l, isThere C p = true) :
    Calls Try.prog 8 #[.pointer (some ⟨lp, 0, none⟩), .int .i64 root, .string author, .slice A n c] w fun e w' => e = .returned (.tuple #[.int .i64 0, .int .i64 13]) ∧ LnNew w0 w' lp C := by
  obtain ⟨Q, R, h1, rfl, h3⟩ := h.ex
  have hQ : Q.length = 400 := by rwa [List.length_map] at hC
  refine (ln_add h1 (by omega) hs root author hr ha1 ha2 hn hnd hth).mono ?_
  rintro e w' ⟨k, -⟩
  obtain ⟨rfl, hc⟩ := k hQ
  exact ⟨rfl, h.keep hc⟩
theorem LnNew.len (h : LnNew w0 w lp C) : Calls Try.prog 9 #[.pointer (some ⟨lp, 0, none⟩)] w fun e w' => e = .returned (.int .i64 C.length) ∧ w = w' := by
  obtain ⟨Q, R, h1, rfl, h3⟩ := h.ex
  rw [List.length_map]
  exact ln_len h1
theorem LnNew.is (h : LnNew w0 w lp C) (hC : C.length ≤ 400) (elder id : Int) :
    Calls Try.prog 16 #[.pointer (some ⟨lp, 0, none⟩), .int .i64 elder, .int .i64 id] w fun e w' => e = .returned (.bool (isL C elder.toNat id.toNat)) ∧ Chg [] w w' := by
  obtain ⟨Q, R, h1, rfl, h3⟩ := h.ex
  exact ln_is h1 (by rwa [List.length_map] at hC) elder id
theorem LnNew.history (h : LnNew w0 w lp C) (hC : C.length ≤ 400) {A : Option Addr} {n c : Nat} {l : List Int} (hs : Src w 1 A n (l.map (Value.int .i64))) (hn : n ≤ 1000000) :
    Calls Try.prog 15 #[.pointer (some ⟨lp, 0, none⟩), .slice A n c] w fun e w' => ∃ v F, e = .returned v ∧ Fix w' 3 1 v (hist C (l.map Int.toNat)).length (natVals (hist C (l.map Int.toNat))) F ∧ (∀ g ∈ F, w.heap.size ≤ g) ∧ Chg [] w w' := by
  obtain ⟨Q, R, h1, rfl, h3⟩ := h.ex
  exact ln_history h1 (by rwa [List.length_map] at hC) hs hn
theorem LnNew.base (h : LnNew w0 w lp C) (hC : C.length ≤ 400) (a b : Int) :
    Calls Try.prog 13 #[.pointer (some ⟨lp, 0, none⟩), .int .i64 a, .int .i64 b] w fun e w' => e = .returned (.tuple #[.int .i64 ((bestL C (basesL C a.toNat b.toNat)).getD 0 : Nat), .bool (bestL C (basesL C a.toNat b.toNat)).isSome]) ∧ Chg [] w w' := by
  obtain ⟨Q, R, h1, rfl, h3⟩ := h.ex
  exact ln_base h1 (by rwa [List.length_map] at hC) a b
theorem LnNew.bases (h : LnNew w0 w lp C) (hC : C.length ≤ 400) (a b : Int) :
    Calls Try.prog 11 #[.pointer (some ⟨lp, 0, none⟩), .int .i64 a, .int .i64 b] w fun e w' => ∃ v F, e = .returned v ∧ Fix w' 3 1 v (basesS C a.toNat b.toNat).length (natVals (basesS C a.toNat b.toNat)) F ∧ (∀ g ∈ F, w.heap.size ≤ g) ∧ Chg [] w w' := by
  obtain ⟨Q, R, h1, rfl, h3⟩ := h.ex
  exact ln_Bases h1 (by rwa [List.length_map] at hC) a b
theorem LnNew.get (h : LnNew w0 w lp C) (hC : C.length ≤ 400) {i : Nat} (hi : i < C.length) :
    Calls Try.prog 14 #[.pointer (some ⟨lp, 0, none⟩), .int .i64 ((i + 1 : Nat) : Int)] w fun e w' => ∃ v F, e = .returned (.tuple #[.agg #[.int .i64 ((i + 1 : Nat) : Int), .int .i64 (C[i].gen : Nat), v, .int .i64 C[i].root, .string C[i].author], .bool true]) ∧ Fix w' 3 1 v C[i].par.length (natVals C[i].par) F ∧ (∀ g ∈ F, w.heap.size ≤ g) ∧ Chg [] w w' := by
  obtain ⟨Q, R, h1, rfl, h3⟩ := h.ex
  have hQ : i < Q.length := by rwa [List.length_map] at hi
  have := ln_get h1 (by rwa [List.length_map] at hC) hQ
  simpa [List.getElem_map] using this
end
set_option maxRecDepth 8000 in
set_option maxHeartbeats 1000000 in
theorem ln_same {w : World} {A B : Option Addr} {n c d : Nat} {l : List Nat} (h1 : Src w 1 A n (natVals l)) (h2 : Src w 1 B n (natVals l)) (hn : n ≤ 1000000) :
    Calls Try.prog 17 #[.slice A n c, .slice B n d] w fun e w' => e = .returned (.bool true) ∧ Chg [] w w' := by
  have hl : l.length = n := by have := h1.1; simpa [natVals] using this
  replace hl := Lib.hid hl
  go_enter Try.func17, Try.ntmps17
  go_wp2_with fail
  go_loopw [5] (fun iv wr => ∃ k : Nat, k ≤ n ∧ iv = .int .i64 k ∧ Chg [] w wr) (fun iv _ => n - (intOf iv).toNat)
  case atStart => exact ⟨0, by omega, rfl, Chg.refl _ _⟩
  case round =>
    obtain ⟨k, hk, rfl, hc⟩ := hrel
    by_cases hlt : k < n
    · obtain ⟨a, rfl, c1⟩ := (h1.chg hc (by simp)).2 (by omega)
      obtain ⟨b, rfl, c2⟩ := (h2.chg hc (by simp)).2 (by omega)
      have d1 := c1 k (.int .i64 (l[k]'(by rw [hl.out]; exact hlt) : Nat)) (by simp [natVals, hl.out, hlt])
      have d2 := c2 k (.int .i64 (l[k]'(by rw [hl.out]; exact hlt) : Nat)) (by simp [natVals, hl.out, hlt])
      clear c1 c2
      generalize ((l[k]'(by rw [hl.out]; exact hlt) : Nat) : Int) = x at *
      go_wp2_with fail
      go_quiet (fail)
      go_wp2_with fail
      go_roundw
      case measure => simp [intOf]; omega
      case rel => exact ⟨k + 1, by omega, by go_num, hc.drewN _⟩
    · obtain rfl : k = n := by omega
      go_wp2_with fail
      go_ret
      exact ⟨by trivial, hc⟩
end Go.Proofs.Ytaabkapjdmceaaa
