/- Charts: All; New. -/
import Derived.Test.YtfcedgglehedjaaItB
import Derived.Sort.MapsRangeIn
import Derived.Test.YtfcedgglehedjaaOpen
import Derived.Test.YtfcedgglehedjaaHeapAt
namespace Go.Proofs.Ytfcedgglehedjaa
open Go.RowKit Go.Vx Go.Maps Go.Sort Go.Shelf
set_option linter.unusedVariables false
set_option linter.unusedSimpArgs false

def KeysOf (L : CL) (ys : List Int) : Prop := ys.Nodup ∧ ∀ x, x ∈ ys ↔ (getC L x).isSome = true
set_option maxRecDepth 100000 in
set_option maxHeartbeats 1000000 in
theorem ck_seq_nil {w : World} {Bm : Nat} (hm : w.cell? ⟨Bm, 0, none⟩ = some (.map none)) : SeqStopsK Fence.wide 7 Try.prog 24 #[.pointer (some ⟨Bm, 0, none⟩)] (fun x => #[encI x]) KeepsWalks (KeysOf []) (fun _ => True) 0 w := by
  intro l J Jx W hW hJ _ hY h0
  have hBm : Bm < w.heap.size := World.block_lt_of_cell? _ _ hm
  have hm' : W.cell? ⟨Bm, 0, none⟩ = some (.map none) := (hW.cell (p := ⟨Bm, 0, none⟩) hBm).trans hm
  show CallsIn Fence.wide 7 Try.prog 24 #[.func (.yield l) #[] #[], .pointer (some ⟨Bm, 0, none⟩)] W _
  refine callsIn_of_wp Try.func24 rfl trivial ?_ rfl
  simp only [Try.ntmps24, List.size_toArray, List.length_cons, List.length_nil, Nat.reduceAdd, Nat.reduceSub, Array.replicate_succ, Array.replicate_zero, List.push_toArray, List.append_toArray, List.nil_append, List.cons_append]
  have hrg := run_range_nilMap (P := Try.prog) W 24 3 28 Try.underlying24
  have hnx : ∀ ty, (Instr.next (.pointer (some ⟨W.heap.size, 0, none⟩)) false ty).run Try.prog (W.alloc (.mapIter none 0 #[] 0)) = _ := fun ty => run_next_nilMap _ ty 0 0 #[]
  gi_wp2
  refine wpIn_loop_rounds 1 ?_
  rw [roundsIn_succ]
  gi_wp2
  go_end0
  exact ⟨⟨_, rfl⟩, .inl ⟨[], ⟨List.nodup_nil, by simp [getC]⟩, hJ [] W _ none h0 (World.grownBy_alloc W _ none) (fun r e => by cases e)⟩⟩
theorem ck_seq {w : World} {Bm b : Nat} {L : CL} (hm : w.cell? ⟨Bm, 0, none⟩ = some (.map (some b))) (hown : CMap w b L) : SeqStopsK Fence.wide 7 Try.prog 24 #[.pointer (some ⟨Bm, 0, none⟩)] (fun x => #[encI x]) KeepsWalks (KeysOf L) (fun _ => True) L.length w := by
  intro l J Jx W hW hJ _ hY h0
  have hBm : Bm < w.heap.size := World.block_lt_of_cell? _ _ hm
  exact ck_keys1 Fence.wide 7 trivial rfl (by omega) l Bm b L J Jx hY W hJ ((hW.cell (p := ⟨Bm, 0, none⟩) hBm).trans hm) (hown.chg (S := []) (.of_below hW) (by simp)) h0
theorem ck_keys (m : Option Nat) (w : World) : Calls Try.prog 19 #[.map m] w fun e w' => e = .returned (.func (.func 24) #[] #[.pointer (some ⟨w.heap.size, 0, none⟩)]) ∧ w' = w.alloc (.cells #[.map m] 24) := by
  go_enter Try.func19, Try.ntmps19
  go_wp2
  go_ret
  exact ⟨rfl, rfl⟩
theorem int_ext : ∀ {l k : List Int}, (l.Pairwise fun x y => x < y) → (k.Pairwise fun x y => x < y) → (∀ x, x ∈ l ↔ x ∈ k) → l = k
  | [], [], _, _, _ => rfl
  | [], y :: M, _, _, h => by have := (h y).2 (by simp); cases this
  | x :: L, [], _, _, h => by have := (h x).1 (by simp); cases this
  | x :: L, y :: M, h1, h2, h => by
    have p1 := List.pairwise_cons.1 h1
    have p2 := List.pairwise_cons.1 h2
    have e : x = y := by
      rcases List.mem_cons.1 ((h x).1 (by simp)) with e | e
      · exact e
      · rcases List.mem_cons.1 ((h y).2 (by simp)) with e' | e'
        · exact e'.symm
        · have a1 := p2.1 x e
          have a2 := p1.1 y e'
          omega
    subst e
    congr 1
    refine int_ext p1.2 p2.2 fun z => ⟨fun hz => ?_, fun hz => ?_⟩
    · rcases List.mem_cons.1 ((h z).1 (by simp [hz])) with rfl | hm
      · have := p1.1 z hz
        omega
      · exact hm
    · rcases List.mem_cons.1 ((h z).2 (by simp [hz])) with rfl | hm
      · have := p2.1 z hz
        omega
      · exact hm
theorem keys_sorted {L : CL} (hL : SrtC L) {ys : List Int} (h : KeysOf L ys) : (ys.mergeSort fun x y => decide (x ≤ y)) = L.map Acc.code := by
  have hp := List.mergeSort_perm ys fun x y => decide (x ≤ y)
  have hs : (ys.mergeSort fun x y => decide (x ≤ y)).Pairwise fun x y => decide (x ≤ y) = true := List.pairwise_mergeSort (fun a b c h1 h2 => by simp at *; omega) (fun a b => by simp; omega) ys
  have hn := hp.nodup_iff.2 h.1
  refine int_ext ?_ (List.pairwise_map.2 hL) fun x => ?_
  · have := hs.and hn
    exact this.imp fun {x y} hxy => by
      obtain ⟨h1, h2⟩ := hxy
      have h3 : x ≠ y := h2
      simp at h1
      omega
  · rw [hp.mem_iff, h.2 x, List.mem_map]
    constructor
    · intro hx
      cases hg : getC L x with
      | none => rw [hg] at hx; cases hx
      | some a => exact ⟨a, (getC_mem hg).1, (getC_mem hg).2⟩
    · rintro ⟨a, ha, rfl⟩
      rw [getC_of hL ha]
      rfl
theorem keys_len {L : CL} (hL : SrtC L) {ys : List Int} (h : KeysOf L ys) : ys.length = L.length := by
  have := congrArg List.length (keys_sorted hL h)
  rwa [(List.mergeSort_perm _ _).length_eq, List.length_map] at this
/-- The codes, in their order. -/
theorem ck_codes {w : World} {m : Value} {L : CL} {p : Nat} {F : List Nat} (h : CAt w p L F) (hL : SrtC L) (hn : L.length ≤ 1000000) (hm : w.cell? ⟨p, 0, none⟩ = some m) :
    ∃ o, m = .map o ∧ Calls Try.prog 18 #[.func (.func 24) #[] #[.pointer (some ⟨w.heap.size, 0, none⟩)]] (w.alloc (.cells #[.map o] 24)) fun e w' => ∃ v F', e = .returned v ∧ Fix w' 3 1 v L.length ((L.map Acc.code).map encI) F' ∧ (∀ g ∈ F', w.heap.size ≤ g) ∧ Chg [] w w' := by
  have eg : ∀ args w, (callFunc 24 args).run Try.prog w = .ok (.enter 24 args) w := enters_of Try.func24 (by kernel_rfl) rfl
  have fin : ∀ o N, SeqStopsK Fence.wide 7 Try.prog 24 #[.pointer (some ⟨w.heap.size, 0, none⟩)] (fun x => #[encI x]) KeepsWalks (KeysOf L) (fun _ => True) N (w.alloc (.cells #[.map o] 24)) → N ≤ 1000000 →
      Calls Try.prog 18 #[.func (.func 24) #[] #[.pointer (some ⟨w.heap.size, 0, none⟩)]] (w.alloc (.cells #[.map o] 24)) fun e w' => ∃ v F', e = .returned v ∧ Fix w' 3 1 v L.length ((L.map Acc.code).map encI) F' ∧ (∀ g ∈ F', w.heap.size ≤ g) ∧ Chg [] w w' := by
    intro o N hseq hN
    refine (it_sorted trivial eg hN (fun ss hs => by rw [keys_len hL hs]; exact hn) _ hseq).mono ?_
    rintro e w' ⟨v, ss, F', rfl, h1, h2, h3, h4⟩
    rw [keys_sorted hL h1, keys_len hL h1] at h2
    exact ⟨v, F', rfl, h2, fun g hg => by have := h3 g hg; simp at this; omega, ((Chg.refl [] w).alloc _).trans' h4⟩
  rcases h with ⟨hb, rfl, -⟩ | ⟨b, hb, hmp, -⟩
  · have : w.cell? ⟨p, 0, none⟩ = some (.map none) := hb.cell 0
    rw [this] at hm
    cases hm
    exact ⟨none, rfl, fin none 0 (ck_seq_nil ((Blk.new w 24 #[.map none]).cell 0)) (by omega)⟩
  · have : w.cell? ⟨p, 0, none⟩ = some (.map (some b)) := hb.cell 0
    rw [this] at hm
    cases hm
    exact ⟨some b, rfl, fin (some b) L.length (ck_seq ((Blk.new w 24 #[.map (some b)]).cell 0) (hmp.chg ((Chg.refl [] w).alloc _) (by simp))) hn⟩
theorem accInfo : (Try.prog.info? 28).map (fun i => (i.zero, i.size, i.bytes)) = some (some (.agg #[.int .i64 0, .int .i64 0, .bool false]), 3, 24) := by kernel_rfl
theorem oneAccs (L : CL) : ∀ u ∈ L.flatMap accEnc, u.oneCell' = true := fun u hu => by
  obtain ⟨q, hq, hu⟩ := List.mem_flatMap.1 hu
  simp only [accEnc, List.mem_cons, List.not_mem_nil, or_false] at hu
  rcases hu with rfl | rfl | rfl <;> rfl
theorem CAt.look {w : World} {p : Nat} {L : CL} {F : List Nat} (h : CAt w p L F) (hL : SrtC L) {a : Acc} (ha : a ∈ L) (hk : (Lit.int .i64 a.code).wf = true) : ∃ b, w.cell? ⟨p, 0, none⟩ = some (.map (some b)) ∧ (Instr.lookup 24 (.map (some b)) (.int .i64 a.code) false).run Try.prog w = .ok (accV a) w := by
  rcases h with ⟨hb, rfl, -⟩ | ⟨b, hb, hm, -⟩
  · cases ha
  · have := hm.look hk
    rw [getC_of hL ha] at this
    exact ⟨b, hb.cell 0, this⟩
set_option maxRecDepth 100000 in
set_option maxHeartbeats 4000000 in
theorem ch_all {w : World} {p : Nat} {L : CL} {F : List Nat} (h : CAt w p L F) (hL : SrtC L) (hn : L.length ≤ 100000) (hk : ∀ a ∈ L, (Lit.int .i64 a.code).wf = true) :
    Calls Try.prog 8 #[.pointer (some ⟨p, 0, none⟩)] w fun e w' => ∃ v F', e = .returned v ∧ Fix w' 28 3 v L.length (L.flatMap accEnc) F' ∧ (∀ g ∈ F', w.heap.size ≤ g) ∧ Chg [] w w' := by
  obtain ⟨i1, hi1, k0, k1, k2⟩ := info_parts accInfo
  have hp : p < w.heap.size := h.lt p (by simp)
  obtain ⟨m, c0⟩ : ∃ m, w.cell? ⟨p, 0, none⟩ = some m := by
    rcases h with ⟨hb, -⟩ | ⟨b, hb, -⟩
    · exact ⟨_, hb.cell 0⟩
    · exact ⟨_, hb.cell 0⟩
  obtain ⟨o, rfl, hcodes⟩ := ck_codes h hL (by omega) c0
  have hky := ck_keys o w
  go_enter Try.func8, Try.ntmps8
  go_wp2_with fail
  refine hky.mono ?_
  rintro e w1 ⟨rfl, rfl⟩
  go_wp2_with fail
  refine hcodes.mono ?_
  rintro e w2 ⟨kv, KF, rfl, hkf, hKF, hz2⟩
  obtain ⟨kA, kc, rfl, -⟩ := _root_.id hkf
  clear hky hcodes
  go_wp2_with fail
  go_loopw [3, 15] (fun ov iv wr => ∃ (k : Nat) (A' : Option Addr) (c' : Nat) (F' : List Nat), k ≤ L.length ∧ iv = .int .i64 k ∧ ov = .slice A' k c' ∧ Fix wr 28 3 (.slice A' k c') k ((L.take k).flatMap accEnc) F' ∧ (∀ g ∈ F', w2.heap.size ≤ g) ∧ Chg [] w2 wr) (fun _ iv _ => L.length - (intOf iv).toNat)
  case atStart => exact ⟨0, none, 0, [], by omega, rfl, rfl, Fix.nil _ _ _, by simp, Chg.refl _ _⟩
  case round =>
    obtain ⟨k, A', c', F', hk2, rfl, rfl, hf, hF', hz⟩ := hrel
    by_cases hlt : k < L.length
    · obtain ⟨ad, rfl, hc⟩ := (Fix.src (hkf.chg hz (by simp))).2 (by omega)
      have c1 := hc k (encI L[k].code) (by simp [hlt])
      clear hc
      obtain ⟨b, d0, dl⟩ := (h.keep (hz2.trans' hz)).look hL (List.getElem_mem hlt) (hk _ (List.getElem_mem hlt))
      have htk : (L.take (k + 1)).flatMap accEnc = (L.take k).flatMap accEnc ++ accEnc L[k] := by
        rw [List.take_succ_eq_append_getElem hlt, List.flatMap_append]
        simp
      generalize L[k] = a at *
      obtain ⟨ac, ak, ar⟩ := a
      unfold accV at dl
      dsimp only at *
      replace htk := Lib.hid htk
      go_wp2_with first
        | (at_builtin; refine wpList_append_fix rfl (.tmp 19) (.tmp 26) 32 rfl Try.underlying32 hi1 k0 k1 k2 rfl (by omega) rfl (hf.alloc _) rfl (Src.lit (m := 1) rfl rfl) (by simp [Value.oneCell']) (by unfold maxLen; omega) (by omega) ?_; intro v3 w3 F3 hA3)
      obtain ⟨A3, c3, rfl, -⟩ := _root_.id hA3.fix
      have hz3 : Chg [] w2 w3 := (hz.alloc _).trans hA3.chg (fun g hg => .inr (hF' g hg))
      have hsz := hz.size
      refine ⟨⟨k + 1, A3, c3, F3, by omega, by go_num, rfl, by rw [htk.out]; exact hA3.fix, fun g hg => ?_, hz3⟩, by simp [intOf]; omega⟩
      rcases hA3.foot with e | e
      · rw [e] at hg
        exact hF' g hg
      · rw [e] at hg
        simp at hg
        omega
    · obtain rfl : k = L.length := by omega
      rw [List.take_length] at hf
      go_wp2_with fail
      go_ret
      exact ⟨_, F', rfl, hf, fun g hg => Nat.le_trans hz2.size (hF' g hg), hz2.trans' hz⟩
/-- What New answers, and makes. -/
def newE (L : CL) : List Acc → Int
  | [] => 0
  | a :: l => if putE L a = 0 then newE (putC L a) l else putE L a
def newL (L : CL) : List Acc → CL
  | [] => L
  | a :: l => if putE L a = 0 then newL (putC L a) l else L
theorem acc_cells {w : World} {A : Option Addr} {n : Nat} {l : List Acc} (hs : Src w 3 A n (l.flatMap accEnc)) {i : Nat} (hi : i < l.length) : ∃ ad, A = some ad ∧ w.cell? (ad.add (i * 3)) = some (.int .i64 l[i].code) ∧ w.cell? ⟨(ad.add (i * 3)).block, (ad.add (i * 3)).off + 1, none⟩ = some (.int .i64 l[i].kind) ∧ w.cell? ⟨(ad.add (i * 3)).block, (ad.add (i * 3)).off + 2, none⟩ = some (.bool l[i].ret) := by
  have hl : l.length = n := by have := hs.1; rw [flatMap_len accEnc_len] at this; omega
  obtain ⟨ad, rfl, hc⟩ := hs.2 (by omega)
  have key : ∀ j u, j < 3 → (accEnc l[i])[j]? = some u → w.cell? (ad.add (i * 3 + j)) = some u := fun j u hj hu => by
    apply hc
    rw [flatMap_at accEnc_len l i hi j hj, at_eq hi]
    exact hu
  have e : ∀ j, j ≠ 0 → ad.add (i * 3 + j) = ⟨(ad.add (i * 3)).block, (ad.add (i * 3)).off + j, none⟩ := fun j hj => by
    unfold Addr.add
    by_cases hks : i * 3 = 0 <;> simp [hks, hj, Nat.add_assoc]
  exact ⟨ad, rfl, key 0 _ (by omega) rfl, by rw [← e 1 (by omega)]; exact key 1 _ (by omega) rfl, by rw [← e 2 (by omega)]; exact key 2 _ (by omega) rfl⟩
end Go.Proofs.Ytfcedgglehedjaa
