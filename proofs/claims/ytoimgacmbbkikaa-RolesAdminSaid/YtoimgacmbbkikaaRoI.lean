/- Roles: All; that somebody stays an admin (plain laws). -/
import Derived.Test.YtoimgacmbbkikaaRoH
import Derived.Test.YtoimgacmbbkikaaIter
import Derived.Test.YtoimgacmbbkikaaRows2
namespace Go.Proofs.Ytoimgacmbbkikaa
open Go.RowKit Go.Vx Go.Maps Go.Sort Go.Shelf
set_option linter.unusedVariables false
set_option linter.unusedSimpArgs false

/-- A list of names in memory. -/
def Names (w : World) (v : Value) (ks : List (List UInt8)) (F : List Nat) : Prop := Fix w 9 1 v ks.length (ks.map encStr) F
theorem Names.chg {w w' : World} {v : Value} {ks : List (List UInt8)} {F S : List Nat} (h : Names w v ks F) (k : Chg S w w') (hd : ∀ g, g ∈ F → g ∉ S) : Names w' v ks F := Fix.chg h k hd
theorem keys_dat (L : RL) : strKeys (dat L) = L.map (·.1) := by
  unfold dat strKeys
  dsimp only
  rw [List.map_map]
  rfl
set_option maxHeartbeats 1000000 in
theorem ro_all {w : World} {p b : Nat} {L : RL} (hb : Blk w p 27 #[.map (some b)]) (hm : RMap w b L) (hL : L.length ≤ 1000000) :
    Calls Try.prog 11 #[.pointer (some ⟨p, 0, none⟩)] w fun e w' => ∃ (v : Value) (ks : List (List UInt8)) (F : List Nat), e = .returned v ∧ ks.Perm (L.map (·.1)) ∧ Names w' v (ks.mergeSort fun x y => decide (x ≤ y)) F ∧ (∀ g, g ∈ F → w.heap.size ≤ g) ∧ Chg [] w w' := by
  have c0 : w.cell? ⟨p, 0, none⟩ = some (.map (some b)) := hb.cell 0
  have hsz : Maps.size (dat L) = L.length := by unfold dat; rw [Maps.size_eq, List.length_map]
  refine (callsIn_wide (n := 6)).1 ?_
  have hfK : Fence.wide.fn 20 := trivial
  have hfS : Fence.wide.fn 19 := trivial
  refine callsIn_of_wp Try.func11 rfl trivial ?_ rfl
  simp only [Try.ntmps11, List.size_toArray, List.length_cons, List.length_nil, Nat.reduceAdd, Nat.reduceSub, Array.replicate_succ, Array.replicate_zero, List.push_toArray, List.append_toArray, List.nil_append, List.cons_append]
  gi_wp2_with (first
    | (gi_at_call 20; refine (Try.maps_Keys_20 _ _).mono ?_; rintro e w' ⟨rfl, rfl⟩)
    | (gi_at_call 19; refine (Try.slices_Sorted_keys_19_20 b L.length (dat L) _ w hm (by rw [hsz]; unfold maxLen; omega) (by rw [hsz]; omega)).mono ?_; rintro e w' ⟨v, ss, rfl, hS, hrow, hnil, hbl⟩))
  go_ret
  have hlen : (ss.mergeSort fun x y => decide (x ≤ y)).length = ss.length := List.length_mergeSort ss
  refine ⟨v, ss, v.ownBlock.toList, rfl, by rw [← keys_dat]; exact hS, ?_, ?_, ((Chg.refl _ _).alloc _).trans' (.of_below hbl)⟩
  · unfold Names
    rw [hlen]
    exact Fix.of_own hrow
  · intro g hg
    rcases hrow.2 with ⟨rfl, _⟩ | ⟨g', cap, cur, rfl, hg', _⟩
    · simp [Value.ownBlock] at hg
    · obtain rfl : g = g' := by simpa [Value.ownBlock] using hg
      refine Nat.le_trans ?_ hg'
      simp

/- Plain laws. -/
def one8 (v : Int) : Nat := if hasB v 8 then 1 else 0
theorem adm_ins (x : List UInt8 × Int) : ∀ L : RL, adm (insR x L) = adm L + one8 x.2
  | [] => by unfold adm insR one8; cases h : hasB x.2 8 <;> simp [h]
  | y :: r => by
    rw [insR]
    split
    · unfold adm one8
      cases h : hasB x.2 8 <;> simp [h]
    · have ih := adm_ins x r
      unfold adm at ih ⊢
      rw [List.filter_cons, List.filter_cons]
      split
      · rw [List.length_cons, ih, List.length_cons]; omega
      · exact ih
theorem has0 : hasB 0 8 = false := by decide +kernel
theorem adm_del {k : List UInt8} : ∀ {L : RL}, Uniq L → adm L = adm (delR L k) + one8 (getR L k)
  | [], _ => by unfold adm delR getR one8; simp [has0]
  | y :: r, hu => by
    have hu' := List.pairwise_cons.1 hu
    have ih := adm_del (k := k) hu'.2
    by_cases he : y.1 = k
    · have hd : delR (y :: r) k = r := by
        unfold delR
        rw [List.filter_cons, if_neg (by simp [he]), List.filter_eq_self]
        intro z hz
        have := hu'.1 z hz
        simpa using fun e => this (by rw [he, e])
      have hg : getR (y :: r) k = y.2 := by unfold getR; simp [he]
      rw [hd, hg]
      unfold adm one8
      cases h : hasB y.2 8 <;> simp [h]
    · have hd : delR (y :: r) k = y :: delR r k := by
        unfold delR
        rw [List.filter_cons, if_pos (by simpa using he)]
      have hg : getR (y :: r) k = getR r k := by unfold getR; simp [he]
      rw [hd, hg]
      unfold adm at ih ⊢
      rw [List.filter_cons, List.filter_cons]
      split
      · rw [List.length_cons, ih, List.length_cons]; omega
      · exact ih
theorem Uniq.del {L : RL} (h : Uniq L) (k : List UInt8) : Uniq (delR L k) := List.Pairwise.filter _ h
theorem uniq_ins {x : List UInt8 × Int} : ∀ {L : RL}, Uniq L → (∀ y ∈ L, y.1 ≠ x.1) → Uniq (insR x L)
  | [], _, _ => List.pairwise_singleton _ _
  | y :: r, hu, h => by
    have hu' := List.pairwise_cons.1 hu
    rw [insR]
    split
    · exact List.pairwise_cons.2 ⟨fun z hz => (h z hz).symm, hu⟩
    · refine List.pairwise_cons.2 ⟨fun z hz => ?_, uniq_ins hu'.2 fun z hz => h z (List.mem_cons_of_mem _ hz)⟩
      rcases (ins_mem _ _ _).1 hz with rfl | hz
      · exact h y (by simp)
      · exact hu'.1 z hz
theorem Uniq.put {L : RL} (h : Uniq L) (k : List UInt8) (v : Int) : Uniq (putR L k v) := uniq_ins (h.del k) fun y hy => by
  have := (List.mem_filter.1 hy).2
  simpa using this
theorem adm_put {L : RL} (h : Uniq L) (k : List UInt8) (v : Int) : adm (putR L k v) + one8 (getR L k) = adm L + one8 v := by
  unfold putR
  rw [adm_ins, adm_del (k := k) h]
  dsimp only
  omega
theorem fin3 : ∀ (o a : Fin 16), (0 ≤ orI o.val a.val ∧ orI o.val a.val ≤ 15 ∧ one8 o.val ≤ one8 (orI o.val a.val)) ∧ (0 ≤ lessI o.val a.val ∧ lessI o.val a.val ≤ 15 ∧ (hasB a.val 8 = true → hasB o.val 8 = true → one8 o.val = 1 ∧ one8 (lessI o.val a.val) = 0) ∧ (¬ (hasB a.val 8 = true ∧ hasB o.val 8 = true) → one8 (lessI o.val a.val) = one8 o.val)) := by decide +kernel
theorem fin3' {o a : Int} (o0 : 0 ≤ o) (o1 : o ≤ 15) (a0 : 0 ≤ a) (a1 : a ≤ 15) : (0 ≤ orI o a ∧ orI o a ≤ 15 ∧ one8 o ≤ one8 (orI o a)) ∧ (0 ≤ lessI o a ∧ lessI o a ≤ 15 ∧ (hasB a 8 = true → hasB o 8 = true → one8 o = 1 ∧ one8 (lessI o a) = 0) ∧ (¬ (hasB a 8 = true ∧ hasB o 8 = true) → one8 (lessI o a) = one8 o)) := by
  obtain ⟨x, rfl⟩ := Int.eq_ofNat_of_zero_le o0
  obtain ⟨y, rfl⟩ := Int.eq_ofNat_of_zero_le a0
  exact fin3 ⟨x, by omega⟩ ⟨y, by omega⟩
theorem asks_of {a : Int} (h : asksB a = true) : 1 ≤ a ∧ a ≤ 15 := by unfold asksB at h; simpa using h
theorem give_ok {L : RL} (hF : Fine L) (hu : Uniq L) (k : List UInt8) {a : Int} (ha : asksB a = true) : Fine (giveL L k a) ∧ adm L ≤ adm (giveL L k a) := by
  obtain ⟨a0, a1⟩ := asks_of ha
  obtain ⟨g0, g1⟩ := hF.get k
  obtain ⟨⟨f1, f2, f3⟩, -⟩ := fin3' g0 g1 (show 0 ≤ a by omega) a1
  unfold giveL
  refine ⟨hF.put k f1 f2, ?_⟩
  have := adm_put hu k (orI (getR L k) a)
  omega
theorem take_ok {L : RL} (hF : Fine L) (hu : Uniq L) (k : List UInt8) {a : Int} (ha : asksB a = true) (hc : takeC L k a = 0) (h1 : 1 ≤ adm L) : Fine (takeL L k a) ∧ 1 ≤ adm (takeL L k a) ∧ (takeL L k a).length ≤ L.length + 1 := by
  obtain ⟨a0, a1⟩ := asks_of ha
  obtain ⟨g0, g1⟩ := hF.get k
  obtain ⟨-, f1, f2, f3, f4⟩ := fin3' g0 g1 (show 0 ≤ a by omega) a1
  have hp := adm_put hu k (lessI (getR L k) a)
  have hA : 1 ≤ adm (putR L k (lessI (getR L k) a)) := by
    by_cases hb : hasB a 8 = true ∧ hasB (getR L k) 8 = true
    · obtain ⟨e1, e2⟩ := f3 hb.1 hb.2
      have : adm L ≠ 1 := by
        intro h
        unfold takeC at hc
        rw [hb.1, hb.2, h] at hc
        revert hc
        cases meetsB (getR L k) a <;> simp
      omega
    · have e := f4 hb
      omega
  have hpl := put_len L k (lessI (getR L k) a)
  unfold takeL
  split
  · rename_i h0
    refine ⟨(hF.put k f1 f2).del k, ?_, Nat.le_trans (del_len _ _) hpl⟩
    have hd := adm_del (k := k) (hu.put k (lessI (getR L k) a))
    rw [show getR (putR L k (lessI (getR L k) a)) k = 0 by simpa using h0] at hd
    have : one8 0 = 0 := by unfold one8; rw [has0]; rfl
    omega
  · exact ⟨hF.put k f1 f2, hA, hpl⟩
theorem get_in {L : RL} (hu : Uniq L) {x : List UInt8 × Int} (hx : x ∈ L) : getR L x.1 = x.2 := by
  unfold getR
  have : L.find? (fun y => y.1 == x.1) = some x := by
    induction L with
    | nil => simp at hx
    | cons y r ih =>
      have hu' := List.pairwise_cons.1 hu
      rw [List.find?_cons]
      rcases List.mem_cons.1 hx with rfl | hx
      · simp
      · have : (y.1 == x.1) = false := by simpa using hu'.1 x hx
        rw [this]
        exact ih hu'.2 hx
  rw [this]
/-- Among all names one is an admin's. -/
theorem adm_some {L : RL} (hu : Uniq L) (h : 1 ≤ adm L) {ks : List (List UInt8)} (hk : ks.Perm (L.map (·.1))) : ∃ k ∈ ks, hasB (getR L k) 8 = true := by
  unfold adm at h
  obtain ⟨x, hx⟩ := List.exists_mem_of_length_pos (show 0 < (L.filter fun x => hasB x.2 8).length by omega)
  obtain ⟨hx1, hx2⟩ := List.mem_filter.1 hx
  exact ⟨x.1, hk.mem_iff.2 (List.mem_map_of_mem hx1), by rw [get_in hu hx1]; exact hx2⟩
end Go.Proofs.Ytoimgacmbbkikaa
