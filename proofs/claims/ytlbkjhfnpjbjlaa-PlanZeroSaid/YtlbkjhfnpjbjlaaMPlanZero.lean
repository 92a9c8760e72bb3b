/- The proof of PlanZero, but for its row. -/
import Derived.Test.YtlbkjhfnpjbjlaaMPlan7
import Derived.Test.YtlbkjhfnpjbjlaaProg
import Derived.Maps.Own
import Derived.Maps.OwnOps
import Derived.Maps.OwnSet
import Derived.Maps.Ext
/- PlanNumbers: plain laws. -/
namespace Go.Proofs.Ytlbkjhfnpjbjlaa
open Go.RowKit Go.Vx
set_option linter.unusedVariables false
set_option linter.unusedSimpArgs false

instance : Inhabited Ln := ⟨⟨0, 0, 0⟩⟩
def turnedN (a b : Jn) : Bool := decide (b.lines.length = 2) && ((b.per == a.per + 1) && (((b.lines.getD 0 default).amt == -(a.lines.getD 0 default).amt) && ((b.lines.getD 0 default).acct == (a.lines.getD 0 default).acct)))
def turnAt (L : List Jn) (i : Nat) : Bool := decide (0 < i) && turnedN (L.getD (i - 1) default) (L.getD i default)
theorem check_front2 {j : Jn} (h : checkE j = 0) : 1 ≤ j.id ∧ j.id ≤ 999999 ∧ 0 ≤ j.per ∧ j.per ≤ 1199 ∧ 2 ≤ j.lines.length ∧ j.lines.length ≤ 8 ∧ (∀ x ∈ j.lines, -1000000000000000 ≤ x.amt ∧ x.amt ≤ 1000000000000000) := by
  have h8 := check_fits h
  unfold checkE at h
  cases hf : frontB j with
  | false => rw [hf] at h; simp at h
  | true =>
    unfold frontB perB at hf
    simp only [Bool.and_eq_true, decide_eq_true_eq] at hf
    exact ⟨hf.1.1.1.1.1.1, hf.1.1.1.1.1.2, hf.1.1.1.2.1, hf.1.1.1.2.2, hf.1.2, hf.2, h8.2⟩
theorem onC_one {p : Int} (h : (onC p 1).2 = 0) : (onC p 1).1 = p + 1 := by
  unfold onC at h ⊢
  split at h
  · rename_i hc
    rw [if_pos hc]
  · cases h
/-- What Make makes. -/
theorem makeL_is {t : Tp} {per id : Int} (h : makeL t per id ≠ []) : (∀ j ∈ makeL t per id, checkE j = 0) ∧ ∃ a, a.id = id ∧ a.per = per ∧ (makeL t per id = [a] ∨ ∃ b, makeL t per id = [a, b] ∧ b.id = IntKind.i64.wrap (id + 1) ∧ turnedN a b = true) := by
  unfold makeL at h ⊢
  split
  · rename_i hc
    rw [if_pos hc] at h
    split
    · rename_i hp
      rw [if_pos hp] at h
      split
      · rename_i hg
        rw [if_pos hg] at h
        refine ⟨fun j hj => by have := List.all_eq_true.1 hg j hj; simpa using this, ?_⟩
        unfold rawL at h ⊢
        split
        · rename_i hk
          rw [if_pos hk] at h
          unfold accL at h ⊢
          split
          · exact ⟨_, rfl, rfl, .inl rfl⟩
          · rename_i ho
            rw [if_neg ho] at h
            split
            · rename_i hr
              rw [if_pos hr] at h
              exact absurd rfl h
            · refine ⟨_, rfl, rfl, .inr ⟨_, rfl, rfl, ?_⟩⟩
              have hn : (onC per 1).1 = per + 1 := onC_one (by have := ho; simp only [ne_eq, Decidable.not_not] at this; exact this)
              unfold turnedN revJ accJ j0T
              dsimp only
              rw [hn]
              simp [negLn]
        · exact ⟨_, rfl, rfl, .inl rfl⟩
      · rename_i hg
        rw [if_neg hg] at h
        exact absurd rfl h
    · rename_i hp
      rw [if_neg hp] at h
      exact absurd rfl h
  · rename_i hc
    rw [if_neg hc] at h
    exact absurd rfl h
theorem puts_srt : ∀ (l : List Item) (st : List Slot × Int), Srt slLt st.1 → Srt slLt (puts st l).1
  | [], st, h => h
  | x :: l, st, h => by
    rw [puts]
    refine puts_srt l _ ?_
    unfold put1
    split
    · exact ins_srt slLin _ _ h
    · exact h
theorem srt_first {D : List Slot} (h : Srt slLt D) : D.Pairwise fun x y => x.1 ≤ y.1 := by
  unfold Srt at h
  refine h.imp fun {x y} h => ?_
  rw [slLt_no] at h
  omega
def NumOk (L : List Jn) (f : Int) : Prop := ∀ i, i < L.length → (L.getD i default).id = f + (i : Int) ∧ checkE (L.getD i default) = 0 ∧ (turnAt L i = true ∨ ∀ j, j < i → turnAt L j = true ∨ (L.getD j default).per ≤ (L.getD i default).per)
theorem getD_app_l {α : Type} [Inhabited α] (l m : List α) {i : Nat} (h : i < l.length) : (l ++ m).getD i default = l.getD i default := by simp [List.getD, List.getElem?_append_left h]
theorem getD_app_r {α : Type} [Inhabited α] (l m : List α) (i : Nat) : (l ++ m).getD (l.length + i) default = m.getD i default := by simp [List.getD, List.getElem?_append_right]
theorem turnAt_r (l m : List Jn) {i : Nat} (h : turnAt m i = true) : turnAt (l ++ m) (l.length + i) = true := by
  unfold turnAt at h ⊢
  rw [Bool.and_eq_true, decide_eq_true_eq] at h
  rw [getD_app_r, show l.length + i - 1 = l.length + (i - 1) by omega, getD_app_r, h.2, decide_eq_true (show 0 < l.length + i by omega)]
  rfl
theorem numbers (T : List TV) : ∀ (D : List Slot) (f : Int) (L : List Jn), runN T D f = some L → D.Pairwise (fun x y => x.1 ≤ y.1) → 0 ≤ f → f + 2 * D.length ≤ 2000000 →
    ∀ i, i < L.length → (L.getD i default).id = f + (i : Int) ∧ checkE (L.getD i default) = 0 ∧ (turnAt L i = true ∨ ((∀ j, j < i → turnAt L j = true ∨ (L.getD j default).per ≤ (L.getD i default).per) ∧ ∃ x ∈ D, (L.getD i default).per = x.1))
  | [], f, L, h, _, _, _, i, hi => by
    unfold runN at h
    cases h
    simp at hi
  | x :: D, f, L, h, hs, h0, hf, i, hi => by
    unfold runN at h
    by_cases hm : mkS T x f = []
    · rw [if_pos hm] at h; cases h
    rw [if_neg hm] at h
    obtain ⟨L', hL', rfl⟩ : ∃ L', runN T D (f + (mkS T x f).length) = some L' ∧ L = mkS T x f ++ L' := by
      cases hr : runN T D (f + (mkS T x f).length) with
      | none => rw [hr] at h; cases h
      | some L' => rw [hr] at h; cases h; exact ⟨L', rfl, rfl⟩
    obtain ⟨hck, a, ha1, ha2, hab⟩ := makeL_is hm
    change makeL (T.getD x.2.2.1.toNat default).t x.1 f ≠ [] at hm
    have hl2 : (mkS T x f).length ≤ 2 := makeL_len _ _ _
    have hl0 : 0 < (mkS T x f).length := List.length_pos_iff.2 hm
    rw [List.length_cons] at hf
    obtain ⟨hx, hD⟩ := List.pairwise_cons.1 hs
    have ih := numbers T D (f + (mkS T x f).length) L' hL' hD (by omega) (by omega)
    have hM : (mkS T x f).getD 0 default = a ∧ (1 < (mkS T x f).length → ((mkS T x f).getD 1 default).id = f + 1 ∧ turnAt (mkS T x f) 1 = true) := by
      rcases hab with e | ⟨b, e, hb1, hb2⟩
      · have e' : mkS T x f = [a] := e
        rw [e']
        exact ⟨rfl, fun h => absurd h (by simp)⟩
      · have e' : mkS T x f = [a, b] := e
        rw [e']
        refine ⟨rfl, fun _ => ⟨?_, ?_⟩⟩
        · show b.id = f + 1
          rw [hb1, IntKind.wrap_i64]; omega
        · unfold turnAt
          show (decide (0 < 1) && turnedN a b) = true
          rw [hb2]; rfl
    have hMc : ∀ k, k < (mkS T x f).length → checkE ((mkS T x f).getD k default) = 0 := fun k hk => by
      have : (mkS T x f).getD k default = (mkS T x f)[k] := by simp [List.getD, List.getElem?_eq_getElem hk]
      rw [this]
      exact hck _ (List.getElem_mem hk)
    generalize mkS T x f = M at *
    by_cases hiM : i < M.length
    · rw [getD_app_l _ _ hiM]
      have hlow : ∀ k, k < M.length → turnAt (M ++ L') k = turnAt M k := fun k hk => by
        unfold turnAt
        rw [getD_app_l _ _ hk, getD_app_l _ _ (show k - 1 < M.length by omega)]
      by_cases hi0 : i = 0
      · subst hi0
        refine ⟨by rw [hM.1, ha1]; simp, hMc 0 hiM, .inr ⟨fun j hj => by omega, x, by simp, by rw [hM.1, ha2]⟩⟩
      · obtain rfl : i = 1 := by omega
        exact ⟨by rw [(hM.2 hiM).1]; simp, hMc 1 hiM, .inl (by rw [hlow 1 hiM]; exact (hM.2 hiM).2)⟩
    · obtain ⟨k, rfl⟩ : ∃ k, i = M.length + k := ⟨i - M.length, by omega⟩
      rw [List.length_append] at hi
      obtain ⟨q1, q2, q3⟩ := ih k (by omega)
      rw [getD_app_r]
      refine ⟨by rw [q1]; push_cast; omega, q2, ?_⟩
      rcases q3 with q3 | ⟨q3, y, hy, q4⟩
      · exact .inl (turnAt_r _ _ q3)
      · refine .inr ⟨fun j hj => ?_, y, by simp [hy], q4⟩
        by_cases hjM : j < M.length
        · rw [getD_app_l _ _ hjM]
          by_cases hj0 : j = 0
          · subst hj0
            right
            rw [hM.1, ha2, q4]
            exact hx y hy
          · obtain rfl : j = 1 := by omega
            left
            have := (hM.2 hjM).2
            unfold turnAt at this ⊢
            rw [getD_app_l _ _ hjM, getD_app_l _ _ (show 1 - 1 < M.length by omega)]
            exact this
        · obtain ⟨k', rfl⟩ : ∃ k, j = M.length + k := ⟨j - M.length, by omega⟩
          rw [getD_app_r]
          exact (q3 k' (by omega)).imp (turnAt_r _ _) (fun h => h)
end Go.Proofs.Ytlbkjhfnpjbjlaa
/- A map from whole numbers to whole numbers, as it lies in memory; what is said of it as a function. -/
namespace Go.Proofs.Ytlbkjhfnpjbjlaa
open Go.RowKit Go.Vx Go.Maps
set_option linter.unusedVariables false
set_option linter.unusedSimpArgs false

abbrev IL := List (Int × Int)
def entI (x : Int × Int) : Lit × DataW Unit := (.int .i64 x.1, .lit (.int .i64 x.2))
def datI (L : IL) : DataW Unit := .map (L.map entI)
def getI (L : IL) (k : Int) : Int := match L.find? (fun x => x.1 == k) with | some x => x.2 | none => 0
def delI (L : IL) (k : Int) : IL := L.filter fun x => !(x.1 == k)
def insI (x : Int × Int) : IL → IL
  | [] => [x]
  | y :: r => if x.1 < y.1 then x :: y :: r else y :: insI x r
def putI (L : IL) (k v : Int) : IL := insI (k, v) (delI L k)
theorem insI_ent (x : Int × Int) : ∀ L : IL, DataW.insert (entI x) (L.map entI) = (insI x L).map entI
  | [] => rfl
  | y :: r => by
    rw [List.map_cons, DataW.insert, insI]
    have e : (entI x).1.before (entI y).1 = decide (x.1 < y.1) := rfl
    rw [e]
    by_cases h : x.1 < y.1
    · simp [h]
    · simp only [h, decide_false, Bool.false_eq_true, if_false]
      rw [List.map_cons, insI_ent x r]
theorem sameKeyI (a b : Int) : (Lit.int .i64 a).sameKey (.int .i64 b) = (a == b) := by
  simp [Lit.sameKey]
  rfl
theorem datI_del (L : IL) (k : Int) : (datI L).del (.int .i64 k) = datI (delI L k) := by
  unfold datI delI
  show DataW.map _ = _
  congr 1
  rw [List.filter_map]
  have e : ((fun p : Lit × DataW Unit => !p.1.sameKey (.int .i64 k)) ∘ entI) = fun x => !(x.1 == k) := by funext x; exact congrArg _ (sameKeyI _ _)
  exact congrArg (fun q => List.map entI (List.filter q L)) e
theorem datI_put (L : IL) (k v : Int) : (datI L).put (.int .i64 k) (.lit (.int .i64 v)) = datI (putI L k v) := by
  have h : (datI L).put (.int .i64 k) (.lit (.int .i64 v)) = .map (DataW.insert (entI (k, v)) ((delI L k).map entI)) := by
    have := datI_del L k
    unfold datI at this
    injection this with this
    unfold datI DataW.put
    show DataW.map _ = _
    congr 2
  rw [h, insI_ent]
  rfl
theorem datI_at (L : IL) (k : Int) : (datI L).atKey (.int .i64 k) (.lit (.int .i64 0)) = .lit (.int .i64 (getI L k)) := by
  have e : ((fun p : Lit × DataW Unit => p.1.sameKey (.int .i64 k)) ∘ entI) = fun x => x.1 == k := by funext x; exact sameKeyI _ _
  unfold datI getI DataW.atKey
  dsimp only
  rw [List.find?_map, e]
  cases L.find? (fun x => x.1 == k) <;> rfl
theorem insI_len (x : Int × Int) : ∀ L : IL, (insI x L).length = L.length + 1
  | [] => rfl
  | z :: r => by
    rw [insI]
    split
    · rfl
    · rw [List.length_cons, insI_len x r, List.length_cons]
theorem putI_len (L : IL) (k v : Int) : (putI L k v).length ≤ L.length + 1 := by
  unfold putI
  rw [insI_len]
  have : (delI L k).length ≤ L.length := List.length_filter_le _ _
  omega
theorem find_ins_ne {x : Int × Int} {k : Int} (h : x.1 ≠ k) : ∀ L : IL, (insI x L).find? (fun y => y.1 == k) = L.find? (fun y => y.1 == k)
  | [] => by
    have : (x.1 == k) = false := by simpa using h
    simp [insI, List.find?, this]
  | y :: r => by
    have hb : (x.1 == k) = false := by simpa using h
    rw [insI]
    split
    · rw [List.find?_cons, hb]
    · rw [List.find?_cons, List.find?_cons, find_ins_ne h r]
theorem find_ins_eq {x : Int × Int} : ∀ {L : IL}, (∀ y ∈ L, y.1 ≠ x.1) → (insI x L).find? (fun y => y.1 == x.1) = some x
  | [], _ => by simp [insI]
  | y :: r, h => by
    rw [insI]
    split
    · simp
    · have hb : (y.1 == x.1) = false := by simpa using h y (by simp)
      rw [List.find?_cons, hb]
      exact find_ins_eq fun z hz => h z (by simp [hz])
theorem find_del_ne {k j : Int} (h : k ≠ j) : ∀ L : IL, (delI L k).find? (fun y => y.1 == j) = L.find? (fun y => y.1 == j)
  | [] => rfl
  | y :: r => by
    unfold delI
    rw [List.filter_cons]
    by_cases hy : y.1 = k
    · have hb : (y.1 == k) = true := by simpa using hy
      have hj : (y.1 == j) = false := by simp; omega
      rw [hb, List.find?_cons, hj]
      exact find_del_ne h r
    · have hb : (y.1 == k) = false := by simpa using hy
      rw [hb]
      simp only [Bool.not_false, if_true]
      rw [List.find?_cons, List.find?_cons]
      rw [show (r.filter fun x => !(x.1 == k)) = delI r k from rfl, find_del_ne h r]
theorem getI_put (L : IL) (k v j : Int) : getI (putI L k v) j = if j = k then v else getI L j := by
  unfold getI putI
  by_cases h : j = k
  · subst h
    rw [if_pos rfl, find_ins_eq (x := (j, v)) fun y hy => by have := (List.mem_filter.1 hy).2; simpa using this]
  · rw [if_neg h, find_ins_ne (x := (k, v)) (fun e => h e.symm), find_del_ne (fun e => h e.symm)]
def IMap (w : World) (b : Nat) (L : IL) : Prop := w.ownsMap Try.prog 3 (plainElem Try.prog 3) b L.length (datI L)
theorem miKeyed : Keyed Try.prog 3 := int_keyed Try.underlying3
theorem miKey {k : Int} (h : (Lit.int .i64 k).wf = true) : keyOf Try.prog 3 (.int .i64 k) = some (.int .i64 k) := keyOf_int_mk Try.underlying3 h
theorem miZero (w : World) : (zeroValue 3).run Try.prog w = .ok (.int .i64 0) w := by kernel_rfl
theorem IMap.of {w : World} {b n : Nat} {L : IL} (h : w.ownsMap Try.prog 3 (plainElem Try.prog 3) b n (datI L)) : IMap w b L := by
  obtain ⟨es, clock, hb, F, hs, hD⟩ := h
  refine ⟨es, clock, hb, F, ?_, hD⟩
  unfold datI at hD
  injection hD with hD
  have h1 := congrArg List.length hD
  rw [List.length_map, length_sorted, List.length_map] at h1
  simp at h1
  omega
/-- Block b holds a map that answers so, of at most n keys. -/
def MI (w : World) (b : Nat) (g : Int → Int) (n : Nat) : Prop := ∃ L, IMap w b L ∧ (∀ k, getI L k = g k) ∧ L.length ≤ n
theorem MI.lt {w : World} {b n : Nat} {g : Int → Int} (h : MI w b g n) : b < w.heap.size := by obtain ⟨L, h, -⟩ := h; exact World.ownsMap.lt h
theorem MI.chg {w w' : World} {b n : Nat} {g : Int → Int} {S : List Nat} (h : MI w b g n) (k : Chg S w w') (hb : b ∉ S) : MI w' b g n := by
  obtain ⟨L, ⟨es, clock, hh, r⟩, h2⟩ := h
  exact ⟨L, ⟨es, clock, k.get hh hb, r⟩, h2⟩
theorem MI.new (w : World) : MI (w.alloc (.map #[] 0)) w.heap.size (fun _ => 0) 0 := ⟨[], World.ownsMap_made w Try.prog 3 _, fun _ => rfl, Nat.le_refl _⟩
theorem mi_grown {w w' : World} {b : Nat} (h : w.grownBy w' (some b)) : Chg [b] w w' := ⟨h.os, h.tape, h.output, h.size, fun k hk hn => h.block k hk (by simpa using fun e => hn (by simp [e]))⟩
set_option maxRecDepth 100000 in
/-- A look-up. -/
theorem MI.look {w : World} {b n : Nat} {g : Int → Int} (h : MI w b g n) {k : Int} (hk : (Lit.int .i64 k).wf = true) : (Instr.lookup 34 (.map (some b)) (.int .i64 k) false).run Try.prog w = .ok (.int .i64 (g k)) w := by
  obtain ⟨L, h, hg, -⟩ := h
  obtain ⟨c, hrun, hat, -⟩ := World.ownsMap.lookup_int h miKeyed Try.underlying34 Try.underlying3 (miZero w) (miKey hk)
  rw [datI_at] at hat
  have hc : getI L k = c := by simpa using hat
  rw [hrun, ← hc, hg]
/-- A store. -/
theorem MI.store {w : World} {b n : Nat} {g : Int → Int} (h : MI w b g n) (hn : n < 1000000) {k v : Int} (hk : (Lit.int .i64 k).wf = true) (hv : (Lit.int .i64 v).wf = true) :
    ∃ w', (Instr.mapUpdate 34 (.map (some b)) (.int .i64 k) (.int .i64 v)).run Try.prog w = .ok () w' ∧ MI w' b (fun x => if x = k then v else g x) (n + 1) ∧ Chg [b] w w' := by
  obtain ⟨L, h, hg, hl⟩ := h
  obtain ⟨w', hrun, hown, hgr⟩ := World.ownsMap.update h miKeyed Try.underlying34 (by unfold maxLen; omega) (miKey hk) (plainElem_int Try.underlying3 hv)
  rw [datI_put] at hown
  exact ⟨w', hrun, ⟨_, IMap.of hown, fun x => by rw [getI_put]; split <;> simp_all, by have := putI_len L k v; omega⟩, mi_grown hgr⟩
end Go.Proofs.Ytlbkjhfnpjbjlaa
/- PlanZero: plain laws. -/
namespace Go.Proofs.Ytlbkjhfnpjbjlaa
open Go.RowKit Go.Vx
set_option linter.unusedVariables false
set_option linter.unusedSimpArgs false

/-- What lines say of an account. -/
def sumAt : List Ln → Int → Int
  | [], _ => 0
  | x :: r, a => (if x.acct = a then x.amt else 0) + sumAt r a
theorem sumAt_app : ∀ (l m : List Ln) (a : Int), sumAt (l ++ m) a = sumAt l a + sumAt m a
  | [], m, a => by simp [sumAt]
  | x :: l, m, a => by rw [List.cons_append, sumAt, sumAt, sumAt_app l m a]; omega
theorem sumAt_fit : ∀ (l : List Ln) (a : Int), (∀ x ∈ l, -1000000000000000 ≤ x.amt ∧ x.amt ≤ 1000000000000000) → -1000000000000000 * (l.length : Int) ≤ sumAt l a ∧ sumAt l a ≤ 1000000000000000 * (l.length : Int)
  | [], a, _ => by simp [sumAt]
  | x :: l, a, h => by
    have ih := sumAt_fit l a fun y hy => h y (by simp [hy])
    have hx := h x (by simp)
    rw [sumAt, List.length_cons]
    push_cast
    split <;> omega
theorem sumAt_none : ∀ (l : List Ln) (a : Int), (∀ x ∈ l, x.acct ≠ a) → sumAt l a = 0
  | [], a, _ => rfl
  | x :: l, a, h => by rw [sumAt, if_neg (h x (by simp)), sumAt_none l a fun y hy => h y (by simp [hy])]; rfl
def allLn (L : List Jn) : List Ln := L.flatMap fun j => j.lines
theorem allLn_succ (L : List Jn) {k : Nat} (hk : k < L.length) : allLn (L.take (k + 1)) = allLn (L.take k) ++ (L.getD k default).lines := by
  unfold allLn
  rw [List.take_succ_eq_append_getElem hk, List.flatMap_append, List.flatMap_singleton]
  simp [List.getD, List.getElem?_eq_getElem hk]
theorem ln_take (l : List Ln) {k : Nat} (hk : k < l.length) : l.take (k + 1) = l.take k ++ [l.getD k default] := by
  rw [List.take_succ_eq_append_getElem hk]
  simp [List.getD, List.getElem?_eq_getElem hk]
/-- The lines of an allocation's targets. -/
theorem legs_acct (tg S : List Int) : ∀ k, ∀ x ∈ legsN tg S k, ∃ i, i < k ∧ x.acct = tg.getD i 0
  | 0, x, h => by simp [legsN] at h
  | k + 1, x, h => by
    rw [legs_succ] at h
    rcases List.mem_append.1 h with h | h
    · obtain ⟨i, hi, e⟩ := legs_acct tg S k x h
      exact ⟨i, by omega, e⟩
    · split at h
      · cases h
      · rw [List.mem_singleton.1 h]; exact ⟨k, by omega, rfl⟩
theorem legs_sum (tg S : List Int) (hinj : ∀ i j, i < j → j < tg.length → tg.getD i 0 ≠ tg.getD j 0) {i : Nat} : ∀ k, k ≤ tg.length → i < k → sumAt (legsN tg S k) (tg.getD i 0) = S.getD i 0
  | 0, _, h => by omega
  | k + 1, hk, hi => by
    rw [legs_succ, sumAt_app]
    by_cases e : i = k
    · subst e
      rw [sumAt_none (legsN tg S i) _ fun x hx => by
        obtain ⟨j, hj, e⟩ := legs_acct tg S i x hx
        rw [e]
        exact hinj j i hj (by omega)]
      split
      · rename_i h0; rw [h0]; simp [sumAt]
      · simp [sumAt]
    · rw [legs_sum tg S hinj k (by omega) (by omega)]
      split
      · simp [sumAt]
      · rw [sumAt, if_neg (fun e => hinj i k (by omega) (by omega) e.symm), sumAt]; omega
theorem sum_range (S : List Int) : ∀ k, k ≤ S.length → ((List.range k).map fun i => S.getD i 0).sum = (S.take k).sum
  | 0, _ => by simp
  | k + 1, hk => by
    rw [List.range_succ, List.map_append, List.sum_append, sum_range S k (by omega), List.take_succ_eq_append_getElem (by omega), List.sum_append]
    simp [List.getD, List.getElem?_eq_getElem (show k < S.length by omega)]
theorem allB_is {t : Tp} (h : allB t = true) : 1 ≤ t.tg.length ∧ t.tg.length < 8 ∧ t.wt.length = t.tg.length ∧ (∀ i, i < t.tg.length → tgAt t i = true) ∧ okM t.amt = true ∧ weigh t.wt ≠ 0 := by
  unfold allB at h
  simp only [Bool.and_eq_true, decide_eq_true_eq, bne_iff_ne] at h
  exact ⟨h.1, h.2.1, h.2.2.1, range_all.1 h.2.2.2.1, h.2.2.2.2.1, h.2.2.2.2.2⟩
theorem tg_inj {t : Tp} (h : ∀ i, i < t.tg.length → tgAt t i = true) : ∀ i j, i < j → j < t.tg.length → t.tg.getD i 0 < t.tg.getD j 0 := by
  intro i j hij hj
  have key : ∀ d, i + d + 1 < t.tg.length → t.tg.getD i 0 < t.tg.getD (i + d + 1) 0 := by
    intro d
    induction d with
    | zero =>
      intro hd
      have := h (i + 0 + 1) hd
      unfold tgAt at this
      simp only [Bool.and_eq_true, Bool.or_eq_true, decide_eq_true_eq] at this
      rcases this.2.2 with h | h
      · omega
      · simpa using h
    | succ d ih =>
      intro hd
      have h1 := ih (by omega)
      have := h (i + (d + 1) + 1) hd
      unfold tgAt at this
      simp only [Bool.and_eq_true, Bool.or_eq_true, decide_eq_true_eq] at this
      rcases this.2.2 with h | h
      · omega
      · have e : i + (d + 1) + 1 - 1 = i + d + 1 := by omega
        rw [e] at h
        omega
  obtain ⟨d, rfl⟩ : ∃ d, j = i + d + 1 := ⟨j - i - 1, by omega⟩
  exact key d hj
theorem sum_nn : ∀ l : List Int, (∀ x ∈ l, 0 ≤ x) → 0 ≤ l.sum
  | [], _ => by simp
  | a :: l, h => by
    have := sum_nn l fun x hx => h x (by simp [hx])
    have := h a (by simp)
    rw [List.sum_cons]
    omega
theorem toNat_sum : ∀ l : List Int, (∀ x ∈ l, 0 ≤ x) → (l.map Int.toNat).sum = l.sum.toNat
  | [], _ => rfl
  | a :: l, h => by
    have h1 := toNat_sum l fun x hx => h x (by simp [hx])
    have h2 := sum_nn l fun x hx => h x (by simp [hx])
    have h3 := h a (by simp)
    rw [List.map_cons, List.sum_cons, List.sum_cons, h1]
    omega
theorem sh_sum {t : Tp} (h : allB t = true) (h1 : 1 ≤ t.amt) : (shT t).sum = t.amt ∧ (shT t).length = t.tg.length := by
  obtain ⟨-, -, hwl, -, -, hw0⟩ := allB_is h
  have hwp : weigh t.wt = t.wt.sum ∧ t.wt.all okW = true := by
    unfold weigh at hw0 ⊢
    split
    · rename_i hc
      exact ⟨rfl, hc.2⟩
    · rename_i hc
      rw [if_neg hc] at hw0
      exact absurd rfl hw0
  have hnn := sum_okW hwp.2
  have hsum : (t.wt.map Int.toNat).sum = (weigh t.wt).toNat := by
    rw [hwp.1]
    exact toNat_sum _ fun x hx => (okW_iff.1 (List.all_eq_true.1 hwp.2 x hx)).1
  have hW : 0 < (weigh t.wt).toNat := by rw [hwp.1] at hw0 ⊢; omega
  have hs := split_sum (N := t.amt.natAbs) hW hsum
  have hlen : (splitN t.amt.natAbs (weigh t.wt).toNat (t.wt.map Int.toNat)).length = t.wt.length := by
    rw [← outRow_end, outRow_len, List.length_map]
  have hsg : ∀ T : List Nat, (sgI t.amt T).sum = (T.sum : Int) := fun T => by
    unfold sgI
    rw [show (fun x : Nat => if t.amt < 0 then -(x : Int) else (x : Int)) = fun x : Nat => (x : Int) from by funext x; rw [if_neg (by omega)]]
    induction T with
    | nil => rfl
    | cons a T ih => rw [List.map_cons, List.sum_cons, List.sum_cons, ih]; push_cast; rfl
  unfold shT
  rw [hsg, hs]
  refine ⟨by omega, ?_⟩
  unfold sgI
  rw [List.length_map, hlen, hwl]
theorem raw_of {t : Tp} {per id : Int} (h : makeL t per id ≠ []) : makeL t per id = rawL t per id ∧ checkT t = true := by
  unfold makeL at h ⊢
  split
  · rename_i hc
    rw [if_pos hc] at h
    refine ⟨?_, hc⟩
    split
    · rename_i hp
      rw [if_pos hp] at h
      split
      · rfl
      · rename_i hg; rw [if_neg hg] at h; exact absurd rfl h
    · rename_i hp; rw [if_neg hp] at h; exact absurd rfl h
  · rename_i hc; rw [if_neg hc] at h; exact absurd rfl h
theorem raw_void {t : Tp} {per id : Int} : ∀ j ∈ rawL t per id, j.void = false := by
  intro j hj
  unfold rawL at hj
  split at hj
  · unfold accL at hj
    split at hj
    · rw [List.mem_singleton.1 hj]; rfl
    · split at hj
      · cases hj
      · rcases List.mem_cons.1 hj with h | h
        · rw [h]; rfl
        · rw [List.mem_singleton.1 h]; rfl
  · rw [List.mem_singleton.1 hj]; rfl
theorem sumAt_neg : ∀ (l : List Ln) (a : Int), sumAt (l.map negLn) a = -sumAt l a
  | [], _ => rfl
  | x :: l, a => by
    rw [List.map_cons, sumAt, sumAt, sumAt_neg l a]
    unfold negLn
    dsimp only
    split <;> omega
theorem zero_acc {t : Tp} {id : Int} (hk : t.kind = 1) (h : makeL t t.frm id ≠ []) : ((makeL t t.frm id).length = 1 → t.frm = 1199) ∧ ((makeL t t.frm id).length ≠ 1 → (makeL t t.frm id).length = 2 ∧ ∀ a, sumAt (allLn (makeL t t.frm id)) a = 0) := by
  obtain ⟨e, hc⟩ := raw_of h
  obtain ⟨h1, h2, h3, -⟩ := check_front hc
  rw [e] at h ⊢
  unfold rawL at h ⊢
  rw [if_pos hk] at h ⊢
  unfold accL at h ⊢
  split
  · rename_i ho
    refine ⟨fun _ => ?_, fun h => absurd rfl h⟩
    unfold onC okTm j0T at ho
    dsimp only at ho
    split at ho
    · exact absurd rfl ho
    · rename_i hn
      simp only [Bool.and_eq_true, decide_eq_true_eq] at hn
      omega
  · rename_i ho
    rw [if_neg ho] at h
    split
    · rename_i hr; rw [if_pos hr] at h; exact absurd rfl h
    · refine ⟨fun h => absurd h (by simp), fun _ => ⟨rfl, fun a => ?_⟩⟩
      unfold allLn revJ
      simp only [List.flatMap_cons, List.flatMap_nil, List.append_nil]
      rw [sumAt_app, sumAt_neg]
      omega
theorem zero_all {t : Tp} {id : Int} (hk : ¬ t.kind = 1) (h : makeL t t.frm id ≠ []) : (makeL t t.frm id).length = 1 ∧ ((List.range t.tg.length).map fun i => sumAt (allLn (makeL t t.frm id)) (t.tg.getD i 0)).sum = t.amt ∧ sumAt (allLn (makeL t t.frm id)) t.cred = -t.amt := by
  obtain ⟨e, hc⟩ := raw_of h
  obtain ⟨-, -, -, -, -, h1, -⟩ := check_front hc
  have hab : allB t = true := by
    unfold checkT at hc
    rw [if_neg hk, Bool.and_eq_true] at hc
    have := hc.2
    split at this
    · exact this
    · cases this
  obtain ⟨-, -, -, htg, -, -⟩ := allB_is hab
  obtain ⟨hs, hl⟩ := sh_sum hab h1
  rw [e]
  unfold rawL
  rw [if_neg hk]
  have hln : allLn [allJ t (j0T t t.frm id)] = legsN t.tg (shT t) t.tg.length ++ [⟨t.cred, -t.amt, 0⟩] := by
    unfold allLn allJ
    simp
  have hne : ∀ i, i < t.tg.length → t.tg.getD i 0 ≠ t.cred := fun i hi => by
    have := htg i hi
    unfold tgAt at this
    simp only [Bool.and_eq_true, bne_iff_ne] at this
    exact this.2.1
  have hinj : ∀ i j, i < j → j < t.tg.length → t.tg.getD i 0 ≠ t.tg.getD j 0 := fun i j h1 h2 => by have := tg_inj htg i j h1 h2; omega
  rw [hln]
  refine ⟨rfl, ?_, ?_⟩
  · have : (List.range t.tg.length).map (fun i => sumAt (legsN t.tg (shT t) t.tg.length ++ [⟨t.cred, -t.amt, 0⟩]) (t.tg.getD i 0)) = (List.range t.tg.length).map fun i => (shT t).getD i 0 := by
      apply List.map_congr_left
      intro i hi
      rw [List.mem_range] at hi
      rw [sumAt_app, legs_sum _ _ hinj _ (Nat.le_refl _) hi, sumAt, if_neg (fun e => hne i hi e.symm), sumAt]
      omega
    rw [this, ← hl, sum_range _ _ (Nat.le_refl _), List.take_length, hs]
  · rw [sumAt_app, sumAt_none _ _ fun x hx => by
      obtain ⟨i, hi, e⟩ := legs_acct _ _ _ x hx
      rw [e]
      exact hne i hi]
    simp [sumAt]
theorem check_acct {j : Jn} (h : checkE j = 0) : ∀ x ∈ j.lines, 1 ≤ x.acct ∧ x.acct ≤ 9999 := by
  unfold checkE at h
  cases hf : frontB j with
  | false => rw [hf] at h; simp at h
  | true =>
    rw [hf] at h
    cases hl : j.lines.all (lineB j.ent) with
    | false => rw [hl] at h; simp at h
    | true =>
      intro x hx
      have := List.all_eq_true.1 hl x hx
      unfold lineB at this
      simp only [Bool.and_eq_true, decide_eq_true_eq] at this
      exact this.1.1
theorem allLn_len {L : List Jn} (h : ∀ k, k < L.length → checkE (L.getD k default) = 0) : ∀ i, i ≤ L.length → (allLn (L.take i)).length ≤ 8 * i ∧ ∀ x ∈ allLn (L.take i), -1000000000000000 ≤ x.amt ∧ x.amt ≤ 1000000000000000
  | 0, _ => by simp [allLn]
  | i + 1, hi => by
    obtain ⟨h1, h2⟩ := allLn_len h i (by omega)
    obtain ⟨-, -, -, -, -, h8, hr⟩ := check_front2 (h i (by omega))
    rw [allLn_succ L (by omega), List.length_append]
    refine ⟨by omega, fun x hx => ?_⟩
    rcases List.mem_append.1 hx with hx | hx
    · exact h2 x hx
    · exact hr x hx
theorem sums_fit {L : List Jn} (h : ∀ k, k < L.length → checkE (L.getD k default) = 0) {i : Nat} (hi : i < L.length) (k : Nat) (a : Int) : -1000000000000000 * (8 * (i : Int) + 8) ≤ sumAt (allLn (L.take i) ++ (L.getD i default).lines.take k) a ∧ sumAt (allLn (L.take i) ++ (L.getD i default).lines.take k) a ≤ 1000000000000000 * (8 * (i : Int) + 8) := by
  obtain ⟨h1, h2⟩ := allLn_len h i (by omega)
  obtain ⟨-, -, -, -, -, h8, hr⟩ := check_front2 (h i hi)
  have h3 := sumAt_fit (allLn (L.take i) ++ (L.getD i default).lines.take k) a fun x hx => by
    rcases List.mem_append.1 hx with hx | hx
    · exact h2 x hx
    · exact hr x (List.mem_of_mem_take hx)
  rw [List.length_append, List.length_take] at h3
  omega
theorem sums_step (M : List Ln) {l : List Ln} {k : Nat} (hk : k < l.length) : (fun x => if x = (l.getD k default).acct then sumAt (M ++ l.take k) (l.getD k default).acct + (l.getD k default).amt else sumAt (M ++ l.take k) x) = sumAt (M ++ l.take (k + 1)) := by
  funext a
  rw [ln_take l hk, ← List.append_assoc, sumAt_app (M ++ l.take k), sumAt, sumAt]
  by_cases h : a = (l.getD k default).acct
  · subst h; rw [if_pos rfl, if_pos rfl]; omega
  · rw [if_neg h, if_neg (fun e => h e.symm)]; omega
theorem getD_mem {α : Type} [Inhabited α] {l : List α} {k : Nat} (h : k < l.length) : l.getD k default ∈ l := by
  rw [List.getD_eq_getElem?_getD, List.getElem?_eq_getElem h]
  exact List.getElem_mem h
end Go.Proofs.Ytlbkjhfnpjbjlaa
/- PlanZero: a line is added to the sums. -/
namespace Go.Proofs.Ytlbkjhfnpjbjlaa
open Go.RowKit Go.Vx
set_option linter.unusedVariables false
set_option linter.unusedSimpArgs false

noncomputable def zeReg15 : Code := (Try.f3.body.bind (regAt 15)).getD .skip
set_option maxRecDepth 100000 in
set_option maxHeartbeats 8000000 in
theorem ze_add {w w5 : World} {g n c i k b gb lb cb : Nat} {x y G : Int}
    (c4 : w.drew.cell? ⟨g, i * 6 + 4, none⟩ = some (.slice (some ⟨gb, 0, none⟩) lb cb)) (e0 : w.drew.cell? ⟨gb, k * 3, none⟩ = some (.int .i64 x)) (e1 : w.drew.cell? ⟨gb, k * 3 + 1, none⟩ = some (.int .i64 y))
    (hin : i < n) (hkl : k < lb) (hlook : (Instr.lookup 34 (.map (some b)) (.int .i64 x) false).run Try.prog w.drew = .ok (.int .i64 G) w.drew) (hw : IntKind.i64.wrap (G + y) = G + y)
    (hst : (Instr.mapUpdate 34 (.map (some b)) (.int .i64 x) (.int .i64 (G + y))).run Try.prog w.drew = .ok () w5)
    (x0 x1 x2 x3 x4 x6 x10 x11 x12 x13 x14 x15 x16 x17 x18 x19 x20 x21 x22 x23 x24 x25 x26 x27 x28 x29 x30 x31 x32 x33 x34 x35 x36 x37 x38 x39 x40 x41 x42 x43 x44 x45 x46 x47 x48 x49 x50 x51 x52 x53 x54 x55 x56 x57 x58 x59 x60 x61 x62 x63 x64 x65 x66 x67 x68 x69 x70 x71 x72 x73 x74 x75 x76 x77 x78 x79 x80 x81 x82 x83 x84 x85 x86 x87 x88 x89 x90 x91 x92 x93 x94 x95 x96 x97 x98 x99 x100 x101 x102 x103 x104 x105 x106 x107 x108 x109 x110 x111 x112 x113 x114 x115 x116 x117 x118 x119 x120 x121 x122 x123 x124 x125 x126 x127 x128 x129 x130 x131 x132 x133 x134 x135 x136 x137 x138 x139 x140 x141 x142 x143 x144 x145 x146 x147 x148 x149 x150 x151 x152 x153 x154 x155 x156 x157 x158 x159 x160 x161 x162 x163 x164 : Value) (Q : Exit → Act → World → Prop)
    (hQ : ∀ (y83 y84 y85 y86 y87 y88 y89 y90 y91 y92 y93 y94 y95 y96 y97 y98 y99 y100 y101 y102 y103 : Value), Q .normal ⟨#[x0, x1, x2, x3, x4, .slice (some ⟨g, 0, none⟩) n c, x6, .map (some b), .int .i64 i, .int .i64 k, x10, x11, x12, x13, x14, x15, x16, x17, x18, x19, x20, x21, x22, x23, x24, x25, x26, x27, x28, x29, x30, x31, x32, x33, x34, x35, x36, x37, x38, x39, x40, x41, x42, x43, x44, x45, x46, x47, x48, x49, x50, x51, x52, x53, x54, x55, x56, x57, x58, x59, x60, x61, x62, x63, x64, x65, x66, x67, x68, x69, x70, x71, x72, x73, x74, x75, x76, x77, x78, x79, x80, x81, x82, y83, y84, y85, y86, y87, y88, y89, y90, y91, y92, y93, y94, y95, y96, y97, y98, y99, y100, y101, y102, y103, x104, x105, x106, x107, x108, x109, x110, x111, x112, x113, x114, x115, x116, x117, x118, x119, x120, x121, x122, x123, x124, x125, x126, x127, x128, x129, x130, x131, x132, x133, x134, x135, x136, x137, x138, x139, x140, x141, x142, x143, x144, x145, x146, x147, x148, x149, x150, x151, x152, x153, x154, x155, x156, x157, x158, x159, x160, x161, x162, x163, x164], []⟩ w5) :
    Code.wp Try.prog zeReg15 Q ⟨#[x0, x1, x2, x3, x4, .slice (some ⟨g, 0, none⟩) n c, x6, .map (some b), .int .i64 i, .int .i64 k, x10, x11, x12, x13, x14, x15, x16, x17, x18, x19, x20, x21, x22, x23, x24, x25, x26, x27, x28, x29, x30, x31, x32, x33, x34, x35, x36, x37, x38, x39, x40, x41, x42, x43, x44, x45, x46, x47, x48, x49, x50, x51, x52, x53, x54, x55, x56, x57, x58, x59, x60, x61, x62, x63, x64, x65, x66, x67, x68, x69, x70, x71, x72, x73, x74, x75, x76, x77, x78, x79, x80, x81, x82, x83, x84, x85, x86, x87, x88, x89, x90, x91, x92, x93, x94, x95, x96, x97, x98, x99, x100, x101, x102, x103, x104, x105, x106, x107, x108, x109, x110, x111, x112, x113, x114, x115, x116, x117, x118, x119, x120, x121, x122, x123, x124, x125, x126, x127, x128, x129, x130, x131, x132, x133, x134, x135, x136, x137, x138, x139, x140, x141, x142, x143, x144, x145, x146, x147, x148, x149, x150, x151, x152, x153, x154, x155, x156, x157, x158, x159, x160, x161, x162, x163, x164], []⟩ w := by
  conv => arg 2; whnf
  conv => arg 4; dsimp only
  dsimp only at hQ
  have c4' : w.cell? ⟨g, i * 6 + 4, none⟩ = _ := c4
  have e0' : w.cell? ⟨gb, k * 3, none⟩ = _ := e0
  have e1' : w.cell? ⟨gb, k * 3 + 1, none⟩ = _ := e1
  have h1 : (i : Int) < (n : Int) := by omega
  have h2 : (k : Int) < (lb : Int) := by omega
  replace hQ := Lib.hid hQ
  refine wp_region_noPanic ?_
  go_region
  all_goals
    refine NoPanic.normal ?_
    exact hQ.out _ _ _ _ _ _ _ _ _ _ _ _ _ _ _ _ _ _ _ _ _
end Go.Proofs.Ytlbkjhfnpjbjlaa
/- PlanEvery. -/
namespace Go.Proofs.Ytlbkjhfnpjbjlaa
open Go.RowKit Go.Vx
set_option linter.unusedVariables false
set_option linter.unusedSimpArgs false

theorem row_one {w : World} {x : TV} (hx : TArg w x) : TRow0 ((w.alloc (.cells (tvEnc x).toArray 24)).alloc (.cells (tvEnc x).toArray 24)) (some ⟨w.heap.size + 1, 0, none⟩) 1 [x] :=
  ⟨Src.lit (size := 12) (m := 1) (cs := (tvEnc x).toArray) (B := w.heap.size + 1) (by simp) rfl, fun y hy => by
    rw [List.mem_singleton.1 hy]
    exact ⟨(hx.tg.alloc _).alloc _, (hx.wt.alloc _).alloc _⟩, rfl⟩
theorem perAt_get (t : Tp) {N k : Nat} (hk : k < N) : (perAt t N).getD k 0 = t.frm + (k : Int) * t.every := by
  unfold perAt
  simp [List.getD, List.getElem?_map, hk]
set_option maxRecDepth 100000 in
set_option maxHeartbeats 8000000 in
theorem planEvery_walk (w : World) (x : TV) (hx : TArg w x) : Calls Try.prog 4 #[.agg #[.int .i64 x.t.kind, .int .i64 x.t.id, .int .i64 x.t.ent, .int .i64 x.t.frm, .int .i64 x.t.til, .int .i64 x.t.every, .int .i64 x.t.amt, .int .i64 x.t.deb, .int .i64 x.t.cred, .slice x.tA x.t.tg.length x.tc, .slice x.wA x.t.wt.length x.wc, .int .i64 x.t.rank]] w fun e w' => e = .returned (.bool true) ∧ Chg [] w w' := by
  have hsm := pl_small (c := 1) (row_one hx) (by omega)
  have hsy := @small_yes [x]
  have hal := pl_alive
  obtain ⟨t, tA, tc, wA, wc⟩ := x
  have htg := hx.tg
  have hwt := hx.wt
  dsimp only at htg hwt
  have hpr := fun W (z : Chg [] w W) (h1 : t.tg.length ≤ 1000000) (h2 : t.wt.length ≤ 1000000) => pl_periods t (tc := tc) (wc := wc) (htg.chg z (by simp)) (hwt.chg z (by simp)) h1 h2
  have hck := fun W (z : Chg [] w W) (h1 : t.tg.length ≤ 1000000) (h2 : t.wt.length ≤ 1000000) => pl_check t (tc := tc) (wc := wc) (htg.chg z (by simp)) (hwt.chg z (by simp)) h1 h2
  have hcE : chkE t = if checkT t = true then 0 else 1 := rfl
  have hpl : perL t = if checkT t = true then perAt t (cntT t) else [] := rfl
  have hcf := @check_front t
  have hcl := @cnt_lt t
  have hpg := fun k => @perAt_get t (cntT t) k
  have hpn := per_len t (cntT t)
  unfold tvEnc at hsm
  generalize smallN [(⟨t, tA, tc, wA, wc⟩ : TV)] = sb at *
  generalize cntT t = N at *
  generalize perAt t N = PA at *
  generalize checkT t = cb at *
  generalize perL t = PL at *
  generalize chkE t = CE at *
  clear hx htg hwt
  obtain ⟨kind, id', ent, frm, til, every, amt, deb, cred, tg, wt, rank⟩ := t
  unfold tpV at *
  dsimp only at *
  have hz := (Chg.refl [] w).alloc (.cells #[.int .i64 kind, .int .i64 id', .int .i64 ent, .int .i64 frm, .int .i64 til, .int .i64 every, .int .i64 amt, .int .i64 deb, .int .i64 cred, .slice tA tg.length tc, .slice wA wt.length wc, .int .i64 rank] 24)
  have hB := Blk.new w 24 #[.int .i64 kind, .int .i64 id', .int .i64 ent, .int .i64 frm, .int .i64 til, .int .i64 every, .int .i64 amt, .int .i64 deb, .int .i64 cred, .slice tA tg.length tc, .slice wA wt.length wc, .int .i64 rank]
  have hz2 := hz.alloc (.cells #[.int .i64 kind, .int .i64 id', .int .i64 ent, .int .i64 frm, .int .i64 til, .int .i64 every, .int .i64 amt, .int .i64 deb, .int .i64 cred, .slice tA tg.length tc, .slice wA wt.length wc, .int .i64 rank] 24)
  replace hsy := Lib.hid hsy
  replace hpr := Lib.hid hpr
  replace hck := Lib.hid hck
  replace hcE := Lib.hid hcE
  replace hpl := Lib.hid hpl
  replace hcf := Lib.hid hcf
  replace hcl := Lib.hid hcl
  replace hpg := Lib.hid hpg
  replace hpn := Lib.hid hpn
  go_enter Try.func4, Try.ntmps4
  go_wp2_with fail
  refine hsm.mono ?_
  rintro e w1 ⟨rfl, hz3⟩
  clear hsm
  have hz13 := hz2.trans' hz3
  cases sb with
  | false =>
    go_wp2_with fail
    refine (hal _).mono ?_
    rintro e w2 ⟨rfl, hz4⟩
    go_wp2_with fail
    go_ret
    exact ⟨rfl, hz13.trans' hz4⟩
  | true =>
  obtain ⟨-, hsl, -⟩ := hsy.out rfl
  have hsl' := hsl _ (List.mem_singleton.2 rfl)
  dsimp only at hsl'
  clear hsy hsl
  have hB1 := (hB.alloc (.cells #[.int .i64 kind, .int .i64 id', .int .i64 ent, .int .i64 frm, .int .i64 til, .int .i64 every, .int .i64 amt, .int .i64 deb, .int .i64 cred, .slice tA tg.length tc, .slice wA wt.length wc, .int .i64 rank] 24)).chg hz3 (by simp)
  clear hB hz hz2 hz3
  replace hsl' := Lib.hid hsl'
  go_wp2_with fail
  refine (hal _).mono ?_
  rintro e w2 ⟨rfl, hz4⟩
  clear hal
  have hzw2 := hz13.trans' hz4
  have hB2 := hB1.chg hz4 (by simp)
  have hpr2 := hpr.out _ hzw2 (by have := hsl'.out.1; omega) (by have := hsl'.out.2; omega)
  have hck0 := fun W z => hck.out W z (by have := hsl'.out.1; omega) (by have := hsl'.out.2; omega)
  replace hck0 := Lib.hid hck0
  generalize tg.length = tn at *
  generalize wt.length = wn at *
  have hBc := fun W (k : Chg [] w2 W) => hB2.chg k (by simp)
  replace hBc := Lib.hid hBc
  have c0 := hB2.cell 0
  have c1 := hB2.cell 1
  have c2 := hB2.cell 2
  have c3 := hB2.cell 3
  have c4 := hB2.cell 4
  have c5 := hB2.cell 5
  have c6 := hB2.cell 6
  have c7 := hB2.cell 7
  have c8 := hB2.cell 8
  have c9 := hB2.cell 9
  have c10 := hB2.cell 10
  have c11 := hB2.cell 11
  clear hB1 hB2 hz13 hz4 hpr hck
  go_wp2_with fail
  refine hpr2.mono ?_
  rintro e w3 ⟨pv, pF, rfl, hpf, -, hz5⟩
  obtain ⟨pA, pc, rfl, -, hpc, hpm, -⟩ := _root_.id hpf
  have hzw3 := hzw2.trans' hz5
  have hck3 := hck0.out _ hzw3
  have hB3 := hBc.out _ hz5
  clear hpr2 hck0 c0 c1 c2 c3 c4 c5 c6 c7 c8 c9 c10 c11
  obtain ⟨jb, hjb⟩ : ∃ jb, w.heap.size = jb := ⟨_, rfl⟩
  rw [hjb] at hB3 ⊢
  have c0 := hB3.cell 0
  have c1 := hB3.cell 1
  have c2 := hB3.cell 2
  have c3 := hB3.cell 3
  have c4 := hB3.cell 4
  have c5 := hB3.cell 5
  have c6 := hB3.cell 6
  have c7 := hB3.cell 7
  have c8 := hB3.cell 8
  have c9 := hB3.cell 9
  have c10 := hB3.cell 10
  have c11 := hB3.cell 11
  clear hBc hjb
  rw [hcE.out] at hck3
  cases cb with
  | false =>
    have hp0 : PL.length = 0 := by rw [hpl.out]; rfl
    rw [if_neg (by simp)] at hck3
    rw [hp0] at hpf ⊢
    clear hp0 hpc hpm
    go_wp2_with fail
    refine hck3.mono ?_
    rintro e w4 ⟨rfl, hz6⟩
    go_wp2_with fail
    go_ret
    exact ⟨rfl, hzw3.trans' hz6⟩
  | true =>
  rw [if_pos rfl] at hck3
  obtain ⟨h1, h2, h3, h4, h5, -⟩ := hcf.out rfl
  have hcl2 := fun k => hcl.out rfl (k := k)
  have hpl2 : PL = PA := by rw [hpl.out, if_pos rfl]
  have hPn : PL.length = N := by rw [hpl2]; exact hpn.out
  have hcell : ∀ W, Chg [] w3 W → ∀ k, k < N → ∃ ad, pA = some ad ∧ W.cell? (ad.add k) = some (.int .i64 (frm + (k : Int) * every)) := fun W z k hk => by
    obtain ⟨ad, ha, hc⟩ := (Fix.src (hpf.chg z (by simp))).2 (by omega)
    refine ⟨ad, ha, hc k _ ?_⟩
    rw [List.getElem?_map, List.getElem?_eq_getElem (by omega), Option.map_some]
    have := hpg.out _ hk
    rw [← hpl2] at this
    simp [List.getD, List.getElem?_eq_getElem (show k < PL.length by omega)] at this
    rw [this]
  have hN0 : 0 < N := (hcl2 0).2 (by simpa using h2)
  have hNl : N ≤ 1200 := by
    have := (hcl2 (N - 1)).1 (by omega)
    have h7 : ((N - 1 : Nat) : Int) * 1 ≤ ((N - 1 : Nat) : Int) * every := Int.mul_le_mul_of_nonneg_left (by omega) (by omega)
    omega
  rw [hPn]
  replace hcl2 := Lib.hid hcl2
  replace hcell := Lib.hid hcell
  replace hPn := Lib.hid hPn
  clear hpl hpl2 hpg hpn hcf hcl hcE hpf hpc hpm
  go_wp2_with fail
  refine hck3.mono ?_
  rintro e w4 ⟨rfl, hz6⟩
  have hz34 := hz6
  have hBc := fun W (k : Chg [] w4 W) => (hB3.chg hz6 (by simp)).chg k (by simp)
  replace hBc := Lib.hid hBc
  clear hck3 c0 c1 c2 c3 c4 c5 c6 c7 c8 c9 c10 c11 hB3
  go_wp2_with fail
  go_loopw [4] (fun iv wr => ∃ k : Nat, k ≤ N ∧ iv = .int .i64 k ∧ Chg [] w4 wr) (fun iv _ => N - (intOf iv).toNat)
  case atStart => exact ⟨0, by omega, rfl, Chg.refl _ _⟩
  case round =>
    obtain ⟨k, hk, rfl, hzr⟩ := hrel
    have hB4 := hBc.out _ hzr
    have d3 : wr.cell? ⟨jb, 3, none⟩ = some (.int .i64 frm) := hB4.cell 3
    have d4 : wr.cell? ⟨jb, 4, none⟩ = some (.int .i64 til) := hB4.cell 4
    have d5 : wr.cell? ⟨jb, 5, none⟩ = some (.int .i64 every) := hB4.cell 5
    have hkw : IntKind.i64.wrap ((k : Int) + 1) = (k : Int) + 1 := by rw [IntKind.wrap_i64]; omega
    clear hB4
    by_cases hlt : k < N
    · obtain ⟨ad, rfl, q0⟩ := hcell.out _ (hz6.trans' hzr) k hlt
      have hle := (hcl2.out k).1 hlt
      have hke : 0 ≤ (k : Int) * every := Int.mul_nonneg (by omega) (by omega)
      have hlt2 : (k : Int) < (N : Int) := by omega
      have hw0 : IntKind.i64.wrap ((k : Int) * every) = (k : Int) * every := by rw [IntKind.wrap_i64]; omega
      have hw2 : IntKind.i64.wrap (frm + (k : Int) * every) = frm + (k : Int) * every := by rw [IntKind.wrap_i64]; omega
      obtain ⟨Y, hY⟩ : ∃ Y, (k : Int) * every = Y := ⟨_, rfl⟩
      rw [hY] at q0 hle hke hw2
      have hw1 : IntKind.i64.wrap ((k : Int) * every) = Y := by rw [hw0, hY]
      clear hw0
      replace hY := Lib.hid hY
      have b1 : (frm + Y != frm + Y) = false := by simp
      have b2 : decide (til < frm + Y) = false := by simp; omega
      clear hle hke
      go_wp2_with fail
      go_quiet (fail)
      go_wp2_with fail
      exact ⟨⟨k + 1, by omega, by go_num, hzr.drewN _⟩, by simp [intOf]; omega⟩
    · obtain rfl : k = N := by omega
      obtain ⟨ad, rfl, q0⟩ := hcell.out _ (hz6.trans' hzr) (k - 1) (by omega)
      have hle := (hcl2.out (k - 1)).1 (by omega)
      have hge : ¬ frm + (k : Int) * every ≤ til := fun h => by have := (hcl2.out k).2 h; omega
      have hke : 0 ≤ ((k - 1 : Nat) : Int) * every := Int.mul_nonneg (by omega) (by omega)
      have hst : frm + (k : Int) * every = frm + ((k - 1 : Nat) : Int) * every + every := by
        rw [show (k : Int) = ((k - 1 : Nat) : Int) + 1 by omega, Int.add_mul]; omega
      rw [hst] at hge
      have hk1 : IntKind.i64.wrap ((k : Int) - 1) = ((k - 1 : Nat) : Int) := by rw [IntKind.wrap_i64]; omega
      have hk2 : ((k - 1 : Nat) : Int) < (k : Int) := by omega
      have hk3 : k - 1 < k := by omega
      generalize ((k - 1 : Nat) : Int) * every = Y at *
      have hw1 : IntKind.i64.wrap (frm + Y + every) = frm + Y + every := by rw [IntKind.wrap_i64]; omega
      have b1 : decide ((1 : Int) ≤ (k : Int)) = true := by simp; omega
      have b2 : decide (til < frm + Y + every) = true := by simp; omega
      replace hge := Lib.hid hge
      replace hst := Lib.hid hst
      clear hle hke hlt
      generalize k - 1 = m at *
      go_wp2_with fail
      go_quiet (fail)
      go_wp2_with fail
      go_ret
      exact ⟨rfl, (hzw3.trans' (hz6.trans' hzr)).drewN _⟩
end Go.Proofs.Ytlbkjhfnpjbjlaa
/- PlanZero. -/
namespace Go.Proofs.Ytlbkjhfnpjbjlaa
open Go.RowKit Go.Vx
set_option linter.unusedVariables false
set_option linter.unusedSimpArgs false

theorem wf_small {a : Int} (h1 : -9000000000000000000 ≤ a) (h2 : a ≤ 9000000000000000000) : (Lit.int .i64 a).wf = true := by
  simp [Lit.wf, IntKind.min, IntKind.max, IntKind.bits, IntKind.signed]
  omega
set_option maxRecDepth 100000 in
set_option maxHeartbeats 16000000 in
theorem planZero_walk (w : World) (x : TV) (hx : TArg w x) (id : Int) (hid : (Lit.int .i64 id).wf = true) : Calls Try.prog 3 #[.agg #[.int .i64 x.t.kind, .int .i64 x.t.id, .int .i64 x.t.ent, .int .i64 x.t.frm, .int .i64 x.t.til, .int .i64 x.t.every, .int .i64 x.t.amt, .int .i64 x.t.deb, .int .i64 x.t.cred, .slice x.tA x.t.tg.length x.tc, .slice x.wA x.t.wt.length x.wc, .int .i64 x.t.rank], .int .i64 id] w fun e w' => e = .returned (.bool true) ∧ Chg [] w w' := by
  have hsm := pl_small (c := 1) (row_one hx) (by omega)
  have hsy := @small_yes [x]
  have hal := pl_alive
  obtain ⟨t, tA, tc, wA, wc⟩ := x
  have htg := hx.tg
  have hwt := hx.wt
  dsimp only at htg hwt
  have hrf := fun W => pl_ref t tA wA t.tg.length t.wt.length tc wc W
  have hck := fun W (z : Chg [] w W) (h1 : t.tg.length ≤ 1000000) (h2 : t.wt.length ≤ 1000000) => r1_checkPlan t (tc := tc) (wc := wc) (htg.chg z (by simp)) (hwt.chg z (by simp)) h1 h2
  have hmk := fun W (z : Chg [] w W) (h1 : t.tg.length ≤ 1000000) (h2 : t.wt.length ≤ 1000000) => pl_make t t.frm id (tc := tc) (wc := wc) (htg.chg z (by simp)) (hwt.chg z (by simp)) h1 h2
  have hfa := @zero_acc t id
  have hfb := @zero_all t id
  have hma : ∀ k, k < (makeL t t.frm id).length → (checkE ((makeL t t.frm id).getD k default) = 0 ∧ ((makeL t t.frm id).getD k default).ref = ⟨#[]⟩ ∧ ((makeL t t.frm id).getD k default).void = false) := fun k hk => by
    have hne : makeL t t.frm id ≠ [] := by intro h; rw [h] at hk; simp at hk
    have hm : (makeL t t.frm id).getD k default ∈ makeL t t.frm id := by
      simp [List.getD, List.getElem?_eq_getElem hk]
    obtain ⟨e, hc⟩ := raw_of hne
    refine ⟨(makeL_is hne).1 _ hm, ?_, ?_⟩
    · rw [e] at hm ⊢; exact (raw_ref hc _ hm).1
    · rw [e] at hm ⊢; exact raw_void _ hm
  have hml := makeL_len t t.frm id
  have htcell : ∀ W, Chg [] w W → ∀ i, i < t.tg.length → ∃ ad, tA = some ad ∧ W.cell? (ad.add i) = some (.int .i64 (t.tg.getD i 0)) := fun W z i hi => by
    obtain ⟨ad, rfl, hc⟩ := (htg.chg z (by simp)).2 (by omega)
    refine ⟨ad, rfl, hc i _ ?_⟩
    rw [List.getElem?_map, List.getElem?_eq_getElem (by omega)]
    simp [List.getD, List.getElem?_eq_getElem hi]
  have hcode : checkT t = true → ∀ i, i < t.tg.length → ¬ t.kind = 1 → codeB (t.tg.getD i 0) = true := fun hc i hi hk => by
    unfold checkT at hc
    rw [if_neg hk, Bool.and_eq_true] at hc
    have hc2 := hc.2
    split at hc2
    · have := (allB_is hc2).2.2.2.1 i hi
      unfold tgAt at this
      simp only [Bool.and_eq_true] at this
      exact this.1
    · cases hc2
  have hfr := @check_front t
  have hdeb : checkT t = true → t.kind = 1 → codeB t.deb = true := fun hc hk => by
    unfold checkT at hc
    rw [if_pos hk, Bool.and_eq_true] at hc
    have := hc.2
    unfold accB at this
    simp only [Bool.and_eq_true] at this
    exact this.1
  unfold tvEnc at hsm
  generalize smallN [(⟨t, tA, tc, wA, wc⟩ : TV)] = sb at *
  generalize makeL t t.frm id = ML at *
  generalize checkT t = cb at *
  clear hx htg hwt
  obtain ⟨kind, id', ent, frm, til, every, amt, deb, cred, tg, wt, rank⟩ := t
  unfold tpV at *
  dsimp only at *
  have hz := (Chg.refl [] w).alloc (.cells #[.int .i64 kind, .int .i64 id', .int .i64 ent, .int .i64 frm, .int .i64 til, .int .i64 every, .int .i64 amt, .int .i64 deb, .int .i64 cred, .slice tA tg.length tc, .slice wA wt.length wc, .int .i64 rank] 24)
  have hB := Blk.new w 24 #[.int .i64 kind, .int .i64 id', .int .i64 ent, .int .i64 frm, .int .i64 til, .int .i64 every, .int .i64 amt, .int .i64 deb, .int .i64 cred, .slice tA tg.length tc, .slice wA wt.length wc, .int .i64 rank]
  have hz2 := hz.alloc (.cells #[.int .i64 kind, .int .i64 id', .int .i64 ent, .int .i64 frm, .int .i64 til, .int .i64 every, .int .i64 amt, .int .i64 deb, .int .i64 cred, .slice tA tg.length tc, .slice wA wt.length wc, .int .i64 rank] 24)
  replace hsy := Lib.hid hsy
  replace hck := Lib.hid hck
  replace hmk := Lib.hid hmk
  replace hfa := Lib.hid hfa
  replace hfb := Lib.hid hfb
  replace hma := Lib.hid hma
  replace htcell := Lib.hid htcell
  replace hcode := Lib.hid hcode
  replace hfr := Lib.hid hfr
  replace hdeb := Lib.hid hdeb
  replace hml := Lib.hid hml
  go_enter Try.func3, Try.ntmps3
  go_wp2_with fail
  refine hsm.mono ?_
  rintro e w1 ⟨rfl, hz3⟩
  clear hsm
  have hz13 := hz2.trans' hz3
  cases sb with
  | false =>
    go_wp2_with fail
    refine (hal _).mono ?_
    rintro e w2 ⟨rfl, hz4⟩
    go_wp2_with fail
    go_ret
    exact ⟨rfl, hz13.trans' hz4⟩
  | true =>
  by_cases h1 : id < 1
  · have b1 : decide (id < 1) = true := by simpa using h1
    clear h1
    go_wp2_with fail
    refine (hal _).mono ?_
    rintro e w2 ⟨rfl, hz4⟩
    go_wp2_with fail
    go_ret
    exact ⟨rfl, hz13.trans' hz4⟩
  have b1 : decide (id < 1) = false := by simp; omega
  by_cases h2 : 900000 < id
  · have b2 : decide (900000 < id) = true := by simpa using h2
    clear h1 h2
    go_wp2_with fail
    refine (hal _).mono ?_
    rintro e w2 ⟨rfl, hz4⟩
    go_wp2_with fail
    go_ret
    exact ⟨rfl, hz13.trans' hz4⟩
  have b2 : decide (900000 < id) = false := by simp; omega
  obtain ⟨-, hsl, -⟩ := hsy.out rfl
  have hsl' := hsl _ (List.mem_singleton.2 rfl)
  dsimp only at hsl'
  clear hsy hsl
  have hck2 := fun W z => hck.out W z (by have := hsl'.1; omega) (by have := hsl'.2; omega)
  have hmk2 := fun W z => hmk.out W z (by have := hsl'.1; omega) (by have := hsl'.2; omega)
  have hB1 := (hB.alloc (.cells #[.int .i64 kind, .int .i64 id', .int .i64 ent, .int .i64 frm, .int .i64 til, .int .i64 every, .int .i64 amt, .int .i64 deb, .int .i64 cred, .slice tA tg.length tc, .slice wA wt.length wc, .int .i64 rank] 24)).chg hz3 (by simp)
  clear hB hz hz2 hz3 hck hmk
  have htn : tg.length ≤ 20 := hsl'.1
  clear hsl'
  generalize htn' : tg.length = tn at *
  generalize wt.length = wn at *
  replace htn' := Lib.hid htn'
  obtain ⟨jb, hjb⟩ : ∃ jb, w.heap.size = jb := ⟨_, rfl⟩
  rw [hjb] at hB1
  have hBc := fun W (S : List Nat) (k : Chg S w1 W) (hS : jb ∉ S) => hB1.chg k hS
  have hjl : jb < w1.heap.size := hB1.lt
  have c0 := hB1.cell 0
  have c1 := hB1.cell 1
  have c2 := hB1.cell 2
  have c3 := hB1.cell 3
  have c4 := hB1.cell 4
  have c5 := hB1.cell 5
  have c6 := hB1.cell 6
  have c7 := hB1.cell 7
  have c8 := hB1.cell 8
  have c9 := hB1.cell 9
  have c10 := hB1.cell 10
  have c11 := hB1.cell 11
  replace hck2 := Lib.hid hck2
  replace hmk2 := Lib.hid hmk2
  replace hBc := Lib.hid hBc
  clear hB1

  go_wp2_with fail
  refine (hrf _).mono ?_
  rintro e w2 ⟨rfl, hz4⟩
  clear hrf
  go_wp2_with fail
  refine (hck2.out _ (hz13.trans' hz4)).mono ?_
  rintro e w3 ⟨rfl, hz5⟩
  clear hck2 c0 c1 c2 c3 c4 c5 c6 c7 c8 c9 c10 c11
  have hz15 := hz4.trans' hz5
  cases cb with
  | false =>
    go_wp2_with fail
    refine (hal _).mono ?_
    rintro e w4 ⟨rfl, hz6⟩
    go_wp2_with fail
    go_ret
    exact ⟨rfl, hz13.trans' (hz15.trans' hz6)⟩
  | true =>
  go_wp2_with fail
  refine (hal _).mono ?_
  rintro e w4 ⟨rfl, hz6⟩
  clear hal
  have hz14 := hz15.trans' hz6
  have hzw4 := hz13.trans' hz14
  have hB4 := hBc.out _ _ hz14 (by simp)
  have c0 := hB4.cell 0
  have c1 := hB4.cell 1
  have c2 := hB4.cell 2
  have c3 := hB4.cell 3
  have c4 := hB4.cell 4
  have c5 := hB4.cell 5
  have c6 := hB4.cell 6
  have c7 := hB4.cell 7
  have c8 := hB4.cell 8
  have c9 := hB4.cell 9
  have c10 := hB4.cell 10
  have c11 := hB4.cell 11
  have hmk3 := hmk2.out _ hzw4
  clear hB4 hmk2 hz15 hz4 hz5 hz6
  go_wp2_with fail
  refine hmk3.mono ?_
  rintro e w5 ⟨X, v, F, rfl, hf, hj, hl, hF, -, hz7⟩
  clear hmk3 c0 c1 c2 c3 c4 c5 c6 c7 c8 c9 c10 c11
  have hzw5 := hzw4.trans' hz7
  by_cases hml0 : ML = []
  · rw [if_pos hml0]
    clear hml0
    go_wp2_with fail
    go_ret
    exact ⟨rfl, hzw5⟩
  rw [if_neg hml0]
  obtain ⟨q1, q2, q3, q4, q5, q6, q7, -, -, q8⟩ := hfr.out (by trivial)
  have hdb := hdeb.out (by trivial)
  have hcd := hcode.out (by trivial)
  have hXL : X.length = ML.length := by rw [← hj, List.length_map]
  have hX2 : X.length ≤ 2 := by have := hml.out; omega
  obtain ⟨vA, vc, rfl, -, hvc, hvm, -⟩ := _root_.id hf
  have hcell : ∀ W, Chg [w5.heap.size] w5 W → ∀ k, k < X.length → ∃ g, vA = some ⟨g, 0, none⟩ ∧ ∃ gb cb : Nat, W.cell? ⟨g, k * 6, none⟩ = some (.int .i64 (ML.getD k default).id) ∧ W.cell? ⟨g, k * 6 + 1, none⟩ = some (.int .i64 (ML.getD k default).ent) ∧ W.cell? ⟨g, k * 6 + 2, none⟩ = some (.int .i64 (ML.getD k default).per) ∧
      W.cell? ⟨g, k * 6 + 3, none⟩ = some (.string (ML.getD k default).ref) ∧ W.cell? ⟨g, k * 6 + 4, none⟩ = some (.slice (some ⟨gb, 0, none⟩) (ML.getD k default).lines.length cb) ∧ W.cell? ⟨g, k * 6 + 5, none⟩ = some (.bool (ML.getD k default).void) ∧
      (∀ i, i < (ML.getD k default).lines.length → W.cell? ⟨gb, i * 3, none⟩ = some (.int .i64 ((ML.getD k default).lines.getD i default).acct) ∧ W.cell? ⟨gb, i * 3 + 1, none⟩ = some (.int .i64 ((ML.getD k default).lines.getD i default).amt)) ∧
      Src W 3 (some ⟨gb, 0, none⟩) (ML.getD k default).lines.length ((ML.getD k default).lines.flatMap lnEnc) := by
    intro W z k hk
    have hL : ML.getD k default = X[k].j := by
      rw [← hj]
      unfold jns
      simp [List.getD, List.getElem?_map, List.getElem?_eq_getElem hk]
    rw [hL]
    have hNk := (hma.out k (by omega)).1
    rw [hL] at hNk
    obtain ⟨-, -, -, -, h2l, -, -⟩ := check_front2 hNk
    have hfz := hf.chg z (fun g hg hh => by have := hf.lt g hg; rw [List.mem_singleton.1 hh] at this; omega)
    have hlz := (hl _ (List.getElem_mem hk)).chg z (fun g hg hh => by have := (hl _ (List.getElem_mem hk)).lt g hg; rw [List.mem_singleton.1 hh] at this; omega)
    obtain ⟨gb, cb, hpv, -, -, hpF, -, -⟩ := hlz.at_ (k := 0) (j := 0) (by omega) (by omega)
    obtain ⟨g, c', e', -, -, -, s0, -⟩ := hfz.at_ (k := k) (j := 0) hk (by omega)
    cases e'
    have sj : ∀ j, j < 6 → W.cell? ⟨g, k * 6 + j, none⟩ = (jvEnc X[k])[j]? := fun j hj => by
      obtain ⟨g', c', e', -, -, -, s, -⟩ := hfz.at_ (k := k) (j := j) hk hj
      cases e'
      rw [s, flatMap_at jvEnc_len X k hk j hj, at_eq hk]
    have t4 := sj 4 (by omega)
    rw [show (jvEnc X[k])[4]? = some X[k].pv from rfl, hpv] at t4
    refine ⟨g, rfl, gb, cb, sj 0 (by omega), sj 1 (by omega), sj 2 (by omega), sj 3 (by omega), t4, sj 5 (by omega), fun i hi => ?_, by rw [hpv] at hlz; exact Fix.src hlz⟩
    have tl : ∀ j, j < 3 → W.cell? ⟨gb, i * 3 + j, none⟩ = (lnEnc (X[k].j.lines.getD i default))[j]? := fun j hj => by
      obtain ⟨gb', cb', hpv', -, -, -, r, -⟩ := hlz.at_ (k := i) (j := j) hi hj
      rw [hpv] at hpv'
      cases hpv'
      rw [r, flatMap_at lnEnc_len _ i hi j hj, at_eq hi]
      simp [List.getD, List.getElem?_eq_getElem hi]
    exact ⟨tl 0 (by omega), tl 1 (by omega)⟩
  generalize hxn : X.length = xn at *
  replace hcell := Lib.hid hcell
  replace hXL := Lib.hid hXL
  replace hcd := Lib.hid hcd
  replace hml0 := Lib.hid hml0
  obtain ⟨mb, hmb⟩ : ∃ mb, w5.heap.size = mb := ⟨_, rfl⟩
  have hM0 : MI (w5.alloc (.map #[] 0)) mb (sumAt (allLn (ML.take 0))) 0 := by rw [← hmb]; exact MI.new w5
  have hzm : Chg [mb] w5 (w5.alloc (.map #[] 0)) := (Chg.refl _ _).alloc _
  rw [hmb] at hcell
  have hjm : jb < mb := by have := hz14.size; have := hz7.size; omega
  clear hf hl hj hF hvc hvm
  have hmm := @run_makeMap Try.prog
  go_wp2_with fail
  clear hmm
  have hck : ∀ k, k < ML.length → checkE (ML.getD k default) = 0 := fun k hk => (hma.out k hk).1
  replace hck := Lib.hid hck
  have hmb2 := Lib.hid hmb
  clear hmb
  go_loopw [8] (fun iv wr => ∃ i : Nat, i ≤ xn ∧ iv = .int .i64 i ∧ MI wr mb (sumAt (allLn (ML.take i))) (8 * i) ∧ Chg [mb] w5 wr) (fun iv _ => xn - (intOf iv).toNat)
  case atStart => exact ⟨0, by omega, rfl, hM0, hzm⟩
  case round =>
    obtain ⟨i, hi, rfl, hM, hzr⟩ := hrel
    have hiw : IntKind.i64.wrap ((i : Int) + 1) = (i : Int) + 1 := by rw [IntKind.wrap_i64]; omega
    by_cases hlt : i < xn
    · obtain ⟨g, rfl, gb, cb, c0, c1, c2, c3, c4, c5, hln, hsr⟩ := hcell.out _ hzr i hlt
      obtain ⟨p1, p2, p3⟩ := hma.out i (by have := hXL.out; omega)
      obtain ⟨-, -, -, -, r5, r6, -⟩ := check_front2 p1
      rw [p2] at c3
      rw [p3] at c5
      have hlt2 : (i : Int) < (xn : Int) := by omega
      have hck2 := r1_check (ML.getD i default) (c := cb) hsr (by omega) (by rw [p2]; decide)
      rw [p1] at hck2
      have hfit := fun k a => sums_fit hck.out (i := i) (by have := hXL.out; omega) k a
      have hstep := fun k => @sums_step (allLn (ML.take i)) (ML.getD i default).lines k
      have hacct : ∀ k, k < (ML.getD i default).lines.length → 1 ≤ ((ML.getD i default).lines.getD k default).acct ∧ ((ML.getD i default).lines.getD k default).acct ≤ 9999 := fun k hk => check_acct p1 _ (getD_mem hk)
      have hamt : ∀ k, k < (ML.getD i default).lines.length → -1000000000000000 ≤ ((ML.getD i default).lines.getD k default).amt ∧ ((ML.getD i default).lines.getD k default).amt ≤ 1000000000000000 := fun k hk => (check_front2 p1).2.2.2.2.2.2 _ (getD_mem hk)
      have hnext := allLn_succ ML (k := i) (by have := hXL.out; omega)
      have hsame : ∀ W, Chg [mb] w5 W → ∃ gb cb : Nat, W.cell? ⟨g, i * 6 + 4, none⟩ = some (.slice (some ⟨gb, 0, none⟩) (ML.getD i default).lines.length cb) ∧ ∀ k, k < (ML.getD i default).lines.length → W.cell? ⟨gb, k * 3, none⟩ = some (.int .i64 ((ML.getD i default).lines.getD k default).acct) ∧ W.cell? ⟨gb, k * 3 + 1, none⟩ = some (.int .i64 ((ML.getD i default).lines.getD k default).amt) := fun W z => by
        obtain ⟨g', hg', gb, cb, -, -, -, -, c4, -, hln, -⟩ := hcell.out W z i hlt
        cases hg'
        exact ⟨gb, cb, c4, hln⟩
      have htk : ∀ k, k = (ML.getD i default).lines.length → (ML.getD i default).lines.take k = (ML.getD i default).lines := fun k h => by rw [h, List.take_length]
      have ht0 : allLn (ML.take i) ++ (ML.getD i default).lines.take 0 = allLn (ML.take i) := by simp
      generalize ML.getD i default = J at *
      obtain ⟨ji, je, jp, jr, jl, jv⟩ := J
      unfold jnV at hck2
      dsimp only at *
      subst p2 p3
      generalize hlb : jl.length = lb at *
      have hM1 : MI wr mb (sumAt (allLn (ML.take i) ++ jl.take 0)) (8 * i + 0) := by rw [ht0]; exact hM
      replace hlb := Lib.hid hlb
      replace hck2 := Lib.hid hck2
      replace hfit := Lib.hid hfit
      replace hstep := Lib.hid hstep
      replace hacct := Lib.hid hacct
      replace hamt := Lib.hid hamt
      replace hnext := Lib.hid hnext
      replace hsame := Lib.hid hsame
      replace htk := Lib.hid htk
      clear hM ht0 hln hsr p1
      go_wp2_with fail
      refine hck2.out.mono ?_
      rintro e w6 ⟨rfl, hz6⟩
      clear hck2
      have hzr6 := hzr.trans hz6 (by simp)
      have hM6 := hM1.chg hz6 (by simp)
      obtain ⟨gb6, cb6, c46, -⟩ := hsame.out _ hzr6
      have c36 : w6.cell? ⟨g, i * 6 + 3, none⟩ = some (.string ⟨#[]⟩) := by rw [hz6.cell (World.block_lt_of_cell? wr _ c3) (by simp)]; exact c3
      have c56 : w6.cell? ⟨g, i * 6 + 5, none⟩ = some (.bool false) := by rw [hz6.cell (World.block_lt_of_cell? wr _ c5) (by simp)]; exact c5
      clear c0 c1 c2 c3 c4 c5 hM1
      replace hM6 := Lib.hid hM6
      go_wp2_with fail
      go_loopw [9] (fun kv ws => ∃ k : Nat, k ≤ lb ∧ kv = .int .i64 k ∧ MI ws mb (sumAt (allLn (ML.take i) ++ jl.take k)) (8 * i + k) ∧ Chg [mb] w5 ws) (fun kv _ => lb - (intOf kv).toNat)
      case atStart => exact ⟨0, by omega, rfl, hM6.out, hzr6⟩
      case round =>
        obtain ⟨k, hk, rfl, hM, hzs⟩ := hrel
        have hkw : IntKind.i64.wrap ((k : Int) + 1) = (k : Int) + 1 := by rw [IntKind.wrap_i64]; omega
        obtain ⟨gb, cb, c4, hln⟩ := hsame.out _ hzs
        by_cases hkl : k < lb
        · obtain ⟨e0, e1⟩ := hln k hkl
          have ha := hacct.out k hkl
          have hm := hamt.out k hkl
          have hf := hfit.out k (jl.getD k default).acct
          have hs := hstep.out k (by have := hlb.out; omega)
          have hw : IntKind.i64.wrap (sumAt (allLn (ML.take i) ++ jl.take k) (jl.getD k default).acct + (jl.getD k default).amt) = sumAt (allLn (ML.take i) ++ jl.take k) (jl.getD k default).acct + (jl.getD k default).amt := by rw [IntKind.wrap_i64]; omega
          have hMd := hM.chg (Chg.refl [] _).drew (by simp)
          have hlook := hMd.look (k := (jl.getD k default).acct) (wf_small (by omega) (by omega))
          obtain ⟨w7, hst, hM7, hz7⟩ := hMd.store (by omega) (k := (jl.getD k default).acct) (v := sumAt (allLn (ML.take i) ++ jl.take k) (jl.getD k default).acct + (jl.getD k default).amt) (wf_small (by omega) (by omega)) (wf_small (by omega) (by omega))
          rw [hs] at hM7
          have hz57 := (hzs.trans (Chg.refl [] _).drew (by simp)).trans' hz7
          replace hM7 := Lib.hid hM7
          have hkl2 : (k : Int) < (lb : Int) := by omega
          have f4 := c4
          clear ha hm hf hs hln hM hMd hz7
          go_wp2_with fail
          refine ze_add c4 e0 e1 hlt hkl hlook hw hst _ _ _ _ _ _ _ _ _ _ _ _ _ _ _ _ _ _ _ _ _ _ _ _ _ _ _ _ _ _ _ _ _ _ _ _ _ _ _ _ _ _ _ _ _ _ _ _ _ _ _ _ _ _ _ _ _ _ _ _ _ _ _ _ _ _ _ _ _ _ _ _ _ _ _ _ _ _ _ _ _ _ _ _ _ _ _ _ _ _ _ _ _ _ _ _ _ _ _ _ _ _ _ _ _ _ _ _ _ _ _ _ _ _ _ _ _ _ _ _ _ _ _ _ _ _ _ _ _ _ _ _ _ _ _ _ _ _ _ _ _ _ _ _ _ _ _ _ _ _ _ _ _ _ _ _ _ _ _ _ _ _ ?_
          intro y83 y84 y85 y86 y87 y88 y89 y90 y91 y92 y93 y94 y95 y96 y97 y98 y99 y100 y101 y102 y103
          clear c4 e0 e1 hlook hw hst f4
          go_wp2_with fail
          exact ⟨⟨k + 1, by omega, by go_num, hM7.out, hz57⟩, by simp [intOf]; omega⟩
        · obtain rfl : k = lb := by omega
          have hM8 : MI wr mb (sumAt (allLn (ML.take (i + 1)))) (8 * (i + 1)) := by
            rw [hnext.out]
            have e := htk.out k (by first | rfl | exact hlb.out.symm)
            rw [e] at hM
            obtain ⟨L, h1, h2, h3⟩ := hM
            exact ⟨L, h1, h2, by omega⟩
          have hkl2 : decide ((k : Int) < (k : Int)) = false := by simp
          replace hM8 := Lib.hid hM8
          clear hln hM hkl
          go_wp2_with fail
          exact ⟨⟨i + 1, by omega, by go_num, hM8.out, hzs⟩, by simp [intOf]; omega⟩
    · obtain rfl : i = xn := by omega
      have hzw := hz14.trans' hz7
      have hz1r : Chg [] w1 wr := hzw.trans hzr (fun g hg => .inr (by rw [List.mem_singleton.1 hg]; have := hmb2.out; have := hzw.size; omega))
      have hzwr := hz13.trans' hz1r
      have hBr := hBc.out _ _ hz1r (by simp)
      have c0 := hBr.cell 0
      have c3 := hBr.cell 3
      have c6 := hBr.cell 6
      have c7 := hBr.cell 7
      have c8 := hBr.cell 8
      have c9 := hBr.cell 9
      have hall : ML.take i = ML := List.take_of_length_le (by have := hXL.out; omega)
      rw [hall] at hM
      have hgf : ∀ a, -16000000000000000 ≤ sumAt (allLn ML) a ∧ sumAt (allLn ML) a ≤ 16000000000000000 := fun a => by
        obtain ⟨h1, h2⟩ := allLn_len hck.out ML.length (Nat.le_refl _)
        rw [List.take_length] at h1 h2
        have := sumAt_fit _ a h2
        have := hXL.out
        omega
      have hcw : ∀ c, codeB c = true → (Lit.int .i64 c).wf = true := fun c h => by
        unfold codeB at h
        simp only [Bool.and_eq_true, decide_eq_true_eq] at h
        exact wf_small (by omega) (by omega)
      have hlk := fun c (h : codeB c = true) => hM.look (hcw c h)
      have hcr := hlk cred q8
      by_cases hk1 : kind = 1
      · obtain ⟨hA1, hA2⟩ := hfa.out hk1 hml0.out
        have hdl := hlk deb (hdb hk1)
        have b3 : (kind == 1) = true := by simpa using hk1
        by_cases hx1 : i = 1
        · have hfr1 := hA1 (by have := hXL.out; omega)
          have b4 : ((i : Int) == 1) = true := by simp; omega
          have b5 : (frm == 1199) = true := by simpa using hfr1
          clear hA1 hA2 hk1 hx1 hfr1 hM hgf hcw hlk hcr hdl hBr hlt hall
          go_wp2_with fail
          go_ret
          exact ⟨rfl, hzwr⟩
        · obtain ⟨hA3, hA4⟩ := hA2 (by have := hXL.out; omega)
          have b4 : ((i : Int) == 1) = false := by simp; omega
          have b5 : ((i : Int) == 2) = true := by have := hXL.out; simp; omega
          rw [hA4] at hcr hdl
          clear hA1 hA2 hA3 hA4 hk1 hx1 hM hgf hcw hlk hBr hlt hall
          go_wp2_with fail
          go_ret
          exact ⟨rfl, hzwr⟩
      · obtain ⟨hA1, hA2, hA3⟩ := hfb.out hk1 hml0.out
        have b3 : (kind == 1) = false := by simpa using hk1
        have hlk2 := fun k (hk : k < tn) => hlk _ (hcd.out k hk hk1)
        rw [hA3] at hcr
        have hi1 : i = 1 := by have := hXL.out; omega
        have hneg : IntKind.i64.wrap (-amt) = -amt := by rw [IntKind.wrap_i64]; omega
        obtain ⟨Sm, hSm⟩ : ∃ Sm : Nat → Int, Sm = fun k => ((List.range k).map fun j => sumAt (allLn ML) (tg.getD j 0)).sum := ⟨_, rfl⟩
        have hS0 : Sm 0 = 0 := by rw [hSm]; rfl
        have hS1 : ∀ k, Sm (k + 1) = Sm k + sumAt (allLn ML) (tg.getD k 0) := fun k => by
          rw [hSm]
          dsimp only
          rw [List.range_succ, List.map_append, List.sum_append]
          simp
        have hSb : ∀ k : Nat, -16000000000000000 * (k : Int) ≤ Sm k ∧ Sm k ≤ 16000000000000000 * (k : Int) := fun k => by
          induction k with
          | zero => rw [hS0]; simp
          | succ k ih =>
            have := hgf (tg.getD k 0)
            rw [hS1]
            push_cast
            omega
        have hSe : Sm tn = amt := by rw [hSm]; exact hA2
        replace hSm := Lib.hid hSm
        replace hS0 := Lib.hid hS0
        replace hS1 := Lib.hid hS1
        replace hSb := Lib.hid hSb
        replace hSe := Lib.hid hSe
        replace hgf := Lib.hid hgf
        replace hlk2 := Lib.hid hlk2
        replace hBr := Lib.hid hBr
        subst hi1
        clear hA1 hA2 hA3 hk1 hM hcw hlk hlt hall hzr hi
        go_wp2_with fail
        go_loopw [10, 11] (fun sv kv ws => ∃ k : Nat, k ≤ tn ∧ kv = .int .i64 k ∧ sv = .int .i64 (Sm k) ∧ ws = wr) (fun _ kv _ => tn - (intOf kv).toNat)
        case atStart => exact ⟨0, by omega, rfl, by rw [hS0.out], rfl⟩
        case round =>
          obtain ⟨k, hk, rfl, rfl, rfl⟩ := hrel
          have hkw : IntKind.i64.wrap ((k : Int) + 1) = (k : Int) + 1 := by rw [IntKind.wrap_i64]; omega
          by_cases hkl : k < tn
          · obtain ⟨ad, rfl, t0⟩ := htcell.out _ hzwr k hkl
            have hl := hlk2.out k hkl
            have hsb := hSb.out k
            have hgk := hgf.out (tg.getD k 0)
            have hsw : IntKind.i64.wrap (Sm k + sumAt (allLn ML) (tg.getD k 0)) = Sm (k + 1) := by rw [hS1.out, IntKind.wrap_i64]; omega
            have hkl2 : (k : Int) < (tn : Int) := by omega
            generalize sumAt (allLn ML) (tg.getD k 0) = G at *
            generalize tg.getD k 0 = y at *
            clear hsb hgk
            go_wp2_with fail
            exact ⟨⟨k + 1, by omega, by go_num, rfl, by trivial⟩, by simp [intOf]; omega⟩
          · obtain rfl : k = tn := by omega
            have b6 : (Sm k == amt) = true := by rw [hSe.out]; simp
            have b7 : (-amt == -amt) = true := by simp
            clear hkl
            go_wp2_with fail
            go_ret
            exact ⟨rfl, hzwr⟩
end Go.Proofs.Ytlbkjhfnpjbjlaa
