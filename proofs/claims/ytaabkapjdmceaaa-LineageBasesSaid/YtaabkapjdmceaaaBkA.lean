/- Lists that are kept, each in memory of its own; what an append leaves of the slice that it was given. No program. -/
import Derived.Test.YtaabkapjdmceaaaRows2
import Derived.Test.YtaabkapjdmceaaaOpen
namespace Go.Vx
open Go.RowKit
set_option linter.unusedVariables false
set_option linter.unusedSimpArgs false

theorem Fix.cut {w : World} {e : TypeId} {size : Nat} {A : Option Addr} {n m c : Nat} {xs ys : List Value} {F : List Nat} (h : Fix w e size (.slice A (n + m) c) (n + m) (xs ++ ys) F) (hx : xs.length = n * size) : Fix w e size (.slice A n c) n xs F := by
  obtain ⟨A', c', hv, h1, h2, h3, h4⟩ := h
  injection hv with ha _ hc
  subst ha hc
  refine ⟨_, _, rfl, hx, by omega, h3, ?_⟩
  rcases h4 with h4 | ⟨g, cur, ha, hf, hb, hs, ht⟩
  · exact .inl h4
  · refine .inr ⟨g, cur, ha, hf, hb, hs, ?_⟩
    have hle : n * size ≤ (n + m) * size := Nat.mul_le_mul_right _ (by omega)
    have : cur.toList.take (n * size) = (cur.toList.take ((n + m) * size)).take (n * size) := by rw [List.take_take, Nat.min_eq_left hle]
    rw [this, ht, ← hx, List.take_left]
/-- Two slices of one block: what the longer one keeps the shorter one keeps. -/
theorem Fix.same_block {w w' : World} {e : TypeId} {size n1 n2 : Nat} {v1 v2 : Value} {x1 x2 : List Value} {F : List Nat} (h1 : Fix w e size v1 n1 x1 F) (h2 : Fix w e size v2 n2 x2 F) (hle : n2 ≤ n1) (hsz : 0 < size) (h3 : Fix w' e size v1 n1 x1 F) : Fix w' e size v2 n2 x2 F := by
  obtain ⟨A2, c2, rfl, l2, m2, q2, r2⟩ := h2
  refine ⟨A2, c2, rfl, l2, m2, q2, ?_⟩
  rcases r2 with r2 | ⟨g, cur, rfl, rfl, hb, hs, ht⟩
  · exact .inl r2
  · obtain ⟨A1, c1, rfl, l1, m1, q1, r1⟩ := h1
    obtain ⟨A3, c3, e3, l3, m3, q3, r3⟩ := h3
    injection e3 with ea _ ec
    subst ea ec
    rcases r1 with ⟨_, h⟩ | ⟨g1, cur1, rfl, e1, hb1, hs1, ht1⟩
    · cases h
    rcases r3 with ⟨_, h⟩ | ⟨g3, cur3, _, e3, hb3, hs3, ht3⟩
    · cases h
    obtain rfl : g = g1 := by simpa using e1
    obtain rfl : g = g3 := by simpa using e3
    have hcur : cur = cur1 := by
      unfold Blk at hb hb1
      rw [hb] at hb1
      injection hb1 with hb1
      injection hb1
    subst hcur
    have hcc : c1 * size = c2 * size := by rw [← hs1, hs]
    have hle2 : n2 * size ≤ n1 * size := Nat.mul_le_mul_right _ hle
    refine .inr ⟨g, cur3, rfl, rfl, hb3, by rw [hs3, hcc], ?_⟩
    have e : cur3.toList.take (n2 * size) = (cur3.toList.take (n1 * size)).take (n2 * size) := by rw [List.take_take, Nat.min_eq_left hle2]
    rw [e, ht3, ← ht1, List.take_take, Nat.min_eq_left hle2, ht]
section
variable {P : Program} (w : World)
/-- What an append leaves, the slice that it was given too. -/
theorem run_append_kept {t ty e : TypeId} {i : TypeInfo} {z : Value} {size bytes : Nat} (ht : P.underlying t = some (.slice e)) (hi : P.info? e = some i) (hz : i.zero = some z)
    (hsize : i.size = size) (hby : i.bytes = bytes) (hzs : z.cells.size = size) (hsz : 0 < size)
    {v : Value} {n : Nat} {xs : List Value} {F : List Nat} (h : Fix w e size v n xs F)
    {A : Option Addr} {m c : Nat} {news : List Value} (hs : Src w size A m news) (h1 : ∀ u ∈ news, u.oneCell' = true)
    (h63 : n + m ≤ maxLen) (hbytes : (n + m) * bytes ≤ 140737488355328) :
    ∃ v' w' F', (Builtin.append_ #[t, t] ty #[v, .slice A m c]).run P w = .ok v' w' ∧ Appended w w' e size v v' n m xs news F F' ∧ Fix w' e size v n xs F := by
  obtain ⟨v', w', F', hr, ha⟩ := run_append_fix (P := P) (ty := ty) w ht hi hz hsize hby hzs hsz h hs h1 h63 hbytes (c := c)
  refine ⟨v', w', F', hr, ha, ?_⟩
  rcases Nat.eq_zero_or_pos m with hm | hm
  · obtain ⟨-, e2, -⟩ := ha.same hm
    rw [e2]
    exact h
  obtain ⟨B, cb, hv, hl, hnc, hcm, h4⟩ := id h
  rcases h4 with ⟨rfl, rfl⟩ | ⟨g, cur, rfl, rfl, hb, hcs, htk⟩
  · exact ⟨B, 0, hv, hl, hnc, hcm, .inl ⟨rfl, rfl⟩⟩
  · obtain ⟨ad, rfl, hcells⟩ := hs.2 hm
    subst hv
    by_cases hroom : n + m ≤ cb
    · have hfit : n * i.size + news.length ≤ cur.size := by rw [hs.1, hcs, hsize, ← Nat.add_mul]; exact Nat.mul_le_mul_right _ hroom
      have hr2 := run_append_room (P := P) w t ty e i ht hi g n cb cur hb ad m c news (by rw [hsize]; exact hs.1) hcells h1 hroom hfit
      rw [hr2] at hr
      injection hr with e1 e2
      have hf := ha.fix
      rw [← e1] at hf
      have hF : F' = [g] := by
        obtain ⟨g', c', e3, e4⟩ := ha.head hm
        rw [← e1] at e3
        injection e3 with e3
        injection e3 with e3
        injection e3 with e3
        rw [e4, e3]
      rw [hF] at hf
      exact hf.cut hl
    · have holds : ∀ j u, xs[j]? = some u → w.cell? ((⟨g, 0, none⟩ : Addr).add j) = some u := by
        obtain ⟨ad', e3, h5⟩ := (Fix.src h).2 |> fun f => if hn : 0 < n then f hn else ⟨⟨g, 0, none⟩, rfl, fun j u hu => by
          have hx : xs = [] := List.eq_nil_of_length_eq_zero (by rw [hl, show n = 0 by omega, Nat.zero_mul])
          rw [hx] at hu; cases hu⟩
        injection e3 with e3
        subst e3
        exact h5
      have hr2 := run_append_grow (P := P) w t ty e i z ht hi hz ⟨g, 0, none⟩ n cb xs (by rw [hsize]; exact hl) holds ad m c news (by rw [hsize]; exact hs.1) hcells (by omega) (by simp only [maxLen] at h63; omega) (by rw [hby]; exact growslice_fits (by omega) hbytes)
      rw [hr2] at hr
      injection hr with e1 e2
      rw [← e2]
      exact (h.drew).alloc _
variable {w}
theorem wp_append_kept {o : Oper} {a : Act} {K : Act → World → Prop} {Q : Exit → Act → World → Prop} (s x : Operand) (t : TypeId)
    (ho : o.op = .call { callee := .builtin .append, args := #[s, x], argTypes := #[t, t] })
    {e : TypeId} {i : TypeInfo} {z : Value} {size bytes : Nat} (ht : P.underlying t = some (.slice e)) (hi : P.info? e = some i) (hz : i.zero = some z)
    (hsize : i.size = size) (hby : i.bytes = bytes) (hzs : z.cells.size = size) (hsz : 0 < size)
    {v : Value} {n : Nat} {xs : List Value} {F : List Nat} (hs : a.eval s = v) (h : Fix w e size v n xs F)
    {A : Option Addr} {m c : Nat} {news : List Value} (hx : a.eval x = .slice A m c) (hr : Src w size A m news) (h1 : ∀ u ∈ news, u.oneCell' = true)
    (h63 : n + m ≤ maxLen) (hbytes : (n + m) * bytes ≤ 140737488355328)
    (hk : ∀ v' w' F', Appended w w' e size v v' n m xs news F F' → Fix w' e size v n xs F → K (a.put o.dst v') w') : o.wp P a w K Q := by
  obtain ⟨v', w', F', hrun, h2, h3⟩ := run_append_kept (P := P) (ty := o.type) w ht hi hz hsize hby hzs hsz h hr h1 h63 hbytes (c := c)
  unfold Oper.wp execOp
  simp only [ho, resolve, invoke, builtin, Sem.run_bind, Sem.run_pure, Result.andThen_ok, List.map_toArray, List.map_cons, List.map_nil, hs, hx, hrun]
  exact hk v' w' F' h2 h3
theorem wpList_append_kept {ops : Array Oper} {rest : List Oper} {o : Oper} {a : Act} {Q : Exit → Act → World → Prop} (hgd : o.guard = none) (s x : Operand) (t : TypeId)
    (ho : o.op = .call { callee := .builtin .append, args := #[s, x], argTypes := #[t, t] })
    {e : TypeId} {i : TypeInfo} {z : Value} {size bytes : Nat} (ht : P.underlying t = some (.slice e)) (hi : P.info? e = some i) (hz : i.zero = some z)
    (hsize : i.size = size) (hby : i.bytes = bytes) (hzs : z.cells.size = size) (hsz : 0 < size)
    {v : Value} {n : Nat} {xs : List Value} {F : List Nat} (hs : a.eval s = v) (h : Fix w e size v n xs F)
    {A : Option Addr} {m c : Nat} {news : List Value} (hx : a.eval x = .slice A m c) (hr : Src w size A m news) (h1 : ∀ u ∈ news, u.oneCell' = true)
    (h63 : n + m ≤ maxLen) (hbytes : (n + m) * bytes ≤ 140737488355328)
    (hk : ∀ v' w' F', Appended w w' e size v v' n m xs news F F' → Fix w' e size v n xs F → wpList P ops Q rest (a.put o.dst v') w') : wpList P ops Q (o :: rest) a w :=
  wpList_plain hgd fun _ hK => wp_append_kept s x t ho ht hi hz hsize hby hzs hsz hs h hx hr h1 h63 hbytes fun v' w' F' h2 h3 => hK _ _ (hk v' w' F' h2 h3)
theorem step_append_kept {ops : Array Oper} {o : Oper} {a : Act} {K : Act → World → Prop} {Q : Exit → Act → World → Prop} {E : Prop} (hgd : o.guard = none) (s x : Operand) (t : TypeId)
    (ho : o.op = .call { callee := .builtin .append, args := #[s, x], argTypes := #[t, t] })
    {e : TypeId} {i : TypeInfo} {z : Value} {size bytes : Nat} (ht : P.underlying t = some (.slice e)) (hi : P.info? e = some i) (hz : i.zero = some z)
    (hsize : i.size = size) (hby : i.bytes = bytes) (hzs : z.cells.size = size) (hsz : 0 < size)
    {v : Value} {n : Nat} {xs : List Value} {F : List Nat} (hs : a.eval s = v) (h : Fix w e size v n xs F)
    {A : Option Addr} {m c : Nat} {news : List Value} (hx : a.eval x = .slice A m c) (hr : Src w size A m news) (h1 : ∀ u ∈ news, u.oneCell' = true)
    (h63 : n + m ≤ maxLen) (hbytes : (n + m) * bytes ≤ 140737488355328)
    (hk : ∀ v' w' F', Appended w w' e size v v' n m xs news F F' → Fix w' e size v n xs F → K (a.put o.dst v') w') :
    if Region.wanted o (yielded ops a.tmps) = true then Oper.wp P o a w K Q else E := by
  rw [if_pos (by simp [Region.wanted, hgd])]
  exact wp_append_kept s x t ho ht hi hz hsize hby hzs hsz hs h hx hr h1 h63 hbytes hk
end
/-- A list that is kept: its slice, how many elements it has, their cells, its block (if it has one). -/
structure Kept where
  v : Value
  n : Nat
  xs : List Value
  F : List Nat
def Kept.At (w : World) (e : TypeId) (size : Nat) (K : Kept) : Prop := Fix w e size K.v K.n K.xs K.F
theorem Kept.At.chg {w w' : World} {e : TypeId} {size : Nat} {K : Kept} {S : List Nat} (h : K.At w e size) (k : Chg S w w') (hd : ∀ g, g ∈ K.F → g ∉ S) : K.At w' e size := Fix.chg h k hd
theorem Kept.At.lt {w : World} {e : TypeId} {size : Nat} {K : Kept} (h : K.At w e size) : ∀ g, g ∈ K.F → g < w.heap.size := Fix.lt h
/-- A variable's list of lists, each list in memory of its own: Ft is the block of the outer list. -/
structure KRow (w : World) (se e : TypeId) (size : Nat) (v : Value) (L : List Kept) (Ft : List Nat) : Prop where
  row : Fix w se 1 v L.length (L.map Kept.v) Ft
  each : ∀ K ∈ L, K.At w e size
  out : ∀ K ∈ L, ∀ g ∈ K.F, g ∉ Ft
  apart : L.Pairwise fun K M => ∀ g ∈ K.F, g ∉ M.F
def keptF (L : List Kept) : List Nat := L.flatMap Kept.F
theorem mem_keptF {L : List Kept} {K : Kept} (h : K ∈ L) : ∀ g, g ∈ K.F → g ∈ keptF L := fun g hg => List.mem_flatMap.2 ⟨K, h, hg⟩
/-- Marks: of the list i, n of them from a place on. -/
def marks (mk : Nat → Nat → List Value) (i from_ n : Nat) : List Value := (List.range' from_ n).flatMap (mk i)
theorem marks_succ (mk : Nat → Nat → List Value) (i f n : Nat) : marks mk i f (n + 1) = marks mk i f n ++ mk i (f + n) := by
  unfold marks
  rw [List.range'_1_concat, List.flatMap_append]
  simp
theorem marks_add (mk : Nat → Nat → List Value) (i f n : Nat) : ∀ m, marks mk i f (n + m) = marks mk i f n ++ marks mk i (f + n) m
  | 0 => by simp [marks]
  | m + 1 => by rw [← Nat.add_assoc, marks_succ, marks_add mk i f n m, marks_succ, List.append_assoc, Nat.add_assoc]
theorem marks_len {mk : Nat → Nat → List Value} {sz : Nat} (h : ∀ i k, (mk i k).length = sz) (i f : Nat) : ∀ n, (marks mk i f n).length = n * sz
  | 0 => by simp [marks]
  | n + 1 => by rw [marks_succ, List.length_append, marks_len h i f n, h, Nat.add_mul]; omega
theorem marks_one {mk : Nat → Nat → List Value} (h : ∀ i k, ∀ u ∈ mk i k, u.oneCell' = true) (i f n : Nat) : ∀ u ∈ marks mk i f n, u.oneCell' = true := by
  intro u hu
  unfold marks at hu
  obtain ⟨j, -, hj⟩ := List.mem_flatMap.1 hu
  exact h i j u hj
theorem marks_at {mk : Nat → Nat → List Value} (h : ∀ i k, (mk i k).length = 1) (i f n k : Nat) (hk : k < n) : (marks mk i f n)[k]? = (mk i (f + k))[0]? := by
  have e : n = k + (1 + (n - k - 1)) := by omega
  rw [e, marks_add, List.getElem?_append_right (by rw [marks_len h]; omega), marks_len h, marks_add, List.getElem?_append_left (by rw [marks_len h]; omega)]
  simp [marks]
/-- A list of lists that is only read: each holds its marks. -/
structure MRow (w : World) (se e : TypeId) (size : Nat) (mk : Nat → Nat → List Value) (v : Value) (Q : List Kept) (Ft R : List Nat) : Prop where
  row : Fix w se 1 v Q.length (Q.map Kept.v) Ft
  each : ∀ K ∈ Q, K.At w e size
  foot : ∀ K ∈ Q, ∀ g ∈ K.F, g ∈ R
  marked : ∀ k (hk : k < Q.length), Q[k].xs = marks mk k 0 Q[k].n
  small : ∀ K ∈ Q, K.n ≤ 100000
section
variable {w w' : World} {se e : TypeId} {size : Nat} {v : Value} {L : List Kept} {Ft S : List Nat}
theorem KRow.nil : KRow w se e size (.slice none 0 0) [] [] := ⟨Fix.nil _ _ _, by simp, by simp, List.Pairwise.nil⟩
theorem KRow.chg (h : KRow w se e size v L Ft) (k : Chg S w w') (h1 : ∀ g ∈ Ft, g ∉ S) (h2 : ∀ g ∈ keptF L, g ∉ S) : KRow w' se e size v L Ft :=
  ⟨h.row.chg k h1, fun K hK => (h.each K hK).chg k fun g hg => h2 g (mem_keptF hK g hg), h.out, h.apart⟩
theorem KRow.keep (h : KRow w se e size v L Ft) (k : Chg [] w w') : KRow w' se e size v L Ft := h.chg k (by simp) (by simp)
theorem KRow.lt (h : KRow w se e size v L Ft) : (∀ g ∈ Ft, g < w.heap.size) ∧ ∀ g ∈ keptF L, g < w.heap.size :=
  ⟨h.row.lt, fun g hg => by
    obtain ⟨K, hK, hg⟩ := List.mem_flatMap.1 hg
    exact (h.each K hK).lt g hg⟩
theorem KRow.slice (h : KRow w se e size v L Ft) : ∃ A c, v = .slice A L.length c ∧ L.length ≤ c ∧ c ≤ maxLen := by
  obtain ⟨A, c, rfl, h1, h2, h3, -⟩ := h.row
  exact ⟨A, c, rfl, h2, h3⟩
theorem KRow.at_ (h : KRow w se e size v L Ft) {k : Nat} (hk : k < L.length) : ∃ g c, v = .slice (some ⟨g, 0, none⟩) L.length c ∧ Ft = [g] ∧ w.cell? ⟨g, k, none⟩ = some (L[k].v) ∧ w.frozen? ⟨g, k, none⟩ = false := by
  obtain ⟨g, c, e1, _, _, e2, e3, e4⟩ := h.row.at_ (k := k) (j := 0) hk (by omega)
  rw [Nat.mul_one, Nat.add_zero] at e3 e4
  exact ⟨g, c, e1, e2, by rw [e3, List.getElem?_map, List.getElem?_eq_getElem hk]; rfl, e4⟩
theorem KRow.el (h : KRow w se e size v L Ft) {k : Nat} (hk : k < L.length) : L[k].At w e size := h.each _ (List.getElem_mem hk)
/-- One more list at the end: 'b.l = append(b.l, l)'. -/
theorem KRow.push {v' : Value} {Ft' : List Nat} {K : Kept} (h : KRow w se e size v L Ft) (ha : Appended w w' se 1 v v' L.length 1 (L.map Kept.v) [K.v] Ft Ft')
    (hK : K.At w e size) (h1 : ∀ g ∈ K.F, g ∉ Ft) (h2 : ∀ g ∈ K.F, g ∉ keptF L) : KRow w' se e size v' (L ++ [K]) Ft' := by
  have hm : ∀ M ∈ L ++ [K], M.At w e size ∧ (∀ g ∈ M.F, g ∉ Ft) := by
    intro M hM
    rcases List.mem_append.1 hM with hM | hM
    · exact ⟨h.each M hM, h.out M hM⟩
    · obtain rfl : M = K := by simpa using hM
      exact ⟨hK, h1⟩
  refine ⟨by have := ha.fix; simpa using this, fun M hM => ((hm M hM).1).chg ha.chg (hm M hM).2, fun M hM g hg => ?_, ?_⟩
  · rcases ha.foot with e | e
    · rw [e]; exact (hm M hM).2 g hg
    · rw [e]
      have := (hm M hM).1.lt g hg
      simp
      omega
  · rw [List.pairwise_append]
    refine ⟨h.apart, List.pairwise_singleton _ _, fun A hA B hB g hg hgB => ?_⟩
    obtain rfl : B = K := by simpa using hB
    exact h2 g hgB (mem_keptF hA g hg)
theorem KRow.far {p : Nat} {t : TypeId} {cs : Array Value} (h : KRow w se e size v L Ft) (hb : Blk w p t cs) (h1 : se ≠ t) (h2 : e ≠ t) : p ∉ Ft ∧ p ∉ keptF L := by
  refine ⟨h.row.ne_blk hb h1, fun hp => ?_⟩
  obtain ⟨K, hK, hg⟩ := List.mem_flatMap.1 hp
  exact Fix.ne_blk (h.each K hK) hb h2 hg
/-- Two lists of lists whose elements are of two types. -/
theorem KRow.split {se' e' : TypeId} {size' : Nat} {v' : Value} {L' : List Kept} {Ft' : List Nat} (h : KRow w se e size v L Ft) (h' : KRow w se' e' size' v' L' Ft') (h1 : se ≠ e') (h2 : e ≠ se') :
    (∀ g ∈ Ft, g ∉ keptF L') ∧ ∀ g ∈ keptF L, g ∉ Ft' := by
  refine ⟨fun g hg hg2 => ?_, fun g hg hg2 => ?_⟩
  · obtain ⟨K, hK, hk⟩ := List.mem_flatMap.1 hg2
    exact h.row.disj (h'.each K hK) h1 g hg hk
  · obtain ⟨K, hK, hk⟩ := List.mem_flatMap.1 hg
    exact Fix.disj (h.each K hK) h'.row h2 g hk hg2
theorem keptF_push {K : Kept} : keptF (L ++ [K]) = keptF L ++ K.F := by simp [keptF]
/-- A list's contents are written. -/
theorem KRow.set_ (h : KRow w se e size v L Ft) {k : Nat} (hk : k < L.length) {xs' : List Value} (hc : Chg L[k].F w w') (hf : Fix w' e size L[k].v L[k].n xs' L[k].F) :
    KRow w' se e size v (L.set k { L[k] with xs := xs' }) Ft := by
  have hout := h.out _ (List.getElem_mem hk)
  have hap : ∀ M ∈ L.set k { L[k] with xs := xs' }, M = { L[k] with xs := xs' } ∨ (M.At w' e size ∧ M ∈ L) := by
    intro M hM
    obtain ⟨j, hj, rfl⟩ := List.mem_iff_getElem.1 hM
    rw [List.getElem_set]
    simp only [List.length_set] at hj
    split
    · exact .inl rfl
    · rename_i hne
      refine .inr ⟨(h.el hj).chg hc fun g hg hg2 => ?_, List.getElem_mem _⟩
      rcases Nat.lt_or_ge j k with hlt | hge
      · exact List.pairwise_iff_getElem.1 h.apart j k hj hk hlt g hg hg2
      · exact List.pairwise_iff_getElem.1 h.apart k j hk hj (by omega) g hg2 hg
  refine ⟨?_, fun M hM => ?_, fun M hM => ?_, ?_⟩
  · have e1 : (L.set k { L[k] with xs := xs' }).map Kept.v = L.map Kept.v := by
      rw [List.map_set]
      apply List.ext_getElem?
      intro i
      rw [List.getElem?_set]
      split
      · rename_i e
        subst e
        simp [hk]
      · rfl
    rw [e1, List.length_set]
    exact h.row.chg hc fun g hg hg2 => hout g hg2 hg
  · rcases hap M hM with rfl | ⟨h1, _⟩
    · exact hf
    · exact h1
  · rcases hap M hM with rfl | ⟨_, h1⟩
    · exact hout
    · exact h.out M h1
  · rw [List.pairwise_iff_getElem]
    intro i j hi hj hij g hg
    simp only [List.length_set] at hi hj
    have key : ∀ m (hm : m < L.length) (hm2 : m < (L.set k { L[k] with xs := xs' }).length), ((L.set k { L[k] with xs := xs' })[m]'hm2).F = L[m].F := by
      intro m hm hm2
      rw [List.getElem_set]
      split
      · rename_i e
        subst e
        rfl
      · rfl
    rw [key j hj] 
    rw [key i hi] at hg
    exact List.pairwise_iff_getElem.1 h.apart i j hi hj hij g hg
theorem keptF_set {k : Nat} (hk : k < L.length) {xs' : List Value} : keptF (L.set k { L[k] with xs := xs' }) = keptF L := by
  unfold keptF
  rw [List.flatMap_def, List.flatMap_def, List.map_set]
  congr 1
  apply List.ext_getElem?
  intro i
  rw [List.getElem?_set]
  split
  · rename_i e
    subst e
    simp [hk]
  · rfl
theorem MRow.chg {mk : Nat → Nat → List Value} {R : List Nat} (h : MRow w se e size mk v L Ft R) (k : Chg S w w') (h1 : ∀ g ∈ Ft, g ∉ S) (h2 : ∀ g ∈ R, g ∉ S) : MRow w' se e size mk v L Ft R :=
  ⟨h.row.chg k h1, fun K hK => (h.each K hK).chg k fun g hg => h2 g (h.foot K hK g hg), h.foot, h.marked, h.small⟩
theorem MRow.at_ {mk : Nat → Nat → List Value} {R : List Nat} (h : MRow w se e size mk v L Ft R) {k : Nat} (hk : k < L.length) : ∃ g c, v = .slice (some ⟨g, 0, none⟩) L.length c ∧ Ft = [g] ∧ w.cell? ⟨g, k, none⟩ = some (L[k].v) ∧ w.frozen? ⟨g, k, none⟩ = false := by
  obtain ⟨g, c, e1, _, _, e2, e3, e4⟩ := h.row.at_ (k := k) (j := 0) hk (by omega)
  rw [Nat.mul_one, Nat.add_zero] at e3 e4
  exact ⟨g, c, e1, e2, by rw [e3, List.getElem?_map, List.getElem?_eq_getElem hk]; rfl, e4⟩
theorem MRow.el {mk : Nat → Nat → List Value} {R : List Nat} (h : MRow w se e size mk v L Ft R) {k : Nat} (hk : k < L.length) : L[k].At w e size := h.each _ (List.getElem_mem hk)
/-- The first k lists are marked. -/
def putTo (mk : Nat → Nat → List Value) (L : List Kept) (k : Nat) : List Kept := L.mapIdx fun j K => if j < k then { K with xs := marks mk j 0 K.n } else K
theorem putTo_len (mk : Nat → Nat → List Value) (L : List Kept) (k : Nat) : (putTo mk L k).length = L.length := by simp [putTo]
theorem putTo_zero (mk : Nat → Nat → List Value) (L : List Kept) : putTo mk L 0 = L := by
  apply List.ext_getElem?
  intro i
  simp [putTo]
theorem putTo_at (mk : Nat → Nat → List Value) (L : List Kept) {k j : Nat} (hj : j < L.length) : (putTo mk L k)[j]'(by rw [putTo_len]; exact hj) = if j < k then { L[j] with xs := marks mk j 0 L[j].n } else L[j] := by
  simp [putTo]
theorem putTo_succ (mk : Nat → Nat → List Value) (L : List Kept) {k : Nat} (hk : k < L.length) : putTo mk L (k + 1) = (putTo mk L k).set k { (putTo mk L k)[k]'(by rw [putTo_len]; exact hk) with xs := marks mk k 0 L[k].n } := by
  apply List.ext_getElem (by simp [putTo_len])
  intro i h1 h2
  rw [putTo_len] at h1
  rw [putTo_at mk L h1, List.getElem_set]
  by_cases e : k = i
  · subst e
    rw [if_pos (by omega), if_pos rfl, putTo_at mk L h1, if_neg (by omega)]
  · rw [if_neg e, putTo_at mk L h1]
    by_cases h : i < k
    · rw [if_pos (by omega), if_pos h]
    · rw [if_neg (by omega), if_neg h]
theorem putTo_marked (mk : Nat → Nat → List Value) (L : List Kept) {j : Nat} (hj : j < (putTo mk L L.length).length) : ((putTo mk L L.length)[j]'hj).xs = marks mk j 0 ((putTo mk L L.length)[j]'hj).n := by
  have h : j < L.length := by rw [putTo_len] at hj; exact hj
  rw [putTo_at mk L h, if_pos h]
theorem putTo_keptF (mk : Nat → Nat → List Value) (L : List Kept) : ∀ k, k ≤ L.length → keptF (putTo mk L k) = keptF L
  | 0, _ => by rw [putTo_zero]
  | k + 1, h => by rw [putTo_succ mk L (by omega), keptF_set (by rw [putTo_len]; omega), putTo_keptF mk L k (by omega)]
theorem putTo_n (mk : Nat → Nat → List Value) (L : List Kept) (k : Nat) {N : Nat} (h : ∀ K ∈ L, K.n ≤ N) : ∀ K ∈ putTo mk L k, K.n ≤ N := by
  intro K hK
  obtain ⟨j, hj, rfl⟩ := List.mem_iff_getElem.1 hK
  rw [putTo_len] at hj
  rw [putTo_at mk L hj]
  have := h _ (List.getElem_mem hj)
  split <;> exact this
end
end Go.Vx
