/- append onto a row that is nil, of no capacity, or the call's own: one law. No program. -/
import Derived.Test.YtlgfmphjgijilaaCore
namespace Go.Vx
open Go.RowKit
set_option linter.unusedVariables false
set_option linter.unusedSimpArgs false

/-- What a slice of m elements reads as; nil and empty ones let in. -/
def Src (w : World) (size : Nat) (A : Option Addr) (m : Nat) (news : List Value) : Prop :=
  news.length = m * size ∧ (0 < m → ∃ ad, A = some ad ∧ ∀ j u, news[j]? = some u → w.cell? (ad.add j) = some u)

theorem Fix.own {w : World} {e : TypeId} {size n : Nat} {v : Value} {xs : List Value} {F : List Nat} (h : Fix w e size v n xs F) (hF : F ≠ []) : w.ownsRow 0 e size v n xs ∧ ∃ g, F = [g] ∧ v.ownBlock = some g := by
  obtain ⟨A, c, rfl, h1, h2, h3, h4⟩ := h
  rcases h4 with ⟨_, rfl⟩ | ⟨g, cur, rfl, rfl, hb, hs, ht⟩
  · exact absurd rfl hF
  · exact ⟨⟨h1, .inr ⟨g, c, cur, rfl, Nat.zero_le _, hb, h2, h3, hs, ht⟩⟩, g, rfl, rfl⟩
theorem Fix.of_own {w : World} {base : Nat} {e : TypeId} {size n : Nat} {v : Value} {xs : List Value} (h : w.ownsRow base e size v n xs) : Fix w e size v n xs v.ownBlock.toList := by
  obtain ⟨h1, h2⟩ := h
  rcases h2 with ⟨rfl, rfl⟩ | ⟨g, c, cur, rfl, _, hb, h2, h3, hs, ht⟩
  · exact ⟨none, 0, rfl, h1, Nat.le_refl _, Nat.zero_le _, .inl ⟨rfl, rfl⟩⟩
  · exact ⟨_, c, rfl, h1, h2, h3, .inr ⟨g, cur, rfl, rfl, hb, hs, ht⟩⟩
theorem Fix.nil (w : World) (e : TypeId) (size : Nat) : Fix w e size (.slice none 0 0) 0 [] [] := ⟨none, 0, rfl, by simp, Nat.le_refl _, Nat.zero_le _, .inl ⟨rfl, rfl⟩⟩
theorem Fix.src {w : World} {e : TypeId} {size n c : Nat} {A : Option Addr} {xs : List Value} {F : List Nat} (h : Fix w e size (.slice A n c) n xs F) : Src w size A n xs := by
  obtain ⟨A', c', hv, h1, h2, h3, h4⟩ := h
  injection hv with ha _ hc
  subst ha hc
  refine ⟨h1, fun hn => ?_⟩
  rcases h4 with ⟨rfl, rfl⟩ | ⟨g, cur, rfl, rfl, hb, hs, ht⟩
  · omega
  · refine ⟨_, rfl, fun j u hu => ?_⟩
    have hj : j < n * size := by rw [← h1]; exact (List.getElem?_eq_some_iff.1 hu).1
    rw [show (⟨g, 0, none⟩ : Addr).add j = ⟨g, j, none⟩ by unfold Addr.add; split <;> simp_all, hb.cell, ← hu, ← ht, List.getElem?_take, if_pos hj]
    simp
theorem Fix.empty (w : World) (e : TypeId) (size : Nat) (A : Option Addr) : Fix w e size (.slice A 0 0) 0 [] [] := ⟨A, 0, rfl, by simp, Nat.le_refl _, Nat.zero_le _, .inl ⟨rfl, rfl⟩⟩
theorem add_block (a : Addr) (n : Nat) : (a.add n).block = a.block := by unfold Addr.add; split <;> rfl
/-- What is read stays under changes elsewhere. -/
theorem Src.keep {w w' : World} {size m : Nat} {A : Option Addr} {news : List Value} (h : Src w size A m news) (hk : ∀ ad, A = some ad → ∀ j v, w.cell? (ad.add j) = some v → w'.cell? (ad.add j) = some v) : Src w' size A m news :=
  ⟨h.1, fun hm => by
    obtain ⟨ad, ha, hc⟩ := h.2 hm
    exact ⟨ad, ha, fun j u hu => hk ad ha j u (hc j u hu)⟩⟩
theorem Src.chg {w w' : World} {size m : Nat} {A : Option Addr} {news : List Value} {S : List Nat} (h : Src w size A m news) (k : Chg S w w') (hS : ∀ ad, A = some ad → ad.block ∉ S) : Src w' size A m news :=
  h.keep fun ad ha j v hv => by
    have hb := World.block_lt_of_cell? w _ hv
    rw [k.cell hb (by rw [add_block]; exact hS ad ha)]
    exact hv
theorem Src.alloc {w : World} {size m : Nat} {A : Option Addr} {news : List Value} (h : Src w size A m news) (o : Obj) : Src (w.alloc o) size A m news :=
  h.chg (S := []) ((Chg.refl _ _).alloc o) (by simp)
/-- One element in a block of its own. -/
theorem Src.one_ {w : World} {t : TypeId} {cs : Array Value} {B size : Nat} (hB : w.heap.size = B) (hs : cs.size = size) : Src (w.alloc (.cells cs t)) size (some ⟨B, 0, none⟩) 1 cs.toList :=
  ⟨by simp [hs], fun _ => ⟨_, rfl, fun j u hu => by
    subst hB
    rw [show (⟨w.heap.size, 0, none⟩ : Addr).add j = ⟨w.heap.size, j, none⟩ by unfold Addr.add; split <;> simp_all, (Blk.new w t cs).cell]
    simpa using hu⟩⟩
theorem Src.lit {w : World} {t : TypeId} {cs : Array Value} {B size m : Nat} (hB : w.heap.size = B) (hs : cs.size = m * size) : Src (w.alloc (.cells cs t)) size (some ⟨B, 0, none⟩) m cs.toList :=
  ⟨by simp [hs], fun _ => ⟨_, rfl, fun j u hu => by
    subst hB
    rw [show (⟨w.heap.size, 0, none⟩ : Addr).add j = ⟨w.heap.size, j, none⟩ by unfold Addr.add; split <;> simp_all, (Blk.new w t cs).cell]
    simpa using hu⟩⟩
theorem Src.one1 {w : World} {t : TypeId} {x : Value} {B : Nat} (hB : w.heap.size = B) : Src (w.alloc (.cells #[x] t)) 1 (some ⟨B, 0, none⟩) 1 [x] := Src.one_ hB rfl
theorem Src.one2 {w : World} {t : TypeId} {x y : Value} {B : Nat} (hB : w.heap.size = B) : Src (w.alloc (.cells #[x, y] t)) 2 (some ⟨B, 0, none⟩) 1 [x, y] := Src.one_ hB rfl
theorem Src.one3 {w : World} {t : TypeId} {x y z : Value} {B : Nat} (hB : w.heap.size = B) : Src (w.alloc (.cells #[x, y, z] t)) 3 (some ⟨B, 0, none⟩) 1 [x, y, z] := Src.one_ hB rfl
theorem Src.one4 {w : World} {t : TypeId} {x y z u : Value} {B : Nat} (hB : w.heap.size = B) : Src (w.alloc (.cells #[x, y, z, u] t)) 4 (some ⟨B, 0, none⟩) 1 [x, y, z, u] := Src.one_ hB rfl
theorem madeCells_replicate (x : Value) (n : Nat) : madeCells #[x] n = Array.replicate n x := by
  apply Array.ext
  · simp [size_madeCells]
  · intro i h1 h2
    simp [madeCells, Nat.mod_one]
/-- A row that was made just now. -/
theorem Fix.made (w : World) (e : TypeId) (x : Value) (n : Nat) (hn : n ≤ maxLen) : Fix (w.alloc (.cells (madeCells #[x] n) e)) e 1 (.slice (some ⟨w.heap.size, 0, none⟩) n n) n (List.replicate n x) (if n = 0 then [] else [w.heap.size]) := by
  refine ⟨_, n, rfl, by simp, Nat.le_refl _, hn, ?_⟩
  by_cases h : n = 0
  · subst h; exact .inl ⟨rfl, rfl⟩
  · refine .inr ⟨w.heap.size, _, rfl, by simp [h], Blk.new _ _ _, by simp [size_madeCells], ?_⟩
    simp [madeCells_replicate]
section
variable {P : Program} (w : World)
theorem run_append_zero {t ty e : TypeId} {i : TypeInfo} (ht : P.underlying t = some (.slice e)) (hi : P.info? e = some i) {A A' : Option Addr} {n c c' : Nat} (hc : n ≤ c) :
    (Builtin.append_ #[t, t] ty #[.slice A n c, .slice A' 0 c']).run P w = .ok (.slice A n c) w := by
  cases A <;> cases A' <;> simp [Builtin.append_, run_underlying ht, sizeOf, typeInfo, hi, Builtin.lenOf, Builtin.firstCells, hc, storeCells, loadCells, loadCellsFrom]
/-- What an append leaves. -/
structure Appended (w w' : World) (e : TypeId) (size : Nat) (v v' : Value) (n m : Nat) (xs news : List Value) (F F' : List Nat) : Prop where
  fix : Fix w' e size v' (n + m) (xs ++ news) F'
  chg : Chg F w w'
  foot : F' = F ∨ F' = [w.heap.size]
  same : m = 0 → v' = v ∧ w' = w ∧ F' = F
  head : 0 < m → ∃ g c, v' = .slice (some ⟨g, 0, none⟩) (n + m) c ∧ F' = [g]
theorem run_append_fix {t ty e : TypeId} {i : TypeInfo} {z : Value} {size bytes : Nat} (ht : P.underlying t = some (.slice e)) (hi : P.info? e = some i) (hz : i.zero = some z)
    (hsize : i.size = size) (hby : i.bytes = bytes) (hzs : z.cells.size = size) (hsz : 0 < size)
    {v : Value} {n : Nat} {xs : List Value} {F : List Nat} (h : Fix w e size v n xs F)
    {A : Option Addr} {m c : Nat} {news : List Value} (hs : Src w size A m news) (h1 : ∀ u ∈ news, u.oneCell' = true)
    (h63 : n + m ≤ maxLen) (hbytes : (n + m) * bytes ≤ 140737488355328) :
    ∃ v' w' F', (Builtin.append_ #[t, t] ty #[v, .slice A m c]).run P w = .ok v' w' ∧ Appended w w' e size v v' n m xs news F F' := by
  rcases Nat.eq_zero_or_pos m with rfl | hm
  · obtain ⟨B, cb, rfl, hl, hnc, -⟩ := id h
    have hn : news = [] := List.eq_nil_of_length_eq_zero (by simpa using hs.1)
    subst hn
    exact ⟨_, _, F, run_append_zero w ht hi hnc, by simpa using h, Chg.refl _ _, .inl rfl, fun _ => ⟨rfl, rfl, rfl⟩, by omega⟩
  · obtain ⟨ad, rfl, hcells⟩ := hs.2 hm
    by_cases hF : F = []
    · subst hF
      obtain ⟨B, cb, rfl, hl, hnc, hcm, h4⟩ := id h
      have h0 : cb = 0 := by
        rcases h4 with ⟨rfl, _⟩ | ⟨g, cur, _, hF, _⟩
        · rfl
        · cases hF
      subst h0
      obtain rfl : n = 0 := by omega
      have hx : xs = [] := List.eq_nil_of_length_eq_zero (by simpa using hl)
      subst hx
      have key : ∃ v' w', (Builtin.append_ #[t, t] ty #[.slice B 0 0, .slice (some ad) m c]).run P w = .ok v' w' ∧ (Builtin.append_ #[t, t] ty #[.slice none 0 0, .slice (some ad) m c]).run P w = .ok v' w' := by
        subst hsize hby
        have hr := run_append_nil (P := P) w t ty e i z ht hi hz ad m c news hs.1 hcells hm (by simp only [maxLen] at h63; omega) (by have hb := hbytes; simp only [Nat.zero_add] at hb; omega)
        cases B with
        | none => exact ⟨_, _, hr, hr⟩
        | some b =>
          have hr2 := run_append_grow (P := P) w t ty e i z ht hi hz b 0 0 [] (by simp) (by simp) ad m c news hs.1 hcells (by omega) (by simp only [maxLen] at h63; omega) (growslice_fits (by omega) hbytes)
          simp only [Nat.zero_add, Array.empty_append] at hr2
          exact ⟨_, _, hr2, hr⟩
      obtain ⟨v', w', hk1, hk2⟩ := key
      obtain ⟨v2, w2, hr, ho, hg, hnil, hat⟩ := run_append_own_at (P := P) w 0 t ty e i z size bytes ht hi hz hsize hby hzs hsz (.slice none 0 0) 0 [] own_nil ad m c news hs.1 hcells h1 h63 hbytes (Nat.zero_le _)
      rw [hk2] at hr
      injection hr with e1 e2
      subst e1 e2
      have hv : v'.ownBlock = some w.heap.size := by
        rcases hat with h | h
        · rcases ho.2 with ⟨rfl, h0⟩ | ⟨g, cap, cur, rfl, _⟩
          · omega
          · simp [Value.ownBlock] at h
        · exact h
      refine ⟨v', w', [w.heap.size], hk1, by have := Fix.of_own ho; rw [hv] at this; simpa using this, ?_, .inr rfl, by omega, fun _ => ?_⟩
      · exact (Chg.refl _ _).grown hg (by simp [Value.ownBlock])
      · rcases ho.2 with ⟨rfl, h0⟩ | ⟨g, cap, cur, rfl, _⟩
        · omega
        · simp [Value.ownBlock] at hv
          subst hv
          exact ⟨_, cap, rfl, rfl⟩
    · obtain ⟨ho, g, rfl, hv⟩ := h.own hF
      obtain ⟨v2, w2, hr, ho2, hg, hnil, hat⟩ := run_append_own_at (P := P) w 0 t ty e i z size bytes ht hi hz hsize hby hzs hsz v n xs ho ad m c news hs.1 hcells h1 h63 hbytes (Nat.zero_le _)
      have hf := Fix.of_own ho2
      refine ⟨v2, w2, v2.ownBlock.toList, hr, hf, ?_, ?_, by omega, fun _ => ?_⟩
      · rw [hv] at hg
        exact (Chg.refl _ _).grown hg (by simp)
      · rcases hat with h | h
        · left; rw [h, hv]; rfl
        · right; rw [h]; rfl
      · rcases ho2.2 with ⟨rfl, h0⟩ | ⟨g', cap, cur, rfl, _⟩
        · omega
        · exact ⟨g', cap, rfl, rfl⟩

variable {w}
theorem wp_append_fix {o : Oper} {a : Act} {K : Act → World → Prop} {Q : Exit → Act → World → Prop} (s x : Operand) (t : TypeId)
    (ho : o.op = .call { callee := .builtin .append, args := #[s, x], argTypes := #[t, t] })
    {e : TypeId} {i : TypeInfo} {z : Value} {size bytes : Nat} (ht : P.underlying t = some (.slice e)) (hi : P.info? e = some i) (hz : i.zero = some z)
    (hsize : i.size = size) (hby : i.bytes = bytes) (hzs : z.cells.size = size) (hsz : 0 < size)
    {v : Value} {n : Nat} {xs : List Value} {F : List Nat} (hs : a.eval s = v) (h : Fix w e size v n xs F)
    {A : Option Addr} {m c : Nat} {news : List Value} (hx : a.eval x = .slice A m c) (hr : Src w size A m news) (h1 : ∀ u ∈ news, u.oneCell' = true)
    (h63 : n + m ≤ maxLen) (hbytes : (n + m) * bytes ≤ 140737488355328)
    (hk : ∀ v' w' F', Appended w w' e size v v' n m xs news F F' → K (a.put o.dst v') w') : o.wp P a w K Q := by
  obtain ⟨v', w', F', hrun, h2⟩ := run_append_fix (P := P) (ty := o.type) w ht hi hz hsize hby hzs hsz h hr h1 h63 hbytes (c := c)
  unfold Oper.wp execOp
  simp only [ho, resolve, invoke, builtin, Sem.run_bind, Sem.run_pure, Result.andThen_ok, List.map_toArray, List.map_cons, List.map_nil, hs, hx, hrun]
  exact hk v' w' F' h2
/-- In a plain region: behind 'at_builtin'. -/
theorem wpList_append_fix {ops : Array Oper} {rest : List Oper} {o : Oper} {a : Act} {Q : Exit → Act → World → Prop} (hgd : o.guard = none) (s x : Operand) (t : TypeId)
    (ho : o.op = .call { callee := .builtin .append, args := #[s, x], argTypes := #[t, t] })
    {e : TypeId} {i : TypeInfo} {z : Value} {size bytes : Nat} (ht : P.underlying t = some (.slice e)) (hi : P.info? e = some i) (hz : i.zero = some z)
    (hsize : i.size = size) (hby : i.bytes = bytes) (hzs : z.cells.size = size) (hsz : 0 < size)
    {v : Value} {n : Nat} {xs : List Value} {F : List Nat} (hs : a.eval s = v) (h : Fix w e size v n xs F)
    {A : Option Addr} {m c : Nat} {news : List Value} (hx : a.eval x = .slice A m c) (hr : Src w size A m news) (h1 : ∀ u ∈ news, u.oneCell' = true)
    (h63 : n + m ≤ maxLen) (hbytes : (n + m) * bytes ≤ 140737488355328)
    (hk : ∀ v' w' F', Appended w w' e size v v' n m xs news F F' → wpList P ops Q rest (a.put o.dst v') w') : wpList P ops Q (o :: rest) a w :=
  wpList_plain hgd fun _ hK => wp_append_fix s x t ho ht hi hz hsize hby hzs hsz hs h hx hr h1 h63 hbytes fun v' w' F' h2 => hK _ _ (hk v' w' F' h2)
/-- In a region that draws: for 'go_region_law', 'go_region_held3'. -/
theorem step_append_fix {ops : Array Oper} {o : Oper} {a : Act} {K : Act → World → Prop} {Q : Exit → Act → World → Prop} {E : Prop} (hgd : o.guard = none) (s x : Operand) (t : TypeId)
    (ho : o.op = .call { callee := .builtin .append, args := #[s, x], argTypes := #[t, t] })
    {e : TypeId} {i : TypeInfo} {z : Value} {size bytes : Nat} (ht : P.underlying t = some (.slice e)) (hi : P.info? e = some i) (hz : i.zero = some z)
    (hsize : i.size = size) (hby : i.bytes = bytes) (hzs : z.cells.size = size) (hsz : 0 < size)
    {v : Value} {n : Nat} {xs : List Value} {F : List Nat} (hs : a.eval s = v) (h : Fix w e size v n xs F)
    {A : Option Addr} {m c : Nat} {news : List Value} (hx : a.eval x = .slice A m c) (hr : Src w size A m news) (h1 : ∀ u ∈ news, u.oneCell' = true)
    (h63 : n + m ≤ maxLen) (hbytes : (n + m) * bytes ≤ 140737488355328)
    (hk : ∀ v' w' F', Appended w w' e size v v' n m xs news F F' → K (a.put o.dst v') w') :
    if Region.wanted o (yielded ops a.tmps) = true then Oper.wp P o a w K Q else E := by
  rw [if_pos (by simp [Region.wanted, hgd])]
  exact wp_append_fix s x t ho ht hi hz hsize hby hzs hsz hs h hx hr h1 h63 hbytes hk
end
end Go.Vx
