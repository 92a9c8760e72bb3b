/- AgendaPlays: what stands between two acts; the reference's PutItem at every list; parts of its list. -/
import Derived.Test.YtkpegffoebmhmaaAgM
import Derived.Test.YtkpegffoebmhmaaAgN
import Derived.Test.YtkpegffoebmhmaaAgO
import Derived.Test.YtkpegffoebmhmaaAgP
namespace Go.Proofs.Ytkpegffoebmhmaa
open Go.RowKit Go.Vx
set_option linter.unusedVariables false
set_option linter.unusedSimpArgs false

theorem RItems.tight {w : World} {v : Value} {l : List Item} {F : List Nat} (h : RItems w v l F) : ∃ F0, RItems w v l F0 ∧ (∀ g, g ∈ F0 → g ∈ F) ∧ ∀ g, g ∈ F0 → g < w.heap.size := by
  obtain ⟨A, c, rfl, h1, h2, h3, h4⟩ := h
  rcases Nat.eq_zero_or_pos l.length with h0 | h0
  · exact ⟨[], ⟨A, c, rfl, h1, h2, h3, fun ad h => by omega⟩, by simp, by simp⟩
  · obtain ⟨ad, rfl, hc⟩ := h3.2 h0
    refine ⟨[ad.block], ⟨_, c, rfl, h1, h2, h3, fun ad' _ e => by injection e with e; subst e; simp⟩, fun g hg => ?_, fun g hg => ?_⟩
    · obtain rfl : g = ad.block := by simpa using hg
      exact h4 ad h0 rfl
    · obtain rfl : g = ad.block := by simpa using hg
      exact Go.Clock.block_lt (hc 0 _ (List.getElem?_eq_getElem (by rw [h3.1]; omega)))
theorem r_put {w : World} {v : Value} {l : List Item} {F : List Nat} (h : RItems w v l F) (hl : l.length ≤ 1000) (x : Item) :
    Calls Try.prog 10 #[v, .agg #[.int .i64 x.1, .int .i64 x.2.1, .int .i64 x.2.2]] w fun e w' => ∃ v' F', e = .returned v' ∧ RItems w' v' (putItem l x) F' ∧ (∀ g, g ∈ F' → g ∈ F ∨ w.heap.size ≤ g) ∧ Chg [] w w' := by
  by_cases hb : l.length < 1000
  · refine (r_putItem h hb x).mono ?_
    rintro e w' ⟨v', F', rfl, h1, h2, h3⟩
    refine ⟨v', F', rfl, ?_, fun g hg => .inr (h2 g hg), h3⟩
    unfold putItem
    rw [if_neg (by omega)]
    exact h1
  · refine (r_putFull h (by omega) (by omega) x).mono ?_
    rintro e w' ⟨rfl, h1⟩
    refine ⟨v, F, rfl, ?_, fun g hg => .inl hg, h1⟩
    unfold putItem
    rw [if_pos (by omega)]
    exact h.chg h1 (by simp)
theorem RItems.take {w : World} {A : Option Addr} {c : Nat} {l : List Item} {F : List Nat} (h : RItems w (.slice A l.length c) l F) {k : Nat} (hk : k ≤ l.length) : RItems w (.slice A k c) (l.take k) F := by
  obtain ⟨A', c', e, h1, h2, h3, h4⟩ := h
  injection e with e1 _ e2
  subst e1 e2
  have hl : (l.take k).length = k := by rw [List.length_take]; omega
  refine ⟨A, c, by rw [hl], by omega, h2, ?_, fun ad h0 e => h4 ad (by omega) e⟩
  rw [hl]
  exact Src.take3 h3 rfl hk
theorem RItems.drop {w : World} {ad : Addr} {c : Nat} {l : List Item} {F : List Nat} (h : RItems w (.slice (some ad) l.length c) l F) {k : Nat} (hk : k ≤ l.length) : RItems w (.slice (some (ad.add (k * 3))) (l.length - k) (c - k)) (l.drop k) F := by
  obtain ⟨A', c', e, h1, h2, h3, h4⟩ := h
  injection e with e1 _ e2
  subst e1 e2
  have hl : (l.drop k).length = l.length - k := by rw [List.length_drop]
  refine ⟨_, _, by rw [hl], by rw [hl]; omega, by omega, ?_, fun ad' h0 e => ?_⟩
  · rw [hl]
    exact Src.drop3 h3 rfl hk
  · injection e with e
    subst e
    rw [add_block]
    exact h4 ad (by omega) rfl
theorem RItems.nil {w : World} {A : Option Addr} {c : Nat} (hc : c ≤ maxLen) (F : List Nat) : RItems w (.slice A 0 c) [] F :=
  ⟨A, c, rfl, Nat.zero_le _, hc, ⟨rfl, fun h => by simp at h⟩, fun ad h => by simp at h⟩

/-- The list without its first item. -/
theorem RItems.tail {w : World} {ad : Addr} {c n : Nat} {x : Item} {l : List Item} {F : List Nat} (h : RItems w (.slice (some ad) (n + 1) c) (x :: l) F) (hn : l.length = n) : (RItems w (.slice (some ⟨ad.block, ad.off + 3, none⟩) n (c - 1)) l F) ∧ (c = 1 → RItems w (.slice (some ad) n 0) l F) := by
  subst hn
  have h2 := RItems.drop (l := x :: l) h (k := 1) (by rw [List.length_cons]; omega)
  refine ⟨?_, fun hc => ?_⟩
  · have e : ad.add (1 * 3) = ⟨ad.block, ad.off + 3, none⟩ := by simp [Addr.add]
    rw [e] at h2
    simpa using h2
  · subst hc
    obtain ⟨A', c', e, h3, -⟩ := h
    injection e with _ _ e
    rw [← e, List.length_cons] at h3
    have h0 : l = [] := List.eq_nil_of_length_eq_zero (by omega)
    subst h0
    exact RItems.nil (by simp) F
/-- What stands between two acts. -/
structure PA (w wr : World) (p : Nat) (S : List Slot) (m : Int) (F : List Nat) (rv : Value) (FR : List Nat) : Prop where
  ag : AgAt wr p S m F
  rs : RItems wr rv (S.map item) FR
  dis : ∀ g, g ∈ FR → g ∉ p :: F
  far : ∀ g, g ∈ p :: F → w.heap.size ≤ g
  old : Old S m
  len : S.length ≤ 1000
  m0 : 0 ≤ m
  chg : Chg [] w wr
theorem PA.quiet {w wr w' : World} {p : Nat} {S : List Slot} {m : Int} {F : List Nat} {rv : Value} {FR : List Nat} (h : PA w wr p S m F rv FR) (k : Chg [] wr w') : PA w w' p S m F rv FR :=
  ⟨h.ag.chg k (by simp), h.rs.chg k (by simp), h.dis, h.far, h.old, h.len, h.m0, h.chg.trans' k⟩
/-- An act on the agenda: the document's list stays where it is. -/
theorem PA.act {w wr w' : World} {p : Nat} {S S' : List Slot} {m m' : Int} {F F' : List Nat} {rv rv' : Value} {FR FR' : List Nat} (h : PA w wr p S m F rv FR) (k : Chg (p :: F) wr w') (ha : AgAt w' p S' m' F') (hF : ∀ g, g ∈ F' → g ∈ F ∨ wr.heap.size ≤ g)
    (hr : RItems w' rv' (S'.map item) FR') (hFR : ∀ g, g ∈ FR' → g ∈ FR) (ho : Old S' m') (hl : S'.length ≤ 1000) (hm : 0 ≤ m') (hlt : ∀ g, g ∈ FR → g < wr.heap.size) : PA w w' p S' m' F' rv' FR' := by
  refine ⟨ha, hr, fun g hg hg' => ?_, fun g hg => ?_, ho, hl, hm, h.chg.trans k fun g hg => .inr (h.far g hg)⟩
  · rcases List.mem_cons.1 hg' with rfl | hg'
    · exact h.dis _ (hFR _ hg) (by simp)
    · rcases hF g hg' with h1 | h1
      · exact h.dis g (hFR g hg) (by simp [h1])
      · have := hlt g (hFR g hg); omega
  · rcases List.mem_cons.1 hg with rfl | hg
    · exact h.far _ (by simp)
    · rcases hF g hg with h1 | h1
      · exact h.far g (by simp [h1])
      · have := h.chg.size; omega
/-- An act on the agenda; the document's list is another one. -/
theorem PA.act2 {w wr w' : World} {p : Nat} {S S' : List Slot} {m m' : Int} {F F' : List Nat} {rv rv' : Value} {FR FR' : List Nat} (h : PA w wr p S m F rv FR) (k : Chg (p :: F) wr w') (ha : AgAt w' p S' m' F') (hF : ∀ g, g ∈ F' → g ∈ F ∨ wr.heap.size ≤ g)
    (hr : RItems w' rv' (S'.map item) FR') (hd : ∀ g, g ∈ FR' → g ∉ p :: F') (ho : Old S' m') (hl : S'.length ≤ 1000) (hm : 0 ≤ m') : PA w w' p S' m' F' rv' FR' := by
  refine ⟨ha, hr, hd, fun g hg => ?_, ho, hl, hm, h.chg.trans k fun g hg => .inr (h.far g hg)⟩
  rcases List.mem_cons.1 hg with rfl | hg
  · exact h.far _ (by simp)
  · rcases hF g hg with h1 | h1
    · exact h.far g (by simp [h1])
    · have := h.chg.size; omega
theorem PA.tight {w wr : World} {p : Nat} {S : List Slot} {m : Int} {F : List Nat} {rv : Value} {FR : List Nat} (h : PA w wr p S m F rv FR) : ∃ FR', PA w wr p S m F rv FR' ∧ ∀ g, g ∈ FR' → g < wr.heap.size := by
  obtain ⟨F0, h1, h2, h3⟩ := h.rs.tight
  exact ⟨F0, ⟨h.ag, h1, fun g hg => h.dis g (h2 g hg), h.far, h.old, h.len, h.m0, h.chg⟩, h3⟩
/-- Something else is written. -/
theorem PA.other {w wr w' : World} {p : Nat} {S : List Slot} {m : Int} {F : List Nat} {rv : Value} {FR D : List Nat} (h : PA w wr p S m F rv FR) (k : Chg D wr w') (h1 : ∀ g, g ∈ D → g ∉ p :: F) (h2 : ∀ g, g ∈ D → g ∉ FR) (h3 : ∀ g, g ∈ D → w.heap.size ≤ g) : PA w w' p S m F rv FR :=
  ⟨h.ag.chg k (fun g hg hd => h1 g hd hg), h.rs.chg k (fun g hg hd => h2 g hd hg), h.dis, h.far, h.old, h.len, h.m0, h.chg.trans k fun g hg => .inr (h3 g hg)⟩
theorem Items.first {w : World} {v : Value} {D : List Slot} {FO : List Nat} (h : Items w v D FO) (hD : 0 < D.length) : ∃ g c, v = .slice (some ⟨g, 0, none⟩) D.length c ∧ FO = [g] ∧ D.length ≤ c ∧ c ≤ maxLen ∧ w.cell? ⟨g, 2, none⟩ = some (.int .i64 (nth D 0).2.2.1) ∧ w.frozen? ⟨g, 2, none⟩ = false := by
  obtain ⟨g, c, e, hF, h1, h2, -, -, x2⟩ := h.cells (k := 0) hD
  obtain ⟨g', c', e', -, -, -, -, y2⟩ := Fix.at_ h (k := 0) (j := 2) hD (by omega)
  rw [e] at e'
  injection e' with e' _ _
  injection e' with e'
  injection e' with e'
  subst e'
  exact ⟨g, c, e, hF, h1, h2, by simpa using x2, by simpa using y2⟩
end Go.Proofs.Ytkpegffoebmhmaa
