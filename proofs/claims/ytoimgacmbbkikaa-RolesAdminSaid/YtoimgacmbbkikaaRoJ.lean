/- RolesAdmin, walked. -/
import Derived.Test.YtoimgacmbbkikaaRoI
import Derived.Test.YtoimgacmbbkikaaOpen
import Derived.StillTailTactics
namespace Go.Proofs.Ytoimgacmbbkikaa
open Go.RowKit Go.Vx Go.Maps Go.ChangeShapes Go.WideShapes Go.Deep
set_option linter.unusedVariables false
set_option linter.unusedSimpArgs false

/-- The cells of an element of a source. -/
theorem srcElem {w : World} {α : Type} {e : α → List Value} {size m : Nat} {A : Option Addr} {l : List α} (h : Src w size A m (l.flatMap e)) (he : ∀ x, (e x).length = size) (h00 : 0 < size) {k : Nat} (hk : k < l.length) (hm : l.length = m) :
    ∃ ad, A = some ad ∧ w.cell? (ad.add (k * size)) = (e l[k])[0]? ∧ ∀ j, 0 < j → j < size → w.cell? ⟨(ad.add (k * size)).block, (ad.add (k * size)).off + j, none⟩ = (e l[k])[j]? := by
  obtain ⟨ad, ha, hc⟩ := h.2 (by omega)
  have key : ∀ (j : Nat) (hj : j < size) (l : List α) (k : Nat) (hk : k < l.length), (l.flatMap e)[k * size + j]? = (e l[k])[j]? := by
    intro j hj l
    induction l with
    | nil => intro k hk; simp at hk
    | cons x l ih =>
      intro k hk
      rw [List.flatMap_cons]
      cases k with
      | zero => rw [List.getElem?_append_left (by rw [he]; omega)]; simp
      | succ k =>
        rw [List.getElem?_append_right (by rw [he, Nat.add_mul]; omega), he]
        have := ih k (by simpa using hk)
        rw [show (k + 1) * size + j - size = k * size + j by rw [Nat.add_mul]; omega]
        simpa using this
  have main : ∀ j, j < size → w.cell? (ad.add (k * size + j)) = (e l[k])[j]? := by
    intro j hj
    have hlt : j < (e l[k]).length := by rw [he]; exact hj
    rw [List.getElem?_eq_getElem hlt]
    exact hc _ _ (by rw [key j hj l k hk, List.getElem?_eq_getElem hlt])
  refine ⟨ad, ha, ?_, fun j h0 hj => ?_⟩
  · exact main 0 h00
  · rw [← main j hj]
    congr 1
    unfold Addr.add
    by_cases hks : k * size = 0 <;> simp [hks, show j ≠ 0 by omega, Nat.add_assoc]
/-- An act: its kind, what, who. -/
structure OpR where
  kind : Int
  what : Int
  user : ByteArray
def opRCells (x : OpR) : List Value := [.int .i64 x.kind, .int .i64 x.what, .string x.user]
structure OpROk (W : World) (x : OpR) : Prop where
  hk : (Lit.int .i64 x.kind).wf = true
  hw : (Lit.int .i64 x.what).wf = true
  hu : x.user.size ≤ maxLen
theorem opn_variorumlaw22_Op {H : Type} {enc : TypeId × Value → H} {w : World} {base : Nat} {spare : Nat → Bool} {held : Bool} {A : Option Addr} {len cap : Nat} {d : DataW H} {ps : List MemPlace}
    (h : DataW.Trod enc Try.prog w base spare held 32 (.slice A len cap) d ps) : ∃ l : List OpR, l.length = len ∧ len ≤ cap ∧ cap ≤ maxLen ∧ Src w 3 A len (l.flatMap opRCells) ∧ ∀ x ∈ l, OpROk w x := by
  refine opn Try.underlying32 (size := 3) (by kernel_rfl) opRCells (OpROk w) (by intro x; rfl) (fun fuel cs x hl hx => ?_) h
  obtain ⟨n, hf⟩ := opn_fields Try.underlying34 (by kernel_rfl) (by simpa using hl) hx
  obtain ⟨v0, y0, h0, t0⟩ := hf 0 _ rfl
  obtain ⟨v1, y1, h1, t1⟩ := hf 1 _ rfl
  obtain ⟨v2, y2, h2, t2⟩ := hf 2 _ rfl
  obtain ⟨k, hk, _, wk⟩ := DataW.trod_int Try.underlying3 t0
  obtain ⟨m, hm, _, wm⟩ := DataW.trod_int Try.underlying3 t1
  obtain ⟨s, hs, _, ws⟩ := DataW.trod_string Try.underlying9 t2
  simp at hk hm hs
  subst hk hm hs
  refine ⟨⟨k, m, s⟩, ?_, wk, wm, ws⟩
  have : cs = [.int .i64 k, .int .i64 m, .string s] := by
    match cs, hl with
    | [a, b, c], _ => simp at h0 h1 h2; simp [h0, h1, h2]
  rw [this]; rfl
/-- Roles of which one is an admin's. -/
structure RA (w wr : World) (p n : Nat) (L : RL) (F : List Nat) : Prop where
  at_ : RAt wr p L F
  far : ∀ g, g ∈ p :: F → w.heap.size ≤ g
  fine : Fine L
  adm1 : 1 ≤ adm L
  len : L.length ≤ n
  chg : Chg [] w wr
  short : ∀ x ∈ L, x.1.length ≤ 60
theorem short_del {L : RL} (h : ∀ x ∈ L, x.1.length ≤ 60) (k : List UInt8) : ∀ x ∈ delR L k, x.1.length ≤ 60 := fun x hx => h x (List.mem_filter.1 hx).1
theorem short_put {L : RL} (h : ∀ x ∈ L, x.1.length ≤ 60) {k : List UInt8} (hk : k.length ≤ 60) (v : Int) : ∀ x ∈ putR L k v, x.1.length ≤ 60 := fun x hx => by
  rcases (ins_mem _ _ _).1 hx with rfl | hx
  · exact hk
  · exact short_del h k x hx
theorem short_take {L : RL} (h : ∀ x ∈ L, x.1.length ≤ 60) {k : List UInt8} (hk : k.length ≤ 60) (a : Int) : ∀ x ∈ takeL L k a, x.1.length ≤ 60 := by
  unfold takeL
  split
  · exact short_del (short_put h hk _) k
  · exact short_put h hk _
theorem size_list (s : ByteArray) : s.data.toList.length = s.size := by rw [Array.length_toList]; rfl
theorem RA.quiet {w wr w' : World} {p n : Nat} {L : RL} {F : List Nat} (h : RA w wr p n L F) (k : Chg [] wr w') : RA w w' p n L F := ⟨h.at_.chg k (by simp), h.far, h.fine, h.adm1, h.len, h.chg.trans' k, h.short⟩
/-- Give, whatever it tells. -/
theorem ra_give {w wr : World} {p n : Nat} {L : RL} {F : List Nat} (h : RA w wr p n L F) (hn : n < 1000) (s : ByteArray) (hs : s.size ≤ 60) (a : Int) :
    Calls Try.prog 7 #[.pointer (some ⟨p, 0, none⟩), .string s, .int .i64 a] wr fun e w' => ∃ (c : Int) (L' : RL) (F' : List Nat), e = .returned (.int .i64 c) ∧ RA w w' p (n + 1) L' F' := by
  cases hb : userB s && asksB a with
  | false =>
    refine (ro_give_bad p s (by unfold maxLen; omega) a hb wr).mono ?_
    rintro e w' ⟨rfl, rfl⟩
    exact ⟨1, L, F, rfl, h.at_, h.far, h.fine, h.adm1, Nat.le_succ_of_le h.len, h.chg, h.short⟩
  | true =>
    have ha : asksB a = true := by revert hb; cases asksB a <;> simp
    obtain ⟨f1, f2⟩ := give_ok h.fine h.at_.uniq s.data.toList ha
    obtain ⟨g0, g1⟩ := h.fine.get s.data.toList
    obtain ⟨a0, a1⟩ := asks_of ha
    obtain ⟨⟨o1, o2, -⟩, -⟩ := fin3' g0 g1 (show 0 ≤ a by omega) a1
    have hl := h.len
    refine (ro_give h.at_ h.fine (by omega) s (by omega) a hb (wf16 o1 o2)).mono ?_
    rintro e w' ⟨rfl, F', h1, h2, h3⟩
    refine ⟨0, _, F', rfl, h1, fun g hg => ?_, f1, Nat.le_trans h.adm1 f2, ?_, h.chg.trans h3 (fun g hg => .inr (h.far g hg)), short_put h.short (by rw [size_list]; exact hs) _⟩
    · rcases List.mem_cons.1 hg with rfl | hg
      · exact h.far _ (by simp)
      · rcases h2 g hg with h4 | h4
        · exact h.far g (by simp [h4])
        · have := h.chg.size; omega
    · have := put_len L s.data.toList (orI (getR L s.data.toList) a)
      unfold giveL
      omega
/-- Take, whatever it tells. -/
theorem ra_take {w wr : World} {p n : Nat} {L : RL} {F : List Nat} (h : RA w wr p n L F) (hn : n < 1000) (s : ByteArray) (hs : s.size ≤ 60) (a : Int) :
    Calls Try.prog 9 #[.pointer (some ⟨p, 0, none⟩), .string s, .int .i64 a] wr fun e w' => ∃ (c : Int) (L' : RL) (F' : List Nat), e = .returned (.int .i64 c) ∧ RA w w' p (n + 1) L' F' := by
  have hl := h.len
  cases hb : userB s && asksB a with
  | false =>
    refine (ro_take_bad p s (by unfold maxLen; omega) a hb wr).mono ?_
    rintro e w' ⟨rfl, rfl⟩
    exact ⟨1, L, F, rfl, h.at_, h.far, h.fine, h.adm1, Nat.le_succ_of_le h.len, h.chg, h.short⟩
  | true =>
    have ha : asksB a = true := by revert hb; cases asksB a <;> simp
    by_cases hc : takeC L s.data.toList a = 0
    · obtain ⟨f1, f2, f3⟩ := take_ok h.fine h.at_.uniq s.data.toList ha hc h.adm1
      obtain ⟨g0, g1⟩ := h.fine.get s.data.toList
      obtain ⟨a0, a1⟩ := asks_of ha
      obtain ⟨-, o1, o2, -⟩ := fin3' g0 g1 (show 0 ≤ a by omega) a1
      refine (ro_take h.at_ (by omega) s (by omega) a hb hc (wf16 o1 o2)).mono ?_
      rintro e w' ⟨rfl, h1, h3⟩
      exact ⟨0, _, F, rfl, h1, h.far, f1, f2, by omega, h.chg.trans h3 (fun g hg => .inr (h.far g hg)), short_take h.short (by rw [size_list]; exact hs) _⟩
    · refine (ro_take_no h.at_ (by omega) s (by omega) a hb hc).mono ?_
      rintro e w' ⟨rfl, h1⟩
      exact ⟨_, L, F, rfl, h.at_.chg h1 (by simp), h.far, h.fine, h.adm1, Nat.le_succ_of_le h.len, h.chg.trans' h1, h.short⟩
/-- All, of roles of which one is an admin's. -/
theorem ra_all {w wr : World} {p n : Nat} {L : RL} {F : List Nat} (h : RA w wr p n L F) (hn : n < 1000) :
    Calls Try.prog 11 #[.pointer (some ⟨p, 0, none⟩)] wr fun e w' => ∃ (v : Value) (ks : List (List UInt8)) (G : List Nat), e = .returned v ∧ Names w' v ks G ∧ ks.length ≤ n ∧ (∃ k ∈ ks, hasB (getR L k) 8 = true) ∧ (∀ k ∈ ks, k.length ≤ 60) ∧ (∀ g, g ∈ G → wr.heap.size ≤ g) ∧ RA w w' p n L F := by
  have hl := h.len
  rcases id h.at_ with ⟨-, rfl, -⟩ | ⟨b, hb, hm, -⟩
  · have := h.adm1
    unfold adm at this
    simp at this
  · refine (ro_all hb hm (by omega)).mono ?_
    rintro e w' ⟨v, ks, G, rfl, hp, hN, hG, hc⟩
    obtain ⟨k, hk, hh⟩ := adm_some h.at_.uniq h.adm1 hp
    have hpm := List.mergeSort_perm ks fun x y => decide (x ≤ y)
    refine ⟨v, _, G, rfl, hN, ?_, ⟨k, hpm.mem_iff.2 hk, hh⟩, fun k hk => ?_, hG, h.quiet hc⟩
    · rw [hpm.length_eq, hp.length_eq, List.length_map]
      exact hl
    · obtain ⟨x, hx, rfl⟩ := List.mem_map.1 (hp.mem_iff.1 (hpm.mem_iff.1 hk))
      exact h.short x hx
theorem names_at {w : World} {v : Value} {ks : List (List UInt8)} {F : List Nat} (h : Names w v ks F) {k : Nat} (hk : k < ks.length) : ∃ g c, v = .slice (some ⟨g, 0, none⟩) ks.length c ∧ F = [g] ∧ w.cell? ⟨g, k, none⟩ = some (.string ⟨(ks[k]).toArray⟩) := by
  obtain ⟨g, c, e, h1, h2, hF, hx, -⟩ := Fix.at_ h (k := k) (j := 0) hk (by omega)
  refine ⟨g, c, e, hF, ?_⟩
  simp only [Nat.mul_one, Nat.add_zero] at hx
  rw [hx, List.getElem?_map, List.getElem?_eq_getElem hk]
  rfl
end Go.Proofs.Ytoimgacmbbkikaa
