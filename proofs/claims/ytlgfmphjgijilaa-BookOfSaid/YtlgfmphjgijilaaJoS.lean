/- Journals: Drop, Void. -/
import Derived.Test.YtlgfmphjgijilaaJoR
namespace Go.Proofs.Ytlgfmphjgijilaa
open Go.RowKit Go.Vx
set_option linter.unusedVariables false
set_option linter.unusedSimpArgs false

theorem set_flat1 {α : Type} {enc : α → List Value} {size : Nat} (he : ∀ x, (enc x).length = size) : ∀ (l : List α) (k : Nat) (hk : k < l.length) (j : Nat) (hj : j < size) (v : Value) (y : α), enc y = (enc l[k]).set j v → (l.flatMap enc).set (k * size + j) v = (l.set k y).flatMap enc
  | x :: l, 0, _, j, hj, v, y, hy => by
    simp only [List.flatMap_cons, List.set_cons_zero, Nat.zero_mul, Nat.zero_add]
    rw [List.set_append_left _ _ (by rw [he]; exact hj), hy]
    rfl
  | x :: l, k + 1, hk, j, hj, v, y, hy => by
    simp only [List.flatMap_cons, List.set_cons_succ]
    rw [List.set_append_right _ _ (by rw [he, Nat.add_mul]; omega), he, show (k + 1) * size + j - size = k * size + j by rw [Nat.add_mul]; omega, set_flat1 he l k (by simpa using hk) j hj v y (by simpa using hy)]
def getJ (Q : List JV) (id : Int) : Option JV := Q.find? fun q => q.j.id == id
def dropJ (Q : List JV) (id : Int) : List JV := Q.filter fun q => q.j.id != id
def putJ (Q : List JV) (x : JV) : List JV := Q.map fun q => if q.j.id = x.j.id then x else q
theorem getJ_found (Q : List JV) (id : Int) : foundB Q id = (getJ Q id).isSome := by
  unfold foundB getJ
  rw [Bool.eq_iff_iff, List.any_eq_true, List.find?_isSome]
theorem getJ_mem {Q : List JV} {id : Int} {q : JV} (h : getJ Q id = some q) : q ∈ Q ∧ q.j.id = id := ⟨List.mem_of_find?_eq_some h, by have := List.find?_some h; simpa using this⟩
theorem srt_get {Q : List JV} (hQ : SrtJ Q) {i k : Nat} (hi : i < Q.length) (hk : k < Q.length) (h : Q[i].j.id = Q[k].j.id) : i = k := by
  rcases Nat.lt_trichotomy i k with h1 | h1 | h1
  · have := List.pairwise_iff_getElem.1 hQ i k hi hk h1; omega
  · exact h1
  · have := List.pairwise_iff_getElem.1 hQ k i hk hi h1; omega
theorem getJ_at {Q : List JV} (hQ : SrtJ Q) {i : Nat} (hi : i < Q.length) {id : Int} (h : Q[i].j.id = id) : getJ Q id = some Q[i] := by
  cases hg : getJ Q id with
  | none =>
    have := (List.find?_eq_none.1 hg) _ (List.getElem_mem hi)
    simp [h] at this
  | some q =>
    obtain ⟨hm, he⟩ := getJ_mem hg
    obtain ⟨k, hk, rfl⟩ := List.getElem_of_mem hm
    have := srt_get hQ hi hk (by rw [h, he])
    subst this
    rfl
theorem dropJ_at : ∀ {Q : List JV}, SrtJ Q → ∀ {i : Nat} (hi : i < Q.length) {id : Int}, Q[i].j.id = id → Q.take i ++ Q.drop (i + 1) = dropJ Q id
  | q :: Q, hQ, 0, hi, id, h => by
    unfold SrtJ at hQ
    rw [List.pairwise_cons] at hQ
    simp only [List.getElem_cons_zero] at h
    simp only [List.take_zero, List.nil_append, List.drop_succ_cons, List.drop_zero, dropJ, List.filter_cons]
    rw [if_neg (by simp [h])]
    symm
    refine List.filter_eq_self.2 fun y hy => ?_
    have := hQ.1 y hy
    simp
    omega
  | q :: Q, hQ, i + 1, hi, id, h => by
    unfold SrtJ at hQ
    rw [List.pairwise_cons] at hQ
    simp only [List.getElem_cons_succ] at h
    have hm := hQ.1 _ (List.getElem_mem (by simpa using hi))
    simp only [List.take_succ_cons, List.drop_succ_cons, List.cons_append, dropJ, List.filter_cons]
    rw [if_pos (by simp; omega)]
    exact congrArg _ (dropJ_at hQ.2 (by simpa using hi) h)
theorem dropJ_no {Q : List JV} {id : Int} (h : foundB Q id = false) : dropJ Q id = Q := List.filter_eq_self.2 fun q hq => by have := foundB_no h q hq; simpa using this
theorem putJ_at : ∀ {Q : List JV}, SrtJ Q → ∀ {i : Nat} (hi : i < Q.length) {x : JV}, Q[i].j.id = x.j.id → Q.set i x = putJ Q x
  | q :: Q, hQ, 0, hi, x, h => by
    unfold SrtJ at hQ
    rw [List.pairwise_cons] at hQ
    simp only [List.getElem_cons_zero] at h
    simp only [List.set_cons_zero, putJ, List.map_cons]
    rw [if_pos h]
    congr 1
    symm
    rw [List.map_congr_left (g := id)]
    · simp
    · intro y hy
      have := hQ.1 y hy
      rw [if_neg (by omega)]
      rfl
  | q :: Q, hQ, i + 1, hi, x, h => by
    unfold SrtJ at hQ
    rw [List.pairwise_cons] at hQ
    simp only [List.getElem_cons_succ] at h
    have hm := hQ.1 _ (List.getElem_mem (by simpa using hi))
    simp only [List.set_cons_succ, putJ, List.map_cons]
    rw [if_neg (by omega)]
    exact congrArg _ (putJ_at hQ.2 (by simpa using hi) h)
theorem srt_dropJ {Q : List JV} (h : SrtJ Q) (id : Int) : SrtJ (dropJ Q id) := List.Pairwise.filter _ h
theorem ids_dropJ {Q : List JV} (h : Ids Q) (id : Int) : Ids (dropJ Q id) := fun q hq => h q (List.mem_filter.1 hq).1
theorem len_dropJ (Q : List JV) (id : Int) : (dropJ Q id).length ≤ Q.length := List.length_filter_le _ _
theorem put_ids (Q : List JV) (x : JV) : (putJ Q x).map (fun q => q.j.id) = Q.map fun q => q.j.id := by
  unfold putJ
  rw [List.map_map]
  refine List.map_congr_left fun q _ => ?_
  simp only [Function.comp]
  split
  · rename_i h; exact h.symm
  · rfl
theorem srt_ids {Q : List JV} : SrtJ Q ↔ (Q.map fun q => q.j.id).Pairwise (· < ·) := by rw [List.pairwise_map]; exact Iff.rfl
theorem srt_putJ {Q : List JV} (h : SrtJ Q) (x : JV) : SrtJ (putJ Q x) := by rw [srt_ids, put_ids, ← srt_ids]; exact h
theorem ids_putJ {Q : List JV} (h : Ids Q) (x : JV) : Ids (putJ Q x) := fun q hq => by
  obtain ⟨y, hy, rfl⟩ := List.mem_map.1 hq
  split
  · rename_i he; have := h y hy; rw [← he]; exact this
  · exact h y hy
theorem len_putJ (Q : List JV) (x : JV) : (putJ Q x).length = Q.length := List.length_map _
theorem mem_putJ {Q : List JV} {x q : JV} (h : q ∈ putJ Q x) : q = x ∨ q ∈ Q := by
  obtain ⟨y, hy, rfl⟩ := List.mem_map.1 h
  split
  · exact .inl rfl
  · exact .inr hy
/-- The book behind Drop's store. -/
theorem BAt.del {w w1 : World} {p : Nat} {Q : List JV} {R : List Nat} (h : BAt w p Q R) {A : Option Addr} {c i : Nat} {Ft : List Nat} {v' : Value} (hb : Blk w p 26 #[.slice A Q.length c]) (hf : Fix w 31 6 (.slice A Q.length c) Q.length (Q.flatMap jvEnc) Ft) (hR : ∀ g ∈ Ft, g ∈ R) (hp : p ∉ Ft)
    (hi : i < Q.length) (hfx : Fix w1 31 6 v' (Q.length - 1) ((Q.flatMap jvEnc).take (i * 6) ++ (Q.flatMap jvEnc).drop ((i + 1) * 6)) Ft) (hch : Chg Ft w w1) :
    BAt (w1.setCell ⟨p, 0, none⟩ v') p (Q.take i ++ Q.drop (i + 1)) R ∧ Chg (p :: R) w (w1.setCell ⟨p, 0, none⟩ v') := by
  have hb1 : Blk w1 p 26 #[.slice A Q.length c] := hb.chg hch hp
  have hc1 : Chg (p :: R) w w1 := hch.mono fun g hg => List.mem_cons_of_mem _ (hR g hg)
  have hc : Chg (p :: R) w (w1.setCell ⟨p, 0, none⟩ v') := Chg.setCell hc1 (p := ⟨p, 0, none⟩) (.inl (List.mem_cons_self (a := p) (l := R))) v'
  have hm : ∀ x, x ∈ Q.take i ++ Q.drop (i + 1) → x ∈ Q := fun x hx => by
    rcases List.mem_append.1 hx with hx | hx
    · exact List.mem_of_mem_take hx
    · exact List.mem_of_mem_drop hx
  refine ⟨⟨⟨v', Ft, hb1.set_ 0 v', ?_, hR⟩, fun x hx => ?_, fun x hx g hg => h.foot x (hm x hx) g hg⟩, hc⟩
  · have := hfx.far_blk hb1 (by decide) 0 v'
    rw [(jv_take Q i (by omega)).1, (jv_take Q (i + 1) (by omega)).2, ← List.flatMap_append] at this
    have e : (Q.take i ++ Q.drop (i + 1)).length = Q.length - 1 := by simp; omega
    rw [e]
    exact this
  · exact ((h.each x (hm x hx)).chg hch ((h.each x (hm x hx)).disj hf (by decide))).far_blk hb1 (by decide) 0 v'
def DropPost (w : World) (p : Nat) (Q : List JV) (R : List Nat) (id : Int) (e : Ending) (w' : World) : Prop := e = .returned (.bool (foundB Q id)) ∧ BAt w' p (dropJ Q id) R ∧ Chg (p :: R) w w' ∧ (foundB Q id = false → Chg [] w w')
set_option maxRecDepth 100000 in
set_option maxHeartbeats 4000000 in
theorem jb_drop {w : World} {p : Nat} {Q : List JV} {R : List Nat} (hb : BAt w p Q R) (hn : Q.length ≤ 1000) (hQ : SrtJ Q) (hid : Ids Q) {id : Int} (hI : -9223372036854775808 ≤ id ∧ id ≤ 9223372036854775807) :
    Calls Try.prog 9 #[.pointer (some ⟨p, 0, none⟩), .int .i64 id] w (DropPost w p Q R id) := by
  have hfd := jb_find_any hb hn hQ hid hI
  obtain ⟨PP, hPP⟩ : ∃ PP, PP = DropPost w p Q R id := ⟨_, rfl⟩
  rw [← hPP]
  replace hPP := Lib.hid hPP
  go_enter Try.func9, Try.ntmps9
  go_wp2_with fail
  refine hfd.mono ?_
  rintro e w2 ⟨i, hi, rfl, hat, hz⟩
  clear hfd
  have hb2 := hb.keep hz
  obtain ⟨A, c, Ft, ca, hbb, hfx, hFR, hpF, hle, hcm⟩ := hb2.head
  cases hf : foundB Q id with
  | false =>
    have hdn := dropJ_no hf
    replace hb2 := Lib.hid hb2
    clear hbb hfx hat
    go_wp2_with fail
    rw [hPP.out]
    exact ⟨by rw [hf]; rfl, by rw [hdn]; exact hb2.out, hz.mono (by simp), fun _ => hz⟩
  | true =>
    obtain ⟨hil, hie⟩ := hat hf
    clear hat
    have hone := hb2.one
    obtain ⟨B, c', hv, -, -, -, h4⟩ := _root_.id hfx
    injection hv with ha _ hcc
    subst ha hcc
    rcases h4 with ⟨h0, -⟩ | ⟨g, cur, rfl, rfl, -⟩
    · omega
    have hdl := jb_del hfx hil hn hone
    have hw1 : IntKind.i64.wrap ((i : Int) + 1) = (i : Int) + 1 := by rw [IntKind.wrap_i64]; omega
    have hdat := dropJ_at hQ hil hie
    replace hb2 := Lib.hid hb2
    replace hfx := Lib.hid hfx
    replace hbb := Lib.hid hbb
    replace hFR := Lib.hid hFR
    replace hdat := Lib.hid hdat
    clear hQ hid hone hie
    go_wp2_with fail
    refine hdl.mono ?_
    rintro e w3 ⟨rfl, hf3, hz3⟩
    have hb3 := hbb.out.chg hz3 hpF
    have cp3 : w3.cell? ⟨p, 0, none⟩ = some (.slice (some ⟨g, 0, none⟩) Q.length c) := hb3.cell 0
    have fp3 : w3.frozen? ⟨p, 0, none⟩ = false := hb3.frozen 0
    go_wp2_with fail
    rw [hPP.out]
    have hI := hb2.out.del hbb.out hfx.out hFR.out hpF hil hf3 hz3
    rw [hdat.out] at hI
    exact ⟨by rw [hf]; rfl, hI.1, (hz.mono (by simp)).trans' hI.2, fun h => by rw [hf] at h; cases h⟩
end Go.Proofs.Ytlgfmphjgijilaa
