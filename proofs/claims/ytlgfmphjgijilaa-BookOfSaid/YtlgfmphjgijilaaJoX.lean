/- Journals: a book by its journals alone. -/
import Derived.Test.YtlgfmphjgijilaaJoW
namespace Go.Proofs.Ytlgfmphjgijilaa
open Go.RowKit Go.Vx
set_option linter.unusedVariables false
set_option linter.unusedSimpArgs false

def foundN (L : List Jn) (id : Int) : Bool := L.any fun q => q.id == id
def takenN (L : List Jn) (j : Jn) : Bool := !j.void && ((j.ref.toList != []) && L.any fun q => holdsB j q)
def getN (L : List Jn) (id : Int) : Option Jn := L.find? fun q => q.id == id
def dropN (L : List Jn) (id : Int) : List Jn := L.filter fun q => q.id != id
def putN (L : List Jn) (x : Jn) : List Jn := L.map fun q => if q.id = x.id then x else q
def insN (L : List Jn) (x : Jn) : List Jn :=
  match L with
  | [] => [x]
  | q :: L => if q.id < x.id then q :: insN L x else x :: q :: L
def postN (L : List Jn) (j : Jn) : Int := if checkE j ≠ 0 then checkE j else if foundN L j.id = true then 7 else if takenN L j = true then 8 else if 200 ≤ L.length then 13 else 0
def voidN (L : List Jn) (id : Int) : Int := match getN L id with | none => 9 | some q => if q.void = true then 11 else 0
def voidedN (q : Jn) : Jn := { q with void := true }
def amendN (L : List Jn) (j : Jn) : Int := if checkE j ≠ 0 then checkE j else match getN L j.id with | none => 9 | some q => if q.void = true then 11 else if takenN L j = true then 8 else 0
def refN (L : List Jn) (s : ByteArray) : Int := if s.toList = [] then 0 else match L.find? (fun q => !q.void && (q.ref.toList == s.toList)) with | none => 0 | some q => q.id
def SrtN (L : List Jn) : Prop := L.Pairwise fun x y => x.id < y.id
section
variable (Q : List JV)
abbrev jns (Q : List JV) : List Jn := Q.map fun q => q.j
theorem found_jns (id : Int) : foundB Q id = foundN (jns Q) id := by unfold foundB foundN; rw [List.any_map]; rfl
theorem taken_jns (j : Jn) : takenB Q j = takenN (jns Q) j := by unfold takenB takenN; rw [List.any_map]; rfl
theorem get_jns (id : Int) : (getJ Q id).map (·.j) = getN (jns Q) id := by unfold getJ getN; rw [List.find?_map]; rfl
theorem drop_jns (id : Int) : jns (dropJ Q id) = dropN (jns Q) id := by unfold jns dropJ dropN; rw [List.filter_map]; rfl
theorem put_jns (x : JV) : jns (putJ Q x) = putN (jns Q) x.j := by
  unfold jns putJ putN
  rw [List.map_map, List.map_map]
  refine List.map_congr_left fun q _ => ?_
  simp only [Function.comp]
  split <;> rfl
theorem ins_jns (x : JV) : ∀ Q : List JV, jns (insJ Q x) = insN (jns Q) x.j
  | [] => rfl
  | q :: Q => by
    simp only [jns, insJ, List.map_cons, insN]
    split
    · rw [List.map_cons]; exact congrArg _ (ins_jns x Q)
    · rfl
theorem post_jns (j : Jn) : postE Q j = postN (jns Q) j := by unfold postE postN; rw [found_jns, taken_jns, List.length_map]
theorem void_jns (id : Int) : voidE Q id = voidN (jns Q) id := by
  unfold voidE voidN
  rw [← get_jns]
  cases getJ Q id <;> rfl
theorem amend_jns (j : Jn) : amendE Q j = amendN (jns Q) j := by
  unfold amendE amendN
  rw [← get_jns, taken_jns]
  cases getJ Q j.id <;> rfl
theorem ref_jns (s : ByteArray) : refJ Q s = refN (jns Q) s := by
  unfold refJ refN jns
  rw [List.find?_map]
  simp only [Function.comp_def]
  cases List.find? (fun q : JV => !q.j.void && (q.j.ref.toList == s.toList)) Q <;> rfl
theorem srt_jns {Q : List JV} : SrtN (jns Q) ↔ SrtJ Q := by unfold SrtN jns; rw [List.pairwise_map]; exact Iff.rfl
theorem len_insN (x : Jn) : ∀ L : List Jn, (insN L x).length = L.length + 1
  | [] => rfl
  | q :: Q => by unfold insN; split <;> simp [len_insN x Q]
theorem len_putN (L : List Jn) (x : Jn) : (putN L x).length = L.length := List.length_map _
end
theorem checkE_lines {j : Jn} (h : checkE j = 0) : j.lines.length ≤ 8 := by
  unfold checkE at h
  cases hf : frontB j with
  | false => rw [hf] at h; simp at h
  | true => unfold frontB at hf; simp at hf; exact hf.2
/-- A book in memory, by its journals. -/
def BN (w : World) (p : Nat) (L : List Jn) (R : List Nat) : Prop := ∃ Q, jns Q = L ∧ BAt w p Q R ∧ SrtJ Q ∧ Ids Q ∧ (∀ q ∈ Q, q.j.lines.length ≤ 8) ∧ Q.length ≤ 200
section
variable {w w' : World} {p : Nat} {L : List Jn} {R S : List Nat}
theorem BN.chg (h : BN w p L R) (k : Chg S w w') (hp : p ∉ S) (hd : ∀ g ∈ R, g ∉ S) : BN w' p L R := by
  obtain ⟨Q, h1, h2, h3⟩ := h
  exact ⟨Q, h1, h2.chg k hp hd, h3⟩
theorem BN.keep (h : BN w p L R) (k : Chg [] w w') : BN w' p L R := h.chg k (by simp) (by simp)
theorem BN.len (h : BN w p L R) : L.length ≤ 200 := by obtain ⟨Q, rfl, -, -, -, -, h⟩ := h; simpa using h
theorem BN.lt (h : BN w p L R) : p < w.heap.size := by obtain ⟨Q, rfl, h, -⟩ := h; obtain ⟨v, Ft, h, -⟩ := h.ex; exact h.lt
/-- Only blocks that are there are a book's. -/
theorem BN.trim (h : BN w p L R) : ∃ R', BN w p L R' ∧ ∀ g ∈ R', g ∈ R ∧ g < w.heap.size := by
  obtain ⟨Q, h1, ⟨⟨v, Ft, a1, a2, a3⟩, a4, a5⟩, h3⟩ := h
  refine ⟨R.filter (· < w.heap.size), ⟨Q, h1, ⟨⟨v, Ft, a1, a2, fun g hg => List.mem_filter.2 ⟨a3 g hg, by simpa using a2.lt g hg⟩⟩, a4, fun q hq g hg => List.mem_filter.2 ⟨a5 q hq g hg, by simpa using (a4 q hq).lt g hg⟩⟩, h3⟩, fun g hg => ?_⟩
  obtain ⟨x, y⟩ := List.mem_filter.1 hg
  exact ⟨x, by simpa using y⟩
theorem BN.new (w : World) : BN (w.alloc (.cells #[.slice none 0 0] 26)) w.heap.size [] [] := ⟨[], rfl, BAt.new w, List.Pairwise.nil, by simp [Ids], by simp, by simp⟩
theorem BN.srt (h : BN w p L R) : SrtN L := by obtain ⟨Q, rfl, -, h, -⟩ := h; exact srt_jns.2 h
theorem BN.ids (h : BN w p L R) : ∀ q ∈ L, 1 ≤ q.id ∧ q.id ≤ 999999 := by
  obtain ⟨Q, rfl, -, -, h, -⟩ := h
  intro q hq
  obtain ⟨x, hx, rfl⟩ := List.mem_map.1 hq
  exact h x hx
/-- What Post leaves. -/
def BPost (w : World) (p : Nat) (L : List Jn) (R : List Nat) (j : Jn) (e : Ending) (w' : World) : Prop := e = .returned (.int .i64 (postN L j)) ∧ ∃ R', BN w' p (if postN L j = 0 then insN L j else L) R' ∧ (∀ g ∈ R', g ∈ R ∨ w.heap.size ≤ g) ∧ Chg (p :: R) w w'
theorem bn_post (h : BN w p L R) (j : Jn) {A : Option Addr} {n c : Nat} (hs : Go.Vx.Src w 3 A n (j.lines.flatMap lnEnc)) (hln : n ≤ 1000000) (hr : j.ref.size ≤ maxLen) :
    Calls Try.prog 7 #[.pointer (some ⟨p, 0, none⟩), jnV j (.slice A n c)] w (BPost w p L R j) := by
  obtain ⟨Q, rfl, h1, h2, h3, h4, h5⟩ := h
  refine (jb_post h1 (by omega) h2 h3 j hs hln hr).mono ?_
  rintro e w' ⟨rfl, ha, hb⟩
  rw [post_jns] at ha hb
  refine ⟨by rw [post_jns], ?_⟩
  by_cases h0 : postN (jns Q) j = 0
  · obtain ⟨v, F, R', hx, hf, hz⟩ := hb h0
    have hc0 : checkE j = 0 := by
      by_cases hc : checkE j = 0
      · exact hc
      · unfold postN at h0; rw [if_pos hc] at h0; exact h0
    have hnf : foundB Q j.id = false := by
      cases hf : foundB Q j.id with
      | false => rfl
      | true => unfold postN at h0; rw [if_neg (by simp [hc0]), ← found_jns, if_pos hf] at h0; cases h0
    have hll : Q.length < 200 := by
      by_cases hl : Q.length < 200
      · exact hl
      · unfold postN at h0
        rw [if_neg (by simp [hc0]), ← found_jns, if_neg (by simp [hnf])] at h0
        split at h0
        · cases h0
        · rw [if_pos (by rw [List.length_map]; omega)] at h0; cases h0
    rw [if_pos h0]
    exact ⟨R', ⟨_, ins_jns _ Q, hx, srt_insJ h2 (foundB_no hnf), ids_insJ h3 (checkE_id hc0), fun q hq => (mem_insJ.1 hq).elim (fun h => by rw [h]; exact checkE_lines hc0) (h4 q), by rw [len_insJ]; omega⟩, hf, hz⟩
  · rw [if_neg h0]
    exact ⟨R, ⟨Q, rfl, h1.keep (ha h0), h2, h3, h4, h5⟩, fun g hg => .inl hg, (ha h0).mono (by simp)⟩
/-- What Void leaves. -/
def BVoid (w : World) (p : Nat) (L : List Jn) (R : List Nat) (id : Int) (e : Ending) (w' : World) : Prop := e = .returned (.int .i64 (voidN L id)) ∧ BN w' p (match getN L id with | none => L | some q => if q.void = true then L else putN L (voidedN q)) R ∧ Chg (p :: R) w w'
theorem bn_void (h : BN w p L R) {id : Int} (hI : -9223372036854775808 ≤ id ∧ id ≤ 9223372036854775807) : Calls Try.prog 13 #[.pointer (some ⟨p, 0, none⟩), .int .i64 id] w (BVoid w p L R id) := by
  obtain ⟨Q, rfl, h1, h2, h3, h4, h5⟩ := h
  refine (jb_void h1 (by omega) h2 h3 hI).mono ?_
  rintro e w' ⟨rfl, ha, hb⟩
  refine ⟨by rw [void_jns], ?_⟩
  rw [← get_jns]
  cases hg : getJ Q id with
  | none =>
    have hz := ha (by unfold voidE; rw [hg]; simp)
    exact ⟨⟨Q, rfl, h1.keep hz, h2, h3, h4, h5⟩, hz.mono (by simp)⟩
  | some q =>
    by_cases hv : q.j.void = true
    · have hz := ha (by unfold voidE; rw [hg]; dsimp only; rw [if_pos hv]; simp)
      dsimp only [Option.map]
      rw [if_pos hv]
      exact ⟨⟨Q, rfl, h1.keep hz, h2, h3, h4, h5⟩, hz.mono (by simp)⟩
    · obtain ⟨q', hq', hx, hz⟩ := hb (by unfold voidE; rw [hg]; dsimp only; rw [if_neg hv])
      rw [hg] at hq'
      injection hq' with hq'
      subst hq'
      dsimp only [Option.map]
      rw [if_neg hv]
      refine ⟨⟨_, put_jns Q (voided q), hx, srt_putJ h2 _, ids_putJ h3 _, fun y hy => ?_, by rw [len_putJ]; exact h5⟩, hz⟩
      rcases mem_putJ hy with rfl | hy
      · exact h4 q (getJ_mem hg).1
      · exact h4 y hy
/-- What Drop leaves. -/
def BDrop (w : World) (p : Nat) (L : List Jn) (R : List Nat) (id : Int) (e : Ending) (w' : World) : Prop := e = .returned (.bool (foundN L id)) ∧ BN w' p (dropN L id) R ∧ Chg (p :: R) w w'
theorem bn_drop (h : BN w p L R) {id : Int} (hI : -9223372036854775808 ≤ id ∧ id ≤ 9223372036854775807) : Calls Try.prog 9 #[.pointer (some ⟨p, 0, none⟩), .int .i64 id] w (BDrop w p L R id) := by
  obtain ⟨Q, rfl, h1, h2, h3, h4, h5⟩ := h
  refine (jb_drop h1 (by omega) h2 h3 hI).mono ?_
  rintro e w' ⟨rfl, hx, hz, -⟩
  exact ⟨by rw [found_jns], ⟨_, drop_jns Q id, hx, srt_dropJ h2 _, ids_dropJ h3 _, fun q hq => h4 q (List.mem_filter.1 hq).1, Nat.le_trans (len_dropJ Q id) h5⟩, hz⟩
/-- What Amend leaves. -/
def BAmend (w : World) (p : Nat) (L : List Jn) (R : List Nat) (j : Jn) (e : Ending) (w' : World) : Prop := e = .returned (.int .i64 (amendN L j)) ∧ ∃ R', BN w' p (if amendN L j = 0 then putN L j else L) R' ∧ (∀ g ∈ R', g ∈ R ∨ w.heap.size ≤ g) ∧ Chg (p :: R) w w'
theorem bn_amend (h : BN w p L R) (j : Jn) {A : Option Addr} {n c : Nat} (hs : Go.Vx.Src w 3 A n (j.lines.flatMap lnEnc)) (hln : n ≤ 1000000) (hr : j.ref.size ≤ maxLen) :
    Calls Try.prog 14 #[.pointer (some ⟨p, 0, none⟩), jnV j (.slice A n c)] w (BAmend w p L R j) := by
  obtain ⟨Q, rfl, h1, h2, h3, h4, h5⟩ := h
  refine (jb_amend h1 (by omega) h2 h3 j hs hln hr).mono ?_
  rintro e w' ⟨rfl, ha, hb⟩
  rw [amend_jns] at ha hb
  refine ⟨by rw [amend_jns], ?_⟩
  by_cases h0 : amendN (jns Q) j = 0
  · obtain ⟨v, F, R', hx, hf, hz⟩ := hb h0
    have hc0 : checkE j = 0 := by
      by_cases hc : checkE j = 0
      · exact hc
      · unfold amendN at h0; rw [if_pos hc] at h0; exact h0
    rw [if_pos h0]
    exact ⟨R', ⟨_, put_jns Q _, hx, srt_putJ h2 _, ids_putJ h3 _, fun q hq => (mem_putJ hq).elim (fun h => by rw [h]; exact checkE_lines hc0) (h4 q), by rw [len_putJ]; exact h5⟩, hf, hz⟩
  · rw [if_neg h0]
    exact ⟨R, ⟨Q, rfl, h1.keep (ha h0), h2, h3, h4, h5⟩, fun g hg => .inl hg, (ha h0).mono (by simp)⟩
theorem bn_get (h : BN w p L R) {id : Int} (hI : -9223372036854775808 ≤ id ∧ id ≤ 9223372036854775807) : Calls Try.prog 15 #[.pointer (some ⟨p, 0, none⟩), .int .i64 id] w fun e w' => ∃ v F, e = .returned (.tuple #[jnV ((getN L id).getD noJn) v, .bool (foundN L id)]) ∧ Fix w' 28 3 v ((getN L id).getD noJn).lines.length (((getN L id).getD noJn).lines.flatMap lnEnc) F ∧ (∀ g ∈ F, w.heap.size ≤ g) ∧ Chg [] w w' := by
  obtain ⟨Q, rfl, h1, h2, h3, h4, h5⟩ := h
  refine (jb_get h1 (by omega) h2 h3 hI (fun q hq => by have := h4 q hq; omega)).mono ?_
  rintro e w' ⟨v, F, rfl, hf, hF, hz⟩
  rw [get_jns] at hf
  exact ⟨v, F, by rw [get_jns, found_jns], hf, hF, hz⟩
theorem bn_ref (h : BN w p L R) (s : ByteArray) : Calls Try.prog 28 #[.pointer (some ⟨p, 0, none⟩), .string s] w fun e w' => e = .returned (.int .i64 (refN L s)) ∧ Chg [] w w' := by
  obtain ⟨Q, rfl, h1, h2, h3, h4, h5⟩ := h
  refine (jb_ref h1 (by omega) s).mono ?_
  rintro e w' ⟨rfl, hz⟩
  exact ⟨by rw [ref_jns], hz⟩
theorem bn_len (h : BN w p L R) : Calls Try.prog 8 #[.pointer (some ⟨p, 0, none⟩)] w fun e w' => e = .returned (.int .i64 (L.length : Nat)) ∧ Chg [] w w' := by
  obtain ⟨Q, rfl, h1, h2, h3, h4, h5⟩ := h
  rw [show (jns Q).length = Q.length from List.length_map _]
  exact jb_len h1 (by omega)
end
end Go.Proofs.Ytlgfmphjgijilaa
