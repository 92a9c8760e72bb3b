/- BookVoids: plain laws, and what stands between its calls. -/
import Derived.Test.YtlgfmphjgijilaaJrL
namespace Go.Proofs.Ytlgfmphjgijilaa
open Go.RowKit Go.Vx
set_option linter.unusedVariables false
set_option linter.unusedSimpArgs false

theorem turn_nat (turn : Int) (n : Nat) (h : 0 < n) (hn : n ≤ 1000000) : ∃ r : Nat, r < n ∧ (turn.tmod n + n).tmod n = r ∧ IntKind.i64.wrap (turn.tmod n) = turn.tmod n ∧ IntKind.i64.wrap (turn.tmod n + n) = turn.tmod n + n ∧ IntKind.i64.wrap ((turn.tmod n + n).tmod n) = (turn.tmod n + n).tmod n := by
  have e1 : turn.tmod n < n := Int.tmod_lt_of_pos turn (by omega)
  have e2 : -(n : Int) < turn.tmod n := by
    have := Int.tmod_lt_of_pos (-turn) (b := (n : Int)) (by omega)
    rw [Int.neg_tmod] at this
    omega
  have e3 := Int.tmod_nonneg (a := turn.tmod n + n) (n : Int) (by omega)
  have e4 : (turn.tmod n + n).tmod n < n := Int.tmod_lt_of_pos _ (by omega)
  exact ⟨((turn.tmod n + n).tmod n).toNat, by omega, by omega, by rw [IntKind.wrap_i64]; omega, by rw [IntKind.wrap_i64]; omega, by rw [IntKind.wrap_i64]; omega⟩
theorem srtN_inj {L : List Jn} (h : SrtN L) {a b : Jn} (ha : a ∈ L) (hb : b ∈ L) (he : a.id = b.id) : a = b := by
  obtain ⟨i, hi, rfl⟩ := List.getElem_of_mem ha
  obtain ⟨k, hk, rfl⟩ := List.getElem_of_mem hb
  have : i = k := by
    rcases Nat.lt_trichotomy i k with h1 | h1 | h1
    · have := List.pairwise_iff_getElem.1 h i k hi hk h1; omega
    · exact h1
    · have := List.pairwise_iff_getElem.1 h k i hk hi h1; omega
  subst this
  rfl
theorem getN_of {L : List Jn} (h : SrtN L) {j : Jn} (hj : j ∈ L) : getN L j.id = some j := by
  cases hg : getN L j.id with
  | none =>
    have := (List.find?_eq_none.1 hg) _ hj
    simp at this
  | some q =>
    have h1 := List.mem_of_find?_eq_some hg
    have h2 := List.find?_some hg
    rw [srtN_inj h h1 hj (by simpa using h2)]
theorem srt_putN {L : List Jn} (h : SrtN L) (x : Jn) : SrtN (putN L x) := by
  unfold SrtN putN
  rw [List.pairwise_map]
  refine List.Pairwise.imp (fun {a b} hab => ?_) h
  split <;> split <;> omega
theorem putN_mem {L : List Jn} {j x : Jn} (hj : j ∈ L) (he : j.id = x.id) : x ∈ putN L x := List.mem_map.2 ⟨j, hj, by rw [if_pos he]⟩
theorem void_at {L : List Jn} (h : SrtN L) {j : Jn} (hj : j ∈ L) : voidN L j.id = if j.void = true then 11 else 0 := by unfold voidN; rw [getN_of h hj]
theorem amend_void {L : List Jn} (h : SrtN L) {j q : Jn} (hq : q ∈ L) (he : q.id = j.id) (hc : checkE j = 0) (hv : q.void = true) : amendN L j = 11 := by
  have := getN_of h hq
  rw [he] at this
  unfold amendN
  rw [if_neg (by simp [hc]), this]
  dsimp only
  rw [if_pos hv]
def lastN (j : Jn) : Jn := { j with id := 999999 }
theorem check_last {j : Jn} (h : checkE j = 0) : checkE (lastN j) = 0 := by
  have hf : frontB j = true := by
    cases hf : frontB j with
    | true => rfl
    | false => unfold checkE at h; rw [hf] at h; simp at h
  have hf2 : frontB (lastN j) = true := by
    unfold frontB lastN at *
    simp only [Bool.and_eq_true, decide_eq_true_eq] at hf ⊢
    refine ⟨⟨⟨⟨⟨⟨by omega, by omega⟩, hf.1.1.1.1.2⟩, hf.1.1.1.2⟩, hf.1.1.2⟩, hf.1.2⟩, hf.2⟩
  unfold checkE at *
  rw [hf2]
  rw [hf] at h
  exact h
theorem post_last {L : List Jn} (h : Good L) (hl : L.length < 200) {j : Jn} (hj : j ∈ L) (hv : j.void = false) (hf : foundN L 999999 = false) : postN (putN L (voidedN j)) (lastN j) = 0 := by
  have hm : ∀ q ∈ putN L (voidedN j), q = voidedN j ∨ (q ∈ L ∧ q.id ≠ j.id) := fun q hq => by
    obtain ⟨y, hy, rfl⟩ := List.mem_map.1 hq
    split
    · exact .inl rfl
    · rename_i hne; exact .inr ⟨hy, hne⟩
  have hn := foundN_no.1 hf
  refine post_ok (check_last (h.chk j hj)) (foundN_no.2 fun q hq => ?_) (taken_no.2 fun q hq => ?_) (by rw [len_putN]; exact hl)
  · rcases hm q hq with rfl | ⟨hq, -⟩
    · exact hn j hj
    · exact hn q hq
  · rcases hm q hq with rfl | ⟨hq, hne⟩
    · simp [clash, voidedN]
    · have := h.no j hj q hq
      unfold clash at this ⊢
      have e1 : (q.id != j.id) = true := by simpa using hne
      have e2 : (q.id != (lastN j).id) = true := by have := hn q hq; simpa [lastN] using this
      rw [e1] at this
      rw [e2]
      exact this
theorem same_self (j : Jn) : sameN j j = true := by simp [sameN]
/-- What stands between the calls of BookVoids. -/
def VSt (w2 : World) (p J : Nat) (cs : Array Value) (W : World) (L : List Jn) : Prop := ∃ R, BN W p L R ∧ (∀ g ∈ R, w2.heap.size ≤ g ∧ g ≠ J) ∧ p ≠ J ∧ w2.heap.size ≤ p ∧ Blk W J 31 cs ∧ Chg [] w2 W
theorem VSt.keep {w2 W W' : World} {p J : Nat} {cs : Array Value} {L : List Jn} (h : VSt w2 p J cs W L) (k : Chg [] W W') : VSt w2 p J cs W' L := by
  obtain ⟨R, h1, h2, h3, h4, h5, h6⟩ := h
  exact ⟨R, h1.keep k, h2, h3, h4, h5.chg k (by simp), h6.trans' k⟩
theorem VSt.step {w2 W W' : World} {p J : Nat} {cs : Array Value} {L' : List Jn} {R R' : List Nat} (h2 : ∀ g ∈ R, w2.heap.size ≤ g ∧ g ≠ J) (h3 : p ≠ J) (h4 : w2.heap.size ≤ p) (h5 : Blk W J 31 cs) (h6 : Chg [] w2 W)
    (hb : BN W' p L' R') (hf : ∀ g ∈ R', g ∈ R ∨ W.heap.size ≤ g) (hz : Chg (p :: R) W W') : VSt w2 p J cs W' L' := by
  have hJ := h5.lt
  have hs := h6.size
  refine ⟨R', hb, fun g hg => (hf g hg).elim (h2 g) (fun h => ⟨by omega, by omega⟩), h3, h4, h5.chg hz (fun hm => ?_), h6.trans hz (fun g hg => .inr ?_)⟩
  · rcases List.mem_cons.1 hm with h | h
    · exact h3 h.symm
    · exact (h2 J h).2 rfl
  · rcases List.mem_cons.1 hg with h | h
    · omega
    · exact (h2 g h).1
theorem VSt.void {w2 W : World} {p J : Nat} {cs : Array Value} {L : List Jn} (h : VSt w2 p J cs W L) {id : Int} (hI : 1 ≤ id ∧ id ≤ 999999) : Calls Try.prog 13 #[.pointer (some ⟨p, 0, none⟩), .int .i64 id] W fun e w' => e = .returned (.int .i64 (voidN L id)) ∧ VSt w2 p J cs w' (match getN L id with | none => L | some q => if q.void = true then L else putN L (voidedN q)) := by
  obtain ⟨R, h1, h2, h3, h4, h5, h6⟩ := h
  refine (bn_void h1 (id := id) (by omega)).mono ?_
  rintro e w' ⟨rfl, hb, hz⟩
  exact ⟨rfl, VSt.step h2 h3 h4 h5 h6 hb (fun g hg => .inl hg) hz⟩
theorem VSt.amend {w2 W : World} {p J : Nat} {cs : Array Value} {L : List Jn} (h : VSt w2 p J cs W L) (j : Jn) {A : Option Addr} {n c : Nat} (hs : Go.Vx.Src w2 3 A n (j.lines.flatMap lnEnc)) (hln : n ≤ 1000000) (hr : j.ref.size ≤ maxLen) :
    Calls Try.prog 14 #[.pointer (some ⟨p, 0, none⟩), jnV j (.slice A n c)] W fun e w' => e = .returned (.int .i64 (amendN L j)) ∧ VSt w2 p J cs w' (if amendN L j = 0 then putN L j else L) := by
  obtain ⟨R, h1, h2, h3, h4, h5, h6⟩ := h
  refine (bn_amend h1 j (hs.chg h6 (by simp)) hln hr).mono ?_
  rintro e w' ⟨rfl, R', hb, hf, hz⟩
  exact ⟨rfl, VSt.step h2 h3 h4 h5 h6 hb hf hz⟩
theorem VSt.post {w2 W : World} {p J : Nat} {cs : Array Value} {L : List Jn} (h : VSt w2 p J cs W L) (j : Jn) {A : Option Addr} {n c : Nat} (hs : Go.Vx.Src W 3 A n (j.lines.flatMap lnEnc)) (hln : n ≤ 1000000) (hr : j.ref.size ≤ maxLen) :
    Calls Try.prog 7 #[.pointer (some ⟨p, 0, none⟩), jnV j (.slice A n c)] W fun e w' => e = .returned (.int .i64 (postN L j)) ∧ Chg [] w2 w' := by
  obtain ⟨R, h1, h2, h3, h4, h5, h6⟩ := h
  refine (bn_post h1 j hs hln hr).mono ?_
  rintro e w' ⟨rfl, R', hb, hf, hz⟩
  obtain ⟨-, -, -, -, -, -, h⟩ := VSt.step h2 h3 h4 h5 h6 hb hf hz
  exact ⟨rfl, h⟩
theorem VSt.len {w2 W : World} {p J : Nat} {cs : Array Value} {L : List Jn} (h : VSt w2 p J cs W L) : Calls Try.prog 8 #[.pointer (some ⟨p, 0, none⟩)] W fun e w' => e = .returned (.int .i64 (L.length : Nat)) ∧ VSt w2 p J cs w' L := by
  obtain ⟨R, h1, h2, h3, h4, h5, h6⟩ := id h
  refine (bn_len h1).mono ?_
  rintro e w' ⟨rfl, hz⟩
  exact ⟨rfl, h.keep hz⟩
theorem VSt.get {w2 W : World} {p J : Nat} {cs : Array Value} {L : List Jn} (h : VSt w2 p J cs W L) {id : Int} (hI : 1 ≤ id ∧ id ≤ 999999) : Calls Try.prog 15 #[.pointer (some ⟨p, 0, none⟩), .int .i64 id] W fun e w' => ∃ v F, e = .returned (.tuple #[jnV ((getN L id).getD noJn) v, .bool (foundN L id)]) ∧ Fix w' 28 3 v ((getN L id).getD noJn).lines.length (((getN L id).getD noJn).lines.flatMap lnEnc) F ∧ Chg [] W w' := by
  obtain ⟨R, h1, h2, h3, h4, h5, h6⟩ := h
  refine (bn_get h1 (id := id) (by omega)).mono ?_
  rintro e w' ⟨v, F, rfl, hf, hF, hz⟩
  exact ⟨v, F, rfl, hf, hz⟩
end Go.Proofs.Ytlgfmphjgijilaa
