/- Lineage: plain laws for LineageBases; the program's and the document's lineage side by side. -/
import Derived.Test.YtaabkapjdmceaaaLnX
import Derived.Test.YtaabkapjdmceaaaLnP
import Derived.Test.YtaabkapjdmceaaaLnR
import Derived.Test.YtaabkapjdmceaaaLnW
namespace Go.Proofs.Ytaabkapjdmceaaa
open Go.RowKit Go.Vx Go.Maps Go.Sort
set_option linter.unusedVariables false
set_option linter.unusedSimpArgs false

theorem bases_self {C : Lin0} (hC : WfL C) {a b : Nat} (h : isL C a b = true) : basesL C a b = [a] := by
  obtain ⟨hb, hab⟩ := (isL_iff hC).1 h
  have ha := (hab.there hC hb).1
  have hc : Common C a b a := ⟨⟨ha, .refl⟩, hb, hab⟩
  refine eq_of_lin (lnLin C) (bases_spec hC).1 (List.pairwise_singleton _ _) fun x => ?_
  rw [(bases_spec hC).2, List.mem_singleton]
  constructor
  · intro hx
    exact (hx.2 a hc hx.1.1.2).symm
  · intro e
    rw [e]
    exact ⟨hc, fun y hy hxy => by
      have h1 := (hy.1.2.there hC ha).2.1
      have h2 := (hxy.there hC (common_there hC hy)).2.1
      omega⟩
theorem basesS_mem {C : Lin0} (hC : WfL C) {a b x : Nat} : x ∈ basesS C a b ↔ Greatest C a b x := by
  unfold basesS
  rw [(List.mergeSort_perm _ _).mem_iff]
  exact (bases_spec hC).2 x
theorem basesS_nodup {C : Lin0} (hC : WfL C) (a b : Nat) : (basesS C a b).Nodup := by
  unfold basesS
  rw [(List.mergeSort_perm _ _).nodup_iff]
  refine (bases_spec hC).1.imp fun {x y} h e => ?_
  subst e
  have := (lnLin C).asym h
  rw [h] at this
  cases this
theorem basesS_is {C : Lin0} (hC : WfL C) {a b x : Nat} (h : x ∈ basesS C a b) : isL C x a = true ∧ isL C x b = true := by
  obtain ⟨⟨h1, h2⟩, -⟩ := (basesS_mem hC).1 h
  exact ⟨(isL_iff hC).2 h1, (isL_iff hC).2 h2⟩
theorem basesS_apart {C : Lin0} (hC : WfL C) {a b x y : Nat} (h : x ∈ basesS C a b) (k : y ∈ basesS C a b) (hne : x ≠ y) : isL C x y = false := by
  rw [← Bool.not_eq_true, isL_iff hC]
  rintro ⟨-, h2⟩
  exact hne (((basesS_mem hC).1 h).2 y ((basesS_mem hC).1 k).1 h2).symm
theorem basesS_cover {C : Lin0} (hC : WfL C) {a b x : Nat} (h1 : isL C x a = true) (h2 : isL C x b = true) : ((basesS C a b).any fun z => isL C x z) = true := by
  rw [isL_iff hC] at h1 h2
  obtain ⟨o, ho, ha⟩ := bases_cover hC (x := x) (a := a) (b := b) ⟨h1, h2⟩
  rw [List.any_eq_true]
  have hg := (bases_spec hC).2 o |>.1 ho
  exact ⟨o, (basesS_mem hC).2 hg, (isL_iff hC).2 ⟨common_there hC hg.1, ha⟩⟩
theorem basesS_self {C : Lin0} (hC : WfL C) {a b : Nat} (h : isL C a b = true) : basesS C a b = [a] ∧ bestL C (basesL C a b) = some a := by
  have := bases_self hC h
  exact ⟨basesS_one this, by rw [this]; rfl⟩

/-- Both lineages, made behind w0; all of their blocks below m. -/
structure Two (w0 w : World) (m lp rp : Nat) (C D : Lin0) : Prop where
  ex : ∃ Q R Q' R', LinAt w lp Q R ∧ RLin w rp Q' R' ∧ comsOf Q = C ∧ rcoms Q' = D ∧ (∀ g ∈ lp :: R, w0.heap.size ≤ g ∧ g < m ∧ g ∉ rp :: R') ∧ (∀ g ∈ rp :: R', w0.heap.size ≤ g ∧ g < m)
  chg : Chg [] w0 w
  le : m ≤ w.heap.size
section
variable {w0 w w' : World} {m lp rp : Nat} {C D : Lin0}
theorem Two.keep (h : Two w0 w m lp rp C D) (k : Chg [] w w') : Two w0 w' m lp rp C D := by
  obtain ⟨Q, R, Q', R', h1, h2, h3, h4, h5, h6⟩ := h.ex
  exact ⟨⟨Q, R, Q', R', h1.keep k, h2.keep k, h3, h4, h5, h6⟩, h.chg.trans' k, Nat.le_trans h.le k.size⟩
theorem Two.left (h : Two w0 w m lp rp C D) : LnNew w0 w lp C := by
  obtain ⟨Q, R, Q', R', h1, h2, h3, h4, h5, h6⟩ := h.ex
  exact ⟨⟨Q, R, h1, h3, fun g hg => (h5 g (by simp [hg])).1⟩, (h5 lp (by simp)).1, h.chg⟩
theorem Two.wf (h : Two w0 w m lp rp C D) : WfL C := h.left.wf
theorem Two.is (h : Two w0 w m lp rp C D) (hD : WfL D) (hC : D.length ≤ 400) (elder id : Int) :
    Calls Try.prog 12 #[.pointer (some ⟨rp, 0, none⟩), .int .i64 elder, .int .i64 id] w fun e w' => e = .returned (.bool (isL D elder.toNat id.toNat)) ∧ Chg [] w w' := by
  obtain ⟨Q, R, Q', R', h1, h2, h3, rfl, h5, h6⟩ := h.ex
  exact rln_is h2 (fun g hg => Nat.lt_of_lt_of_le (h6 g hg).2 h.le) hD (by rwa [List.length_map] at hC) elder id
theorem Two.start (hz : Chg [] w0 w) : Two w0 ((w.alloc (.cells #[.slice none 0 0] 26)).alloc (.cells #[.slice none 0 0] 53)) (w.heap.size + 2) w.heap.size (w.heap.size + 1) [] [] := by
  have h1 : (w.alloc (.cells #[.slice none 0 0] 26)).heap.size = w.heap.size + 1 := by simp [World.size_alloc]
  have h2 : ((w.alloc (.cells #[.slice none 0 0] 26)).alloc (.cells #[.slice none 0 0] 53)).heap.size = w.heap.size + 2 := by simp [World.size_alloc]
  have hs := hz.size
  have hr := RLin.new (w.alloc (.cells #[.slice none 0 0] 26))
  rw [h1] at hr
  refine ⟨⟨[], [], [], [], (LinAt.new w).keep ((Chg.refl [] _).alloc _), hr, rfl, rfl, fun g hg => ?_, fun g hg => ?_⟩, (hz.alloc _).alloc _, by omega⟩
  · obtain rfl : g = w.heap.size := by simpa using hg
    exact ⟨by omega, by omega, by simp⟩
  · obtain rfl : g = w.heap.size + 1 := by simpa using hg
    omega
theorem Two.addL (h : Two w0 w m lp rp C D) {A : Option Addr} {n c : Nat} {l F0 : List Nat} (hs : Fix w 3 1 (.slice A n c) n (natVals l) F0) (root : Int) (author : ByteArray) (hC : C.length < 400) (hr : 0 ≤ root) (ha1 : 1 ≤ author.size) (ha2 : author.size ≤ 12)
    (hn : n ≤ 2) (hnd : l.Nodup) (hth : ∀ p ∈ l, isThere C p = true) :
    Calls Try.prog 8 #[.pointer (some ⟨lp, 0, none⟩), .int .i64 root, .string author, .slice A n c] w fun e w' => e = .returned (.tuple #[.int .i64 ((C.length + 1 : Nat) : Int), .int .i64 0]) ∧ Two w0 w' w'.heap.size lp rp (addC C root author l) D ∧ ∃ S, Chg S w w' ∧ ∀ g ∈ S, w0.heap.size ≤ g ∧ g < m := by
  obtain ⟨Q, R, Q', R', h1, h2, rfl, h4, h5, h6⟩ := h.ex
  have hQ : Q.length < 400 := by rwa [List.length_map] at hC
  refine (ln_add h1 (by omega) hs root author hr ha1 ha2 hn hnd hth).mono ?_
  rintro e w' ⟨-, k⟩
  obtain ⟨rfl, v, F1, F2, hl, hc, hF⟩ := k hQ
  have hsz := hc.size
  have hsz0 := h.chg.size
  have hm := h.le
  have hlt : ∀ g ∈ F1 ++ F2, g < w'.heap.size := fun g hg => hl.lt g (by simp only [List.mem_append] at hg ⊢; exact .inr hg)
  refine ⟨by rw [List.length_map], ⟨⟨_, _, Q', R', hl, h2.chg hc (fun hm => ?_) (fun g hg hm => ?_), by unfold comsOf addC; rw [List.map_append]; rfl, h4, fun g hg => ?_, fun g hg => ?_⟩, h.chg.trans hc fun g hg => .inr (h5 g hg).1, Nat.le_refl _⟩, _, hc, fun g hg => ⟨(h5 g hg).1, (h5 g hg).2.1⟩⟩
  · exact (h5 rp hm).2.2 (by simp)
  · exact (h5 g hm).2.2 (by simp [hg])
  · rcases List.mem_cons.1 hg with rfl | hg
    · have := h5 g (by simp)
      exact ⟨this.1, by omega, this.2.2⟩
    · rcases List.mem_append.1 hg with hg | hg
      · have := h5 g (by simp [hg])
        exact ⟨this.1, by omega, this.2.2⟩
      · rcases hF g hg with e | e
        · have := h5 g (by simp [e])
          exact ⟨this.1, by omega, this.2.2⟩
        · exact ⟨by omega, hlt g hg, fun hm => by have := h6 g hm; omega⟩
  · have := h6 g hg
    exact ⟨this.1, by omega⟩
theorem Two.gen (h : Two w0 w m lp rp C D) (hC : C.length ≤ 400) {p : Nat} (hp : isThere C p = true) : genAt C p ≤ 400 := by
  obtain ⟨Q, R, Q', R', h1, h2, rfl, h4, h5, h6⟩ := h.ex
  have h3 := isThere_iff.1 hp
  rw [List.length_map] at h3 hC
  obtain ⟨i, rfl⟩ : ∃ i, p = i + 1 := ⟨p - 1, by omega⟩
  obtain ⟨e1, -, e3⟩ := h1.gen_at (k := i) (by omega)
  omega
theorem Two.addR (h : Two w0 w m lp rp C D) {A : Option Addr} {n c : Nat} {l F0 : List Nat} (hs : Fix w 3 1 (.slice A n c) n (natVals l) F0) (root : Int) (author : ByteArray) (hC : D.length < 400) (hr : 0 ≤ root) (ha1 : 1 ≤ author.size) (ha2 : author.size ≤ 12)
    (hn : n ≤ 2) (hnd : l.Nodup) (hth : ∀ p ∈ l, isThere D p = true) (hge : ∀ p ∈ l, genAt D p ≤ 400) :
    Calls Try.prog 21 #[.pointer (some ⟨rp, 0, none⟩), .int .i64 root, .string author, .slice A n c] w fun e w' => e = .returned (.tuple #[.int .i64 ((D.length + 1 : Nat) : Int), .int .i64 0]) ∧ Two w0 w' w'.heap.size lp rp C (addC D root author l) := by
  obtain ⟨Q, R, Q', R', h1, h2, h3, rfl, h5, h6⟩ := h.ex
  have hQ : Q'.length < 400 := by rwa [List.length_map] at hC
  have hm := h.le
  refine (rln_add h2 (fun g hg => Nat.lt_of_lt_of_le (h6 g hg).2 hm) hQ hs root author hr ha1 ha2 hn hnd hth hge).mono ?_
  rintro e w' ⟨rfl, v, F1, F2, hl, hc, hF⟩
  have hrp : ∀ g ∈ [rp], w0.heap.size ≤ g := fun g hg => by
    obtain rfl : g = rp := by simpa using hg
    exact (h6 g (by simp)).1
  have hsz := hc.size
  have hsz0 := h.chg.size
  refine ⟨by rw [List.length_map], ⟨⟨Q, R, _, _, h1.chg hc (fun hm => ?_) (fun g hg hm => ?_), hl, h3, by unfold rcoms addC; rw [List.map_append]; rfl, fun g hg => ?_, fun g hg => ?_⟩, h.chg.trans hc fun g hg => .inr (hrp g hg), Nat.le_refl _⟩⟩
  · obtain rfl : lp = rp := by simpa using hm
    exact (h5 lp (by simp)).2.2 (by simp)
  · obtain rfl : g = rp := by simpa using hm
    exact (h5 g (by simp [hg])).2.2 (by simp)
  · have := h5 g hg
    refine ⟨this.1, by omega, fun hm => ?_⟩
    rcases List.mem_cons.1 hm with hm | hm
    · exact this.2.2 (by simp [hm])
    · rcases List.mem_append.1 hm with hm | hm
      · exact this.2.2 (by simp [hm])
      · have := hF g hm
        omega
  · rcases List.mem_cons.1 hg with rfl | hg
    · have := h6 g (by simp)
      omega
    · rcases List.mem_append.1 hg with hg | hg
      · have := h6 g (by simp [hg])
        omega
      · have := hF g hg
        omega
end
end Go.Proofs.Ytaabkapjdmceaaa
