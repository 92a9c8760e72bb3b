/- Journals: Void. -/
import Derived.Test.YtlgfmphjgijilaaJoS
namespace Go.Proofs.Ytlgfmphjgijilaa
open Go.RowKit Go.Vx
set_option linter.unusedVariables false
set_option linter.unusedSimpArgs false

def voidE (Q : List JV) (id : Int) : Int := match getJ Q id with | none => 9 | some q => if q.j.void = true then 11 else 0
def voided (q : JV) : JV := { q with j := { q.j with void := true } }
/-- The cells of an element of a book. -/
theorem book_cells {w : World} {g n c : Nat} {Q : List JV} {F : List Nat} (hf : Fix w 31 6 (.slice (some ⟨g, 0, none⟩) n c) n (Q.flatMap jvEnc) F) {i : Nat} (hi : i < Q.length) (hn : n = Q.length) :
    ∀ j, j < 6 → w.cell? ⟨g, i * 6 + j, none⟩ = (jvEnc Q[i])[j]? ∧ w.frozen? ⟨g, i * 6 + j, none⟩ = false := fun j hj => by
  obtain ⟨g', hg, -, h⟩ := hf.el (k := i) (by omega)
  injection hg with hg
  injection hg with hg
  subst hg
  obtain ⟨h1, h2⟩ := h j hj
  rw [flatMap_at jvEnc_len Q i hi j hj, at_eq hi] at h1
  exact ⟨h1, h2⟩
/-- A journal takes another one's place: behind the stores of its cells. -/
theorem BAt.put {w w1 : World} {p : Nat} {Q : List JV} {R : List Nat} (h : BAt w p Q R) {g c i : Nat} {Ft : List Nat} {q : JV} (hb : Blk w p 26 #[.slice (some ⟨g, 0, none⟩) Q.length c]) (hf : Fix w 31 6 (.slice (some ⟨g, 0, none⟩) Q.length c) Q.length (Q.flatMap jvEnc) Ft) (hR : ∀ g ∈ Ft, g ∈ R) (hp : p ∉ Ft)
    (hq : Fix w 28 3 q.pv q.j.lines.length (q.j.lines.flatMap lnEnc) q.pF) (hfx : Fix w1 31 6 (.slice (some ⟨g, 0, none⟩) Q.length c) Q.length ((Q.set i q).flatMap jvEnc) Ft) (hch : Chg Ft w w1) :
    BAt w1 p (Q.set i q) (q.pF ++ R) ∧ Chg (p :: R) w w1 := by
  have hm : ∀ x, x ∈ Q.set i q → x = q ∨ x ∈ Q := fun x hx => (List.mem_or_eq_of_mem_set hx).symm
  have he : ∀ x ∈ Q.set i q, Fix w 28 3 x.pv x.j.lines.length (x.j.lines.flatMap lnEnc) x.pF := fun x hx => by
    rcases hm x hx with rfl | hx
    · exact hq
    · exact h.each x hx
  refine ⟨⟨⟨_, Ft, hb.chg hch hp, by rw [List.length_set]; exact hfx, fun g hg => List.mem_append_right _ (hR g hg)⟩, fun x hx => (he x hx).chg hch ((he x hx).disj hf (by decide)), fun x hx g hg => ?_⟩, hch.mono fun g hg => List.mem_cons_of_mem _ (hR g hg)⟩
  rcases hm x hx with rfl | hx
  · exact List.mem_append_left _ hg
  · exact List.mem_append_right _ (h.foot x hx g hg)
/-- What Void leaves. -/
def VoidPost (w : World) (p : Nat) (Q : List JV) (R : List Nat) (id : Int) (e : Ending) (w' : World) : Prop := e = .returned (.int .i64 (voidE Q id)) ∧ (voidE Q id ≠ 0 → Chg [] w w') ∧ (voidE Q id = 0 → ∃ q, getJ Q id = some q ∧ BAt w' p (putJ Q (voided q)) R ∧ Chg (p :: R) w w')
set_option maxRecDepth 100000 in
set_option maxHeartbeats 4000000 in
theorem jb_void {w : World} {p : Nat} {Q : List JV} {R : List Nat} (hb : BAt w p Q R) (hn : Q.length ≤ 1000) (hQ : SrtJ Q) (hid : Ids Q) {id : Int} (hI : -9223372036854775808 ≤ id ∧ id ≤ 9223372036854775807) :
    Calls Try.prog 13 #[.pointer (some ⟨p, 0, none⟩), .int .i64 id] w (VoidPost w p Q R id) := by
  have hfd := jb_find_any hb hn hQ hid hI
  obtain ⟨PP, hPP⟩ : ∃ PP, PP = VoidPost w p Q R id := ⟨_, rfl⟩
  rw [← hPP]
  replace hPP := Lib.hid hPP
  go_enter Try.func13, Try.ntmps13
  go_wp2_with fail
  refine hfd.mono ?_
  rintro e w2 ⟨i, hi, rfl, hat, hz⟩
  clear hfd
  have hb2 := hb.keep hz
  obtain ⟨A, c, Ft, ca, hbb, hfx, hFR, hpF, hle, hcm⟩ := hb2.head
  cases hf : foundB Q id with
  | false =>
    have hg : getJ Q id = none := by
      cases h : getJ Q id with
      | none => rfl
      | some q => rw [getJ_found, h] at hf; cases hf
    have hv : Hid (voidE Q id = 9) := Lib.hid (by unfold voidE; rw [hg])
    clear hbb hfx hat hg
    go_wp2_with fail
    rw [hPP.out]
    exact ⟨by rw [hv.out]; rfl, fun _ => hz, fun h => by rw [hv.out] at h; cases h⟩
  | true =>
    obtain ⟨hil, hie⟩ := hat hf
    have hg := getJ_at hQ hil hie
    obtain ⟨B, c', hv, -, -, -, h4⟩ := _root_.id hfx
    injection hv with ha _ hcc
    subst ha hcc
    rcases h4 with ⟨h0, -⟩ | ⟨g, cur, rfl, hF0, -⟩
    · omega
    obtain ⟨c5, f5⟩ := book_cells hfx hil rfl 5 (by omega)
    replace c5 : w2.cell? ⟨g, i * 6 + 5, none⟩ = some (.bool Q[i].j.void) := c5
    have hi2 : (i : Int) < (Q.length : Int) := by omega
    have hst := putJ_at hQ hil (x := voided Q[i]) rfl
    have hset := set_flat1 jvEnc_len Q i hil 5 (by omega) (.bool true) (voided Q[i]) rfl
    have hea := hb2.each _ (List.getElem_mem hil)
    have hfo := hb2.foot _ (List.getElem_mem hil)
    cases hvd : Q[i].j.void with
    | true =>
      have hv : Hid (voidE Q id = 11) := Lib.hid (by unfold voidE; rw [hg]; dsimp only; rw [if_pos hvd])
      rw [hvd] at c5
      clear hbb hat hg hst hset hea hfo hie hvd hb2 hFR hQ hid hf hfx hF0
      go_wp2_with fail
      rw [hPP.out]
      exact ⟨by rw [hv.out]; rfl, fun _ => hz, fun h => by rw [hv.out] at h; cases h⟩
    | false =>
      have hv : Hid (voidE Q id = 0) := Lib.hid (by unfold voidE; rw [hg]; dsimp only; rw [if_neg (by rw [hvd]; simp)])
      rw [hvd] at c5
      replace hb2 := Lib.hid hb2
      replace hfx := Lib.hid hfx
      replace hbb := Lib.hid hbb
      replace hFR := Lib.hid hFR
      replace hst := Lib.hid hst
      replace hset := Lib.hid hset
      replace hg := Lib.hid hg
      replace hF0 := Lib.hid hF0
      replace hea := Lib.hid hea
      replace hfo := Lib.hid hfo
      clear hat hie hvd hQ hid hf
      go_wp2_with fail
      rw [hPP.out]
      have hfs := hfx.out.store rfl (i * 6 + 5) (.bool true)
      rw [hset.out] at hfs
      have hI := BAt.put (q := voided Q[i]) (i := i) hb2.out hbb.out hfx.out hFR.out hpF hea.out hfs ((Chg.refl Ft w2).setCell (.inl (by rw [hF0.out]; simp)) _)
      rw [hst.out] at hI
      refine ⟨by rw [hv.out]; rfl, fun h => absurd hv.out h, fun _ => ⟨Q[i], hg.out, ?_, (hz.mono (by simp)).trans' hI.2⟩⟩
      exact ⟨hI.1.ex.imp fun v ⟨Ft', h1, h2, h3⟩ => ⟨Ft', h1, h2, fun g hg => (List.mem_append.1 (h3 g hg)).elim (hfo.out g) (fun h => h)⟩, hI.1.each, fun x hx g hg => (List.mem_append.1 (hI.1.foot x hx g hg)).elim (hfo.out g) (fun h => h)⟩
end Go.Proofs.Ytlgfmphjgijilaa
