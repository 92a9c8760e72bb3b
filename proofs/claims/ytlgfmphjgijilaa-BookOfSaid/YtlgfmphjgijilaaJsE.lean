/- BookOf: plain laws. -/
import Derived.Test.YtlgfmphjgijilaaJsD
namespace Go.Proofs.Ytlgfmphjgijilaa
open Go.RowKit Go.Vx
set_option linter.unusedVariables false
set_option linter.unusedSimpArgs false

theorem insN_perm (x : Jn) : ∀ L : List Jn, (insN L x).Perm (x :: L)
  | [] => List.Perm.refl _
  | q :: L => by
    unfold insN
    split
    · exact ((insN_perm x L).cons q).trans (List.Perm.swap x q L)
    · exact List.Perm.refl _
theorem srtN_ext : ∀ {A B : List Jn}, SrtN A → SrtN B → (∀ x, x ∈ A ↔ x ∈ B) → A = B
  | [], [], _, _, _ => rfl
  | [], b :: B, _, _, h => by have := (h b).2 (by simp); simp at this
  | a :: A, [], _, _, h => by have := (h a).1 (by simp); simp at this
  | a :: A, b :: B, ha, hb, h => by
    unfold SrtN at ha hb
    rw [List.pairwise_cons] at ha hb
    have hab : a = b := by
      rcases List.mem_cons.1 ((h a).1 (by simp)) with e | e
      · exact e
      · rcases List.mem_cons.1 ((h b).2 (by simp)) with e2 | e2
        · exact e2.symm
        · have h1 := ha.1 b e2
          have h2 := hb.1 a e
          omega
    subst hab
    congr 1
    refine srtN_ext ha.2 hb.2 (fun x => ⟨fun hx => ?_, fun hx => ?_⟩)
    · rcases List.mem_cons.1 ((h x).1 (by simp [hx])) with e | e
      · subst e; have := ha.1 x hx; omega
      · exact e
    · rcases List.mem_cons.1 ((h x).2 (by simp [hx])) with e | e
      · subst e; have := hb.1 x hx; omega
      · exact e
theorem of_perm : ∀ (L acc : List Jn), Good acc → (ofN acc L).2 = 0 → Good (ofN acc L).1 ∧ (ofN acc L).1.Perm (acc ++ L)
  | [], acc, h, _ => ⟨h, by simp [ofN]⟩
  | j :: L, acc, h, h0 => by
    unfold ofN at h0 ⊢
    by_cases hp : postN acc j = 0
    · rw [if_pos hp] at h0 ⊢
      obtain ⟨-, hg⟩ := h.ins hp
      obtain ⟨h1, h2⟩ := of_perm L _ hg h0
      refine ⟨h1, h2.trans (((insN_perm j acc).append_right L).trans ?_)⟩
      exact List.perm_middle.symm
    · rw [if_neg hp] at h0
      exact absurd h0 hp
theorem of_any : ∀ (L acc B : List Jn), Good acc → Good B → B.length ≤ 200 → (acc ++ L).Perm B → ofN acc L = (B, 0)
  | [], acc, B, ha, hb, _, hp => by
    have : acc = B := srtN_ext ha.srt hb.srt (fun x => by have := hp.mem_iff (a := x); simpa using this)
    subst this
    rfl
  | j :: L, acc, B, ha, hb, hl, hp => by
    have hmem : ∀ x, x ∈ acc ++ j :: L → x ∈ B := fun x hx => hp.mem_iff.1 hx
    have hnd : (B.map fun q => q.id).Nodup := by
      have := hb.srt
      unfold SrtN at this
      rw [List.nodup_iff_pairwise_ne, List.pairwise_map]
      exact this.imp (fun {a b} h => by omega)
    have hnd2 : ((acc ++ j :: L).map fun q => q.id).Nodup := (hp.map _).nodup_iff.2 hnd
    rw [List.map_append, List.nodup_append] at hnd2
    have hne : ∀ q ∈ acc, q.id ≠ j.id := fun q hq => hnd2.2.2 q.id (List.mem_map.2 ⟨q, hq, rfl⟩) j.id (by simp)
    have hlen := hp.length_eq
    rw [List.length_append, List.length_cons] at hlen
    have hj : j ∈ B := hmem j (by simp)
    have hpost : postN acc j = 0 := post_ok (hb.chk j hj) (foundN_no.2 hne) (taken_no.2 fun q hq => hb.no j hj q (hmem q (by simp [hq]))) (by omega)
    unfold ofN
    rw [if_pos hpost]
    obtain ⟨-, hg⟩ := ha.ins hpost
    exact of_any L _ B hg hb hl ((((insN_perm j acc).append_right L).trans List.perm_middle.symm).trans hp)
theorem of_turn {L : List Jn} (hl : L.length ≤ 200) (h : (ofN [] L).2 = 0) (k : Nat) : ofN [] (L.drop k ++ L.take k) = ((ofN [] L).1, 0) := by
  obtain ⟨h1, h2⟩ := of_perm L [] Good.nil h
  rw [List.nil_append] at h2
  refine of_any _ [] _ Good.nil h1 (by have := h2.length_eq; omega) ?_
  rw [List.nil_append]
  refine List.perm_append_comm.trans ?_
  rw [List.take_append_drop]
  exact h2.symm
end Go.Proofs.Ytlgfmphjgijilaa
