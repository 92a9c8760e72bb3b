/- Do: an act on both cloths. -/
import Derived.Test.YtjbjiomajldkoaaClothIt
namespace Go.Proofs.Ytjbjiomajldkoaa
open Go.RowKit Go.Vx
set_option linter.unusedVariables false
set_option linter.unusedSimpArgs false

def Cl (w : World) (p : Nat) (c : ClothS) (S : List Nat) : Prop := ∃ pr lo ke F G H, ClothAt w p pr lo ke c F G H ∧ S = p :: (F ++ G ++ H)
def CPost (w : World) (S : List Nat) (p : Nat) (r : Value) (c' : ClothS) (e : Ending) (w' : World) : Prop :=
  ∃ S', e = .returned r ∧ Cl w' p c' S' ∧ Chg S w w' ∧ ∀ g, g ∈ S' → g ∈ S ∨ w.heap.size ≤ g
section
variable {w w' : World} {p q : Nat} {c : ClothS} {S T F : List Nat}
theorem Cl.chg (h : Cl w p c S) (k : Chg F w w') (hd : ∀ g, g ∈ S → g ∉ F) : Cl w' p c S := by
  obtain ⟨pr, lo, ke, F, G, H, h, rfl⟩ := h
  exact ⟨pr, lo, ke, F, G, H, h.chg k hd, rfl⟩
theorem Cl.lt (h : Cl w p c S) : ∀ g, g ∈ S → g < w.heap.size := by
  obtain ⟨pr, lo, ke, F, G, H, h, rfl⟩ := h
  intro g hg
  simp only [List.mem_cons, List.mem_append] at hg
  rcases hg with rfl | (hg | hg) | hg
  · exact h.blk.lt
  · exact h.hpr.lt g hg
  · exact h.hlo.lt g hg
  · exact h.hke.lt g hg
theorem Ref.lt (h : Ref w p c S) : ∀ g, g ∈ S → g < w.heap.size := by
  obtain ⟨now, last, lo, ke, n, kl, Fn, Fl, G, H, h, rfl⟩ := h
  intro g hg
  simp only [List.mem_cons, List.mem_append] at hg
  rcases hg with rfl | ((hg | hg) | hg) | hg
  · exact h.blk.lt
  · exact h.hn.lt g hg
  · exact h.hl.lt g hg
  · exact h.hlo.lt g hg
  · exact h.hke.lt g hg
/-- Both, side by side, apart. -/
structure Pair (w : World) (p q : Nat) (c : ClothS) (S T : List Nat) : Prop where
  cl : Cl w p c S
  rf : Ref w q c T
  dis : ∀ g, g ∈ S → g ∉ T
theorem Pair.chg (h : Pair w p q c S T) (k : Chg F w w') (hd : ∀ g, g ∈ S ++ T → g ∉ F) : Pair w' p q c S T :=
  ⟨h.cl.chg k fun g hg => hd g (by simp [hg]), h.rf.chg k fun g hg => hd g (by simp [hg]), h.dis⟩

/-- The acts on the cloth. -/
def ClothS.weaveX (c : ClothS) (row : Int) (s : ByteArray) : ClothS := if c.may row = 0 ∧ s.size ≤ 40 then c.weaveS row s else c
def ClothS.weaveXR (c : ClothS) (row : Int) (s : ByteArray) : Int := if c.may row = 0 then (if s.size ≤ 40 then c.weaveR else 1) else c.may row
def ClothS.pressX (c : ClothS) : ClothS := if c.torn then c else c.pressS
def ClothS.pressXR (c : ClothS) : Int := if c.torn then 14 else c.weaveR
def ClothS.tearX (c : ClothS) (keep : List Bool) : ClothS := if c.torn then c else c.tear keep
def ClothS.tearXR (c : ClothS) (keep : List Bool) : Int := if c.torn then 0 else c.loose.length - (keptTo c.loose keep c.loose.length).length
structure Good (c : ClothS) (k : Nat) : Prop where
  ll : c.loose.length ≤ k
  kl : c.keep.length ≤ 60
  ok : RowsOk c.pressed.length c.loose
  lf : c.leftOk
  pl : c.pressed.length ≤ 2000
theorem Good.mono {k m : Nat} (h : Good c k) (hkm : k ≤ m) : Good c m := ⟨Nat.le_trans h.ll hkm, h.kl, h.ok, h.lf, h.pl⟩
theorem tear_len (c : ClothS) (keep : List Bool) : (c.tear keep).pressed.length = c.pressed.length := pressTo_length _ _
theorem Good.tear {k : Nat} (h : Good c k) (keep : List Bool) : Good (c.tear keep) k :=
  ⟨by simp [ClothS.tear], by simp [ClothS.tear], by intro t ht; simp [ClothS.tear] at ht, by intro hs; simp [ClothS.tear] at hs, by rw [tear_len]; exact h.pl⟩
theorem Good.tearX {k : Nat} (h : Good c k) (keep : List Bool) : Good (c.tearX keep) k := by
  unfold ClothS.tearX; split
  · exact h
  · exact h.tear keep
theorem Good.gone {k : Nat} (h : Good c k) (hg : c.going = false) : Good c.gone k := by
  refine ⟨h.ll, h.kl, h.ok, ?_, h.pl⟩
  intro hs
  have hs : c.snagged = true := hs
  obtain ⟨l0, l1⟩ := h.lf hs
  simp [ClothS.going, hs] at hg
  simp only [ClothS.gone, hs, if_true]
  omega
theorem Good.weaveX {k : Nat} (h : Good c k) (row : Int) (s : ByteArray) : Good (c.weaveX row s) (k + 1) := by
  unfold ClothS.weaveX
  split
  · rename_i hm
    obtain ⟨-, m0, m1⟩ := may_zero hm.1
    unfold ClothS.weaveS
    cases hg : c.going with
    | true => exact ⟨by simp [ClothS.tear], by simp [ClothS.tear], by intro t ht; simp [ClothS.tear] at ht, by intro hs; simp [ClothS.tear] at hs, by simp only [if_true]; rw [tear_len]; exact h.pl⟩
    | false =>
      have hq := h.gone hg
      refine ⟨?_, h.kl, ?_, hq.lf, h.pl⟩
      · have := h.ll; simp [ClothS.add, gone_loose]; omega
      · intro t ht
        simp [ClothS.add, gone_loose] at ht
        rcases ht with ht | rfl
        · exact h.ok t ht
        · exact ⟨m0, m1⟩
  · exact h.mono (by omega)
theorem Good.pressX {k : Nat} (h : Good c k) : Good c.pressX k := by
  unfold ClothS.pressX
  split
  · exact h
  · unfold ClothS.pressS
    cases hg : c.going with
    | true => exact ⟨by simp [ClothS.tear], by simp [ClothS.tear], by intro t ht; simp [ClothS.tear] at ht, by intro hs; simp [ClothS.tear] at hs, by simp only [if_true]; rw [tear_len]; exact h.pl⟩
    | false =>
      have hq := h.gone hg
      refine ⟨by simp [ClothS.done], h.kl, by intro t ht; simp [ClothS.done] at ht, hq.lf, ?_⟩
      simp only [ClothS.done, gone_loose, gone_pressed]
      exact Nat.le_trans (Nat.le_of_eq (pressTo_length _ _)) h.pl
theorem Good.mend {k : Nat} (h : Good c k) : Good { c with torn := false } k := ⟨h.ll, h.kl, h.ok, h.lf, h.pl⟩
theorem Good.snag {k : Nat} (h : Good c k) (n : Int) (hn : n ≤ 9223372036854775807) (keep : List Bool) (hk : keep.length ≤ 60) : Good (c.snag n keep) k :=
  ⟨h.ll, hk, h.ok, by intro hs; simp [ClothS.snag] at hs; exact ⟨hs, hn⟩, h.pl⟩

/-- The calls, on whichever cloth. -/
theorem cweave {k : Nat} (h : Cl w p c S) (g : Good c k) (hk : k < 1000000) (row : Int) (s : ByteArray) (hs2 : s.size ≤ 281474976710656) :
    Calls Try.prog 10 #[.pointer (some ⟨p, 0, none⟩), .int .i64 row, .string s] w (CPost w S p (.int .i64 (c.weaveXR row s)) (c.weaveX row s)) := by
  have h0 := h
  obtain ⟨pr, lo, ke, F, G, H, h, rfl⟩ := h
  have gl := g.ll
  have gk := g.kl
  by_cases hm : c.may row = 0
  · by_cases hs : s.size ≤ 40
    · refine (weave_at h row s hm hs (by omega) (by omega) g.ok g.lf).mono ?_
      rintro e w' ⟨lo', ke', G', H', rfl, h', hw, hG, hH⟩
      refine ⟨_, by simp [ClothS.weaveXR, hm, hs], ⟨pr, lo', ke', F, G', H', by simpa [ClothS.weaveX, hm, hs] using h', rfl⟩, hw.mono (by intro g hg; simp only [List.mem_cons, List.mem_append] at hg ⊢; rcases hg with hg | hg | hg <;> simp [hg]), ?_⟩
      intro g hg
      simp only [List.mem_cons, List.mem_append] at hg ⊢
      rcases hg with hg | (hg | hg) | hg
      · simp [hg]
      · simp [hg]
      · rcases hG g hg with h | h <;> simp [h]
      · rcases hH g hg with h | h <;> simp [h]
    · refine (weave_long h row s hm (by omega) hs2).mono ?_
      rintro e w' ⟨rfl, rfl⟩
      exact ⟨_, by simp [ClothS.weaveXR, hm, hs], by simpa [ClothS.weaveX, hs] using h0, Chg.refl _ _, fun g hg => .inl hg⟩
  · refine (weave_may h row s hm).mono ?_
    rintro e w' ⟨rfl, rfl⟩
    exact ⟨_, by simp [ClothS.weaveXR, hm], by simpa [ClothS.weaveX, hm] using h0, Chg.refl _ _, fun g hg => .inl hg⟩
theorem cpress {k : Nat} (h : Cl w p c S) (g : Good c k) (hk : k < 1000000) :
    Calls Try.prog 11 #[.pointer (some ⟨p, 0, none⟩)] w (CPost w S p (.int .i64 c.pressXR) c.pressX) := by
  have h0 := h
  obtain ⟨pr, lo, ke, F, G, H, h, rfl⟩ := h
  have gl := g.ll
  have gk := g.kl
  cases ht : c.torn with
  | true =>
    refine (press_off h ht).mono ?_
    rintro e w' ⟨rfl, rfl⟩
    exact ⟨_, by simp [ClothS.pressXR, ht], by simpa [ClothS.pressX, ht] using h0, Chg.refl _ _, fun g hg => .inl hg⟩
  | false =>
    refine (press_on h ht (by omega) (by omega) g.ok g.lf).mono ?_
    rintro e w' ⟨lo', ke', G', H', rfl, h', hw, hG, hH⟩
    refine ⟨_, by simp [ClothS.pressXR, ht], ⟨pr, lo', ke', F, G', H', by simpa [ClothS.pressX, ht] using h', rfl⟩, hw.mono (by intro g hg; simp only [List.mem_cons, List.mem_append] at hg ⊢; rcases hg with hg | hg | hg <;> simp [hg]), ?_⟩
    intro g hg
    simp only [List.mem_cons, List.mem_append] at hg ⊢
    rcases hg with hg | (hg | hg) | hg
    · simp [hg]
    · simp [hg]
    · rcases hG g hg with h | h <;> simp [h]
    · rcases hH g hg with h | h <;> simp [h]
theorem ctear {k : Nat} (h : Cl w p c S) (g : Good c k) (hk : k < 1000000) {A : Option Addr} {n m : Nat} {keep : List Bool} (hs : Src w 1 A n (keep.map .bool)) (hn : n ≤ 1000000) :
    Calls Try.prog 13 #[.pointer (some ⟨p, 0, none⟩), .slice A n m] w (CPost w S p (.int .i64 (c.tearXR keep)) (c.tearX keep)) := by
  have h0 := h
  obtain ⟨pr, lo, ke, F, G, H, h, rfl⟩ := h
  have gl := g.ll
  cases ht : c.torn with
  | true =>
    refine (tear_off h ht A n m).mono ?_
    rintro e w' ⟨rfl, rfl⟩
    exact ⟨_, by simp [ClothS.tearXR, ht], by simpa [ClothS.tearX, ht] using h0, Chg.refl _ _, fun g hg => .inl hg⟩
  | false =>
    refine (tear_on h ht g.ok (by omega) hs hn).mono ?_
    rintro e w' ⟨rfl, h', hw⟩
    refine ⟨_, by simp [ClothS.tearXR, ht], ⟨pr, _, _, F, [], [], by simpa [ClothS.tearX, ht] using h', rfl⟩, hw.mono (by intro g hg; simp only [List.mem_cons, List.mem_append] at hg ⊢; rcases hg with hg | hg <;> simp [hg]), ?_⟩
    intro g hg
    simp only [List.mem_cons, List.mem_append, List.not_mem_nil, or_false] at hg ⊢
    rcases hg with hg | hg <;> simp [hg]
theorem rweave {k : Nat} (h : Ref w q c T) (g : Good c k) (hk : k < 1000000) (row : Int) (s : ByteArray) (hs2 : s.size ≤ 281474976710656) :
    Calls Try.prog 33 #[.pointer (some ⟨q, 0, none⟩), .int .i64 row, .string s] w (RefPost w T q (.int .i64 (c.weaveXR row s)) (c.weaveX row s)) := by
  have h0 := h
  obtain ⟨now, last, lo, ke, n, kl, Fn, Fl, G, H, h, rfl⟩ := h
  have gl := g.ll
  have gk := g.kl
  by_cases hm : c.may row = 0
  · obtain ⟨m2, m0, m1⟩ := may_zero hm
    by_cases hs : s.size ≤ 40
    · obtain ⟨r, rfl⟩ := Int.eq_ofNat_of_zero_le m0
      refine (rweave_at h r s hm hs (by omega) (by omega) g.ok g.lf).mono ?_
      rintro e w' hp
      rw [show c.weaveXR (r : Int) s = c.weaveR by simp [ClothS.weaveXR, hm, hs], show c.weaveX (r : Int) s = c.weaveS r s by simp [ClothS.weaveX, hm, hs]]
      exact hp
    · refine (rweave_bad h row s m2 (by omega) hs2).mono ?_
      rintro e w' ⟨rfl, rfl⟩
      exact ⟨_, by simp [ClothS.weaveXR, hm, hs], by simpa [ClothS.weaveX, hs] using h0, Chg.refl _ _, fun g hg => .inl hg⟩
  · cases ht : c.torn with
    | true =>
      refine (rweave_off h row s ht).mono ?_
      rintro e w' ⟨rfl, rfl⟩
      have e : c.may row = 14 := by simp [ClothS.may, ht]
      exact ⟨_, by simp [ClothS.weaveXR, e], by simpa [ClothS.weaveX, hm] using h0, Chg.refl _ _, fun g hg => .inl hg⟩
    | false =>
      have hb : row < 0 ∨ (c.pressed.length : Int) ≤ row := by
        rcases Int.lt_or_le row 0 with h | h
        · exact .inl h
        · rcases Int.lt_or_le row c.pressed.length with h2 | h2
          · exact absurd (by unfold ClothS.may; rw [if_neg (by simp [ht]), if_neg (by omega)]) hm
          · exact .inr h2
      refine (rweave_bad h row s ht (by rcases hb with h | h; exact .inl h; exact .inr (.inl h)) hs2).mono ?_
      rintro e w' ⟨rfl, rfl⟩
      have e : c.may row = 1 := by unfold ClothS.may; rw [if_neg (by simp [ht]), if_pos hb]
      exact ⟨_, by simp [ClothS.weaveXR, e], by simpa [ClothS.weaveX, hm] using h0, Chg.refl _ _, fun g hg => .inl hg⟩
theorem rpress {k : Nat} (h : Ref w q c T) (g : Good c k) (hk : k < 1000000) :
    Calls Try.prog 34 #[.pointer (some ⟨q, 0, none⟩)] w (RefPost w T q (.int .i64 c.pressXR) c.pressX) := by
  have h0 := h
  obtain ⟨now, last, lo, ke, n, kl, Fn, Fl, G, H, h, rfl⟩ := h
  have gl := g.ll
  have gk := g.kl
  cases ht : c.torn with
  | true =>
    refine (rpress_off h ht).mono ?_
    rintro e w' ⟨rfl, rfl⟩
    exact ⟨_, by simp [ClothS.pressXR, ht], by simpa [ClothS.pressX, ht] using h0, Chg.refl _ _, fun g hg => .inl hg⟩
  | false =>
    refine (rpress_on h ht (by omega) (by omega) g.ok g.lf).mono ?_
    rintro e w' hp
    rw [show c.pressXR = c.weaveR by simp [ClothS.pressXR, ht], show c.pressX = c.pressS by simp [ClothS.pressX, ht]]
    exact hp
theorem rtear {k : Nat} (h : Ref w q c T) (g : Good c k) (hk : k < 1000000) {A : Option Addr} {n m : Nat} {keep : List Bool} (hs : Src w 1 A n (keep.map .bool)) (hn : n ≤ 1000000) (hA : 0 < n → ∀ ad, A = some ad → ad.block ∉ T) :
    Calls Try.prog 35 #[.pointer (some ⟨q, 0, none⟩), .slice A n m] w (RefPost w T q (.int .i64 (c.tearXR keep)) (c.tearX keep)) := by
  have h0 := h
  obtain ⟨now, last, lo, ke, n', kl, Fn, Fl, G, H, h, rfl⟩ := h
  have gl := g.ll
  cases ht : c.torn with
  | true =>
    refine (rtear_off h ht A n m).mono ?_
    rintro e w' ⟨rfl, rfl⟩
    exact ⟨_, by simp [ClothS.tearXR, ht], by simpa [ClothS.tearX, ht] using h0, Chg.refl _ _, fun g hg => .inl hg⟩
  | false =>
    refine (rtear_on (cap := m) h ht g.ok (by omega) hs hn (fun h0 ad ha hf => hA h0 ad ha (by simp [hf]))).mono ?_
    rintro e w' hp
    rw [show c.tearXR keep = c.loose.length - (keptTo c.loose keep c.loose.length).length by simp [ClothS.tearXR, ht], show c.tearX keep = c.tear keep by simp [ClothS.tearX, ht]]
    exact hp
end
end Go.Proofs.Ytjbjiomajldkoaa
