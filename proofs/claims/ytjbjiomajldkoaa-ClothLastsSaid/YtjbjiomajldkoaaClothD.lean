/- The cloth's tear. -/
import Derived.Test.YtjbjiomajldkoaaClothB
import Derived.Test.YtjbjiomajldkoaaClothC
import Derived.Test.YtjbjiomajldkoaaShelf
namespace Go.Proofs.Ytjbjiomajldkoaa
open Go.RowKit Go.Vx
set_option linter.unusedVariables false
set_option linter.unusedSimpArgs false

/-- Of the first k threads those that are kept. -/
def keptTo (l : List (Int × ByteArray)) (keep : List Bool) : Nat → List (Int × ByteArray)
  | 0 => []
  | k + 1 => keptTo l keep k ++ (if keep.getD k false then (l[k]?).toList else [])
theorem keptTo_le (l : List (Int × ByteArray)) (keep : List Bool) : ∀ k, (keptTo l keep k).length ≤ k
  | 0 => by simp [keptTo]
  | k + 1 => by
    have := keptTo_le l keep k
    simp only [keptTo, List.length_append]
    split
    · cases l[k]? <;> simp <;> omega
    · simp; omega
theorem keptTo_mem (l : List (Int × ByteArray)) (keep : List Bool) : ∀ k t, t ∈ keptTo l keep k → t ∈ l
  | 0, t, h => by simp [keptTo] at h
  | k + 1, t, h => by
    simp only [keptTo, List.mem_append] at h
    rcases h with h | h
    · exact keptTo_mem l keep k t h
    · split at h
      · cases he : l[k]? with
        | none => simp [he] at h
        | some x =>
          simp [he] at h
          subst h
          exact List.mem_of_getElem? he
      · simp at h
theorem threadCells_append (a b : List (Int × ByteArray)) : threadCells (a ++ b) = threadCells a ++ threadCells b := by simp [threadCells]
theorem threadCells_length (a : List (Int × ByteArray)) : (threadCells a).length = a.length * 2 := by
  induction a with
  | nil => rfl
  | cons t a ih => rw [show threadCells (t :: a) = [.int .i64 t.1, .string t.2] ++ threadCells a from rfl, List.length_append, ih]; simp; omega

theorem strClone (s : ByteArray) (w : World) (hs : s.size ≤ 281474976710656) :
    Calls Try.prog 25 #[.string s] w fun e w' => e = .returned (.string s) ∧ Chg [] w w' := by
  go_enter Try.func25, Try.ntmps25
  go_wp2_with (go_at_call 37; refine (Try.stringslite_Clone _ _ hs).mono ?_; rintro e w' ⟨rfl, hb⟩)
  go_ret
  exact ⟨rfl, .of_below hb⟩

def ClothS.tear (c : ClothS) (keep : List Bool) : ClothS :=
  { c with pressed := pressTo c.pressed (keptTo c.loose keep c.loose.length), loose := [], torn := true, snagged := false, keep := [] }
section
variable {w w' : World} {p : Nat} {pr lo ke : Value} {c : ClothS} {F G H : List Nat}
theorem tear_nil (w : World) (A : Option Addr) (n m : Nat) : Calls Try.prog 13 #[.pointer none, .slice A n m] w fun e w' => e = .returned (.int .i64 0) ∧ w = w' := by
  go_enter Try.func13, Try.ntmps13
  go_wp2_with (go_at_call 17; refine (on_nil _).mono ?_; rintro e w' ⟨rfl, rfl⟩)
  go_ret
  exact ⟨rfl, rfl⟩
theorem tear_off (h : ClothAt w p pr lo ke c F G H) (ht : c.torn = true) (A : Option Addr) (n m : Nat) :
    Calls Try.prog 13 #[.pointer (some ⟨p, 0, none⟩), .slice A n m] w fun e w' => e = .returned (.int .i64 0) ∧ w = w' := by
  go_enter Try.func13, Try.ntmps13
  go_wp2_with (go_at_call 17; refine (on_at h).mono ?_; rintro e w' ⟨rfl, rfl⟩)
  go_ret
  exact ⟨rfl, rfl⟩
set_option maxHeartbeats 800000 in
theorem tear_on (h : ClothAt w p pr lo ke c F G H) (ht : c.torn = false) (hr : RowsOk c.pressed.length c.loose) (hlo : c.loose.length ≤ 1000000)
    {A : Option Addr} {n m : Nat} {keep : List Bool} (hs : Src w 1 A n (keep.map .bool)) (hn : n ≤ 1000000) :
    Calls Try.prog 13 #[.pointer (some ⟨p, 0, none⟩), .slice A n m] w fun e w' => e = .returned (.int .i64 (c.loose.length - (keptTo c.loose keep c.loose.length).length)) ∧ ClothAt w' p pr (.slice none 0 0) (.slice none 0 0) (c.tear keep) F [] [] ∧ Chg (p :: F) w w' := by
  have hkl : keep.length = n := by have := hs.1; simpa using this
  obtain ⟨i0, hi, hz0, hz1, hz2⟩ := info_parts infoThread
  have c1 : w.cell? ⟨p, 1, none⟩ = some lo := h.blk.cell 1
  have hlo' := h.hlo
  obtain ⟨B, cb, rfl, -, hcb, hcm, -⟩ := id hlo'
  unfold maxLen at hcm
  go_enter Try.func13, Try.ntmps13
  go_wp2_with (go_at_call 17; refine (on_at h).mono ?_; rintro e w' ⟨rfl, rfl⟩)
  go_loopw [5, 18] (fun v i wr => ∃ (k : Nat) (K : List Nat), k ≤ c.loose.length ∧ i = .int .i64 k ∧ Fix wr 57 2 v (keptTo c.loose keep k).length (threadCells (keptTo c.loose keep k)) K ∧ (∀ g, g ∈ K → w.heap.size ≤ g) ∧ Chg [] w wr) (fun _ i _ => c.loose.length - (intOf i).toNat)
  case atStart => exact ⟨0, [], Nat.zero_le _, rfl, Fix.nil _ _ _, by simp, Chg.refl _ _⟩
  case round =>
    obtain ⟨k, K, hk, rfl, hf, hK, hw⟩ := hrel
    by_cases hlt : k < c.loose.length
    · have hl1 := hlo'.chg hw (by simp)
      obtain ⟨g, rfl, rfl, hel⟩ := hl1.el hlt
      have d0 := (hel 0 (by omega)).1
      have d1 := (hel 1 (by omega)).1
      rw [(threadCells_at _ k hlt).1] at d0
      rw [(threadCells_at _ k hlt).2] at d1
      rw [Nat.add_zero] at d0
      clear hel
      have hs1 := hs.chg hw (by simp)
      have hkt := keptTo_le c.loose keep k
      by_cases hkn : k < n
      · obtain ⟨ad, rfl, hc⟩ := hs1.2 (by omega)
        have hck := hc k (.bool (keep[k]'(by omega))) (by simp [hkn, hkl])
        clear hc hs1
        have hca := cell_al hck
        cases hb : keep[k]'(by omega) with
        | true =>
          simp only [hb] at hca
          clear hck
          go_wp2_with (at_builtin; refine wpList_append_fix rfl (.tmp 33) (.tmp 35) 51 rfl Try.underlying51 hi hz0 hz1 hz2 rfl (by omega) rfl ((hf.alloc _).alloc _) rfl (Src.one2 (by simp)) (by simp [Value.oneCell']) (by unfold maxLen; omega) (by omega) ?_; intro v' w1 F1 ha)
          go_roundw
          case measure => simp [intOf]; omega
          case rel =>
            have e : keptTo c.loose keep (k + 1) = keptTo c.loose keep k ++ [c.loose[k]] := by
              simp [keptTo, hb, hkl, hkn, hlt]
            refine ⟨k + 1, F1, by omega, by go_num, ?_, ?_, ?_⟩
            · rw [e, threadCells_append, List.length_append]
              exact ha.fix
            · have hz := hw.size
              rcases ha.foot with h1 | h1 <;> rw [h1]
              · exact hK
              · simp; omega
            · exact ((hw.alloc _).alloc _).trans ha.chg fun g hg => .inr (hK g hg)
        | false =>
          simp only [hb] at hca
          clear hck
          go_wp2
          go_roundw
          case measure => simp [intOf]; omega
          case rel =>
            have e : keptTo c.loose keep (k + 1) = keptTo c.loose keep k := by
              simp [keptTo, hb, hkl, hkn, hlt]
            exact ⟨k + 1, K, by omega, by go_num, by rw [e]; exact hf.alloc _, hK, hw.alloc _⟩
      · go_wp2
        go_roundw
        case measure => simp [intOf]; omega
        case rel =>
          have e : keptTo c.loose keep (k + 1) = keptTo c.loose keep k := by
            simp [keptTo, hkl, hkn, hlt]
          exact ⟨k + 1, K, by omega, by go_num, by rw [e]; exact hf.alloc _, hK, hw.alloc _⟩
    · obtain rfl : k = c.loose.length := by omega
      have hc := h.chg hw (by simp)
      have c1' : wr.cell? ⟨p, 1, none⟩ = some (.slice B c.loose.length cb) := hc.blk.cell 1
      have hkt := keptTo_le c.loose keep c.loose.length
      obtain ⟨B2, cb2, rfl, -⟩ := id hf
      go_wp2_with fail
      refine (press_at hc hf (fun t ht => hr t (keptTo_mem _ _ _ t ht))).mono ?_
      rintro e w2 ⟨rfl, hc2, hw2⟩
      have d1 := hc2.blk.cell 1
      have d2 := hc2.blk.cell 2
      have d3 := hc2.blk.cell 3
      have d5 := hc2.blk.cell 5
      have f1 := hc2.blk.frozen 1
      have f2 := hc2.blk.frozen 2
      have f3 := hc2.blk.frozen 3
      have f5 := hc2.blk.frozen 5
      simp at d1 d2 d3 d5
      go_wp2
      go_ret
      have hz : Chg [p] w2 ((((w2.setCell ⟨p, 1, none⟩ (.slice none 0 0)).setCell ⟨p, 2, none⟩ (.bool true)).setCell ⟨p, 3, none⟩ (.bool false)).setCell ⟨p, 5, none⟩ (.slice none 0 0)) :=
        ((((Chg.refl _ _).setCell (by simp) _).setCell (by simp) _).setCell (by simp) _).setCell (by simp) _
      refine ⟨rfl, ⟨?_, ?_, hc2.prn, Fix.nil _ _ _, Fix.nil _ _ _⟩, ?_⟩
      · exact (((hc2.blk.set_ 1 _).set_ 2 _).set_ 3 _).set_ 5 _
      · exact hc2.hpr.chg hz (fun g hg => by
          have := hc2.hpr.ne_blk hc2.blk (by decide)
          simp only [List.mem_singleton]
          rintro rfl
          exact this hg)
      · exact ((hw.mono (G := p :: F) (by simp)).trans hw2 (by intro g hg; exact .inl (by simp [hg]))).trans hz (by simp)
end
end Go.Proofs.Ytjbjiomajldkoaa
