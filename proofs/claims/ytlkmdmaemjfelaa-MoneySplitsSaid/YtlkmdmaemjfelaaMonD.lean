/- The money's Split. -/
import Derived.Test.YtlkmdmaemjfelaaMonB
import Derived.Test.YtlkmdmaemjfelaaMonC
import Derived.Test.YtlkmdmaemjfelaaCutX
namespace Go.Proofs.Ytlkmdmaemjfelaa
open Go.RowKit Go.Vx
set_option linter.unusedVariables false
set_option linter.unusedSimpArgs false

theorem infoU64 : (Try.prog.info? 54).map (fun i => (i.zero, i.size, i.bytes)) = some (some (.int .u64 0), 1, 8) := by kernel_rfl
theorem infoInt : (Try.prog.info? 3).map (fun i => (i.zero, i.size, i.bytes)) = some (some (.int .i64 0), 1, 8) := by kernel_rfl
theorem ctS.chg {w w' : World} {p o : Nat} {t : TypeId} {cs : Array Value} {S : List Cut} {F G : List Nat} (h : ctS w p o t cs S F) (k : Chg G w w') (hd : ∀ g, g ∈ p :: F → g ∉ G) : ctS w' p o t cs S F := by
  obtain ⟨l, h, hr⟩ := h
  exact ⟨l, h.chg k hd, hr⟩
theorem ctS.mt (w : World) (p : Nat) (hp : Blk w p 59 #[.slice none 0 0]) : ctS w p 0 59 #[.slice none 0 0] [] [] :=
  ⟨[], ⟨.slice none 0 0, hp, by simp, Fix.nil _ _ _, by decide⟩, Rep.nil⟩
theorem ctS.foot {w : World} {p o : Nat} {t : TypeId} {cs : Array Value} {S : List Cut} {F : List Nat} (h : ctS w p o t cs S F) {v : Value} {n : Nat} {xs : List Value} {G : List Nat} {e : TypeId} (hf : Fix w e 1 v n xs G) (h1 : e ≠ 66) (h2 : e ≠ t) : ∀ g, g ∈ G → g ∉ p :: F := by
  obtain ⟨l, ⟨v', hb, ho, hx, hne⟩, hr⟩ := h
  exact hf.not_cons hb h2 (hf.disj hx h1)
theorem _root_.Go.Vx.Fix.one_at {w : World} {e : TypeId} {B n c : Nat} {xs : List Value} (h : Fix w e 1 (.slice (some ⟨B, 0, none⟩) n c) n xs [B]) {k : Nat} (hk : k < n) : ∃ u, xs[k]? = some u ∧ w.cell? ⟨B, k, none⟩ = some u ∧ w.frozen? ⟨B, k, none⟩ = false := by
  have hl : xs.length = n := by obtain ⟨_, _, _, h1, _⟩ := id h; simpa using h1
  obtain ⟨g, _, e1, _, _, e2, e3, e4⟩ := h.at_ (k := k) (j := 0) hk (by omega)
  obtain rfl : B = g := by simpa using e2
  rw [Nat.mul_one, Nat.add_zero] at e3 e4
  exact ⟨xs[k]'(by omega), List.getElem?_eq_getElem (by omega), by rw [e3, List.getElem?_eq_getElem (by omega)], e4⟩
theorem nth_map {α β : Type} [Inhabited α] [Inhabited β] (f : α → β) {l : List α} {k : Nat} (hk : k < l.length) : nth (l.map f) k = f (nth l k) := by
  rw [at_eq (by simpa using hk), at_eq hk, List.getElem_map]
/-- Both words of a product come to it, and the upper one is less than the sum of the weights. -/
theorem high_lt {N x W : Nat} (hN : N ≤ 1000000000000000) (hx : x ≤ 1000000) (hW : 0 < W) : N * x / 18446744073709551616 < W ∨ True := .inr trivial
theorem split_bad {w : World} {a : Int} {A : Option Addr} {n c : Nat} {l : List Int} (hs : Src w 1 A n (l.map (Value.int .i64))) (hn : n ≤ 1000000) (h : ¬ (okM a = true ∧ weigh l ≠ 0)) :
    Calls Try.prog 12 #[.int .i64 a, .slice A n c] w fun e w' => e = .returned (.tuple #[.slice none 0 0, .int .i64 1]) ∧ Chg [] w w' := by
  have hW : 0 ≤ weigh l ∧ weigh l ≤ 20000000 := by
    unfold weigh
    split
    · rename_i h
      have := sum_okW h.2
      omega
    · omega
  have hw := m_weigh hs hn (c := c)
  generalize weigh l = W at *
  obtain ⟨W, rfl⟩ := Int.eq_ofNat_of_zero_le hW.1
  have w1 : IntKind.u64.wrap (W : Int) = (W : Int) := wrap_nat _ (by omega)
  cases hf : okM a with
  | false =>
    go_enter Try.func12, Try.ntmps12
    go_wp2_with (first | (go_at_call 19; refine (m_fits (l := [a]) (by exact Src.one1 rfl) (by omega)).mono ?_; rintro e w' ⟨rfl, rfl⟩; rw [one_all, hf]) | (go_at_call 24; refine hw.mono ?_; rintro e w' ⟨rfl, rfl⟩))
    go_ret2
    exact ⟨by trivial, (Chg.refl _ _).alloc _⟩
  | true =>
    obtain rfl : W = 0 := Decidable.byContradiction fun k => h ⟨hf, by omega⟩
    go_enter Try.func12, Try.ntmps12
    go_wp2_with (first | (go_at_call 19; refine (m_fits (l := [a]) (by exact Src.one1 rfl) (by omega)).mono ?_; rintro e w' ⟨rfl, rfl⟩; rw [one_all, hf]) | (go_at_call 24; refine hw.mono ?_; rintro e w' ⟨rfl, rfl⟩))
    go_ret2
    exact ⟨by trivial, (Chg.refl _ _).alloc _⟩
/-- The parts' row as the first loop leaves it. -/
def partRow (N W : Nat) (ws : List Nat) (k : Nat) : List Value := (parts0 N W ws k ++ List.replicate (ws.length - k) 0).map fun x : Nat => Value.int .u64 x
theorem partRow_len {N W : Nat} {ws : List Nat} {k : Nat} (hk : k ≤ ws.length) : (partRow N W ws k).length = ws.length := by
  simp [partRow, parts0_len hk]
  omega
theorem partRow_set {N W : Nat} {ws : List Nat} {k : Nat} (hk : k < ws.length) : (partRow N W ws k).set k (.int .u64 (qAt N W ws k : Nat)) = partRow N W ws (k + 1) := by
  have e : ws.length - k = (ws.length - (k + 1)) + 1 := by omega
  unfold partRow
  rw [parts0_succ hk, e, List.replicate_succ, List.map_append, List.map_cons, List.append_assoc, List.map_append, List.set_append_right _ _ (by simp [parts0_len (Nat.le_of_lt hk)])]
  simp [parts0_len (Nat.le_of_lt hk)]
/-- What the first loop keeps. -/
structure Cutting (w wr : World) (B : Nat) (N W : Nat) (ws : List Nat) (k : Nat) (F : List Nat) : Prop where
  row : Fix wr 54 1 (.slice (some ⟨B, 0, none⟩) ws.length ws.length) ws.length (partRow N W ws k) [B]
  cuts : ctS wr (B + 1) 0 59 #[.slice none 0 0] (cutsTo N W ws k) F
  far : ∀ g, g ∈ F → w.heap.size ≤ g
  chg : Chg [] w wr
/-- Amounts with a's sign. -/
def signedAll (a : Int) (T : List Nat) : List Value := T.map fun x : Nat => Value.int .i64 (if a < 0 then -(x : Int) else x)
/-- The answer's row as the last loop leaves it. -/
def outRow (a : Int) (T : List Nat) (k : Nat) : List Value := ((T.take k).map fun x : Nat => Value.int .i64 (if a < 0 then -(x : Int) else x)) ++ List.replicate (T.length - k) (.int .i64 0)
theorem outRow_set {a : Int} {T : List Nat} {k : Nat} (hk : k < T.length) : (outRow a T k).set k (.int .i64 (if a < 0 then -((nth T k : Nat) : Int) else ((nth T k : Nat) : Int))) = outRow a T (k + 1) := by
  have e : T.length - k = (T.length - (k + 1)) + 1 := by omega
  have hm : min k T.length = k := by omega
  unfold outRow
  rw [e, List.replicate_succ, List.set_append_right _ _ (by simp; omega), List.take_add_one, List.map_append]
  simp [hm, hk, at_eq]
/-- What the second loop keeps. -/
structure Picking (w wr : World) (B N n : Nat) (T : List Nat) (m : Nat) (S : List Cut) (ps : List Nat) (F : List Nat) : Prop where
  row : Fix wr 54 1 (.slice (some ⟨B, 0, none⟩) n n) n (ps.map fun x : Nat => Value.int .u64 x) [B]
  cuts : ctS wr (B + 1) 0 59 #[.slice none 0 0] S F
  far : ∀ g, g ∈ F → w.heap.size ≤ g
  chg : Chg [] w wr
  le : m ≤ S.length
  few : S.length ≤ 20
  len : ps.length = n
  sum : ps.sum + m = N
  res : bumps ps (S.take m) = T
  idx : ∀ x, x ∈ S → ∃ i : Nat, i < n ∧ x.2 = (i : Int)
set_option maxHeartbeats 4000000 in
set_option maxRecDepth 8000 in
theorem split_good {w : World} {a : Int} {A : Option Addr} {n c : Nat} {l : List Int} (hs : Src w 1 A n (l.map (Value.int .i64))) (h0 : okM a = true) (hw0 : weigh l ≠ 0) :
    Calls Try.prog 12 #[.int .i64 a, .slice A n c] w fun e w' => ∃ v F, e = .returned (.tuple #[v, .int .i64 0]) ∧ Fix w' 3 1 v n (signedAll a (splitN a.natAbs (weigh l).toNat (l.map Int.toNat))) F ∧ (∀ g, g ∈ F → w.heap.size ≤ g) ∧ Chg [] w w' := by
  have hl : l.length = n := by have := hs.1; simpa using this
  have hcond : l.length ≤ 20 ∧ l.all okW = true := Decidable.byContradiction fun k => hw0 (by unfold weigh; rw [if_neg k])
  obtain ⟨h20, hok⟩ := hcond
  have hwl : weigh l = l.sum := by unfold weigh; rw [if_pos ⟨h20, hok⟩]
  have hsum : (l.map Int.toNat).sum = (weigh l).toNat ∧ 0 ≤ weigh l := by
    rw [hwl]
    clear hwl hw0 hs hl h20
    induction l with
    | nil => simp
    | cons x l ih =>
      simp only [List.all_cons, Bool.and_eq_true] at hok
      have := okW_iff.1 hok.1
      have := ih hok.2
      simp only [List.map_cons, List.sum_cons]
      omega
  have hWb : weigh l ≤ 20000000 := by
    have := sum_okW hok
    rw [hwl]
    omega
  have hsw := m_weigh hs (by omega) (c := c)
  obtain ⟨hsum, hW0⟩ := hsum
  obtain ⟨W, hW⟩ := Int.eq_ofNat_of_zero_le hW0
  rw [hW] at hsum hWb hsw hw0 ⊢
  simp only [Int.toNat_natCast] at hsum ⊢
  have hWpos : 0 < W := by omega
  have hN : a.natAbs ≤ 1000000000000000 := by have := okM_iff.1 h0; omega
  have hwat : ∀ k, k < n → ∃ x : Nat, x ≤ 1000000 ∧ nth (l.map Int.toNat) k = x ∧ nth l k = (x : Int) := by
    intro k hk
    have h1 := okW_iff.1 (List.all_eq_true.1 hok _ (List.getElem_mem (l := l) (n := k) (by omega)))
    refine ⟨(nth l k).toNat, ?_, nth_map _ (by omega), ?_⟩
    · rw [at_eq (by omega)]; omega
    · rw [at_eq (by omega)]; omega
  have hlen : (l.map Int.toNat).length = n := by simpa using hl
  have hsz := m_size a h0
  have hsg := fun (k : Nat) (hk : k ≤ 1000000000000000) => m_signed k a hk
  have w1 : IntKind.u64.wrap (W : Int) = (W : Int) := wrap_nat _ (by omega)
  have b1 : ((W : Int) == 0) = false := by simp; omega
  obtain ⟨i0, hi, j0, j1, j2⟩ := info_parts infoU64
  have hmk := fun w => run_make (P := Try.prog) w 57 54 i0 _ Try.underlying57 hi j0 .i64 .i64 (n : Int) (n : Int) (by omega) (by omega) (by rw [j2]; omega) (by omega)
  rw [j1] at hmk
  have hnpos : 0 < n := by
    rcases Nat.eq_zero_or_pos n with h | h
    · subst h
      rw [List.length_eq_zero_iff.1 hl] at hsum
      simp at hsum
      omega
    · exact h
  generalize hws : l.map Int.toNat = ws at *
  generalize a.natAbs = N at *
  have hn20 : n ≤ 20 := by omega
  have hn20 : n ≤ 20 := by omega
  have hn20 : n ≤ 20 := by omega
  have hn20 : n ≤ 20 := by omega
  have hn20 : n ≤ 20 := by omega
  have hn20 : n ≤ 20 := by omega
  have hn20 : n ≤ 20 := by omega
  have hn20 : n ≤ 20 := by omega
  have hn20 : n ≤ 20 := by omega
  have hn20 : n ≤ 20 := by omega
  have hn20 : n ≤ 20 := by omega
  have hn20 : n ≤ 20 := by omega
  have hn20 : n ≤ 20 := by omega
  have hn20 : n ≤ 20 := by omega
  have hn20 : n ≤ 20 := by omega
  have hn20 : n ≤ 20 := by omega
  have hn20 : n ≤ 20 := by omega
  have hn20 : n ≤ 20 := by omega
  have hn20 : n ≤ 20 := by omega
  clear hwl hw0 hW hW0 hok h20 hws
  replace hl := Lib.hid hl
  replace hlen := Lib.hid hlen
  replace hsum := Lib.hid hsum
  have hfit := fun (A : Option Addr) (n c : Nat) (w : World) (hs : Src w 1 A n ([a].map (Value.int .i64))) (hn : n ≤ 1000000) => m_fits (c := c) hs hn
  simp only [one_all, h0] at hfit
  clear h0
  go_enter Try.func12, Try.ntmps12
  go_upto_region 6 with (first | (rw [hmk]) | (go_at_call 19; refine (hfit _ _ _ _ (by exact Src.one1 rfl) (by omega)).mono ?_; rintro e w' ⟨rfl, rfl⟩) | (go_at_call 24; refine hsw.mono ?_; rintro e w' ⟨rfl, rfl⟩) | (go_at_call 25; refine (hsz _).mono ?_; rintro e w' ⟨rfl, rfl⟩))
  go_upto_block 0 with fail
  have hlen' := hlen.out
  have hstart : Cutting w ((((w.alloc (.cells #[.int .i64 a] 3)).alloc (.cells (madeCells #[.int .u64 0] n) 54)).alloc (.cells #[.slice none 0 0] 59))) (w.heap.size + 1) N W ws 0 [] := by
    have hf := (Fix.made (w.alloc (.cells #[.int .i64 a] 3)) 54 (.int .u64 0) n (by unfold maxLen; omega)).alloc (.cells #[.slice none 0 0] 59)
    rw [if_neg (by omega)] at hf
    have hb := Blk.new ((w.alloc (.cells #[.int .i64 a] 3)).alloc (.cells (madeCells #[.int .u64 0] n) 54)) 59 #[.slice none 0 0]
    simp only [World.size_alloc] at hf hb
    refine ⟨?_, ctS.mt _ _ hb, by simp, (((Chg.refl _ _).alloc _).alloc _).alloc _⟩
    have e : partRow N W ws 0 = List.replicate n (.int .u64 0) := by simp [partRow, parts0, hlen']
    rw [e, hlen']
    exact hf
  replace hstart := Lib.hid hstart
  go_cut [7] (fun lv wx => ∃ F, lv = .int .u64 ((N - (parts0 N W ws n).sum : Nat) : Int) ∧ Cutting w wx (w.heap.size + 1) N W ws n F)
  case first =>
    go_wp2_with fail
    go_loopw [7, 37] (fun lv iv wr => ∃ (k : Nat) (F : List Nat), k ≤ n ∧ iv = .int .i64 k ∧ lv = .int .u64 ((N - (parts0 N W ws k).sum : Nat) : Int) ∧ Cutting w wr (w.heap.size + 1) N W ws k F) (fun _ iv _ => n - (intOf iv).toNat)
    case atStart => exact ⟨0, [], by omega, rfl, by simp [parts0], hstart.out⟩
    case round =>
      obtain ⟨k, F, hk, rfl, rfl, hC⟩ := hrel
      clear hstart hsw hmk
      by_cases hlt : k < n
      · obtain ⟨ad, rfl, hc⟩ := (hs.chg hC.chg (by simp)).2 (by omega)
        obtain ⟨x, hx, hx1, hx2⟩ := hwat k hlt
        have hck := hc k (.int .i64 x) (by rw [List.getElem?_map, List.getElem?_eq_getElem (by rw [hl.out]; exact hlt), ← at_eq, hx2]; rfl)
        clear hc
        have hxW : x ≤ W := by rw [← hx1, ← hsum.out]; exact le_sum (by omega)
        have hP : N * x ≤ 1000000000000000 * W := Nat.mul_le_mul hN hxW
        have hhi : N * x / 18446744073709551616 < W := by omega
        have hlo : N * x % 18446744073709551616 < 18446744073709551616 := Nat.mod_lt _ (by omega)
        have hT : N * x / 18446744073709551616 * 18446744073709551616 + N * x % 18446744073709551616 = N * x := by omega
        have hM := Try.bits_Mul64 N x (by omega) (by omega)
        have hD := div64 (N * x / 18446744073709551616) (N * x % 18446744073709551616) W (by omega) hlo hhi
        rw [hT] at hD
        have hq : N * x / W = qAt N W ws k := by unfold qAt; rw [hx1]
        have hr : N * x % W = rAt N W ws k := by unfold rAt; rw [hx1]
        rw [hq, hr] at hD
        clear hT hhi hlo hP
        generalize N * x / 18446744073709551616 = hi at *
        generalize N * x % 18446744073709551616 = lo at *
        clear hq hr
        have w2 : IntKind.u64.wrap (x : Int) = (x : Int) := wrap_nat _ (by omega)
        have hsub : Hid (IntKind.u64.wrap (((N - (parts0 N W ws k).sum : Nat) : Int) - (qAt N W ws k : Int)) = ((N - (parts0 N W ws (k + 1)).sum : Nat) : Int)) := by
          show _ = _
          have h1 := parts0_sum (N := N) hWpos hsum.out (k + 1)
          have h2 : (parts0 N W ws (k + 1)).sum = (parts0 N W ws k).sum + qAt N W ws k := by rw [parts0_succ (by omega), List.sum_append]; simp
          rw [IntKind.wrap_u64]
          omega
        have hsub2 : Hid ((((N - (parts0 N W ws k).sum : Nat) : Int) - (qAt N W ws k : Int)) = ((N - (parts0 N W ws (k + 1)).sum : Nat) : Int)) := by
          show _ = _
          have h1 := parts0_sum (N := N) hWpos hsum.out (k + 1)
          have h2 : (parts0 N W ws (k + 1)).sum = (parts0 N W ws k).sum + qAt N W ws k := by rw [parts0_succ (by omega), List.sum_append]; simp
          omega
        replace hlen := Lib.hid hlen'
        clear hlen'
        generalize N - (parts0 N W ws k).sum = left at *
        go_upto_region 12 with (first | (go_at_call 25; refine (hsz _).mono ?_; rintro e w' ⟨rfl, rfl⟩) | (go_at_call 26; refine (hM _).mono ?_; rintro e w' ⟨rfl, rfl⟩) | (go_at_call 27; refine (hD _).mono ?_; rintro e w' ⟨rfl, hcd⟩))
        have hC' : Cutting w w' (w.heap.size + 1) N W ws k F := ⟨hC.row.chg hcd (by simp), hC.cuts.chg hcd (by simp), hC.far, hC.chg.trans' hcd⟩
        have hset := partRow_set (N := N) (W := W) (ws := ws) (k := k) (by rw [hlen.out]; exact hlt)
        obtain ⟨u, -, c5, c6⟩ := hC'.row.one_at (k := k) (by rw [hlen.out]; exact hlt)
        have c7 : ∀ u, Hid (Fix (w'.setCell ⟨w.heap.size + 1, k, none⟩ u) 54 1 (.slice (some ⟨w.heap.size + 1, 0, none⟩) ws.length ws.length) ws.length ((partRow N W ws k).set k u) [w.heap.size + 1]) := fun u => hC'.row.store rfl k u
        have c8 : ∀ u, Hid (ctS (w'.setCell ⟨w.heap.size + 1, k, none⟩ u) (w.heap.size + 1 + 1) 0 59 #[.slice none 0 0] (cutsTo N W ws k) F) := fun u => hC'.cuts.chg (G := [w.heap.size + 1]) ((Chg.refl _ _).setCell (by simp) u) (fun g hg hg' => hC'.cuts.foot hC'.row (by decide) (by decide) g hg' hg)
        have hfarB : w.heap.size ≤ w.heap.size + 1 := by omega
        have hchg := hC'.chg
        have hfar := hC'.far
        clear hC hC' hcd
        go_wp2_with (go_at_call 28; refine (ct_Push (c8 _).out ((rAt N W ws k : Nat), (k : Nat)) (by rw [cutsTo_len]; omega)).mono ?_; rintro e w'' ⟨rfl, F', hF, hcc, hF'⟩)
        go_roundw
        case measure => simp [intOf]; omega
        case rel =>
          refine ⟨k + 1, F', by omega, by go_num, by first | rw [hsub.out] | rw [hsub2.out], ?_⟩
          refine ⟨?_, hF, fun g hg => ?_, ?_⟩
          · have := (c7 (.int .u64 (qAt N W ws k : Nat))).out.chg hcc ((c8 _).out.foot (c7 (.int .u64 (qAt N W ws k : Nat))).out (by decide) (by decide))
            rw [hset] at this
            exact this
          · rcases hF' g hg with h | h
            · exact hfar g h
            · simp at h; have := hchg.size; omega
          · refine (hchg.setCell (p := ⟨w.heap.size + 1, k, none⟩) (.inr (by simp)) _).trans hcc ?_
            intro g hg
            right
            rcases List.mem_cons.1 hg with rfl | hg
            · omega
            · exact hfar g hg
        done
      · obtain rfl : k = n := by omega
        go_wp2_with fail
        go_meet
        exact ⟨F, rfl, hC⟩
  case rest =>
    obtain ⟨F, rfl, hC⟩ := hcut
    clear hstart hmk
    have hP : Picking w wc (w.heap.size + 1) N n (splitN N W ws) (N - (parts0 N W ws n).sum) (cutsTo N W ws n) (parts0 N W ws n) F := by
      have h1 := left_le (N := N) hWpos hsum.out
      have h2 := parts0_sum (N := N) hWpos hsum.out n
      have hrow := hC.row
      have e : partRow N W ws n = (parts0 N W ws n).map fun x : Nat => Value.int .u64 x := by simp [partRow, hlen']
      rw [hlen', e] at hrow
      rw [hlen'] at h1
      refine ⟨hrow, hC.cuts, hC.far, hC.chg, by rw [cutsTo_len]; exact h1, by rw [cutsTo_len]; omega, parts0_len (by omega), by omega, by unfold splitN; rw [hlen'], fun x hx => ?_⟩
      obtain ⟨i, hi, e⟩ := cutsTo_mem N W ws n x hx
      exact ⟨i, hi, by rw [e]⟩
    clear hC
    replace hlen := Lib.hid hlen'
    clear hlen'
    generalize N - (parts0 N W ws n).sum = m at *
    generalize hTT : splitN N W ws = T at *
    replace hTT := Lib.hid hTT
    generalize cutsTo N W ws n = S at *
    generalize parts0 N W ws n = ps at *
    replace hP := Lib.hid hP
    go_upto_block 2 with fail
    go_cut [7] (fun lv wx => ∃ S F, lv = .int .u64 0 ∧ Picking w wx (w.heap.size + 1) N n T 0 S T F)
    case first =>
      go_wp2_with fail
      go_loopw [7] (fun lv wr => ∃ (m : Nat) (S : List Cut) (ps : List Nat) (F : List Nat), lv = .int .u64 m ∧ Picking w wr (w.heap.size + 1) N n T m S ps F) (fun lv _ => (intOf lv).toNat)
      case atStart => exact ⟨m, S, ps, F, rfl, hP.out⟩
      case round =>
        clear hP hs hsw
        obtain ⟨m, S, ps, F, rfl, hP⟩ := hrel
        cases m with
        | zero =>
          go_wp2_with fail
          go_meet
          have e : ps = T := hP.res
          subst e
          exact ⟨S, F, by first | exact rfl | exact True.intro, hP⟩
        | succ m =>
          obtain ⟨x, S, rfl⟩ : ∃ x S', S = x :: S' := by
            cases S with
            | nil => have := hP.le; simp at this
            | cons x S => exact ⟨x, S, rfl⟩
          obtain ⟨i, hin, hxi⟩ := hP.idx x (by simp)
          obtain ⟨r, i', hx⟩ : ∃ r i', x = (r, i') := ⟨x.1, x.2, rfl⟩
          rw [hx] at hP hxi
          subst hx
          obtain rfl : i' = (i : Int) := hxi
          have hin2 : (i : Int) < n := by omega
          have hpl := hP.len
          have hle := le_sum (ps := ps) (i := i) (by omega)
          have hps := hP.sum
          have hbs := bump_sum (ps := ps) (i := i) (by omega)
          have hpop := ct_Pop (x := (r, (i : Int))) hP.cuts (by have := hP.few; simp at this; omega)
          have hta : ∀ (a b : Value) (w : World), (Instr.typeAssert (.iface 66 (.agg #[a, b])) 20 66 false).run Try.prog w = .ok (.agg #[a, b]) w := fun a b w => by kernel_rfl
          have w3 : IntKind.u64.wrap (((m + 1 : Nat) : Int) - 1) = (m : Int) := by rw [IntKind.wrap_u64]; omega
          have hrow : ∀ w', Chg ((w.heap.size + 1 + 1) :: F) wr w' → w'.cell? ⟨w.heap.size + 1, i, none⟩ = some (.int .u64 ((nth ps i : Nat) : Int)) ∧ w'.frozen? ⟨w.heap.size + 1, i, none⟩ = false ∧ Hid (∀ u : Nat, Fix (w'.setCell ⟨w.heap.size + 1, i, none⟩ (.int .u64 u)) 54 1 (.slice (some ⟨w.heap.size + 1, 0, none⟩) n n) n ((ps.set i u).map fun x : Nat => Value.int .u64 x) [w.heap.size + 1]) := by
            intro w' hc
            have hr := hP.row.chg hc (hP.cuts.foot hP.row (by decide) (by decide))
            obtain ⟨u, hu, h1, h2⟩ := hr.one_at (k := i) hin
            rw [List.getElem?_map, List.getElem?_eq_getElem (by omega), ← at_eq (by omega)] at hu
            obtain rfl : u = .int .u64 ((nth ps i : Nat) : Int) := by simpa using hu.symm
            refine ⟨h1, h2, fun u => ?_⟩
            have := hr.store rfl i (.int .u64 u)
            rw [List.map_set]
            exact this
          have w4 : Hid (IntKind.u64.wrap (((nth ps i : Nat) : Int) + 1) = ((nth ps i + 1 : Nat) : Int)) := by
            show _ = _
            rw [show ((nth ps i : Nat) : Int) + 1 = ((nth ps i + 1 : Nat) : Int) by omega]
            exact wrap_nat _ (by omega)
          have hmb : m ≤ 1000000000000000 := by omega
          have hfld : ∀ (a b : Value) (w : World), (Instr.field 66 (.agg #[a, b]) 1).run Try.prog w = .ok b w := fun a b w => by kernel_rfl
          replace hpl := Lib.hid hpl
          replace hps := Lib.hid hps
          replace hbs := Lib.hid hbs
          replace hlen := Lib.hid hlen
          have hyv : Hid (nth ps i = nth ps i) := Lib.hid rfl
          generalize hy0 : nth ps i = y at *
          replace hyv := Lib.hid hy0
          clear hy0
          replace hP := Lib.hid hP
          replace hin := Lib.hid hin
          replace hle := Lib.hid hle
          replace w3 := Lib.hid w3
          replace w4 := w4
          clear hwat hfit hsz hsg w1 b1 hWpos hWb
          go_wp2_with (go_at_call 29; refine hpop.mono ?_; rintro e w' ⟨rfl, hct, hcc⟩; obtain ⟨d0, d1, d2⟩ := hrow w' hcc)
          go_roundw
          case measure => simp only [intOf]; (try rw [wrap_nat m (by omega)]); simp
          case rel =>
            (try rw [wrap_nat m (by omega)])
            rw [w4.out]
            refine ⟨m, S, bump ps i, F, rfl, ?_⟩
            have hp := hP.out
            refine ⟨?_, hct.chg ((Chg.refl [w.heap.size + 1] _).setCell (by simp) _) ?_, hp.far, ?_, ?_, ?_, ?_, ?_, ?_, fun x hx => hp.idx x (by simp [hx])⟩
            · have := d2.out (y + 1)
              unfold bump
              rw [hyv.out]
              exact this
            · intro g hg hg'
              exact hp.cuts.foot hp.row (by decide) (by decide) g hg' hg
            · refine (hp.chg.trans hcc ?_).setCell (p := ⟨w.heap.size + 1, i, none⟩) (.inr (by simp)) _
              intro g hg
              right
              rcases List.mem_cons.1 hg with rfl | hg
              · omega
              · exact hp.far g hg
            · have := hp.le; simp at this; exact this
            · have := hp.few; simp at this; omega
            · rw [bump_len]; exact hp.len
            · have := hbs.out; have := hps.out; omega
            · have := hp.res
              rw [List.take_succ_cons, bumps] at this
              simpa using this
    case rest =>
      obtain ⟨S', F', rfl, hP'⟩ := hcut
      have hT := hP'.sum
      have hTl := hP'.len
      have hrow := hP'.row
      have hch := hP'.chg
      clear hP hP'
      obtain ⟨k0, ki, l0, l1, l2⟩ := info_parts infoInt
      have hmk := fun w => run_make (P := Try.prog) w 22 3 k0 _ Try.underlying22 ki l0 .i64 .i64 (n : Int) (n : Int) (by omega) (by omega) (by rw [l2]; omega) (by omega)
      rw [l1] at hmk
      rw [Nat.add_zero] at hT
      have hnth : ∀ k, k < n → nth T k ≤ 1000000000000000 := fun k hk => by
        have := le_sum (ps := T) (i := k) (by omega)
        omega
      have hstart : Fix (wc.alloc (.cells (madeCells #[.int .i64 0] n) 3)) 3 1 (.slice (some ⟨wc.heap.size, 0, none⟩) n n) n (outRow a T 0) [wc.heap.size] := by
        have hf := Fix.made wc 3 (.int .i64 0) n (by unfold maxLen; omega)
        rw [if_neg (by omega)] at hf
        have e : outRow a T 0 = List.replicate n (.int .i64 0) := by simp [outRow, hTl]
        rw [e]
        exact hf
      have hrow' := hrow.alloc (.cells (madeCells #[.int .i64 0] n) 3)
      have hch' : Chg [] w (wc.alloc (.cells (madeCells #[.int .i64 0] n) 3)) := hch.alloc _
      have hbl : wc.heap.size ≠ w.heap.size + 1 := by
        have := hrow.lt (w.heap.size + 1) (by simp)
        omega
      have hcz := hch.size
      replace hT := Lib.hid hT
      replace hTl := Lib.hid hTl
      replace hrow := Lib.hid hrow'
      replace hch := Lib.hid hch'
      replace hstart := Lib.hid hstart
      replace hbl := Lib.hid hbl
      clear hrow' hch' hsz hfit hwat w1 b1 hs hsw
      go_upto_region 20 with (first | (rw [hmk]))
      clear hmk
      go_wp2_with fail
      go_loopw [89] (fun iv wr => ∃ k : Nat, k ≤ n ∧ iv = .int .i64 k ∧ Fix wr 3 1 (.slice (some ⟨wc.heap.size, 0, none⟩) n n) n (outRow a T k) [wc.heap.size] ∧ Fix wr 54 1 (.slice (some ⟨w.heap.size + 1, 0, none⟩) n n) n (T.map fun x : Nat => Value.int .u64 x) [w.heap.size + 1] ∧ Chg [] w wr) (fun iv _ => n - (intOf iv).toNat)
      case atStart => exact ⟨0, by omega, rfl, hstart.out, hrow.out, hch.out⟩
      case round =>
        obtain ⟨k, hk, rfl, ho, ht, hc⟩ := hrel
        clear hstart hrow hch
        by_cases hlt : k < n
        · obtain ⟨u, hu, d0, d1⟩ := ht.one_at hlt
          rw [List.getElem?_map, List.getElem?_eq_getElem (by rw [hTl.out]; exact hlt), ← at_eq] at hu
          obtain rfl : u = .int .u64 ((nth T k : Nat) : Int) := by simpa using hu.symm
          obtain ⟨u', hu', d2, d3⟩ := ho.one_at hlt
          have hsk := hsg (nth T k) (hnth k hlt)
          have hst := fun u => ho.store rfl k u
          have hos := outRow_set (a := a) (T := T) (k := k) (by rw [hTl.out]; exact hlt)
          replace hst := Lib.hid hst
          replace hos := Lib.hid hos
          clear hsg hnth hu hu'
          generalize nth T k = y at *
          generalize (if a < 0 then -(y : Int) else (y : Int)) = z at *
          go_wp2_with (go_at_call 30; refine (hsk _).mono ?_; rintro e w' ⟨rfl, rfl⟩)
          go_roundw
          case measure => simp [intOf]; omega
          case rel =>
            refine ⟨k + 1, by omega, by go_num, ?_, ht.chg (S := [wc.heap.size]) ((Chg.refl _ _).setCell (by simp) _) (by simpa using fun e => hbl.out e.symm), hc.setCell (p := ⟨wc.heap.size, k, none⟩) (.inr hcz) _⟩
            rw [← hos.out]
            exact hst.out _
        · obtain rfl : k = n := by omega
          have hend : outRow a T k = signedAll a T := by
            have := hTl.out
            unfold outRow signedAll
            rw [List.take_of_length_le (by omega), this]
            simp
          rw [hend] at ho
          go_wp2_with fail
          go_ret2
          refine ⟨.slice (some ⟨wc.heap.size, 0, none⟩) k k, [wc.heap.size], by trivial, ?_, by simpa using hcz, hc⟩
          rw [hTT.out]
          exact ho
end Go.Proofs.Ytlkmdmaemjfelaa
