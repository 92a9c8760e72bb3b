/- The reference's Split: the walk. -/
import Derived.Test.YtlkmdmaemjfelaaMonV
import Derived.Test.YtlkmdmaemjfelaaMonU
import Derived.Test.YtlkmdmaemjfelaaMonD
import Derived.StillTailTactics
namespace Go.Proofs.Ytlkmdmaemjfelaa
open Go.RowKit Go.Vx
set_option linter.unusedVariables false
set_option linter.unusedSimpArgs false

/-- A row of numbers that is being filled: the first k stand. -/
def fillTo (T : List Int) (k : Nat) : List Value := ((T.take k) ++ List.replicate (T.length - k) 0).map (Value.int .i64)
theorem fillTo_zero (T : List Int) : fillTo T 0 = List.replicate T.length (.int .i64 0) := by simp [fillTo]
theorem fillTo_end (T : List Int) {k : Nat} (h : k = T.length) : fillTo T k = T.map (Value.int .i64) := by subst h; simp [fillTo]
theorem fillTo_set {T : List Int} {k : Nat} (hk : k < T.length) : (fillTo T k).set k (.int .i64 (nth T k)) = fillTo T (k + 1) := by
  have e : T.length - k = (T.length - (k + 1)) + 1 := by omega
  have hm : (T.take k).length = k := by simp; omega
  unfold fillTo
  rw [e, List.replicate_succ, List.map_append, List.map_cons, List.set_append_right _ _ (by rw [List.length_map, hm]; exact Nat.le_refl _), List.length_map, hm, Nat.sub_self, List.set_cons_zero, List.take_succ_eq_append_getElem hk, List.map_append, List.map_append, List.append_assoc, at_eq hk]
  rfl
theorem ints_set {T : List Int} {k : Nat} {x : Int} : (T.map (Value.int .i64)).set k (.int .i64 x) = (T.set k x).map (Value.int .i64) := by rw [List.map_set]
def natsI (T : List Nat) : List Int := T.map fun x : Nat => (x : Int)
theorem natsI_len (T : List Nat) : (natsI T).length = T.length := by simp [natsI]
theorem natsI_nth {T : List Nat} {k : Nat} (hk : k < T.length) : nth (natsI T) k = ((nth T k : Nat) : Int) := by
  unfold natsI
  rw [at_eq (by simpa using hk), at_eq hk, List.getElem_map]
theorem natsI_set {T : List Nat} {k x : Nat} : (natsI T).set k ((x : Nat) : Int) = natsI (T.set k x) := by simp [natsI, List.map_set]
/-- The first k have the other sign. -/
def negTo (T : List Nat) (k : Nat) : List Int := (T.take k).map (fun x : Nat => -(x : Int)) ++ (T.drop k).map fun x : Nat => (x : Int)
theorem negTo_len (T : List Nat) (k : Nat) : (negTo T k).length = T.length := by simp [negTo]; omega
theorem negTo_nth {T : List Nat} {k : Nat} (hk : k < T.length) : nth (negTo T k) k = ((nth T k : Nat) : Int) := by
  rw [at_eq (by rw [negTo_len]; exact hk), at_eq hk]
  unfold negTo
  rw [List.getElem_append_right (by simp; omega)]
  simp [show min k T.length = k by omega]
theorem negTo_set {T : List Nat} {k : Nat} (hk : k < T.length) : (negTo T k).set k (-((nth T k : Nat) : Int)) = negTo T (k + 1) := by
  have hm : ((T.take k).map (fun x : Nat => -(x : Int))).length = k := by simp; omega
  unfold negTo
  rw [List.set_append_right _ _ (by omega), hm, Nat.sub_self, List.drop_eq_getElem_cons hk, List.map_cons, List.set_cons_zero, List.take_succ_eq_append_getElem hk, List.map_append, List.append_assoc, at_eq hk]
  rfl
theorem fillTo_at {T : List Int} {k j : Nat} (hj : j < k) (hk : j < T.length) : (fillTo T k)[j]? = some (.int .i64 (nth T j)) := by
  unfold fillTo
  rw [List.getElem?_map, List.getElem?_append_left (by simp; omega), List.getElem?_take, if_pos hj, List.getElem?_eq_getElem hk, at_eq hk]
  rfl
theorem parts_nth {N W : Nat} {ws : List Nat} {k n : Nat} (hk : k < ws.length) (hn : ws.length = n) : nth (parts0 N W ws n) k = qAt N W ws k := by
  have e : parts0 N W ws n = ws.map fun x => N * x / W := by subst hn; unfold parts0; rw [List.take_length]
  rw [e, at_eq (by simpa using hk), List.getElem_map, qAt, at_eq hk]
/-- A cell of a row of numbers. -/
theorem _root_.Go.Vx.Fix.int_at {w : World} {B n c : Nat} {T : List Int} (h : Fix w 3 1 (.slice (some ⟨B, 0, none⟩) n c) n (T.map (Value.int .i64)) [B]) {k : Nat} (hk : k < n) : w.cell? ⟨B, k, none⟩ = some (.int .i64 (nth T k)) ∧ w.frozen? ⟨B, k, none⟩ = false := by
  obtain ⟨u, h1, h2, h3⟩ := h.one_at hk
  have hl : T.length = n := by obtain ⟨_, _, _, h, _⟩ := id h; simpa using h
  rw [List.getElem?_map, List.getElem?_eq_getElem (by omega)] at h1
  injection h1 with h1
  subst h1
  exact ⟨by rw [h2, at_eq (by omega)], h3⟩
set_option maxRecDepth 100000 in
set_option maxHeartbeats 16000000 in
theorem r_split_bad {w : World} {a : Int} {A : Option Addr} {n c : Nat} {l : List Int} (hs : Src w 1 A n (l.map (Value.int .i64))) (hn : n ≤ 1000000) (h : ¬ (okM a = true ∧ weigh l ≠ 0)) :
    Calls Try.prog 13 #[.int .i64 a, .slice A n c] w fun e w' => e = .returned (.tuple #[.slice none 0 0, .int .i64 1]) ∧ w = w' := by
  have hl : l.length = n := by have := hs.1; simpa using this
  have hf := r_fits a
  cases ha : okM a with
  | false =>
    rw [ha] at hf
    clear h ha
    go_enter Try.func13, Try.ntmps13
    go_wp2_with (go_at_call 22; refine (hf _).mono ?_; rintro e w' ⟨rfl, rfl⟩)
    go_ret2
    exact ⟨rfl, rfl⟩
  | true =>
    rw [ha] at hf
    have hw0 : weigh l = 0 := Decidable.byContradiction fun k => h ⟨ha, k⟩
    clear h ha
    by_cases h1 : n < 1
    · have b1 : decide ((n : Int) < 1) = true := by simp; omega
      go_enter Try.func13, Try.ntmps13
      go_wp2_with (go_at_call 22; refine (hf _).mono ?_; rintro e w' ⟨rfl, rfl⟩)
      go_ret2
      exact ⟨rfl, rfl⟩
    have b1 : decide ((n : Int) < 1) = false := by simp; omega
    by_cases h2 : 20 < n
    · have b2 : decide (20 < (n : Int)) = true := by simp; omega
      go_enter Try.func13, Try.ntmps13
      go_wp2_with (go_at_call 22; refine (hf _).mono ?_; rintro e w' ⟨rfl, rfl⟩)
      go_ret2
      exact ⟨rfl, rfl⟩
    have b2 : decide (20 < (n : Int)) = false := by simp; omega
    have hall := @sum_okW
    go_enter Try.func13, Try.ntmps13
    go_wp2_with (go_at_call 22; refine (hf _).mono ?_; rintro e w' ⟨rfl, rfl⟩)
    go_loopw [6, 7] (fun sv iv wr => ∃ k : Nat, k ≤ n ∧ iv = .int .i64 k ∧ sv = .int .i64 (l.take k).sum ∧ (l.take k).all okW = true ∧ w = wr) (fun _ iv _ => n - (intOf iv).toNat)
    case atStart => exact ⟨0, by omega, rfl, by simp, by simp, rfl⟩
    case round =>
      obtain ⟨k, hk, rfl, rfl, hok, rfl⟩ := hrel
      have hb := sum_okW hok
      rw [show (l.take k).length = k by simp; omega] at hb
      obtain ⟨hb1, hb2⟩ := hb
      by_cases hlt : k < n
      · obtain ⟨ad, rfl, hc⟩ := hs.2 (by omega)
        have hck := hc k (.int .i64 (l[k]'(by omega))) (by simp [hl, hlt])
        have e1 := all_take (p := okW) (l := l) (k := k) (by omega)
        have e3 := sum_take (l := l) (k := k) (by omega)
        generalize hx : l[k]'(by omega) = x at *
        clear hc
        replace hok := Lib.hid hok
        replace e1 := Lib.hid e1
        replace e3 := Lib.hid e3
        replace hl := Lib.hid hl
        replace hw0 := Lib.hid hw0
        replace hx := Lib.hid hx
        by_cases hx0 : x < 0
        · have c1 : decide (x < 0) = true := by simpa using hx0
          go_wp2_with fail
          go_ret2
          exact ⟨rfl, rfl⟩
        have c1 : decide (x < 0) = false := by simpa using hx0
        by_cases hx1 : 1000000 < x
        · have c2 : decide (1000000 < x) = true := by simpa using hx1
          go_wp2_with fail
          go_ret2
          exact ⟨rfl, rfl⟩
        have c2 : decide (1000000 < x) = false := by simpa using hx1
        have hxo : Hid (okW x = true) := Lib.hid (okW_iff.2 (by omega))
        generalize (l.take k).sum = s at *
        go_wp2_with fail
        go_roundw
        case measure => simp [intOf]; omega
        case rel => exact ⟨k + 1, by omega, by go_num, by rw [e3.out], by rw [e1.out, hok.out, hxo.out]; rfl, by trivial⟩
      · obtain rfl : k = n := by omega
        rw [List.take_of_length_le (show l.length ≤ k by omega)] at hok ⊢
        have hz : l.sum = 0 := by
          unfold weigh at hw0
          rwa [if_pos ⟨by omega, hok⟩] at hw0
        rw [hz]
        clear hz hw0 hok hall
        go_wp2_with fail
        go_ret2
        exact ⟨rfl, rfl⟩
/-- What a split answers. -/
def SplitGood (w : World) (n : Nat) (xs : List Value) (e : Ending) (w' : World) : Prop := ∃ v F, e = .returned (.tuple #[v, .int .i64 0]) ∧ Fix w' 3 1 v n xs F ∧ (∀ g, g ∈ F → w.heap.size ≤ g) ∧ Chg [] w w'
theorem div_is (N W : Nat) : (N : Int) / (W : Int) = ((N / W : Nat) : Int) ∧ (N : Int) % (W : Int) = ((N % W : Nat) : Int) ∧ (N : Int).tdiv (W : Int) = ((N / W : Nat) : Int) ∧ (N : Int).tmod (W : Int) = ((N % W : Nat) : Int) :=
  ⟨(Int.natCast_ediv N W).symm, (Int.natCast_emod N W).symm, (Int.ofNat_tdiv N W).symm, (Int.ofNat_tmod N W).symm⟩
set_option maxRecDepth 100000 in
set_option maxHeartbeats 32000000 in
theorem r_split_good {w : World} {a : Int} {A : Option Addr} {n c : Nat} {l : List Int} (hs : Src w 1 A n (l.map (Value.int .i64))) (h0 : okM a = true) (hw0 : weigh l ≠ 0) :
    Calls Try.prog 13 #[.int .i64 a, .slice A n c] w (SplitGood w n (signedAll a (splitN a.natAbs (weigh l).toNat (l.map Int.toNat)))) := by
  obtain ⟨i0, hi, j0, j1, j2⟩ := info_parts infoInt
  have hl : l.length = n := by have := hs.1; simpa using this
  have hcond : l.length ≤ 20 ∧ l.all okW = true := Decidable.byContradiction fun k => hw0 (by unfold weigh; rw [if_neg k])
  obtain ⟨h20, hok⟩ := hcond
  have hwl : weigh l = l.sum := by unfold weigh; rw [if_pos ⟨h20, hok⟩]
  have hsum : (l.map Int.toNat).sum = (weigh l).toNat ∧ 0 ≤ weigh l := by
    rw [hwl]
    clear hwl hw0 hs hl h20
    induction l with
    | nil => simp
    | cons x l ih =>
      simp only [List.all_cons, Bool.and_eq_true] at hok
      have := okW_iff.1 hok.1
      have := ih hok.2
      simp only [List.map_cons, List.sum_cons]
      omega
  have hWb : weigh l ≤ 20000000 := by
    have := sum_okW hok
    rw [hwl]
    omega
  obtain ⟨hsum, hW0⟩ := hsum
  rw [hwl] at hW0 hsum hWb hw0 ⊢
  obtain ⟨W, hW⟩ := Int.eq_ofNat_of_zero_le hW0
  rw [hW] at hsum hWb hw0 ⊢
  simp only [Int.toNat_natCast] at hsum ⊢
  have hWpos : 0 < W := by omega
  have hN : a.natAbs ≤ 1000000000000000 := by have := okM_iff.1 h0; omega
  have hmax : max a (-a) = (a.natAbs : Int) := by omega
  have hwat : ∀ k, k < n → ∃ x : Nat, x ≤ 1000000 ∧ nth (l.map Int.toNat) k = x ∧ nth l k = (x : Int) := by
    intro k hk
    have h1 := okW_iff.1 (List.all_eq_true.1 hok _ (List.getElem_mem (l := l) (n := k) (by omega)))
    refine ⟨(nth l k).toNat, ?_, nth_map _ (by omega), ?_⟩
    · rw [at_eq (by omega)]; omega
    · rw [at_eq (by omega)]; omega
  have hlen : (l.map Int.toNat).length = n := by simpa using hl
  have hnpos : 1 ≤ n := by
    rcases Nat.eq_zero_or_pos n with h | h
    · subst h
      rw [List.length_eq_zero_iff.1 hl] at hsum
      simp at hsum
      omega
    · exact h
  have hmk := fun w => run_make (P := Try.prog) w 22 3 i0 _ Try.underlying22 hi j0 .i64 .i64 (n : Int) (n : Int) (by omega) (by omega) (by rw [j2]; omega) (by omega)
  rw [j1] at hmk
  have hb0 := okM_iff.1 h0
  obtain ⟨hb1, hb2⟩ := hb0
  have hfit := r_fits a
  rw [h0] at hfit
  have hcell : ∀ w', Chg [] w w' → ∀ k, k < n → ∃ ad, A = some ad ∧ w'.cell? (ad.add k) = some (.int .i64 (nth l k)) := by
    intro w' hc k hk
    obtain ⟨ad, ha, hcc⟩ := (hs.chg hc (by simp)).2 (by omega)
    exact ⟨ad, ha, hcc k _ (by rw [List.getElem?_map, List.getElem?_eq_getElem (by omega), at_eq (by omega)]; rfl)⟩
  have hsumk : ∀ k, k ≤ n → 0 ≤ (l.take k).sum ∧ (l.take k).sum ≤ 20000000 := by
    intro k hk
    have hall : (l.take k).all okW = true := List.all_eq_true.2 fun x hx => List.all_eq_true.1 hok x (List.mem_of_mem_take hx)
    have := sum_okW hall
    have hlk : (l.take k).length ≤ 20 := by simp; omega
    omega
  have hend : (l.take n).sum = (W : Int) := by rw [List.take_of_length_le (by omega), hW]
  have hstep : ∀ k, k < n → (l.take (k + 1)).sum = (l.take k).sum + nth l k := fun k hk => by rw [sum_take (by omega), at_eq (by omega)]
  have hn20 : n ≤ 20 := by omega
  have b1 : decide ((n : Int) < 1) = false := by simp; omega
  have b2 : decide (20 < (n : Int)) = false := by simp; omega
  generalize hws : l.map Int.toNat = ws at *
  generalize hNN : a.natAbs = N at *
  have hn20 : n ≤ 20 := by omega
  replace hl := Lib.hid hl
  replace hlen := Lib.hid hlen
  replace hsum := Lib.hid hsum
  replace hend := Lib.hid hend
  replace hstep := Lib.hid hstep
  replace hws := Lib.hid hws
  replace hNN := Lib.hid hNN
  replace hW := Lib.hid hW
  replace hwl := Lib.hid hwl
  replace hwat := Lib.hid hwat
  clear h0 hw0 hW0 hok h20
  go_enter Try.func13, Try.ntmps13
  go_wp2_with (go_at_call 22; refine (hfit _).mono ?_; rintro e w' ⟨rfl, rfl⟩)
  go_loopw [6, 7] (fun sv iv wr => ∃ k : Nat, k ≤ n ∧ iv = .int .i64 k ∧ sv = .int .i64 (l.take k).sum ∧ w = wr) (fun _ iv _ => n - (intOf iv).toNat)
  case atStart => exact ⟨0, by omega, rfl, by simp, rfl⟩
  case round =>
    obtain ⟨k, hk, rfl, rfl, rfl⟩ := hrel
    obtain ⟨s1, s2⟩ := hsumk k hk
    by_cases hlt : k < n
    · obtain ⟨ad, rfl, hck⟩ := hcell w (Chg.refl _ _) k hlt
      obtain ⟨x, hx1, -, hx⟩ := hwat.out k hlt
      have e3 := Lib.hid (hstep.out k hlt)
      rw [hx] at hck e3
      clear hcell hsumk hx
      generalize (l.take k).sum = s at *
      have c1 : decide ((x : Int) < 0) = false := by simp
      have c2 : decide (1000000 < (x : Int)) = false := by simp; omega
      go_wp2_with fail
      go_roundw
      case measure => simp [intOf]; omega
      case rel => exact ⟨k + 1, by omega, by go_num, by rw [e3.out], by trivial⟩
    · obtain rfl : n = k := by omega
      rw [hend.out] at s1 s2 ⊢
      have c3 : ((W : Int) == 0) = false := by simp; omega
      have c4 : ¬ (W : Int) = 0 := by omega
      have c5 : ¬ (0 : Int) = W := by omega
      have c6 : ¬ W = 0 := by omega
      clear hsumk
      go_upto_region 13 with fail
      go_quiet (fail)
      simp only [(div_is N W).1, (div_is N W).2.1, (div_is N W).2.2.1, (div_is N W).2.2.2]
      have hqN : N / W ≤ N := Nat.div_le_self _ _
      have hrW : N % W < W := Nat.mod_lt _ hWpos
      have hqr : Hid (∀ x, N / W * x + N % W * x / W = N * x / W ∧ N % W * x % W = N * x % W ∧ (x ≤ W → N / W * x ≤ N) ∧ N % W * x ≤ W * x) := Lib.hid (fun x => ⟨low_of hWpos, Nat.mod_mul_mod N x W, fun hx => Nat.le_trans (Nat.mul_le_mul_left _ hx) (Nat.div_mul_le_self N W), Nat.mul_le_mul_right _ (Nat.le_of_lt hrW)⟩)
      generalize N / W = q at *
      generalize N % W = r at *
      rw [show wrap64 (q : Int) = q by unfold wrap64; omega]
      have hz1 : Chg [] w (w.drewN nq) := (Chg.refl _ _).drewN _
      generalize w.drewN nq = w1 at *
      have hL := Lib.hid (left_le (N := N) (W := W) (ws := ws) hWpos hsum.out)
      go_upto_region 14 with fail
      go_cut [11, 12] (fun ov cv wx => ∃ g1 g2, ov = .slice (some ⟨g1, 0, none⟩) n n ∧ cv = .slice (some ⟨g2, 0, none⟩) n n ∧ g1 ≠ g2 ∧ Fix wx 3 1 (.slice (some ⟨g1, 0, none⟩) n n) n (List.replicate n (.int .i64 0)) [g1] ∧ Fix wx 3 1 (.slice (some ⟨g2, 0, none⟩) n n) n (List.replicate n (.int .i64 0)) [g2] ∧ w.heap.size ≤ g1 ∧ w.heap.size ≤ g2 ∧ Chg [] w wx)
      case first =>
        have hs0 := hz1.size
        go_region_law (go_simp; rw [hmk]; go_simp)
        all_goals
          have hm1 := (Fix.made w1 3 (.int .i64 0) n (by unfold maxLen; omega)).alloc (.cells (madeCells #[.int .i64 0] n) 3)
          have hm2 := Fix.made (w1.alloc (.cells (madeCells #[.int .i64 0] n) 3)) 3 (.int .i64 0) n (by unfold maxLen; omega)
          rw [if_neg (by omega)] at hm1 hm2
          simp only [World.size_alloc] at hm2
          go_wp2_with fail
          go_meet
          have hzz : Chg [] w ((w1.alloc (.cells (madeCells #[.int .i64 0] n) 3)).alloc (.cells (madeCells #[.int .i64 0] n) 3)).drew := ((hz1.alloc _).alloc _).drew
          first
          | exact ⟨_, _, rfl, rfl, by omega, hm1, hm2, by omega, by omega, hzz⟩
          | exact ⟨_, _, rfl, rfl, by omega, hm2, hm1, by omega, by omega, hzz⟩
      case rest =>
        obtain ⟨g1, g2, rfl, rfl, hg, hf1, hf2, hgw1, hgw2, hz⟩ := hcut
        have hpl := parts0_len (N := N) (W := W) (ws := ws) (k := ws.length) (Nat.le_refl _)
        have hcl := cutRow_len (N := N) (W := W) (ws := ws) 0
        rw [hlen.out] at hpl hcl
        have hpl' : (natsI (parts0 N W ws n)).length = n := by rw [natsI_len, hpl]
        replace hpl := Lib.hid hpl
        replace hcl := Lib.hid hcl
        replace hpl' := Lib.hid hpl'
        clear hmk hfit
        go_wp2_with fail
        go_loopw [13, 14] (fun lv iv wr => ∃ k : Nat, k ≤ n ∧ iv = .int .i64 k ∧ lv = .int .i64 ((N - (parts0 N W ws k).sum : Nat) : Int) ∧ Fix wr 3 1 (.slice (some ⟨g1, 0, none⟩) n n) n (fillTo (natsI (parts0 N W ws n)) k) [g1] ∧ Fix wr 3 1 (.slice (some ⟨g2, 0, none⟩) n n) n (fillTo (cutRow N W ws 0) k) [g2] ∧ Chg [] w wr) (fun _ iv _ => n - (intOf iv).toNat)
        case atStart => exact ⟨0, by omega, rfl, by simp [parts0], by rw [fillTo_zero, hpl'.out]; exact hf1, by rw [fillTo_zero, hcl.out]; exact hf2, hz⟩
        case round =>
          obtain ⟨k, hk, rfl, rfl, hr1, hr2, hzr⟩ := hrel
          by_cases hlt : k < n
          · obtain ⟨ad, rfl, hck⟩ := hcell wr hzr k hlt
            obtain ⟨x, hx1, hx2, hx⟩ := hwat.out k hlt
            rw [hx] at hck
            have hxW : x ≤ W := by rw [← hx2, ← hsum.out]; exact le_sum (by rw [hlen.out]; exact hlt)
            obtain ⟨e1, e2, e3, e4⟩ := hqr.out x
            replace e3 := e3 hxW
            have e5 : W * x ≤ 20000000 * 1000000 := Nat.mul_le_mul (by omega) hx1
            have e6 : r * x / W ≤ r * x := Nat.div_le_self _ _
            have e7 : r * x % W < W := Nat.mod_lt _ hWpos
            have d1 := div_is (r * x) W
            obtain ⟨d1, d2, d3, d4⟩ := d1
            have w1 : IntKind.i64.wrap ((q : Int) * (x : Int)) = ((q * x : Nat) : Int) := by rw [← Int.natCast_mul]; exact IntWalk.i64_in _ (by omega)
            have w2 : IntKind.i64.wrap ((r : Int) * (x : Int)) = ((r * x : Nat) : Int) := by rw [← Int.natCast_mul]; exact IntWalk.i64_in _ (by omega)
            have e8 : q * x + r * x / W ≤ N := by rw [e1]; exact Nat.le_trans (Nat.div_le_div_right (Nat.mul_le_mul_left N hxW)) (by rw [Nat.mul_div_cancel _ hWpos]; exact Nat.le_refl _)
            have hqa : qAt N W ws k = q * x + r * x / W := by rw [qAt, hx2, e1]
            have hra : rAt N W ws k = r * x % W := by rw [rAt, hx2, e2]
            clear e1 e2 hx hcell
            generalize q * x = P at *
            generalize r * x = R at *
            generalize R / W = S at *
            generalize R % W = T at *
            have w3 : IntKind.i64.wrap (S : Int) = (S : Int) := IntWalk.i64_in _ (by omega)
            have w4 : IntKind.i64.wrap ((P : Int) + (S : Int)) = ((P + S : Nat) : Int) := by rw [← Int.natCast_add]; exact IntWalk.i64_in _ (by omega)
            have w5 : IntKind.i64.wrap (T : Int) = (T : Int) := IntWalk.i64_in _ (by omega)
            replace hqa := Lib.hid hqa
            replace hra := Lib.hid hra
            obtain ⟨o1, -, v1, v2⟩ := hr1.one_at hlt
            go_wp2_with fail
            go_still_tail 18, (by kernel_rfl)
            change wpList _ _ _ _ _ wr.drew
            go_upto_region 20 with fail
            have hval1 : Value.int .i64 ((P : Int) + (S : Int)) = .int .i64 (nth (natsI (parts0 N W ws n)) k) := by
              rw [natsI_nth (by rw [hpl.out]; exact hlt), parts_nth (by rw [hlen.out]; exact hlt) (by rw [hlen.out]), hqa.out]
              rfl
            have hs1 := hr1.store rfl k (.int .i64 ((P : Int) + (S : Int)))
            rw [hval1, fillTo_set (by rw [hpl'.out]; exact hlt)] at hs1
            have hc1 : Chg [g1] wr (wr.setCell ⟨g1, k, none⟩ (.int .i64 ((P : Int) + (S : Int)))).drew := ((Chg.refl _ _).setCell (.inl (by simp)) _).drew
            rw [hval1] at hc1 ⊢
            have hs2 : Fix (wr.setCell ⟨g1, k, none⟩ (.int .i64 (nth (natsI (parts0 N W ws n)) k))).drew 3 1 (.slice (some ⟨g1, 0, none⟩) n n) n _ [g1] := hs1
            clear hs1 v1 v2
            generalize (wr.setCell ⟨g1, k, none⟩ (.int .i64 (nth (natsI (parts0 N W ws n)) k))).drew = w2 at *
            have hr2' := hr2.chg hc1 (by simpa using fun e => hg e.symm)
            obtain ⟨o2, -, v1, v2⟩ := hr2'.one_at hlt
            have hck2 : w2.cell? (ad.add k) = some (.int .i64 x) := (hc1.cell (World.block_lt_of_cell? _ _ hck) (by
              rw [add_block]
              intro h
              obtain ⟨ad', e', hcc⟩ := hs.2 (by omega)
              injection e' with e'
              subst e'
              have := World.block_lt_of_cell? w _ (hcc k _ (by rw [List.getElem?_map, List.getElem?_eq_getElem (by rw [hl.out]; exact hlt)]; rfl))
              rw [add_block] at this
              simp at h
              omega)).trans hck
            clear hck
            go_upto_region 21 with fail
            have hval2 : Value.int .i64 (T : Int) = .int .i64 (nth (cutRow N W ws 0) k) := by
              rw [cutRow_zero (by rw [hlen.out]; exact hlt), hra.out]
            have hs3 := hr2'.store rfl k (.int .i64 (T : Int))
            rw [hval2, fillTo_set (by rw [hcl.out]; exact hlt)] at hs3
            have hc2 : Chg [g2] w2 (w2.setCell ⟨g2, k, none⟩ (.int .i64 (T : Int))) := (Chg.refl _ _).setCell (.inl (by simp)) _
            rw [hval2] at hc2 ⊢
            generalize w2.setCell ⟨g2, k, none⟩ (.int .i64 (nth (cutRow N W ws 0) k)) = w3 at *
            have hs4 := hs2.chg hc2 (by simpa using hg)
            obtain ⟨o3, ho3, v3, -⟩ := hs4.one_at hlt
            have hsm : ((N - (parts0 N W ws (k + 1)).sum : Nat) : Int) = ((N - (parts0 N W ws k).sum : Nat) : Int) - ((P + S : Nat) : Int) := by
              have h1 := parts0_sum (N := N) hWpos hsum.out (k + 1)
              rw [parts0_succ (by rw [hlen.out]; exact hlt), List.sum_append, hqa.out] at h1 ⊢
              simp only [List.sum_cons, List.sum_nil] at h1 ⊢
              omega
            have ho4 : o3 = .int .i64 ((P + S : Nat) : Int) := by
              have := fillTo_at (T := natsI (parts0 N W ws n)) (k := k + 1) (j := k) (by omega) (by rw [hpl'.out]; exact hlt)
              rw [this] at ho3
              injection ho3 with ho3
              rw [← ho3, ← hval1]
              rfl
            rw [ho4] at v3
            have hlb : N - (parts0 N W ws k).sum ≤ N := Nat.sub_le _ _
            replace hsm := Lib.hid hsm
            generalize N - (parts0 N W ws k).sum = lft at *
            replace hval1 := Lib.hid hval1
            replace hval2 := Lib.hid hval2
            clear ho4 ho3
            go_wp2_with fail
            go_roundw
            case measure => simp [intOf]; omega
            case rel => exact ⟨k + 1, by omega, by go_num, by rw [hsm.out, Int.natCast_add], hs4, hs3, (hzr.trans hc1 (by simpa using hgw1)).trans hc2 (by simpa using hgw2)⟩
          · obtain rfl : n = k := by omega
            have hwl' := hlen.out
            rw [fillTo_end _ hpl'.out.symm, show natsI (parts0 N W ws n) = natsI (outRowN N W ws 0) by unfold outRowN; rw [hwl']; rfl] at hr1
            rw [fillTo_end _ hcl.out.symm] at hr2
            rw [hwl'] at hL
            have hfinal : Hid (splitN N W ws = outRowN N W ws (N - (parts0 N W ws n).sum)) := Lib.hid (by rw [← hwl']; rfl)
            have hsb : ∀ t b, t ≤ n → b < n → nth (outRowN N W ws t) b ≤ N + 20 := by
              intro t b ht hb
              have h1 := le_sum (ps := outRowN N W ws t) (i := b) (by rw [outRow_len, hwl']; exact hb)
              have h2 := bumps_sum ((cutsTo N W ws ws.length).take t) (parts0 N W ws ws.length) (cut_in t)
              have h3 := parts0_sum (N := N) hWpos hsum.out ws.length
              have h4 : ((cutsTo N W ws ws.length).take t).length ≤ t := List.length_take_le _ _
              unfold outRowN at h1 ⊢
              omega
            clear hwl'
            generalize hLL : N - (parts0 N W ws n).sum = L at *
            replace hLL := Lib.hid hLL
            have hLn := hL.out
            clear hcell hf1 hf2
            go_wp2_with fail
            obtain ⟨wo, rfl⟩ : ∃ wo : World, wo = wr := ⟨_, rfl⟩
            go_loopw [13, 15, 16] (fun lv bv iv wr => ∃ t : Nat, t ≤ L ∧ lv = .int .i64 ((L - t : Nat) : Int) ∧ Fix wr 3 1 (.slice (some ⟨g1, 0, none⟩) n n) n ((natsI (outRowN N W ws t)).map (Value.int .i64)) [g1] ∧ Fix wr 3 1 (.slice (some ⟨g2, 0, none⟩) n n) n ((cutRow N W ws t).map (Value.int .i64)) [g2] ∧ Chg [] w wr) (fun lv _ _ _ => (intOf lv).toNat)
            case atStart => exact ⟨0, by omega, rfl, hr1, hr2, hzr⟩
            case round =>
              clear hr1 hr2 hzr
              obtain ⟨t, ht, rfl, hr1, hr2, hzr⟩ := hrel
              by_cases htl : t < L
              · have hpk := Lib.hid (bst_pick (N := N) (W := W) (ws := ws) (t := t) (by rw [hlen.out]; omega))
                have hpk2 := (pick_lt (N := N) (W := W) (ws := ws) (t := t) (by rw [hlen.out]; omega)).1
                rw [hlen.out] at hpk2
                have hos := Lib.hid (outRow_succ (N := N) (W := W) (ws := ws) (t := t) (by rw [hlen.out]; omega))
                have hcs := Lib.hid (cutRow_succ (N := N) (W := W) (ws := ws) (t := t) (by rw [hlen.out]; omega))
                have hsb2 := hsb t _ (by omega) hpk2
                have hon := Lib.hid (natsI_nth (T := outRowN N W ws t) (k := pickAt N W ws t) (by rw [outRow_len, hlen.out]; exact hpk2))
                have hge : Hid ((0 : Int) < ((L - t : Nat) : Int)) := Lib.hid (by omega)
                have hb3 : decide ((0 : Int) < ((L - t : Nat) : Int)) = true := by simpa using hge.out
                have hb4 : 0 < L - t := by omega
                have hlt2 : ((L - (t + 1) : Nat) : Int) = ((L - t : Nat) : Int) - 1 := by omega
                replace hlt2 := Lib.hid hlt2
                have hlb : L - t ≤ 20 := by omega
                clear hsb
                generalize L - t = lf at *
                generalize pickAt N W ws t = pk at *
                have hcw : ∀ m, (wr.drewN m).heap = wr.heap := fun m => rfl
                go_wp2_with fail
                obtain ⟨wi, rfl⟩ : ∃ wi : World, wi = wr := ⟨_, rfl⟩
                go_loopw [15, 16] (fun bv iv wr => ∃ i : Nat, 1 ≤ i ∧ i ≤ n ∧ iv = .int .i64 i ∧ bv = .int .i64 ((bst (cutRow N W ws t) (i - 1) : Nat) : Int) ∧ Chg [] wi wr) (fun _ iv _ => n - (intOf iv).toNat)
                case atStart => exact ⟨1, by omega, hnpos, rfl, rfl, Chg.refl _ _⟩
                case round =>
                  obtain ⟨i, hi1, hin, rfl, rfl, hci⟩ := hrel
                  have hr1' := hr1.chg hci (by simp)
                  have hr2' := hr2.chg hci (by simp)
                  by_cases hil : i < n
                  · obtain ⟨hb1', -, -⟩ := bst_spec (cutRow N W ws t) (i - 1)
                    have hbs : bst (cutRow N W ws t) i = if nth (cutRow N W ws t) (bst (cutRow N W ws t) (i - 1)) < nth (cutRow N W ws t) i then i else bst (cutRow N W ws t) (i - 1) := by
                      obtain ⟨j, rfl⟩ : ∃ j, i = j + 1 := ⟨i - 1, by omega⟩
                      rfl
                    replace hbs := Lib.hid hbs
                    generalize hbb : bst (cutRow N W ws t) (i - 1) = b at *
                    replace hbb := Lib.hid hbb
                    obtain ⟨y1, -⟩ := hr2'.int_at (k := i) hil
                    obtain ⟨y2, -⟩ := hr2'.int_at (k := b) (by omega)
                    generalize nth (cutRow N W ws t) i = ci at *
                    generalize nth (cutRow N W ws t) b = cb at *
                    have hbn : b < n := by omega
                    by_cases hcc : cb < ci
                    · have q1 : decide (cb < ci) = true := by simpa using hcc
                      have q2 : Hid (bst (cutRow N W ws t) i = i) := Lib.hid (by rw [hbs.out, if_pos hcc])
                      go_wp2_with fail
                      go_quiet (fail)
                      go_wp2_with fail
                      go_roundw
                      case measure => simp [intOf]; omega
                      case rel => exact ⟨i + 1, by omega, by omega, by go_num, by rw [Nat.add_sub_cancel, q2.out], hci.drewN _⟩
                    · have q1 : decide (cb < ci) = false := by simpa using hcc
                      have q2 : Hid (bst (cutRow N W ws t) i = b) := Lib.hid (by rw [hbs.out, if_neg hcc])
                      go_wp2_with fail
                      go_quiet (fail)
                      go_wp2_with fail
                      go_roundw
                      case measure => simp [intOf]; omega
                      case rel => exact ⟨i + 1, by omega, by omega, by go_num, by rw [Nat.add_sub_cancel, q2.out], hci.drewN _⟩
                  · obtain rfl : n = i := by omega
                    have hpk' : bst (cutRow N W ws t) (n - 1) = pk := by rw [← hpk.out, hlen.out]
                    rw [hpk']
                    clear hpk'
                    obtain ⟨y1, y2⟩ := hr1'.int_at (k := pk) hpk2
                    rw [hon.out] at y1
                    obtain ⟨y3, y4⟩ := hr2'.int_at (k := pk) hpk2
                    generalize hu : nth (outRowN N W ws t) pk = u at *
                    replace hu := Lib.hid hu
                    go_upto_region 30 with fail
                    have hs1 := hr1'.store rfl pk (.int .i64 ((u : Int) + 1))
                    have hse : ((natsI (outRowN N W ws t)).map (Value.int .i64)).set pk (.int .i64 ((u : Int) + 1)) = (natsI (outRowN N W ws (t + 1))).map (Value.int .i64) := by
                      rw [ints_set, show ((u : Int) + 1) = ((u + 1 : Nat) : Int) by omega, natsI_set, hos.out, bump, hu.out]
                    rw [hse] at hs1
                    have hc1 : Chg [g1] wr (wr.setCell ⟨g1, pk, none⟩ (.int .i64 ((u : Int) + 1))) := (Chg.refl _ _).setCell (.inl (by simp)) _
                    generalize wr.setCell ⟨g1, pk, none⟩ (.int .i64 ((u : Int) + 1)) = w2 at *
                    have hr3 := hr2'.chg hc1 (by simpa using fun e => hg e.symm)
                    obtain ⟨y5, y6⟩ := hr3.int_at (k := pk) hpk2
                    clear y1 y2 y3 y4 hse
                    go_upto_region 31 with fail
                    have hs2 := hr3.store rfl pk (.int .i64 (-1))
                    rw [ints_set, ← hcs.out] at hs2
                    have hc2 : Chg [g2] w2 (w2.setCell ⟨g2, pk, none⟩ (.int .i64 (-1))) := (Chg.refl _ _).setCell (.inl (by simp)) _
                    generalize w2.setCell ⟨g2, pk, none⟩ (.int .i64 (-1)) = w3 at *
                    have hs3 := hs1.chg hc2 (by simpa using hg)
                    have hz3 : Chg [] w w3 := ((hzr.trans' hci).trans hc1 (by simpa using hgw1)).trans hc2 (by simpa using hgw2)
                    clear y5 y6
                    go_wp2_with fail
                    exact ⟨⟨t + 1, by omega, by rw [hlt2.out], hs3, hs2, hz3⟩, by simp [intOf]; have := hge.out; omega⟩
              · obtain rfl : L = t := by omega
                rw [Nat.sub_self]
                rw [← hfinal.out] at hr1
                have hTl : (splitN N W ws).length = n := by rw [split_len, hlen.out]
                have hTs : ∀ b, b < n → nth (splitN N W ws) b ≤ N + 20 := fun b hb => by rw [hfinal.out]; exact hsb L b (by omega) hb
                clear hsb
                generalize hT : splitN N W ws = T at *
                replace hT := Lib.hid hT
                replace hTl := Lib.hid hTl
                by_cases ha0 : a < 0
                · have q1 : decide (a < 0) = true := by simpa using ha0
                  have hres : Hid ((negTo T n).map (Value.int .i64) = signedAll a T) := Lib.hid (by unfold negTo signedAll; rw [← hTl.out, List.take_length, List.drop_length]; simp [ha0])
                  go_wp2_with fail
                  obtain ⟨wi, rfl⟩ : ∃ wi : World, wi = wr := ⟨_, rfl⟩
                  go_loopw [17] (fun iv wr => ∃ i : Nat, i ≤ n ∧ iv = .int .i64 i ∧ Fix wr 3 1 (.slice (some ⟨g1, 0, none⟩) n n) n ((negTo T i).map (Value.int .i64)) [g1] ∧ Chg [] w wr) (fun iv _ => n - (intOf iv).toNat)
                  case atStart => exact ⟨0, by omega, rfl, by have := hr1; unfold natsI at this; simpa [negTo] using this, hzr⟩
                  case round =>
                    obtain ⟨i, hin, rfl, hri, hci⟩ := hrel
                    by_cases hil : i < n
                    · obtain ⟨y1, y2⟩ := hri.int_at (k := i) hil
                      rw [negTo_nth (by rw [hTl.out]; exact hil)] at y1
                      have hub := hTs i hil
                      have hst := hri.store rfl i (.int .i64 (-((nth T i : Nat) : Int)))
                      rw [ints_set, negTo_set (by rw [hTl.out]; exact hil)] at hst
                      have hc3 := hci.trans ((Chg.refl [g1] wr).setCell (p := ⟨g1, i, none⟩) (.inl (by simp)) (.int .i64 (-((nth T i : Nat) : Int)))) (by simpa using hgw1)
                      generalize nth T i = u at *
                      go_wp2_with fail
                      go_roundw
                      case measure => simp [intOf]; omega
                      case rel => exact ⟨i + 1, by omega, by go_num, hst, hc3⟩
                    · obtain rfl : n = i := by omega
                      rw [hres.out] at hri
                      go_wp2_with fail
                      go_ret2
                      exact ⟨.slice (some ⟨g1, 0, none⟩) n n, [g1], rfl, hri, by simpa using hgw1, hci⟩
                · have q1 : decide (a < 0) = false := by simpa using ha0
                  have hres : Hid ((natsI T).map (Value.int .i64) = signedAll a T) := Lib.hid (by unfold natsI signedAll; simp [ha0])
                  rw [hres.out] at hr1
                  go_wp2_with fail
                  go_ret2
                  exact ⟨.slice (some ⟨g1, 0, none⟩) n n, [g1], rfl, hr1, by simpa using hgw1, hzr⟩
end Go.Proofs.Ytlkmdmaemjfelaa
