/- The proof of PlanNumbers, but for its row. -/
import Derived.Test.YtlbkjhfnpjbjlaaMPlan7
/- PlanNumbers: plain laws. -/
namespace Go.Proofs.Ytlbkjhfnpjbjlaa
open Go.RowKit Go.Vx
set_option linter.unusedVariables false
set_option linter.unusedSimpArgs false

instance : Inhabited Ln := ⟨⟨0, 0, 0⟩⟩
def turnedN (a b : Jn) : Bool := decide (b.lines.length = 2) && ((b.per == a.per + 1) && (((b.lines.getD 0 default).amt == -(a.lines.getD 0 default).amt) && ((b.lines.getD 0 default).acct == (a.lines.getD 0 default).acct)))
def turnAt (L : List Jn) (i : Nat) : Bool := decide (0 < i) && turnedN (L.getD (i - 1) default) (L.getD i default)
theorem check_front2 {j : Jn} (h : checkE j = 0) : 1 ≤ j.id ∧ j.id ≤ 999999 ∧ 0 ≤ j.per ∧ j.per ≤ 1199 ∧ 2 ≤ j.lines.length ∧ j.lines.length ≤ 8 ∧ (∀ x ∈ j.lines, -1000000000000000 ≤ x.amt ∧ x.amt ≤ 1000000000000000) := by
  have h8 := check_fits h
  unfold checkE at h
  cases hf : frontB j with
  | false => rw [hf] at h; simp at h
  | true =>
    unfold frontB perB at hf
    simp only [Bool.and_eq_true, decide_eq_true_eq] at hf
    exact ⟨hf.1.1.1.1.1.1, hf.1.1.1.1.1.2, hf.1.1.1.2.1, hf.1.1.1.2.2, hf.1.2, hf.2, h8.2⟩
theorem onC_one {p : Int} (h : (onC p 1).2 = 0) : (onC p 1).1 = p + 1 := by
  unfold onC at h ⊢
  split at h
  · rename_i hc
    rw [if_pos hc]
  · cases h
/-- What Make makes. -/
theorem makeL_is {t : Tp} {per id : Int} (h : makeL t per id ≠ []) : (∀ j ∈ makeL t per id, checkE j = 0) ∧ ∃ a, a.id = id ∧ a.per = per ∧ (makeL t per id = [a] ∨ ∃ b, makeL t per id = [a, b] ∧ b.id = IntKind.i64.wrap (id + 1) ∧ turnedN a b = true) := by
  unfold makeL at h ⊢
  split
  · rename_i hc
    rw [if_pos hc] at h
    split
    · rename_i hp
      rw [if_pos hp] at h
      split
      · rename_i hg
        rw [if_pos hg] at h
        refine ⟨fun j hj => by have := List.all_eq_true.1 hg j hj; simpa using this, ?_⟩
        unfold rawL at h ⊢
        split
        · rename_i hk
          rw [if_pos hk] at h
          unfold accL at h ⊢
          split
          · exact ⟨_, rfl, rfl, .inl rfl⟩
          · rename_i ho
            rw [if_neg ho] at h
            split
            · rename_i hr
              rw [if_pos hr] at h
              exact absurd rfl h
            · refine ⟨_, rfl, rfl, .inr ⟨_, rfl, rfl, ?_⟩⟩
              have hn : (onC per 1).1 = per + 1 := onC_one (by have := ho; simp only [ne_eq, Decidable.not_not] at this; exact this)
              unfold turnedN revJ accJ j0T
              dsimp only
              rw [hn]
              simp [negLn]
        · exact ⟨_, rfl, rfl, .inl rfl⟩
      · rename_i hg
        rw [if_neg hg] at h
        exact absurd rfl h
    · rename_i hp
      rw [if_neg hp] at h
      exact absurd rfl h
  · rename_i hc
    rw [if_neg hc] at h
    exact absurd rfl h
theorem puts_srt : ∀ (l : List Item) (st : List Slot × Int), Srt slLt st.1 → Srt slLt (puts st l).1
  | [], st, h => h
  | x :: l, st, h => by
    rw [puts]
    refine puts_srt l _ ?_
    unfold put1
    split
    · exact ins_srt slLin _ _ h
    · exact h
theorem srt_first {D : List Slot} (h : Srt slLt D) : D.Pairwise fun x y => x.1 ≤ y.1 := by
  unfold Srt at h
  refine h.imp fun {x y} h => ?_
  rw [slLt_no] at h
  omega
def NumOk (L : List Jn) (f : Int) : Prop := ∀ i, i < L.length → (L.getD i default).id = f + (i : Int) ∧ checkE (L.getD i default) = 0 ∧ (turnAt L i = true ∨ ∀ j, j < i → turnAt L j = true ∨ (L.getD j default).per ≤ (L.getD i default).per)
theorem getD_app_l {α : Type} [Inhabited α] (l m : List α) {i : Nat} (h : i < l.length) : (l ++ m).getD i default = l.getD i default := by simp [List.getD, List.getElem?_append_left h]
theorem getD_app_r {α : Type} [Inhabited α] (l m : List α) (i : Nat) : (l ++ m).getD (l.length + i) default = m.getD i default := by simp [List.getD, List.getElem?_append_right]
theorem turnAt_r (l m : List Jn) {i : Nat} (h : turnAt m i = true) : turnAt (l ++ m) (l.length + i) = true := by
  unfold turnAt at h ⊢
  rw [Bool.and_eq_true, decide_eq_true_eq] at h
  rw [getD_app_r, show l.length + i - 1 = l.length + (i - 1) by omega, getD_app_r, h.2, decide_eq_true (show 0 < l.length + i by omega)]
  rfl
theorem numbers (T : List TV) : ∀ (D : List Slot) (f : Int) (L : List Jn), runN T D f = some L → D.Pairwise (fun x y => x.1 ≤ y.1) → 0 ≤ f → f + 2 * D.length ≤ 2000000 →
    ∀ i, i < L.length → (L.getD i default).id = f + (i : Int) ∧ checkE (L.getD i default) = 0 ∧ (turnAt L i = true ∨ ((∀ j, j < i → turnAt L j = true ∨ (L.getD j default).per ≤ (L.getD i default).per) ∧ ∃ x ∈ D, (L.getD i default).per = x.1))
  | [], f, L, h, _, _, _, i, hi => by
    unfold runN at h
    cases h
    simp at hi
  | x :: D, f, L, h, hs, h0, hf, i, hi => by
    unfold runN at h
    by_cases hm : mkS T x f = []
    · rw [if_pos hm] at h; cases h
    rw [if_neg hm] at h
    obtain ⟨L', hL', rfl⟩ : ∃ L', runN T D (f + (mkS T x f).length) = some L' ∧ L = mkS T x f ++ L' := by
      cases hr : runN T D (f + (mkS T x f).length) with
      | none => rw [hr] at h; cases h
      | some L' => rw [hr] at h; cases h; exact ⟨L', rfl, rfl⟩
    obtain ⟨hck, a, ha1, ha2, hab⟩ := makeL_is hm
    change makeL (T.getD x.2.2.1.toNat default).t x.1 f ≠ [] at hm
    have hl2 : (mkS T x f).length ≤ 2 := makeL_len _ _ _
    have hl0 : 0 < (mkS T x f).length := List.length_pos_iff.2 hm
    rw [List.length_cons] at hf
    obtain ⟨hx, hD⟩ := List.pairwise_cons.1 hs
    have ih := numbers T D (f + (mkS T x f).length) L' hL' hD (by omega) (by omega)
    have hM : (mkS T x f).getD 0 default = a ∧ (1 < (mkS T x f).length → ((mkS T x f).getD 1 default).id = f + 1 ∧ turnAt (mkS T x f) 1 = true) := by
      rcases hab with e | ⟨b, e, hb1, hb2⟩
      · have e' : mkS T x f = [a] := e
        rw [e']
        exact ⟨rfl, fun h => absurd h (by simp)⟩
      · have e' : mkS T x f = [a, b] := e
        rw [e']
        refine ⟨rfl, fun _ => ⟨?_, ?_⟩⟩
        · show b.id = f + 1
          rw [hb1, IntKind.wrap_i64]; omega
        · unfold turnAt
          show (decide (0 < 1) && turnedN a b) = true
          rw [hb2]; rfl
    have hMc : ∀ k, k < (mkS T x f).length → checkE ((mkS T x f).getD k default) = 0 := fun k hk => by
      have : (mkS T x f).getD k default = (mkS T x f)[k] := by simp [List.getD, List.getElem?_eq_getElem hk]
      rw [this]
      exact hck _ (List.getElem_mem hk)
    generalize mkS T x f = M at *
    by_cases hiM : i < M.length
    · rw [getD_app_l _ _ hiM]
      have hlow : ∀ k, k < M.length → turnAt (M ++ L') k = turnAt M k := fun k hk => by
        unfold turnAt
        rw [getD_app_l _ _ hk, getD_app_l _ _ (show k - 1 < M.length by omega)]
      by_cases hi0 : i = 0
      · subst hi0
        refine ⟨by rw [hM.1, ha1]; simp, hMc 0 hiM, .inr ⟨fun j hj => by omega, x, by simp, by rw [hM.1, ha2]⟩⟩
      · obtain rfl : i = 1 := by omega
        exact ⟨by rw [(hM.2 hiM).1]; simp, hMc 1 hiM, .inl (by rw [hlow 1 hiM]; exact (hM.2 hiM).2)⟩
    · obtain ⟨k, rfl⟩ : ∃ k, i = M.length + k := ⟨i - M.length, by omega⟩
      rw [List.length_append] at hi
      obtain ⟨q1, q2, q3⟩ := ih k (by omega)
      rw [getD_app_r]
      refine ⟨by rw [q1]; push_cast; omega, q2, ?_⟩
      rcases q3 with q3 | ⟨q3, y, hy, q4⟩
      · exact .inl (turnAt_r _ _ q3)
      · refine .inr ⟨fun j hj => ?_, y, by simp [hy], q4⟩
        by_cases hjM : j < M.length
        · rw [getD_app_l _ _ hjM]
          by_cases hj0 : j = 0
          · subst hj0
            right
            rw [hM.1, ha2, q4]
            exact hx y hy
          · obtain rfl : j = 1 := by omega
            left
            have := (hM.2 hjM).2
            unfold turnAt at this ⊢
            rw [getD_app_l _ _ hjM, getD_app_l _ _ (show 1 - 1 < M.length by omega)]
            exact this
        · obtain ⟨k', rfl⟩ : ∃ k, j = M.length + k := ⟨j - M.length, by omega⟩
          rw [getD_app_r]
          exact (q3 k' (by omega)).imp (turnAt_r _ _) (fun h => h)
end Go.Proofs.Ytlbkjhfnpjbjlaa
/- PlanNumbers. -/
namespace Go.Proofs.Ytlbkjhfnpjbjlaa
open Go.RowKit Go.Vx
set_option linter.unusedVariables false
set_option linter.unusedSimpArgs false

/-- The region's operations behind a letter: its guards are read off the facts on it. -/
theorem wpQuiet_gen {P : Program} {ops : Array Oper} {C : World → Prop} {Q : Act → Prop} {l : List Oper} {a : Act} (h : ∀ ops' : Array Oper, ops' = ops → wpQuiet P ops' C Q l a) : wpQuiet P ops C Q l a := h ops rfl
noncomputable def nmReg12 : Code := (Try.f5.body.bind (regAt 12)).getD .skip
set_option maxRecDepth 100000 in
set_option maxHeartbeats 8000000 in
theorem nm_turned {w : World} {g n c k m : Nat} {pa pb aa ab xa xb : Int} {ga gb la lb ca cb : Nat}
    (c2 : w.cell? ⟨g, k * 6 + 2, none⟩ = some (.int .i64 pb)) (c4 : w.cell? ⟨g, k * 6 + 4, none⟩ = some (.slice (some ⟨gb, 0, none⟩) lb cb)) (d2 : w.cell? ⟨g, m * 6 + 2, none⟩ = some (.int .i64 pa)) (d4 : w.cell? ⟨g, m * 6 + 4, none⟩ = some (.slice (some ⟨ga, 0, none⟩) la ca))
    (e0 : w.cell? ⟨gb, 0, none⟩ = some (.int .i64 xb)) (e1 : w.cell? ⟨gb, 1, none⟩ = some (.int .i64 ab)) (f0 : w.cell? ⟨ga, 0, none⟩ = some (.int .i64 xa)) (f1 : w.cell? ⟨ga, 1, none⟩ = some (.int .i64 aa))
    (hkn : k < n) (hmn : m < n) (hk0 : 0 < k) (hkm : IntKind.i64.wrap ((k : Int) - 1) = (m : Int)) (hla : 0 < la) (hlb : 0 < lb) (hpa : IntKind.i64.wrap (pa + 1) = pa + 1) (haa : IntKind.i64.wrap (-aa) = -aa)
    (x0 x1 x2 x3 x4 x6 x7 x9 x10 x11 x12 x13 x14 x15 x16 x17 x18 x19 x20 x21 x22 x23 x24 x25 x26 x27 x28 x29 x30 x31 x32 x33 x34 x35 x36 x37 x38 x39 x40 x41 x42 x43 x44 x45 x46 x47 x48 x49 x50 x51 x52 x53 x54 x55 x56 x57 x58 x59 x60 x61 x62 x63 x64 x65 x66 x67 x68 x69 x70 x71 x72 x73 x74 x75 x76 x77 x78 x79 x80 x81 x82 x83 x84 x85 x86 x87 x88 x89 x90 x91 x92 x93 x94 x95 x96 x97 x98 x99 x100 x101 x102 x103 x104 x105 x106 x107 x108 x109 x110 x111 x112 x113 x114 x115 x116 x117 x118 x119 x120 x121 x122 x123 x124 x125 x126 x127 x128 x129 x130 x131 x132 x133 x134 x135 x136 x137 x138 x139 x140 x141 x142 x143 x144 : Value) (Q : Exit → Act → World → Prop)
    (hQ : ∀ (nn : Nat) (y60 y61 y62 y63 y64 y65 y66 y67 y68 y69 y70 y71 y72 y73 y74 y75 y76 y77 y78 y79 y80 y81 y82 y83 y84 y85 y86 y87 y88 y89 y90 y91 y92 y93 y94 y95 y96 y97 y98 y99 y100 y101 y102 y103 y104 y105 y106 y107 y108 y109 y110 y111 y112 y113 y114 y115 y116 y117 y118 y119 y120 y121 y122 y123 y124 y125 y126 : Value), Q .normal ⟨#[x0, x1, x2, x3, x4, .slice (some ⟨g, 0, none⟩) n c, x6, x7, .int .i64 k, .bool (decide (lb = 2) && ((pb == pa + 1) && ((ab == -aa) && (xb == xa)))), x10, x11, x12, x13, x14, x15, x16, x17, x18, x19, x20, x21, x22, x23, x24, x25, x26, x27, x28, x29, x30, x31, x32, x33, x34, x35, x36, x37, x38, x39, x40, x41, x42, x43, x44, x45, x46, x47, x48, x49, x50, x51, x52, x53, x54, x55, x56, x57, x58, x59, y60, y61, y62, y63, y64, y65, y66, y67, y68, y69, y70, y71, y72, y73, y74, y75, y76, y77, y78, y79, y80, y81, y82, y83, y84, y85, y86, y87, y88, y89, y90, y91, y92, y93, y94, y95, y96, y97, y98, y99, y100, y101, y102, y103, y104, y105, y106, y107, y108, y109, y110, y111, y112, y113, y114, y115, y116, y117, y118, y119, y120, y121, y122, y123, y124, y125, y126, x127, x128, x129, x130, x131, x132, x133, x134, x135, x136, x137, x138, x139, x140, x141, x142, x143, x144], []⟩ (w.drewN nn)) :
    Code.wp Try.prog nmReg12 Q ⟨#[x0, x1, x2, x3, x4, .slice (some ⟨g, 0, none⟩) n c, x6, x7, .int .i64 k, x9, x10, x11, x12, x13, x14, x15, x16, x17, x18, x19, x20, x21, x22, x23, x24, x25, x26, x27, x28, x29, x30, x31, x32, x33, x34, x35, x36, x37, x38, x39, x40, x41, x42, x43, x44, x45, x46, x47, x48, x49, x50, x51, x52, x53, x54, x55, x56, x57, x58, x59, x60, x61, x62, x63, x64, x65, x66, x67, x68, x69, x70, x71, x72, x73, x74, x75, x76, x77, x78, x79, x80, x81, x82, x83, x84, x85, x86, x87, x88, x89, x90, x91, x92, x93, x94, x95, x96, x97, x98, x99, x100, x101, x102, x103, x104, x105, x106, x107, x108, x109, x110, x111, x112, x113, x114, x115, x116, x117, x118, x119, x120, x121, x122, x123, x124, x125, x126, x127, x128, x129, x130, x131, x132, x133, x134, x135, x136, x137, x138, x139, x140, x141, x142, x143, x144], []⟩ w := by
  conv => arg 2; whnf
  conv => arg 4; dsimp only
  dsimp only at hQ
  obtain ⟨R, hR⟩ : ∃ R, (decide (lb = 2) && ((pb == pa + 1) && ((ab == -aa) && (xb == xa)))) = R := ⟨_, rfl⟩
  rw [hR] at hQ
  have hR' := Lib.hid hR.symm
  replace hQ := Lib.hid hQ
  have hkn2 : (k : Int) < (n : Int) := by omega
  have hmn2 : (m : Int) < (n : Int) := by omega
  have hk1 : decide ((0 : Int) < (k : Int)) = true := by simp; omega
  have hl1 : (0 : Int) < (la : Int) := by omega
  have hl2 : (0 : Int) < (lb : Int) := by omega
  clear hR
  refine wp_region_quiet_lit (by kernel_rfl) (by kernel_rfl) ?_
  refine wpQuiet_gen (fun ops' ho => ?_)
  have hy2 : (ops'[2]?).bind (·.dst) = some 62 := by rw [ho]; kernel_rfl
  have hy11 : (ops'[11]?).bind (·.dst) = some 71 := by rw [ho]; kernel_rfl
  have hy26 : (ops'[26]?).bind (·.dst) = some 86 := by rw [ho]; kernel_rfl
  have hy47 : (ops'[47]?).bind (·.dst) = some 107 := by rw [ho]; kernel_rfl
  clear ho
  by_cases p1 : lb = 2
  case neg =>
    have b1 : ((lb : Int) == 2) = false := by simp; omega
    have hr : Hid (R = false) := Lib.hid (by rw [hR'.out, decide_eq_false p1]; rfl)
    clear p1
    repeat (quiet_step (fail))
    refine wpQuiet_nil ?_
    intro _ hw'
    obtain ⟨nq, hw''⟩ := hw'
    subst hw''
    have hq := hQ.out
    rw [hr.out] at hq
    exact hq _ _ _ _ _ _ _ _ _ _ _ _ _ _ _ _ _ _ _ _ _ _ _ _ _ _ _ _ _ _ _ _ _ _ _ _ _ _ _ _ _ _ _ _ _ _ _ _ _ _ _ _ _ _ _ _ _ _ _ _ _ _ _ _ _ _ _ _
  subst p1
  have b1 : (((2 : Nat) : Int) == 2) = true := rfl
  cases p2 : (pb == pa + 1) with
  | false =>
    have hr : Hid (R = false) := Lib.hid (by rw [hR'.out, p2]; rfl)
    repeat (quiet_step (fail))
    refine wpQuiet_nil ?_
    intro _ hw'
    obtain ⟨nq, hw''⟩ := hw'
    subst hw''
    have hq := hQ.out
    rw [hr.out] at hq
    exact hq _ _ _ _ _ _ _ _ _ _ _ _ _ _ _ _ _ _ _ _ _ _ _ _ _ _ _ _ _ _ _ _ _ _ _ _ _ _ _ _ _ _ _ _ _ _ _ _ _ _ _ _ _ _ _ _ _ _ _ _ _ _ _ _ _ _ _ _
  | true =>
  cases p3 : (ab == -aa) with
  | false =>
    have hr : Hid (R = false) := Lib.hid (by rw [hR'.out, p2, p3]; rfl)
    repeat (quiet_step (fail))
    refine wpQuiet_nil ?_
    intro _ hw'
    obtain ⟨nq, hw''⟩ := hw'
    subst hw''
    have hq := hQ.out
    rw [hr.out] at hq
    exact hq _ _ _ _ _ _ _ _ _ _ _ _ _ _ _ _ _ _ _ _ _ _ _ _ _ _ _ _ _ _ _ _ _ _ _ _ _ _ _ _ _ _ _ _ _ _ _ _ _ _ _ _ _ _ _ _ _ _ _ _ _ _ _ _ _ _ _ _
  | true =>
    have hr : Hid (R = (xb == xa)) := Lib.hid (by rw [hR'.out, p2, p3]; rfl)
    repeat (quiet_step (fail))
    refine wpQuiet_nil ?_
    intro _ hw'
    obtain ⟨nq, hw''⟩ := hw'
    subst hw''
    have hq := hQ.out
    rw [hr.out] at hq
    exact hq _ _ _ _ _ _ _ _ _ _ _ _ _ _ _ _ _ _ _ _ _ _ _ _ _ _ _ _ _ _ _ _ _ _ _ _ _ _ _ _ _ _ _ _ _ _ _ _ _ _ _ _ _ _ _ _ _ _ _ _ _ _ _ _ _ _ _ _
set_option maxRecDepth 100000 in
set_option maxHeartbeats 8000000 in
theorem nm_turned0 {w : World} {g n c : Nat} (x0 x1 x2 x3 x4 x6 x7 x9 x10 x11 x12 x13 x14 x15 x16 x17 x18 x19 x20 x21 x22 x23 x24 x25 x26 x27 x28 x29 x30 x31 x32 x33 x34 x35 x36 x37 x38 x39 x40 x41 x42 x43 x44 x45 x46 x47 x48 x49 x50 x51 x52 x53 x54 x55 x56 x57 x58 x59 x60 x61 x62 x63 x64 x65 x66 x67 x68 x69 x70 x71 x72 x73 x74 x75 x76 x77 x78 x79 x80 x81 x82 x83 x84 x85 x86 x87 x88 x89 x90 x91 x92 x93 x94 x95 x96 x97 x98 x99 x100 x101 x102 x103 x104 x105 x106 x107 x108 x109 x110 x111 x112 x113 x114 x115 x116 x117 x118 x119 x120 x121 x122 x123 x124 x125 x126 x127 x128 x129 x130 x131 x132 x133 x134 x135 x136 x137 x138 x139 x140 x141 x142 x143 x144 : Value) (Q : Exit → Act → World → Prop)
    (hQ : ∀ (nn : Nat) (y60 y61 y62 y63 y64 y65 y66 y67 y68 y69 y70 y71 y72 y73 y74 y75 y76 y77 y78 y79 y80 y81 y82 y83 y84 y85 y86 y87 y88 y89 y90 y91 y92 y93 y94 y95 y96 y97 y98 y99 y100 y101 y102 y103 y104 y105 y106 y107 y108 y109 y110 y111 y112 y113 y114 y115 y116 y117 y118 y119 y120 y121 y122 y123 y124 y125 y126 : Value), Q .normal ⟨#[x0, x1, x2, x3, x4, .slice (some ⟨g, 0, none⟩) n c, x6, x7, .int .i64 0, .bool false, x10, x11, x12, x13, x14, x15, x16, x17, x18, x19, x20, x21, x22, x23, x24, x25, x26, x27, x28, x29, x30, x31, x32, x33, x34, x35, x36, x37, x38, x39, x40, x41, x42, x43, x44, x45, x46, x47, x48, x49, x50, x51, x52, x53, x54, x55, x56, x57, x58, x59, y60, y61, y62, y63, y64, y65, y66, y67, y68, y69, y70, y71, y72, y73, y74, y75, y76, y77, y78, y79, y80, y81, y82, y83, y84, y85, y86, y87, y88, y89, y90, y91, y92, y93, y94, y95, y96, y97, y98, y99, y100, y101, y102, y103, y104, y105, y106, y107, y108, y109, y110, y111, y112, y113, y114, y115, y116, y117, y118, y119, y120, y121, y122, y123, y124, y125, y126, x127, x128, x129, x130, x131, x132, x133, x134, x135, x136, x137, x138, x139, x140, x141, x142, x143, x144], []⟩ (w.drewN nn)) :
    Code.wp Try.prog nmReg12 Q ⟨#[x0, x1, x2, x3, x4, .slice (some ⟨g, 0, none⟩) n c, x6, x7, .int .i64 0, x9, x10, x11, x12, x13, x14, x15, x16, x17, x18, x19, x20, x21, x22, x23, x24, x25, x26, x27, x28, x29, x30, x31, x32, x33, x34, x35, x36, x37, x38, x39, x40, x41, x42, x43, x44, x45, x46, x47, x48, x49, x50, x51, x52, x53, x54, x55, x56, x57, x58, x59, x60, x61, x62, x63, x64, x65, x66, x67, x68, x69, x70, x71, x72, x73, x74, x75, x76, x77, x78, x79, x80, x81, x82, x83, x84, x85, x86, x87, x88, x89, x90, x91, x92, x93, x94, x95, x96, x97, x98, x99, x100, x101, x102, x103, x104, x105, x106, x107, x108, x109, x110, x111, x112, x113, x114, x115, x116, x117, x118, x119, x120, x121, x122, x123, x124, x125, x126, x127, x128, x129, x130, x131, x132, x133, x134, x135, x136, x137, x138, x139, x140, x141, x142, x143, x144], []⟩ w := by
  conv => arg 2; whnf
  conv => arg 4; dsimp only
  dsimp only at hQ
  replace hQ := Lib.hid hQ
  refine wp_region_quiet_lit (by kernel_rfl) (by kernel_rfl) ?_
  refine wpQuiet_gen (fun ops' ho => ?_)
  have hy2 : (ops'[2]?).bind (·.dst) = some 62 := by rw [ho]; kernel_rfl
  have hy11 : (ops'[11]?).bind (·.dst) = some 71 := by rw [ho]; kernel_rfl
  have hy26 : (ops'[26]?).bind (·.dst) = some 86 := by rw [ho]; kernel_rfl
  have hy47 : (ops'[47]?).bind (·.dst) = some 107 := by rw [ho]; kernel_rfl
  clear ho
  repeat (quiet_step (fail))
  refine wpQuiet_nil ?_
  intro _ hw'
  obtain ⟨nq, hw''⟩ := hw'
  subst hw''
  exact hQ.out _ _ _ _ _ _ _ _ _ _ _ _ _ _ _ _ _ _ _ _ _ _ _ _ _ _ _ _ _ _ _ _ _ _ _ _ _ _ _ _ _ _ _ _ _ _ _ _ _ _ _ _ _ _ _ _ _ _ _ _ _ _ _ _ _ _ _ _
end Go.Proofs.Ytlbkjhfnpjbjlaa
/- PlanNumbers: the walk. -/
namespace Go.Proofs.Ytlbkjhfnpjbjlaa
open Go.RowKit Go.Vx
set_option linter.unusedVariables false
set_option linter.unusedSimpArgs false

/-- What stands behind the journal k - 1. -/
def LastOk (L : List Jn) (k : Nat) (last : Int) : Prop := last = 0 ∨ ∃ j, j < k ∧ turnAt L j = false ∧ (L.getD j default).per = last
theorem LastOk.le {L : List Jn} {k : Nat} {last : Int} (h : LastOk L k last) (h0 : 0 ≤ (L.getD k default).per) (hj : ∀ j, j < k → turnAt L j = true ∨ (L.getD j default).per ≤ (L.getD k default).per) : last ≤ (L.getD k default).per := by
  rcases h with h | ⟨j, h1, h2, h3⟩
  · omega
  · rcases hj j h1 with h4 | h4
    · rw [h2] at h4; cases h4
    · omega
theorem LastOk.same {L : List Jn} {k : Nat} {last : Int} (h : LastOk L k last) : LastOk L (k + 1) last := h.imp (fun h => h) fun ⟨j, h1, h2⟩ => ⟨j, by omega, h2⟩
theorem LastOk.next {L : List Jn} {k : Nat} (h : turnAt L k = false) : LastOk L (k + 1) (L.getD k default).per := .inr ⟨k, by omega, h, rfl⟩
theorem runN_some {T : List TV} {D : List Slot} {f : Int} (h : runE (runN T D f) = 0) : ∃ L, runN T D f = some L := by
  cases hr : runN T D f with
  | none => rw [hr] at h; cases h
  | some L => exact ⟨L, rfl⟩
theorem runE_cases (o : Option (List Jn)) : (runE o = 1 ∧ o = none) ∨ (runE o = 0 ∧ ∃ L, o = some L) := by
  cases o with
  | none => exact .inl ⟨rfl, rfl⟩
  | some L => exact .inr ⟨rfl, L, rfl⟩
theorem head_mem {l : List Ln} (h : 0 < l.length) : l.getD 0 default ∈ l := by
  cases l with
  | nil => simp at h
  | cons a l => simp
theorem front_at {L : List Jn} {k : Nat} (h : checkE (L.getD k default) = 0) : 0 ≤ (L.getD k default).per ∧ (L.getD k default).per ≤ 1199 ∧ 2 ≤ (L.getD k default).lines.length ∧ -1000000000000000 ≤ ((L.getD k default).lines.getD 0 default).amt ∧ ((L.getD k default).lines.getD 0 default).amt ≤ 1000000000000000 := by
  obtain ⟨-, -, h1, h2, h3, -, h4⟩ := check_front2 h
  have := h4 _ (head_mem (l := (L.getD k default).lines) (by omega))
  exact ⟨h1, h2, h3, this⟩
set_option maxRecDepth 100000 in
set_option maxHeartbeats 16000000 in
theorem planNumbers_walk (w : World) (first : Int) (hfw : (Lit.int .i64 first).wf = true) (A : Option Addr) (n c : Nat) (T : List TV) (x : T.length = n ∧ n ≤ c ∧ c ≤ maxLen ∧ Src w 12 A n (T.flatMap tvEnc) ∧ ∀ x ∈ T, TArg w x) (y : n * 128 ≤ 140737488351232) :
    Calls Try.prog 5 #[.int .i64 first, .slice A n c] w fun e w' => e = .returned (.bool true) ∧ Chg [] w w' := by
  have hrow := TArg.row x.1 x.2.2.2.1 x.2.2.2.2
  have hTn := x.1
  have hsm := pl_small (c := c) hrow (by omega)
  have hal := pl_alive
  have hsy := @small_yes T
  have hrun := fun W (z : Chg [] w W) (hl : ∀ x ∈ T, x.t.tg.length ≤ 20 ∧ x.t.wt.length ≤ 20) (hn : n ≤ 50) (h1 : -1000000000000 ≤ first) (h2 : first ≤ 2000000000000) => pl_run (c := c) ((hrow.keep z).row hl) hn first h1 h2
  have hnum := fun L (h : runN T (puts ([], 0) (itsN T n)).1 first = some L) (h0 : 0 ≤ first) (h1 : first ≤ 900000) => numbers T _ first L h (srt_first (puts_srt (itsN T n) ([], 0) List.Pairwise.nil)) h0 (by have := puts_few (itsN T n) ([], 0) (by simp); omega)
  generalize (puts ([], 0) (itsN T n)).1 = S at *
  clear x hrow
  generalize smallN T = sb at *
  replace hsy := Lib.hid hsy
  replace hrun := Lib.hid hrun
  replace hnum := Lib.hid hnum
  replace hTn := Lib.hid hTn
  go_enter Try.func5, Try.ntmps5
  go_wp2_with fail
  refine hsm.mono ?_
  rintro e w1 ⟨rfl, hz1⟩
  clear hsm
  cases sb with
  | false =>
    go_wp2_with fail
    refine (hal _).mono ?_
    rintro e w2 ⟨rfl, hz2⟩
    go_wp2_with fail
    go_ret
    exact ⟨rfl, hz1.trans' hz2⟩
  | true =>
  by_cases h1 : first < 1
  · have b1 : decide (first < 1) = true := by simpa using h1
    clear h1
    go_wp2_with fail
    refine (hal _).mono ?_
    rintro e w2 ⟨rfl, hz2⟩
    go_wp2_with fail
    go_ret
    exact ⟨rfl, hz1.trans' hz2⟩
  have b1 : decide (first < 1) = false := by simp; omega
  by_cases h2 : 900000 < first
  · have b2 : decide (900000 < first) = true := by simpa using h2
    clear h1 h2
    go_wp2_with fail
    refine (hal _).mono ?_
    rintro e w2 ⟨rfl, hz2⟩
    go_wp2_with fail
    go_ret
    exact ⟨rfl, hz1.trans' hz2⟩
  have b2 : decide (900000 < first) = false := by simp; omega
  obtain ⟨q1, q2, -⟩ := hsy.out rfl
  rw [hTn.out] at q1
  replace q2 := Lib.hid q2
  go_wp2_with fail
  refine (hal _).mono ?_
  rintro e w2 ⟨rfl, hz2⟩
  have hzw2 := hz1.trans' hz2
  have hrun2 := hrun.out _ hzw2 q2.out (by omega) (by omega) (by omega)
  have hnum2 := fun L h => hnum.out L h (by omega) (by omega)
  replace hnum2 := Lib.hid hnum2
  clear hal hrun hnum
  go_wp2_with fail
  refine hrun2.mono ?_
  rintro e w3 ⟨X, v, F, rfl, hf, hj, hl, -, -, hz3⟩
  clear hrun2
  have hzw3 := hzw2.trans' hz3
  obtain ⟨vA, vc, rfl, -, hvc, hvm, -⟩ := _root_.id hf
  rcases runE_cases (runN T S first) with ⟨hE, ho⟩ | ⟨hE, L, ho⟩
  · have hX : X.length = 0 := by rw [ho] at hj; have := congrArg List.length hj; rw [List.length_map] at this; exact this
    rw [hE, hX]
    clear hf hj hl hE ho hvc hvm
    go_wp2_with fail
    go_ret
    exact ⟨rfl, hzw3⟩
  have hN := hnum2.out L ho
  have hjL : jns X = L := by rw [ho] at hj; exact hj
  rw [hE]
  clear hE ho hj hnum2
  have hcell : ∀ W, Chg [] w3 W → ∀ k, k < X.length → ∃ g, vA = some ⟨g, 0, none⟩ ∧ ∃ gb cb : Nat, W.cell? ⟨g, k * 6, none⟩ = some (.int .i64 (L.getD k default).id) ∧ W.cell? ⟨g, k * 6 + 1, none⟩ = some (.int .i64 (L.getD k default).ent) ∧ W.cell? ⟨g, k * 6 + 2, none⟩ = some (.int .i64 (L.getD k default).per) ∧
      W.cell? ⟨g, k * 6 + 3, none⟩ = some (.string (L.getD k default).ref) ∧ W.cell? ⟨g, k * 6 + 4, none⟩ = some (.slice (some ⟨gb, 0, none⟩) (L.getD k default).lines.length cb) ∧ W.cell? ⟨g, k * 6 + 5, none⟩ = some (.bool (L.getD k default).void) ∧
      W.cell? ⟨gb, 0, none⟩ = some (.int .i64 ((L.getD k default).lines.getD 0 default).acct) ∧ W.cell? ⟨gb, 1, none⟩ = some (.int .i64 ((L.getD k default).lines.getD 0 default).amt) ∧
      Src W 3 (some ⟨gb, 0, none⟩) (L.getD k default).lines.length ((L.getD k default).lines.flatMap lnEnc) := by
    intro W z k hk
    have hL : L.getD k default = X[k].j := by
      rw [← hjL]
      unfold jns
      simp [List.getD, List.getElem?_map, List.getElem?_eq_getElem hk]
    rw [hL]
    have hNk := hN k (by rw [← hjL, List.length_map]; exact hk)
    rw [hL] at hNk
    obtain ⟨-, -, -, -, h2l, -, -⟩ := check_front2 hNk.2.1
    have hfz := hf.chg z (by simp)
    have hlz := (hl _ (List.getElem_mem hk)).chg z (by simp)
    obtain ⟨gb, cb, hpv, -, -, -, r0, -⟩ := hlz.at_ (k := 0) (j := 0) (by omega) (by omega)
    obtain ⟨gb', cb', hpv', -, -, -, r1, -⟩ := hlz.at_ (k := 0) (j := 1) (by omega) (by omega)
    rw [hpv] at hpv'
    cases hpv'
    obtain ⟨g, c', e', -, -, -, s0, -⟩ := hfz.at_ (k := k) (j := 0) hk (by omega)
    cases e'
    have sj : ∀ j, j < 6 → W.cell? ⟨g, k * 6 + j, none⟩ = (jvEnc X[k])[j]? := fun j hj => by
      obtain ⟨g', c', e', -, -, -, s, -⟩ := hfz.at_ (k := k) (j := j) hk hj
      cases e'
      rw [s, flatMap_at jvEnc_len X k hk j hj, at_eq hk]
    have t4 := sj 4 (by omega)
    rw [show (jvEnc X[k])[4]? = some X[k].pv from rfl, hpv] at t4
    have tl : ∀ j, j < 3 → (X[k].j.lines.flatMap lnEnc)[0 * 3 + j]? = (lnEnc (X[k].j.lines.getD 0 default))[j]? := fun j hj => by
      rw [flatMap_at lnEnc_len _ 0 (by omega) j hj, at_eq (by omega)]
      simp [List.getD, List.getElem?_eq_getElem (show 0 < X[k].j.lines.length by omega)]
    rw [tl 0 (by omega)] at r0
    rw [tl 1 (by omega)] at r1
    rw [hpv] at hlz
    exact ⟨g, rfl, gb, cb, sj 0 (by omega), sj 1 (by omega), sj 2 (by omega), sj 3 (by omega), t4, sj 5 (by omega), r0, r1, Fix.src hlz⟩
  have hXL : X.length = L.length := by rw [← hjL, List.length_map]
  generalize X.length = xn at *
  have hturn : ∀ k, turnAt L k = (decide (0 < k) && turnedN (L.getD (k - 1) default) (L.getD k default)) := fun k => rfl
  replace hN := Lib.hid fun k (hk : k < xn) => hN k (by omega)
  replace hcell := Lib.hid hcell
  replace hXL := Lib.hid hXL
  replace hturn := Lib.hid hturn
  have hvn : xn ≤ 9223372036854775807 := by unfold maxLen at hvm; omega
  have hvs : xn ≤ 999999 + 1 := by
    rcases Nat.eq_zero_or_pos xn with h0 | h0
    · omega
    · have := (hN.out (xn - 1) (by omega)).1
      have := check_front2 (hN.out (xn - 1) (by omega)).2.1
      omega
  clear hf hl hjL hvc hvm hvn
  go_wp2_with fail
  go_loopw [7, 8] (fun lv iv wr => ∃ (k : Nat) (last : Int), k ≤ xn ∧ iv = .int .i64 k ∧ lv = .int .i64 last ∧ Hid (LastOk L k last) ∧ Chg [] w3 wr) (fun _ iv _ => xn - (intOf iv).toNat)
  case atStart => exact ⟨0, 0, by omega, rfl, rfl, Lib.hid (.inl rfl), Chg.refl _ _⟩
  case round =>
    obtain ⟨k, last, hk, rfl, rfl, hlast, hzr⟩ := hrel
    have hkw : IntKind.i64.wrap ((k : Int) + 1) = (k : Int) + 1 := by rw [IntKind.wrap_i64]; omega
    by_cases hlt : k < xn
    · obtain ⟨g, rfl, gb, cb, c0, c1, c2, c3, c4, c5, e0, e1, hsr⟩ := hcell.out _ hzr k hlt
      obtain ⟨p1, p2, p3⟩ := hN.out k hlt
      obtain ⟨r1, r2, r3, r4, r5, r6, r7⟩ := check_front2 p2
      have hlt2 : (k : Int) < (xn : Int) := by omega
      have hfk : IntKind.i64.wrap (first + (k : Int)) = first + (k : Int) := by rw [IntKind.wrap_i64]; omega
      have hrefs := (show (L.getD k default).ref.size ≤ maxLen by
        have hf8 : refB (L.getD k default).ref = true := by
          have := p2
          unfold checkE at this
          cases hfb : frontB (L.getD k default) with
          | false => rw [hfb] at this; simp at this
          | true => unfold frontB at hfb; simp only [Bool.and_eq_true] at hfb; exact hfb.1.1.2
        unfold refB at hf8
        simp only [Bool.and_eq_true, decide_eq_true_eq] at hf8
        unfold maxLen
        omega)
      have hck := fun W (z : Chg [] wr W) => r1_check (L.getD k default) (c := cb) (hsr.chg z (by simp)) (by omega) hrefs
      have hck2 := hck wr (Chg.refl _ _)
      rw [p2] at hck2
      have hln := hturn.out k
      have hle := fun h => LastOk.le hlast.out r3 h
      have hsame := LastOk.same hlast.out
      have hnext := @LastOk.next L k
      have hb9 : ∀ m, m + 1 = k → Hid (turnAt L k = (decide ((L.getD k default).lines.length = 2) && (((L.getD k default).per == (L.getD m default).per + 1) && (((((L.getD k default).lines.getD 0 default).amt) == -(((L.getD m default).lines.getD 0 default).amt)) && ((((L.getD k default).lines.getD 0 default).acct) == (((L.getD m default).lines.getD 0 default).acct)))))) := fun m hm => Lib.hid (by
        subst hm
        rw [hln, decide_eq_true (show 0 < m + 1 by omega), Bool.true_and, Nat.add_sub_cancel]
        rfl)
      have hb0 : k = 0 → Hid (turnAt L k = false) := fun h => Lib.hid (by rw [hln, h]; rfl)
      generalize hta : turnAt L k = ta at *
      have hamt : -1000000000000000 ≤ ((L.getD k default).lines.getD 0 default).amt ∧ ((L.getD k default).lines.getD 0 default).amt ≤ 1000000000000000 := by
        exact r7 _ (head_mem (by omega))
      generalize hJ : L.getD k default = J at *
      have hJl : 0 < J.lines.length := by omega
      obtain ⟨ji, je, jp, jr, jl, jv⟩ := J
      unfold jnV at hck2
      dsimp only at *
      generalize hab : (jl.getD 0 default).amt = ab at *
      generalize hxb : (jl.getD 0 default).acct = xb at *
      generalize hlb : jl.length = lb at *
      replace hab := Lib.hid hab
      replace hxb := Lib.hid hxb
      replace hlb := Lib.hid hlb
      subst p1
      have hne : ((first + (k : Int)) != (first + (k : Int))) = false := by simp
      replace hck2 := Lib.hid hck2
      replace p3 := Lib.hid p3
      replace hle := Lib.hid hle
      replace hsame := Lib.hid hsame
      replace hnext := Lib.hid hnext
      replace hb9 := Lib.hid hb9
      replace hb0 := Lib.hid hb0
      replace hta := Lib.hid hta
      replace hJ := Lib.hid hJ
      clear hln r7 p2 hck hsr
      go_wp2_with fail
      refine hck2.out.mono ?_
      rintro e w4 ⟨rfl, hz4⟩
      have hzr4 := hzr.trans' hz4
      clear hck2 c0 c1 c2 c3 c4 c5 e0 e1
      by_cases hk0 : k = 0
      · have hta0 := hb0.out hk0
        subst hk0
        obtain rfl : ta = false := hta0.out
        obtain ⟨g1, hg1, gb1, cb1, -, -, c2, -⟩ := hcell.out _ hzr4 0 hlt
        obtain rfl : g1 = g := by cases hg1; rfl
        rw [hJ.out] at c2
        have hlast2 := hle.out (fun j hj => absurd hj (by omega))
        have b9 : decide (jp < last) = false := by simp; omega
        have hnx := hnext.out rfl
        simp only [Nat.zero_mul, Nat.zero_add] at c2
        clear hle hsame hnext hb9 hb0 p3 hg1
        go_wp2_with fail
        refine nm_turned0 _ _ _ _ _ _ _ _ _ _ _ _ _ _ _ _ _ _ _ _ _ _ _ _ _ _ _ _ _ _ _ _ _ _ _ _ _ _ _ _ _ _ _ _ _ _ _ _ _ _ _ _ _ _ _ _ _ _ _ _ _ _ _ _ _ _ _ _ _ _ _ _ _ _ _ _ _ _ _ _ _ _ _ _ _ _ _ _ _ _ _ _ _ _ _ _ _ _ _ _ _ _ _ _ _ _ _ _ _ _ _ _ _ _ _ _ _ _ _ _ _ _ _ _ _ _ _ _ _ _ _ _ _ _ _ _ _ _ _ _ _ _ _ _ ?_
        intro nn y60 y61 y62 y63 y64 y65 y66 y67 y68 y69 y70 y71 y72 y73 y74 y75 y76 y77 y78 y79 y80 y81 y82 y83 y84 y85 y86 y87 y88 y89 y90 y91 y92 y93 y94 y95 y96 y97 y98 y99 y100 y101 y102 y103 y104 y105 y106 y107 y108 y109 y110 y111 y112 y113 y114 y115 y116 y117 y118 y119 y120 y121 y122 y123 y124 y125 y126
        go_wp2_with fail
        exact ⟨⟨1, jp, by omega, rfl, rfl, Lib.hid hnx, hzr4.drewN _⟩, by simp [intOf]; omega⟩
      · obtain ⟨m, rfl⟩ : ∃ m, k = m + 1 := ⟨k - 1, by omega⟩
        have hbt := hb9.out m rfl
        obtain ⟨g1, hg1, gb1, cb1, -, -, c2, -, c4, -, e0, e1, -⟩ := hcell.out _ hzr4 (m + 1) hlt
        obtain rfl : g1 = g := by cases hg1; rfl
        obtain ⟨g2, hg2, gb2, cb2, -, -, d2, -, d4, -, f0, f1, -⟩ := hcell.out _ hzr4 m (by omega)
        obtain rfl : g2 = g1 := by cases hg2; rfl
        obtain ⟨m1, m2, m3, m4, m5⟩ := front_at (hN.out m (by omega)).2.1
        rw [hJ.out] at c2 c4 e0 e1
        dsimp only at c2 c4 e0 e1
        rw [hab.out] at e1
        rw [hxb.out] at e0
        rw [hlb.out] at c4
        have hkm : IntKind.i64.wrap (((m + 1 : Nat) : Int) - 1) = (m : Int) := by rw [IntKind.wrap_i64]; omega
        generalize (L.getD m default).per = pa at *
        generalize ((L.getD m default).lines.getD 0 default).amt = aa at *
        generalize ((L.getD m default).lines.getD 0 default).acct = xa at *
        generalize (L.getD m default).lines.length = la at *
        have hpa : IntKind.i64.wrap (pa + 1) = pa + 1 := by rw [IntKind.wrap_i64]; omega
        have haa : IntKind.i64.wrap (-aa) = -aa := by rw [IntKind.wrap_i64]; omega
        have c2' := Lib.hid c2
        clear hg1 hg2 hb9 hb0 hJ m4 m5 hab hxb hlb
        go_wp2_with fail
        refine nm_turned c2 c4 d2 d4 e0 e1 f0 f1 hlt (by omega) (by omega) hkm (by omega) (by omega) hpa haa _ _ _ _ _ _ _ _ _ _ _ _ _ _ _ _ _ _ _ _ _ _ _ _ _ _ _ _ _ _ _ _ _ _ _ _ _ _ _ _ _ _ _ _ _ _ _ _ _ _ _ _ _ _ _ _ _ _ _ _ _ _ _ _ _ _ _ _ _ _ _ _ _ _ _ _ _ _ _ _ _ _ _ _ _ _ _ _ _ _ _ _ _ _ _ _ _ _ _ _ _ _ _ _ _ _ _ _ _ _ _ _ _ _ _ _ _ _ _ _ _ _ _ _ _ _ _ _ _ _ _ _ _ _ _ _ _ _ _ _ _ _ _ _ ?_
        intro nn y60 y61 y62 y63 y64 y65 y66 y67 y68 y69 y70 y71 y72 y73 y74 y75 y76 y77 y78 y79 y80 y81 y82 y83 y84 y85 y86 y87 y88 y89 y90 y91 y92 y93 y94 y95 y96 y97 y98 y99 y100 y101 y102 y103 y104 y105 y106 y107 y108 y109 y110 y111 y112 y113 y114 y115 y116 y117 y118 y119 y120 y121 y122 y123 y124 y125 y126
        rw [← hbt.out]
        clear c4 d2 d4 e0 e1 f0 f1
        cases ta with
        | true =>
          have hnx := hsame.out
          go_wp2_with fail
          exact ⟨⟨m + 1 + 1, last, by omega, by go_num, rfl, Lib.hid hnx, hzr4.drewN _⟩, by simp [intOf]; omega⟩
        | false =>
          have hlast2 := hle.out (fun j hj => (p3.out.resolve_left (by simp)).1 j hj)
          have b9 : decide (jp < last) = false := by simp; omega
          have hnx := hnext.out rfl
          go_wp2_with fail
          exact ⟨⟨m + 1 + 1, jp, by omega, by go_num, rfl, Lib.hid hnx, hzr4.drewN _⟩, by simp [intOf]; omega⟩
    · obtain rfl : k = xn := by omega
      clear hlt
      go_wp2_with fail
      go_ret
      exact ⟨rfl, hzw3.trans' hzr⟩
end Go.Proofs.Ytlbkjhfnpjbjlaa
