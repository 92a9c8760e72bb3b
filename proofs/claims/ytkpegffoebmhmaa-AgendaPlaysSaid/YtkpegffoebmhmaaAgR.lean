/- AgendaPlays, walked. -/
import Derived.Test.YtkpegffoebmhmaaAgRb
import Derived.Test.YtkpegffoebmhmaaAgRc
import Derived.Test.YtkpegffoebmhmaaAgRd
import Derived.Test.YtkpegffoebmhmaaAgRe
import Derived.StillTailTactics
namespace Go.Proofs.Ytkpegffoebmhmaa
open Go.RowKit Go.Vx
set_option linter.unusedVariables false
set_option linter.unusedSimpArgs false

theorem playOk_chg {w w' : World} {o : PlayV} (h : PlayOk w o) (k : Chg [] w w') : PlayOk w' o := ⟨h.hk, h.hn, h.hl, h.hc, h.hm, h.src.chg k (by simp)⟩
set_option maxRecDepth 100000 in
set_option maxHeartbeats 16000000 in
theorem plays_in8 {w : World} {A : Option Addr} {n c : Nat} {l : List PlayV} (hs : Src w 3 A n (l.flatMap playCells)) (hl : l.length = n) (hn : n ≤ 40) (hok : ∀ x ∈ l, PlayOk w x) :
    Calls Try.prog 4 #[.slice A n c] w fun e w' => e = .returned (.bool true) ∧ Chg [] w w' := by
  replace hl := Lib.hid hl
  go_enter Try.func4, Try.ntmps4
  go_wp2_with (go_at_call 6; refine (ag_alive _).mono ?_; rintro e w0 ⟨rfl, hc0⟩)
  have hP0 : PA w (w0.alloc (.cells #[.slice none 0 0, .int .i64 0] 28)) w0.heap.size [] 0 [] (.slice none 0 0) [] :=
    ⟨AgAt.new w0, RItems.nil (by simp) [], by simp, by intro g hg; simp at hg; subst hg; exact hc0.size, by intro y hy; simp at hy, by simp, by omega, hc0.alloc _⟩
  go_loopw [4, 5] (fun rv iv wr => ∃ (k : Nat) (S : List Slot) (m : Int) (F FR : List Nat), k ≤ n ∧ iv = .int .i64 k ∧ m ≤ 30 * k ∧ PA w wr w0.heap.size S m F rv FR) (fun _ iv _ => n - (intOf iv).toNat)
  case atStart => exact ⟨0, [], 0, [], [], by omega, rfl, by omega, hP0⟩
  case round =>
    clear hP0
    obtain ⟨k, S, m, F, FR0, hk, rfl, hm, hP⟩ := hrel
    by_cases hlt : k < n
    · obtain ⟨FR, hR, hRs, hRl⟩ := hP.rs.tight
      replace hP : PA w _ w0.heap.size S m F _ FR := ⟨hP.ag, hR, fun g hg => hP.dis g (hRs g hg), hP.far, hP.old, hP.len, hP.m0, hP.chg⟩
      obtain ⟨ad, rfl, d0, hc⟩ := (hs.chg hP.chg (by simp)).elem (fun _ => rfl) (by omega) (k := k) (by rw [hl.out]; exact hlt) hl.out
      have d1 := hc 1 (by omega) (by omega)
      have d2 := hc 2 (by omega) (by omega)
      have ho := hok _ (List.getElem_mem (show k < l.length by rw [hl.out]; exact hlt))
      simp only [playCells, List.getElem?_cons_succ, List.getElem?_cons_zero] at d0 d1 d2
      clear hc hR hRs
      generalize l[k]'(by rw [hl.out]; exact hlt) = o at d0 d1 d2 ho
      obtain ⟨okd, on, oA, oln, ocp, ol⟩ := o
      dsimp only at d0 d1 d2
      have hAb : 0 < oln → ∀ ad, oA = some ad → ad.block < w.heap.size := fun h0 ad hA => by
        have hs0 : Src w 3 oA oln (ol.flatMap itEnc) := ho.src
        obtain ⟨ad', e, hc⟩ := hs0.2 h0
        rw [hA] at e
        injection e with e
        subst e
        exact Go.Clock.block_lt (hc 0 _ (List.getElem?_eq_getElem (by rw [hs0.1]; omega)))
      replace ho := playOk_chg ho hP.chg
      have hS := hP.len
      have hm0 := hP.m0
      obtain ⟨B, cB, rfl, hcB1, hcB2, -⟩ := id hP.rs
      have hml : (S.map item).length = S.length := by simp
      rw [hml] at hP ⊢
      rw [hml] at hcB1
      unfold maxLen at hcB2
      have hol : ol.length = oln := ho.hl
      have hocap : oln ≤ ocp := ho.hc
      have hocm : ocp ≤ maxLen := ho.hm
      unfold maxLen at hocm
      by_cases h30 : oln ≤ 30
      · have hol2 := Lib.hid hol
        clear hol
        have hP1 := hP.quiet ((Chg.refl [] _).alloc (.cells #[.int .i64 okd, .int .i64 on, .slice oA oln ocp] 39))
        replace ho := playOk_chg ho ((Chg.refl [] _).alloc (.cells #[.int .i64 okd, .int .i64 on, .slice oA oln ocp] 39))
        have hobF : wr.heap.size ∉ w0.heap.size :: F := fun h => Nat.lt_irrefl _ (hP.ag.lt _ h)
        clear hP
        go_upto_block 2 with fail
        have hbo := Blk.new wr 39 #[.int .i64 okd, .int .i64 on, .slice oA oln ocp]
        have hRl2 : ∀ g, g ∈ FR → g < (wr.alloc (.cells #[.int .i64 okd, .int .i64 on, .slice oA oln ocp] 39)).heap.size := fun g hg => by have := hRl g hg; simp; omega
        clear hRl d0 d1 d2
        obtain ⟨ob, hob⟩ : ∃ ob, ob = wr.heap.size := ⟨_, rfl⟩
        rw [← hob] at hbo hobF ⊢
        generalize World.alloc wr (.cells #[.int .i64 okd, .int .i64 on, .slice oA oln ocp] 39) = wa at *
        clear hob
        go_cut [4, 7] (fun rv okv wx => okv = .bool true ∧ ∃ (S' : List Slot) (m' : Int) (F' FR' : List Nat), m' ≤ 30 * k + 30 ∧ PA w wx w0.heap.size S' m' F' rv FR')
        case first =>
          have e0 := hbo.cell 0
          have e1 := hbo.cell 1
          have e2 := hbo.cell 2
          simp at e0 e1 e2
          by_cases k1 : okd = 1
          · have b1 : (okd == 1) = true := by simp [k1]
            clear k1 hml hS hm0 e0 e1 e2
            refine act1 (k := k) hP1 ho hRl2 hbo hobF hAb h30 hocap hocm hol2 (by omega) hm hcB1 hcB2 b1 _ _ _ _ _ _ _ _ _ _ _ _ _ _ _ _ _ _ _ _ _ _ _ _ _ _ _ _ _ _ _ _ _ _ _ _ _ _ _ _ _ _ _ _ _ _ _ _ _ _ _ _ _ _ _ _ _ _ _ _ _ _ _ _ _ _ _ _ _ _ _ _ _ _ _ _ _ _ _ _ _ _ _ _ _ _ _ _ _ _ _ _ _ _ _ _ _ _ _ _ _ _ _ _ _ _ _ _ _ _ _ _ _ _ _ _ _ _ _ _ _ _ _ _ _ _ _ _ _ _ _ _ _ _ _ _ _ _ _ _ _ _ _ _ _ _ _ _ _ _ _ _ _ _ _ _ _ _ _ _ _ _ _ _ _ _ _ _ _ _ _ _ _ _ _ _ _ _ _ _ _ _ _ _ _ _ _ _ _ _ _ _ _ _ _ _ _ _ _ _ _ _ _ _ _ _ _ _ _ _ _ _ _ _ _ _ _ _ _ _ _ _ _ _ _ _ _ _ _ _ _ _ _ _ _ _ _ _ _ _ _ _ _ _ _ _ _ _ _ _ _ _ _ _ _ _ _ _ _ _ _ _ _ _ _ _ _ _ _ _ ?_
            intro rv wx y8 y9 y10 y11 y12 y13 y14 y15 y47 y48 y49 y50 y51 y52 y53 y54 y55 y56 y57 y58 y59 y60 y61 y62 y63 y64 y65 y66 y67 y68 y69 y70 y71 y72 y73 y74 y75 y76 y77 y78 y79 y80 y81 y82 y83 y84 y85 y86 y87 y88 y89 y90 y91 y92 y93 y94 y95 y96 y97 y98 y99 y100 y101 y102 y103 y104 y105 y106 y107 y108 y109 y110 y111 y112 y113 y114 y115 y116 y117 y118 y119 y120 y121 y122 y123 y124 y125 y126 y127 y128 y129 y130 y131 y132 y133 y134 y135 y136 y137 y138 y139 y140 y141 y142 y143 y144 y145 y146 y147 y148 y149 y150 y151 y152 y153 y154 y155 y156 y157 y158 y159 y160 y161 y162 y163 y164 y165 y166 y167 y168 y169 y170 y171 y172 y173 y174 y175 y176 y177 y178 y179 y180 y181 y182 y183 y184 y185 y186 y187 y188 y189 y190 y191 y192 y193 y194 y195 y196 y197 y198 y199 y200 y201 y202 y203 y204 y205 y206 y207 y208 y209 y210 y211 y212 y213 y214 y215 y216 y217 y218 y219 y220 hpost
            unfold ActPost at hpost
            replace hpost := Lib.hid hpost
            go_wp2_with fail
            go_meet
            exact ⟨by trivial, hpost.out⟩
          · have b1 : (okd == 1) = false := by simp [k1]
            by_cases k2 : okd = 2
            · have b2 : (okd == 2) = true := by simp [k2]
              clear k1 k2 hml hS hm0 e0 e1 e2
              refine act2 (k := k) hP1 ho hRl2 hbo hobF hAb h30 hocap hocm hol2 (by omega) hm hcB1 hcB2 b1 b2 _ _ _ _ _ _ _ _ _ _ _ _ _ _ _ _ _ _ _ _ _ _ _ _ _ _ _ _ _ _ _ _ _ _ _ _ _ _ _ _ _ _ _ _ _ _ _ _ _ _ _ _ _ _ _ _ _ _ _ _ _ _ _ _ _ _ _ _ _ _ _ _ _ _ _ _ _ _ _ _ _ _ _ _ _ _ _ _ _ _ _ _ _ _ _ _ _ _ _ _ _ _ _ _ _ _ _ _ _ _ _ _ _ _ _ _ _ _ _ _ _ _ _ _ _ _ _ _ _ _ _ _ _ _ _ _ _ _ _ _ _ _ _ _ _ _ _ _ _ _ _ _ _ _ _ _ _ _ _ _ _ _ _ _ _ _ _ _ _ _ _ _ _ _ _ _ _ _ _ _ _ _ _ _ _ _ _ _ _ _ _ _ _ _ _ _ _ _ _ _ _ _ _ _ _ _ _ _ _ _ _ _ _ _ _ _ _ _ _ _ _ _ _ _ _ _ _ _ _ _ _ _ _ _ _ _ _ _ _ _ _ _ _ _ _ _ _ _ _ _ _ _ _ _ _ _ _ _ _ _ _ _ _ _ _ _ _ _ _ _ ?_
              intro rv wx y8 y9 y10 y11 y12 y13 y14 y15 y47 y48 y49 y50 y51 y52 y53 y54 y55 y56 y57 y58 y59 y60 y61 y62 y63 y64 y65 y66 y67 y68 y69 y70 y71 y72 y73 y74 y75 y76 y77 y78 y79 y80 y81 y82 y83 y84 y85 y86 y87 y88 y89 y90 y91 y92 y93 y94 y95 y96 y97 y98 y99 y100 y101 y102 y103 y104 y105 y106 y107 y108 y109 y110 y111 y112 y113 y114 y115 y116 y117 y118 y119 y120 y121 y122 y123 y124 y125 y126 y127 y128 y129 y130 y131 y132 y133 y134 y135 y136 y137 y138 y139 y140 y141 y142 y143 y144 y145 y146 y147 y148 y149 y150 y151 y152 y153 y154 y155 y156 y157 y158 y159 y160 y161 y162 y163 y164 y165 y166 y167 y168 y169 y170 y171 y172 y173 y174 y175 y176 y177 y178 y179 y180 y181 y182 y183 y184 y185 y186 y187 y188 y189 y190 y191 y192 y193 y194 y195 y196 y197 y198 y199 y200 y201 y202 y203 y204 y205 y206 y207 y208 y209 y210 y211 y212 y213 y214 y215 y216 y217 y218 y219 y220 hpost
              unfold ActPost at hpost
              replace hpost := Lib.hid hpost
              go_wp2_with fail
              go_meet
              exact ⟨by trivial, hpost.out⟩
            · have b2 : (okd == 2) = false := by simp [k2]
              by_cases k3 : okd = 3
              · have b3 : (okd == 3) = true := by simp [k3]
                clear k1 k2 k3 hml hS hm0 e0 e1 e2
                refine act3 (k := k) hP1 ho hRl2 hbo hobF hAb h30 hocap hocm hol2 (by omega) hm hcB1 hcB2 b1 b2 b3 _ _ _ _ _ _ _ _ _ _ _ _ _ _ _ _ _ _ _ _ _ _ _ _ _ _ _ _ _ _ _ _ _ _ _ _ _ _ _ _ _ _ _ _ _ _ _ _ _ _ _ _ _ _ _ _ _ _ _ _ _ _ _ _ _ _ _ _ _ _ _ _ _ _ _ _ _ _ _ _ _ _ _ _ _ _ _ _ _ _ _ _ _ _ _ _ _ _ _ _ _ _ _ _ _ _ _ _ _ _ _ _ _ _ _ _ _ _ _ _ _ _ _ _ _ _ _ _ _ _ _ _ _ _ _ _ _ _ _ _ _ _ _ _ _ _ _ _ _ _ _ _ _ _ _ _ _ _ _ _ _ _ _ _ _ _ _ _ _ _ _ _ _ _ _ _ _ _ _ _ _ _ _ _ _ _ _ _ _ _ _ _ _ _ _ _ _ _ _ _ _ _ _ _ _ _ _ _ _ _ _ _ _ _ _ _ _ _ _ _ _ _ _ _ _ _ _ _ _ _ _ _ _ _ _ _ _ _ _ _ _ _ _ _ _ _ _ _ _ _ _ _ _ _ _ _ _ _ _ _ _ _ _ _ _ _ _ _ _ _ ?_
                intro rv wx y8 y9 y10 y11 y12 y13 y14 y15 y47 y48 y49 y50 y51 y52 y53 y54 y55 y56 y57 y58 y59 y60 y61 y62 y63 y64 y65 y66 y67 y68 y69 y70 y71 y72 y73 y74 y75 y76 y77 y78 y79 y80 y81 y82 y83 y84 y85 y86 y87 y88 y89 y90 y91 y92 y93 y94 y95 y96 y97 y98 y99 y100 y101 y102 y103 y104 y105 y106 y107 y108 y109 y110 y111 y112 y113 y114 y115 y116 y117 y118 y119 y120 y121 y122 y123 y124 y125 y126 y127 y128 y129 y130 y131 y132 y133 y134 y135 y136 y137 y138 y139 y140 y141 y142 y143 y144 y145 y146 y147 y148 y149 y150 y151 y152 y153 y154 y155 y156 y157 y158 y159 y160 y161 y162 y163 y164 y165 y166 y167 y168 y169 y170 y171 y172 y173 y174 y175 y176 y177 y178 y179 y180 y181 y182 y183 y184 y185 y186 y187 y188 y189 y190 y191 y192 y193 y194 y195 y196 y197 y198 y199 y200 y201 y202 y203 y204 y205 y206 y207 y208 y209 y210 y211 y212 y213 y214 y215 y216 y217 y218 y219 y220 hpost
                unfold ActPost at hpost
                replace hpost := Lib.hid hpost
                go_wp2_with fail
                go_meet
                exact ⟨by trivial, hpost.out⟩
              · have b3 : (okd == 3) = false := by simp [k3]
                clear k1 k2 k3 hml hS hm0 e0 e1 e2
                refine act4 (k := k) hP1 ho hRl2 hbo hobF hAb h30 hocap hocm hol2 (by omega) hm hcB1 hcB2 b1 b2 b3 _ _ _ _ _ _ _ _ _ _ _ _ _ _ _ _ _ _ _ _ _ _ _ _ _ _ _ _ _ _ _ _ _ _ _ _ _ _ _ _ _ _ _ _ _ _ _ _ _ _ _ _ _ _ _ _ _ _ _ _ _ _ _ _ _ _ _ _ _ _ _ _ _ _ _ _ _ _ _ _ _ _ _ _ _ _ _ _ _ _ _ _ _ _ _ _ _ _ _ _ _ _ _ _ _ _ _ _ _ _ _ _ _ _ _ _ _ _ _ _ _ _ _ _ _ _ _ _ _ _ _ _ _ _ _ _ _ _ _ _ _ _ _ _ _ _ _ _ _ _ _ _ _ _ _ _ _ _ _ _ _ _ _ _ _ _ _ _ _ _ _ _ _ _ _ _ _ _ _ _ _ _ _ _ _ _ _ _ _ _ _ _ _ _ _ _ _ _ _ _ _ _ _ _ _ _ _ _ _ _ _ _ _ _ _ _ _ _ _ _ _ _ _ _ _ _ _ _ _ _ _ _ _ _ _ _ _ _ _ _ _ _ _ _ _ _ _ _ _ _ _ _ _ _ _ _ _ _ _ _ _ _ _ _ _ _ _ _ _ _ ?_
                intro rv wx y8 y9 y10 y11 y12 y13 y14 y15 y47 y48 y49 y50 y51 y52 y53 y54 y55 y56 y57 y58 y59 y60 y61 y62 y63 y64 y65 y66 y67 y68 y69 y70 y71 y72 y73 y74 y75 y76 y77 y78 y79 y80 y81 y82 y83 y84 y85 y86 y87 y88 y89 y90 y91 y92 y93 y94 y95 y96 y97 y98 y99 y100 y101 y102 y103 y104 y105 y106 y107 y108 y109 y110 y111 y112 y113 y114 y115 y116 y117 y118 y119 y120 y121 y122 y123 y124 y125 y126 y127 y128 y129 y130 y131 y132 y133 y134 y135 y136 y137 y138 y139 y140 y141 y142 y143 y144 y145 y146 y147 y148 y149 y150 y151 y152 y153 y154 y155 y156 y157 y158 y159 y160 y161 y162 y163 y164 y165 y166 y167 y168 y169 y170 y171 y172 y173 y174 y175 y176 y177 y178 y179 y180 y181 y182 y183 y184 y185 y186 y187 y188 y189 y190 y191 y192 y193 y194 y195 y196 y197 y198 y199 y200 y201 y202 y203 y204 y205 y206 y207 y208 y209 y210 y211 y212 y213 y214 y215 y216 y217 y218 y219 y220 hpost
                unfold ActPost at hpost
                replace hpost := Lib.hid hpost
                go_wp2_with fail
                go_meet
                exact ⟨by trivial, hpost.out⟩
        case rest =>
          obtain ⟨rfl, S', m', F', FR', hm', hP'⟩ := hcut
          clear hP1 hRl2 hm0 hm hml hS hcB1 hcB2 ho hbo
          obtain ⟨FR2, hP'', hRl'⟩ := hP'.tight
          clear hP'
          have hP' := hP''
          clear hP''
          have hS' := hP'.len
          have hml' : (S'.map item).length = S'.length := by simp
          obtain ⟨B', cB', rfl, hcB1', hcB2', -⟩ := id hP'.rs
          rw [hml'] at hP' hcB1' ⊢
          unfold maxLen at hcB2'
          have hall := ag_all hP'.ag hP'.len
          have hlt' := hP'.ag.lt
          have hfar' := hP'.chg.size
          have hml2 := Lib.hid hml'
          clear hml'
          go_wp2_with fail
          refine hall.mono ?_
          rintro e w1 ⟨v1, FO1, rfl, ho1, hO1, hc1⟩
          have hP2 := hP'.quiet hc1
          have hall2 := ag_all hP2.ag hP2.len
          dsimp only
          go_wp2_with fail
          refine hall2.mono ?_
          rintro e w2 ⟨v2, FO2, rfl, ho2, hO2, hc2⟩
          have hP3 := hP2.quiet hc2
          have ho1b := ho1.chg hc2 (by simp)
          have hO1lt := ho1.lt
          rcases Nat.eq_zero_or_pos S'.length with h0 | h0
          · have hS0 : S' = [] := List.eq_nil_of_length_eq_zero h0
            subst hS0
            obtain ⟨A1, c1, rfl, -⟩ := ho1b.nilv
            have hsame := l8_same ho2 hP3.rs (by omega)
            clear ho1 ho1b hall hall2
            dsimp only
            go_wp2_with fail
            refine hsame.mono ?_
            rintro e w4 ⟨rfl, hc4⟩
            have hP4 := hP3.quiet hc4
            have hln := ag_len hP4.ag
            dsimp only
            go_wp2_with (go_at_call 9; refine hln.mono ?_; rintro e w5 ⟨rfl, rfl⟩)
            go_roundw
            case measure => simp [intOf]; omega
            case rel => exact ⟨k + 1, [], m', F', FR2, by omega, by go_num, by omega, hP4⟩
          · obtain ⟨g, c1, rfl, rfl, q1, q2, x2, y2⟩ := ho1b.first h0
            unfold maxLen at q2
            have hgp : ∀ g', g' ∈ [g] → g' ∉ w0.heap.size :: F' := fun g' hg' h => by
              obtain rfl : g' = g := by simpa using hg'
              have := hO1 g' (by simp); have := hlt' g' h; omega
            have hgr : ∀ g', g' ∈ [g] → g' ∉ FR2 := fun g' hg' h => by
              obtain rfl : g' = g := by simpa using hg'
              have := hO1 g' (by simp); have := hRl' g' h; omega
            have hgw : ∀ g', g' ∈ [g] → w.heap.size ≤ g' := fun g' hg' => by
              obtain rfl : g' = g := by simpa using hg'
              have := hO1 g' (by simp); omega
            have hP3b := hP3.other ((Chg.refl [g] w2).setCell (p := ⟨g, 2, none⟩) (by simp) (.int .i64 (-5))) hgp hgr hgw
            have ho2b := ho2.chg ((Chg.refl [g] w2).setCell (p := ⟨g, 2, none⟩) (by simp) (.int .i64 (-5))) (fun g' hg' h => by
              obtain rfl : g' = g := by simpa using h
              have := hO2 g' hg'; have := hO1lt g' (by simp); omega)
            have hsame := l8_same ho2b hP3b.rs (by omega)
            clear ho1 ho1b hall hall2 hgp hgr hgw
            dsimp only
            go_wp2_with fail
            refine hsame.mono ?_
            rintro e w4 ⟨rfl, hc4⟩
            have hP4 := hP3b.quiet hc4
            have hln := ag_len hP4.ag
            dsimp only
            go_wp2_with (go_at_call 9; refine hln.mono ?_; rintro e w5 ⟨rfl, rfl⟩)
            go_roundw
            case measure => simp [intOf]; omega
            case rel => exact ⟨k + 1, S', m', F', FR2, by omega, by go_num, by omega, hP4⟩
      · go_wp2_with fail
        go_ret
        exact ⟨by trivial, hP.chg.alloc _⟩
    · obtain rfl : k = n := by omega
      go_wp2_with (first | (go_at_call 8; refine (no_next _).mono ?_; rintro e w1 ⟨rfl, hc1⟩) | (go_at_call 7; refine (no_put _ _ _ _).mono ?_; rintro e w2 ⟨rfl, rfl⟩) | (go_at_call 12; refine (no_due _ _).mono ?_; rintro e w3 ⟨rfl, rfl⟩) | (go_at_call 13; refine (no_take _ _).mono ?_; rintro e w4 ⟨rfl, rfl⟩) | (go_at_call 9; refine (no_len _).mono ?_; rintro e w5 ⟨rfl, rfl⟩) | (go_at_call 14; refine (no_all _).mono ?_; rintro e w6 ⟨rfl, rfl⟩))
      go_ret
      exact ⟨by trivial, ((hP.chg.trans' hc1).alloc _).alloc _⟩
end Go.Proofs.Ytkpegffoebmhmaa
