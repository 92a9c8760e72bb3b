/-
  DERIVED: THE SHELF's CONTRACTS AT THIS DUMP, IN PLAIN WORDS (tools/lay-plain.mjs out of 'TryIter.lean', which tools/lay-shelf.mjs wrote): THE SAME DECLARATIONS UNDER THE SAME NAMES: 'import', 'namespace', 'open', 'def', 'theorem' AND NOTHING ELSE: no command of the shelf's: FOR A HAND-IN. Each laying: the table of numbers ('.._ren') and one theorem, a field a fact of the dump's own or the kernel's comparison; each contract: ONE APPLICATION.
-/
import Derived.Shelf.SlIter.Nil
import Derived.Shelf.SortM.Plain
import Derived.Shelf.SortM.SortNone
import Derived.Ground.GgzProg
import Derived.Ground.SlgmProg
import Derived.Test.YtoimgacmbbkikaaProg
namespace Go.Proofs
open Go.Shelf
def Try.keys20_ren : Go.Shelf.Ren := ⟨fun | 7 => 20 | 10 => 24 | n => n, fun | 23 => 25 | 26 => 9 | 3 => 39 | 28 => 47 | 0 => 0 | 27 => 46 | 33 => 22 | 4 => 4 | n => n, fun | n => n⟩
theorem Try.keys20 : Go.Proofs.SlLaysZ.n7 Try.prog Try.keys20_ren := {
  mixed := by kernel_rfl
  f7 := ⟨Try.f20.name, by decide, Try.func20.trans (congrArg some (by kernel_rfl))⟩
  f10 := ⟨Try.f24.name, by decide, Try.func24.trans (congrArg some (by kernel_rfl))⟩
  t0 := Try.underlying0
  a0 := Try.isAgg0
  z0 := Try.sizeOf0
  v0 := Try.zeroValue0
  t4 := Try.underlying4
  a4 := Try.isAgg4
  z4 := Try.sizeOf4
  v4 := Try.zeroValue4
  t23 := Try.underlying25
  a23 := Try.isAgg25
  z23 := Try.sizeOf25
  v23 := Try.zeroValue25
  t26 := Try.underlying9
  a26 := Try.isAgg9
  z26 := Try.sizeOf9
  v26 := Try.zeroValue9
  t27 := Try.underlying46
  a27 := Try.isAgg46
  z27 := Try.sizeOf46
  v27 := Try.zeroValue46
  t28 := Try.underlying47
  a28 := Try.isAgg47
  z28 := Try.sizeOf47
  v28 := Try.zeroValue47
  t33 := Try.underlying22
  a33 := Try.isAgg22
  z33 := Try.sizeOf22
  v33 := Try.zeroValue22 }
def Try.sorted19_ren : Go.Shelf.Ren := ⟨fun | 6 => 19 | 8 => 22 | 9 => 23 | 11 => 25 | 13 => 27 | 12 => 26 | 23 => 37 | 24 => 38 | 14 => 28 | 15 => 29 | 16 => 30 | 17 => 31 | 18 => 32 | 19 => 33 | 20 => 34 | 21 => 35 | 22 => 36 | 25 => 39 | 26 => 40 | 27 => 41 | 28 => 42 | 29 => 43 | 30 => 44 | 31 => 45 | n => n, fun | 26 => 9 | 28 => 47 | 24 => 35 | 0 => 0 | 3 => 3 | 37 => 55 | 48 => 66 | 50 => 68 | 4 => 4 | 40 => 58 | 39 => 57 | 45 => 63 | 5 => 5 | 9 => 9 | 51 => 69 | 55 => 73 | 57 => 75 | 58 => 76 | 33 => 22 | n => n, fun | n => n⟩
theorem Try.sorted19 : Go.Proofs.SlLaysZ.n6 Try.prog Try.sorted19_ren := {
  mixed := by kernel_rfl
  f6 := ⟨Try.f19.name, by decide, Try.func19.trans (congrArg some (by kernel_rfl))⟩
  f8 := ⟨Try.f22.name, by decide, Try.func22.trans (congrArg some (by kernel_rfl))⟩
  f11 := ⟨Try.f25.name, by decide, Try.func25.trans (congrArg some (by kernel_rfl))⟩
  t0 := Try.underlying0
  a0 := Try.isAgg0
  z0 := Try.sizeOf0
  v0 := Try.zeroValue0
  t24 := Try.underlying35
  a24 := Try.isAgg35
  z24 := Try.sizeOf35
  v24 := Try.zeroValue35
  t26 := Try.underlying9
  a26 := Try.isAgg9
  z26 := Try.sizeOf9
  v26 := Try.zeroValue9
  t28 := Try.underlying47
  a28 := Try.isAgg47
  z28 := Try.sizeOf47
  v28 := Try.zeroValue47
  i26 := by kernel_rfl }
def Try.sort23_ren : Go.Shelf.Ren := ⟨fun | 6 => 23 | 8 => 27 | 9 => 26 | 19 => 37 | 20 => 38 | 21 => 28 | 22 => 29 | 23 => 30 | 24 => 31 | 25 => 32 | 26 => 33 | 27 => 34 | 28 => 35 | 29 => 36 | 36 => 39 | 31 => 40 | 32 => 41 | 37 => 42 | 38 => 43 | 39 => 44 | 41 => 45 | n => n, fun | 27 => 35 | 29 => 9 | 3 => 3 | 32 => 55 | 26 => 35 | 0 => 0 | 44 => 66 | 46 => 68 | 4 => 4 | 36 => 58 | 35 => 57 | 41 => 63 | 5 => 5 | 9 => 9 | 53 => 69 | 57 => 73 | 63 => 75 | 64 => 76 | n => n, fun | n => n⟩
theorem Try.sort23 : Go.Proofs.SlLaysM.n6 Try.prog Try.sort23_ren := {
  mixed := by kernel_rfl
  f6 := ⟨Try.f23.name, by decide, Try.func23.trans (congrArg some (by kernel_rfl))⟩
  f8 := Try.func27.trans (congrArg some (by kernel_rfl))
  f9 := ⟨Try.f26.name, by decide, Try.func26.trans (congrArg some (by kernel_rfl))⟩
  f19 := Try.func37.trans (congrArg some (by kernel_rfl))
  f20 := Try.func38.trans (congrArg some (by kernel_rfl))
  f21 := ⟨Try.f28.name, by decide, Try.func28.trans (congrArg some (by kernel_rfl))⟩
  f22 := ⟨Try.f29.name, by decide, Try.func29.trans (congrArg some (by kernel_rfl))⟩
  f23 := ⟨Try.f30.name, by decide, Try.func30.trans (congrArg some (by kernel_rfl))⟩
  f24 := ⟨Try.f31.name, by decide, Try.func31.trans (congrArg some (by kernel_rfl))⟩
  f25 := ⟨Try.f32.name, by decide, Try.func32.trans (congrArg some (by kernel_rfl))⟩
  f26 := ⟨Try.f33.name, by decide, Try.func33.trans (congrArg some (by kernel_rfl))⟩
  f27 := ⟨Try.f34.name, by decide, Try.func34.trans (congrArg some (by kernel_rfl))⟩
  f28 := ⟨Try.f35.name, by decide, Try.func35.trans (congrArg some (by kernel_rfl))⟩
  f29 := ⟨Try.f36.name, by decide, Try.func36.trans (congrArg some (by kernel_rfl))⟩
  f31 := Try.func40.trans (congrArg some (by kernel_rfl))
  f32 := Try.func41.trans (congrArg some (by kernel_rfl))
  f36 := ⟨Try.f39.name, by decide, Try.func39.trans (congrArg some (by kernel_rfl))⟩
  f37 := ⟨Try.f42.name, by decide, Try.func42.trans (congrArg some (by kernel_rfl))⟩
  f38 := ⟨Try.f43.name, by decide, Try.func43.trans (congrArg some (by kernel_rfl))⟩
  f39 := ⟨Try.f44.name, by decide, Try.func44.trans (congrArg some (by kernel_rfl))⟩
  f41 := ⟨Try.f45.name, by decide, Try.func45.trans (congrArg some (by kernel_rfl))⟩
  t0 := Try.underlying0
  a0 := Try.isAgg0
  z0 := Try.sizeOf0
  v0 := Try.zeroValue0
  t3 := Try.underlying3
  a3 := Try.isAgg3
  z3 := Try.sizeOf3
  v3 := Try.zeroValue3
  t4 := Try.underlying4
  a4 := Try.isAgg4
  z4 := Try.sizeOf4
  v4 := Try.zeroValue4
  t5 := Try.underlying5
  a5 := Try.isAgg5
  z5 := Try.sizeOf5
  v5 := Try.zeroValue5
  t9 := Try.underlying9
  a9 := Try.isAgg9
  z9 := Try.sizeOf9
  v9 := Try.zeroValue9
  t26 := Try.underlying35
  a26 := Try.isAgg35
  z26 := Try.sizeOf35
  v26 := Try.zeroValue35
  t27 := Try.underlying35
  a27 := Try.isAgg35
  z27 := Try.sizeOf35
  v27 := Try.zeroValue35
  t29 := Try.underlying9
  a29 := Try.isAgg9
  z29 := Try.sizeOf9
  v29 := Try.zeroValue9
  t32 := Try.underlying55
  a32 := Try.isAgg55
  z32 := Try.sizeOf55
  v32 := Try.zeroValue55
  t35 := Try.underlying57
  a35 := Try.isAgg57
  z35 := Try.sizeOf57
  v35 := Try.zeroValue57
  t36 := Try.underlying58
  a36 := Try.isAgg58
  z36 := Try.sizeOf58
  v36 := Try.zeroValue58
  t41 := Try.underlying63
  a41 := Try.isAgg63
  z41 := Try.sizeOf63
  v41 := Try.zeroValue63
  t44 := Try.underlying66
  a44 := Try.isAgg66
  z44 := Try.sizeOf66
  v44 := Try.zeroValue66
  t46 := Try.underlying68
  a46 := Try.isAgg68
  z46 := Try.sizeOf68
  v46 := Try.zeroValue68
  t53 := Try.underlying69
  a53 := Try.isAgg69
  z53 := Try.sizeOf69
  v53 := Try.zeroValue69
  t57 := Try.underlying73
  a57 := Try.isAgg73
  z57 := Try.sizeOf73
  v57 := Try.zeroValue73
  t63 := Try.underlying75
  a63 := Try.isAgg75
  z63 := Try.sizeOf75
  v63 := Try.zeroValue75
  t64 := Try.underlying76
  a64 := Try.isAgg76
  z64 := Try.sizeOf76
  v64 := Try.zeroValue76 }
open Go.RowKit Go.Maps Go.Sort in
/-- slices.Sort's two contracts at this dump, at the fence that asks nothing. -/
theorem Try.sorts19 (m : Nat) : AnyZ.SortsIn Try.prog Try.sorted19_ren Fence.wide m :=
  ⟨fun blk off cap ss W hH hblk hsz => callsIn_wide.2 (AnyM.slices_Sort_string Try.sort23 blk off cap ss W hH hblk hsz),
   fun p cap W => callsIn_wide.2 (AnyM.slices_Sort_string_none Try.sort23 p cap W)⟩

open Go.RowKit Go.Maps Go.Sort in
/-- **maps.Keys[map[string]variorum/role.set,string,variorum/role.set], at whatever map, the nil one too:** a function value over ONE NEW BLOCK, which holds the map. -/
theorem Try.maps_Keys_20 (mb : Option Nat) (W : World) : CallsIn Fence.wide 5 Try.prog 20 #[.map mb] W fun e w' => e = .returned (.func (.func 24) #[] #[.pointer (some ⟨W.heap.size, 0, none⟩)]) ∧ w' = W.alloc (.cells #[.map mb] 25) :=
  AnyZ.keys_in Try.keys20 Fence.wide 5 trivial rfl mb W

open Go.RowKit Go.Maps Go.Sort in
/-- **slices.Sorted[string] AT WHAT maps.Keys[map[string]variorum/role.set,string,variorum/role.set] HANDED BACK FOR A MAP THAT IS NOT nil** ('w': the world AHEAD of maps.Keys' call): A NEW SLICE THAT HOLDS THE MAP's KEYS, SORTED; nil just where it has none; nothing that lay before has turned. -/
theorem Try.slices_Sorted_keys_19_20 {H : Type} (b nn : Nat) (D0 : DataW H) (R : Value → Option (DataW H × List MemPlace)) (w : World) (hown : w.ownsMap Try.prog 9 R b nn D0) (hmax : Maps.size D0 ≤ maxLen) (hbytes : Maps.size D0 * 16 ≤ 140737488355328) :
    CallsIn Fence.wide 5 Try.prog 19 #[.func (.func 24) #[] #[.pointer (some ⟨w.heap.size, 0, none⟩)]] (w.alloc (.cells #[.map (some b)] 25)) fun e w' => ∃ (v : Value) (ss : List (List UInt8)), e = .returned v ∧ ss.Perm (strKeys D0) ∧
      w'.ownsRow (w.alloc (.cells #[.map (some b)] 25)).heap.size 9 1 v ss.length ((ss.mergeSort (fun x y => decide (x ≤ y))).map encStr) ∧ (v = .slice none 0 0 ↔ ss = []) ∧ Below (w.alloc (.cells #[.map (some b)] 25)).heap.size (w.alloc (.cells #[.map (some b)] 25)) w' := by
  have hbl := hown.lt
  have hseq : SeqGives Fence.wide 2 Try.prog 24 #[.pointer (some ⟨w.heap.size, 0, none⟩)] encStr (fun ss => ss.Perm (strKeys D0)) (Maps.size D0) (w.alloc (.cells #[.map (some b)] 25)) :=
    AnyZ.keys_gives (ρ := Try.keys20_ren) { Try.keys20 with } Fence.wide _ trivial rfl (by omega) w.heap.size b nn D0 _ (by simp) (by simp) (by
      obtain ⟨es, clock, hb, Ft, hs, hD⟩ := hown
      exact ⟨es, clock, (Below.heap_alloc _ _ b hbl).trans hb, Ft, hs, hD⟩)
  exact AnyZ.sorted_in Try.sorted19 Fence.wide 5 trivial trivial trivial trivial rfl (by omega) (Try.sorts19 _) (enters_of Try.func23 (by kernel_rfl) rfl) 24 #[.pointer (some ⟨w.heap.size, 0, none⟩)] trivial (enters_of Try.func24 (by kernel_rfl) rfl) _ _ hmax hbytes _ hseq

open Go.RowKit Go.Maps Go.Sort in
/-- **.. AND FOR THE nil MAP: nil.** -/
theorem Try.slices_Sorted_keys_nil_19_20 (w : World) :
    CallsIn Fence.wide 5 Try.prog 19 #[.func (.func 24) #[] #[.pointer (some ⟨w.heap.size, 0, none⟩)]] (w.alloc (.cells #[.map none] 25)) fun e w' => ∃ (v : Value) (ss : List (List UInt8)), e = .returned v ∧ ss = [] ∧
      w'.ownsRow (w.alloc (.cells #[.map none] 25)).heap.size 9 1 v ss.length ((ss.mergeSort (fun x y => decide (x ≤ y))).map encStr) ∧ (v = .slice none 0 0 ↔ ss = []) ∧ Below (w.alloc (.cells #[.map none] 25)).heap.size (w.alloc (.cells #[.map none] 25)) w' := by
  have hseq : SeqGives Fence.wide 2 Try.prog 24 #[.pointer (some ⟨w.heap.size, 0, none⟩)] encStr (fun ss : List (List UInt8) => ss = []) 0 (w.alloc (.cells #[.map none] 25)) :=
    AnyZ.keys_gives_nil (ρ := Try.keys20_ren) { Try.keys20 with } Fence.wide _ trivial rfl w.heap.size _ (by simp) (by simp)
  exact AnyZ.sorted_in Try.sorted19 Fence.wide 5 trivial trivial trivial trivial rfl (by omega) (Try.sorts19 _) (enters_of Try.func23 (by kernel_rfl) rfl) 24 #[.pointer (some ⟨w.heap.size, 0, none⟩)] trivial (enters_of Try.func24 (by kernel_rfl) rfl) _ 0 (Nat.zero_le _) (by omega) _ hseq

end Go.Proofs
