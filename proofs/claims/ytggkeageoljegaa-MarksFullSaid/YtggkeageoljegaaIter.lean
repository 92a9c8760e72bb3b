/-
  DERIVED: THE SHELF's CONTRACTS AT THIS DUMP, IN PLAIN WORDS (tools/lay-plain.mjs out of 'TryIter.lean', which tools/lay-shelf.mjs wrote): THE SAME DECLARATIONS UNDER THE SAME NAMES: 'import', 'namespace', 'open', 'def', 'theorem' AND NOTHING ELSE: no command of the shelf's: FOR A HAND-IN. Each laying: the table of numbers ('.._ren') and one theorem, a field a fact of the dump's own or the kernel's comparison; each contract: ONE APPLICATION.
-/
import Derived.Shelf.SlIter.Nil
import Derived.Shelf.SortM.Plain
import Derived.Shelf.SortM.SortNone
import Derived.Ground.GgzProg
import Derived.Ground.SlgmProg
import Derived.Test.YtggkeageoljegaaProg
namespace Go.Proofs
open Go.Shelf
def Try.keys13_ren : Go.Shelf.Ren := ⟨fun | 7 => 13 | 10 => 18 | n => n, fun | 23 => 24 | 26 => 9 | 3 => 3 | 28 => 41 | 0 => 0 | 27 => 40 | 33 => 37 | 4 => 4 | n => n, fun | n => n⟩
theorem Try.keys13 : Go.Proofs.SlLaysZ.n7 Try.prog Try.keys13_ren := {
  mixed := by kernel_rfl
  f7 := ⟨Try.f13.name, by decide, Try.func13.trans (congrArg some (by kernel_rfl))⟩
  f10 := ⟨Try.f18.name, by decide, Try.func18.trans (congrArg some (by kernel_rfl))⟩
  t0 := Try.underlying0
  a0 := Try.isAgg0
  z0 := Try.sizeOf0
  v0 := Try.zeroValue0
  t4 := Try.underlying4
  a4 := Try.isAgg4
  z4 := Try.sizeOf4
  v4 := Try.zeroValue4
  t23 := Try.underlying24
  a23 := Try.isAgg24
  z23 := Try.sizeOf24
  v23 := Try.zeroValue24
  t26 := Try.underlying9
  a26 := Try.isAgg9
  z26 := Try.sizeOf9
  v26 := Try.zeroValue9
  t27 := Try.underlying40
  a27 := Try.isAgg40
  z27 := Try.sizeOf40
  v27 := Try.zeroValue40
  t28 := Try.underlying41
  a28 := Try.isAgg41
  z28 := Try.sizeOf41
  v28 := Try.zeroValue41
  t33 := Try.underlying37
  a33 := Try.isAgg37
  z33 := Try.sizeOf37
  v33 := Try.zeroValue37 }
def Try.sorted12_ren : Go.Shelf.Ren := ⟨fun | 6 => 12 | 8 => 16 | 9 => 17 | 11 => 20 | 13 => 22 | 12 => 21 | 23 => 32 | 24 => 33 | 14 => 23 | 15 => 24 | 16 => 25 | 17 => 26 | 18 => 27 | 19 => 28 | 20 => 29 | 21 => 30 | 22 => 31 | 25 => 34 | 26 => 35 | 27 => 36 | 28 => 37 | 29 => 38 | 30 => 39 | 31 => 40 | n => n, fun | 26 => 9 | 28 => 41 | 24 => 30 | 0 => 0 | 3 => 3 | 37 => 49 | 48 => 60 | 50 => 62 | 4 => 4 | 40 => 53 | 39 => 52 | 45 => 35 | 5 => 5 | 9 => 9 | 51 => 63 | 55 => 67 | 57 => 69 | 58 => 70 | 33 => 37 | n => n, fun | n => n⟩
theorem Try.sorted12 : Go.Proofs.SlLaysZ.n6 Try.prog Try.sorted12_ren := {
  mixed := by kernel_rfl
  f6 := ⟨Try.f12.name, by decide, Try.func12.trans (congrArg some (by kernel_rfl))⟩
  f8 := ⟨Try.f16.name, by decide, Try.func16.trans (congrArg some (by kernel_rfl))⟩
  f11 := ⟨Try.f20.name, by decide, Try.func20.trans (congrArg some (by kernel_rfl))⟩
  t0 := Try.underlying0
  a0 := Try.isAgg0
  z0 := Try.sizeOf0
  v0 := Try.zeroValue0
  t24 := Try.underlying30
  a24 := Try.isAgg30
  z24 := Try.sizeOf30
  v24 := Try.zeroValue30
  t26 := Try.underlying9
  a26 := Try.isAgg9
  z26 := Try.sizeOf9
  v26 := Try.zeroValue9
  t28 := Try.underlying41
  a28 := Try.isAgg41
  z28 := Try.sizeOf41
  v28 := Try.zeroValue41
  i26 := by kernel_rfl }
def Try.sort17_ren : Go.Shelf.Ren := ⟨fun | 6 => 17 | 8 => 22 | 9 => 21 | 19 => 32 | 20 => 33 | 21 => 23 | 22 => 24 | 23 => 25 | 24 => 26 | 25 => 27 | 26 => 28 | 27 => 29 | 28 => 30 | 29 => 31 | 36 => 34 | 31 => 35 | 32 => 36 | 37 => 37 | 38 => 38 | 39 => 39 | 41 => 40 | n => n, fun | 27 => 30 | 29 => 9 | 3 => 3 | 32 => 49 | 26 => 30 | 0 => 0 | 44 => 60 | 46 => 62 | 4 => 4 | 36 => 53 | 35 => 52 | 41 => 35 | 5 => 5 | 9 => 9 | 53 => 63 | 57 => 67 | 63 => 69 | 64 => 70 | n => n, fun | n => n⟩
theorem Try.sort17 : Go.Proofs.SlLaysM.n6 Try.prog Try.sort17_ren := {
  mixed := by kernel_rfl
  f6 := ⟨Try.f17.name, by decide, Try.func17.trans (congrArg some (by kernel_rfl))⟩
  f8 := Try.func22.trans (congrArg some (by kernel_rfl))
  f9 := ⟨Try.f21.name, by decide, Try.func21.trans (congrArg some (by kernel_rfl))⟩
  f19 := Try.func32.trans (congrArg some (by kernel_rfl))
  f20 := Try.func33.trans (congrArg some (by kernel_rfl))
  f21 := ⟨Try.f23.name, by decide, Try.func23.trans (congrArg some (by kernel_rfl))⟩
  f22 := ⟨Try.f24.name, by decide, Try.func24.trans (congrArg some (by kernel_rfl))⟩
  f23 := ⟨Try.f25.name, by decide, Try.func25.trans (congrArg some (by kernel_rfl))⟩
  f24 := ⟨Try.f26.name, by decide, Try.func26.trans (congrArg some (by kernel_rfl))⟩
  f25 := ⟨Try.f27.name, by decide, Try.func27.trans (congrArg some (by kernel_rfl))⟩
  f26 := ⟨Try.f28.name, by decide, Try.func28.trans (congrArg some (by kernel_rfl))⟩
  f27 := ⟨Try.f29.name, by decide, Try.func29.trans (congrArg some (by kernel_rfl))⟩
  f28 := ⟨Try.f30.name, by decide, Try.func30.trans (congrArg some (by kernel_rfl))⟩
  f29 := ⟨Try.f31.name, by decide, Try.func31.trans (congrArg some (by kernel_rfl))⟩
  f31 := Try.func35.trans (congrArg some (by kernel_rfl))
  f32 := Try.func36.trans (congrArg some (by kernel_rfl))
  f36 := ⟨Try.f34.name, by decide, Try.func34.trans (congrArg some (by kernel_rfl))⟩
  f37 := ⟨Try.f37.name, by decide, Try.func37.trans (congrArg some (by kernel_rfl))⟩
  f38 := ⟨Try.f38.name, by decide, Try.func38.trans (congrArg some (by kernel_rfl))⟩
  f39 := ⟨Try.f39.name, by decide, Try.func39.trans (congrArg some (by kernel_rfl))⟩
  f41 := ⟨Try.f40.name, by decide, Try.func40.trans (congrArg some (by kernel_rfl))⟩
  t0 := Try.underlying0
  a0 := Try.isAgg0
  z0 := Try.sizeOf0
  v0 := Try.zeroValue0
  t3 := Try.underlying3
  a3 := Try.isAgg3
  z3 := Try.sizeOf3
  v3 := Try.zeroValue3
  t4 := Try.underlying4
  a4 := Try.isAgg4
  z4 := Try.sizeOf4
  v4 := Try.zeroValue4
  t5 := Try.underlying5
  a5 := Try.isAgg5
  z5 := Try.sizeOf5
  v5 := Try.zeroValue5
  t9 := Try.underlying9
  a9 := Try.isAgg9
  z9 := Try.sizeOf9
  v9 := Try.zeroValue9
  t26 := Try.underlying30
  a26 := Try.isAgg30
  z26 := Try.sizeOf30
  v26 := Try.zeroValue30
  t27 := Try.underlying30
  a27 := Try.isAgg30
  z27 := Try.sizeOf30
  v27 := Try.zeroValue30
  t29 := Try.underlying9
  a29 := Try.isAgg9
  z29 := Try.sizeOf9
  v29 := Try.zeroValue9
  t32 := Try.underlying49
  a32 := Try.isAgg49
  z32 := Try.sizeOf49
  v32 := Try.zeroValue49
  t35 := Try.underlying52
  a35 := Try.isAgg52
  z35 := Try.sizeOf52
  v35 := Try.zeroValue52
  t36 := Try.underlying53
  a36 := Try.isAgg53
  z36 := Try.sizeOf53
  v36 := Try.zeroValue53
  t41 := Try.underlying35
  a41 := Try.isAgg35
  z41 := Try.sizeOf35
  v41 := Try.zeroValue35
  t44 := Try.underlying60
  a44 := Try.isAgg60
  z44 := Try.sizeOf60
  v44 := Try.zeroValue60
  t46 := Try.underlying62
  a46 := Try.isAgg62
  z46 := Try.sizeOf62
  v46 := Try.zeroValue62
  t53 := Try.underlying63
  a53 := Try.isAgg63
  z53 := Try.sizeOf63
  v53 := Try.zeroValue63
  t57 := Try.underlying67
  a57 := Try.isAgg67
  z57 := Try.sizeOf67
  v57 := Try.zeroValue67
  t63 := Try.underlying69
  a63 := Try.isAgg69
  z63 := Try.sizeOf69
  v63 := Try.zeroValue69
  t64 := Try.underlying70
  a64 := Try.isAgg70
  z64 := Try.sizeOf70
  v64 := Try.zeroValue70 }
open Go.RowKit Go.Maps Go.Sort in
/-- slices.Sort's two contracts at this dump, at the fence that asks nothing. -/
theorem Try.sorts12 (m : Nat) : AnyZ.SortsIn Try.prog Try.sorted12_ren Fence.wide m :=
  ⟨fun blk off cap ss W hH hblk hsz => callsIn_wide.2 (AnyM.slices_Sort_string Try.sort17 blk off cap ss W hH hblk hsz),
   fun p cap W => callsIn_wide.2 (AnyM.slices_Sort_string_none Try.sort17 p cap W)⟩

open Go.RowKit Go.Maps Go.Sort in
/-- **maps.Keys[map[string]int,string,int], at whatever map, the nil one too:** a function value over ONE NEW BLOCK, which holds the map. -/
theorem Try.maps_Keys_13 (mb : Option Nat) (W : World) : CallsIn Fence.wide 5 Try.prog 13 #[.map mb] W fun e w' => e = .returned (.func (.func 18) #[] #[.pointer (some ⟨W.heap.size, 0, none⟩)]) ∧ w' = W.alloc (.cells #[.map mb] 24) :=
  AnyZ.keys_in Try.keys13 Fence.wide 5 trivial rfl mb W

open Go.RowKit Go.Maps Go.Sort in
/-- **slices.Sorted[string] AT WHAT maps.Keys[map[string]int,string,int] HANDED BACK FOR A MAP THAT IS NOT nil** ('w': the world AHEAD of maps.Keys' call): A NEW SLICE THAT HOLDS THE MAP's KEYS, SORTED; nil just where it has none; nothing that lay before has turned. -/
theorem Try.slices_Sorted_keys_12_13 {H : Type} (b nn : Nat) (D0 : DataW H) (R : Value → Option (DataW H × List MemPlace)) (w : World) (hown : w.ownsMap Try.prog 9 R b nn D0) (hmax : Maps.size D0 ≤ maxLen) (hbytes : Maps.size D0 * 16 ≤ 140737488355328) :
    CallsIn Fence.wide 5 Try.prog 12 #[.func (.func 18) #[] #[.pointer (some ⟨w.heap.size, 0, none⟩)]] (w.alloc (.cells #[.map (some b)] 24)) fun e w' => ∃ (v : Value) (ss : List (List UInt8)), e = .returned v ∧ ss.Perm (strKeys D0) ∧
      w'.ownsRow (w.alloc (.cells #[.map (some b)] 24)).heap.size 9 1 v ss.length ((ss.mergeSort (fun x y => decide (x ≤ y))).map encStr) ∧ (v = .slice none 0 0 ↔ ss = []) ∧ Below (w.alloc (.cells #[.map (some b)] 24)).heap.size (w.alloc (.cells #[.map (some b)] 24)) w' := by
  have hbl := hown.lt
  have hseq : SeqGives Fence.wide 2 Try.prog 18 #[.pointer (some ⟨w.heap.size, 0, none⟩)] encStr (fun ss => ss.Perm (strKeys D0)) (Maps.size D0) (w.alloc (.cells #[.map (some b)] 24)) :=
    AnyZ.keys_gives (ρ := Try.keys13_ren) { Try.keys13 with } Fence.wide _ trivial rfl (by omega) w.heap.size b nn D0 _ (by simp) (by simp) (by
      obtain ⟨es, clock, hb, Ft, hs, hD⟩ := hown
      exact ⟨es, clock, (Below.heap_alloc _ _ b hbl).trans hb, Ft, hs, hD⟩)
  exact AnyZ.sorted_in Try.sorted12 Fence.wide 5 trivial trivial trivial trivial rfl (by omega) (Try.sorts12 _) (enters_of Try.func17 (by kernel_rfl) rfl) 18 #[.pointer (some ⟨w.heap.size, 0, none⟩)] trivial (enters_of Try.func18 (by kernel_rfl) rfl) _ _ hmax hbytes _ hseq

open Go.RowKit Go.Maps Go.Sort in
/-- **.. AND FOR THE nil MAP: nil.** -/
theorem Try.slices_Sorted_keys_nil_12_13 (w : World) :
    CallsIn Fence.wide 5 Try.prog 12 #[.func (.func 18) #[] #[.pointer (some ⟨w.heap.size, 0, none⟩)]] (w.alloc (.cells #[.map none] 24)) fun e w' => ∃ (v : Value) (ss : List (List UInt8)), e = .returned v ∧ ss = [] ∧
      w'.ownsRow (w.alloc (.cells #[.map none] 24)).heap.size 9 1 v ss.length ((ss.mergeSort (fun x y => decide (x ≤ y))).map encStr) ∧ (v = .slice none 0 0 ↔ ss = []) ∧ Below (w.alloc (.cells #[.map none] 24)).heap.size (w.alloc (.cells #[.map none] 24)) w' := by
  have hseq : SeqGives Fence.wide 2 Try.prog 18 #[.pointer (some ⟨w.heap.size, 0, none⟩)] encStr (fun ss : List (List UInt8) => ss = []) 0 (w.alloc (.cells #[.map none] 24)) :=
    AnyZ.keys_gives_nil (ρ := Try.keys13_ren) { Try.keys13 with } Fence.wide _ trivial rfl w.heap.size _ (by simp) (by simp)
  exact AnyZ.sorted_in Try.sorted12 Fence.wide 5 trivial trivial trivial trivial rfl (by omega) (Try.sorts12 _) (enters_of Try.func17 (by kernel_rfl) rfl) 18 #[.pointer (some ⟨w.heap.size, 0, none⟩)] trivial (enters_of Try.func18 (by kernel_rfl) rfl) _ 0 (Nat.zero_le _) (by omega) _ hseq

end Go.Proofs
