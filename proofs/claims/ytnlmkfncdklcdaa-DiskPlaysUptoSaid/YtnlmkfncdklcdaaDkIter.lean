/-
  The library's contracts of the sorted keys of a map, laid at this program (printed by lay11.py with the kit's own programs).
-/
import Derived.Shelf.SlIter.Nil
import Derived.Shelf.SortM.Plain
import Derived.Shelf.SortM.SortNone
import Derived.Ground.GgzProg
import Derived.Ground.SlgmProg
import Derived.Test.YtnlmkfncdklcdaaProg
namespace Go.Proofs.Ytnlmkfncdklcdaa
open Go.RowKit Go.Maps Go.Sort Go.Shelf
def Try.keys38_ren : Go.Shelf.Ren := ⟨fun | 7 => 38 | 10 => 43 | n => n, fun | 23 => 65 | 26 => 9 | 3 => 69 | 28 => 80 | 0 => 0 | 27 => 79 | 33 => 23 | 4 => 4 | n => n, fun | n => n⟩
theorem Try.keys38 : Go.Proofs.SlLaysZ.n7 Try.prog Try.keys38_ren := {
  mixed := by kernel_rfl
  f7 := ⟨Try.f38.name, by decide, Try.func38.trans (congrArg some (by kernel_rfl))⟩
  f10 := ⟨Try.f43.name, by decide, Try.func43.trans (congrArg some (by kernel_rfl))⟩
  t0 := Try.underlying0
  a0 := Try.isAgg0
  z0 := Try.sizeOf0
  v0 := Try.zeroValue0
  t4 := Try.underlying4
  a4 := Try.isAgg4
  z4 := Try.sizeOf4
  v4 := Try.zeroValue4
  t23 := Try.underlying65
  a23 := Try.isAgg65
  z23 := Try.sizeOf65
  v23 := Try.zeroValue65
  t26 := Try.underlying9
  a26 := Try.isAgg9
  z26 := Try.sizeOf9
  v26 := Try.zeroValue9
  t27 := Try.underlying79
  a27 := Try.isAgg79
  z27 := Try.sizeOf79
  v27 := Try.zeroValue79
  t28 := Try.underlying80
  a28 := Try.isAgg80
  z28 := Try.sizeOf80
  v28 := Try.zeroValue80
  t33 := Try.underlying23
  a33 := Try.isAgg23
  z33 := Try.sizeOf23
  v33 := Try.zeroValue23 }
def Try.sorted37_ren : Go.Shelf.Ren := ⟨fun | 6 => 37 | 8 => 41 | 9 => 42 | 11 => 46 | 13 => 48 | 12 => 47 | 23 => 59 | 24 => 60 | 14 => 50 | 15 => 51 | 16 => 52 | 17 => 53 | 18 => 54 | 19 => 55 | 20 => 56 | 21 => 57 | 22 => 58 | 25 => 61 | 26 => 62 | 27 => 63 | 28 => 64 | 29 => 65 | 30 => 66 | 31 => 67 | n => n, fun | 26 => 9 | 28 => 80 | 24 => 55 | 0 => 0 | 3 => 3 | 37 => 91 | 48 => 103 | 50 => 105 | 4 => 4 | 40 => 95 | 39 => 94 | 45 => 100 | 5 => 5 | 9 => 9 | 51 => 106 | 55 => 110 | 57 => 112 | 58 => 113 | 33 => 23 | n => n, fun | n => n⟩
theorem Try.sorted37 : Go.Proofs.SlLaysZ.n6 Try.prog Try.sorted37_ren := {
  mixed := by kernel_rfl
  f6 := ⟨Try.f37.name, by decide, Try.func37.trans (congrArg some (by kernel_rfl))⟩
  f8 := ⟨Try.f41.name, by decide, Try.func41.trans (congrArg some (by kernel_rfl))⟩
  f11 := ⟨Try.f46.name, by decide, Try.func46.trans (congrArg some (by kernel_rfl))⟩
  t0 := Try.underlying0
  a0 := Try.isAgg0
  z0 := Try.sizeOf0
  v0 := Try.zeroValue0
  t24 := Try.underlying55
  a24 := Try.isAgg55
  z24 := Try.sizeOf55
  v24 := Try.zeroValue55
  t26 := Try.underlying9
  a26 := Try.isAgg9
  z26 := Try.sizeOf9
  v26 := Try.zeroValue9
  t28 := Try.underlying80
  a28 := Try.isAgg80
  z28 := Try.sizeOf80
  v28 := Try.zeroValue80
  i26 := by kernel_rfl }
def Try.sort42_ren : Go.Shelf.Ren := ⟨fun | 6 => 42 | 8 => 48 | 9 => 47 | 19 => 59 | 20 => 60 | 21 => 50 | 22 => 51 | 23 => 52 | 24 => 53 | 25 => 54 | 26 => 55 | 27 => 56 | 28 => 57 | 29 => 58 | 36 => 61 | 31 => 62 | 32 => 63 | 37 => 64 | 38 => 65 | 39 => 66 | 41 => 67 | n => n, fun | 27 => 55 | 29 => 9 | 3 => 3 | 32 => 91 | 26 => 55 | 0 => 0 | 44 => 103 | 46 => 105 | 4 => 4 | 36 => 95 | 35 => 94 | 41 => 100 | 5 => 5 | 9 => 9 | 53 => 106 | 57 => 110 | 63 => 112 | 64 => 113 | n => n, fun | n => n⟩
theorem Try.sort42 : Go.Proofs.SlLaysM.n6 Try.prog Try.sort42_ren := {
  mixed := by kernel_rfl
  f6 := ⟨Try.f42.name, by decide, Try.func42.trans (congrArg some (by kernel_rfl))⟩
  f8 := Try.func48.trans (congrArg some (by kernel_rfl))
  f9 := ⟨Try.f47.name, by decide, Try.func47.trans (congrArg some (by kernel_rfl))⟩
  f19 := Try.func59.trans (congrArg some (by kernel_rfl))
  f20 := Try.func60.trans (congrArg some (by kernel_rfl))
  f21 := ⟨Try.f50.name, by decide, Try.func50.trans (congrArg some (by kernel_rfl))⟩
  f22 := ⟨Try.f51.name, by decide, Try.func51.trans (congrArg some (by kernel_rfl))⟩
  f23 := ⟨Try.f52.name, by decide, Try.func52.trans (congrArg some (by kernel_rfl))⟩
  f24 := ⟨Try.f53.name, by decide, Try.func53.trans (congrArg some (by kernel_rfl))⟩
  f25 := ⟨Try.f54.name, by decide, Try.func54.trans (congrArg some (by kernel_rfl))⟩
  f26 := ⟨Try.f55.name, by decide, Try.func55.trans (congrArg some (by kernel_rfl))⟩
  f27 := ⟨Try.f56.name, by decide, Try.func56.trans (congrArg some (by kernel_rfl))⟩
  f28 := ⟨Try.f57.name, by decide, Try.func57.trans (congrArg some (by kernel_rfl))⟩
  f29 := ⟨Try.f58.name, by decide, Try.func58.trans (congrArg some (by kernel_rfl))⟩
  f31 := Try.func62.trans (congrArg some (by kernel_rfl))
  f32 := Try.func63.trans (congrArg some (by kernel_rfl))
  f36 := ⟨Try.f61.name, by decide, Try.func61.trans (congrArg some (by kernel_rfl))⟩
  f37 := ⟨Try.f64.name, by decide, Try.func64.trans (congrArg some (by kernel_rfl))⟩
  f38 := ⟨Try.f65.name, by decide, Try.func65.trans (congrArg some (by kernel_rfl))⟩
  f39 := ⟨Try.f66.name, by decide, Try.func66.trans (congrArg some (by kernel_rfl))⟩
  f41 := ⟨Try.f67.name, by decide, Try.func67.trans (congrArg some (by kernel_rfl))⟩
  t0 := Try.underlying0
  a0 := Try.isAgg0
  z0 := Try.sizeOf0
  v0 := Try.zeroValue0
  t3 := Try.underlying3
  a3 := Try.isAgg3
  z3 := Try.sizeOf3
  v3 := Try.zeroValue3
  t4 := Try.underlying4
  a4 := Try.isAgg4
  z4 := Try.sizeOf4
  v4 := Try.zeroValue4
  t5 := Try.underlying5
  a5 := Try.isAgg5
  z5 := Try.sizeOf5
  v5 := Try.zeroValue5
  t9 := Try.underlying9
  a9 := Try.isAgg9
  z9 := Try.sizeOf9
  v9 := Try.zeroValue9
  t26 := Try.underlying55
  a26 := Try.isAgg55
  z26 := Try.sizeOf55
  v26 := Try.zeroValue55
  t27 := Try.underlying55
  a27 := Try.isAgg55
  z27 := Try.sizeOf55
  v27 := Try.zeroValue55
  t29 := Try.underlying9
  a29 := Try.isAgg9
  z29 := Try.sizeOf9
  v29 := Try.zeroValue9
  t32 := Try.underlying91
  a32 := Try.isAgg91
  z32 := Try.sizeOf91
  v32 := Try.zeroValue91
  t35 := Try.underlying94
  a35 := Try.isAgg94
  z35 := Try.sizeOf94
  v35 := Try.zeroValue94
  t36 := Try.underlying95
  a36 := Try.isAgg95
  z36 := Try.sizeOf95
  v36 := Try.zeroValue95
  t41 := Try.underlying100
  a41 := Try.isAgg100
  z41 := Try.sizeOf100
  v41 := Try.zeroValue100
  t44 := Try.underlying103
  a44 := Try.isAgg103
  z44 := Try.sizeOf103
  v44 := Try.zeroValue103
  t46 := Try.underlying105
  a46 := Try.isAgg105
  z46 := Try.sizeOf105
  v46 := Try.zeroValue105
  t53 := Try.underlying106
  a53 := Try.isAgg106
  z53 := Try.sizeOf106
  v53 := Try.zeroValue106
  t57 := Try.underlying110
  a57 := Try.isAgg110
  z57 := Try.sizeOf110
  v57 := Try.zeroValue110
  t63 := Try.underlying112
  a63 := Try.isAgg112
  z63 := Try.sizeOf112
  v63 := Try.zeroValue112
  t64 := Try.underlying113
  a64 := Try.isAgg113
  z64 := Try.sizeOf113
  v64 := Try.zeroValue113 }

/-- slices.Sort's two contracts at this dump, at the fence that asks nothing. -/
theorem Try.sorts37 (m : Nat) : AnyZ.SortsIn Try.prog Try.sorted37_ren Fence.wide m :=
  ⟨fun blk off cap ss W hH hblk hsz => callsIn_wide.2 (AnyM.slices_Sort_string Try.sort42 blk off cap ss W hH hblk hsz),
   fun p cap W => callsIn_wide.2 (AnyM.slices_Sort_string_none Try.sort42 p cap W)⟩

/-- **maps.Keys[map[string]*warren/disk.file,string,*warren/disk.file], at whatever map, the nil one too:** a function value over ONE NEW BLOCK, which holds the map. -/
theorem Try.maps_Keys_38 (mb : Option Nat) (W : World) : CallsIn Fence.wide 5 Try.prog 38 #[.map mb] W fun e w' => e = .returned (.func (.func 43) #[] #[.pointer (some ⟨W.heap.size, 0, none⟩)]) ∧ w' = W.alloc (.cells #[.map mb] 65) :=
  AnyZ.keys_in Try.keys38 Fence.wide 5 trivial rfl mb W

set_option maxHeartbeats 1000000 in
/-- **slices.Sorted[string] AT WHAT maps.Keys[map[string]*warren/disk.file,string,*warren/disk.file] HANDED BACK FOR A MAP THAT IS NOT nil** ('w': the world AHEAD of maps.Keys' call): A NEW SLICE THAT HOLDS THE MAP's KEYS, SORTED; nil just where it has none; nothing that lay before has turned. -/
theorem Try.slices_Sorted_keys_37_38 {H : Type} (b nn : Nat) (D0 : DataW H) (R : Value → Option (DataW H × List MemPlace)) (w : World) (hown : w.ownsMap Try.prog 9 R b nn D0) (hmax : Maps.size D0 ≤ maxLen) (hbytes : Maps.size D0 * 16 ≤ 140737488355328) :
    CallsIn Fence.wide 5 Try.prog 37 #[.func (.func 43) #[] #[.pointer (some ⟨w.heap.size, 0, none⟩)]] (w.alloc (.cells #[.map (some b)] 65)) fun e w' => ∃ (v : Value) (ss : List (List UInt8)), e = .returned v ∧ ss.Perm (strKeys D0) ∧
      w'.ownsRow (w.alloc (.cells #[.map (some b)] 65)).heap.size 9 1 v ss.length ((ss.mergeSort (fun x y => decide (x ≤ y))).map encStr) ∧ (v = .slice none 0 0 ↔ ss = []) ∧ Below (w.alloc (.cells #[.map (some b)] 65)).heap.size (w.alloc (.cells #[.map (some b)] 65)) w' := by
  have hbl := hown.lt
  have hseq : SeqGives Fence.wide 2 Try.prog 43 #[.pointer (some ⟨w.heap.size, 0, none⟩)] encStr (fun ss => ss.Perm (strKeys D0)) (Maps.size D0) (w.alloc (.cells #[.map (some b)] 65)) :=
    AnyZ.keys_gives (ρ := Try.keys38_ren) { Try.keys38 with } Fence.wide _ trivial rfl (by omega) w.heap.size b nn D0 _ (by simp) (by simp) (by
      obtain ⟨es, clock, hb, Ft, hs, hD⟩ := hown
      exact ⟨es, clock, (Below.heap_alloc _ _ b hbl).trans hb, Ft, hs, hD⟩)
  exact AnyZ.sorted_in Try.sorted37 Fence.wide 5 trivial trivial trivial trivial rfl (by omega) (Try.sorts37 _) (enters_of Try.func42 (by kernel_rfl) rfl) 43 #[.pointer (some ⟨w.heap.size, 0, none⟩)] trivial (enters_of Try.func43 (by kernel_rfl) rfl) _ _ hmax hbytes _ hseq

set_option maxHeartbeats 1000000 in
/-- **.. AND FOR THE nil MAP: nil.** -/
theorem Try.slices_Sorted_keys_nil_37_38 (w : World) :
    CallsIn Fence.wide 5 Try.prog 37 #[.func (.func 43) #[] #[.pointer (some ⟨w.heap.size, 0, none⟩)]] (w.alloc (.cells #[.map none] 65)) fun e w' => ∃ (v : Value) (ss : List (List UInt8)), e = .returned v ∧ ss = [] ∧
      w'.ownsRow (w.alloc (.cells #[.map none] 65)).heap.size 9 1 v ss.length ((ss.mergeSort (fun x y => decide (x ≤ y))).map encStr) ∧ (v = .slice none 0 0 ↔ ss = []) ∧ Below (w.alloc (.cells #[.map none] 65)).heap.size (w.alloc (.cells #[.map none] 65)) w' := by
  have hseq : SeqGives Fence.wide 2 Try.prog 43 #[.pointer (some ⟨w.heap.size, 0, none⟩)] encStr (fun ss : List (List UInt8) => ss = []) 0 (w.alloc (.cells #[.map none] 65)) :=
    AnyZ.keys_gives_nil (ρ := Try.keys38_ren) { Try.keys38 with } Fence.wide _ trivial rfl w.heap.size _ (by simp) (by simp)
  exact AnyZ.sorted_in Try.sorted37 Fence.wide 5 trivial trivial trivial trivial rfl (by omega) (Try.sorts37 _) (enters_of Try.func42 (by kernel_rfl) rfl) 43 #[.pointer (some ⟨w.heap.size, 0, none⟩)] trivial (enters_of Try.func43 (by kernel_rfl) rfl) _ 0 (Nat.zero_le _) (by omega) _ hseq

end Go.Proofs.Ytnlmkfncdklcdaa
