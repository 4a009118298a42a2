/-
  The library's contracts of the sorted keys of a map of ints, laid at this program (printed by lay26.py with the kit's own programs).
-/
import Derived.Shelf.SlIterI.Nil
import Derived.Shelf.SortM.AssemblyIn
import Derived.Shelf.SortM.SortNone
import Derived.Ground.GgzProg
import Derived.Ground.SlgmProg
import Derived.Test.YtfpkachoneaaeaaProg
import Derived.Test.YtfpkachoneaaeaaBbEnv
import Derived.Test.YtfpkachoneaaeaaBbMem
set_option linter.unusedSimpArgs false
set_option linter.unusedVariables false
namespace Go.Proofs.Ytfpkachoneaaeaa
open Go.RowKit Go.Maps Go.Sort Go.Shelf
def Try.keysA_ren : Go.Shelf.Ren := ⟨fun | 7 => 28 | 10 => 48 | n => n, fun | 23 => 41 | 26 => 3 | 3 => 71 | 28 => 69 | 0 => 0 | 27 => 68 | 33 => 37 | 4 => 4 | n => n, fun | n => n⟩
theorem Try.keysA : Go.Proofs.SlLaysZI.n7 Try.prog Try.keysA_ren := {
  mixed := by kernel_rfl
  f7 := ⟨Try.f28.name, by decide, Try.func28.trans (congrArg some (by kernel_rfl))⟩
  f10 := ⟨Try.f48.name, by decide, Try.func48.trans (congrArg some (by kernel_rfl))⟩
  t0 := Try.underlying0
  a0 := Try.isAgg0
  z0 := Try.sizeOf0
  v0 := Try.zeroValue0
  t4 := Try.underlying4
  a4 := Try.isAgg4
  z4 := Try.sizeOf4
  v4 := Try.zeroValue4
  t23 := Try.underlying41
  a23 := Try.isAgg41
  z23 := Try.sizeOf41
  v23 := Try.zeroValue41
  t26 := Try.underlying3
  a26 := Try.isAgg3
  z26 := Try.sizeOf3
  v26 := Try.zeroValue3
  t27 := Try.underlying68
  a27 := Try.isAgg68
  z27 := Try.sizeOf68
  v27 := Try.zeroValue68
  t28 := Try.underlying69
  a28 := Try.isAgg69
  z28 := Try.sizeOf69
  v28 := Try.zeroValue69
  t33 := Try.underlying37
  a33 := Try.isAgg37
  z33 := Try.sizeOf37
  v33 := Try.zeroValue37 }
def Try.sortedA_ren : Go.Shelf.Ren := ⟨fun | 6 => 27 | 8 => 46 | 9 => 47 | 11 => 64 | 13 => 66 | 12 => 65 | 23 => 86 | 24 => 87 | 14 => 77 | 15 => 78 | 16 => 79 | 17 => 80 | 18 => 81 | 19 => 82 | 20 => 83 | 21 => 84 | 22 => 85 | 25 => 88 | 26 => 89 | 27 => 90 | 28 => 91 | 29 => 92 | 30 => 93 | 31 => 94 | n => n, fun | 26 => 3 | 28 => 69 | 24 => 33 | 0 => 0 | 3 => 3 | 37 => 86 | 48 => 45 | 50 => 52 | 4 => 4 | 40 => 118 | 39 => 117 | 45 => 122 | 5 => 5 | 9 => 9 | 51 => 126 | 55 => 129 | 57 => 131 | 58 => 132 | 33 => 37 | n => n, fun | n => n⟩
theorem Try.sortedA : Go.Proofs.SlLaysZI.n6 Try.prog Try.sortedA_ren := {
  mixed := by kernel_rfl
  f6 := ⟨Try.f27.name, by decide, Try.func27.trans (congrArg some (by kernel_rfl))⟩
  f8 := ⟨Try.f46.name, by decide, Try.func46.trans (congrArg some (by kernel_rfl))⟩
  f11 := ⟨Try.f64.name, by decide, Try.func64.trans (congrArg some (by kernel_rfl))⟩
  t0 := Try.underlying0
  a0 := Try.isAgg0
  z0 := Try.sizeOf0
  v0 := Try.zeroValue0
  t24 := Try.underlying33
  a24 := Try.isAgg33
  z24 := Try.sizeOf33
  v24 := Try.zeroValue33
  t26 := Try.underlying3
  a26 := Try.isAgg3
  z26 := Try.sizeOf3
  v26 := Try.zeroValue3
  t28 := Try.underlying69
  a28 := Try.isAgg69
  z28 := Try.sizeOf69
  v28 := Try.zeroValue69
  i26 := by kernel_rfl }
def Try.sortA_ren : Go.Shelf.Ren := ⟨fun | 5 => 47 | 8 => 66 | 7 => 65 | 19 => 86 | 20 => 87 | 10 => 77 | 11 => 78 | 12 => 79 | 13 => 80 | 14 => 81 | 15 => 82 | 16 => 83 | 17 => 84 | 18 => 85 | 30 => 88 | 31 => 89 | 32 => 90 | 33 => 91 | 34 => 92 | 35 => 93 | 40 => 94 | n => n, fun | 23 => 33 | 25 => 3 | 3 => 3 | 32 => 86 | 22 => 33 | 0 => 0 | 44 => 45 | 46 => 52 | 4 => 4 | 36 => 118 | 35 => 117 | 41 => 122 | 5 => 5 | 9 => 9 | 53 => 126 | 57 => 129 | 63 => 131 | 64 => 132 | n => n, fun | n => n⟩
theorem Try.sortA : Go.Proofs.SlLaysM.n5 Try.prog Try.sortA_ren := {
  mixed := by kernel_rfl
  f5 := ⟨Try.f47.name, by decide, Try.func47.trans (congrArg some (by kernel_rfl))⟩
  f7 := ⟨Try.f65.name, by decide, Try.func65.trans (congrArg some (by kernel_rfl))⟩
  f8 := Try.func66.trans (congrArg some (by kernel_rfl))
  f10 := ⟨Try.f77.name, by decide, Try.func77.trans (congrArg some (by kernel_rfl))⟩
  f11 := ⟨Try.f78.name, by decide, Try.func78.trans (congrArg some (by kernel_rfl))⟩
  f12 := ⟨Try.f79.name, by decide, Try.func79.trans (congrArg some (by kernel_rfl))⟩
  f13 := ⟨Try.f80.name, by decide, Try.func80.trans (congrArg some (by kernel_rfl))⟩
  f14 := ⟨Try.f81.name, by decide, Try.func81.trans (congrArg some (by kernel_rfl))⟩
  f15 := ⟨Try.f82.name, by decide, Try.func82.trans (congrArg some (by kernel_rfl))⟩
  f16 := ⟨Try.f83.name, by decide, Try.func83.trans (congrArg some (by kernel_rfl))⟩
  f17 := ⟨Try.f84.name, by decide, Try.func84.trans (congrArg some (by kernel_rfl))⟩
  f18 := ⟨Try.f85.name, by decide, Try.func85.trans (congrArg some (by kernel_rfl))⟩
  f19 := Try.func86.trans (congrArg some (by kernel_rfl))
  f20 := Try.func87.trans (congrArg some (by kernel_rfl))
  f30 := ⟨Try.f88.name, by decide, Try.func88.trans (congrArg some (by kernel_rfl))⟩
  f31 := Try.func89.trans (congrArg some (by kernel_rfl))
  f32 := Try.func90.trans (congrArg some (by kernel_rfl))
  f33 := ⟨Try.f91.name, by decide, Try.func91.trans (congrArg some (by kernel_rfl))⟩
  f34 := ⟨Try.f92.name, by decide, Try.func92.trans (congrArg some (by kernel_rfl))⟩
  f35 := ⟨Try.f93.name, by decide, Try.func93.trans (congrArg some (by kernel_rfl))⟩
  f40 := ⟨Try.f94.name, by decide, Try.func94.trans (congrArg some (by kernel_rfl))⟩
  t0 := Try.underlying0
  a0 := Try.isAgg0
  z0 := Try.sizeOf0
  v0 := Try.zeroValue0
  t3 := Try.underlying3
  a3 := Try.isAgg3
  z3 := Try.sizeOf3
  v3 := Try.zeroValue3
  t4 := Try.underlying4
  a4 := Try.isAgg4
  z4 := Try.sizeOf4
  v4 := Try.zeroValue4
  t5 := Try.underlying5
  a5 := Try.isAgg5
  z5 := Try.sizeOf5
  v5 := Try.zeroValue5
  t9 := Try.underlying9
  a9 := Try.isAgg9
  z9 := Try.sizeOf9
  v9 := Try.zeroValue9
  t22 := Try.underlying33
  a22 := Try.isAgg33
  z22 := Try.sizeOf33
  v22 := Try.zeroValue33
  t23 := Try.underlying33
  a23 := Try.isAgg33
  z23 := Try.sizeOf33
  v23 := Try.zeroValue33
  t25 := Try.underlying3
  a25 := Try.isAgg3
  z25 := Try.sizeOf3
  v25 := Try.zeroValue3
  t32 := Try.underlying86
  a32 := Try.isAgg86
  z32 := Try.sizeOf86
  v32 := Try.zeroValue86
  t35 := Try.underlying117
  a35 := Try.isAgg117
  z35 := Try.sizeOf117
  v35 := Try.zeroValue117
  t36 := Try.underlying118
  a36 := Try.isAgg118
  z36 := Try.sizeOf118
  v36 := Try.zeroValue118
  t41 := Try.underlying122
  a41 := Try.isAgg122
  z41 := Try.sizeOf122
  v41 := Try.zeroValue122
  t44 := Try.underlying45
  a44 := Try.isAgg45
  z44 := Try.sizeOf45
  v44 := Try.zeroValue45
  t46 := Try.underlying52
  a46 := Try.isAgg52
  z46 := Try.sizeOf52
  v46 := Try.zeroValue52
  t53 := Try.underlying126
  a53 := Try.isAgg126
  z53 := Try.sizeOf126
  v53 := Try.zeroValue126
  t57 := Try.underlying129
  a57 := Try.isAgg129
  z57 := Try.sizeOf129
  v57 := Try.zeroValue129
  t63 := Try.underlying131
  a63 := Try.isAgg131
  z63 := Try.sizeOf131
  v63 := Try.zeroValue131
  t64 := Try.underlying132
  a64 := Try.isAgg132
  z64 := Try.sizeOf132
  v64 := Try.zeroValue132 }
end Go.Proofs.Ytfpkachoneaaeaa
namespace Go.Proofs.Ytfpkachoneaaeaa
open Go.RowKit Go.Maps Go.Sort Go.Shelf Go.ChangeMaps Go.WideShapes
def rHeld (v : Value) : Option (DataW Value × List MemPlace) := some (.held v, [])
theorem CallsIn.unbound {L L' : List FuncId} {n m : Nat} {P : Program} {f : FuncId} {args : Array Value} {w : World} {R : Ending → World → Prop}
    (h : ∀ D : Nat, CallsIn (Fence.list L (some D)) n P f args w R) (hsub : ∀ g ∈ L, g ∈ L') : CallsIn (Fence.list L' none) m P f args w R :=
  ⟨hsub _ (h 0).1, fun cs _ =>
    let ⟨e, w', fr, r, s, x⟩ := (h (cs.length + 1 + n)).2 cs (fun _ hd => by cases hd; exact Nat.le_refl _)
    ⟨e, w', fr, r, ComesIn.mono (fun _ hm g hg => let ⟨a, b, c, _⟩ := hm g hg; ⟨a, b.imp (hsub _) id, fun k hk => hsub _ (c k hk), fun _ hd => by cases hd⟩) s, x⟩⟩
abbrev goodFence : Fence := Fence.list goodL none
theorem sorts_in (m : Nat) : AnyZI.SortsIn Try.prog Try.sortedA_ren goodFence m :=
  ⟨fun blk off cap ss W hH hblk hsz => CallsIn.unbound (fun D => AnySM.slices_Sort_int_in Try.sortA D blk off cap ss W hH hblk hsz) (by decide),
   fun p cap W => CallsIn.unbound (fun D => AnySM.slices_Sort_int_none_in Try.sortA D p cap W) (by decide)⟩
theorem keys_in (mb : Option Nat) (W : World) : CallsIn goodFence 5 Try.prog 28 #[.map mb] W fun e w' => e = .returned (.func (.func 48) #[] #[.pointer (some ⟨W.heap.size, 0, none⟩)]) ∧ w' = W.alloc (.cells #[.map mb] 41) :=
  AnyZI.keys_in Try.keysA goodFence 5 (show 28 ∈ goodL by decide) rfl mb W
theorem IMap.owns {w : World} {mp : Nat} {l : List (Int × Nat)} (h : IMap w mp l) (hw : ∀ p ∈ l, (Lit.int .i64 p.1).wf = true) (hl : l.length ≤ maxLen) :
    ∃ D : DataW Value, w.ownsMap Try.prog 3 rHeld mp l.length D ∧ (l.map (·.1)).Perm (intKeys D) ∧ Maps.size D = l.length := by
  obtain ⟨es, clock, hb, hs, h3⟩ := h
  have hsz : es.size = l.length := by
    have := congrArg List.length h3
    simpa using this
  have hrd : ∀ x ∈ es.toList, ∃ p ∈ l, x.key = .int .i64 p.1 ∧ WideElems.rd Try.prog 3 rHeld x = some (.int .i64 p.1, .held x.val) := fun x hx => by
    have : (x.key, x.val) ∈ es.toList.map (fun e => (e.key, e.val)) := List.mem_map.2 ⟨x, hx, rfl⟩
    rw [h3] at this
    obtain ⟨p, hp, e⟩ := List.mem_map.1 this
    have e1 : x.key = .int .i64 p.1 := (Prod.mk.inj e).1.symm
    obtain ⟨k, v, b⟩ := x
    simp only at e1
    subst e1
    exact ⟨p, hp, rfl, WideElems.rd_mk (yv := (.held v, [])) (keyOf_int_mk Try.underlying3 (hw p hp)) rfl⟩
  refine ⟨.map ((es.toList.map (WideElems.rg Try.prog 3 rHeld)).foldr DataW.insert []), ⟨es, clock, hb, ⟨by rw [hsz]; exact hl, hs, fun x hx => ?_⟩, by rw [hsz]; exact Nat.le_refl _, rfl⟩, ?_, ?_⟩
  · obtain ⟨p, _, _, h⟩ := hrd x hx
    exact ⟨_, h⟩
  · have hp := (sorted_perm (es.toList.map (WideElems.rg Try.prog 3 rHeld))).map (fun p => _root_.Go.intOf p.1)
    have e : (es.toList.map (WideElems.rg Try.prog 3 rHeld)).map (fun p => _root_.Go.intOf p.1) = l.map (·.1) := by
      have h4 : (es.toList.map (fun e => (e.key, e.val))).map (fun p => match p.1 with | .int _ i => i | _ => 0) = l.map (·.1) := by
        rw [h3, List.map_map]
        rfl
      rw [← h4, List.map_map, List.map_map]
      refine List.map_congr_left fun x hx => ?_
      obtain ⟨p, _, hk, h⟩ := hrd x hx
      simp only [Function.comp, WideElems.rg_of h, hk]
      rfl
    rw [e] at hp
    exact hp.symm
  · have := (sorted_perm (es.toList.map (WideElems.rg Try.prog 3 rHeld))).length_eq
    simp only [List.length_map, Array.length_toList] at this
    rw [Maps.size_eq, this, hsz]
set_option maxHeartbeats 1000000 in
theorem sorted_in {w : World} {Bm mp : Nat} {l : List (Int × Nat)} (hB : Bm < w.heap.size) (hm : w.cell? ⟨Bm, 0, none⟩ = some (.map (some mp))) (h : IMap w mp l) (hw : ∀ p ∈ l, (Lit.int .i64 p.1).wf = true) (hl : l.length * 8 ≤ 140737488355328) :
    CallsIn goodFence 5 Try.prog 27 #[.func (.func 48) #[] #[.pointer (some ⟨Bm, 0, none⟩)]] w fun e w' =>
      ∃ v, e = .returned v ∧ w'.ownsRow w.heap.size 3 1 v l.length (((l.map (·.1)).mergeSort (fun x y => decide (x ≤ y))).map (Value.int .i64)) ∧ Kept noneS w w' := by
  obtain ⟨D, h1, h2, h3⟩ := h.owns hw (by unfold maxLen; omega)
  have hseq : SeqGives goodFence 2 Try.prog 48 #[.pointer (some ⟨Bm, 0, none⟩)] encZ (fun ss => ss.Perm (intKeys D)) (Maps.size D) w :=
    AnyZI.keys_gives (ρ := Try.keysA_ren) { Try.keysA with } goodFence _ (show 48 ∈ goodL by decide) rfl (by omega) Bm mp l.length D w hB hm h1
  refine CallsIn.mono (AnyZI.sorted_in Try.sortedA goodFence 5 (show 27 ∈ goodL by decide) (show 46 ∈ goodL by decide) (show 47 ∈ goodL by decide) (show 64 ∈ goodL by decide) rfl (by omega) (sorts_in _) (enters_of Try.func47 (by kernel_rfl) rfl) 48 #[.pointer (some ⟨Bm, 0, none⟩)] (show 48 ∈ goodL by decide) (enters_of Try.func48 (by kernel_rfl) rfl) _ _ (by rw [h3]; unfold maxLen; omega) (by rw [h3]; exact hl) _ hseq) ?_
  rintro e w' ⟨v, ss, rfl, hp, hrow, _, hb⟩
  have hp2 : ss.Perm (l.map (·.1)) := hp.trans h2.symm
  have hlen : ss.length = l.length := by
    have := hp2.length_eq
    simpa using this
  have e1 := mergeSort_of_perm_i hp2
  unfold leI at e1
  refine ⟨v, rfl, ?_, Kept.of_below hb⟩
  rw [e1, hlen] at hrow
  exact hrow
end Go.Proofs.Ytfpkachoneaaeaa
