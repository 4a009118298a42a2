/-
  speaks, walked: the document's example.
-/
import Derived.Test.YtfpkachoneaaeaaBbLit
set_option linter.unusedSimpArgs false
set_option linter.unusedVariables false
namespace Go.Proofs.Ytfpkachoneaaeaa
open Go Go.Conc Go.RowKit
theorem run_ex1 : runA [(2, [[97], [99]]), (1, [[98]])] = [1, 2] := by simp [runA, sortA, List.mergeSort, List.MergeSort.Internal.splitInTwo, List.merge, lenA]
theorem run_ex2 : runA [(2, [[99]]), (1, [])] = [2] := by simp [runA, sortA, List.mergeSort, List.MergeSort.Internal.splitInTwo, List.merge, lenA]
section
variable {Z : Scene} {n : Nat} {w : World} {Post : Value → World → Prop} {c : Frame} {cs : List Frame}
set_option maxRecDepth 50000 in
set_option maxHeartbeats 2000000 in
theorem speaks_run (hI : ∀ i, Z.Inb i = none) (hn : 0 < n) (hn2 : n < 1000000000) (hv : ∀ k, k < w.heap.size → (Z.Hd k → JunkAt w k) ∧ ¬ Z.C k)
    (H : ∀ Z' n' w', (∀ i, Z'.Inb i = none) → 0 < n' → n' ≤ n + 4 → (∀ k, k < w.heap.size → (Z'.Hd k → JunkAt w k) ∧ ¬ Z'.C k) → Kept noneS w w' → Run Try.prog Post Z' n' 0 0 (G (c.finish (.bool true)) cs) w') :
    Run Try.prog Post Z n 0 0 (G ((base 6).at { tmps := #[] ++ Array.replicate (Try.f6.ntmps - 0) undef, defers := [] } [.code (Try.f6.body.getD .skip)]) (c :: cs)) w := by
  refine Run.okG fun hok => ?_
  have f0 : ¬ Z.Hd w.heap.size := hok.fresh (Nat.le_refl _)
  have f1 : ¬ Z.Hd (w.heap.size + 1) := hok.fresh (by omega)
  have hcl : ∀ c, Z.C c → c < w.heap.size := fun c hc => hok.chanlt hc
  simp only [Try.ntmps6]
  try simp only [Act.put, Act.eval, nrmL, Nat.reduceAdd, Nat.reduceSub]
  simp only [Try.f6, Option.getD_some]
  repeat (first | refine Run.auto rfl ?_ | ((first | (apply Run.lq rfl rfl rfl rfl; (focus (intro w K hK; go_simp; exact hK))) | (refine Run.ln rfl rfl rfl rfl rfl (by kernel_rfl) ?_) | (refine Run.not rfl rfl ?_)); try simp only [Act.put, Act.eval, nrmL, Nat.reduceAdd]) | (refine Run.rg ?_; simp only [nrmL, rngL, Nat.reduceAdd]) | refine Run.cT rfl ?_ | refine Run.cF rfl ?_ | refine Run.rt ?_ | refine Run.nd ?_)
  refine Run.made theEnv rfl rfl (by decide) rfl (fun _ _ q => by cases q) (.slice (some ⟨w.heap.size, 0, none⟩) 0 0) (.cells #[] 29) (fun u _ hus => by go_simp) f0 ?_
  try simp only [Act.put, Act.eval, nrmL, Nat.reduceAdd]
  refine Run.made theEnv rfl rfl (by decide) rfl (fun _ _ q => by cases q) (.pointer (some ⟨w.heap.size + 1, 0, none⟩)) (.cells #[.slice none 0 0] 24) (fun u _ hus => by simp at hus; go_simp) (by simpa using f1) ?_
  try simp only [Act.put, Act.eval, nrmL, Nat.reduceAdd]
  have e1 : (w.alloc (.cells #[] 29)).heap.size = w.heap.size + 1 := by simp
  have k2 : Kept noneS w ((w.alloc (.cells #[] 29)).alloc (.cells #[.slice none 0 0] 24)) := ((Kept.refl _ _).alloc _).alloc _
  have hB2 : Blk ((w.alloc (.cells #[] 29)).alloc (.cells #[.slice none 0 0] 24)) (w.heap.size + 1) 24 #[.slice none 0 0] := by
    have := heap_alloc_new (w.alloc (.cells #[] 29)) (.cells #[.slice none 0 0] 24)
    rw [e1] at this
    exact this
  generalize (w.alloc (.cells #[] 29)).alloc (.cells #[.slice none 0 0] 24) = w2 at *
  have hfree := Scene.free (Z := Z) (a := ⟨w.heap.size + 1, 0, none⟩) f1
  refine Run.stO (⟨w.heap.size + 1, 0, none⟩) (.slice (some ⟨w.heap.size, 0, none⟩) 0 0) rfl rfl (by decide) rfl rfl rfl rfl rfl (by kernel_rfl) rfl ((by rw [hB2.cell 0]; rfl)) (hB2.frozen 0) (hfree.2) (hfree.1) ((fun q => by have := hcl (w.heap.size + 1) q; omega)) ?_
  try simp only [Act.put, Act.eval, nrmL, Nat.reduceAdd]
  have hB3 := hB2.set_ 0 (.slice (some ⟨w.heap.size, 0, none⟩) 0 0)
  have k3 : Kept noneS w (w2.setCell ⟨w.heap.size + 1, 0, none⟩ (.slice (some ⟨w.heap.size, 0, none⟩) 0 0)) := k2.trans2 (kept_set w2 ⟨w.heap.size + 1, 0, none⟩ _) fun k hk q => by have : k = w.heap.size + 1 := q; omega
  generalize w2.setCell ⟨w.heap.size + 1, 0, none⟩ (.slice (some ⟨w.heap.size, 0, none⟩) 0 0) = w3 at *
  clear hB2 k2
  repeat (first | refine Run.auto rfl ?_ | ((first | (apply Run.lq rfl rfl rfl rfl; (focus (intro w K hK; go_simp; exact hK))) | (refine Run.ln rfl rfl rfl rfl rfl (by kernel_rfl) ?_) | (refine Run.not rfl rfl ?_)); try simp only [Act.put, Act.eval, nrmL, Nat.reduceAdd]) | (refine Run.rg ?_; simp only [nrmL, rngL, Nat.reduceAdd]) | refine Run.cT rfl ?_ | refine Run.cF rfl ?_ | refine Run.rt ?_ | refine Run.nd ?_)
  refine Run.look theEnv rfl rfl (by decide) rfl (fun _ _ q => by cases q) (.func (.func 16) #[] #[.pointer (some ⟨w.heap.size + 1, 0, none⟩)]) (fun u _ _ => by go_simp) ?_
  try simp only [Act.put, Act.eval, nrmL, Nat.reduceAdd]
  refine Run.enter rfl rfl (by decide) rfl Try.func7 (by kernel_rfl) rfl ?_
  simp only [Act.eval, nrmL, Nat.reduceAdd]
  refine cli_new (w0 := w) hI hn k3 hv fun Z4 w4 s4 K4 ha4 hst4 hdo4 ho4 hZ4 k4 => ?_
  have L4 : LstV w4 (space w Z4 s4) (w.heap.size + 1) 24 29 2 0 [] := by
    have hlt := hB3.lt
    refine ⟨⟨by omega, ho4 _ hlt, fun q => f1 ((hZ4 _ hlt).1 q), fun q => by have := hcl _ ((hZ4 _ hlt).2 q); omega⟩, _, 0, hB3.keep k4 fun q => q, by simp, .inl ⟨rfl, rfl⟩⟩
  clear hB3 ho4 hZ4
  rw [Frame.finish_at]
  try simp only [Act.put, Act.eval, nrmL, Nat.reduceAdd]
  repeat (first | refine Run.auto rfl ?_ | ((first | (apply Run.lq rfl rfl rfl rfl; (focus (intro w K hK; go_simp; exact hK))) | (refine Run.ln rfl rfl rfl rfl rfl (by kernel_rfl) ?_) | (refine Run.not rfl rfl ?_)); try simp only [Act.put, Act.eval, nrmL, Nat.reduceAdd]) | (refine Run.rg ?_; simp only [nrmL, rngL, Nat.reduceAdd]) | refine Run.cT rfl ?_ | refine Run.cF rfl ?_ | refine Run.rt ?_ | refine Run.nd ?_)
  --@@
  refine Run.okG fun hok4 => ?_
  refine Run.made theEnv rfl rfl (by decide) rfl (fun _ _ q => by cases q) (.slice (some ⟨w4.heap.size, 0, none⟩) 1 1) (.cells #[.int .u8 97] 5) (fun u _ hus => by go_simp) (hok4.fresh (Nat.le_refl _)) ?_
  try simp only [Act.put, Act.eval, nrmL, Nat.reduceAdd]
  refine Run.convLit rfl rfl (by decide) rfl rfl Try.underlying27 Try.underlying5 ?_
  try simp only [Act.put, Act.eval, nrmL, Nat.reduceAdd]
  have hk5 : Kept noneS w4 (w4.alloc (.cells #[.int .u8 97] 5 ((#[Value.int .u8 97] : Array Value).size, (#[Value.int .u8 97] : Array Value).size + 1))) := (Kept.refl _ _).alloc _
  have hr5 : RB (w4.alloc (.cells #[.int .u8 97] 5 ((#[Value.int .u8 97] : Array Value).size, (#[Value.int .u8 97] : Array Value).size + 1))) (fun k => k = w4.heap.size) (some ⟨w4.heap.size, 0, none⟩) [97] := rd_fresh w4 (bvs [97]) _ _
  have K5 := K4.more hk5
  have L5 := L4.keep hk5 fun _ _ _ q => q
  have f5 := hok4.fresh (Nat.le_refl w4.heap.size)
  clear K4 L4 hk5
  generalize w4.alloc (.cells #[.int .u8 97] 5 ((#[Value.int .u8 97] : Array Value).size, (#[Value.int .u8 97] : Array Value).size + 1)) = w5 at *
  refine Run.enter rfl rfl (by decide) rfl Try.func13 (by kernel_rfl) rfl ?_
  simp only [Act.eval, nrmL, Nat.reduceAdd]
  refine cli_post (bs := [97]) K5 2 hr5 (fun k _ q => by rw [q]; exact f5) (by decide) (by rw [ha4]; decide) fun Z6 n6 s6 w6 ok6 K6 hp6 hst6 hL6 hn6 k6 => ?_
  rw [hst4] at hst6
  have hpe6 : postA s4 2 [97] = ([(2, [[97]])], true) := by simp [postA, hst4, ha4, putA]
  rw [hpe6] at hp6
  obtain ⟨ha6, rfl⟩ := Prod.mk.inj hp6
  have hdo6 := hL6.fdo.trans hdo4
  have hS6 := hL6.S
  have L6 := hL6.lst L5 k6
  rw [Frame.finish_at, ← hS6]
  clear hp6 hpe6 hL6 k6 K5 L5 hr5 hS6 hdo4 ha4 f5
  try simp only [Act.put, Act.eval, nrmL, Nat.reduceAdd]
  repeat (first | refine Run.auto rfl ?_ | ((first | (apply Run.lq rfl rfl rfl rfl; (focus (intro w K hK; go_simp; exact hK))) | (refine Run.ln rfl rfl rfl rfl rfl (by kernel_rfl) ?_) | (refine Run.not rfl rfl ?_)); try simp only [Act.put, Act.eval, nrmL, Nat.reduceAdd]) | (refine Run.rg ?_; simp only [nrmL, rngL, Nat.reduceAdd]) | refine Run.cT rfl ?_ | refine Run.cF rfl ?_ | refine Run.rt ?_ | refine Run.nd ?_)
  refine Run.okG fun hok6 => ?_
  refine Run.made theEnv rfl rfl (by decide) rfl (fun _ _ q => by cases q) (.slice (some ⟨w6.heap.size, 0, none⟩) 1 1) (.cells #[.int .u8 98] 5) (fun u _ hus => by go_simp) (hok6.fresh (Nat.le_refl _)) ?_
  try simp only [Act.put, Act.eval, nrmL, Nat.reduceAdd]
  refine Run.convLit rfl rfl (by decide) rfl rfl Try.underlying27 Try.underlying5 ?_
  try simp only [Act.put, Act.eval, nrmL, Nat.reduceAdd]
  have hk7 : Kept noneS w6 (w6.alloc (.cells #[.int .u8 98] 5 ((#[Value.int .u8 98] : Array Value).size, (#[Value.int .u8 98] : Array Value).size + 1))) := (Kept.refl _ _).alloc _
  have hr7 : RB (w6.alloc (.cells #[.int .u8 98] 5 ((#[Value.int .u8 98] : Array Value).size, (#[Value.int .u8 98] : Array Value).size + 1))) (fun k => k = w6.heap.size) (some ⟨w6.heap.size, 0, none⟩) [98] := rd_fresh w6 (bvs [98]) _ _
  have K7 := K6.more hk7
  have L7 := L6.keep hk7 fun _ _ _ q => q
  have f7 := hok6.fresh (Nat.le_refl w6.heap.size)
  clear K6 L6 hk7
  generalize w6.alloc (.cells #[.int .u8 98] 5 ((#[Value.int .u8 98] : Array Value).size, (#[Value.int .u8 98] : Array Value).size + 1)) = w7 at *
  refine Run.enter rfl rfl (by decide) rfl Try.func13 (by kernel_rfl) rfl ?_
  simp only [Act.eval, nrmL, Nat.reduceAdd]
  refine cli_post (bs := [98]) K7 1 hr7 (fun k _ q => by rw [q]; exact f7) (by decide) (by rw [ha6]; decide) fun Z8 n8 s8 w8 ok8 K8 hp8 hst8 hL8 hn8 k8 => ?_
  rw [hst6] at hst8
  have hpe8 : postA s6 1 [98] = ([(2, [[97]]), (1, [[98]])], true) := by simp [postA, hst6, ha6, putA]
  rw [hpe8] at hp8
  obtain ⟨ha8, rfl⟩ := Prod.mk.inj hp8
  have hdo8 := hL8.fdo.trans hdo6
  have hS8 := hL8.S
  have L8 := hL8.lst L7 k8
  rw [Frame.finish_at, ← hS8]
  clear hp8 hpe8 hL8 k8 K7 L7 hr7 hS8 hdo6 ha6 f7
  try simp only [Act.put, Act.eval, nrmL, Nat.reduceAdd]
  repeat (first | refine Run.auto rfl ?_ | ((first | (apply Run.lq rfl rfl rfl rfl; (focus (intro w K hK; go_simp; exact hK))) | (refine Run.ln rfl rfl rfl rfl rfl (by kernel_rfl) ?_) | (refine Run.not rfl rfl ?_)); try simp only [Act.put, Act.eval, nrmL, Nat.reduceAdd]) | (refine Run.rg ?_; simp only [nrmL, rngL, Nat.reduceAdd]) | refine Run.cT rfl ?_ | refine Run.cF rfl ?_ | refine Run.rt ?_ | refine Run.nd ?_)
  refine Run.okG fun hok8 => ?_
  refine Run.made theEnv rfl rfl (by decide) rfl (fun _ _ q => by cases q) (.slice (some ⟨w8.heap.size, 0, none⟩) 1 1) (.cells #[.int .u8 99] 5) (fun u _ hus => by go_simp) (hok8.fresh (Nat.le_refl _)) ?_
  try simp only [Act.put, Act.eval, nrmL, Nat.reduceAdd]
  refine Run.convLit rfl rfl (by decide) rfl rfl Try.underlying27 Try.underlying5 ?_
  try simp only [Act.put, Act.eval, nrmL, Nat.reduceAdd]
  have hk9 : Kept noneS w8 (w8.alloc (.cells #[.int .u8 99] 5 ((#[Value.int .u8 99] : Array Value).size, (#[Value.int .u8 99] : Array Value).size + 1))) := (Kept.refl _ _).alloc _
  have hr9 : RB (w8.alloc (.cells #[.int .u8 99] 5 ((#[Value.int .u8 99] : Array Value).size, (#[Value.int .u8 99] : Array Value).size + 1))) (fun k => k = w8.heap.size) (some ⟨w8.heap.size, 0, none⟩) [99] := rd_fresh w8 (bvs [99]) _ _
  have K9 := K8.more hk9
  have L9 := L8.keep hk9 fun _ _ _ q => q
  have f9 := hok8.fresh (Nat.le_refl w8.heap.size)
  clear K8 L8 hk9
  generalize w8.alloc (.cells #[.int .u8 99] 5 ((#[Value.int .u8 99] : Array Value).size, (#[Value.int .u8 99] : Array Value).size + 1)) = w9 at *
  refine Run.enter rfl rfl (by decide) rfl Try.func13 (by kernel_rfl) rfl ?_
  simp only [Act.eval, nrmL, Nat.reduceAdd]
  refine cli_post (bs := [99]) K9 2 hr9 (fun k _ q => by rw [q]; exact f9) (by decide) (by rw [ha8]; decide) fun Z10 n10 s10 w10 ok10 K10 hp10 hst10 hL10 hn10 k10 => ?_
  rw [hst8] at hst10
  have hpe10 : postA s8 2 [99] = ([(2, [[97], [99]]), (1, [[98]])], true) := by simp [postA, hst8, ha8, putA]
  rw [hpe10] at hp10
  obtain ⟨ha10, rfl⟩ := Prod.mk.inj hp10
  have hdo10 := hL10.fdo.trans hdo8
  have hS10 := hL10.S
  have L10 := hL10.lst L9 k10
  rw [Frame.finish_at, ← hS10]
  clear hp10 hpe10 hL10 k10 K9 L9 hr9 hS10 hdo8 ha8 f9
  try simp only [Act.put, Act.eval, nrmL, Nat.reduceAdd]
  repeat (first | refine Run.auto rfl ?_ | ((first | (apply Run.lq rfl rfl rfl rfl; (focus (intro w K hK; go_simp; exact hK))) | (refine Run.ln rfl rfl rfl rfl rfl (by kernel_rfl) ?_) | (refine Run.not rfl rfl ?_)); try simp only [Act.put, Act.eval, nrmL, Nat.reduceAdd]) | (refine Run.rg ?_; simp only [nrmL, rngL, Nat.reduceAdd]) | refine Run.cT rfl ?_ | refine Run.cF rfl ?_ | refine Run.rt ?_ | refine Run.nd ?_)
  refine Run.okG fun hok10 => ?_
  refine Run.enter rfl rfl (by decide) rfl Try.func11 (by kernel_rfl) rfl ?_
  simp only [Act.eval, nrmL, Nat.reduceAdd]
  refine cli_runnable K10 (fun p hp => by rw [ha10] at hp; revert p; decide) (by rw [ha10]; decide) fun RA11 rc11 w11a K11a k11 hS11 => ?_
  rw [ha10, run_ex1] at hS11 ⊢
  have L11a := L10.keep k11 fun _ _ q r => r q.2.1
  rw [Frame.finish_at]
  clear k11 K10 L10
  try simp only [Act.put, Act.eval, nrmL, Nat.reduceAdd]
  repeat (first | refine Run.auto rfl ?_ | ((first | (apply Run.lq rfl rfl rfl rfl; (focus (intro w K hK; go_simp; exact hK))) | (refine Run.ln rfl rfl rfl rfl rfl (by kernel_rfl) ?_) | (refine Run.not rfl rfl ?_)); try simp only [Act.put, Act.eval, nrmL, Nat.reduceAdd]) | (refine Run.rg ?_; simp only [nrmL, rngL, Nat.reduceAdd]) | refine Run.cT rfl ?_ | refine Run.cF rfl ?_ | refine Run.rt ?_ | refine Run.nd ?_)
  refine Run.okG fun hok11a => ?_
  refine Run.made theEnv rfl rfl (by decide) rfl (fun _ _ q => by cases q) (.slice (some ⟨w11a.heap.size, 0, none⟩) 2 2) (.cells #[.int .i64 1, .int .i64 2] 3) (fun u _ hus => by go_simp) (hok11a.fresh (Nat.le_refl _)) ?_
  try simp only [Act.put, Act.eval, nrmL, Nat.reduceAdd]
  have hk11 : Kept noneS w11a (w11a.alloc (.cells #[.int .i64 1, .int .i64 2] 3)) := (Kept.refl _ _).alloc _
  have hy11 : Rd (w11a.alloc (.cells #[.int .i64 1, .int .i64 2] 3)) (fun k => k = w11a.heap.size) (some ⟨w11a.heap.size, 0, none⟩) (ivs [1, 2]) := rd_fresh w11a (ivs [1, 2]) _ _
  have f11 : ¬ Z10.Hd w11a.heap.size := hok11a.fresh (Nat.le_refl _)
  have hx11 := hS11.rd.keep hk11 fun _ _ _ q => q
  have K11b := K11a.more hk11
  have L11b := L11a.keep hk11 fun _ _ _ q => q
  clear hk11 K11a L11a hS11
  generalize w11a.alloc (.cells #[.int .i64 1, .int .i64 2] 3) = w11b at *
  refine Run.enter rfl rfl (by decide) rfl Try.func17 (by kernel_rfl) rfl ?_
  simp only [Act.eval, nrmL, Nat.reduceAdd]
  refine same_run (xs := [1, 2]) (ys := [1, 2]) hx11 hy11 (fun k _ q => hok10.fresh q) (fun k _ q => by rw [q]; exact f11) (by decide) (by decide) fun w11 k11 => ?_
  rw [show (([1, 2] : List Int) == [1, 2]) = true by decide, Frame.finish_at]
  have K11 := K11b.more k11
  have L11 := L11b.keep k11 fun _ _ _ q => q
  clear K11b L11b k11 hx11 hy11 f11
  try simp only [Act.put, Act.eval, nrmL, Nat.reduceAdd]
  repeat (first | refine Run.auto rfl ?_ | ((first | (apply Run.lq rfl rfl rfl rfl; (focus (intro w K hK; go_simp; exact hK))) | (refine Run.ln rfl rfl rfl rfl rfl (by kernel_rfl) ?_) | (refine Run.not rfl rfl ?_)); try simp only [Act.put, Act.eval, nrmL, Nat.reduceAdd]) | (refine Run.rg ?_; simp only [nrmL, rngL, Nat.reduceAdd]) | refine Run.cT rfl ?_ | refine Run.cF rfl ?_ | refine Run.rt ?_ | refine Run.nd ?_)
  refine Run.okG fun hok11 => ?_
  refine Run.enter rfl rfl (by decide) rfl Try.func14 (by kernel_rfl) rfl ?_
  simp only [Act.eval, nrmL, Nat.reduceAdd]
  refine run_did sp1_spec Try.func16 (by kernel_rfl) rfl K11 L11 (fun _ _ q => q) (K11.room hok11) (by decide) hdo10 (fun p hp => by rw [ha10] at hp; revert p; decide) 2 ?_ ?_
  · intro h0
    rw [ha10] at h0
    exact absurd h0 (by decide)
  intro i' bs rest hf Z12 s12 w12 K12 ha12 hst12 hL12 L12 k12
  rw [ha10] at hf
  obtain ⟨rfl, rfl, rfl⟩ : i' = 2 ∧ bs = [97] ∧ rest = [[99]] := by
    have := Option.some.inj hf
    have h1 := Prod.mk.inj this
    have h2 := List.cons.inj h1.2
    exact ⟨h1.1.symm, h2.1.symm, h2.2.symm⟩
  rw [hst10] at hst12
  rw [ha10, show takeA _ _ = [(2, [[99]]), (1, [[98]])] from rfl] at ha12
  have hdo12 := hL12.fdo.trans hdo10
  have hS12 := hL12.S
  replace L12 := L12.mono (M' := space w Z12 s12) fun _ _ q => q.2
  rw [Frame.finish_at, ← hS12]
  clear hf hL12 k12 K11 L11 hS12 hdo10 ha10 hst10
  try simp only [Act.put, Act.eval, nrmL, Nat.reduceAdd]
  repeat (first | refine Run.auto rfl ?_ | ((first | (apply Run.lq rfl rfl rfl rfl; (focus (intro w K hK; go_simp; exact hK))) | (refine Run.ln rfl rfl rfl rfl rfl (by kernel_rfl) ?_) | (refine Run.not rfl rfl ?_)); try simp only [Act.put, Act.eval, nrmL, Nat.reduceAdd]) | (refine Run.rg ?_; simp only [nrmL, rngL, Nat.reduceAdd]) | refine Run.cT rfl ?_ | refine Run.cF rfl ?_ | refine Run.rt ?_ | refine Run.nd ?_)
  refine Run.okG fun hok12 => ?_
  refine Run.enter rfl rfl (by decide) rfl Try.func14 (by kernel_rfl) rfl ?_
  simp only [Act.eval, nrmL, Nat.reduceAdd]
  refine run_did sp1_spec Try.func16 (by kernel_rfl) rfl K12 L12 (fun _ _ q => q) (K12.room hok12) (by decide) hdo12 (fun p hp => by rw [ha12] at hp; revert p; decide) 1 ?_ ?_
  · intro h0
    rw [ha12] at h0
    exact absurd h0 (by decide)
  intro i' bs rest hf Z13 s13 w13 K13 ha13 hst13 hL13 L13 k13
  rw [ha12] at hf
  obtain ⟨rfl, rfl, rfl⟩ : i' = 1 ∧ bs = [98] ∧ rest = [] := by
    have := Option.some.inj hf
    have h1 := Prod.mk.inj this
    have h2 := List.cons.inj h1.2
    exact ⟨h1.1.symm, h2.1.symm, h2.2.symm⟩
  rw [hst12] at hst13
  rw [ha12, show takeA _ _ = [(2, [[99]]), (1, [])] from rfl] at ha13
  have hdo13 := hL13.fdo.trans hdo12
  have hS13 := hL13.S
  replace L13 := L13.mono (M' := space w Z13 s13) fun _ _ q => q.2
  rw [Frame.finish_at, ← hS13]
  clear hf hL13 k13 K12 L12 hS13 hdo12 ha12 hst12
  try simp only [Act.put, Act.eval, nrmL, Nat.reduceAdd]
  repeat (first | refine Run.auto rfl ?_ | ((first | (apply Run.lq rfl rfl rfl rfl; (focus (intro w K hK; go_simp; exact hK))) | (refine Run.ln rfl rfl rfl rfl rfl (by kernel_rfl) ?_) | (refine Run.not rfl rfl ?_)); try simp only [Act.put, Act.eval, nrmL, Nat.reduceAdd]) | (refine Run.rg ?_; simp only [nrmL, rngL, Nat.reduceAdd]) | refine Run.cT rfl ?_ | refine Run.cF rfl ?_ | refine Run.rt ?_ | refine Run.nd ?_)
  refine Run.okG fun hok13 => ?_
  refine Run.enter rfl rfl (by decide) rfl Try.func14 (by kernel_rfl) rfl ?_
  simp only [Act.eval, nrmL, Nat.reduceAdd]
  refine run_did sp1_spec Try.func16 (by kernel_rfl) rfl K13 L13 (fun _ _ q => q) (K13.room hok13) (by decide) hdo13 (fun p hp => by rw [ha13] at hp; revert p; decide) 1 ?_ ?_
  rotate_left
  · intro i' bs rest hf
    rw [ha13] at hf
    exact absurd hf (by simp)
  intro _ w14 K14 k14
  have L14 := L13.keep k14 fun _ _ q r => r q.2.1
  clear K13 L13 k14
  rw [Frame.finish_at]
  try simp only [Act.put, Act.eval, nrmL, Nat.reduceAdd]
  repeat (first | refine Run.auto rfl ?_ | ((first | (apply Run.lq rfl rfl rfl rfl; (focus (intro w K hK; go_simp; exact hK))) | (refine Run.ln rfl rfl rfl rfl rfl (by kernel_rfl) ?_) | (refine Run.not rfl rfl ?_)); try simp only [Act.put, Act.eval, nrmL, Nat.reduceAdd]) | (refine Run.rg ?_; simp only [nrmL, rngL, Nat.reduceAdd]) | refine Run.cT rfl ?_ | refine Run.cF rfl ?_ | refine Run.rt ?_ | refine Run.nd ?_)
  refine Run.okG fun hok14 => ?_
  refine Run.enter rfl rfl (by decide) rfl Try.func11 (by kernel_rfl) rfl ?_
  simp only [Act.eval, nrmL, Nat.reduceAdd]
  refine cli_runnable K14 (fun p hp => by rw [ha13] at hp; revert p; decide) (by rw [ha13]; decide) fun RA15 rc15 w15a K15a k15 hS15 => ?_
  rw [ha13, run_ex2] at hS15 ⊢
  have L15a := L14.keep k15 fun _ _ q r => r q.2.1
  rw [Frame.finish_at]
  clear k15 K14 L14
  try simp only [Act.put, Act.eval, nrmL, Nat.reduceAdd]
  repeat (first | refine Run.auto rfl ?_ | ((first | (apply Run.lq rfl rfl rfl rfl; (focus (intro w K hK; go_simp; exact hK))) | (refine Run.ln rfl rfl rfl rfl rfl (by kernel_rfl) ?_) | (refine Run.not rfl rfl ?_)); try simp only [Act.put, Act.eval, nrmL, Nat.reduceAdd]) | (refine Run.rg ?_; simp only [nrmL, rngL, Nat.reduceAdd]) | refine Run.cT rfl ?_ | refine Run.cF rfl ?_ | refine Run.rt ?_ | refine Run.nd ?_)
  refine Run.okG fun hok15a => ?_
  refine Run.made theEnv rfl rfl (by decide) rfl (fun _ _ q => by cases q) (.slice (some ⟨w15a.heap.size, 0, none⟩) 1 1) (.cells #[.int .i64 2] 3) (fun u _ hus => by go_simp) (hok15a.fresh (Nat.le_refl _)) ?_
  try simp only [Act.put, Act.eval, nrmL, Nat.reduceAdd]
  have hk15 : Kept noneS w15a (w15a.alloc (.cells #[.int .i64 2] 3)) := (Kept.refl _ _).alloc _
  have hy15 : Rd (w15a.alloc (.cells #[.int .i64 2] 3)) (fun k => k = w15a.heap.size) (some ⟨w15a.heap.size, 0, none⟩) (ivs [2]) := rd_fresh w15a (ivs [2]) _ _
  have f15 : ¬ Z13.Hd w15a.heap.size := hok15a.fresh (Nat.le_refl _)
  have hx15 := hS15.rd.keep hk15 fun _ _ _ q => q
  have K15b := K15a.more hk15
  have L15b := L15a.keep hk15 fun _ _ _ q => q
  clear hk15 K15a L15a hS15
  generalize w15a.alloc (.cells #[.int .i64 2] 3) = w15b at *
  refine Run.enter rfl rfl (by decide) rfl Try.func17 (by kernel_rfl) rfl ?_
  simp only [Act.eval, nrmL, Nat.reduceAdd]
  refine same_run (xs := [2]) (ys := [2]) hx15 hy15 (fun k _ q => hok14.fresh q) (fun k _ q => by rw [q]; exact f15) (by decide) (by decide) fun w15 k15 => ?_
  rw [show (([2] : List Int) == [2]) = true by decide, Frame.finish_at]
  have K15 := K15b.more k15
  have L15 := L15b.keep k15 fun _ _ _ q => q
  clear K15b L15b k15 hx15 hy15 f15
  try simp only [Act.put, Act.eval, nrmL, Nat.reduceAdd]
  repeat (first | refine Run.auto rfl ?_ | ((first | (apply Run.lq rfl rfl rfl rfl; (focus (intro w K hK; go_simp; exact hK))) | (refine Run.ln rfl rfl rfl rfl rfl (by kernel_rfl) ?_) | (refine Run.not rfl rfl ?_)); try simp only [Act.put, Act.eval, nrmL, Nat.reduceAdd]) | (refine Run.rg ?_; simp only [nrmL, rngL, Nat.reduceAdd]) | refine Run.cT rfl ?_ | refine Run.cF rfl ?_ | refine Run.rt ?_ | refine Run.nd ?_)
  refine Run.enter rfl rfl (by decide) rfl Try.func18 (by kernel_rfl) rfl ?_
  simp only [Act.eval, nrmL, Nat.reduceAdd]
  refine cli_waiting K15 2 fun w16 K16 k16 => ?_
  have L16 := L15.keep k16 fun _ _ q r => r q.2.1
  rw [ha13, show lenA [(2, [[99]]), (1, [])] 2 = 1 by decide, Frame.finish_at]
  clear K15 L15 k16
  try simp only [Act.put, Act.eval, nrmL, Nat.reduceAdd]
  repeat (first | refine Run.auto rfl ?_ | ((first | (apply Run.lq rfl rfl rfl rfl; (focus (intro w K hK; go_simp; exact hK))) | (refine Run.ln rfl rfl rfl rfl rfl (by kernel_rfl) ?_) | (refine Run.not rfl rfl ?_)); try simp only [Act.put, Act.eval, nrmL, Nat.reduceAdd]) | (refine Run.rg ?_; simp only [nrmL, rngL, Nat.reduceAdd]) | refine Run.cT rfl ?_ | refine Run.cF rfl ?_ | refine Run.rt ?_ | refine Run.nd ?_)
  refine Run.enter rfl rfl (by decide) rfl Try.func10 (by kernel_rfl) rfl ?_
  simp only [Act.eval, nrmL, Nat.reduceAdd]
  refine cli_stop K16 (by omega) fun Z17 w17 s17 K17 ha17 hst17 hL17 k17 hI17 => ?_
  have hS17 := hL17.S
  have L17 := hL17.lst L16 k17
  rw [Frame.finish_at, ← hS17]
  clear hL17 k17 K16 L16 hS17 hdo13 ha13 hst13
  try simp only [Act.put, Act.eval, nrmL, Nat.reduceAdd]
  repeat (first | refine Run.auto rfl ?_ | ((first | (apply Run.lq rfl rfl rfl rfl; (focus (intro w K hK; go_simp; exact hK))) | (refine Run.ln rfl rfl rfl rfl rfl (by kernel_rfl) ?_) | (refine Run.not rfl rfl ?_)); try simp only [Act.put, Act.eval, nrmL, Nat.reduceAdd]) | (refine Run.rg ?_; simp only [nrmL, rngL, Nat.reduceAdd]) | refine Run.cT rfl ?_ | refine Run.cF rfl ?_ | refine Run.rt ?_ | refine Run.nd ?_)
  refine Run.okG fun hok17 => ?_
  obtain ⟨A, ac, hB17, hS17⟩ := L17.ex
  have hD17 := L17.mem
  have hfree17 := Scene.free (Z := Z17) (a := ⟨w.heap.size + 1, 0, none⟩) hD17.2.2.1
  have hrd := hS17.rd
  clear hS17 L17
  obtain ⟨g, o, rfl, hg, hc⟩ : ∃ g o, A = some ⟨g, o, none⟩ ∧ ¬ Z17.Hd g ∧ ∀ (j : Nat) u, ([Value.int .i64 2, .string ⟨#[97]⟩, .int .i64 1, .string ⟨#[98]⟩] : List Value)[j]? = some u → w17.cell? ⟨g, o + j, none⟩ = some u := by
    rcases hrd with q | ⟨g, o, q1, q2, q3⟩
    · cases q
    · exact ⟨g, o, q1, q2.1.2.2.1, q3⟩
  clear hrd
  have c0 : w17.cell? ⟨g, o, none⟩ = some (.int .i64 2) := hc 0 _ rfl
  have c1 : w17.cell? ⟨g, o + 1, none⟩ = some (.string ⟨#[97]⟩) := hc 1 _ rfl
  have c2 : w17.cell? ⟨g, o + 2, none⟩ = some (.int .i64 1) := hc 2 _ rfl
  have c3 : w17.cell? ⟨g, o + 2 + 1, none⟩ = some (.string ⟨#[98]⟩) := hc 3 _ rfl
  have key : ∀ u, Kept Z17.Hd w17 u → ∀ i v, w17.cell? ⟨g, i, none⟩ = some v → u.cell? ⟨g, i, none⟩ = some v := fun u hu i v hv => (hu.cell (p := ⟨g, i, none⟩) (lt_of_cell hv) hg).trans hv
  refine Run.ld (a := ⟨w.heap.size + 1, 0, none⟩) (v := .slice (some ⟨g, o, none⟩) 2 ac) rfl rfl (by decide) (hB17.cell 0) (hfree17.2) (fun w₁ hld => ⟨by go_simp, by simp [go_sem, hld]⟩) ?_
  try simp only [Act.put, Act.eval, nrmL, Nat.reduceAdd]
  repeat (first | refine Run.auto rfl ?_ | ((first | (apply Run.lq rfl rfl rfl rfl; (focus (intro w K hK; go_simp; exact hK))) | (refine Run.ln rfl rfl rfl rfl rfl (by kernel_rfl) ?_) | (refine Run.not rfl rfl ?_)); try simp only [Act.put, Act.eval, nrmL, Nat.reduceAdd]) | (refine Run.rg ?_; simp only [nrmL, rngL, Nat.reduceAdd]) | refine Run.cT rfl ?_ | refine Run.cF rfl ?_ | refine Run.rt ?_ | refine Run.nd ?_)
  refine Run.ld (a := ⟨w.heap.size + 1, 0, none⟩) (v := .slice (some ⟨g, o, none⟩) 2 ac) rfl rfl (by decide) (hB17.cell 0) (hfree17.2) (fun w₁ hld => ⟨by go_simp, by simp [go_sem, hld]⟩) ?_
  try simp only [Act.put, Act.eval, nrmL, Nat.reduceAdd]
  refine Run.look theEnv rfl rfl (by decide) rfl (fun _ _ q => by cases q) (.pointer (some ⟨g, o, none⟩)) (fun u _ _ => by go_simp) ?_
  try simp only [Act.put, Act.eval, nrmL, Nat.reduceAdd]
  refine Run.look theEnv rfl rfl (by decide) rfl (fun _ _ q => by cases q) (.agg #[.int .i64 2, .string ⟨#[97]⟩]) (fun u hu _ => by have h0 := key u hu _ _ c0; have h1 := key u hu _ _ c1; go_simp) ?_
  try simp only [Act.put, Act.eval, nrmL, Nat.reduceAdd]
  repeat (first | refine Run.auto rfl ?_ | ((first | (apply Run.lq rfl rfl rfl rfl; (focus (intro w K hK; go_simp; exact hK))) | (refine Run.ln rfl rfl rfl rfl rfl (by kernel_rfl) ?_) | (refine Run.not rfl rfl ?_)); try simp only [Act.put, Act.eval, nrmL, Nat.reduceAdd]) | (refine Run.rg ?_; simp only [nrmL, rngL, Nat.reduceAdd]) | refine Run.cT rfl ?_ | refine Run.cF rfl ?_ | refine Run.rt ?_ | refine Run.nd ?_)
  refine Run.look theEnv rfl rfl (by decide) (by kernel_rfl) (fun _ _ q => by cases q) (.bool true) (fun u _ _ => by go_simp) ?_
  try simp only [Act.put, Act.eval, nrmL, Nat.reduceAdd]
  repeat (first | refine Run.auto rfl ?_ | ((first | (apply Run.lq rfl rfl rfl rfl; (focus (intro w K hK; go_simp; exact hK))) | (refine Run.ln rfl rfl rfl rfl rfl (by kernel_rfl) ?_) | (refine Run.not rfl rfl ?_)); try simp only [Act.put, Act.eval, nrmL, Nat.reduceAdd]) | (refine Run.rg ?_; simp only [nrmL, rngL, Nat.reduceAdd]) | refine Run.cT rfl ?_ | refine Run.cF rfl ?_ | refine Run.rt ?_ | refine Run.nd ?_)
  refine Run.ld (a := ⟨w.heap.size + 1, 0, none⟩) (v := .slice (some ⟨g, o, none⟩) 2 ac) rfl rfl (by decide) (hB17.cell 0) (hfree17.2) (fun w₁ hld => ⟨by go_simp, by simp [go_sem, hld]⟩) ?_
  try simp only [Act.put, Act.eval, nrmL, Nat.reduceAdd]
  refine Run.look theEnv rfl rfl (by decide) rfl (fun _ _ q => by cases q) (.pointer (some ⟨g, o + 2, none⟩)) (fun u _ _ => by go_simp) ?_
  try simp only [Act.put, Act.eval, nrmL, Nat.reduceAdd]
  refine Run.look theEnv rfl rfl (by decide) rfl (fun _ _ q => by cases q) (.agg #[.int .i64 1, .string ⟨#[98]⟩]) (fun u hu _ => by have h0 := key u hu _ _ c2; have h1 := key u hu _ _ c3; go_simp) ?_
  try simp only [Act.put, Act.eval, nrmL, Nat.reduceAdd]
  repeat (first | refine Run.auto rfl ?_ | ((first | (apply Run.lq rfl rfl rfl rfl; (focus (intro w K hK; go_simp; exact hK))) | (refine Run.ln rfl rfl rfl rfl rfl (by kernel_rfl) ?_) | (refine Run.not rfl rfl ?_)); try simp only [Act.put, Act.eval, nrmL, Nat.reduceAdd]) | (refine Run.rg ?_; simp only [nrmL, rngL, Nat.reduceAdd]) | refine Run.cT rfl ?_ | refine Run.cF rfl ?_ | refine Run.rt ?_ | refine Run.nd ?_)
  refine Run.look theEnv rfl rfl (by decide) (by kernel_rfl) (fun _ _ q => by cases q) (.bool true) (fun u _ _ => by go_simp) ?_
  try simp only [Act.put, Act.eval, nrmL, Nat.reduceAdd]
  repeat (first | refine Run.auto rfl ?_ | ((first | (apply Run.lq rfl rfl rfl rfl; (focus (intro w K hK; go_simp; exact hK))) | (refine Run.ln rfl rfl rfl rfl rfl (by kernel_rfl) ?_) | (refine Run.not rfl rfl ?_)); try simp only [Act.put, Act.eval, nrmL, Nat.reduceAdd]) | (refine Run.rg ?_; simp only [nrmL, rngL, Nat.reduceAdd]) | refine Run.cT rfl ?_ | refine Run.cF rfl ?_ | refine Run.rt ?_ | refine Run.nd ?_)
  clear c0 c1 c2 c3 key hc hg hB17 hD17 hfree17
  refine Run.enter rfl rfl (by decide) rfl Try.func13 (by kernel_rfl) rfl ?_
  simp only [Act.eval, nrmL, Nat.reduceAdd]
  refine cli_post (bs := []) (GF := fun _ => False) K17 1 (.inl rfl) (fun _ _ q => q.elim) (by decide) (by rw [ha17]; decide) fun Z18 n18 s18 w18 ok18 K18 hp18 hst18 hL18 hn18 k18 => ?_
  rw [show postA s17 1 [] = (s17.abs, false) by simp [postA, hst17]] at hp18
  obtain ⟨ha18, rfl⟩ := Prod.mk.inj hp18
  rw [Frame.finish_at]
  try simp only [Act.put, Act.eval, nrmL, Nat.reduceAdd]
  repeat (first | refine Run.auto rfl ?_ | ((first | (apply Run.lq rfl rfl rfl rfl; (focus (intro w K hK; go_simp; exact hK))) | (refine Run.ln rfl rfl rfl rfl rfl (by kernel_rfl) ?_) | (refine Run.not rfl rfl ?_)); try simp only [Act.put, Act.eval, nrmL, Nat.reduceAdd]) | (refine Run.rg ?_; simp only [nrmL, rngL, Nat.reduceAdd]) | refine Run.cT rfl ?_ | refine Run.cF rfl ?_ | refine Run.rt ?_ | refine Run.nd ?_)
  refine Run.leave1 rfl rfl Try.func6 (by rfl) ?_
  try rw [Frame.finish_at]
  try simp only [Act.put, Act.eval, nrmL, Nat.reduceAdd]
  refine H Z18 n18 w18 (fun i => ?_) K18.rep.pos (by omega) K18.vis K18.old.kept
  rw [K18.rep.inb]
  refine Sy.seats_none fun e he => ?_
  have h0 := s18.abs_len
  rw [ha18, ha17] at h0
  rw [List.eq_nil_of_length_eq_zero h0.symm] at he
  cases he
end
end Go.Proofs.Ytfpkachoneaaeaa
