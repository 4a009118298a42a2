/-
  ActorsFull, in company, whole.
-/
import Derived.Test.YtfpkachoneaaeaaBbFl2
set_option linter.unusedSimpArgs false
set_option linter.unusedVariables false
namespace Go.Proofs.Ytfpkachoneaaeaa
open Go Go.Conc Go.RowKit
section
variable {Post : Value → World → Prop} {stk : List Frame} {Z : Scene} {n : Nat} {w : World} {ac more : Int}
set_option maxRecDepth 50000 in
set_option maxHeartbeats 2000000 in
theorem full_run (hI : ∀ i, Z.Inb i = none) (hn : 0 < n) (hn2 : n < 1000000) (hv : ∀ k, k < w.heap.size → (Z.Hd k → JunkAt w k) ∧ ¬ Z.C k)
    (H : ∀ Z' n' w' (x : Act) todo, (∀ i, Z'.Inb i = none) → Kept noneS w w' → x.defers = [] → x.tmps.getD 4 undef = .bool true → Run Try.prog Post Z' n' 0 0 (G { (base 5).at x todo with mode := .returning } stk) w') :
    Run Try.prog Post Z n 0 0 (G ((base 5).at { tmps := #[.int .i64 ac, .int .i64 more] ++ Array.replicate (Try.f5.ntmps - 2) undef, defers := [] } [.code (Try.f5.body.getD .skip)]) stk) w := by
  obtain ⟨kk, hkk, hk15⟩ : ∃ kk : Nat, bits .and .i64 more 15 = (kk : Int) ∧ kk ≤ 15 := ⟨(more % 16).toNat, by rw [i64_and15]; omega, by omega⟩
  simp only [Try.ntmps5]
  try simp only [Act.put, Act.eval, nrmL, Nat.reduceAdd, Nat.reduceSub]
  simp only [Try.f5, Option.getD_some]
  repeat (first | refine Run.auto rfl ?_ | ((first | (apply Run.lq rfl rfl rfl rfl; (focus (intro w K hK; go_simp; exact hK))) | (refine Run.ln rfl rfl rfl rfl rfl (by kernel_rfl) ?_) | (refine Run.not rfl rfl ?_)); try simp only [Act.put, Act.eval, nrmL, Nat.reduceAdd]) | (refine Run.rg ?_; simp only [nrmL, rngL, Nat.reduceAdd]) | refine Run.cT rfl ?_ | refine Run.cF rfl ?_ | refine Run.rt ?_ | refine Run.nd ?_)
  refine Run.enter rfl rfl (by decide) rfl Try.func6 (by kernel_rfl) rfl ?_
  simp only [Act.eval, nrmL, Nat.reduceAdd]
  refine speaks_run hI hn (by omega) hv fun Z1 n1 w1 hI1 hn1 hnn1 hv1 k1 => ?_
  rw [Frame.finish_at]
  try simp only [Act.put, Act.eval, nrmL, Nat.reduceAdd]
  repeat (first | refine Run.auto rfl ?_ | ((first | (apply Run.lq rfl rfl rfl rfl; (focus (intro w K hK; go_simp; exact hK))) | (refine Run.ln rfl rfl rfl rfl rfl (by kernel_rfl) ?_) | (refine Run.not rfl rfl ?_)); try simp only [Act.put, Act.eval, nrmL, Nat.reduceAdd]) | (refine Run.rg ?_; simp only [nrmL, rngL, Nat.reduceAdd]) | refine Run.cT rfl ?_ | refine Run.cF rfl ?_ | refine Run.rt ?_ | refine Run.nd ?_)
  refine Run.okG fun hok => ?_
  have f0 : ¬ Z1.Hd w1.heap.size := hok.fresh (Nat.le_refl _)
  have f1 : ¬ Z1.Hd (w1.heap.size + 1) := hok.fresh (by omega)
  have hcl : ∀ c, Z1.C c → c < w1.heap.size := fun c hc => hok.chanlt hc
  refine Run.made theEnv rfl rfl (by decide) rfl (fun _ _ q => by cases q) (.slice (some ⟨w1.heap.size, 0, none⟩) 0 0) (.cells #[] 3) (fun u _ hus => by go_simp) f0 ?_
  try simp only [Act.put, Act.eval, nrmL, Nat.reduceAdd]
  refine Run.made theEnv rfl rfl (by decide) rfl (fun _ _ q => by cases q) (.pointer (some ⟨w1.heap.size + 1, 0, none⟩)) (.cells #[.slice none 0 0] 33) (fun u _ hus => by simp at hus; go_simp) (by simpa using f1) ?_
  try simp only [Act.put, Act.eval, nrmL, Nat.reduceAdd]
  have e1 : (w1.alloc (.cells #[] 3)).heap.size = w1.heap.size + 1 := by simp
  have k2 : Kept noneS w1 ((w1.alloc (.cells #[] 3)).alloc (.cells #[.slice none 0 0] 33)) := ((Kept.refl _ _).alloc _).alloc _
  have hB2 : Blk ((w1.alloc (.cells #[] 3)).alloc (.cells #[.slice none 0 0] 33)) (w1.heap.size + 1) 33 #[.slice none 0 0] := by
    have := heap_alloc_new (w1.alloc (.cells #[] 3)) (.cells #[.slice none 0 0] 33)
    rw [e1] at this
    exact this
  generalize (w1.alloc (.cells #[] 3)).alloc (.cells #[.slice none 0 0] 33) = w2 at *
  have hfree := Scene.free (Z := Z1) (a := ⟨w1.heap.size + 1, 0, none⟩) f1
  refine Run.stO (⟨w1.heap.size + 1, 0, none⟩) (.slice (some ⟨w1.heap.size, 0, none⟩) 0 0) rfl rfl (by decide) rfl rfl rfl rfl rfl (by kernel_rfl) rfl ((by rw [hB2.cell 0]; rfl)) (hB2.frozen 0) (hfree.2) (hfree.1) ((fun q => by have := hcl (w1.heap.size + 1) q; omega)) ?_
  try simp only [Act.put, Act.eval, nrmL, Nat.reduceAdd]
  have hB3 := hB2.set_ 0 (.slice (some ⟨w1.heap.size, 0, none⟩) 0 0)
  have k3 : Kept noneS w1 (w2.setCell ⟨w1.heap.size + 1, 0, none⟩ (.slice (some ⟨w1.heap.size, 0, none⟩) 0 0)) := k2.trans2 (kept_set w2 ⟨w1.heap.size + 1, 0, none⟩ _) fun k hk q => by have : k = w1.heap.size + 1 := q; omega
  generalize w2.setCell ⟨w1.heap.size + 1, 0, none⟩ (.slice (some ⟨w1.heap.size, 0, none⟩) 0 0) = w3 at *
  clear hB2 k2
  repeat (first | refine Run.auto rfl ?_ | ((first | (apply Run.lq rfl rfl rfl rfl; (focus (intro w K hK; go_simp; exact hK))) | (refine Run.ln rfl rfl rfl rfl rfl (by kernel_rfl) ?_) | (refine Run.not rfl rfl ?_)); try simp only [Act.put, Act.eval, nrmL, Nat.reduceAdd]) | (refine Run.rg ?_; simp only [nrmL, rngL, Nat.reduceAdd]) | refine Run.cT rfl ?_ | refine Run.cF rfl ?_ | refine Run.rt ?_ | refine Run.nd ?_)
  refine Run.look theEnv rfl rfl (by decide) rfl (fun _ _ q => by cases q) (.func (.func 15) #[] #[.pointer (some ⟨w1.heap.size + 1, 0, none⟩)]) (fun u _ _ => by go_simp) ?_
  try simp only [Act.put, Act.eval, nrmL, Nat.reduceAdd]
  refine Run.enter rfl rfl (by decide) rfl Try.func7 (by kernel_rfl) rfl ?_
  simp only [Act.eval, nrmL, Nat.reduceAdd]
  refine cli_new (w0 := w) hI1 hn1 (k1.trans k3) hv1 fun Z4 w4 s4 K4 ha4 hst4 hdo4 ho4 hZ4 k4 => ?_
  have hws := k1.size
  have L4 : LstV w4 (space w Z4 s4) (w1.heap.size + 1) 33 3 1 0 [] := by
    have hlt := hB3.lt
    refine ⟨⟨by omega, ho4 _ hlt, fun q => f1 ((hZ4 _ hlt).1 q), fun q => by have := hcl _ ((hZ4 _ hlt).2 q); omega⟩, _, 0, hB3.keep k4 fun q => q, by simp, .inl ⟨rfl, rfl⟩⟩
  rw [Frame.finish_at]
  have hlp := fl_loop1 (w0 := w) (stk := stk) (ac := ac) (Post := Post) (D := w1.heap.size + 1) hkk hk15 H (64 + kk) 0 Z4 n1 w4 s4
  unfold flLoop1 flRest1 flTail at hlp
  simp only [Try.f5, Option.getD_some] at hlp
  clear hB3 ho4 hZ4 H
  try simp only [Act.put, Act.eval, nrmL, Nat.reduceAdd]
  repeat (first | refine Run.auto rfl ?_ | ((first | (apply Run.lq rfl rfl rfl rfl; (focus (intro w K hK; go_simp; exact hK))) | (refine Run.ln rfl rfl rfl rfl rfl (by kernel_rfl) ?_) | (refine Run.not rfl rfl ?_)); try simp only [Act.put, Act.eval, nrmL, Nat.reduceAdd]) | (refine Run.rg ?_; simp only [nrmL, rngL, Nat.reduceAdd]) | refine Run.cT rfl ?_ | refine Run.cF rfl ?_ | refine Run.rt ?_ | refine Run.nd ?_)
  refine Run.ctl (fun _ => stepG_loop) rfl ?_
  exact hlp _ _ _ _ _ _ _ _ _ _ _ _ _ _ _ _ _ _ _ _ _ _ _ _ _ _ _ _ _ _ _ _ _ _ _ _ _ _ _ _ _ _ _ _ _ _ _ _ _ _ _ _ _ _ _ _ _ (by first | trivial | omega) (by first | trivial | omega) K4 ha4 hst4 hdo4 L4
end
end Go.Proofs.Ytfpkachoneaaeaa
