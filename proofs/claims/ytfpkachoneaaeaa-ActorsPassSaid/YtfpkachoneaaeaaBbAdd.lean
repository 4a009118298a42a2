/-
  sync.WaitGroup.Add(1) of the holder.
-/
import Derived.Test.YtfpkachoneaaeaaBbDone
set_option linter.unusedSimpArgs false
set_option linter.unusedVariables false
namespace Go.Proofs.Ytfpkachoneaaeaa
open Go Go.Conc
open Go.ConcN (st_flag st_waiters)
section
variable {Post : Value → World → Prop} {Z : Scene} {n h k S : Nat} {w : World}
theorem evQ_said_read (a : Addr) : EvQ Z ⟨.mark (.read a), false, true⟩ := by
  refine ⟨⟨fun x hx hw => ?_, fun x hx _ => ?_, fun b q => (by cases q)⟩, fun q => (by cases q), fun q => (by cases q)⟩
  · simp only [MemAct.ofEvent, MemAct.touch?, Option.some.injEq] at hx
    subst hx
    cases hw
  · simp only [MemAct.ofEvent, MemAct.touch?, Option.some.injEq] at hx
    subst hx
    simp
set_option maxRecDepth 50000 in
set_option maxHeartbeats 8000000 in
theorem addPos_run {c : Frame} {cs : List Frame} (v : Nat) (hv : v < 2147483646) (hc : w.cell? (wst S) = some (.int .u64 ((v : Int) * K32))) (hz : w.frozen? (wst S) = false) (hsm : (w.cell? (wsm S)).isSome = true) (hp : ¬ Z.Place (wst S)) (hC : ¬ Z.C S)
    (H : Run Try.prog Post Z n h k (G (c.finish (.tuple #[])) cs) (w.setCell (wst S) (.int .u64 (((v + 1 : Nat) : Int) * K32)))) :
    Run Try.prog Post Z n h k (G ((base 29).at { tmps := #[.pointer (some (wst S)), .int .i64 1] ++ Array.replicate (Try.f29.ntmps - 2) undef, defers := [] } [.code (Try.f29.body.getD .skip)]) (c :: cs)) w := by
  have hS : IntKind.u64.wrap ((v : Int) * K32 + 4294967296) = ((v + 1 : Nat) : Int) * K32 := by rw [IntKind.wrap_u64]; simp only [K32]; omega
  have e1 : IntKind.u64.wrap (IntKind.u64.wrap 1 * 4294967296) = 4294967296 := by decide
  obtain ⟨X, hX⟩ : ∃ X, ((v + 1 : Nat) : Int) * K32 = X := ⟨_, rfl⟩
  rw [hX] at H hS
  have a1 : X / 4294967296 = ((v + 1 : Nat) : Int) := by rw [← hX]; simp only [K32]; omega
  have a2 : 0 ≤ X ∧ X < 9223372036854775808 := by rw [← hX]; simp only [K32]; omega
  have b0 : bits .and .u64 X 2147483648 = 0 := by rw [← hX]; simpa using st_flag (v + 1) 0 (by omega) (by omega)
  have b1 : bits .and .u64 X 2147483647 = 0 := by rw [← hX]; simpa using st_waiters (v + 1) 0 (by omega) (by omega)
  have hk : ((v + 1 : Nat) : Int) = (v : Int) + 1 := by omega
  rw [hk] at a1
  have b3 : IntKind.i32.wrap ((v : Int) + 1) = (v : Int) + 1 := by rw [IntKind.wrap_i32]; omega
  have b2 : IntKind.u32.wrap 0 = 0 := by decide
  have b4 : IntKind.i32.wrap 1 = 1 := by decide
  have b5 : ¬ ((v : Int) + 1 < 0) := by omega
  have b6 : (0 : Int) < (v : Int) + 1 := by omega
  clear hX hk
  simp only [Try.ntmps29]
  try simp only [Act.put, Act.eval, nrmL, Nat.reduceAdd, Nat.reduceSub]
  simp only [Try.f29, Option.getD_some]
  repeat (first | refine Run.auto rfl ?_ | ((first | (refine Run.quietop rfl rfl rfl (by decide) ?_ ?_; (focus (intro w₁; simp [go_sem]; done)); intro w₁ K hK; go_simp; refine hK _ ?_; clear hK K w₁) | (refine Run.not rfl rfl ?_)); try simp only [Act.put, Act.eval, nrmL, Nat.reduceAdd]) | (refine Run.rg ?_; simp only [nrmL, rngL, Nat.reduceAdd]) | refine Run.cT rfl ?_ | refine Run.cF rfl ?_ | refine Run.rt ?_ | refine Run.nd ?_)
  refine Run.mark0 (m := .disable) (by simp) rfl rfl (by decide) rfl Try.func36 (by kernel_rfl) (by kernel_rfl) (by kernel_rfl) (by kernel_rfl) evX_disable ?_
  rw [deaf_dis]
  try simp only [Act.put, Act.eval, nrmL, Nat.reduceAdd]
  repeat (first | refine Run.auto rfl ?_ | ((first | (refine Run.quietop rfl rfl rfl (by decide) ?_ ?_; (focus (intro w₁; simp [go_sem]; done)); intro w₁ K hK; go_simp; refine hK _ ?_; clear hK K w₁) | (refine Run.not rfl rfl ?_)); try simp only [Act.put, Act.eval, nrmL, Nat.reduceAdd]) | (refine Run.rg ?_; simp only [nrmL, rngL, Nat.reduceAdd]) | refine Run.cT rfl ?_ | refine Run.cF rfl ?_ | refine Run.rt ?_ | refine Run.nd ?_)
  refine Run.defer rfl rfl (by decide) rfl ?_
  try simp only [Act.put, Act.eval, nrmL, Nat.reduceAdd]
  repeat (first | refine Run.auto rfl ?_ | ((first | (refine Run.quietop rfl rfl rfl (by decide) ?_ ?_; (focus (intro w₁; simp [go_sem]; done)); intro w₁ K hK; go_simp; refine hK _ ?_; clear hK K w₁) | (refine Run.not rfl rfl ?_)); try simp only [Act.put, Act.eval, nrmL, Nat.reduceAdd]) | (refine Run.rg ?_; simp only [nrmL, rngL, Nat.reduceAdd]) | refine Run.cT rfl ?_ | refine Run.cF rfl ?_ | refine Run.rt ?_ | refine Run.nd ?_)
  refine Run.pureEntry (.bool false) rfl rfl (by decide) rfl Try.func44 (by kernel_rfl) (by kernel_rfl) (by kernel_rfl) (by kernel_rfl) ?_
  try simp only [Act.put, Act.eval, nrmL, Nat.reduceAdd]
  repeat (first | refine Run.auto rfl ?_ | ((first | (refine Run.quietop rfl rfl rfl (by decide) ?_ ?_; (focus (intro w₁; simp [go_sem]; done)); intro w₁ K hK; go_simp; refine hK _ ?_; clear hK K w₁) | (refine Run.not rfl rfl ?_)); try simp only [Act.put, Act.eval, nrmL, Nat.reduceAdd]) | (refine Run.rg ?_; simp only [nrmL, rngL, Nat.reduceAdd]) | refine Run.cT rfl ?_ | refine Run.cF rfl ?_ | refine Run.rt ?_ | refine Run.nd ?_)
  refine Run.enter rfl rfl (by decide) rfl Try.func53 (by kernel_rfl) rfl ?_
  simp only [Try.ntmps53]
  try simp only [Act.put, Act.eval, nrmL, Nat.reduceAdd, Nat.reduceSub]
  repeat (first | refine Run.auto rfl ?_ | ((first | (refine Run.quietop rfl rfl rfl (by decide) ?_ ?_; (focus (intro w₁; simp [go_sem]; done)); intro w₁ K hK; go_simp; refine hK _ ?_; clear hK K w₁) | (refine Run.not rfl rfl ?_)); try simp only [Act.put, Act.eval, nrmL, Nat.reduceAdd]) | (refine Run.rg ?_; simp only [nrmL, rngL, Nat.reduceAdd]) | refine Run.cT rfl ?_ | refine Run.cF rfl ?_ | refine Run.rt ?_ | refine Run.nd ?_)
  clear e1
  refine Run.add (ty := .u64) (v := (v : Int) * K32) (u := 4294967296) rfl rfl (by decide) rfl Try.func68 (by kernel_rfl) (by kernel_rfl) (by kernel_rfl) (by kernel_rfl) rfl rfl hc hz hp hC ?_
  rw [hS]
  clear hS
  have hsm' : ((w.setCell (wst S) (.int .u64 X)).cell? (wsm S)).isSome = true := by
    rw [World.cell?_setCell_other _ _ _ _ (by simp)]
    exact hsm
  generalize w.setCell (wst S) (.int .u64 X) = w1 at H hsm'
  clear hc hz hp hC hsm
  obtain ⟨u1, hu1⟩ := Option.isSome_iff_exists.1 hsm'
  clear hsm'
  try simp only [Act.put, Act.eval, nrmL, Nat.reduceAdd]
  repeat (first | refine Run.auto rfl ?_ | ((first | (refine Run.quietop rfl rfl rfl (by decide) ?_ ?_; (focus (intro w₁; simp [go_sem]; done)); intro w₁ K hK; go_simp; refine hK _ ?_; clear hK K w₁) | (refine Run.not rfl rfl ?_)); try simp only [Act.put, Act.eval, nrmL, Nat.reduceAdd]) | (refine Run.rg ?_; simp only [nrmL, rngL, Nat.reduceAdd]) | refine Run.cT rfl ?_ | refine Run.cF rfl ?_ | refine Run.rt ?_ | refine Run.nd ?_)
  refine Run.leave1 rfl rfl Try.func53 (by rfl) ?_
  try rw [Frame.finish_at]
  try simp only [Act.put, Act.eval, nrmL, Nat.reduceAdd]
  repeat (first | refine Run.auto rfl ?_ | ((first | (refine Run.quietop rfl rfl rfl (by decide) ?_ ?_; (focus (intro w₁; simp [go_sem]; done)); intro w₁ K hK; go_simp; refine hK _ ?_; clear hK K w₁) | (refine Run.not rfl rfl ?_)); try simp only [Act.put, Act.eval, nrmL, Nat.reduceAdd]) | (refine Run.rg ?_; simp only [nrmL, rngL, Nat.reduceAdd]) | refine Run.cT rfl ?_ | refine Run.cF rfl ?_ | refine Run.rt ?_ | refine Run.nd ?_)
  by_cases h0 : v = 0
  · subst h0
    have c1 : ((0 : Nat) : Int) + 1 = 1 := by simp
    rw [c1] at a1 b3 b5 b6 ⊢
    clear c1
    repeat (first | refine Run.auto rfl ?_ | ((first | (refine Run.quietop rfl rfl rfl (by decide) ?_ ?_; (focus (intro w₁; simp [go_sem]; done)); intro w₁ K hK; go_simp; refine hK _ ?_; clear hK K w₁) | (refine Run.not rfl rfl ?_)); try simp only [Act.put, Act.eval, nrmL, Nat.reduceAdd]) | (refine Run.rg ?_; simp only [nrmL, rngL, Nat.reduceAdd]) | refine Run.cT rfl ?_ | refine Run.cF rfl ?_ | refine Run.rt ?_ | refine Run.nd ?_)
    refine Run.unsafe_ (t := 45) (a := wsm S) (v := u1) rfl rfl (by decide) rfl (by kernel_rfl) (by kernel_rfl) (by kernel_rfl) rfl hu1 ?_
    try simp only [Act.put, Act.eval, nrmL, Nat.reduceAdd]
    refine Run.markAt (a := wsm S) .read (by simp) rfl rfl (by decide) rfl Try.func54 (by kernel_rfl) (by kernel_rfl) (by kernel_rfl) (by kernel_rfl) (by simp [Act.eval]) (evQ_said_read _) ?_
    try simp only [Act.put, Act.eval, nrmL, Nat.reduceAdd]
    repeat (first | refine Run.auto rfl ?_ | ((first | (refine Run.quietop rfl rfl rfl (by decide) ?_ ?_; (focus (intro w₁; simp [go_sem]; done)); intro w₁ K hK; go_simp; refine hK _ ?_; clear hK K w₁) | (refine Run.not rfl rfl ?_)); try simp only [Act.put, Act.eval, nrmL, Nat.reduceAdd]) | (refine Run.rg ?_; simp only [nrmL, rngL, Nat.reduceAdd]) | refine Run.cT rfl ?_ | refine Run.cF rfl ?_ | refine Run.rt ?_ | refine Run.nd ?_)
    refine Run.unmark (m := .enable) (by simp) rfl Try.func38 (by kernel_rfl) (by kernel_rfl) (by kernel_rfl) (by kernel_rfl) evX_enable ?_
    rw [deaf_en]
    refine Run.leave0 rfl rfl Try.func29 (by rfl) ?_
    exact H
  · have c1 : ¬ ((v : Int) + 1 = 1) := by omega
    have c2 : ((v : Int) + 1 == 1) = false := by simpa using c1
    try simp only [c2, c1, decide_false]
    repeat (first | refine Run.auto rfl ?_ | ((first | (refine Run.quietop rfl rfl rfl (by decide) ?_ ?_; (focus (intro w₁; simp [go_sem]; done)); intro w₁ K hK; go_simp; refine hK _ ?_; clear hK K w₁) | (refine Run.not rfl rfl ?_)); try simp only [Act.put, Act.eval, nrmL, Nat.reduceAdd]) | (refine Run.rg ?_; simp only [nrmL, rngL, Nat.reduceAdd]) | refine Run.cT rfl ?_ | refine Run.cF rfl ?_ | refine Run.rt ?_ | refine Run.nd ?_)
    refine Run.unmark (m := .enable) (by simp) rfl Try.func38 (by kernel_rfl) (by kernel_rfl) (by kernel_rfl) (by kernel_rfl) evX_enable ?_
    rw [deaf_en]
    refine Run.leave0 rfl rfl Try.func29 (by rfl) ?_
    exact H
end
end Go.Proofs.Ytfpkachoneaaeaa
