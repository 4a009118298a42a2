/-
  sync.Mutex in company: nobody else is there; Lock and Unlock, called and put off.
-/
import Derived.Test.YtfpkachoneaaeaaBbRun
import Derived.Test.YtfpkachoneaaeaaProg
set_option linter.unusedSimpArgs false
set_option linter.unusedVariables false
namespace Go.Proofs.Ytfpkachoneaaeaa
open Go Go.Conc
section
variable {Post : Value → World → Prop} {Z : Scene} {n h k : Nat} {w : World}
set_option maxRecDepth 20000 in
set_option maxHeartbeats 800000 in
theorem ilock_run {a : Addr} {c : Frame} {cs : List Frame} (hc : w.cell? a = some (.int .i32 0)) (hz : w.frozen? a = false) (hp : ¬ Z.Place a) (hC : ¬ Z.C a.block) (H : Run Try.prog Post Z n h k (G (c.finish (.tuple #[])) cs) (w.setCell a (.int .i32 1))) :
    Run Try.prog Post Z n h k (G ((base 34).at { tmps := #[.pointer (some a)] ++ Array.replicate (Try.f34.ntmps - 1) undef, defers := [] } [.code (Try.f34.body.getD .skip)]) (c :: cs)) w := by
  simp only [Try.ntmps34]
  try simp only [Act.put, Act.eval, nrmL, Nat.reduceAdd, Nat.reduceSub]
  simp only [Try.f34, Option.getD_some]
  repeat (first | refine Run.auto rfl ?_ | ((first | (refine Run.quietop rfl rfl rfl (by decide) ?_ ?_; (focus (intro w₁; simp [go_sem]; done)); intro w₁ K hK; go_simp; refine hK _ ?_; clear hK K w₁) | (refine Run.not rfl rfl ?_)); try simp only [Act.put, Act.eval, nrmL, Nat.reduceAdd]) | (refine Run.rg ?_; simp only [nrmL, rngL, Nat.reduceAdd]) | refine Run.cT rfl ?_ | refine Run.cF rfl ?_ | refine Run.rt ?_ | refine Run.nd ?_)
  refine Run.mark0 (m := .disable) (by simp) rfl rfl (by decide) rfl Try.func36 (by kernel_rfl) (by kernel_rfl) (by kernel_rfl) (by kernel_rfl) evX_disable ?_
  rw [deaf_dis]
  try simp only [Act.put, Act.eval, nrmL, Nat.reduceAdd]
  repeat (first | refine Run.auto rfl ?_ | ((first | (refine Run.quietop rfl rfl rfl (by decide) ?_ ?_; (focus (intro w₁; simp [go_sem]; done)); intro w₁ K hK; go_simp; refine hK _ ?_; clear hK K w₁) | (refine Run.not rfl rfl ?_)); try simp only [Act.put, Act.eval, nrmL, Nat.reduceAdd]) | (refine Run.rg ?_; simp only [nrmL, rngL, Nat.reduceAdd]) | refine Run.cT rfl ?_ | refine Run.cF rfl ?_ | refine Run.rt ?_ | refine Run.nd ?_)
  refine Run.cas (ty := .i32) rfl rfl (by decide) rfl Try.func58 (by kernel_rfl) (by kernel_rfl) (by kernel_rfl) (by kernel_rfl) rfl rfl rfl hc hz hp hC ?_
  try simp only [Act.put, Act.eval, nrmL, Nat.reduceAdd]
  repeat (first | refine Run.auto rfl ?_ | ((first | (refine Run.quietop rfl rfl rfl (by decide) ?_ ?_; (focus (intro w₁; simp [go_sem]; done)); intro w₁ K hK; go_simp; refine hK _ ?_; clear hK K w₁) | (refine Run.not rfl rfl ?_)); try simp only [Act.put, Act.eval, nrmL, Nat.reduceAdd]) | (refine Run.rg ?_; simp only [nrmL, rngL, Nat.reduceAdd]) | refine Run.cT rfl ?_ | refine Run.cF rfl ?_ | refine Run.rt ?_ | refine Run.nd ?_)
  refine Run.mark0 (m := .enable) (by simp) rfl rfl (by decide) rfl Try.func38 (by kernel_rfl) (by kernel_rfl) (by kernel_rfl) (by kernel_rfl) evX_enable ?_
  rw [deaf_en]
  try simp only [Act.put, Act.eval, nrmL, Nat.reduceAdd]
  repeat (first | refine Run.auto rfl ?_ | ((first | (refine Run.quietop rfl rfl rfl (by decide) ?_ ?_; (focus (intro w₁; simp [go_sem]; done)); intro w₁ K hK; go_simp; refine hK _ ?_; clear hK K w₁) | (refine Run.not rfl rfl ?_)); try simp only [Act.put, Act.eval, nrmL, Nat.reduceAdd]) | (refine Run.rg ?_; simp only [nrmL, rngL, Nat.reduceAdd]) | refine Run.cT rfl ?_ | refine Run.cF rfl ?_ | refine Run.rt ?_ | refine Run.nd ?_)
  refine Run.unsafe_ (t := 47) (v := .int .i32 1) rfl rfl (by decide) rfl (by kernel_rfl) (by kernel_rfl) (by kernel_rfl) rfl (World.cell?_setCell_same _ _ _ hc) ?_
  try simp only [Act.put, Act.eval, nrmL, Nat.reduceAdd]
  refine Run.markAt (a := a) .acquire (by simp) rfl rfl (by decide) rfl Try.func39 (by kernel_rfl) (by kernel_rfl) (by kernel_rfl) (by kernel_rfl) (by simp [Act.eval]) (evQ_acquire _) ?_
  try simp only [Act.put, Act.eval, nrmL, Nat.reduceAdd]
  repeat (first | refine Run.auto rfl ?_ | ((first | (refine Run.quietop rfl rfl rfl (by decide) ?_ ?_; (focus (intro w₁; simp [go_sem]; done)); intro w₁ K hK; go_simp; refine hK _ ?_; clear hK K w₁) | (refine Run.not rfl rfl ?_)); try simp only [Act.put, Act.eval, nrmL, Nat.reduceAdd]) | (refine Run.rg ?_; simp only [nrmL, rngL, Nat.reduceAdd]) | refine Run.cT rfl ?_ | refine Run.cF rfl ?_ | refine Run.rt ?_ | refine Run.nd ?_)
  refine Run.leave0 rfl rfl Try.func34 (by rfl) ?_
  exact H
set_option maxRecDepth 20000 in
set_option maxHeartbeats 800000 in
theorem lock_run {a : Addr} {c : Frame} {cs : List Frame} (hc : w.cell? a = some (.int .i32 0)) (hz : w.frozen? a = false) (hp : ¬ Z.Place a) (hC : ¬ Z.C a.block) (H : Run Try.prog Post Z n h k (G (c.finish (.tuple #[])) cs) (w.setCell a (.int .i32 1))) :
    Run Try.prog Post Z n h k (G ((base 24).at { tmps := #[.pointer (some a)] ++ Array.replicate (Try.f24.ntmps - 1) undef, defers := [] } [.code (Try.f24.body.getD .skip)]) (c :: cs)) w := by
  simp only [Try.ntmps24]
  try simp only [Act.put, Act.eval, nrmL, Nat.reduceAdd, Nat.reduceSub]
  simp only [Try.f24, Option.getD_some]
  repeat (first | refine Run.auto rfl ?_ | ((first | (refine Run.quietop rfl rfl rfl (by decide) ?_ ?_; (focus (intro w₁; simp [go_sem]; done)); intro w₁ K hK; go_simp; refine hK _ ?_; clear hK K w₁) | (refine Run.not rfl rfl ?_)); try simp only [Act.put, Act.eval, nrmL, Nat.reduceAdd]) | (refine Run.rg ?_; simp only [nrmL, rngL, Nat.reduceAdd]) | refine Run.cT rfl ?_ | refine Run.cF rfl ?_ | refine Run.rt ?_ | refine Run.nd ?_)
  refine Run.enter rfl rfl (by decide) rfl Try.func34 (by kernel_rfl) rfl ?_
  simp only [Act.eval, nrmL, Nat.reduceAdd]
  refine ilock_run (a := a) hc hz hp hC ?_
  rw [Frame.finish_at]
  try simp only [Act.put, Act.eval, nrmL, Nat.reduceAdd]
  repeat (first | refine Run.auto rfl ?_ | ((first | (refine Run.quietop rfl rfl rfl (by decide) ?_ ?_; (focus (intro w₁; simp [go_sem]; done)); intro w₁ K hK; go_simp; refine hK _ ?_; clear hK K w₁) | (refine Run.not rfl rfl ?_)); try simp only [Act.put, Act.eval, nrmL, Nat.reduceAdd]) | (refine Run.rg ?_; simp only [nrmL, rngL, Nat.reduceAdd]) | refine Run.cT rfl ?_ | refine Run.cF rfl ?_ | refine Run.rt ?_ | refine Run.nd ?_)
  refine Run.leave0 rfl rfl Try.func24 (by rfl) ?_
  exact H
theorem set_get {a : Addr} {u v : Value} (h : w.cell? a = some u) : (w.setCell a v).cell? a = some v := World.cell?_setCell_same _ _ _ h
set_option maxRecDepth 20000 in
set_option maxHeartbeats 800000 in
theorem iunlock_run {a : Addr} {c : Frame} {cs : List Frame} (hc : w.cell? a = some (.int .i32 1)) (hz : w.frozen? a = false) (hp : ¬ Z.Place a) (hs : ¬ Z.Sh (.cell a)) (hC : ¬ Z.C a.block) (H : Run Try.prog Post Z n h k (G (c.finish (.tuple #[])) cs) (w.setCell a (.int .i32 0))) :
    Run Try.prog Post Z n h k (G ((base 35).at { tmps := #[.pointer (some a)] ++ Array.replicate (Try.f35.ntmps - 1) undef, defers := [] } [.code (Try.f35.body.getD .skip)]) (c :: cs)) w := by
  simp only [Try.ntmps35]
  try simp only [Act.put, Act.eval, nrmL, Nat.reduceAdd, Nat.reduceSub]
  simp only [Try.f35, Option.getD_some]
  repeat (first | refine Run.auto rfl ?_ | ((first | (refine Run.quietop rfl rfl rfl (by decide) ?_ ?_; (focus (intro w₁; simp [go_sem]; done)); intro w₁ K hK; go_simp; refine hK _ ?_; clear hK K w₁) | (refine Run.not rfl rfl ?_)); try simp only [Act.put, Act.eval, nrmL, Nat.reduceAdd]) | (refine Run.rg ?_; simp only [nrmL, rngL, Nat.reduceAdd]) | refine Run.cT rfl ?_ | refine Run.cF rfl ?_ | refine Run.rt ?_ | refine Run.nd ?_)
  refine Run.ld (a := a) (v := .int .i32 1) rfl rfl (by decide) (hc) (hs) (fun w₁ hld => ⟨by go_simp, by simp [go_sem, hld]⟩) ?_
  try simp only [Act.put, Act.eval, nrmL, Nat.reduceAdd]
  repeat (first | refine Run.auto rfl ?_ | ((first | (refine Run.quietop rfl rfl rfl (by decide) ?_ ?_; (focus (intro w₁; simp [go_sem]; done)); intro w₁ K hK; go_simp; refine hK _ ?_; clear hK K w₁) | (refine Run.not rfl rfl ?_)); try simp only [Act.put, Act.eval, nrmL, Nat.reduceAdd]) | (refine Run.rg ?_; simp only [nrmL, rngL, Nat.reduceAdd]) | refine Run.cT rfl ?_ | refine Run.cF rfl ?_ | refine Run.rt ?_ | refine Run.nd ?_)
  refine Run.unsafe_ (t := 47) (v := .int .i32 1) rfl rfl (by decide) rfl (by kernel_rfl) (by kernel_rfl) (by kernel_rfl) rfl hc ?_
  try simp only [Act.put, Act.eval, nrmL, Nat.reduceAdd]
  refine Run.markAt (a := a) .releaseMerge (by simp) rfl rfl (by decide) rfl Try.func49 (by kernel_rfl) (by kernel_rfl) (by kernel_rfl) (by kernel_rfl) (by simp [Act.eval]) (evQ_releaseMerge _) ?_
  try simp only [Act.put, Act.eval, nrmL, Nat.reduceAdd]
  repeat (first | refine Run.auto rfl ?_ | ((first | (refine Run.quietop rfl rfl rfl (by decide) ?_ ?_; (focus (intro w₁; simp [go_sem]; done)); intro w₁ K hK; go_simp; refine hK _ ?_; clear hK K w₁) | (refine Run.not rfl rfl ?_)); try simp only [Act.put, Act.eval, nrmL, Nat.reduceAdd]) | (refine Run.rg ?_; simp only [nrmL, rngL, Nat.reduceAdd]) | refine Run.cT rfl ?_ | refine Run.cF rfl ?_ | refine Run.rt ?_ | refine Run.nd ?_)
  refine Run.mark0 (m := .disable) (by simp) rfl rfl (by decide) rfl Try.func36 (by kernel_rfl) (by kernel_rfl) (by kernel_rfl) (by kernel_rfl) evX_disable ?_
  rw [deaf_dis]
  try simp only [Act.put, Act.eval, nrmL, Nat.reduceAdd]
  repeat (first | refine Run.auto rfl ?_ | ((first | (refine Run.quietop rfl rfl rfl (by decide) ?_ ?_; (focus (intro w₁; simp [go_sem]; done)); intro w₁ K hK; go_simp; refine hK _ ?_; clear hK K w₁) | (refine Run.not rfl rfl ?_)); try simp only [Act.put, Act.eval, nrmL, Nat.reduceAdd]) | (refine Run.rg ?_; simp only [nrmL, rngL, Nat.reduceAdd]) | refine Run.cT rfl ?_ | refine Run.cF rfl ?_ | refine Run.rt ?_ | refine Run.nd ?_)
  refine Run.add (ty := .i32) (v := 1) (u := -1) rfl rfl (by decide) rfl Try.func60 (by kernel_rfl) (by kernel_rfl) (by kernel_rfl) (by kernel_rfl) rfl rfl hc hz hp hC ?_
  try simp only [Act.put, Act.eval, nrmL, Nat.reduceAdd]
  repeat (first | refine Run.auto rfl ?_ | ((first | (refine Run.quietop rfl rfl rfl (by decide) ?_ ?_; (focus (intro w₁; simp [go_sem]; done)); intro w₁ K hK; go_simp; refine hK _ ?_; clear hK K w₁) | (refine Run.not rfl rfl ?_)); try simp only [Act.put, Act.eval, nrmL, Nat.reduceAdd]) | (refine Run.rg ?_; simp only [nrmL, rngL, Nat.reduceAdd]) | refine Run.cT rfl ?_ | refine Run.cF rfl ?_ | refine Run.rt ?_ | refine Run.nd ?_)
  refine Run.mark0 (m := .enable) (by simp) rfl rfl (by decide) rfl Try.func38 (by kernel_rfl) (by kernel_rfl) (by kernel_rfl) (by kernel_rfl) evX_enable ?_
  rw [deaf_en]
  try simp only [Act.put, Act.eval, nrmL, Nat.reduceAdd]
  repeat (first | refine Run.auto rfl ?_ | ((first | (refine Run.quietop rfl rfl rfl (by decide) ?_ ?_; (focus (intro w₁; simp [go_sem]; done)); intro w₁ K hK; go_simp; refine hK _ ?_; clear hK K w₁) | (refine Run.not rfl rfl ?_)); try simp only [Act.put, Act.eval, nrmL, Nat.reduceAdd]) | (refine Run.rg ?_; simp only [nrmL, rngL, Nat.reduceAdd]) | refine Run.cT rfl ?_ | refine Run.cF rfl ?_ | refine Run.rt ?_ | refine Run.nd ?_)
  refine Run.leave0 rfl rfl Try.func35 (by rfl) ?_
  exact H
set_option maxRecDepth 20000 in
set_option maxHeartbeats 800000 in
theorem unlock_run {a : Addr} {c : Frame} {cs : List Frame} (hc : w.cell? a = some (.int .i32 1)) (hz : w.frozen? a = false) (hp : ¬ Z.Place a) (hs : ¬ Z.Sh (.cell a)) (hC : ¬ Z.C a.block) (H : Run Try.prog Post Z n h k (G (c.finish (.tuple #[])) cs) (w.setCell a (.int .i32 0))) :
    Run Try.prog Post Z n h k (G ((base 25).at { tmps := #[.pointer (some a)] ++ Array.replicate (Try.f25.ntmps - 1) undef, defers := [] } [.code (Try.f25.body.getD .skip)]) (c :: cs)) w := by
  simp only [Try.ntmps25]
  try simp only [Act.put, Act.eval, nrmL, Nat.reduceAdd, Nat.reduceSub]
  simp only [Try.f25, Option.getD_some]
  repeat (first | refine Run.auto rfl ?_ | ((first | (refine Run.quietop rfl rfl rfl (by decide) ?_ ?_; (focus (intro w₁; simp [go_sem]; done)); intro w₁ K hK; go_simp; refine hK _ ?_; clear hK K w₁) | (refine Run.not rfl rfl ?_)); try simp only [Act.put, Act.eval, nrmL, Nat.reduceAdd]) | (refine Run.rg ?_; simp only [nrmL, rngL, Nat.reduceAdd]) | refine Run.cT rfl ?_ | refine Run.cF rfl ?_ | refine Run.rt ?_ | refine Run.nd ?_)
  refine Run.enter rfl rfl (by decide) rfl Try.func35 (by kernel_rfl) rfl ?_
  simp only [Act.eval, nrmL, Nat.reduceAdd]
  refine iunlock_run (a := a) hc hz hp hs hC ?_
  rw [Frame.finish_at]
  try simp only [Act.put, Act.eval, nrmL, Nat.reduceAdd]
  repeat (first | refine Run.auto rfl ?_ | ((first | (refine Run.quietop rfl rfl rfl (by decide) ?_ ?_; (focus (intro w₁; simp [go_sem]; done)); intro w₁ K hK; go_simp; refine hK _ ?_; clear hK K w₁) | (refine Run.not rfl rfl ?_)); try simp only [Act.put, Act.eval, nrmL, Nat.reduceAdd]) | (refine Run.rg ?_; simp only [nrmL, rngL, Nat.reduceAdd]) | refine Run.cT rfl ?_ | refine Run.cF rfl ?_ | refine Run.rt ?_ | refine Run.nd ?_)
  refine Run.leave0 rfl rfl Try.func25 (by rfl) ?_
  exact H
set_option maxRecDepth 20000 in
set_option maxHeartbeats 800000 in
theorem unlock_runD {a : Addr} {c : Frame} {cs : List Frame} (hc : w.cell? a = some (.int .i32 1)) (hz : w.frozen? a = false) (hp : ¬ Z.Place a) (hs : ¬ Z.Sh (.cell a)) (hC : ¬ Z.C a.block) (hm : c.mode = .returning) (H : Run Try.prog Post Z n h k (G c cs) (w.setCell a (.int .i32 0))) :
    Run Try.prog Post Z n h k (G ((baseD 25).at { tmps := #[.pointer (some a)] ++ Array.replicate (Try.f25.ntmps - 1) undef, defers := [] } [.code (Try.f25.body.getD .skip)]) (c :: cs)) w := by
  simp only [Try.ntmps25]
  try simp only [Act.put, Act.eval, nrmL, Nat.reduceAdd, Nat.reduceSub]
  simp only [Try.f25, Option.getD_some]
  repeat (first | refine Run.auto rfl ?_ | ((first | (refine Run.quietop rfl rfl rfl (by decide) ?_ ?_; (focus (intro w₁; simp [go_sem]; done)); intro w₁ K hK; go_simp; refine hK _ ?_; clear hK K w₁) | (refine Run.not rfl rfl ?_)); try simp only [Act.put, Act.eval, nrmL, Nat.reduceAdd]) | (refine Run.rg ?_; simp only [nrmL, rngL, Nat.reduceAdd]) | refine Run.cT rfl ?_ | refine Run.cF rfl ?_ | refine Run.rt ?_ | refine Run.nd ?_)
  refine Run.enter rfl rfl (by decide) rfl Try.func35 (by kernel_rfl) rfl ?_
  simp only [Act.eval, nrmL, Nat.reduceAdd]
  refine iunlock_run (a := a) hc hz hp hs hC ?_
  rw [Frame.finish_at]
  try simp only [Act.put, Act.eval, nrmL, Nat.reduceAdd]
  repeat (first | refine Run.auto rfl ?_ | ((first | (refine Run.quietop rfl rfl rfl (by decide) ?_ ?_; (focus (intro w₁; simp [go_sem]; done)); intro w₁ K hK; go_simp; refine hK _ ?_; clear hK K w₁) | (refine Run.not rfl rfl ?_)); try simp only [Act.put, Act.eval, nrmL, Nat.reduceAdd]) | (refine Run.rg ?_; simp only [nrmL, rngL, Nat.reduceAdd]) | refine Run.cT rfl ?_ | refine Run.cF rfl ?_ | refine Run.rt ?_ | refine Run.nd ?_)
  refine Run.leaveD rfl rfl Try.func25 (by rfl) hm ?_
  exact H
end
end Go.Proofs.Ytfpkachoneaaeaa
