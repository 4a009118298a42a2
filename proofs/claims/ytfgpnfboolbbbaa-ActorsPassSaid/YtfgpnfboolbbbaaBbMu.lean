/-
  sync.Mutex in company: nobody else is there; Lock and Unlock, called and put off.
-/
import Derived.Test.YtfgpnfboolbbbaaBbRun
import Derived.Test.YtfgpnfboolbbbaaProg
namespace Go.Proofs.Ytfgpnfboolbbbaa
open Go Go.Conc
section
variable {Post : Value → World → Prop} {Z : Scene} {n h k : Nat} {w : World}
set_option maxRecDepth 20000 in
set_option maxHeartbeats 800000 in
theorem ilock_run {a : Addr} {c : Frame} {cs : List Frame} (hc : w.cell? a = some (.int .i32 0)) (hz : w.frozen? a = false) (hp : ¬ Z.Place a) (hC : ¬ Z.C a.block) (H : Run Try.prog Post Z n h k (G (c.finish (.tuple #[])) cs) (w.setCell a (.int .i32 1))) :
    Run Try.prog Post Z n h k (G ((base 32).at { tmps := #[.pointer (some a)] ++ Array.replicate (Try.f32.ntmps - 1) undef, defers := [] } [.code (Try.f32.body.getD .skip)]) (c :: cs)) w := by
  simp only [Try.ntmps32]
  try simp only [Act.put, Act.eval, nrmL, Nat.reduceAdd, Nat.reduceSub]
  simp only [Try.f32, Option.getD_some]
  repeat (first
    | refine Run.auto rfl ?_
    | ((first | (refine Run.quietop rfl rfl rfl (by decide) ?_ ?_; (focus (intro w₁; simp [go_sem]; done)); intro w₁ K hK; go_simp; refine hK _ ?_; clear hK K w₁) | (refine Run.lookq theEnv rfl rfl rfl (by decide) rfl (fun _ _ q => by cases q) ?_; apply Exists.intro; apply And.intro; (focus (intro w; apply run_eq_of'; intro K hK; go_simp; exact hK))) | (refine Run.len theEnv rfl rfl (by decide) rfl rfl (by kernel_rfl) ?_) | (refine Run.not rfl rfl ?_)); try simp only [Act.put, Act.eval, nrmL, Nat.reduceAdd])
    | (refine Run.ctl (fun _ => stepG_region) rfl ?_; simp only [nrmL, Nat.reduceAdd, Nat.zero_add, List.range, List.range.loop])
    | (refine Run.ctl (fun _ => stepG_cond (t := true) rfl) rfl ?_; simp only [if_true])
    | (refine Run.ctl (fun _ => stepG_cond (t := false) rfl) rfl ?_; simp only [Bool.false_eq_true, if_false])
    | refine Run.ctl (fun _ => stepG_ret') rfl ?_
    | refine Run.ctl (fun _ => stepG_end) rfl ?_)
  refine Run.mark0 (m := .disable) (by simp) rfl rfl (by decide) rfl Try.func34 (by kernel_rfl) (by kernel_rfl) (by kernel_rfl) (by kernel_rfl) evX_disable ?_
  rw [deaf_dis]
  try simp only [Act.put, Act.eval, nrmL, Nat.reduceAdd]
  repeat (first
    | refine Run.auto rfl ?_
    | ((first | (refine Run.quietop rfl rfl rfl (by decide) ?_ ?_; (focus (intro w₁; simp [go_sem]; done)); intro w₁ K hK; go_simp; refine hK _ ?_; clear hK K w₁) | (refine Run.lookq theEnv rfl rfl rfl (by decide) rfl (fun _ _ q => by cases q) ?_; apply Exists.intro; apply And.intro; (focus (intro w; apply run_eq_of'; intro K hK; go_simp; exact hK))) | (refine Run.len theEnv rfl rfl (by decide) rfl rfl (by kernel_rfl) ?_) | (refine Run.not rfl rfl ?_)); try simp only [Act.put, Act.eval, nrmL, Nat.reduceAdd])
    | (refine Run.ctl (fun _ => stepG_region) rfl ?_; simp only [nrmL, Nat.reduceAdd, Nat.zero_add, List.range, List.range.loop])
    | (refine Run.ctl (fun _ => stepG_cond (t := true) rfl) rfl ?_; simp only [if_true])
    | (refine Run.ctl (fun _ => stepG_cond (t := false) rfl) rfl ?_; simp only [Bool.false_eq_true, if_false])
    | refine Run.ctl (fun _ => stepG_ret') rfl ?_
    | refine Run.ctl (fun _ => stepG_end) rfl ?_)
  refine Run.cas (ty := .i32) rfl rfl (by decide) rfl Try.func56 (by kernel_rfl) (by kernel_rfl) (by kernel_rfl) (by kernel_rfl) rfl rfl rfl hc hz hp hC ?_
  try simp only [Act.put, Act.eval, nrmL, Nat.reduceAdd]
  repeat (first
    | refine Run.auto rfl ?_
    | ((first | (refine Run.quietop rfl rfl rfl (by decide) ?_ ?_; (focus (intro w₁; simp [go_sem]; done)); intro w₁ K hK; go_simp; refine hK _ ?_; clear hK K w₁) | (refine Run.lookq theEnv rfl rfl rfl (by decide) rfl (fun _ _ q => by cases q) ?_; apply Exists.intro; apply And.intro; (focus (intro w; apply run_eq_of'; intro K hK; go_simp; exact hK))) | (refine Run.len theEnv rfl rfl (by decide) rfl rfl (by kernel_rfl) ?_) | (refine Run.not rfl rfl ?_)); try simp only [Act.put, Act.eval, nrmL, Nat.reduceAdd])
    | (refine Run.ctl (fun _ => stepG_region) rfl ?_; simp only [nrmL, Nat.reduceAdd, Nat.zero_add, List.range, List.range.loop])
    | (refine Run.ctl (fun _ => stepG_cond (t := true) rfl) rfl ?_; simp only [if_true])
    | (refine Run.ctl (fun _ => stepG_cond (t := false) rfl) rfl ?_; simp only [Bool.false_eq_true, if_false])
    | refine Run.ctl (fun _ => stepG_ret') rfl ?_
    | refine Run.ctl (fun _ => stepG_end) rfl ?_)
  refine Run.mark0 (m := .enable) (by simp) rfl rfl (by decide) rfl Try.func36 (by kernel_rfl) (by kernel_rfl) (by kernel_rfl) (by kernel_rfl) evX_enable ?_
  rw [deaf_en]
  try simp only [Act.put, Act.eval, nrmL, Nat.reduceAdd]
  repeat (first
    | refine Run.auto rfl ?_
    | ((first | (refine Run.quietop rfl rfl rfl (by decide) ?_ ?_; (focus (intro w₁; simp [go_sem]; done)); intro w₁ K hK; go_simp; refine hK _ ?_; clear hK K w₁) | (refine Run.lookq theEnv rfl rfl rfl (by decide) rfl (fun _ _ q => by cases q) ?_; apply Exists.intro; apply And.intro; (focus (intro w; apply run_eq_of'; intro K hK; go_simp; exact hK))) | (refine Run.len theEnv rfl rfl (by decide) rfl rfl (by kernel_rfl) ?_) | (refine Run.not rfl rfl ?_)); try simp only [Act.put, Act.eval, nrmL, Nat.reduceAdd])
    | (refine Run.ctl (fun _ => stepG_region) rfl ?_; simp only [nrmL, Nat.reduceAdd, Nat.zero_add, List.range, List.range.loop])
    | (refine Run.ctl (fun _ => stepG_cond (t := true) rfl) rfl ?_; simp only [if_true])
    | (refine Run.ctl (fun _ => stepG_cond (t := false) rfl) rfl ?_; simp only [Bool.false_eq_true, if_false])
    | refine Run.ctl (fun _ => stepG_ret') rfl ?_
    | refine Run.ctl (fun _ => stepG_end) rfl ?_)
  refine Run.unsafe_ (t := 47) (v := .int .i32 1) rfl rfl (by decide) rfl (by kernel_rfl) (by kernel_rfl) (by kernel_rfl) rfl (World.cell?_setCell_same _ _ _ hc) ?_
  try simp only [Act.put, Act.eval, nrmL, Nat.reduceAdd]
  refine Run.markAt (a := a) .acquire (by simp) rfl rfl (by decide) rfl Try.func37 (by kernel_rfl) (by kernel_rfl) (by kernel_rfl) (by kernel_rfl) (by simp [Act.eval]) (evQ_acquire _) ?_
  try simp only [Act.put, Act.eval, nrmL, Nat.reduceAdd]
  repeat (first
    | refine Run.auto rfl ?_
    | ((first | (refine Run.quietop rfl rfl rfl (by decide) ?_ ?_; (focus (intro w₁; simp [go_sem]; done)); intro w₁ K hK; go_simp; refine hK _ ?_; clear hK K w₁) | (refine Run.lookq theEnv rfl rfl rfl (by decide) rfl (fun _ _ q => by cases q) ?_; apply Exists.intro; apply And.intro; (focus (intro w; apply run_eq_of'; intro K hK; go_simp; exact hK))) | (refine Run.len theEnv rfl rfl (by decide) rfl rfl (by kernel_rfl) ?_) | (refine Run.not rfl rfl ?_)); try simp only [Act.put, Act.eval, nrmL, Nat.reduceAdd])
    | (refine Run.ctl (fun _ => stepG_region) rfl ?_; simp only [nrmL, Nat.reduceAdd, Nat.zero_add, List.range, List.range.loop])
    | (refine Run.ctl (fun _ => stepG_cond (t := true) rfl) rfl ?_; simp only [if_true])
    | (refine Run.ctl (fun _ => stepG_cond (t := false) rfl) rfl ?_; simp only [Bool.false_eq_true, if_false])
    | refine Run.ctl (fun _ => stepG_ret') rfl ?_
    | refine Run.ctl (fun _ => stepG_end) rfl ?_)
  refine Run.leave0 rfl rfl Try.func32 (by rfl) ?_
  exact H
set_option maxRecDepth 20000 in
set_option maxHeartbeats 800000 in
theorem lock_run {a : Addr} {c : Frame} {cs : List Frame} (hc : w.cell? a = some (.int .i32 0)) (hz : w.frozen? a = false) (hp : ¬ Z.Place a) (hC : ¬ Z.C a.block) (H : Run Try.prog Post Z n h k (G (c.finish (.tuple #[])) cs) (w.setCell a (.int .i32 1))) :
    Run Try.prog Post Z n h k (G ((base 22).at { tmps := #[.pointer (some a)] ++ Array.replicate (Try.f22.ntmps - 1) undef, defers := [] } [.code (Try.f22.body.getD .skip)]) (c :: cs)) w := by
  simp only [Try.ntmps22]
  try simp only [Act.put, Act.eval, nrmL, Nat.reduceAdd, Nat.reduceSub]
  simp only [Try.f22, Option.getD_some]
  repeat (first
    | refine Run.auto rfl ?_
    | ((first | (refine Run.quietop rfl rfl rfl (by decide) ?_ ?_; (focus (intro w₁; simp [go_sem]; done)); intro w₁ K hK; go_simp; refine hK _ ?_; clear hK K w₁) | (refine Run.lookq theEnv rfl rfl rfl (by decide) rfl (fun _ _ q => by cases q) ?_; apply Exists.intro; apply And.intro; (focus (intro w; apply run_eq_of'; intro K hK; go_simp; exact hK))) | (refine Run.len theEnv rfl rfl (by decide) rfl rfl (by kernel_rfl) ?_) | (refine Run.not rfl rfl ?_)); try simp only [Act.put, Act.eval, nrmL, Nat.reduceAdd])
    | (refine Run.ctl (fun _ => stepG_region) rfl ?_; simp only [nrmL, Nat.reduceAdd, Nat.zero_add, List.range, List.range.loop])
    | (refine Run.ctl (fun _ => stepG_cond (t := true) rfl) rfl ?_; simp only [if_true])
    | (refine Run.ctl (fun _ => stepG_cond (t := false) rfl) rfl ?_; simp only [Bool.false_eq_true, if_false])
    | refine Run.ctl (fun _ => stepG_ret') rfl ?_
    | refine Run.ctl (fun _ => stepG_end) rfl ?_)
  refine Run.enter rfl rfl (by decide) rfl Try.func32 (by kernel_rfl) rfl ?_
  simp only [Act.eval, nrmL, Nat.reduceAdd]
  refine ilock_run (a := a) hc hz hp hC ?_
  rw [Frame.finish_at]
  try simp only [Act.put, Act.eval, nrmL, Nat.reduceAdd]
  repeat (first
    | refine Run.auto rfl ?_
    | ((first | (refine Run.quietop rfl rfl rfl (by decide) ?_ ?_; (focus (intro w₁; simp [go_sem]; done)); intro w₁ K hK; go_simp; refine hK _ ?_; clear hK K w₁) | (refine Run.lookq theEnv rfl rfl rfl (by decide) rfl (fun _ _ q => by cases q) ?_; apply Exists.intro; apply And.intro; (focus (intro w; apply run_eq_of'; intro K hK; go_simp; exact hK))) | (refine Run.len theEnv rfl rfl (by decide) rfl rfl (by kernel_rfl) ?_) | (refine Run.not rfl rfl ?_)); try simp only [Act.put, Act.eval, nrmL, Nat.reduceAdd])
    | (refine Run.ctl (fun _ => stepG_region) rfl ?_; simp only [nrmL, Nat.reduceAdd, Nat.zero_add, List.range, List.range.loop])
    | (refine Run.ctl (fun _ => stepG_cond (t := true) rfl) rfl ?_; simp only [if_true])
    | (refine Run.ctl (fun _ => stepG_cond (t := false) rfl) rfl ?_; simp only [Bool.false_eq_true, if_false])
    | refine Run.ctl (fun _ => stepG_ret') rfl ?_
    | refine Run.ctl (fun _ => stepG_end) rfl ?_)
  refine Run.leave0 rfl rfl Try.func22 (by rfl) ?_
  exact H
theorem set_get {a : Addr} {u v : Value} (h : w.cell? a = some u) : (w.setCell a v).cell? a = some v := World.cell?_setCell_same _ _ _ h
set_option maxRecDepth 20000 in
set_option maxHeartbeats 800000 in
theorem iunlock_run {a : Addr} {c : Frame} {cs : List Frame} (hc : w.cell? a = some (.int .i32 1)) (hz : w.frozen? a = false) (hp : ¬ Z.Place a) (hs : ¬ Z.Sh (.cell a)) (hC : ¬ Z.C a.block) (H : Run Try.prog Post Z n h k (G (c.finish (.tuple #[])) cs) (w.setCell a (.int .i32 0))) :
    Run Try.prog Post Z n h k (G ((base 33).at { tmps := #[.pointer (some a)] ++ Array.replicate (Try.f33.ntmps - 1) undef, defers := [] } [.code (Try.f33.body.getD .skip)]) (c :: cs)) w := by
  simp only [Try.ntmps33]
  try simp only [Act.put, Act.eval, nrmL, Nat.reduceAdd, Nat.reduceSub]
  simp only [Try.f33, Option.getD_some]
  repeat (first
    | refine Run.auto rfl ?_
    | ((first | (refine Run.quietop rfl rfl rfl (by decide) ?_ ?_; (focus (intro w₁; simp [go_sem]; done)); intro w₁ K hK; go_simp; refine hK _ ?_; clear hK K w₁) | (refine Run.lookq theEnv rfl rfl rfl (by decide) rfl (fun _ _ q => by cases q) ?_; apply Exists.intro; apply And.intro; (focus (intro w; apply run_eq_of'; intro K hK; go_simp; exact hK))) | (refine Run.len theEnv rfl rfl (by decide) rfl rfl (by kernel_rfl) ?_) | (refine Run.not rfl rfl ?_)); try simp only [Act.put, Act.eval, nrmL, Nat.reduceAdd])
    | (refine Run.ctl (fun _ => stepG_region) rfl ?_; simp only [nrmL, Nat.reduceAdd, Nat.zero_add, List.range, List.range.loop])
    | (refine Run.ctl (fun _ => stepG_cond (t := true) rfl) rfl ?_; simp only [if_true])
    | (refine Run.ctl (fun _ => stepG_cond (t := false) rfl) rfl ?_; simp only [Bool.false_eq_true, if_false])
    | refine Run.ctl (fun _ => stepG_ret') rfl ?_
    | refine Run.ctl (fun _ => stepG_end) rfl ?_)
  refine Run.ld (a := a) (v := .int .i32 1) rfl rfl (by decide) (hc) (hs) (fun w₁ hld => ⟨by go_simp, by simp [go_sem, hld]⟩) ?_
  try simp only [Act.put, Act.eval, nrmL, Nat.reduceAdd]
  repeat (first
    | refine Run.auto rfl ?_
    | ((first | (refine Run.quietop rfl rfl rfl (by decide) ?_ ?_; (focus (intro w₁; simp [go_sem]; done)); intro w₁ K hK; go_simp; refine hK _ ?_; clear hK K w₁) | (refine Run.lookq theEnv rfl rfl rfl (by decide) rfl (fun _ _ q => by cases q) ?_; apply Exists.intro; apply And.intro; (focus (intro w; apply run_eq_of'; intro K hK; go_simp; exact hK))) | (refine Run.len theEnv rfl rfl (by decide) rfl rfl (by kernel_rfl) ?_) | (refine Run.not rfl rfl ?_)); try simp only [Act.put, Act.eval, nrmL, Nat.reduceAdd])
    | (refine Run.ctl (fun _ => stepG_region) rfl ?_; simp only [nrmL, Nat.reduceAdd, Nat.zero_add, List.range, List.range.loop])
    | (refine Run.ctl (fun _ => stepG_cond (t := true) rfl) rfl ?_; simp only [if_true])
    | (refine Run.ctl (fun _ => stepG_cond (t := false) rfl) rfl ?_; simp only [Bool.false_eq_true, if_false])
    | refine Run.ctl (fun _ => stepG_ret') rfl ?_
    | refine Run.ctl (fun _ => stepG_end) rfl ?_)
  refine Run.unsafe_ (t := 47) (v := .int .i32 1) rfl rfl (by decide) rfl (by kernel_rfl) (by kernel_rfl) (by kernel_rfl) rfl hc ?_
  try simp only [Act.put, Act.eval, nrmL, Nat.reduceAdd]
  refine Run.markAt (a := a) .releaseMerge (by simp) rfl rfl (by decide) rfl Try.func47 (by kernel_rfl) (by kernel_rfl) (by kernel_rfl) (by kernel_rfl) (by simp [Act.eval]) (evQ_releaseMerge _) ?_
  try simp only [Act.put, Act.eval, nrmL, Nat.reduceAdd]
  repeat (first
    | refine Run.auto rfl ?_
    | ((first | (refine Run.quietop rfl rfl rfl (by decide) ?_ ?_; (focus (intro w₁; simp [go_sem]; done)); intro w₁ K hK; go_simp; refine hK _ ?_; clear hK K w₁) | (refine Run.lookq theEnv rfl rfl rfl (by decide) rfl (fun _ _ q => by cases q) ?_; apply Exists.intro; apply And.intro; (focus (intro w; apply run_eq_of'; intro K hK; go_simp; exact hK))) | (refine Run.len theEnv rfl rfl (by decide) rfl rfl (by kernel_rfl) ?_) | (refine Run.not rfl rfl ?_)); try simp only [Act.put, Act.eval, nrmL, Nat.reduceAdd])
    | (refine Run.ctl (fun _ => stepG_region) rfl ?_; simp only [nrmL, Nat.reduceAdd, Nat.zero_add, List.range, List.range.loop])
    | (refine Run.ctl (fun _ => stepG_cond (t := true) rfl) rfl ?_; simp only [if_true])
    | (refine Run.ctl (fun _ => stepG_cond (t := false) rfl) rfl ?_; simp only [Bool.false_eq_true, if_false])
    | refine Run.ctl (fun _ => stepG_ret') rfl ?_
    | refine Run.ctl (fun _ => stepG_end) rfl ?_)
  refine Run.mark0 (m := .disable) (by simp) rfl rfl (by decide) rfl Try.func34 (by kernel_rfl) (by kernel_rfl) (by kernel_rfl) (by kernel_rfl) evX_disable ?_
  rw [deaf_dis]
  try simp only [Act.put, Act.eval, nrmL, Nat.reduceAdd]
  repeat (first
    | refine Run.auto rfl ?_
    | ((first | (refine Run.quietop rfl rfl rfl (by decide) ?_ ?_; (focus (intro w₁; simp [go_sem]; done)); intro w₁ K hK; go_simp; refine hK _ ?_; clear hK K w₁) | (refine Run.lookq theEnv rfl rfl rfl (by decide) rfl (fun _ _ q => by cases q) ?_; apply Exists.intro; apply And.intro; (focus (intro w; apply run_eq_of'; intro K hK; go_simp; exact hK))) | (refine Run.len theEnv rfl rfl (by decide) rfl rfl (by kernel_rfl) ?_) | (refine Run.not rfl rfl ?_)); try simp only [Act.put, Act.eval, nrmL, Nat.reduceAdd])
    | (refine Run.ctl (fun _ => stepG_region) rfl ?_; simp only [nrmL, Nat.reduceAdd, Nat.zero_add, List.range, List.range.loop])
    | (refine Run.ctl (fun _ => stepG_cond (t := true) rfl) rfl ?_; simp only [if_true])
    | (refine Run.ctl (fun _ => stepG_cond (t := false) rfl) rfl ?_; simp only [Bool.false_eq_true, if_false])
    | refine Run.ctl (fun _ => stepG_ret') rfl ?_
    | refine Run.ctl (fun _ => stepG_end) rfl ?_)
  refine Run.add (ty := .i32) (v := 1) (u := -1) rfl rfl (by decide) rfl Try.func58 (by kernel_rfl) (by kernel_rfl) (by kernel_rfl) (by kernel_rfl) rfl rfl hc hz hp hC ?_
  try simp only [Act.put, Act.eval, nrmL, Nat.reduceAdd]
  repeat (first
    | refine Run.auto rfl ?_
    | ((first | (refine Run.quietop rfl rfl rfl (by decide) ?_ ?_; (focus (intro w₁; simp [go_sem]; done)); intro w₁ K hK; go_simp; refine hK _ ?_; clear hK K w₁) | (refine Run.lookq theEnv rfl rfl rfl (by decide) rfl (fun _ _ q => by cases q) ?_; apply Exists.intro; apply And.intro; (focus (intro w; apply run_eq_of'; intro K hK; go_simp; exact hK))) | (refine Run.len theEnv rfl rfl (by decide) rfl rfl (by kernel_rfl) ?_) | (refine Run.not rfl rfl ?_)); try simp only [Act.put, Act.eval, nrmL, Nat.reduceAdd])
    | (refine Run.ctl (fun _ => stepG_region) rfl ?_; simp only [nrmL, Nat.reduceAdd, Nat.zero_add, List.range, List.range.loop])
    | (refine Run.ctl (fun _ => stepG_cond (t := true) rfl) rfl ?_; simp only [if_true])
    | (refine Run.ctl (fun _ => stepG_cond (t := false) rfl) rfl ?_; simp only [Bool.false_eq_true, if_false])
    | refine Run.ctl (fun _ => stepG_ret') rfl ?_
    | refine Run.ctl (fun _ => stepG_end) rfl ?_)
  refine Run.mark0 (m := .enable) (by simp) rfl rfl (by decide) rfl Try.func36 (by kernel_rfl) (by kernel_rfl) (by kernel_rfl) (by kernel_rfl) evX_enable ?_
  rw [deaf_en]
  try simp only [Act.put, Act.eval, nrmL, Nat.reduceAdd]
  repeat (first
    | refine Run.auto rfl ?_
    | ((first | (refine Run.quietop rfl rfl rfl (by decide) ?_ ?_; (focus (intro w₁; simp [go_sem]; done)); intro w₁ K hK; go_simp; refine hK _ ?_; clear hK K w₁) | (refine Run.lookq theEnv rfl rfl rfl (by decide) rfl (fun _ _ q => by cases q) ?_; apply Exists.intro; apply And.intro; (focus (intro w; apply run_eq_of'; intro K hK; go_simp; exact hK))) | (refine Run.len theEnv rfl rfl (by decide) rfl rfl (by kernel_rfl) ?_) | (refine Run.not rfl rfl ?_)); try simp only [Act.put, Act.eval, nrmL, Nat.reduceAdd])
    | (refine Run.ctl (fun _ => stepG_region) rfl ?_; simp only [nrmL, Nat.reduceAdd, Nat.zero_add, List.range, List.range.loop])
    | (refine Run.ctl (fun _ => stepG_cond (t := true) rfl) rfl ?_; simp only [if_true])
    | (refine Run.ctl (fun _ => stepG_cond (t := false) rfl) rfl ?_; simp only [Bool.false_eq_true, if_false])
    | refine Run.ctl (fun _ => stepG_ret') rfl ?_
    | refine Run.ctl (fun _ => stepG_end) rfl ?_)
  refine Run.leave0 rfl rfl Try.func33 (by rfl) ?_
  exact H
set_option maxRecDepth 20000 in
set_option maxHeartbeats 800000 in
theorem unlock_run {a : Addr} {c : Frame} {cs : List Frame} (hc : w.cell? a = some (.int .i32 1)) (hz : w.frozen? a = false) (hp : ¬ Z.Place a) (hs : ¬ Z.Sh (.cell a)) (hC : ¬ Z.C a.block) (H : Run Try.prog Post Z n h k (G (c.finish (.tuple #[])) cs) (w.setCell a (.int .i32 0))) :
    Run Try.prog Post Z n h k (G ((base 23).at { tmps := #[.pointer (some a)] ++ Array.replicate (Try.f23.ntmps - 1) undef, defers := [] } [.code (Try.f23.body.getD .skip)]) (c :: cs)) w := by
  simp only [Try.ntmps23]
  try simp only [Act.put, Act.eval, nrmL, Nat.reduceAdd, Nat.reduceSub]
  simp only [Try.f23, Option.getD_some]
  repeat (first
    | refine Run.auto rfl ?_
    | ((first | (refine Run.quietop rfl rfl rfl (by decide) ?_ ?_; (focus (intro w₁; simp [go_sem]; done)); intro w₁ K hK; go_simp; refine hK _ ?_; clear hK K w₁) | (refine Run.lookq theEnv rfl rfl rfl (by decide) rfl (fun _ _ q => by cases q) ?_; apply Exists.intro; apply And.intro; (focus (intro w; apply run_eq_of'; intro K hK; go_simp; exact hK))) | (refine Run.len theEnv rfl rfl (by decide) rfl rfl (by kernel_rfl) ?_) | (refine Run.not rfl rfl ?_)); try simp only [Act.put, Act.eval, nrmL, Nat.reduceAdd])
    | (refine Run.ctl (fun _ => stepG_region) rfl ?_; simp only [nrmL, Nat.reduceAdd, Nat.zero_add, List.range, List.range.loop])
    | (refine Run.ctl (fun _ => stepG_cond (t := true) rfl) rfl ?_; simp only [if_true])
    | (refine Run.ctl (fun _ => stepG_cond (t := false) rfl) rfl ?_; simp only [Bool.false_eq_true, if_false])
    | refine Run.ctl (fun _ => stepG_ret') rfl ?_
    | refine Run.ctl (fun _ => stepG_end) rfl ?_)
  refine Run.enter rfl rfl (by decide) rfl Try.func33 (by kernel_rfl) rfl ?_
  simp only [Act.eval, nrmL, Nat.reduceAdd]
  refine iunlock_run (a := a) hc hz hp hs hC ?_
  rw [Frame.finish_at]
  try simp only [Act.put, Act.eval, nrmL, Nat.reduceAdd]
  repeat (first
    | refine Run.auto rfl ?_
    | ((first | (refine Run.quietop rfl rfl rfl (by decide) ?_ ?_; (focus (intro w₁; simp [go_sem]; done)); intro w₁ K hK; go_simp; refine hK _ ?_; clear hK K w₁) | (refine Run.lookq theEnv rfl rfl rfl (by decide) rfl (fun _ _ q => by cases q) ?_; apply Exists.intro; apply And.intro; (focus (intro w; apply run_eq_of'; intro K hK; go_simp; exact hK))) | (refine Run.len theEnv rfl rfl (by decide) rfl rfl (by kernel_rfl) ?_) | (refine Run.not rfl rfl ?_)); try simp only [Act.put, Act.eval, nrmL, Nat.reduceAdd])
    | (refine Run.ctl (fun _ => stepG_region) rfl ?_; simp only [nrmL, Nat.reduceAdd, Nat.zero_add, List.range, List.range.loop])
    | (refine Run.ctl (fun _ => stepG_cond (t := true) rfl) rfl ?_; simp only [if_true])
    | (refine Run.ctl (fun _ => stepG_cond (t := false) rfl) rfl ?_; simp only [Bool.false_eq_true, if_false])
    | refine Run.ctl (fun _ => stepG_ret') rfl ?_
    | refine Run.ctl (fun _ => stepG_end) rfl ?_)
  refine Run.leave0 rfl rfl Try.func23 (by rfl) ?_
  exact H
set_option maxRecDepth 20000 in
set_option maxHeartbeats 800000 in
theorem unlock_runD {a : Addr} {c : Frame} {cs : List Frame} (hc : w.cell? a = some (.int .i32 1)) (hz : w.frozen? a = false) (hp : ¬ Z.Place a) (hs : ¬ Z.Sh (.cell a)) (hC : ¬ Z.C a.block) (hm : c.mode = .returning) (H : Run Try.prog Post Z n h k (G c cs) (w.setCell a (.int .i32 0))) :
    Run Try.prog Post Z n h k (G ((baseD 23).at { tmps := #[.pointer (some a)] ++ Array.replicate (Try.f23.ntmps - 1) undef, defers := [] } [.code (Try.f23.body.getD .skip)]) (c :: cs)) w := by
  simp only [Try.ntmps23]
  try simp only [Act.put, Act.eval, nrmL, Nat.reduceAdd, Nat.reduceSub]
  simp only [Try.f23, Option.getD_some]
  repeat (first
    | refine Run.auto rfl ?_
    | ((first | (refine Run.quietop rfl rfl rfl (by decide) ?_ ?_; (focus (intro w₁; simp [go_sem]; done)); intro w₁ K hK; go_simp; refine hK _ ?_; clear hK K w₁) | (refine Run.lookq theEnv rfl rfl rfl (by decide) rfl (fun _ _ q => by cases q) ?_; apply Exists.intro; apply And.intro; (focus (intro w; apply run_eq_of'; intro K hK; go_simp; exact hK))) | (refine Run.len theEnv rfl rfl (by decide) rfl rfl (by kernel_rfl) ?_) | (refine Run.not rfl rfl ?_)); try simp only [Act.put, Act.eval, nrmL, Nat.reduceAdd])
    | (refine Run.ctl (fun _ => stepG_region) rfl ?_; simp only [nrmL, Nat.reduceAdd, Nat.zero_add, List.range, List.range.loop])
    | (refine Run.ctl (fun _ => stepG_cond (t := true) rfl) rfl ?_; simp only [if_true])
    | (refine Run.ctl (fun _ => stepG_cond (t := false) rfl) rfl ?_; simp only [Bool.false_eq_true, if_false])
    | refine Run.ctl (fun _ => stepG_ret') rfl ?_
    | refine Run.ctl (fun _ => stepG_end) rfl ?_)
  refine Run.enter rfl rfl (by decide) rfl Try.func33 (by kernel_rfl) rfl ?_
  simp only [Act.eval, nrmL, Nat.reduceAdd]
  refine iunlock_run (a := a) hc hz hp hs hC ?_
  rw [Frame.finish_at]
  try simp only [Act.put, Act.eval, nrmL, Nat.reduceAdd]
  repeat (first
    | refine Run.auto rfl ?_
    | ((first | (refine Run.quietop rfl rfl rfl (by decide) ?_ ?_; (focus (intro w₁; simp [go_sem]; done)); intro w₁ K hK; go_simp; refine hK _ ?_; clear hK K w₁) | (refine Run.lookq theEnv rfl rfl rfl (by decide) rfl (fun _ _ q => by cases q) ?_; apply Exists.intro; apply And.intro; (focus (intro w; apply run_eq_of'; intro K hK; go_simp; exact hK))) | (refine Run.len theEnv rfl rfl (by decide) rfl rfl (by kernel_rfl) ?_) | (refine Run.not rfl rfl ?_)); try simp only [Act.put, Act.eval, nrmL, Nat.reduceAdd])
    | (refine Run.ctl (fun _ => stepG_region) rfl ?_; simp only [nrmL, Nat.reduceAdd, Nat.zero_add, List.range, List.range.loop])
    | (refine Run.ctl (fun _ => stepG_cond (t := true) rfl) rfl ?_; simp only [if_true])
    | (refine Run.ctl (fun _ => stepG_cond (t := false) rfl) rfl ?_; simp only [Bool.false_eq_true, if_false])
    | refine Run.ctl (fun _ => stepG_ret') rfl ?_
    | refine Run.ctl (fun _ => stepG_end) rfl ?_)
  refine Run.leaveD rfl rfl Try.func23 (by rfl) hm ?_
  exact H
end
end Go.Proofs.Ytfgpnfboolbbbaa
