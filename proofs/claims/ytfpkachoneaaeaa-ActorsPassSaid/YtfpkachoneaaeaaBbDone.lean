/-
  sync.WaitGroup.Done of a worker, in whatever company: to its word, to its Add, and behind it.
-/
import Derived.Test.YtfpkachoneaaeaaBbSt
import Derived.Test.YtfpkachoneaaeaaBbMu
import Derived.Conc.WgArith
set_option linter.unusedSimpArgs false
set_option linter.unusedVariables false
namespace Go.Proofs.Ytfpkachoneaaeaa
open Go Go.Conc
open Go.ConcN (st_flag st_waiters)
/-- Where the group lies: its state, its semaphore. -/
abbrev wst (S : Nat) : Addr := ⟨S, 5, none⟩
abbrev wsm (S : Nat) : Addr := ⟨S, 6, none⟩
theorem mayWake_entry' {P : Program} {b : Frame} {a : Act} {ops : Array Oper} {i : Nat} {rest : List Nat} {k : List Item} {cs : List Frame} {o : Oper} {f : FuncId} {fn : Func} {xs : Array Operand} {ats : Array TypeId} (ho : ops[i]? = some o)
    (hop : o.op = .call { callee := .value (.func f), args := xs, argTypes := ats }) (hf : P.funcs[f]? = some fn) (hb : fn.body.isNone = true) : mayWake P (G (b.at a (.inRegion ops (i :: rest) :: k)) cs) = true := by
  simp [mayWake, G, Frame.at, ho, hop, Frame.eval, hf]
  simpa using hb
section
variable {S : Nat} {c : Frame} {cs : List Frame}
set_option maxRecDepth 50000 in
set_option maxHeartbeats 4000000 in
theorem add_neg (hc : c.mode = .returning) (hend : Qt Try.prog false KT Ended 0 (G c cs)) : Qt Try.prog false (KS (wst S) (wsm S)) (AtRelm Try.prog (wst S) (wsm S)) 0
    (G ((baseD 57).at { tmps := #[.pointer (some (wst S))] ++ Array.replicate (Try.f57.ntmps - 1) undef, defers := [] } [.code (Try.f57.body.getD .skip)]) (c :: cs)) := by
  simp only [Try.ntmps57]
  try simp only [Act.put, Act.eval, nrmL, Nat.reduceAdd, Nat.reduceSub]
  simp only [Try.f57, Option.getD_some]
  repeat (first | refine Qt.auto rfl ?_ | ((first | (apply Qt.qo rfl rfl rfl (by decide) (fun _ => by simp [go_sem, *]); (focus (intro w K hK; go_simp; exact hK))) | refine Qt.not rfl rfl ?_); try simp only [Act.put, Act.eval, nrmL, Nat.reduceAdd]) | (refine Qt.rg ?_; simp only [nrmL, rngL, Nat.reduceAdd]) | refine Qt.cT rfl ?_ | refine Qt.cF rfl ?_ | refine Qt.rt ?_ | refine Qt.nd ?_)
  refine Qt.enter rfl rfl (by decide) rfl Try.func29 (by kernel_rfl) rfl ?_
  simp only [Try.ntmps29]
  try simp only [Act.put, Act.eval, nrmL, Nat.reduceAdd, Nat.reduceSub]
  repeat (first | refine Qt.auto rfl ?_ | ((first | (apply Qt.qo rfl rfl rfl (by decide) (fun _ => by simp [go_sem, *]); (focus (intro w K hK; go_simp; exact hK))) | refine Qt.not rfl rfl ?_); try simp only [Act.put, Act.eval, nrmL, Nat.reduceAdd]) | (refine Qt.rg ?_; simp only [nrmL, rngL, Nat.reduceAdd]) | refine Qt.cT rfl ?_ | refine Qt.cF rfl ?_ | refine Qt.rt ?_ | refine Qt.nd ?_)
  refine Qt.unsafe_ (t := 56) (a := wst S) rfl rfl (by decide) rfl (by kernel_rfl) (by kernel_rfl) (by kernel_rfl) rfl (fun w h => h.1) ?_
  try simp only [Act.put, Act.eval, nrmL, Nat.reduceAdd]
  refine Qt.stop ⟨rfl, rfl, _, ?_, fun w => stepG_markAt .releaseMerge (by simp) rfl rfl (by decide) rfl Try.func49 (by kernel_rfl) (by kernel_rfl) (by kernel_rfl) (by kernel_rfl) (ad := wst S) (by simp [Act.eval])⟩
  try simp only [Act.put, Act.eval, nrmL, Nat.reduceAdd]
  repeat (first | refine Qt.auto rfl ?_ | ((first | (apply Qt.qo rfl rfl rfl (by decide) (fun _ => by simp [go_sem, *]); (focus (intro w K hK; go_simp; exact hK))) | refine Qt.not rfl rfl ?_); try simp only [Act.put, Act.eval, nrmL, Nat.reduceAdd]) | (refine Qt.rg ?_; simp only [nrmL, rngL, Nat.reduceAdd]) | refine Qt.cT rfl ?_ | refine Qt.cF rfl ?_ | refine Qt.rt ?_ | refine Qt.nd ?_)
  refine Qt.mark0 (m := .disable) (by simp) rfl rfl (by decide) rfl Try.func36 (by kernel_rfl) (by kernel_rfl) (by kernel_rfl) (by kernel_rfl) rfl ?_
  rw [deaf_dis]
  try simp only [Act.put, Act.eval, nrmL, Nat.reduceAdd]
  repeat (first | refine Qt.auto rfl ?_ | ((first | (apply Qt.qo rfl rfl rfl (by decide) (fun _ => by simp [go_sem, *]); (focus (intro w K hK; go_simp; exact hK))) | refine Qt.not rfl rfl ?_); try simp only [Act.put, Act.eval, nrmL, Nat.reduceAdd]) | (refine Qt.rg ?_; simp only [nrmL, rngL, Nat.reduceAdd]) | refine Qt.cT rfl ?_ | refine Qt.cF rfl ?_ | refine Qt.rt ?_ | refine Qt.nd ?_)
  refine Qt.defer rfl rfl (by decide) rfl ?_
  try simp only [Act.put, Act.eval, nrmL, Nat.reduceAdd]
  repeat (first | refine Qt.auto rfl ?_ | ((first | (apply Qt.qo rfl rfl rfl (by decide) (fun _ => by simp [go_sem, *]); (focus (intro w K hK; go_simp; exact hK))) | refine Qt.not rfl rfl ?_); try simp only [Act.put, Act.eval, nrmL, Nat.reduceAdd]) | (refine Qt.rg ?_; simp only [nrmL, rngL, Nat.reduceAdd]) | refine Qt.cT rfl ?_ | refine Qt.cF rfl ?_ | refine Qt.rt ?_ | refine Qt.nd ?_)
  refine Qt.pureEntry (.bool false) rfl rfl (by decide) rfl Try.func44 (by kernel_rfl) (by kernel_rfl) (by kernel_rfl) (by kernel_rfl) ?_
  try simp only [Act.put, Act.eval, nrmL, Nat.reduceAdd]
  repeat (first | refine Qt.auto rfl ?_ | ((first | (apply Qt.qo rfl rfl rfl (by decide) (fun _ => by simp [go_sem, *]); (focus (intro w K hK; go_simp; exact hK))) | refine Qt.not rfl rfl ?_); try simp only [Act.put, Act.eval, nrmL, Nat.reduceAdd]) | (refine Qt.rg ?_; simp only [nrmL, rngL, Nat.reduceAdd]) | refine Qt.cT rfl ?_ | refine Qt.cF rfl ?_ | refine Qt.rt ?_ | refine Qt.nd ?_)
  refine Qt.enter rfl rfl (by decide) rfl Try.func53 (by kernel_rfl) rfl ?_
  simp only [Try.ntmps53]
  try simp only [Act.put, Act.eval, nrmL, Nat.reduceAdd, Nat.reduceSub]
  repeat (first | refine Qt.auto rfl ?_ | ((first | (apply Qt.qo rfl rfl rfl (by decide) (fun _ => by simp [go_sem, *]); (focus (intro w K hK; go_simp; exact hK))) | refine Qt.not rfl rfl ?_); try simp only [Act.put, Act.eval, nrmL, Nat.reduceAdd]) | (refine Qt.rg ?_; simp only [nrmL, rngL, Nat.reduceAdd]) | refine Qt.cT rfl ?_ | refine Qt.cF rfl ?_ | refine Qt.rt ?_ | refine Qt.nd ?_)
  refine Qt.stop ⟨rfl, by omega, fun v wt hv hwt => ?_⟩
  have eS : IntKind.u64.wrap (((v + 1 : Nat) : Int) * K32 + (wt : Int) + 18446744069414584320) = (v : Int) * K32 + (wt : Int) := by rw [IntKind.wrap_u64]; simp only [K32]; omega
  have e1 : IntKind.u64.wrap (IntKind.u64.wrap (-1) * 4294967296) = 18446744069414584320 := by decide
  rw [e1]
  refine ⟨_, ?_, fun w h1 h2 => (stepG_add_atomic (P := Try.prog) (main := false) (w := w) rfl rfl (by decide) rfl Try.func68 (by kernel_rfl) (by kernel_rfl) (by kernel_rfl) .u64 (by kernel_rfl) rfl rfl h1 h2).trans (by rw [eS])⟩
  clear eS
  rcases Nat.eq_zero_or_pos v with rfl | hvp
  · obtain rfl | rfl : wt = 0 ∨ wt = 1 := by omega
    · rw [if_neg (by omega)]
      have z : ((0 : Nat) : Int) * K32 + ((0 : Nat) : Int) = 0 := by simp
      rw [z]
      clear z
      have b0 : bits .and .u64 0 2147483648 = 0 := by decide
      have b1 : bits .and .u64 0 2147483647 = 0 := by decide
      have b2 : IntKind.u32.wrap 0 = 0 := by decide
      have b3 : IntKind.i32.wrap 0 = 0 := by decide
      try simp only [Act.put, Act.eval, nrmL, Nat.reduceAdd]
      repeat (first | refine Qt.auto rfl ?_ | ((first | (apply Qt.qo rfl rfl rfl (by decide) (fun _ => by simp [go_sem, *]); (focus (intro w K hK; go_simp; exact hK))) | refine Qt.not rfl rfl ?_); try simp only [Act.put, Act.eval, nrmL, Nat.reduceAdd]) | (refine Qt.rg ?_; simp only [nrmL, rngL, Nat.reduceAdd]) | refine Qt.cT rfl ?_ | refine Qt.cF rfl ?_ | refine Qt.rt ?_ | refine Qt.nd ?_)
      refine Qt.leave1 rfl rfl Try.func53 (by rfl) ?_
      try rw [Frame.finish_at]
      try simp only [Act.put, Act.eval, nrmL, Nat.reduceAdd]
      repeat (first | refine Qt.auto rfl ?_ | ((first | (apply Qt.qo rfl rfl rfl (by decide) (fun _ => by simp [go_sem, *]); (focus (intro w K hK; go_simp; exact hK))) | refine Qt.not rfl rfl ?_); try simp only [Act.put, Act.eval, nrmL, Nat.reduceAdd]) | (refine Qt.rg ?_; simp only [nrmL, rngL, Nat.reduceAdd]) | refine Qt.cT rfl ?_ | refine Qt.cF rfl ?_ | refine Qt.rt ?_ | refine Qt.nd ?_)
      refine Qt.unmark (m := .enable) (by simp) rfl Try.func38 (by kernel_rfl) (by kernel_rfl) (by kernel_rfl) (by kernel_rfl) rfl ?_
      rw [deaf_en]
      refine Qt.leave0 rfl rfl Try.func29 (by rfl) ?_
      try rw [Frame.finish_at]
      try simp only [Act.put, Act.eval, nrmL, Nat.reduceAdd]
      repeat (first | refine Qt.auto rfl ?_ | ((first | (apply Qt.qo rfl rfl rfl (by decide) (fun _ => by simp [go_sem, *]); (focus (intro w K hK; go_simp; exact hK))) | refine Qt.not rfl rfl ?_); try simp only [Act.put, Act.eval, nrmL, Nat.reduceAdd]) | (refine Qt.rg ?_; simp only [nrmL, rngL, Nat.reduceAdd]) | refine Qt.cT rfl ?_ | refine Qt.cF rfl ?_ | refine Qt.rt ?_ | refine Qt.nd ?_)
      refine Qt.leaveD rfl rfl Try.func57 (by rfl) hc ?_
      exact hend
    · rw [if_pos (by omega)]
      have z : ((0 : Nat) : Int) * K32 + ((1 : Nat) : Int) = 1 := by simp
      rw [z]
      clear z
      have b0 : bits .and .u64 1 2147483648 = 0 := by decide
      have b1 : bits .and .u64 1 2147483647 = 1 := by decide
      have b2 : IntKind.u32.wrap 1 = 1 := by decide
      have b3 : IntKind.i32.wrap 0 = 0 := by decide
      have b4 : (1 : Int) / 4294967296 = 0 := by decide
      try simp only [Act.put, Act.eval, nrmL, Nat.reduceAdd]
      repeat (first | refine Qt.auto rfl ?_ | ((first | (apply Qt.qo rfl rfl rfl (by decide) (fun _ => by simp [go_sem, *]); (focus (intro w K hK; go_simp; exact hK))) | refine Qt.not rfl rfl ?_); try simp only [Act.put, Act.eval, nrmL, Nat.reduceAdd]) | (refine Qt.rg ?_; simp only [nrmL, rngL, Nat.reduceAdd]) | refine Qt.cT rfl ?_ | refine Qt.cF rfl ?_ | refine Qt.rt ?_ | refine Qt.nd ?_)
      refine Qt.leave1 rfl rfl Try.func53 (by rfl) ?_
      try rw [Frame.finish_at]
      try simp only [Act.put, Act.eval, nrmL, Nat.reduceAdd]
      repeat (first | refine Qt.auto rfl ?_ | ((first | (apply Qt.qo rfl rfl rfl (by decide) (fun _ => by simp [go_sem, *]); (focus (intro w K hK; go_simp; exact hK))) | refine Qt.not rfl rfl ?_); try simp only [Act.put, Act.eval, nrmL, Nat.reduceAdd]) | (refine Qt.rg ?_; simp only [nrmL, rngL, Nat.reduceAdd]) | refine Qt.cT rfl ?_ | refine Qt.cF rfl ?_ | refine Qt.rt ?_ | refine Qt.nd ?_)
      refine Qt.enter rfl rfl (by decide) rfl Try.func37 (by kernel_rfl) rfl ?_
      simp only [Try.ntmps37]
      try simp only [Act.put, Act.eval, nrmL, Nat.reduceAdd, Nat.reduceSub]
      repeat (first | refine Qt.auto rfl ?_ | ((first | (apply Qt.qo rfl rfl rfl (by decide) (fun _ => by simp [go_sem, *]); (focus (intro w K hK; go_simp; exact hK))) | refine Qt.not rfl rfl ?_); try simp only [Act.put, Act.eval, nrmL, Nat.reduceAdd]) | (refine Qt.rg ?_; simp only [nrmL, rngL, Nat.reduceAdd]) | refine Qt.cT rfl ?_ | refine Qt.cF rfl ?_ | refine Qt.rt ?_ | refine Qt.nd ?_)
      refine Qt.stop ⟨rfl, by omega, _, ?_, fun w h => stepG_load_atomic rfl rfl (by decide) rfl Try.func62 (by kernel_rfl) (by kernel_rfl) (by kernel_rfl) .u64 (by kernel_rfl) rfl h⟩
      try simp only [Act.put, Act.eval, nrmL, Nat.reduceAdd]
      repeat (first | refine Qt.auto rfl ?_ | ((first | (apply Qt.qo rfl rfl rfl (by decide) (fun _ => by simp [go_sem, *]); (focus (intro w K hK; go_simp; exact hK))) | refine Qt.not rfl rfl ?_); try simp only [Act.put, Act.eval, nrmL, Nat.reduceAdd]) | (refine Qt.rg ?_; simp only [nrmL, rngL, Nat.reduceAdd]) | refine Qt.cT rfl ?_ | refine Qt.cF rfl ?_ | refine Qt.rt ?_ | refine Qt.nd ?_)
      refine Qt.leave1 rfl rfl Try.func37 (by rfl) ?_
      try rw [Frame.finish_at]
      try simp only [Act.put, Act.eval, nrmL, Nat.reduceAdd]
      repeat (first | refine Qt.auto rfl ?_ | ((first | (apply Qt.qo rfl rfl rfl (by decide) (fun _ => by simp [go_sem, *]); (focus (intro w K hK; go_simp; exact hK))) | refine Qt.not rfl rfl ?_); try simp only [Act.put, Act.eval, nrmL, Nat.reduceAdd]) | (refine Qt.rg ?_; simp only [nrmL, rngL, Nat.reduceAdd]) | refine Qt.cT rfl ?_ | refine Qt.cF rfl ?_ | refine Qt.rt ?_ | refine Qt.nd ?_)
      refine Qt.enter rfl rfl (by decide) rfl Try.func55 (by kernel_rfl) rfl ?_
      simp only [Try.ntmps55]
      try simp only [Act.put, Act.eval, nrmL, Nat.reduceAdd, Nat.reduceSub]
      repeat (first | refine Qt.auto rfl ?_ | ((first | (apply Qt.qo rfl rfl rfl (by decide) (fun _ => by simp [go_sem, *]); (focus (intro w K hK; go_simp; exact hK))) | refine Qt.not rfl rfl ?_); try simp only [Act.put, Act.eval, nrmL, Nat.reduceAdd]) | (refine Qt.rg ?_; simp only [nrmL, rngL, Nat.reduceAdd]) | refine Qt.cT rfl ?_ | refine Qt.cF rfl ?_ | refine Qt.rt ?_ | refine Qt.nd ?_)
      refine Qt.stop ⟨rfl, by omega, _, ?_, fun w u h hz => stepG_store_atomic rfl rfl (by decide) rfl Try.func69 (by kernel_rfl) (by kernel_rfl) (by kernel_rfl) (by kernel_rfl) rfl rfl h hz⟩
      try simp only [Act.put, Act.eval, nrmL, Nat.reduceAdd]
      repeat (first | refine Qt.auto rfl ?_ | ((first | (apply Qt.qo rfl rfl rfl (by decide) (fun _ => by simp [go_sem, *]); (focus (intro w K hK; go_simp; exact hK))) | refine Qt.not rfl rfl ?_); try simp only [Act.put, Act.eval, nrmL, Nat.reduceAdd]) | (refine Qt.rg ?_; simp only [nrmL, rngL, Nat.reduceAdd]) | refine Qt.cT rfl ?_ | refine Qt.cF rfl ?_ | refine Qt.rt ?_ | refine Qt.nd ?_)
      refine Qt.leave0 rfl rfl Try.func55 (by rfl) ?_
      try rw [Frame.finish_at]
      try simp only [Act.put, Act.eval, nrmL, Nat.reduceAdd]
      repeat (first | refine Qt.auto rfl ?_ | ((first | (apply Qt.qo rfl rfl rfl (by decide) (fun _ => by simp [go_sem, *]); (focus (intro w K hK; go_simp; exact hK))) | refine Qt.not rfl rfl ?_); try simp only [Act.put, Act.eval, nrmL, Nat.reduceAdd]) | (refine Qt.rg ?_; simp only [nrmL, rngL, Nat.reduceAdd]) | refine Qt.cT rfl ?_ | refine Qt.cF rfl ?_ | refine Qt.rt ?_ | refine Qt.nd ?_)
      refine Qt.ctl (fun _ => stepG_loop) rfl ?_
      repeat (first | refine Qt.auto rfl ?_ | ((first | (apply Qt.qo rfl rfl rfl (by decide) (fun _ => by simp [go_sem, *]); (focus (intro w K hK; go_simp; exact hK))) | refine Qt.not rfl rfl ?_); try simp only [Act.put, Act.eval, nrmL, Nat.reduceAdd]) | (refine Qt.rg ?_; simp only [nrmL, rngL, Nat.reduceAdd]) | refine Qt.cT rfl ?_ | refine Qt.cF rfl ?_ | refine Qt.rt ?_ | refine Qt.nd ?_)
      refine Qt.stop ⟨rfl, mayWake_entry' rfl rfl Try.func56 (by kernel_rfl), by omega, _, ?_, fun w s h hz => stepG_semrelease rfl rfl (by decide) rfl Try.func56 (by kernel_rfl) (by kernel_rfl) (by kernel_rfl) (by kernel_rfl) (by simp [Act.eval]) h hz⟩
      try simp only [Act.put, Act.eval, nrmL, Nat.reduceAdd]
      repeat (first | refine Qt.auto rfl ?_ | ((first | (apply Qt.qo rfl rfl rfl (by decide) (fun _ => by simp [go_sem, *]); (focus (intro w K hK; go_simp; exact hK))) | refine Qt.not rfl rfl ?_); try simp only [Act.put, Act.eval, nrmL, Nat.reduceAdd]) | (refine Qt.rg ?_; simp only [nrmL, rngL, Nat.reduceAdd]) | refine Qt.cT rfl ?_ | refine Qt.cF rfl ?_ | refine Qt.rt ?_ | refine Qt.nd ?_)
      refine Qt.ctl (fun _ => stepG_inLoop) rfl ?_
      repeat (first | refine Qt.auto rfl ?_ | ((first | (apply Qt.qo rfl rfl rfl (by decide) (fun _ => by simp [go_sem, *]); (focus (intro w K hK; go_simp; exact hK))) | refine Qt.not rfl rfl ?_); try simp only [Act.put, Act.eval, nrmL, Nat.reduceAdd]) | (refine Qt.rg ?_; simp only [nrmL, rngL, Nat.reduceAdd]) | refine Qt.cT rfl ?_ | refine Qt.cF rfl ?_ | refine Qt.rt ?_ | refine Qt.nd ?_)
      refine Qt.unmark (m := .enable) (by simp) rfl Try.func38 (by kernel_rfl) (by kernel_rfl) (by kernel_rfl) (by kernel_rfl) rfl ?_
      rw [deaf_en]
      refine Qt.leave0 rfl rfl Try.func29 (by rfl) ?_
      try rw [Frame.finish_at]
      try simp only [Act.put, Act.eval, nrmL, Nat.reduceAdd]
      repeat (first | refine Qt.auto rfl ?_ | ((first | (apply Qt.qo rfl rfl rfl (by decide) (fun _ => by simp [go_sem, *]); (focus (intro w K hK; go_simp; exact hK))) | refine Qt.not rfl rfl ?_); try simp only [Act.put, Act.eval, nrmL, Nat.reduceAdd]) | (refine Qt.rg ?_; simp only [nrmL, rngL, Nat.reduceAdd]) | refine Qt.cT rfl ?_ | refine Qt.cF rfl ?_ | refine Qt.rt ?_ | refine Qt.nd ?_)
      refine Qt.leaveD rfl rfl Try.func57 (by rfl) hc ?_
      exact hend
  · rw [if_neg (by omega)]
    generalize hS : (v : Int) * K32 + (wt : Int) = X
    have a1 : X / 4294967296 = (v : Int) := by rw [← hS]; simp only [K32]; omega
    have a2 : 0 ≤ X ∧ X < 9223372036854775808 := by rw [← hS]; simp only [K32]; omega
    have b0 : bits .and .u64 X 2147483648 = 0 := by rw [← hS]; exact st_flag v wt (by omega) hwt
    have b1 : bits .and .u64 X 2147483647 = (wt : Int) := by rw [← hS]; exact st_waiters v wt (by omega) hwt
    have b2 : IntKind.u32.wrap (wt : Int) = (wt : Int) := by rw [IntKind.wrap_u32]; omega
    have b3 : IntKind.i32.wrap (v : Int) = (v : Int) := by rw [IntKind.wrap_i32]; omega
    have b5 : ¬ ((v : Int) < 0) := by omega
    have b6 : (0 : Int) < (v : Int) := by omega
    clear hS
    have c0 : IntKind.u32.wrap 0 = 0 := by decide
    have c1 : IntKind.u32.wrap 1 = 1 := by decide
    clear b2
    obtain rfl | rfl : wt = 0 ∨ wt = 1 := by omega
    all_goals
      simp only [Int.cast_ofNat_Int] at b1
      try simp only [Act.put, Act.eval, nrmL, Nat.reduceAdd]
      repeat (first | refine Qt.auto rfl ?_ | ((first | (apply Qt.qo rfl rfl rfl (by decide) (fun _ => by simp [go_sem, *]); (focus (intro w K hK; go_simp; exact hK))) | refine Qt.not rfl rfl ?_); try simp only [Act.put, Act.eval, nrmL, Nat.reduceAdd]) | (refine Qt.rg ?_; simp only [nrmL, rngL, Nat.reduceAdd]) | refine Qt.cT rfl ?_ | refine Qt.cF rfl ?_ | refine Qt.rt ?_ | refine Qt.nd ?_)
      refine Qt.leave1 rfl rfl Try.func53 (by rfl) ?_
      try rw [Frame.finish_at]
      try simp only [Act.put, Act.eval, nrmL, Nat.reduceAdd]
      repeat (first | refine Qt.auto rfl ?_ | ((first | (apply Qt.qo rfl rfl rfl (by decide) (fun _ => by simp [go_sem, *]); (focus (intro w K hK; go_simp; exact hK))) | refine Qt.not rfl rfl ?_); try simp only [Act.put, Act.eval, nrmL, Nat.reduceAdd]) | (refine Qt.rg ?_; simp only [nrmL, rngL, Nat.reduceAdd]) | refine Qt.cT rfl ?_ | refine Qt.cF rfl ?_ | refine Qt.rt ?_ | refine Qt.nd ?_)
      refine Qt.unmark (m := .enable) (by simp) rfl Try.func38 (by kernel_rfl) (by kernel_rfl) (by kernel_rfl) (by kernel_rfl) rfl ?_
      rw [deaf_en]
      refine Qt.leave0 rfl rfl Try.func29 (by rfl) ?_
      try rw [Frame.finish_at]
      try simp only [Act.put, Act.eval, nrmL, Nat.reduceAdd]
      repeat (first | refine Qt.auto rfl ?_ | ((first | (apply Qt.qo rfl rfl rfl (by decide) (fun _ => by simp [go_sem, *]); (focus (intro w K hK; go_simp; exact hK))) | refine Qt.not rfl rfl ?_); try simp only [Act.put, Act.eval, nrmL, Nat.reduceAdd]) | (refine Qt.rg ?_; simp only [nrmL, rngL, Nat.reduceAdd]) | refine Qt.cT rfl ?_ | refine Qt.cF rfl ?_ | refine Qt.rt ?_ | refine Qt.nd ?_)
      refine Qt.leaveD rfl rfl Try.func57 (by rfl) hc ?_
      exact hend
end
end Go.Proofs.Ytfpkachoneaaeaa
