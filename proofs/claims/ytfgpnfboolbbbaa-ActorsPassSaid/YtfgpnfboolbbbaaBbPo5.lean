/-
  Post, whole.
-/
import Derived.Test.YtfgpnfboolbbbaaBbPo3
namespace Go.Proofs.Ytfgpnfboolbbbaa
open Go Go.Conc Go.RowKit
section
variable {Z : Scene} {n : Nat} {hd : Option (Nat × Chair)} {w : World} {s : Sy} {Post : Value → World → Prop} {h : Nat} {c : Frame} {cs : List Frame}
set_option maxRecDepth 50000 in
set_option maxHeartbeats 2000000 in
theorem post_run (R : Rep Z n hd w s 0) (id : Int) {IA : Option Addr} {ic : Nat} {bs : List UInt8} {GF : Nat → Prop} (hr : RB w GF IA bs) (hG : ∀ k, k < w.heap.size → GF k → ¬ Z.Hd k) (hbl : bs.length ≤ 140737488355328) (hv : s.ents.length < 2000000000)
    (H : ∀ Z' n' s' w' ok, Rep Z' n' hd w' s' 0 → (s'.abs, ok) = postA s id bs → Ext Z n w s Z' n' w' s' → Run Try.prog Post Z' n' h 0 (G (c.finish (.bool ok)) cs) w') :
    Run Try.prog Post Z n h 0 (G ((base 12).at { tmps := #[.pointer (some ⟨s.S, 0, none⟩), .int .i64 id, .slice IA bs.length ic] ++ Array.replicate (Try.f12.ntmps - 3) undef, defers := [] } [.code (Try.f12.body.getD .skip)]) (c :: cs)) w := by
  refine Run.okG fun hok => ?_
  have hpT : ∃ X, pTail = X := ⟨_, rfl⟩
  simp only [Try.ntmps12]
  try simp only [Act.put, Act.eval, nrmL, Nat.reduceAdd, Nat.reduceSub]
  simp only [Try.f12, Option.getD_some]
  repeat (first
    | refine Run.auto rfl ?_
    | ((first | (refine Run.quietop rfl rfl rfl (by decide) ?_ ?_; (focus (intro w₁; simp [go_sem]; done)); intro w₁ K hK; go_simp; refine hK _ ?_; clear hK K w₁) | (refine Run.lookq theEnv rfl rfl rfl (by decide) rfl (fun _ _ q => by cases q) ?_; apply Exists.intro; apply And.intro; (focus (intro w; apply run_eq_of'; intro K hK; go_simp; exact hK))) | (refine Run.len theEnv rfl rfl (by decide) rfl rfl (by kernel_rfl) ?_) | (refine Run.not rfl rfl ?_)); try simp only [Act.put, Act.eval, nrmL, Nat.reduceAdd])
    | (refine Run.ctl (fun _ => stepG_region) rfl ?_; simp only [nrmL, Nat.reduceAdd, Nat.zero_add, List.range, List.range.loop])
    | (refine Run.ctl (fun _ => stepG_cond (t := true) rfl) rfl ?_; simp only [if_true])
    | (refine Run.ctl (fun _ => stepG_cond (t := false) rfl) rfl ?_; simp only [Bool.false_eq_true, if_false])
    | refine Run.ctl (fun _ => stepG_ret') rfl ?_
    | refine Run.ctl (fun _ => stepG_end) rfl ?_)
  refine Run.enter rfl rfl (by decide) rfl Try.func22 (by kernel_rfl) rfl ?_
  simp only [Act.eval, nrmL, Nat.reduceAdd]
  refine lock_run (a := ⟨s.S, 1, none⟩) (R.cell 1) (R.sys.frozen 1) (R.npl 1 (by decide)) (R.nC hok) ?_
  obtain ⟨R1, k1⟩ := R.lkTo 1
  have hok1 := hok.setCell ⟨s.S, 1, none⟩ (.int .i32 1)
  generalize w.setCell ⟨s.S, 1, none⟩ (.int .i32 1) = w1 at R1 k1 hok1
  rw [Frame.finish_at]
  try simp only [Act.put, Act.eval, nrmL, Nat.reduceAdd]
  have hSn : ∀ k, k = s.S → s.own k ≠ (0, 0) := fun k hk q => by rw [hk, R.oS] at q; exact snd_ne q (by decide)
  have k1' : Kept (fun k => s.own k ≠ (0, 0)) w w1 := k1.mono fun k _ hk => hSn k hk
  have hr1 : RB w1 (fun k => GF k ∧ k < w.heap.size) IA bs := (Rd.mono hr fun k hk hf => ⟨hf, hk⟩).keep k1 fun k hk hf q => hG k hk hf.1 (q ▸ R.hS)
  have hG1 : ∀ k, k < w1.heap.size → (GF k ∧ k < w.heap.size) → ¬ Z.Hd k := fun k _ hf => hG k hf.2 hf.1
  repeat (first
    | refine Run.auto rfl ?_
    | ((first | (refine Run.quietop rfl rfl rfl (by decide) ?_ ?_; (focus (intro w₁; simp [go_sem]; done)); intro w₁ K hK; go_simp; refine hK _ ?_; clear hK K w₁) | (refine Run.lookq theEnv rfl rfl rfl (by decide) rfl (fun _ _ q => by cases q) ?_; apply Exists.intro; apply And.intro; (focus (intro w; apply run_eq_of'; intro K hK; go_simp; exact hK))) | (refine Run.len theEnv rfl rfl (by decide) rfl rfl (by kernel_rfl) ?_) | (refine Run.not rfl rfl ?_)); try simp only [Act.put, Act.eval, nrmL, Nat.reduceAdd])
    | (refine Run.ctl (fun _ => stepG_region) rfl ?_; simp only [nrmL, Nat.reduceAdd, Nat.zero_add, List.range, List.range.loop])
    | (refine Run.ctl (fun _ => stepG_cond (t := true) rfl) rfl ?_; simp only [if_true])
    | (refine Run.ctl (fun _ => stepG_cond (t := false) rfl) rfl ?_; simp only [Bool.false_eq_true, if_false])
    | refine Run.ctl (fun _ => stepG_ret') rfl ?_
    | refine Run.ctl (fun _ => stepG_end) rfl ?_)
  refine Run.defer rfl rfl (by decide) rfl ?_
  try simp only [Act.put, Act.eval, nrmL, Nat.reduceAdd]
  repeat (first
    | refine Run.auto rfl ?_
    | ((first | (refine Run.quietop rfl rfl rfl (by decide) ?_ ?_; (focus (intro w₁; simp [go_sem]; done)); intro w₁ K hK; go_simp; refine hK _ ?_; clear hK K w₁) | (refine Run.lookq theEnv rfl rfl rfl (by decide) rfl (fun _ _ q => by cases q) ?_; apply Exists.intro; apply And.intro; (focus (intro w; apply run_eq_of'; intro K hK; go_simp; exact hK))) | (refine Run.len theEnv rfl rfl (by decide) rfl rfl (by kernel_rfl) ?_) | (refine Run.not rfl rfl ?_)); try simp only [Act.put, Act.eval, nrmL, Nat.reduceAdd])
    | (refine Run.ctl (fun _ => stepG_region) rfl ?_; simp only [nrmL, Nat.reduceAdd, Nat.zero_add, List.range, List.range.loop])
    | (refine Run.ctl (fun _ => stepG_cond (t := true) rfl) rfl ?_; simp only [if_true])
    | (refine Run.ctl (fun _ => stepG_cond (t := false) rfl) rfl ?_; simp only [Bool.false_eq_true, if_false])
    | refine Run.ctl (fun _ => stepG_ret') rfl ?_
    | refine Run.ctl (fun _ => stepG_end) rfl ?_)
  refine Run.ld (a := ⟨s.S, 7, none⟩) (v := .bool s.stopped) rfl rfl (by decide) (R1.cell 7) (R1.nsh 7 (.inr (by decide))) (fun w₁ hld => ⟨by go_simp, by simp [go_sem, hld]⟩) ?_
  try simp only [Act.put, Act.eval, nrmL, Nat.reduceAdd]
  cases hst : s.stopped with
  | true =>
    repeat (first
      | refine Run.auto rfl ?_
      | ((first | (refine Run.quietop rfl rfl rfl (by decide) ?_ ?_; (focus (intro w₁; simp [go_sem]; done)); intro w₁ K hK; go_simp; refine hK _ ?_; clear hK K w₁) | (refine Run.lookq theEnv rfl rfl rfl (by decide) rfl (fun _ _ q => by cases q) ?_; apply Exists.intro; apply And.intro; (focus (intro w; apply run_eq_of'; intro K hK; go_simp; exact hK))) | (refine Run.len theEnv rfl rfl (by decide) rfl rfl (by kernel_rfl) ?_) | (refine Run.not rfl rfl ?_)); try simp only [Act.put, Act.eval, nrmL, Nat.reduceAdd])
      | (refine Run.ctl (fun _ => stepG_region) rfl ?_; simp only [nrmL, Nat.reduceAdd, Nat.zero_add, List.range, List.range.loop])
      | (refine Run.ctl (fun _ => stepG_cond (t := true) rfl) rfl ?_; simp only [if_true])
      | (refine Run.ctl (fun _ => stepG_cond (t := false) rfl) rfl ?_; simp only [Bool.false_eq_true, if_false])
      | refine Run.ctl (fun _ => stepG_ret') rfl ?_
      | refine Run.ctl (fun _ => stepG_end) rfl ?_)
    refine Run.undefer rfl Try.func23 (by kernel_rfl) rfl ?_
    simp only [Try.ntmps23]
    try simp only [Act.put, Act.eval, nrmL, Nat.reduceAdd, Nat.reduceSub]
    refine unlock_runD (a := ⟨s.S, 1, none⟩) (R1.cell 1) (R1.sys.frozen 1) (R1.npl 1 (by decide)) (R1.nsh 1 (.inr (by decide))) (R1.nC hok1) rfl ?_
    obtain ⟨R2, k2⟩ := R1.lkTo 0
    refine Run.leave1 rfl rfl Try.func12 (by rfl) ?_
    exact H _ _ _ _ false R2 (by simp [postA, hst]) (Ext.same (k1'.trans (k2.mono fun k _ hk => hSn k hk)))
  | false =>
    repeat (first
      | refine Run.auto rfl ?_
      | ((first | (refine Run.quietop rfl rfl rfl (by decide) ?_ ?_; (focus (intro w₁; simp [go_sem]; done)); intro w₁ K hK; go_simp; refine hK _ ?_; clear hK K w₁) | (refine Run.lookq theEnv rfl rfl rfl (by decide) rfl (fun _ _ q => by cases q) ?_; apply Exists.intro; apply And.intro; (focus (intro w; apply run_eq_of'; intro K hK; go_simp; exact hK))) | (refine Run.len theEnv rfl rfl (by decide) rfl rfl (by kernel_rfl) ?_) | (refine Run.not rfl rfl ?_)); try simp only [Act.put, Act.eval, nrmL, Nat.reduceAdd])
      | (refine Run.ctl (fun _ => stepG_region) rfl ?_; simp only [nrmL, Nat.reduceAdd, Nat.zero_add, List.range, List.range.loop])
      | (refine Run.ctl (fun _ => stepG_cond (t := true) rfl) rfl ?_; simp only [if_true])
      | (refine Run.ctl (fun _ => stepG_cond (t := false) rfl) rfl ?_; simp only [Bool.false_eq_true, if_false])
      | refine Run.ctl (fun _ => stepG_ret') rfl ?_
      | refine Run.ctl (fun _ => stepG_end) rfl ?_)
    refine Run.ld (a := ⟨s.S, 3, none⟩) (v := .map (some s.mp)) rfl rfl (by decide) (R1.cell 3) (R1.nsh 3 (.inr (by decide))) (fun w₁ hld => ⟨by go_simp, by simp [go_sem, hld]⟩) ?_
    try simp only [Act.put, Act.eval, nrmL, Nat.reduceAdd]
    repeat (first
      | refine Run.auto rfl ?_
      | ((first | (refine Run.quietop rfl rfl rfl (by decide) ?_ ?_; (focus (intro w₁; simp [go_sem]; done)); intro w₁ K hK; go_simp; refine hK _ ?_; clear hK K w₁) | (refine Run.lookq theEnv rfl rfl rfl (by decide) rfl (fun _ _ q => by cases q) ?_; apply Exists.intro; apply And.intro; (focus (intro w; apply run_eq_of'; intro K hK; go_simp; exact hK))) | (refine Run.len theEnv rfl rfl (by decide) rfl rfl (by kernel_rfl) ?_) | (refine Run.not rfl rfl ?_)); try simp only [Act.put, Act.eval, nrmL, Nat.reduceAdd])
      | (refine Run.ctl (fun _ => stepG_region) rfl ?_; simp only [nrmL, Nat.reduceAdd, Nat.zero_add, List.range, List.range.loop])
      | (refine Run.ctl (fun _ => stepG_cond (t := true) rfl) rfl ?_; simp only [if_true])
      | (refine Run.ctl (fun _ => stepG_cond (t := false) rfl) rfl ?_; simp only [Bool.false_eq_true, if_false])
      | refine Run.ctl (fun _ => stepG_ret') rfl ?_
      | refine Run.ctl (fun _ => stepG_end) rfl ?_)
    refine Run.look theEnv rfl rfl (by decide) rfl (fun _ _ q => by cases q) (s.val id) (fun u hu _ => by have := R1.look id u hu; go_simp) ?_
    try simp only [Act.put, Act.eval, nrmL, Nat.reduceAdd]
    rcases he : s.ent id with _ | e
    · rw [show s.val id = .pointer none by simp [Sy.val, he]]
      have hmiss := Sy.ent_none he
      (refine Run.quietop rfl rfl rfl (by decide) ?_ ?_; (focus (intro w₁; simp [go_sem]; done)); intro w₁ K hK; go_simp; refine hK _ ?_; clear hK K w₁; try simp only [Act.put, Act.eval, nrmL, Nat.reduceAdd])
      refine Run.auto rfl ?_
      refine Run.auto rfl ?_
      refine Run.auto rfl ?_
      (refine Run.ctl (fun _ => stepG_region) rfl ?_; simp only [nrmL, Nat.reduceAdd, Nat.zero_add, List.range, List.range.loop])
      (refine Run.quietop rfl rfl rfl (by decide) ?_ ?_; (focus (intro w₁; simp [go_sem]; done)); intro w₁ K hK; go_simp; refine hK _ ?_; clear hK K w₁; try simp only [Act.put, Act.eval, nrmL, Nat.reduceAdd])
      (refine Run.lookq theEnv rfl rfl rfl (by decide) rfl (fun _ _ q => by cases q) ?_; apply Exists.intro; apply And.intro; (focus (intro w; apply run_eq_of'; intro K hK; go_simp; exact hK)); try simp only [Act.put, Act.eval, nrmL, Nat.reduceAdd])
      refine Run.auto rfl ?_
      (refine Run.ctl (fun _ => stepG_cond (t := true) rfl) rfl ?_; simp only [if_true])
      refine post_fresh R1 hst hmiss hv hr1 hG1 hbl fun Z' s' w' R2 ha hx => ?_
      refine H _ _ _ _ true R2 ?_ (hx.ahead k1')
      simp [postA, hst, putA, Sy.abs_find, he, ha]
    · rw [show s.val id = ptr e.b by simp [Sy.val, he]]
      obtain ⟨hx, hid⟩ := Sy.ent_some he
      unfold ptr
      (refine Run.quietop rfl rfl rfl (by decide) ?_ ?_; (focus (intro w₁; simp [go_sem]; done)); intro w₁ K hK; go_simp; refine hK _ ?_; clear hK K w₁; try simp only [Act.put, Act.eval, nrmL, Nat.reduceAdd])
      refine Run.auto rfl ?_
      refine Run.auto rfl ?_
      refine Run.auto rfl ?_
      (refine Run.ctl (fun _ => stepG_region) rfl ?_; simp only [nrmL, Nat.reduceAdd, Nat.zero_add, List.range, List.range.loop])
      (refine Run.quietop rfl rfl rfl (by decide) ?_ ?_; (focus (intro w₁; simp [go_sem]; done)); intro w₁ K hK; go_simp; refine hK _ ?_; clear hK K w₁; try simp only [Act.put, Act.eval, nrmL, Nat.reduceAdd])
      (refine Run.lookq theEnv rfl rfl rfl (by decide) rfl (fun _ _ q => by cases q) ?_; apply Exists.intro; apply And.intro; (focus (intro w; apply run_eq_of'; intro K hK; go_simp; exact hK)); try simp only [Act.put, Act.eval, nrmL, Nat.reduceAdd])
      refine Run.auto rfl ?_
      (refine Run.ctl (fun _ => stepG_cond (t := false) rfl) rfl ?_; simp only [Bool.false_eq_true, if_false])
      refine Run.auto rfl ?_
      refine post_tail R1 hx hr1 hG1 hbl (fun hl w' R2 k2 => ?_) fun hl w' t A1 c1 A2 c2 own' R2 ho k2 => ?_
      · refine H _ _ _ _ false R2 ?_ (Ext.same (k1'.trans (k2.mono fun k _ hk => hSn k hk)))
        simp only [postA, hst, putA, Sy.abs_find, he, Option.map_some, List.length_map]
        rw [if_neg (by simp), if_neg (by omega)]
      · refine H _ _ _ _ true R2 ?_ ((Ext.setE (e' := e.push A2 c2 ⟨t, A1, c1, bs⟩) R.gis hx rfl k2 ho).ahead k1')
        rw [R.abs_setE (e' := e.push A2 c2 ⟨t, A1, c1, bs⟩) hx rfl]
        simp only [postA, hst, putA, Sy.abs_find, he, Option.map_some, List.length_map]
        rw [if_neg (by simp), if_pos hl, hid]
        congr 1
        refine List.map_congr_left fun p _ => ?_
        by_cases q : p.1 = id
        · rw [if_pos q, if_pos q, q]
          simp [Ent.push, hid]
        · rw [if_neg q, if_neg q]
end
end Go.Proofs.Ytfgpnfboolbbbaa
