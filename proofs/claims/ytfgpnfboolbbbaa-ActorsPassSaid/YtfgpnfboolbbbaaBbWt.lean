/-
  Waiting.
-/
import Derived.Test.YtfgpnfboolbbbaaBbSys
import Derived.Test.YtfgpnfboolbbbaaBbMu
namespace Go.Proofs.Ytfgpnfboolbbbaa
open Go Go.Conc Go.RowKit
section
variable {Z : Scene} {n : Nat} {hd : Option (Nat × Chair)} {w w' : World} {s : Sy} {lk lk' : Int} {e : Ent}
theorem Rep.sysTo (h : Rep Z n hd w s lk) (hk : Kept (· = s.S) w w') (hb : Blk w' s.S 58 (s.cells lk')) : Rep Z n hd w' s lk' := by
  have key : ∀ k g t, s.own k = (g, t) → (g ≠ 0 ∨ t ≠ 1) → ¬ k = s.S := fun k g t ho hne q => by
    rw [q, h.oS] at ho
    cases ho
    omega
  refine ⟨hb, h.map.keep hk (key _ _ _ h.om (by omega)), fun e he => (h.ents e he).keep hk fun k hf q => ?_, h.gis, h.gin, h.oS, h.oq, h.om, fun hs => ⟨(h.opn hs).1.keep hk (key _ _ _ h.oq (by omega)), (h.opn hs).2⟩, h.hS, h.hE, h.vis, h.cE, h.stop, h.inb, h.shun, h.hdk, h.pos, fun k hk2 => h.fresh k (Nat.le_trans hk.size hk2)⟩
  have := (h.ents e he).pos
  rw [hf, h.oS] at q
  simp at q
  omega
theorem kept_set (w : World) (a : Addr) (v : Value) : Kept (· = a.block) w (w.setCell a v) := (Kept.refl (· = a.block) _).setCell (fun _ => rfl) v
theorem Rep.lkTo (h : Rep Z n hd w s lk) (v : Int) : Rep Z n hd (w.setCell ⟨s.S, 1, none⟩ (.int .i32 v)) s v ∧ Kept (· = s.S) w (w.setCell ⟨s.S, 1, none⟩ (.int .i32 v)) := by
  have hk := kept_set w ⟨s.S, 1, none⟩ (.int .i32 v)
  exact ⟨h.sysTo hk (by have := h.sys.set_ 1 (.int .i32 v); simpa [Sy.cells] using this), hk⟩
/-- An actor's record, by its number. -/
def Sy.ent (s : Sy) (id : Int) : Option Ent := s.ents.find? fun e => e.id == id
def Sy.val (s : Sy) (id : Int) : Value := match s.ent id with
  | some e => ptr e.b
  | none => .pointer none
theorem Sy.ent_some {id : Int} (h : s.ent id = some e) : e ∈ s.ents ∧ e.id = id := ⟨List.mem_of_find?_eq_some h, by simpa using List.find?_some h⟩
theorem Sy.ent_none {id : Int} (h : s.ent id = none) : ∀ e ∈ s.ents, e.id ≠ id := fun e he q => by
  have := List.find?_eq_none.1 h e he
  simp [q] at this
theorem zeroActor (w : World) : (zeroValue 71).run Try.prog w = .ok (.pointer none) w := by kernel_rfl
/-- The look-up. -/
theorem Rep.look (h : Rep Z n hd w s lk) (id : Int) : ∀ u, Kept Z.Hd w u → (Instr.lookup 41 (.map (some s.mp)) (.int .i64 id) false).run Try.prog u = .ok (s.val id) u := by
  intro u hu
  have hm := h.map.keep hu (h.vis _ (by rw [h.om]; decide)).1
  unfold Sy.val
  cases e : s.ent id with
  | none => exact hm.look_miss Try.underlying41 Try.underlying3 (zeroActor u) (fun p hp q => by
      obtain ⟨x, hx, rfl⟩ := List.mem_map.1 hp
      exact Sy.ent_none e x hx q)
  | some x =>
    obtain ⟨h1, h2⟩ := Sy.ent_some e
    exact hm.look_hit Try.underlying41 Try.underlying3 (List.mem_map.2 ⟨x, h1, by rw [h2]⟩)
def Sy.len (s : Sy) (id : Int) : Nat := match s.ent id with
  | some e => e.items.length
  | none => 0
variable {Post : Value → World → Prop} {h : Nat} {c : Frame} {cs : List Frame}
set_option maxRecDepth 50000 in
set_option maxHeartbeats 4000000 in
theorem waiting_run (R : Rep Z n hd w s 0) (id : Int) (H : ∀ w', Rep Z n hd w' s 0 → Kept (· = s.S) w w' → Run Try.prog Post Z n h 0 (G (c.finish (.int .i64 (s.len id))) cs) w') :
    Run Try.prog Post Z n h 0 (G ((base 16).at { tmps := #[.pointer (some ⟨s.S, 0, none⟩), .int .i64 id] ++ Array.replicate (Try.f16.ntmps - 2) undef, defers := [] } [.code (Try.f16.body.getD .skip)]) (c :: cs)) w := by
  refine Run.okG fun hok => ?_
  simp only [Try.ntmps16]
  try simp only [Act.put, Act.eval, nrmL, Nat.reduceAdd, Nat.reduceSub]
  simp only [Try.f16, Option.getD_some]
  repeat (first
    | refine Run.auto rfl ?_
    | ((first | (refine Run.quietop rfl rfl rfl (by decide) ?_ ?_; (focus (intro w₁; simp [go_sem]; done)); intro w₁ K hK; go_simp; refine hK _ ?_; clear hK K w₁) | (refine Run.lookq theEnv rfl rfl rfl (by decide) rfl (fun _ _ q => by cases q) ?_; apply Exists.intro; apply And.intro; (focus (intro w; apply run_eq_of'; intro K hK; go_simp; exact hK))) | (refine Run.len theEnv rfl rfl (by decide) rfl rfl (by kernel_rfl) ?_) | (refine Run.not rfl rfl ?_)); try simp only [Act.put, Act.eval, nrmL, Nat.reduceAdd])
    | (refine Run.ctl (fun _ => stepG_region) rfl ?_; simp only [nrmL, Nat.reduceAdd, Nat.zero_add, List.range, List.range.loop])
    | (refine Run.ctl (fun _ => stepG_cond (t := true) rfl) rfl ?_; simp only [if_true])
    | (refine Run.ctl (fun _ => stepG_cond (t := false) rfl) rfl ?_; simp only [Bool.false_eq_true, if_false])
    | refine Run.ctl (fun _ => stepG_ret') rfl ?_
    | refine Run.ctl (fun _ => stepG_end) rfl ?_)
  refine Run.enter rfl rfl (by decide) rfl Try.func22 (by kernel_rfl) rfl ?_
  simp only [Act.eval, nrmL, Nat.reduceAdd]
  refine lock_run (a := ⟨s.S, 1, none⟩) (R.cell 1) (R.sys.frozen 1) (R.npl 1 (by decide)) (R.nC hok) ?_
  obtain ⟨R1, k1⟩ := R.lkTo 1
  have hok1 := hok.setCell ⟨s.S, 1, none⟩ (.int .i32 1)
  generalize w.setCell ⟨s.S, 1, none⟩ (.int .i32 1) = w1 at R1 k1 hok1
  rw [Frame.finish_at]
  try simp only [Act.put, Act.eval, nrmL, Nat.reduceAdd]
  repeat (first
    | refine Run.auto rfl ?_
    | ((first | (refine Run.quietop rfl rfl rfl (by decide) ?_ ?_; (focus (intro w₁; simp [go_sem]; done)); intro w₁ K hK; go_simp; refine hK _ ?_; clear hK K w₁) | (refine Run.lookq theEnv rfl rfl rfl (by decide) rfl (fun _ _ q => by cases q) ?_; apply Exists.intro; apply And.intro; (focus (intro w; apply run_eq_of'; intro K hK; go_simp; exact hK))) | (refine Run.len theEnv rfl rfl (by decide) rfl rfl (by kernel_rfl) ?_) | (refine Run.not rfl rfl ?_)); try simp only [Act.put, Act.eval, nrmL, Nat.reduceAdd])
    | (refine Run.ctl (fun _ => stepG_region) rfl ?_; simp only [nrmL, Nat.reduceAdd, Nat.zero_add, List.range, List.range.loop])
    | (refine Run.ctl (fun _ => stepG_cond (t := true) rfl) rfl ?_; simp only [if_true])
    | (refine Run.ctl (fun _ => stepG_cond (t := false) rfl) rfl ?_; simp only [Bool.false_eq_true, if_false])
    | refine Run.ctl (fun _ => stepG_ret') rfl ?_
    | refine Run.ctl (fun _ => stepG_end) rfl ?_)
  refine Run.defer rfl rfl (by decide) rfl ?_
  try simp only [Act.put, Act.eval, nrmL, Nat.reduceAdd]
  repeat (first
    | refine Run.auto rfl ?_
    | ((first | (refine Run.quietop rfl rfl rfl (by decide) ?_ ?_; (focus (intro w₁; simp [go_sem]; done)); intro w₁ K hK; go_simp; refine hK _ ?_; clear hK K w₁) | (refine Run.lookq theEnv rfl rfl rfl (by decide) rfl (fun _ _ q => by cases q) ?_; apply Exists.intro; apply And.intro; (focus (intro w; apply run_eq_of'; intro K hK; go_simp; exact hK))) | (refine Run.len theEnv rfl rfl (by decide) rfl rfl (by kernel_rfl) ?_) | (refine Run.not rfl rfl ?_)); try simp only [Act.put, Act.eval, nrmL, Nat.reduceAdd])
    | (refine Run.ctl (fun _ => stepG_region) rfl ?_; simp only [nrmL, Nat.reduceAdd, Nat.zero_add, List.range, List.range.loop])
    | (refine Run.ctl (fun _ => stepG_cond (t := true) rfl) rfl ?_; simp only [if_true])
    | (refine Run.ctl (fun _ => stepG_cond (t := false) rfl) rfl ?_; simp only [Bool.false_eq_true, if_false])
    | refine Run.ctl (fun _ => stepG_ret') rfl ?_
    | refine Run.ctl (fun _ => stepG_end) rfl ?_)
  refine Run.ld (a := ⟨s.S, 3, none⟩) (v := .map (some s.mp)) rfl rfl (by decide) (R1.cell 3) (R1.nsh 3 (.inr (by decide))) (fun w₁ hld => ⟨by go_simp, by simp [go_sem, hld]⟩) ?_
  try simp only [Act.put, Act.eval, nrmL, Nat.reduceAdd]
  repeat (first
    | refine Run.auto rfl ?_
    | ((first | (refine Run.quietop rfl rfl rfl (by decide) ?_ ?_; (focus (intro w₁; simp [go_sem]; done)); intro w₁ K hK; go_simp; refine hK _ ?_; clear hK K w₁) | (refine Run.lookq theEnv rfl rfl rfl (by decide) rfl (fun _ _ q => by cases q) ?_; apply Exists.intro; apply And.intro; (focus (intro w; apply run_eq_of'; intro K hK; go_simp; exact hK))) | (refine Run.len theEnv rfl rfl (by decide) rfl rfl (by kernel_rfl) ?_) | (refine Run.not rfl rfl ?_)); try simp only [Act.put, Act.eval, nrmL, Nat.reduceAdd])
    | (refine Run.ctl (fun _ => stepG_region) rfl ?_; simp only [nrmL, Nat.reduceAdd, Nat.zero_add, List.range, List.range.loop])
    | (refine Run.ctl (fun _ => stepG_cond (t := true) rfl) rfl ?_; simp only [if_true])
    | (refine Run.ctl (fun _ => stepG_cond (t := false) rfl) rfl ?_; simp only [Bool.false_eq_true, if_false])
    | refine Run.ctl (fun _ => stepG_ret') rfl ?_
    | refine Run.ctl (fun _ => stepG_end) rfl ?_)
  refine Run.look theEnv rfl rfl (by decide) rfl (fun _ _ q => by cases q) (s.val id) (fun u hu _ => by have := R1.look id u hu; go_simp) ?_
  try simp only [Act.put, Act.eval, nrmL, Nat.reduceAdd]
  have hend : ∀ (T : Array Value) (i : Nat) (hT : T[4]? = some (.int .i64 (s.len id))) (k : List Item), Run Try.prog Post Z n h 0 (G { (base 16).at ⟨T, [dcall 23 #[.pointer (some ⟨s.S, 1, none⟩)]]⟩ k with mode := .returning } (c :: cs)) w1 := by
    intro T i hT k
    refine Run.undefer rfl Try.func23 (by kernel_rfl) rfl ?_
    simp only [Try.ntmps23]
    try simp only [Act.put, Act.eval, nrmL, Nat.reduceAdd, Nat.reduceSub]
    refine unlock_runD (a := ⟨s.S, 1, none⟩) (R1.cell 1) (R1.sys.frozen 1) (R1.npl 1 (by decide)) (R1.nsh 1 (.inr (by decide))) (R1.nC hok1) rfl ?_
    obtain ⟨R2, k2⟩ := R1.lkTo 0
    refine Run.leave1 rfl rfl Try.func16 (by rfl) ?_
    rw [Array.getD_eq_getD_getElem?, hT]
    exact H _ R2 (k1.trans k2)
  rcases he : s.ent id with _ | x
  · rw [show s.val id = .pointer none by simp [Sy.val, he]]
    have hl : s.len id = 0 := by simp [Sy.len, he]
    rw [hl] at hend
    repeat (first
      | refine Run.auto rfl ?_
      | ((first | (refine Run.quietop rfl rfl rfl (by decide) ?_ ?_; (focus (intro w₁; simp [go_sem]; done)); intro w₁ K hK; go_simp; refine hK _ ?_; clear hK K w₁) | (refine Run.lookq theEnv rfl rfl rfl (by decide) rfl (fun _ _ q => by cases q) ?_; apply Exists.intro; apply And.intro; (focus (intro w; apply run_eq_of'; intro K hK; go_simp; exact hK))) | (refine Run.len theEnv rfl rfl (by decide) rfl rfl (by kernel_rfl) ?_) | (refine Run.not rfl rfl ?_)); try simp only [Act.put, Act.eval, nrmL, Nat.reduceAdd])
      | (refine Run.ctl (fun _ => stepG_region) rfl ?_; simp only [nrmL, Nat.reduceAdd, Nat.zero_add, List.range, List.range.loop])
      | (refine Run.ctl (fun _ => stepG_cond (t := true) rfl) rfl ?_; simp only [if_true])
      | (refine Run.ctl (fun _ => stepG_cond (t := false) rfl) rfl ?_; simp only [Bool.false_eq_true, if_false])
      | refine Run.ctl (fun _ => stepG_ret') rfl ?_
      | refine Run.ctl (fun _ => stepG_end) rfl ?_)
    exact hend _ 0 rfl _
  · rw [show s.val id = ptr x.b by simp [Sy.val, he]]
    have hl : s.len id = x.items.length := by simp [Sy.len, he]
    have hx := (Sy.ent_some he).1
    rw [hl] at hend
    unfold ptr
    repeat (first
      | refine Run.auto rfl ?_
      | ((first | (refine Run.quietop rfl rfl rfl (by decide) ?_ ?_; (focus (intro w₁; simp [go_sem]; done)); intro w₁ K hK; go_simp; refine hK _ ?_; clear hK K w₁) | (refine Run.lookq theEnv rfl rfl rfl (by decide) rfl (fun _ _ q => by cases q) ?_; apply Exists.intro; apply And.intro; (focus (intro w; apply run_eq_of'; intro K hK; go_simp; exact hK))) | (refine Run.len theEnv rfl rfl (by decide) rfl rfl (by kernel_rfl) ?_) | (refine Run.not rfl rfl ?_)); try simp only [Act.put, Act.eval, nrmL, Nat.reduceAdd])
      | (refine Run.ctl (fun _ => stepG_region) rfl ?_; simp only [nrmL, Nat.reduceAdd, Nat.zero_add, List.range, List.range.loop])
      | (refine Run.ctl (fun _ => stepG_cond (t := true) rfl) rfl ?_; simp only [if_true])
      | (refine Run.ctl (fun _ => stepG_cond (t := false) rfl) rfl ?_; simp only [Bool.false_eq_true, if_false])
      | refine Run.ctl (fun _ => stepG_ret') rfl ?_
      | refine Run.ctl (fun _ => stepG_end) rfl ?_)
    refine Run.ld (a := ⟨x.b, 0, none⟩) (v := .slice x.A x.items.length x.c) rfl rfl (by decide) (R1.cellE hx 0) (R1.nshE hx 0) (fun w₁ hld => ⟨by go_simp, by simp [go_sem, hld]⟩) ?_
    try simp only [Act.put, Act.eval, nrmL, Nat.reduceAdd]
    repeat (first
      | refine Run.auto rfl ?_
      | ((first | (refine Run.quietop rfl rfl rfl (by decide) ?_ ?_; (focus (intro w₁; simp [go_sem]; done)); intro w₁ K hK; go_simp; refine hK _ ?_; clear hK K w₁) | (refine Run.lookq theEnv rfl rfl rfl (by decide) rfl (fun _ _ q => by cases q) ?_; apply Exists.intro; apply And.intro; (focus (intro w; apply run_eq_of'; intro K hK; go_simp; exact hK))) | (refine Run.len theEnv rfl rfl (by decide) rfl rfl (by kernel_rfl) ?_) | (refine Run.not rfl rfl ?_)); try simp only [Act.put, Act.eval, nrmL, Nat.reduceAdd])
      | (refine Run.ctl (fun _ => stepG_region) rfl ?_; simp only [nrmL, Nat.reduceAdd, Nat.zero_add, List.range, List.range.loop])
      | (refine Run.ctl (fun _ => stepG_cond (t := true) rfl) rfl ?_; simp only [if_true])
      | (refine Run.ctl (fun _ => stepG_cond (t := false) rfl) rfl ?_; simp only [Bool.false_eq_true, if_false])
      | refine Run.ctl (fun _ => stepG_ret') rfl ?_
      | refine Run.ctl (fun _ => stepG_end) rfl ?_)
    exact hend _ 0 rfl _
end
end Go.Proofs.Ytfgpnfboolbbbaa
