/-
  The client's own: a list in a variable; the closures that add to it.
-/
import Derived.Test.YtfgpnfboolbbbaaBbNw
import Derived.Test.YtfgpnfboolbbbaaBbRb
namespace Go.Proofs.Ytfgpnfboolbbbaa
open Go Go.Conc Go.RowKit
/-- A variable of the client's, that holds a list of its own; M: the blocks that both may lie in. -/
structure LstV (w : World) (M : Nat → Prop) (D : Nat) (sl e : TypeId) (sz n : Nat) (xs : List Value) : Prop where
  mem : M D
  ex : ∃ A c, Blk w D sl #[.slice A n c] ∧ SegV w (fun k => M k ∧ k ≠ D) e sz A n c xs
section
variable {w w' : World} {M M' : Nat → Prop} {D : Nat} {sl e : TypeId} {sz n : Nat} {xs : List Value} {F : Nat → Prop}
theorem LstV.keep (L : LstV w M D sl e sz n xs) (hk : Kept F w w') (hF : ∀ k, k < w.heap.size → M k → F k → False) : LstV w' M D sl e sz n xs := by
  obtain ⟨A, c, hB, hS⟩ := L.ex
  exact ⟨L.mem, A, c, hB.keep hk fun q => hF D hB.lt L.mem q, hS.keep hk fun k h1 h2 h3 => hF k h1 h2.1 h3⟩
theorem LstV.mono (L : LstV w M D sl e sz n xs) (h : ∀ k, k < w.heap.size → M k → M' k) : LstV w M' D sl e sz n xs := by
  obtain ⟨A, c, hB, hS⟩ := L.ex
  exact ⟨h D hB.lt L.mem, A, c, hB, hS.mono fun k h1 h2 => ⟨h k h1 h2.1, h2.2⟩⟩
theorem LstV.lt (L : LstV w M D sl e sz n xs) : D < w.heap.size := by
  obtain ⟨A, c, hB, hS⟩ := L.ex
  exact hB.lt
end
/-- What lay there at the beginning lies there still. -/
structure Old (w0 : World) (own : Nat → Nat × Nat) (w : World) : Prop where
  own : ∀ k, k < w0.heap.size → own k = (0, 0)
  kept : Kept noneS w0 w
section
variable {w0 w w' : World} {own own' : Nat → Nat × Nat} {F : Nat → Prop}
theorem Old.step (h : Old w0 own w) (hk : Kept F w w') (hF : ∀ k, F k → own k ≠ (0, 0) ∨ w0.heap.size ≤ k) (ho : ∀ k, k < w.heap.size → own k = (0, 0) → own' k = (0, 0)) : Old w0 own' w' :=
  ⟨fun k hk2 => ho k (Nat.lt_of_lt_of_le hk2 h.kept.size) (h.own k hk2), h.kept.trans2 hk fun k hk2 hf => by
    rcases hF k hf with q | q
    · exact q (h.own k hk2)
    · omega⟩
end
theorem rd_fresh (w : World) (xs : List Value) (t : TypeId) (fr : Nat × Nat) : Rd (w.alloc (.cells xs.toArray t fr)) (fun k => k = w.heap.size) (some ⟨w.heap.size, 0, none⟩) xs :=
  .inr ⟨_, 0, rfl, rfl, fun j u hj => by
    have hb := heap_alloc_new w (.cells xs.toArray t fr)
    unfold World.cell?
    dsimp only
    rw [hb, Nat.zero_add]
    simpa using hj⟩
theorem infoDid : (Try.prog.info? 29).map (fun i => (i.zero, i.size, i.bytes)) = some (some (.agg #[.int .i64 0, .string .empty]), 2, 24) := by kernel_rfl
section
variable {w w1 w2 : World} {M : Nat → Prop} {D m m' : Nat} {sl e : TypeId} {sz : Nat} {xs ys : List Value} {A A' : Option Addr} {c c' : Nat}
/-- The list has grown, the variable holds it. -/
theorem LstV.push (L : LstV w M D sl e sz m xs) (hB : Blk w1 D sl #[.slice A m c]) (hk : Kept (fun k => M k ∧ k ≠ D) w1 w2) (hS : SegV w2 (fun k => M k ∧ k ≠ D) e sz A' m' c' ys) :
    LstV (w2.setCell ⟨D, 0, none⟩ (.slice A' m' c')) M D sl e sz m' ys := by
  have hB2 := hB.keep hk fun q => q.2 rfl
  exact ⟨L.mem, A', c', hB2.set_ 0 _, hS.keep (kept_set w2 ⟨D, 0, none⟩ _) fun k _ q r => q.2 r⟩
end
/-- What the closure does: it adds what it was given to the list. -/
def DidSpec (cf : FuncId) (nt : Nat) (body : Code) (sl e : TypeId) (sz : Nat) (rec : Int → List UInt8 → List Value) : Prop :=
  ∀ (Z : Scene) (n : Nat) (hd : Option (Nat × Chair)) (w : World) (s : Sy) (lk : Int) (Post : Value → World → Prop) (h : Nat) (c : Frame) (cs : List Frame) (D m : Nat) (xs : List Value) (M : Nat → Prop) (id : Int) (IA : Option Addr) (ic : Nat) (bs : List UInt8) (GF : Nat → Prop),
    Rep Z n hd w s lk → LstV w M D sl e sz m xs → m < 2000000000 → (∀ k, k < w.heap.size → M k → s.own k = (0, 0) ∧ ¬ Z.Hd k ∧ ¬ Z.C k) → (∀ k, w.heap.size ≤ k → M k) →
    SegV w GF 5 1 IA bs.length ic (bvs bs) → bs.length ≤ 140737488355328 → (∀ k, k < w.heap.size → GF k → ¬ M k ∧ s.own k = (0, 0) ∧ ¬ Z.Hd k ∧ ¬ Z.C k) →
    (∀ w', Rep Z n hd w' s lk → LstV w' M D sl e sz (m + 1) (xs ++ rec id bs) → Kept (fun k => M k ∨ GF k) w w' → Run Try.prog Post Z n h 0 (G (c.finish (.tuple #[])) cs) w') →
    Run Try.prog Post Z n h 0 (G ((base cf).at { tmps := #[.int .i64 id, .slice IA bs.length ic, .pointer (some ⟨D, 0, none⟩)] ++ Array.replicate (nt - 3) undef, defers := [] } [.code body]) (c :: cs)) w
set_option maxRecDepth 50000 in
set_option maxHeartbeats 2000000 in
theorem sp1_spec : DidSpec 14 Try.f14.ntmps (Try.f14.body.getD .skip) 24 29 2 (fun id bs => [.int .i64 id, .string ⟨bs.toArray⟩]) := by
  intro Z n hd w s lk Post h c cs D m xs M id IA ic bs GF R L hm hM hfr hI hbl hG H
  refine Run.okG fun hok => ?_
  have hr : RB w GF IA bs := hI.rd
  obtain ⟨A, ac, hB, hS⟩ := L.ex
  have hMD := hM D L.lt L.mem
  have hfree := Scene.free (Z := Z) (a := ⟨D, 0, none⟩) hMD.2.1
  have nC := hok.cells hB
  have f0 : ¬ Z.Hd w.heap.size := hok.fresh (Nat.le_refl _)
  simp only [Try.ntmps14]
  try simp only [Act.put, Act.eval, nrmL, Nat.reduceAdd, Nat.reduceSub]
  simp only [Try.f14, Option.getD_some]
  repeat (first
    | refine Run.auto rfl ?_
    | ((first | (refine Run.quietop rfl rfl rfl (by decide) ?_ ?_; (focus (intro w₁; simp [go_sem]; done)); intro w₁ K hK; go_simp; refine hK _ ?_; clear hK K w₁) | (refine Run.lookq theEnv rfl rfl rfl (by decide) rfl (fun _ _ q => by cases q) ?_; apply Exists.intro; apply And.intro; (focus (intro w; apply run_eq_of'; intro K hK; go_simp; exact hK))) | (refine Run.len theEnv rfl rfl (by decide) rfl rfl (by kernel_rfl) ?_) | (refine Run.not rfl rfl ?_)); try simp only [Act.put, Act.eval, nrmL, Nat.reduceAdd])
    | (refine Run.ctl (fun _ => stepG_region) rfl ?_; simp only [nrmL, Nat.reduceAdd, Nat.zero_add, List.range, List.range.loop])
    | (refine Run.ctl (fun _ => stepG_cond (t := true) rfl) rfl ?_; simp only [if_true])
    | (refine Run.ctl (fun _ => stepG_cond (t := false) rfl) rfl ?_; simp only [Bool.false_eq_true, if_false])
    | refine Run.ctl (fun _ => stepG_ret') rfl ?_
    | refine Run.ctl (fun _ => stepG_end) rfl ?_)
  refine Run.ld (a := ⟨D, 0, none⟩) (v := .slice A m ac) rfl rfl (by decide) (hB.cell 0) (hfree.2) (fun w₁ hld => ⟨by go_simp, by simp [go_sem, hld]⟩) ?_
  try simp only [Act.put, Act.eval, nrmL, Nat.reduceAdd]
  repeat (first
    | refine Run.auto rfl ?_
    | ((first | (refine Run.quietop rfl rfl rfl (by decide) ?_ ?_; (focus (intro w₁; simp [go_sem]; done)); intro w₁ K hK; go_simp; refine hK _ ?_; clear hK K w₁) | (refine Run.lookq theEnv rfl rfl rfl (by decide) rfl (fun _ _ q => by cases q) ?_; apply Exists.intro; apply And.intro; (focus (intro w; apply run_eq_of'; intro K hK; go_simp; exact hK))) | (refine Run.len theEnv rfl rfl (by decide) rfl rfl (by kernel_rfl) ?_) | (refine Run.not rfl rfl ?_)); try simp only [Act.put, Act.eval, nrmL, Nat.reduceAdd])
    | (refine Run.ctl (fun _ => stepG_region) rfl ?_; simp only [nrmL, Nat.reduceAdd, Nat.zero_add, List.range, List.range.loop])
    | (refine Run.ctl (fun _ => stepG_cond (t := true) rfl) rfl ?_; simp only [if_true])
    | (refine Run.ctl (fun _ => stepG_cond (t := false) rfl) rfl ?_; simp only [Bool.false_eq_true, if_false])
    | refine Run.ctl (fun _ => stepG_ret') rfl ?_
    | refine Run.ctl (fun _ => stepG_end) rfl ?_)
  refine Run.look theEnv rfl rfl (by decide) rfl (fun _ _ q => by cases q) (.string ⟨bs.toArray⟩) (fun u hu _ => by have := run_string_of (P := Try.prog) (w := u) 27 9 5 Try.underlying27 Try.underlying5 Try.underlying9 GF IA ic bs (hr.keep hu fun k hk hf q => (hG k hk hf).2.2.1 q); go_simp) ?_
  try simp only [Act.put, Act.eval, nrmL, Nat.reduceAdd]
  repeat (first
    | refine Run.auto rfl ?_
    | ((first | (refine Run.quietop rfl rfl rfl (by decide) ?_ ?_; (focus (intro w₁; simp [go_sem]; done)); intro w₁ K hK; go_simp; refine hK _ ?_; clear hK K w₁) | (refine Run.lookq theEnv rfl rfl rfl (by decide) rfl (fun _ _ q => by cases q) ?_; apply Exists.intro; apply And.intro; (focus (intro w; apply run_eq_of'; intro K hK; go_simp; exact hK))) | (refine Run.len theEnv rfl rfl (by decide) rfl rfl (by kernel_rfl) ?_) | (refine Run.not rfl rfl ?_)); try simp only [Act.put, Act.eval, nrmL, Nat.reduceAdd])
    | (refine Run.ctl (fun _ => stepG_region) rfl ?_; simp only [nrmL, Nat.reduceAdd, Nat.zero_add, List.range, List.range.loop])
    | (refine Run.ctl (fun _ => stepG_cond (t := true) rfl) rfl ?_; simp only [if_true])
    | (refine Run.ctl (fun _ => stepG_cond (t := false) rfl) rfl ?_; simp only [Bool.false_eq_true, if_false])
    | refine Run.ctl (fun _ => stepG_ret') rfl ?_
    | refine Run.ctl (fun _ => stepG_end) rfl ?_)
  refine Run.made theEnv rfl rfl (by decide) rfl (fun _ _ q => by cases q) (.slice (some ⟨w.heap.size, 0, none⟩) 1 1) (.cells #[.int .i64 id, .string ⟨bs.toArray⟩] 29) (fun u _ hus => by go_simp) f0 ?_
  try simp only [Act.put, Act.eval, nrmL, Nat.reduceAdd]
  have k1 : Kept noneS w (w.alloc (.cells #[.int .i64 id, .string ⟨bs.toArray⟩] 29)) := (Kept.refl _ _).alloc _
  have hB1 := hB.keep k1 fun q => q
  have hS1 := hS.keep k1 fun _ _ _ q => q
  have hR1 : Rd (w.alloc (.cells #[.int .i64 id, .string ⟨bs.toArray⟩] 29)) (fun k => k = w.heap.size) (some ⟨w.heap.size, 0, none⟩) [.int .i64 id, .string ⟨bs.toArray⟩] := rd_fresh w _ _ _
  have hsz1 : (w.alloc (.cells #[.int .i64 id, .string ⟨bs.toArray⟩] 29)).heap.size = w.heap.size + 1 := by simp
  have hcl : ∀ k, Z.C k → k < w.heap.size := fun k q => hok.chanlt q
  have hDlt := hB.lt
  have hvis : ∀ k, M k → ¬ Z.Hd k ∧ ¬ Z.C k := fun k q => by
    by_cases hk : k < w.heap.size
    · exact (hM k hk q).2
    · exact ⟨hok.fresh (by omega), fun r => hk (hcl k r)⟩
  generalize w.alloc (.cells #[.int .i64 id, .string ⟨bs.toArray⟩] 29) = w1 at *
  refine Run.append (F := fun k => M k ∧ k ≠ D) (GF := fun k => k = w.heap.size) (xs := xs) (ys := [.int .i64 id, .string ⟨bs.toArray⟩]) (m := m) (l := 1) theEnv rfl rfl (by decide) rfl rfl rfl Try.underlying24 infoDid rfl (by decide) hS1 hR1 rfl (by simp [Value.oneCell']) (by simp [maxLen]; omega) (by omega) ⟨hfr _ (by omega), by omega⟩ (fun k _ q => hvis k q.1) (fun k _ q => by rw [q]; exact f0) ?_
  intro A' c' w2 hS2 k2
  try simp only [Act.put, Act.eval, nrmL, Nat.reduceAdd]
  have hB2 := hB1.keep k2 fun q => q.2 rfl
  refine Run.stO (⟨D, 0, none⟩) (.slice A' (m + 1) c') rfl rfl (by decide) rfl rfl rfl rfl rfl (by kernel_rfl) rfl ((by rw [hB2.cell 0]; rfl)) (hB2.frozen 0) (hfree.2) (hfree.1) (nC) ?_
  try simp only [Act.put, Act.eval, nrmL, Nat.reduceAdd]
  have L3 := L.push hB1 k2 hS2
  have k3 := kept_set w2 ⟨D, 0, none⟩ (.slice A' (m + 1) c')
  generalize w2.setCell ⟨D, 0, none⟩ (.slice A' (m + 1) c') = w3 at *
  have k13 : Kept (fun k => M k) w w3 := ((k1.mono fun _ _ q => q.elim).trans (k2.mono fun k _ q => q.1)).trans (k3.mono fun k _ q => by rw [show k = D from q]; exact L.mem)
  repeat (first
    | refine Run.auto rfl ?_
    | ((first | (refine Run.quietop rfl rfl rfl (by decide) ?_ ?_; (focus (intro w₁; simp [go_sem]; done)); intro w₁ K hK; go_simp; refine hK _ ?_; clear hK K w₁) | (refine Run.lookq theEnv rfl rfl rfl (by decide) rfl (fun _ _ q => by cases q) ?_; apply Exists.intro; apply And.intro; (focus (intro w; apply run_eq_of'; intro K hK; go_simp; exact hK))) | (refine Run.len theEnv rfl rfl (by decide) rfl rfl (by kernel_rfl) ?_) | (refine Run.not rfl rfl ?_)); try simp only [Act.put, Act.eval, nrmL, Nat.reduceAdd])
    | (refine Run.ctl (fun _ => stepG_region) rfl ?_; simp only [nrmL, Nat.reduceAdd, Nat.zero_add, List.range, List.range.loop])
    | (refine Run.ctl (fun _ => stepG_cond (t := true) rfl) rfl ?_; simp only [if_true])
    | (refine Run.ctl (fun _ => stepG_cond (t := false) rfl) rfl ?_; simp only [Bool.false_eq_true, if_false])
    | refine Run.ctl (fun _ => stepG_ret') rfl ?_
    | refine Run.ctl (fun _ => stepG_end) rfl ?_)
  refine Run.leave0 rfl rfl Try.func14 (by rfl) ?_
  exact H w3 (R.keep (k13.mono fun k hk q => (⟨q, hk⟩ : M k ∧ k < w.heap.size)) fun k q => (hM k q.2 q.1).1) L3 (k13.mono fun k _ q => .inl q)
end Go.Proofs.Ytfgpnfboolbbbaa
