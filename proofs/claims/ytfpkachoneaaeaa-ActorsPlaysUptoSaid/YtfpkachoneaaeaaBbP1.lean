/-
  ActorsPlays's closure, in company: it adds what it was given to the list, and writes over the item.
-/
import Derived.Test.YtfpkachoneaaeaaBbCli
import Derived.Test.YtfpkachoneaaeaaBbMem
set_option linter.unusedSimpArgs false
set_option linter.unusedVariables false
namespace Go.Proofs.Ytfpkachoneaaeaa
open Go Go.Conc Go.RowKit
noncomputable def p1Loop : Code := match Try.f8.body.getD .skip with
  | .seq _ (.seq _ (.block _ (.loop c))) => c
  | _ => .skip
section
variable {Z : Scene} {n : Nat} {hd : Option (Nat × Chair)} {w0 : World} {s : Sy} {lk : Int} {Post : Value → World → Prop} {h : Nat} {c : Frame} {cs : List Frame} {D m sz : Nat} {xs : List Value} {M GF : Nat → Prop} {id : Int} {IA : Option Addr} {ic nb : Nat} {sl el : TypeId}
set_option maxRecDepth 50000 in
set_option maxHeartbeats 2000000 in
theorem p1_loop (hG : ∀ k, GF k → ¬ M k ∧ s.own k = (0, 0) ∧ ¬ Z.Hd k ∧ ¬ Z.C k) (hnb : nb ≤ 140737488355328) (H : ∀ w', Rep Z n hd w' s lk → LstV w' M D sl el sz m xs → Kept GF w0 w' → Run Try.prog Post Z n h 0 (G (c.finish (.tuple #[])) cs) w') :
    ∀ (j t : Nat) (w : World) (v3 v4 v5 v6 v7 v8 v9 v10 v11 v12 v13 v16 v17 v18 v19 v20 v21 : Value) (ys : List Value), j + t = nb → Rep Z n hd w s lk → LstV w M D sl el sz m xs → SegV w GF 5 1 IA nb ic ys → Kept GF w0 w →
    Run Try.prog Post Z n h 0 (G ((base 8).at ⟨#[.int .i64 id, .slice IA nb ic, .pointer (some ⟨D, 0, none⟩), v3, v4, v5, v6, v7, v8, v9, v10, v11, v12, v13, .int .i64 (nb : Int), .int .i64 (t : Int), v16, v17, v18, v19, v20, v21], []⟩ [.code p1Loop, .inLoop p1Loop, .inBlock 0]) (c :: cs)) w := by
  intro j
  induction j with
  | zero =>
    intro t w v3 v4 v5 v6 v7 v8 v9 v10 v11 v12 v13 v16 v17 v18 v19 v20 v21 ys hj R L hS hk
    have hlt : decide (t < nb) = false := decide_eq_false (by omega)
    unfold p1Loop
    simp only [Try.f8, Option.getD_some]
    have H' := H w R L hk
    clear H
    repeat (first | refine Run.auto rfl ?_ | ((first | (apply Run.lq rfl rfl rfl rfl; (focus (intro w K hK; go_simp; exact hK))) | (refine Run.ln rfl rfl rfl rfl rfl (by kernel_rfl) ?_) | (refine Run.not rfl rfl ?_)); try simp only [Act.put, Act.eval, nrmL, Nat.reduceAdd]) | (refine Run.rg ?_; simp only [nrmL, rngL, Nat.reduceAdd]) | refine Run.cT rfl ?_ | refine Run.cF rfl ?_ | refine Run.rt ?_ | refine Run.nd ?_)
    try simp only [hlt]
    repeat (first | refine Run.auto rfl ?_ | ((first | (apply Run.lq rfl rfl rfl rfl; (focus (intro w K hK; go_simp; exact hK))) | (refine Run.ln rfl rfl rfl rfl rfl (by kernel_rfl) ?_) | (refine Run.not rfl rfl ?_)); try simp only [Act.put, Act.eval, nrmL, Nat.reduceAdd]) | (refine Run.rg ?_; simp only [nrmL, rngL, Nat.reduceAdd]) | refine Run.cT rfl ?_ | refine Run.cF rfl ?_ | refine Run.rt ?_ | refine Run.nd ?_)
    refine Run.leave0 rfl rfl Try.func8 (by rfl) ?_
    try rw [Frame.finish_at]
    try simp only [Act.put, Act.eval, nrmL, Nat.reduceAdd]
    exact H'
  | succ j ih =>
    intro t w v3 v4 v5 v6 v7 v8 v9 v10 v11 v12 v13 v16 v17 v18 v19 v20 v21 ys hj R L hS hk
    have hlt : decide (t < nb) = true := decide_eq_true (by omega)
    have hji : (t : Int) < (nb : Int) := by omega
    have hj0 : (0 : Int) ≤ (t : Int) := by omega
    obtain ⟨g, o, cur, rfl, hgF, hgl, hb, hoc, hce⟩ := hS.at_ (by omega)
    have hgv := hG g hgF
    have fg := Scene.free (Z := Z) (a := ⟨g, o + t, none⟩) hgv.2.2.1
    have hyl : ys.length = nb * 1 := hS.1
    have hcell0 : w.cell? ⟨g, o + t, none⟩ = some ys[t] := hce t ys[t] (List.getElem?_eq_getElem (by omega))
    have hcell : (w.cell? ⟨g, o + t, none⟩).isSome = true := by rw [hcell0]; rfl
    generalize ys[t] = yt at hcell0
    have hset := hS.set_ (k := t) (by omega) (.int .u8 221)
    have hks := kept_set w ⟨g, o + t, none⟩ (.int .u8 221)
    have R1 := R.keep hks fun k q => by rw [show k = g from q]; exact hgv.2.1
    have L1 := L.keep hks fun k _ q r => by rw [show k = g from r] at q; exact hgv.1 q
    have hk1 := hk.trans (hks.mono fun k _ q => by rw [show k = g from q]; exact hgF)
    have hwt : IntKind.i64.wrap ((t : Int) + 1) = ((t + 1 : Nat) : Int) := by rw [IntKind.wrap_i64]; omega
    have ih' := ih (t + 1) (w.setCell ⟨g, o + t, none⟩ (.int .u8 221))
    unfold p1Loop at ih' ⊢
    simp only [Try.f8, Option.getD_some] at ih' ⊢
    have hfz := hb.frozen (o + t)
    clear ih H hk hyl hce R L hS
    repeat (first | refine Run.auto rfl ?_ | ((first | (apply Run.lq rfl rfl rfl rfl; (focus (intro w K hK; go_simp; exact hK))) | (refine Run.ln rfl rfl rfl rfl rfl (by kernel_rfl) ?_) | (refine Run.not rfl rfl ?_)); try simp only [Act.put, Act.eval, nrmL, Nat.reduceAdd]) | (refine Run.rg ?_; simp only [nrmL, rngL, Nat.reduceAdd]) | refine Run.cT rfl ?_ | refine Run.cF rfl ?_ | refine Run.rt ?_ | refine Run.nd ?_)
    try simp only [hlt]
    repeat (first | refine Run.auto rfl ?_ | ((first | (apply Run.lq rfl rfl rfl rfl; (focus (intro w K hK; go_simp; exact hK))) | (refine Run.ln rfl rfl rfl rfl rfl (by kernel_rfl) ?_) | (refine Run.not rfl rfl ?_)); try simp only [Act.put, Act.eval, nrmL, Nat.reduceAdd]) | (refine Run.rg ?_; simp only [nrmL, rngL, Nat.reduceAdd]) | refine Run.cT rfl ?_ | refine Run.cF rfl ?_ | refine Run.rt ?_ | refine Run.nd ?_)
    refine Run.stO (⟨g, o + t, none⟩) (.int .u8 221) rfl rfl (by decide) rfl rfl rfl rfl rfl (by kernel_rfl) rfl (hcell) (hfz) (fg.2) (fg.1) (hgv.2.2.2) ?_
    try simp only [Act.put, Act.eval, nrmL, Nat.reduceAdd]
    repeat (first | refine Run.auto rfl ?_ | ((first | (apply Run.lq rfl rfl rfl rfl; (focus (intro w K hK; go_simp; exact hK))) | (refine Run.ln rfl rfl rfl rfl rfl (by kernel_rfl) ?_) | (refine Run.not rfl rfl ?_)); try simp only [Act.put, Act.eval, nrmL, Nat.reduceAdd]) | (refine Run.rg ?_; simp only [nrmL, rngL, Nat.reduceAdd]) | refine Run.cT rfl ?_ | refine Run.cF rfl ?_ | refine Run.rt ?_ | refine Run.nd ?_)
    refine Run.ctl (fun _ => stepG_inLoop) rfl ?_
    exact ih' _ _ _ _ _ _ _ _ _ _ _ _ _ _ _ _ _ _ (by omega) R1 L1 hset hk1
end
set_option maxRecDepth 50000 in
set_option maxHeartbeats 2000000 in
theorem plays1_spec : DidSpec 8 Try.f8.ntmps (Try.f8.body.getD .skip) 24 29 2 (fun id bs => [.int .i64 id, .string ⟨bs.toArray⟩]) := by
  intro Z n hd w s lk Post h c cs D m xs M id IA ic bs GF R L hm hM hfr hI hbl hG H
  refine Run.okG fun hok => ?_
  have hr : RB w GF IA bs := hI.rd
  obtain ⟨A, ac, hB, hS⟩ := L.ex
  have hMD := hM D L.lt L.mem
  have hfree := Scene.free (Z := Z) (a := ⟨D, 0, none⟩) hMD.2.1
  have nC := hok.cells hB
  have f0 : ¬ Z.Hd w.heap.size := hok.fresh (Nat.le_refl _)
  simp only [Try.ntmps8]
  try simp only [Act.put, Act.eval, nrmL, Nat.reduceAdd, Nat.reduceSub]
  simp only [Try.f8, Option.getD_some]
  repeat (first | refine Run.auto rfl ?_ | ((first | (apply Run.lq rfl rfl rfl rfl; (focus (intro w K hK; go_simp; exact hK))) | (refine Run.ln rfl rfl rfl rfl rfl (by kernel_rfl) ?_) | (refine Run.not rfl rfl ?_)); try simp only [Act.put, Act.eval, nrmL, Nat.reduceAdd]) | (refine Run.rg ?_; simp only [nrmL, rngL, Nat.reduceAdd]) | refine Run.cT rfl ?_ | refine Run.cF rfl ?_ | refine Run.rt ?_ | refine Run.nd ?_)
  refine Run.ld (a := ⟨D, 0, none⟩) (v := .slice A m ac) rfl rfl (by decide) (hB.cell 0) (hfree.2) (fun w₁ hld => ⟨by go_simp, by simp [go_sem, hld]⟩) ?_
  try simp only [Act.put, Act.eval, nrmL, Nat.reduceAdd]
  repeat (first | refine Run.auto rfl ?_ | ((first | (apply Run.lq rfl rfl rfl rfl; (focus (intro w K hK; go_simp; exact hK))) | (refine Run.ln rfl rfl rfl rfl rfl (by kernel_rfl) ?_) | (refine Run.not rfl rfl ?_)); try simp only [Act.put, Act.eval, nrmL, Nat.reduceAdd]) | (refine Run.rg ?_; simp only [nrmL, rngL, Nat.reduceAdd]) | refine Run.cT rfl ?_ | refine Run.cF rfl ?_ | refine Run.rt ?_ | refine Run.nd ?_)
  refine Run.look theEnv rfl rfl (by decide) rfl (fun _ _ q => by cases q) (.string ⟨bs.toArray⟩) (fun u hu _ => by have := run_string_of (P := Try.prog) (w := u) 27 9 5 Try.underlying27 Try.underlying5 Try.underlying9 GF IA ic bs (hr.keep hu fun k hk hf q => (hG k hk hf).2.2.1 q); go_simp) ?_
  try simp only [Act.put, Act.eval, nrmL, Nat.reduceAdd]
  repeat (first | refine Run.auto rfl ?_ | ((first | (apply Run.lq rfl rfl rfl rfl; (focus (intro w K hK; go_simp; exact hK))) | (refine Run.ln rfl rfl rfl rfl rfl (by kernel_rfl) ?_) | (refine Run.not rfl rfl ?_)); try simp only [Act.put, Act.eval, nrmL, Nat.reduceAdd]) | (refine Run.rg ?_; simp only [nrmL, rngL, Nat.reduceAdd]) | refine Run.cT rfl ?_ | refine Run.cF rfl ?_ | refine Run.rt ?_ | refine Run.nd ?_)
  refine Run.made theEnv rfl rfl (by decide) rfl (fun _ _ q => by cases q) (.slice (some ⟨w.heap.size, 0, none⟩) 1 1) (.cells #[.int .i64 id, .string ⟨bs.toArray⟩] 29) (fun u _ hus => by go_simp) f0 ?_
  try simp only [Act.put, Act.eval, nrmL, Nat.reduceAdd]
  have k1 : Kept noneS w (w.alloc (.cells #[.int .i64 id, .string ⟨bs.toArray⟩] 29)) := (Kept.refl _ _).alloc _
  have hB1 := hB.keep k1 fun q => q
  have hS1 := hS.keep k1 fun _ _ _ q => q
  have hR1 : Rd (w.alloc (.cells #[.int .i64 id, .string ⟨bs.toArray⟩] 29)) (fun k => k = w.heap.size) (some ⟨w.heap.size, 0, none⟩) [.int .i64 id, .string ⟨bs.toArray⟩] := rd_fresh w _ _ _
  have hsz1 : (w.alloc (.cells #[.int .i64 id, .string ⟨bs.toArray⟩] 29)).heap.size = w.heap.size + 1 := by simp
  have hcl : ∀ k, Z.C k → k < w.heap.size := fun k q => hok.chanlt q
  have hDlt := hB.lt
  have hvis : ∀ k, M k → ¬ Z.Hd k ∧ ¬ Z.C k := fun k q => by
    by_cases hk : k < w.heap.size
    · exact (hM k hk q).2
    · exact ⟨hok.fresh (by omega), fun r => hk (hcl k r)⟩
  generalize w.alloc (.cells #[.int .i64 id, .string ⟨bs.toArray⟩] 29) = w1 at *
  refine Run.append (F := fun k => M k ∧ k ≠ D) (GF := fun k => k = w.heap.size) (xs := xs) (ys := [.int .i64 id, .string ⟨bs.toArray⟩]) (m := m) (l := 1) theEnv rfl rfl (by decide) rfl rfl rfl Try.underlying24 infoDid rfl (by decide) hS1 hR1 rfl (by simp [Value.oneCell']) (by simp [maxLen]; omega) (by omega) ⟨hfr _ (by omega), by omega⟩ (fun k _ q => hvis k q.1) (fun k _ q => by rw [q]; exact f0) ?_
  intro A' c' w2 hS2 k2
  try simp only [Act.put, Act.eval, nrmL, Nat.reduceAdd]
  have hB2 := hB1.keep k2 fun q => q.2 rfl
  refine Run.stO (⟨D, 0, none⟩) (.slice A' (m + 1) c') rfl rfl (by decide) rfl rfl rfl rfl rfl (by kernel_rfl) rfl ((by rw [hB2.cell 0]; rfl)) (hB2.frozen 0) (hfree.2) (hfree.1) (nC) ?_
  try simp only [Act.put, Act.eval, nrmL, Nat.reduceAdd]
  have L3 := L.push hB1 k2 hS2
  have k3 := kept_set w2 ⟨D, 0, none⟩ (.slice A' (m + 1) c')
  generalize w2.setCell ⟨D, 0, none⟩ (.slice A' (m + 1) c') = w3 at *
  have k13 : Kept (fun k => M k) w w3 := ((k1.mono fun _ _ q => q.elim).trans (k2.mono fun k _ q => q.1)).trans (k3.mono fun k _ q => by rw [show k = D from q]; exact L.mem)
  have R3 := R.keep (k13.mono fun k hk q => (⟨q, hk⟩ : M k ∧ k < w.heap.size)) fun k q => (hM k q.2 q.1).1
  have hI3 := (hI.mono fun k hk q => (⟨q, hk⟩ : GF k ∧ k < w.heap.size)).keep k13 fun k hk q r => (hG k hk q.1).1 r
  have hlp := p1_loop (Post := Post) (h := h) (c := c) (cs := cs) (D := D) (id := id) (IA := IA) (ic := ic) (w0 := w3) (GF := fun k => GF k ∧ k < w.heap.size) (fun k q => ⟨fun r => (hG k q.2 q.1).1 r, (hG k q.2 q.1).2⟩) hbl (fun w' R' L' k' => H w' R' L' ((k13.mono fun k _ q => .inl q).trans (k'.mono fun k _ q => .inr q.1))) bs.length 0 w3
  unfold p1Loop at hlp
  simp only [Try.f8, Option.getD_some] at hlp
  clear H hG hM hI hr L R hB hS hok
  repeat (first | refine Run.auto rfl ?_ | ((first | (apply Run.lq rfl rfl rfl rfl; (focus (intro w K hK; go_simp; exact hK))) | (refine Run.ln rfl rfl rfl rfl rfl (by kernel_rfl) ?_) | (refine Run.not rfl rfl ?_)); try simp only [Act.put, Act.eval, nrmL, Nat.reduceAdd]) | (refine Run.rg ?_; simp only [nrmL, rngL, Nat.reduceAdd]) | refine Run.cT rfl ?_ | refine Run.cF rfl ?_ | refine Run.rt ?_ | refine Run.nd ?_)
  refine Run.ctl (fun _ => stepG_loop) rfl ?_
  exact hlp _ _ _ _ _ _ _ _ _ _ _ _ _ _ _ _ _ _ (by omega) R3 L3 hI3 (Kept.refl _ _)
end Go.Proofs.Ytfpkachoneaaeaa
