/-
  Runnable.
-/
import Derived.Test.YtfpkachoneaaeaaBbSrt
import Derived.Test.YtfpkachoneaaeaaBbPo5
set_option linter.unusedSimpArgs false
set_option linter.unusedVariables false
namespace Go.Proofs.Ytfpkachoneaaeaa
open Go Go.Conc Go.RowKit
noncomputable def rbLoop : Code := match Try.f11.body.getD .skip with
  | .seq _ (.seq _ (.seq _ (.seq (.seq _ (.block _ (.loop c))) _))) => c
  | _ => .skip
noncomputable def rbRest : Code := match Try.f11.body.getD .skip with
  | .seq _ (.seq _ (.seq _ (.seq _ t))) => t
  | _ => .skip
theorem SegV.see {w v : World} {F : Nat → Prop} {e : TypeId} {sz n c : Nat} {A : Option Addr} {xs : List Value} (h : SegV v F e sz A n c xs) (hs : ∀ b, F b → w.heap[b]? = v.heap[b]?) : SegV w F e sz A n c xs := by
  refine ⟨h.1, ?_⟩
  rcases h.2 with h | ⟨g, o, cur, h1, h2, h3, h4⟩
  · exact .inl h
  · exact .inr ⟨g, o, cur, h1, h2, (hs g h2).trans h3, h4⟩
theorem SegV.of_row {w : World} {base : Nat} {e : TypeId} {v : Value} {n : Nat} {xs : List Value} (h : w.ownsRow base e 1 v n xs) : ∃ A c, v = .slice A n c ∧ SegV w (fun k => base ≤ k) e 1 A n c xs := by
  obtain ⟨h0, h | ⟨g, cap, cur, rfl, h1, h2, h3, h4, h5, h6⟩⟩ := h
  · obtain ⟨rfl, rfl⟩ := h
    exact ⟨none, 0, rfl, h0, .inl ⟨rfl, rfl⟩⟩
  · exact ⟨_, cap, rfl, h0, .inr ⟨g, 0, cur, rfl, h1, h2, h3, h4, by omega, by simpa using h6⟩⟩
theorem infoI : (Try.prog.info? 3).map (fun i => (i.zero, i.size, i.bytes)) = some (some (.int .i64 0), 1, 8) := by kernel_rfl
section
variable {Z : Scene} {n : Nat} {hd : Option (Nat × Chair)} {s : Sy} {Post : Value → World → Prop} {h : Nat} {c : Frame} {cs : List Frame} {L : List Int} {LA : Option Addr} {lc N : Nat}
theorem Rep.ent_of {w : World} {lk : Int} (R : Rep Z n hd w s lk) {id : Int} (h : ∃ e ∈ s.ents, e.id = id) : ∃ e ∈ s.ents, e.id = id ∧ s.ent id = some e := by
  obtain ⟨e, he, hi⟩ := h
  cases q : s.ent id with
  | none => exact absurd hi (Sy.ent_none q e he)
  | some x =>
    obtain ⟨h1, h2⟩ := Sy.ent_some q
    exact ⟨x, h1, h2, rfl⟩
set_option maxRecDepth 50000 in
set_option maxHeartbeats 2000000 in
theorem rb_loop (hids : ∀ id ∈ L, ∃ e ∈ s.ents, e.id = id) (hbig : L.length * 8 ≤ 140737488355328) (hown : ∀ k, N ≤ k → s.own k = (0, 0)) (hfresh : ∀ k, N ≤ k → ¬ Z.Hd k ∧ ¬ Z.C k) : ∀ (l : List Int) (j : Nat) (w : World) (A : Option Addr) (k : Nat) (out : List Int) (v1 v3 v4 v5 v6 v7 v8 v9 v10 v11 v12 v13 v14 v15 v16 v20 v21 v22 v23 v24 v25 v26 v27 v28 v29 v30 v31 v32 v33 v34 v35 v36 v37 v38 v39 : Value),
    L.drop j = l → out.length ≤ j → Rep Z n hd w s 1 → Rd w (fun k => k < N ∧ ¬ Z.Hd k) LA (L.map (Value.int .i64)) → SegV w (fun k => N ≤ k) 3 1 A out.length k (out.map (Value.int .i64)) → N ≤ w.heap.size →
    (∀ A k w', Rep Z n hd w' s 0 → SegV w' (fun k => N ≤ k) 3 1 A (out ++ l.filter (fun id => decide (0 < s.len id))).length k ((out ++ l.filter (fun id => decide (0 < s.len id))).map (Value.int .i64)) → Kept (fun k => N ≤ k ∨ k = s.S) w w' → Run Try.prog Post Z n h 0 (G (c.finish (.slice A (out ++ l.filter (fun id => decide (0 < s.len id))).length k)) cs) w') →
    Run Try.prog Post Z n h 0 (G ((base 11).at ⟨#[.pointer (some ⟨s.S, 0, none⟩), v1, .slice A out.length k, v3, v4, v5, v6, v7, v8, v9, v10, v11, v12, v13, v14, v15, v16, .slice LA L.length lc, .int .i64 (L.length : Int), .int .i64 (j : Int), v20, v21, v22, v23, v24, v25, v26, v27, v28, v29, v30, v31, v32, v33, v34, v35, v36, v37, v38, v39], [dcall 25 #[.pointer (some ⟨s.S, 1, none⟩)]]⟩ [.code rbLoop, .inLoop rbLoop, .inBlock 0, .code rbRest]) (c :: cs)) w := by
  intro l
  induction l with
  | nil =>
    intro j w A k out v1 v3 v4 v5 v6 v7 v8 v9 v10 v11 v12 v13 v14 v15 v16 v20 v21 v22 v23 v24 v25 v26 v27 v28 v29 v30 v31 v32 v33 v34 v35 v36 v37 v38 v39 hd0 hjl R hrow hseg hN H
    refine Run.okG fun hok => ?_
    have hj : L.length ≤ j := by
      rcases Nat.lt_or_ge j L.length with q | q
      · rw [List.drop_eq_getElem_cons q] at hd0; cases hd0
      · exact q
    have h1 : decide (j < L.length) = false := decide_eq_false (by omega)
    unfold rbLoop rbRest
    simp only [Try.f11, Option.getD_some]
    repeat (first | refine Run.auto rfl ?_ | ((first | (apply Run.lq rfl rfl rfl rfl; (focus (intro w K hK; go_simp; exact hK))) | (refine Run.ln rfl rfl rfl rfl rfl (by kernel_rfl) ?_) | (refine Run.not rfl rfl ?_)); try simp only [Act.put, Act.eval, nrmL, Nat.reduceAdd]) | (refine Run.rg ?_; simp only [nrmL, rngL, Nat.reduceAdd]) | refine Run.cT rfl ?_ | refine Run.cF rfl ?_ | refine Run.rt ?_ | refine Run.nd ?_)
    try simp only [h1]
    repeat (first | refine Run.auto rfl ?_ | ((first | (apply Run.lq rfl rfl rfl rfl; (focus (intro w K hK; go_simp; exact hK))) | (refine Run.ln rfl rfl rfl rfl rfl (by kernel_rfl) ?_) | (refine Run.not rfl rfl ?_)); try simp only [Act.put, Act.eval, nrmL, Nat.reduceAdd]) | (refine Run.rg ?_; simp only [nrmL, rngL, Nat.reduceAdd]) | refine Run.cT rfl ?_ | refine Run.cF rfl ?_ | refine Run.rt ?_ | refine Run.nd ?_)
    refine Run.undefer rfl Try.func25 (by kernel_rfl) rfl ?_
    simp only [Try.ntmps25]
    try simp only [Act.put, Act.eval, nrmL, Nat.reduceAdd, Nat.reduceSub]
    refine unlock_runD (a := ⟨s.S, 1, none⟩) (R.cell 1) (R.sys.frozen 1) (R.npl 1 (by decide)) (R.nsh 1 (.inr (by decide))) (R.nC hok) rfl ?_
    obtain ⟨R2, k2⟩ := R.lkTo 0
    refine Run.leave1 rfl rfl Try.func11 (by rfl) ?_
    have := H A k _ R2 ((by simpa using hseg : SegV w _ _ 1 A _ k _).keep k2 fun k _ h1 h2 => by
      have := hown k h1
      rw [h2, R.oS] at this
      exact snd_ne this (by decide)) (k2.mono fun k _ hk => .inr hk)
    simpa using this
  | cons id l ih =>
    intro j w A k out v1 v3 v4 v5 v6 v7 v8 v9 v10 v11 v12 v13 v14 v15 v16 v20 v21 v22 v23 v24 v25 v26 v27 v28 v29 v30 v31 v32 v33 v34 v35 v36 v37 v38 v39 hd0 hjl R hrow hseg hN H
    refine Run.okG fun hok => ?_
    have hj : j < L.length := by
      rcases Nat.lt_or_ge j L.length with q | q
      · exact q
      · rw [List.drop_eq_nil_of_le q] at hd0; cases hd0
    have hjd : L[j]? = some id ∧ L.drop (j + 1) = l := by
      rw [List.drop_eq_getElem_cons hj] at hd0
      injection hd0 with e1 e2
      exact ⟨by rw [List.getElem?_eq_getElem hj, e1], e2⟩
    obtain ⟨g, o, rfl, ⟨hgN, hgH⟩, hcells⟩ : ∃ g o, LA = some ⟨g, o, none⟩ ∧ (g < N ∧ ¬ Z.Hd g) ∧ ∀ j u, (L.map (Value.int .i64))[j]? = some u → w.cell? ⟨g, o + j, none⟩ = some u := by
      rcases hrow with q | q
      · rw [List.map_eq_nil_iff] at q; rw [q] at hj; simp at hj
      · exact q
    have hcell : w.cell? ⟨g, o + j, none⟩ = some (.int .i64 id) := hcells j _ (by rw [List.getElem?_map, hjd.1]; rfl)
    obtain ⟨e, he, hid, hent⟩ := R.ent_of (hids id (List.mem_of_getElem? hjd.1))
    have h1 : decide (j < L.length) = true := decide_eq_true (by omega)
    have b1 : (0 : Int) ≤ (j : Int) := by omega
    have b2 : (j : Int) < (L.length : Int) := by omega
    have b3 : IntKind.i64.wrap ((j : Int) + 1) = ((j + 1 : Nat) : Int) := by rw [IntKind.wrap_i64]; omega
    have hfree := Scene.free (Z := Z) (a := ⟨g, o + j, none⟩) hgH
    have hE := R.ents e he
    have ih' := fun w A k out v1 v3 v4 v5 v6 v7 v8 v9 v10 v11 v12 v13 v14 v15 v16 v20 v21 v22 v23 v24 v25 v26 v27 v28 v29 v30 v31 v32 v33 v34 v35 v36 v37 v38 v39 => ih (j + 1) w A k out v1 v3 v4 v5 v6 v7 v8 v9 v10 v11 v12 v13 v14 v15 v16 v20 v21 v22 v23 v24 v25 v26 v27 v28 v29 v30 v31 v32 v33 v34 v35 v36 v37 v38 v39 hjd.2
    unfold rbLoop rbRest at ih' ⊢
    simp only [Try.f11, Option.getD_some] at ih' ⊢
    repeat (first | refine Run.auto rfl ?_ | ((first | (apply Run.lq rfl rfl rfl rfl; (focus (intro w K hK; go_simp; exact hK))) | (refine Run.ln rfl rfl rfl rfl rfl (by kernel_rfl) ?_) | (refine Run.not rfl rfl ?_)); try simp only [Act.put, Act.eval, nrmL, Nat.reduceAdd]) | (refine Run.rg ?_; simp only [nrmL, rngL, Nat.reduceAdd]) | refine Run.cT rfl ?_ | refine Run.cF rfl ?_ | refine Run.rt ?_ | refine Run.nd ?_)
    try simp only [h1]
    refine Run.ld (a := ⟨g, o + j, none⟩) (v := .int .i64 id) rfl rfl (by decide) (hcell) (hfree.2) (fun w₁ hld => ⟨by go_simp, by simp [go_sem, hld]⟩) ?_
    try simp only [Act.put, Act.eval, nrmL, Nat.reduceAdd]
    repeat (first | refine Run.auto rfl ?_ | ((first | (apply Run.lq rfl rfl rfl rfl; (focus (intro w K hK; go_simp; exact hK))) | (refine Run.ln rfl rfl rfl rfl rfl (by kernel_rfl) ?_) | (refine Run.not rfl rfl ?_)); try simp only [Act.put, Act.eval, nrmL, Nat.reduceAdd]) | (refine Run.rg ?_; simp only [nrmL, rngL, Nat.reduceAdd]) | refine Run.cT rfl ?_ | refine Run.cF rfl ?_ | refine Run.rt ?_ | refine Run.nd ?_)
    refine Run.ld (a := ⟨s.S, 3, none⟩) (v := .map (some s.mp)) rfl rfl (by decide) (R.cell 3) (R.nsh 3 (.inr (by decide))) (fun w₁ hld => ⟨by go_simp, by simp [go_sem, hld]⟩) ?_
    try simp only [Act.put, Act.eval, nrmL, Nat.reduceAdd]
    repeat (first | refine Run.auto rfl ?_ | ((first | (apply Run.lq rfl rfl rfl rfl; (focus (intro w K hK; go_simp; exact hK))) | (refine Run.ln rfl rfl rfl rfl rfl (by kernel_rfl) ?_) | (refine Run.not rfl rfl ?_)); try simp only [Act.put, Act.eval, nrmL, Nat.reduceAdd]) | (refine Run.rg ?_; simp only [nrmL, rngL, Nat.reduceAdd]) | refine Run.cT rfl ?_ | refine Run.cF rfl ?_ | refine Run.rt ?_ | refine Run.nd ?_)
    refine Run.look theEnv rfl rfl (by decide) rfl (fun _ _ q => by cases q) (s.val id) (fun u hu _ => by have := R.look id u hu; go_simp) ?_
    try simp only [Act.put, Act.eval, nrmL, Nat.reduceAdd]
    rw [show s.val id = ptr e.b by simp [Sy.val, hent]]
    unfold ptr
    repeat (first | refine Run.auto rfl ?_ | ((first | (apply Run.lq rfl rfl rfl rfl; (focus (intro w K hK; go_simp; exact hK))) | (refine Run.ln rfl rfl rfl rfl rfl (by kernel_rfl) ?_) | (refine Run.not rfl rfl ?_)); try simp only [Act.put, Act.eval, nrmL, Nat.reduceAdd]) | (refine Run.rg ?_; simp only [nrmL, rngL, Nat.reduceAdd]) | refine Run.cT rfl ?_ | refine Run.cF rfl ?_ | refine Run.rt ?_ | refine Run.nd ?_)
    refine Run.ld (a := ⟨e.b, 0, none⟩) (v := .slice e.A e.items.length e.c) rfl rfl (by decide) (R.cellE he 0) (R.nshE he 0) (fun w₁ hld => ⟨by go_simp, by simp [go_sem, hld]⟩) ?_
    try simp only [Act.put, Act.eval, nrmL, Nat.reduceAdd]
    repeat (first | refine Run.auto rfl ?_ | ((first | (apply Run.lq rfl rfl rfl rfl; (focus (intro w K hK; go_simp; exact hK))) | (refine Run.ln rfl rfl rfl rfl rfl (by kernel_rfl) ?_) | (refine Run.not rfl rfl ?_)); try simp only [Act.put, Act.eval, nrmL, Nat.reduceAdd]) | (refine Run.rg ?_; simp only [nrmL, rngL, Nat.reduceAdd]) | refine Run.cT rfl ?_ | refine Run.cF rfl ?_ | refine Run.rt ?_ | refine Run.nd ?_)
    have hlen : s.len id = e.items.length := by simp [Sy.len, hent]
    by_cases hp : 0 < e.items.length
    · have h2 : decide (0 < e.items.length) = true := decide_eq_true (by omega)
      try simp only [gt_iff_lt, h2]
      repeat (first | refine Run.auto rfl ?_ | ((first | (apply Run.lq rfl rfl rfl rfl; (focus (intro w K hK; go_simp; exact hK))) | (refine Run.ln rfl rfl rfl rfl rfl (by kernel_rfl) ?_) | (refine Run.not rfl rfl ?_)); try simp only [Act.put, Act.eval, nrmL, Nat.reduceAdd]) | (refine Run.rg ?_; simp only [nrmL, rngL, Nat.reduceAdd]) | refine Run.cT rfl ?_ | refine Run.cF rfl ?_ | refine Run.rt ?_ | refine Run.nd ?_)
      refine Run.made theEnv rfl rfl (by decide) rfl (fun _ _ q => by cases q) (.slice (some ⟨w.heap.size, 0, none⟩) 1 1) (.cells #[.int .i64 id] 3) (fun u _ hus => by go_simp) (hok.fresh (Nat.le_refl _)) ?_
      try simp only [Act.put, Act.eval, nrmL, Nat.reduceAdd]
      have k1 : Kept noneS w (w.alloc (.cells #[.int .i64 id] 3)) := (Kept.refl _ _).alloc _
      have B1 : Blk (w.alloc (.cells #[.int .i64 id] 3)) w.heap.size 3 #[.int .i64 id] := Blk.new _ _ _
      have R1 := R.keep k1 fun _ q => q.elim
      have seg1 := hseg.keep k1 fun _ _ _ q => q
      have row1 := hrow.keep k1 fun _ _ _ q => q
      have hsz1 : (w.alloc (.cells #[.int .i64 id] 3)).heap.size = w.heap.size + 1 := by simp
      have f1 : ¬ Z.Hd w.heap.size := hok.fresh (Nat.le_refl _)
      generalize w.alloc (.cells #[.int .i64 id] 3) = w1 at *
      refine Run.append (F := fun k => N ≤ k) (GF := fun k => k = w.heap.size) (xs := out.map (Value.int .i64)) (ys := [.int .i64 id]) (m := out.length) (l := 1) theEnv rfl rfl (by decide) rfl rfl rfl Try.underlying33 infoI rfl (by decide) seg1 ?_ rfl ?_ ?_ ?_ ?_ ?_ ?_ ?_
      · refine .inr ⟨w.heap.size, 0, rfl, rfl, fun i u hu => ?_⟩
        rw [B1.cell]
        match i, hu with
        | 0, hu => exact hu
      · intro u hu
        simp at hu
        subst hu
        rfl
      · simp [maxLen]; omega
      · omega
      · show N ≤ w1.heap.size
        omega
      · intro i _ hi
        exact hfresh i hi
      · intro i _ hi
        rw [hi]; exact f1
      · intro A' c' w2 seg2 k2
        try simp only [Act.put, Act.eval, nrmL, Nat.reduceAdd]
        repeat (first | refine Run.auto rfl ?_ | ((first | (apply Run.lq rfl rfl rfl rfl; (focus (intro w K hK; go_simp; exact hK))) | (refine Run.ln rfl rfl rfl rfl rfl (by kernel_rfl) ?_) | (refine Run.not rfl rfl ?_)); try simp only [Act.put, Act.eval, nrmL, Nat.reduceAdd]) | (refine Run.rg ?_; simp only [nrmL, rngL, Nat.reduceAdd]) | refine Run.cT rfl ?_ | refine Run.cF rfl ?_ | refine Run.rt ?_ | refine Run.nd ?_)
        refine Run.ctl (fun _ => stepG_inLoop) rfl ?_
        have R2 := R1.keep k2 fun i hi => hown i hi
        have row2 := row1.keep k2 fun i _ h1 h2 => by omega
        have hl1 : out.length + 1 = (out ++ [id]).length := by simp
        rw [hl1] at seg2 ⊢
        refine ih' w2 A' c' (out ++ [id]) _ _ _ _ _ _ _ _ _ _ _ _ _ _ _ _ _ _ _ _ _ _ _ _ _ _ _ _ _ _ _ _ _ _ _ (by rw [List.length_append]; simp; omega) R2 row2 (by rw [List.map_append]; exact seg2) (by have := k2.size; omega) ?_
        have hf : (id :: l).filter (fun id => decide (0 < s.len id)) = id :: l.filter (fun id => decide (0 < s.len id)) := by
          rw [List.filter_cons_of_pos]
          rw [hlen]
          exact h2
        rw [hf] at H
        intro A3 c3 w3 R3 seg3 k3
        rw [List.append_assoc] at seg3 ⊢
        exact H A3 c3 w3 R3 seg3 (((k1.mono fun _ _ q => q.elim).trans (k2.mono fun _ _ q => .inl q)).trans k3)
    · have h2 : decide (0 < e.items.length) = false := decide_eq_false (by omega)
      try simp only [gt_iff_lt, h2]
      repeat (first | refine Run.auto rfl ?_ | ((first | (apply Run.lq rfl rfl rfl rfl; (focus (intro w K hK; go_simp; exact hK))) | (refine Run.ln rfl rfl rfl rfl rfl (by kernel_rfl) ?_) | (refine Run.not rfl rfl ?_)); try simp only [Act.put, Act.eval, nrmL, Nat.reduceAdd]) | (refine Run.rg ?_; simp only [nrmL, rngL, Nat.reduceAdd]) | refine Run.cT rfl ?_ | refine Run.cF rfl ?_ | refine Run.rt ?_ | refine Run.nd ?_)
      refine Run.ctl (fun _ => stepG_inLoop) rfl ?_
      refine ih' w A k out _ _ _ _ _ _ _ _ _ _ _ _ _ _ _ _ _ _ _ _ _ _ _ _ _ _ _ _ _ _ _ _ _ _ _ (by omega) R hrow hseg hN ?_
      have : (id :: l).filter (fun id => decide (0 < s.len id)) = l.filter (fun id => decide (0 < s.len id)) := by
        rw [List.filter_cons_of_neg]
        rw [hlen, h2]
        simp
      rw [this] at H
      exact H
end
end Go.Proofs.Ytfpkachoneaaeaa
namespace Go.Proofs.Ytfpkachoneaaeaa
open Go Go.Conc Go.RowKit
def sortIds (s : Sy) : List Int := (s.ents.map (·.id)).mergeSort (fun x y => decide (x ≤ y))
def runIds (s : Sy) : List Int := (sortIds s).filter (fun id => decide (0 < s.len id))
theorem sortIds_mem {s : Sy} {id : Int} : id ∈ sortIds s ↔ ∃ e ∈ s.ents, e.id = id := by
  unfold sortIds
  rw [List.mem_mergeSort, List.mem_map]
section
variable {Z : Scene} {n : Nat} {hd : Option (Nat × Chair)} {w : World} {s : Sy} {Post : Value → World → Prop} {h : Nat} {c : Frame} {cs : List Frame}
set_option maxRecDepth 50000 in
set_option maxHeartbeats 2000000 in
theorem runnable_run (R : Rep Z n hd w s 0) (hwf : ∀ e ∈ s.ents, (Lit.int .i64 e.id).wf = true) (hl : s.ents.length * 8 ≤ 140737488355328)
    (H : ∀ A k w', Rep Z n hd w' s 0 → SegV w' (fun k => w.heap.size ≤ k) 3 1 A (runIds s).length k ((runIds s).map (Value.int .i64)) → Kept (fun k => k = s.S) w w' → Run Try.prog Post Z n h 0 (G (c.finish (.slice A (runIds s).length k)) cs) w') :
    Run Try.prog Post Z n h 0 (G ((base 11).at { tmps := #[.pointer (some ⟨s.S, 0, none⟩)] ++ Array.replicate (Try.f11.ntmps - 1) undef, defers := [] } [.code (Try.f11.body.getD .skip)]) (c :: cs)) w := by
  refine Run.okG fun hok => ?_
  simp only [Try.ntmps11]
  try simp only [Act.put, Act.eval, nrmL, Nat.reduceAdd, Nat.reduceSub]
  simp only [Try.f11, Option.getD_some]
  repeat (first | refine Run.auto rfl ?_ | ((first | (apply Run.lq rfl rfl rfl rfl; (focus (intro w K hK; go_simp; exact hK))) | (refine Run.ln rfl rfl rfl rfl rfl (by kernel_rfl) ?_) | (refine Run.not rfl rfl ?_)); try simp only [Act.put, Act.eval, nrmL, Nat.reduceAdd]) | (refine Run.rg ?_; simp only [nrmL, rngL, Nat.reduceAdd]) | refine Run.cT rfl ?_ | refine Run.cF rfl ?_ | refine Run.rt ?_ | refine Run.nd ?_)
  refine Run.enter rfl rfl (by decide) rfl Try.func24 (by kernel_rfl) rfl ?_
  simp only [Act.eval, nrmL, Nat.reduceAdd]
  refine lock_run (a := ⟨s.S, 1, none⟩) (R.cell 1) (R.sys.frozen 1) (R.npl 1 (by decide)) (R.nC hok) ?_
  obtain ⟨R1, k1⟩ := R.lkTo 1
  have hok1 := hok.setCell ⟨s.S, 1, none⟩ (.int .i32 1)
  have hsz1 : (w.setCell ⟨s.S, 1, none⟩ (.int .i32 1)).heap.size = w.heap.size := by simp
  generalize w.setCell ⟨s.S, 1, none⟩ (.int .i32 1) = w1 at R1 k1 hok1 hsz1
  rw [Frame.finish_at]
  try simp only [Act.put, Act.eval, nrmL, Nat.reduceAdd]
  repeat (first | refine Run.auto rfl ?_ | ((first | (apply Run.lq rfl rfl rfl rfl; (focus (intro w K hK; go_simp; exact hK))) | (refine Run.ln rfl rfl rfl rfl rfl (by kernel_rfl) ?_) | (refine Run.not rfl rfl ?_)); try simp only [Act.put, Act.eval, nrmL, Nat.reduceAdd]) | (refine Run.rg ?_; simp only [nrmL, rngL, Nat.reduceAdd]) | refine Run.cT rfl ?_ | refine Run.cF rfl ?_ | refine Run.rt ?_ | refine Run.nd ?_)
  refine Run.defer rfl rfl (by decide) rfl ?_
  try simp only [Act.put, Act.eval, nrmL, Nat.reduceAdd]
  repeat (first | refine Run.auto rfl ?_ | ((first | (apply Run.lq rfl rfl rfl rfl; (focus (intro w K hK; go_simp; exact hK))) | (refine Run.ln rfl rfl rfl rfl rfl (by kernel_rfl) ?_) | (refine Run.not rfl rfl ?_)); try simp only [Act.put, Act.eval, nrmL, Nat.reduceAdd]) | (refine Run.rg ?_; simp only [nrmL, rngL, Nat.reduceAdd]) | refine Run.cT rfl ?_ | refine Run.cF rfl ?_ | refine Run.rt ?_ | refine Run.nd ?_)
  refine Run.ld (a := ⟨s.S, 3, none⟩) (v := .map (some s.mp)) rfl rfl (by decide) (R1.cell 3) (R1.nsh 3 (.inr (by decide))) (fun w₁ hld => ⟨by go_simp, by simp [go_sem, hld]⟩) ?_
  try simp only [Act.put, Act.eval, nrmL, Nat.reduceAdd]
  have hmp : Z.Hd s.mp → False := (R.vis _ (by rw [R.om]; decide)).1
  have hlen : (s.ents.map fun e => (e.id, e.b)).length = s.ents.length := by simp
  have hmwf : ∀ p ∈ s.ents.map fun e => (e.id, e.b), (Lit.int .i64 p.1).wf = true := fun p hp => by
    obtain ⟨e, he, rfl⟩ := List.mem_map.1 hp
    exact hwf e he
  refine Run.enter rfl rfl (by decide) rfl Try.func28 (by kernel_rfl) rfl ?_
  simp only [Act.eval, nrmL, Nat.reduceAdd]
  refine Run.callG (S := noneS) (nn := 5) Try.func28 rfl (tmpRes1 rfl) (fun _ _ q => q) (fun y v' => y = .func (.func 48) #[] #[.pointer (some ⟨w1.heap.size, 0, none⟩)] ∧ v'.heap[w1.heap.size]? = some (.cells #[.map (some s.mp)] 41 (0, 0)) ∧ v'.heap.size = w1.heap.size + 1) (fun _ _ _ q => q) (fun u _ hus => ?_) ?_
  · refine CallsIn.mono (keys_in (some s.mp) u) ?_
    rintro e v ⟨rfl, rfl⟩
    refine ⟨_, rfl, (Kept.refl _ _).alloc _, by rw [hus], ?_, by simp [hus]⟩
    rw [← hus]
    exact heap_alloc_new _ _
  intro y v2 w2 hy k2 hsee2 hsz2
  obtain ⟨rfl, hbox, hvs⟩ := hy
  have R2 := R1.keep k2 fun _ q => q.elim
  have f1 : ¬ Z.Hd w1.heap.size := hok1.fresh (Nat.le_refl _)
  have hbox2 : w2.heap[w1.heap.size]? = some (.cells #[.map (some s.mp)] 41 (0, 0)) := by rw [hsee2 _ f1]; exact hbox
  have hs2 : w2.heap.size = w1.heap.size + 1 := hsz2.trans hvs
  clear hsee2 hsz2 hbox hvs
  rw [Frame.finish_at]
  try simp only [Act.put, Act.eval, nrmL, Nat.reduceAdd]
  refine Run.okG fun hok2 => ?_
  repeat (first | refine Run.auto rfl ?_ | ((first | (apply Run.lq rfl rfl rfl rfl; (focus (intro w K hK; go_simp; exact hK))) | (refine Run.ln rfl rfl rfl rfl rfl (by kernel_rfl) ?_) | (refine Run.not rfl rfl ?_)); try simp only [Act.put, Act.eval, nrmL, Nat.reduceAdd]) | (refine Run.rg ?_; simp only [nrmL, rngL, Nat.reduceAdd]) | refine Run.cT rfl ?_ | refine Run.cF rfl ?_ | refine Run.rt ?_ | refine Run.nd ?_)
  refine Run.enter rfl rfl (by decide) rfl Try.func27 (by kernel_rfl) rfl ?_
  simp only [Act.eval, nrmL, Nat.reduceAdd]
  refine Run.callG (S := noneS) (nn := 5) Try.func27 rfl (tmpRes1 rfl) (fun _ _ q => q) (fun y v' => v'.ownsRow w2.heap.size 3 1 y s.ents.length ((sortIds s).map (Value.int .i64))) (fun _ _ _ q => q) (fun u hu hus => ?_) ?_
  · have hBk : u.heap[w1.heap.size]? = some (.cells #[.map (some s.mp)] 41 (0, 0)) := by rw [hu.block _ (by omega) f1]; exact hbox2
    have hM : IMap u s.mp (s.ents.map fun e => (e.id, e.b)) := by
      obtain ⟨es, cl, h1, h2⟩ := R2.map
      exact ⟨es, cl, by rw [hu.block _ R2.map.lt (fun q => hmp q)]; exact h1, h2⟩
    refine CallsIn.mono (sorted_in (Bm := w1.heap.size) (by omega) (by simp [World.cell?, hBk]) hM hmwf (by rw [hlen]; exact hl)) ?_
    rintro e v ⟨y, rfl, hrow, hk⟩
    refine ⟨y, rfl, hk, ?_⟩
    rw [hus, hlen, List.map_map] at hrow
    exact hrow
  intro y v3 w3 hrow k3 hsee3 hsz3
  have hslen : (sortIds s).length = s.ents.length := by unfold sortIds; simp
  rw [← hslen] at hrow
  obtain ⟨LA, lc, rfl, hseg⟩ := SegV.of_row hrow
  have hseg3 : SegV w3 (fun k => w2.heap.size ≤ k) 3 1 LA (sortIds s).length lc ((sortIds s).map (Value.int .i64)) := hseg.see fun b hb => hsee3 b (hok2.fresh hb)
  have R3 := R2.keep k3 fun _ q => q.elim
  clear hseg hrow hsee3 hsz3
  rw [Frame.finish_at]
  try simp only [Act.put, Act.eval, nrmL, Nat.reduceAdd]
  refine Run.okG fun hok3 => ?_
  have row3 : Rd w3 (fun k => k < w3.heap.size ∧ ¬ Z.Hd k) LA ((sortIds s).map (Value.int .i64)) := by
    have := (hseg3.mono (G := fun k => k < w3.heap.size ∧ ¬ Z.Hd k) fun k h1 h2 => ⟨h1, hok2.fresh h2⟩).rd
    exact this
  have hk13 : w1.heap.size ≤ w3.heap.size := by have := k3.size; omega
  have hlp := fun v => rb_loop (Z := Z) (n := n) (hd := hd) (s := s) (Post := Post) (h := h) (c := c) (cs := cs) (L := sortIds s) (LA := LA) (lc := lc) (N := w3.heap.size) (fun id hid => sortIds_mem.1 hid) (by rw [hslen]; exact hl) (fun k hk => R3.fresh k hk) (fun k hk => ⟨hok3.fresh hk, fun q => by have := hok3.chanlt q; omega⟩) (sortIds s) 0 w3 none 0 [] v
  unfold rbLoop rbRest at hlp
  simp only [Try.f11, Option.getD_some] at hlp
  repeat (first | refine Run.auto rfl ?_ | ((first | (apply Run.lq rfl rfl rfl rfl; (focus (intro w K hK; go_simp; exact hK))) | (refine Run.ln rfl rfl rfl rfl rfl (by kernel_rfl) ?_) | (refine Run.not rfl rfl ?_)); try simp only [Act.put, Act.eval, nrmL, Nat.reduceAdd]) | (refine Run.rg ?_; simp only [nrmL, rngL, Nat.reduceAdd]) | refine Run.cT rfl ?_ | refine Run.cF rfl ?_ | refine Run.rt ?_ | refine Run.nd ?_)
  refine Run.ctl (fun _ => stepG_loop) rfl ?_
  try simp only [← hslen]
  refine hlp _ _ _ _ _ _ _ _ _ _ _ _ _ _ _ _ _ _ _ _ _ _ _ _ _ _ _ _ _ _ _ _ _ _ _ rfl (Nat.zero_le _) R3 row3 (SegV.nil _ _ _ _) (Nat.le_refl _) ?_
  intro A k w' R4 hseg4 k4
  rw [List.nil_append] at hseg4 ⊢
  refine H A k w' R4 (hseg4.mono fun i _ hi => by have : w3.heap.size ≤ i := hi; omega) ?_
  have k03 : Kept (fun k => k = s.S) w w3 := (k1.trans (k2.mono fun _ _ q => q.elim)).trans (k3.mono fun _ _ q => q.elim)
  refine k03.trans2 k4 fun i hi hk => ?_
  rcases hk with hk | hk
  · have := k03.size; omega
  · exact hk
end
end Go.Proofs.Ytfpkachoneaaeaa
