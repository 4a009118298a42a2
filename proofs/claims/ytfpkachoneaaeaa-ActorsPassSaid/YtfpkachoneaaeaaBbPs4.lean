/-
  ActorsPass, in company, whole.
-/
import Derived.Test.YtfpkachoneaaeaaBbPs3
import Derived.Test.YtfpkachoneaaeaaBbSpk
set_option linter.unusedSimpArgs false
set_option linter.unusedVariables false
namespace Go.Proofs.Ytfpkachoneaaeaa
open Go Go.Conc Go.RowKit
noncomputable def psR3 : Code := match Try.f4.body.getD .skip with
  | .seq _ (.seq _ (.seq c _)) => c
  | _ => .skip
noncomputable def psR7 : Code := match Try.f4.body.getD .skip with
  | .seq _ (.seq _ (.seq _ (.seq _ (.seq _ (.seq _ (.seq (.seq c _) _)))))) => c
  | _ => .skip
noncomputable def psOps7 : Array Oper := match psR7 with
  | .region _ ops _ => ops
  | _ => #[]
section
variable {Post : Value → World → Prop} {stk : List Frame} {w0 w : World} {D V Gb : Nat} {Z : Scene} {n : Nat} {s : Sy} {vD vG : Value}
set_option maxRecDepth 50000 in
set_option maxHeartbeats 2000000 in
theorem ps_r3 {nn r7 rg : Nat} {nv ring : Int} (hnn : bits .and .i64 nv 31 = (nn : Int)) (hr7 : bits .and .i64 ring 7 = (r7 : Int)) (hrg : IntKind.i64.wrap (1 + (r7 : Int)) = (rg : Int)) (hB : Blk w Gb 3 #[.int .i64 ring]) (hGb : ¬ Z.Hd Gb) (hGC : ¬ Z.C Gb) :
    ∀ (kk : List Item) (v2 v4 v5 v6 v7 v8 v9 v10 v11 v12 v13 v14 v15 v16 v17 v18 v19 v20 v21 v22 v23 v24 v25 v26 v27 v28 v29 v30 v31 v32 v33 v34 v35 v36 v37 v38 v39 v40 v41 v42 v43 v44 v45 v46 v47 v48 v49 v50 v51 v52 v53 v54 v55 v56 v57 v58 v59 v60 v61 v62 v63 v64 v65 v66 v67 v68 v69 : Value), Run Try.prog Post Z n 0 0 (G ((base 4).at ⟨#[.int .i64 (nn : Int), .int .i64 ring, v2, .pointer (some ⟨Gb, 0, none⟩), v4, v5, v6, v7, v8, v9, v10, .int .i64 nv, .int .i64 (nn : Int), .int .i64 ring, .int .i64 (r7 : Int), .int .i64 (rg : Int), v16, v17, v18, v19, v20, v21, v22, v23, v24, v25, v26, v27, v28, v29, v30, v31, v32, v33, v34, v35, v36, v37, v38, v39, v40, v41, v42, v43, v44, v45, v46, v47, v48, v49, v50, v51, v52, v53, v54, v55, v56, v57, v58, v59, v60, v61, v62, v63, v64, v65, v66, v67, v68, v69], []⟩ kk) stk) (w.setCell ⟨Gb, 0, none⟩ (.int .i64 (rg : Int))) →
    Run Try.prog Post Z n 0 0 (G ((base 4).at ⟨#[.int .i64 nv, .int .i64 ring, v2, .pointer (some ⟨Gb, 0, none⟩), v4, v5, v6, v7, v8, v9, v10, v11, v12, v13, v14, v15, v16, v17, v18, v19, v20, v21, v22, v23, v24, v25, v26, v27, v28, v29, v30, v31, v32, v33, v34, v35, v36, v37, v38, v39, v40, v41, v42, v43, v44, v45, v46, v47, v48, v49, v50, v51, v52, v53, v54, v55, v56, v57, v58, v59, v60, v61, v62, v63, v64, v65, v66, v67, v68, v69], []⟩ (.code psR3 :: kk)) stk) w := by
  intro kk v2 v4 v5 v6 v7 v8 v9 v10 v11 v12 v13 v14 v15 v16 v17 v18 v19 v20 v21 v22 v23 v24 v25 v26 v27 v28 v29 v30 v31 v32 v33 v34 v35 v36 v37 v38 v39 v40 v41 v42 v43 v44 v45 v46 v47 v48 v49 v50 v51 v52 v53 v54 v55 v56 v57 v58 v59 v60 v61 v62 v63 v64 v65 v66 v67 v68 v69 H
  have hfree := Scene.free (Z := Z) (a := ⟨Gb, 0, none⟩) hGb
  unfold psR3
  simp only [Try.f4, Option.getD_some]
  refine Run.drawE [[0, 1, 2, 3, 4, 5, 6], [0, 1, 2, 3, 5, 4, 6], [0, 1, 2, 5, 3, 4, 6], [0, 1, 5, 2, 3, 4, 6], [0, 2, 1, 3, 4, 5, 6], [0, 2, 1, 3, 5, 4, 6], [0, 2, 1, 5, 3, 4, 6], [0, 2, 3, 1, 4, 5, 6], [0, 2, 3, 1, 5, 4, 6], [0, 2, 3, 4, 1, 5, 6], [2, 0, 1, 3, 4, 5, 6], [2, 0, 1, 3, 5, 4, 6], [2, 0, 1, 5, 3, 4, 6], [2, 0, 3, 1, 4, 5, 6], [2, 0, 3, 1, 5, 4, 6], [2, 0, 3, 4, 1, 5, 6], [2, 3, 0, 1, 4, 5, 6], [2, 3, 0, 1, 5, 4, 6], [2, 3, 0, 4, 1, 5, 6], [2, 3, 4, 0, 1, 5, 6]] (by kernel_rfl) (by kernel_rfl) fun l hl => ?_
  simp only [List.mem_cons, List.not_mem_nil, or_false] at hl
  rcases hl with rfl | rfl | rfl | rfl | rfl | rfl | rfl | rfl | rfl | rfl | rfl | rfl | rfl | rfl | rfl | rfl | rfl | rfl | rfl | rfl
  all_goals
    repeat (first | refine Run.auto rfl ?_ | ((first | (apply Run.lq rfl rfl rfl rfl; (focus (intro w K hK; go_simp; exact hK))) | (refine Run.ln rfl rfl rfl rfl rfl (by kernel_rfl) ?_) | (refine Run.not rfl rfl ?_)); try simp only [Act.put, Act.eval, nrmL, Nat.reduceAdd]) | (refine Run.rg ?_; simp only [nrmL, rngL, Nat.reduceAdd]) | refine Run.cT rfl ?_ | refine Run.cF rfl ?_ | refine Run.rt ?_ | refine Run.nd ?_)
    refine Run.ld (a := ⟨Gb, 0, none⟩) (v := .int .i64 ring) rfl rfl (by decide) (hB.cell 0) (hfree.2) (fun w₁ hld => ⟨by go_simp, by simp [go_sem, hld]⟩) ?_
    try simp only [Act.put, Act.eval, nrmL, Nat.reduceAdd]
    repeat (first | refine Run.auto rfl ?_ | ((first | (apply Run.lq rfl rfl rfl rfl; (focus (intro w K hK; go_simp; exact hK))) | (refine Run.ln rfl rfl rfl rfl rfl (by kernel_rfl) ?_) | (refine Run.not rfl rfl ?_)); try simp only [Act.put, Act.eval, nrmL, Nat.reduceAdd]) | (refine Run.rg ?_; simp only [nrmL, rngL, Nat.reduceAdd]) | refine Run.cT rfl ?_ | refine Run.cF rfl ?_ | refine Run.rt ?_ | refine Run.nd ?_)
    refine Run.stO (⟨Gb, 0, none⟩) (.int .i64 (rg : Int)) rfl rfl (by decide) rfl rfl rfl rfl rfl (by kernel_rfl) rfl ((by rw [hB.cell 0]; rfl)) (hB.frozen 0) (hfree.2) (hfree.1) (hGC) ?_
    try simp only [Act.put, Act.eval, nrmL, Nat.reduceAdd]
    refine Run.auto rfl ?_
    exact H
set_option maxRecDepth 50000 in
set_option maxHeartbeats 2000000 in
theorem ps_r7t {nn g : Nat} (hnn : nn ≤ 31) (K : Cli w0 Z n w s) (ha : s.abs = []) (hst : s.stopped = false) (hr : RB w (fun k => k = g) (some ⟨g, 0, none⟩) (zeros nn)) (hg : ¬ Z.Hd g) (cD : Cel w (space w0 Z s) D 3 vD) (cV : Cel w (space w0 Z s) V 25 (.pointer (some ⟨s.S, 0, none⟩))) (cG : Cel w (space w0 Z s) Gb 3 vG) :
    ∀ (kk : List Item) (v1 v2 v3 v4 v5 v7 v8 v9 v10 v11 v12 v13 v14 v15 v16 v17 v24 v25 v26 v27 v28 v29 v30 v31 v32 v33 v34 v35 v36 v37 v38 v39 v40 v41 v42 v43 v44 v45 v46 v47 v48 v49 v50 v51 v52 v53 v54 v55 v56 v57 v58 v59 v60 v61 v62 v63 v64 v65 v66 v67 v68 v69 : Value) (H : ∀ Z' n' s' w', Cli w0 Z' n' w' s' → Only s'.abs 0 (zeros nn) 1 → s'.stopped = false → s'.S = s.S → s'.fdo = s.fdo → n' ≤ n + 1 → Cel w' (space w0 Z' s') D 3 vD → Cel w' (space w0 Z' s') V 25 (.pointer (some ⟨s.S, 0, none⟩)) → Cel w' (space w0 Z' s') Gb 3 vG → Run Try.prog Post Z' n' 0 0 (G ((base 4).at ⟨#[.int .i64 (nn : Int), v1, v2, v3, v4, v5, .pointer (some ⟨V, 0, none⟩), v7, v8, v9, v10, v11, v12, v13, v14, v15, v16, v17, .pointer (some ⟨s.S, 0, none⟩), .bool false, .bool false, .pointer (some ⟨s.S, 0, none⟩), .int .i64 (nn : Int), .slice (some ⟨g, 0, none⟩) (zeros nn).length (zeros nn).length, .bool true, .bool false, .bool false, v27, v28, v29, v30, v31, v32, v33, v34, v35, v36, v37, v38, v39, v40, v41, v42, v43, v44, v45, v46, v47, v48, v49, v50, v51, v52, v53, v54, v55, v56, v57, v58, v59, v60, v61, v62, v63, v64, v65, v66, v67, v68, v69], []⟩ kk) stk) w'),
    Run Try.prog Post Z n 0 0 (G ((base 4).at ⟨#[.int .i64 (nn : Int), v1, v2, v3, v4, v5, .pointer (some ⟨V, 0, none⟩), v7, v8, v9, v10, v11, v12, v13, v14, v15, v16, v17, .pointer (some ⟨s.S, 0, none⟩), .bool false, .bool false, .pointer (some ⟨s.S, 0, none⟩), .int .i64 (nn : Int), .slice (some ⟨g, 0, none⟩) (zeros nn).length (zeros nn).length, v24, v25, v26, v27, v28, v29, v30, v31, v32, v33, v34, v35, v36, v37, v38, v39, v40, v41, v42, v43, v44, v45, v46, v47, v48, v49, v50, v51, v52, v53, v54, v55, v56, v57, v58, v59, v60, v61, v62, v63, v64, v65, v66, v67, v68, v69], []⟩ (.inRegion psOps7 [6, 7, 8] :: kk)) stk) w := by
  intro kk v1 v2 v3 v4 v5 v7 v8 v9 v10 v11 v12 v13 v14 v15 v16 v17 v24 v25 v26 v27 v28 v29 v30 v31 v32 v33 v34 v35 v36 v37 v38 v39 v40 v41 v42 v43 v44 v45 v46 v47 v48 v49 v50 v51 v52 v53 v54 v55 v56 v57 v58 v59 v60 v61 v62 v63 v64 v65 v66 v67 v68 v69 H
  unfold psOps7 psR7
  simp only [Try.f4, Option.getD_some]
  refine Run.enter rfl rfl (by decide) rfl Try.func13 (by kernel_rfl) rfl ?_
  simp only [Act.eval, nrmL, Nat.reduceAdd]
  refine cli_post (bs := zeros nn) K 0 hr (fun k _ q => by rw [show k = g from q]; exact hg) (by rw [zeros_len]; omega) (by rw [ha]; decide) fun Z' n' s' w' ok K' hp hst' hL hn' k' => ?_
  have e : postA s 0 (zeros nn) = putA [] 0 (zeros nn) := by simp [postA, hst, ha]
  obtain ⟨q1, q2⟩ := Quiet.nil.put (b := 0) (y := zeros nn) ⟨by omega, by omega⟩
  rw [e] at hp
  have ea : s'.abs = (putA [] 0 (zeros nn)).1 := by rw [← hp]
  have eo : ok = true := by rw [← q1, ← hp]
  subst eo
  rw [← ea] at q2
  have H' := H Z' n' s' w' K' q2 (hst'.trans hst) hL.S hL.fdo hn' (hL.cel cD k') (hL.cel cV k') (hL.cel cG k')
  clear H e q1 q2 hp ea
  rw [Frame.finish_at]
  try simp only [Act.put, Act.eval, nrmL, Nat.reduceAdd]
  (apply Run.lq rfl rfl rfl rfl; (focus (intro w K hK; go_simp; exact hK)); try simp only [Act.put, Act.eval, nrmL, Nat.reduceAdd])
  (apply Run.lq rfl rfl rfl rfl; (focus (intro w K hK; go_simp; exact hK)); try simp only [Act.put, Act.eval, nrmL, Nat.reduceAdd])
  refine Run.auto rfl ?_
  exact H'
set_option maxRecDepth 50000 in
set_option maxHeartbeats 2000000 in
theorem ps_r7 {nn : Nat} (hnn : nn ≤ 31) (K : Cli w0 Z n w s) (ha : s.abs = []) (hst : s.stopped = false) (cD : Cel w (space w0 Z s) D 3 vD) (cV : Cel w (space w0 Z s) V 25 (.pointer (some ⟨s.S, 0, none⟩))) (cG : Cel w (space w0 Z s) Gb 3 vG) :
    ∀ (kk : List Item) (v1 v2 v3 v4 v5 v7 v8 v9 v10 v11 v12 v13 v14 v15 v16 v17 v18 v19 v20 v21 v22 v23 v24 v25 v26 v27 v28 v29 v30 v31 v32 v33 v34 v35 v36 v37 v38 v39 v40 v41 v42 v43 v44 v45 v46 v47 v48 v49 v50 v51 v52 v53 v54 v55 v56 v57 v58 v59 v60 v61 v62 v63 v64 v65 v66 v67 v68 v69 : Value) (H : ∀ Z' n' s' w', Cli w0 Z' n' w' s' → Only s'.abs 0 (zeros nn) 1 → s'.stopped = false → s'.S = s.S → s'.fdo = s.fdo → n' ≤ n + 1 → Cel w' (space w0 Z' s') D 3 vD → Cel w' (space w0 Z' s') V 25 (.pointer (some ⟨s.S, 0, none⟩)) → Cel w' (space w0 Z' s') Gb 3 vG → Run Try.prog Post Z' n' 0 0 (G ((base 4).at ⟨#[.int .i64 (nn : Int), v1, v2, v3, v4, v5, .pointer (some ⟨V, 0, none⟩), v7, v8, v9, v10, v11, v12, v13, v14, v15, v16, v17, .pointer (some ⟨s.S, 0, none⟩), .bool false, .bool false, .pointer (some ⟨s.S, 0, none⟩), .int .i64 (nn : Int), .slice (some ⟨w.heap.size, 0, none⟩) (zeros nn).length (zeros nn).length, .bool true, .bool false, .bool false, v27, v28, v29, v30, v31, v32, v33, v34, v35, v36, v37, v38, v39, v40, v41, v42, v43, v44, v45, v46, v47, v48, v49, v50, v51, v52, v53, v54, v55, v56, v57, v58, v59, v60, v61, v62, v63, v64, v65, v66, v67, v68, v69], []⟩ kk) stk) w'),
    Run Try.prog Post Z n 0 0 (G ((base 4).at ⟨#[.int .i64 (nn : Int), v1, v2, v3, v4, v5, .pointer (some ⟨V, 0, none⟩), v7, v8, v9, v10, v11, v12, v13, v14, v15, v16, v17, v18, v19, v20, v21, v22, v23, v24, v25, v26, v27, v28, v29, v30, v31, v32, v33, v34, v35, v36, v37, v38, v39, v40, v41, v42, v43, v44, v45, v46, v47, v48, v49, v50, v51, v52, v53, v54, v55, v56, v57, v58, v59, v60, v61, v62, v63, v64, v65, v66, v67, v68, v69], []⟩ (.code psR7 :: kk)) stk) w := by
  intro kk v1 v2 v3 v4 v5 v7 v8 v9 v10 v11 v12 v13 v14 v15 v16 v17 v18 v19 v20 v21 v22 v23 v24 v25 v26 v27 v28 v29 v30 v31 v32 v33 v34 v35 v36 v37 v38 v39 v40 v41 v42 v43 v44 v45 v46 v47 v48 v49 v50 v51 v52 v53 v54 v55 v56 v57 v58 v59 v60 v61 v62 v63 v64 v65 v66 v67 v68 v69 H
  refine Run.okG fun hok => ?_
  have fg : ¬ Z.Hd w.heap.size := hok.fresh (Nat.le_refl _)
  have fV := Scene.free (Z := Z) (a := ⟨V, 0, none⟩) cV.mem.2.2.1
  have hk : Kept noneS w (w.alloc (.cells (bvs (zeros nn)).toArray 5)) := (Kept.refl _ _).alloc _
  have cV' := cV.keep hk fun _ _ _ q => q
  have key := ps_r7t (Post := Post) (stk := stk) (g := w.heap.size) hnn (K.more hk) ha hst (rd_fresh w (bvs (zeros nn)) _ _) fg (cD.keep hk fun _ _ _ q => q) cV' (cG.keep hk fun _ _ _ q => q) kk
  unfold psOps7 psR7 at key
  unfold psR7
  simp only [Try.f4, Option.getD_some] at key ⊢
  refine Run.drawE [[0, 1, 2, 3, 4, 5, 6, 7, 8], [0, 1, 2, 4, 3, 5, 6, 7, 8], [0, 1, 2, 4, 5, 3, 6, 7, 8]] (by kernel_rfl) (by kernel_rfl) fun l hl => ?_
  simp only [List.mem_cons, List.not_mem_nil, or_false] at hl
  have hmk := fun u => mk_bytes u nn (by omega)
  rcases hl with rfl | rfl | rfl
  · skip
    refine Run.ld (a := ⟨V, 0, none⟩) (v := .pointer (some ⟨s.S, 0, none⟩)) rfl rfl (by decide) (cV.blk.cell 0) (fV.2) (fun w₁ hld => ⟨by go_simp, by simp [go_sem, hld]⟩) ?_
    try simp only [Act.put, Act.eval, nrmL, Nat.reduceAdd]
    (apply Run.lq rfl rfl rfl rfl; (focus (intro w K hK; go_simp; exact hK)); try simp only [Act.put, Act.eval, nrmL, Nat.reduceAdd])
    (apply Run.lq rfl rfl rfl rfl; (focus (intro w K hK; go_simp; exact hK)); try simp only [Act.put, Act.eval, nrmL, Nat.reduceAdd])
    refine Run.ld (a := ⟨V, 0, none⟩) (v := .pointer (some ⟨s.S, 0, none⟩)) rfl rfl (by decide) (cV.blk.cell 0) (fV.2) (fun w₁ hld => ⟨by go_simp, by simp [go_sem, hld]⟩) ?_
    try simp only [Act.put, Act.eval, nrmL, Nat.reduceAdd]
    (apply Run.lq rfl rfl rfl rfl; (focus (intro w K hK; go_simp; exact hK)); try simp only [Act.put, Act.eval, nrmL, Nat.reduceAdd])
    refine Run.made theEnv rfl rfl (by decide) rfl (fun _ _ q => by cases q) (.slice (some ⟨w.heap.size, 0, none⟩) (zeros nn).length (zeros nn).length) (.cells (bvs (zeros nn)).toArray 5) (fun u _ hus => by have e := hmk u; rw [hus] at e; clear key H hmk; go_simp) fg ?_
    try simp only [Act.put, Act.eval, nrmL, Nat.reduceAdd]
    exact key _ _ _ _ _ _ _ _ _ _ _ _ _ _ _ _ _ _ _ _ _ _ _ _ _ _ _ _ _ _ _ _ _ _ _ _ _ _ _ _ _ _ _ _ _ _ _ _ _ _ _ _ _ _ _ _ _ _ _ _ _ _ H
  · skip
    refine Run.ld (a := ⟨V, 0, none⟩) (v := .pointer (some ⟨s.S, 0, none⟩)) rfl rfl (by decide) (cV.blk.cell 0) (fV.2) (fun w₁ hld => ⟨by go_simp, by simp [go_sem, hld]⟩) ?_
    try simp only [Act.put, Act.eval, nrmL, Nat.reduceAdd]
    (apply Run.lq rfl rfl rfl rfl; (focus (intro w K hK; go_simp; exact hK)); try simp only [Act.put, Act.eval, nrmL, Nat.reduceAdd])
    (apply Run.lq rfl rfl rfl rfl; (focus (intro w K hK; go_simp; exact hK)); try simp only [Act.put, Act.eval, nrmL, Nat.reduceAdd])
    (apply Run.lq rfl rfl rfl rfl; (focus (intro w K hK; go_simp; exact hK)); try simp only [Act.put, Act.eval, nrmL, Nat.reduceAdd])
    refine Run.ld (a := ⟨V, 0, none⟩) (v := .pointer (some ⟨s.S, 0, none⟩)) rfl rfl (by decide) (cV.blk.cell 0) (fV.2) (fun w₁ hld => ⟨by go_simp, by simp [go_sem, hld]⟩) ?_
    try simp only [Act.put, Act.eval, nrmL, Nat.reduceAdd]
    refine Run.made theEnv rfl rfl (by decide) rfl (fun _ _ q => by cases q) (.slice (some ⟨w.heap.size, 0, none⟩) (zeros nn).length (zeros nn).length) (.cells (bvs (zeros nn)).toArray 5) (fun u _ hus => by have e := hmk u; rw [hus] at e; clear key H hmk; go_simp) fg ?_
    try simp only [Act.put, Act.eval, nrmL, Nat.reduceAdd]
    exact key _ _ _ _ _ _ _ _ _ _ _ _ _ _ _ _ _ _ _ _ _ _ _ _ _ _ _ _ _ _ _ _ _ _ _ _ _ _ _ _ _ _ _ _ _ _ _ _ _ _ _ _ _ _ _ _ _ _ _ _ _ _ H
  · skip
    refine Run.ld (a := ⟨V, 0, none⟩) (v := .pointer (some ⟨s.S, 0, none⟩)) rfl rfl (by decide) (cV.blk.cell 0) (fV.2) (fun w₁ hld => ⟨by go_simp, by simp [go_sem, hld]⟩) ?_
    try simp only [Act.put, Act.eval, nrmL, Nat.reduceAdd]
    (apply Run.lq rfl rfl rfl rfl; (focus (intro w K hK; go_simp; exact hK)); try simp only [Act.put, Act.eval, nrmL, Nat.reduceAdd])
    (apply Run.lq rfl rfl rfl rfl; (focus (intro w K hK; go_simp; exact hK)); try simp only [Act.put, Act.eval, nrmL, Nat.reduceAdd])
    (apply Run.lq rfl rfl rfl rfl; (focus (intro w K hK; go_simp; exact hK)); try simp only [Act.put, Act.eval, nrmL, Nat.reduceAdd])
    refine Run.made theEnv rfl rfl (by decide) rfl (fun _ _ q => by cases q) (.slice (some ⟨w.heap.size, 0, none⟩) (zeros nn).length (zeros nn).length) (.cells (bvs (zeros nn)).toArray 5) (fun u _ hus => by have e := hmk u; rw [hus] at e; clear key H hmk; go_simp) fg ?_
    try simp only [Act.put, Act.eval, nrmL, Nat.reduceAdd]
    refine Run.ld (a := ⟨V, 0, none⟩) (v := .pointer (some ⟨s.S, 0, none⟩)) rfl rfl (by decide) (cV'.blk.cell 0) (fV.2) (fun w₁ hld => ⟨by go_simp, by simp [go_sem, hld]⟩) ?_
    try simp only [Act.put, Act.eval, nrmL, Nat.reduceAdd]
    exact key _ _ _ _ _ _ _ _ _ _ _ _ _ _ _ _ _ _ _ _ _ _ _ _ _ _ _ _ _ _ _ _ _ _ _ _ _ _ _ _ _ _ _ _ _ _ _ _ _ _ _ _ _ _ _ _ _ _ _ _ _ _ H
end
section
variable {Post : Value → World → Prop} {stk : List Frame} {Z : Scene} {n : Nat} {w : World} {nv ring : Int}
set_option maxRecDepth 50000 in
set_option maxHeartbeats 2000000 in
theorem pass_run (hI : ∀ i, Z.Inb i = none) (hn : 0 < n) (hn2 : n < 1000000) (hv : ∀ k, k < w.heap.size → (Z.Hd k → JunkAt w k) ∧ ¬ Z.C k)
    (H : ∀ Z' n' w' (x : Act) todo, (∀ i, Z'.Inb i = none) → Kept noneS w w' → x.defers = [] → x.tmps.getD 4 undef = .bool true → Run Try.prog Post Z' n' 0 0 (G { (base 4).at x todo with mode := .returning } stk) w') :
    Run Try.prog Post Z n 0 0 (G ((base 4).at { tmps := #[.int .i64 nv, .int .i64 ring] ++ Array.replicate (Try.f4.ntmps - 2) undef, defers := [] } [.code (Try.f4.body.getD .skip)]) stk) w := by
  refine Run.okG fun hok0 => ?_
  have f0 : ¬ Z.Hd w.heap.size := hok0.fresh (Nat.le_refl _)
  have hcl0 : ∀ c, Z.C c → c < w.heap.size := fun c hc => hok0.chanlt hc
  obtain ⟨nn, hnn, hnn31⟩ : ∃ nn : Nat, bits .and .i64 nv 31 = (nn : Int) ∧ nn ≤ 31 := ⟨(nv % 32).toNat, by rw [i64_and31]; omega, by omega⟩
  obtain ⟨r7, hr7, hr77⟩ : ∃ r7 : Nat, bits .and .i64 ring 7 = (r7 : Int) ∧ r7 ≤ 7 := ⟨(ring % 8).toNat, by rw [i64_and7]; omega, by omega⟩
  have hrg : IntKind.i64.wrap (1 + (r7 : Int)) = ((r7 + 1 : Nat) : Int) := by rw [IntKind.wrap_i64]; omega
  have kA : Kept noneS w (w.alloc (.cells #[.int .i64 ring] 3)) := (Kept.refl _ _).alloc _
  have hBA : Blk (w.alloc (.cells #[.int .i64 ring] 3)) w.heap.size 3 #[.int .i64 ring] := heap_alloc_new w _
  have hsA : (w.alloc (.cells #[.int .i64 ring] 3)).heap.size = w.heap.size + 1 := by simp
  have hvA : ∀ k, k < (w.alloc (.cells #[.int .i64 ring] 3)).heap.size → (Z.Hd k → JunkAt (w.alloc (.cells #[.int .i64 ring] 3)) k) ∧ ¬ Z.C k := by
    intro k hk
    by_cases q : k < w.heap.size
    · refine ⟨fun hh => ?_, (hv k q).2⟩
      obtain ⟨o, ho, hj⟩ := (hv k q).1 hh
      exact ⟨o, by rw [Below.heap_alloc _ _ _ q]; exact ho, hj⟩
    · have : k = w.heap.size := by omega
      subst this
      exact ⟨fun hh => absurd hh f0, fun hc => absurd (hcl0 _ hc) (Nat.lt_irrefl _)⟩
  have hjb : ∀ k, k < w.heap.size → JunkAt (w.alloc (.cells #[.int .i64 ring] 3)) k → JunkAt w k := by
    rintro k hk ⟨o, ho, hj⟩
    rw [Below.heap_alloc _ _ _ hk] at ho
    exact ⟨o, ho, hj⟩
  have hjn : ¬ JunkAt (w.alloc (.cells #[.int .i64 ring] 3)) w.heap.size := by
    rintro ⟨o, ho, hj⟩
    have e := heap_alloc_new w (.cells #[.int .i64 ring] 3)
    rw [e] at ho
    cases ho
    exact hj
  simp only [Try.ntmps4]
  try simp only [Act.put, Act.eval, nrmL, Nat.reduceAdd, Nat.reduceSub]
  simp only [Try.f4, Option.getD_some]
  repeat (first | refine Run.auto rfl ?_ | ((first | (apply Run.lq rfl rfl rfl rfl; (focus (intro w K hK; go_simp; exact hK))) | (refine Run.ln rfl rfl rfl rfl rfl (by kernel_rfl) ?_) | (refine Run.not rfl rfl ?_)); try simp only [Act.put, Act.eval, nrmL, Nat.reduceAdd]) | (refine Run.rg ?_; simp only [nrmL, rngL, Nat.reduceAdd]) | refine Run.cT rfl ?_ | refine Run.cF rfl ?_ | refine Run.rt ?_ | refine Run.nd ?_)
  refine Run.made theEnv rfl rfl (by decide) rfl (fun _ _ q => by cases q) (.pointer (some ⟨w.heap.size, 0, none⟩)) (.cells #[.int .i64 ring] 3) (fun u _ hus => by go_simp) f0 ?_
  try simp only [Act.put, Act.eval, nrmL, Nat.reduceAdd]
  generalize w.alloc (.cells #[.int .i64 ring] 3) = wA at *
  generalize hGb : w.heap.size = Gb at *
  repeat (first | refine Run.auto rfl ?_ | ((first | (apply Run.lq rfl rfl rfl rfl; (focus (intro w K hK; go_simp; exact hK))) | (refine Run.ln rfl rfl rfl rfl rfl (by kernel_rfl) ?_) | (refine Run.not rfl rfl ?_)); try simp only [Act.put, Act.eval, nrmL, Nat.reduceAdd]) | (refine Run.rg ?_; simp only [nrmL, rngL, Nat.reduceAdd]) | refine Run.cT rfl ?_ | refine Run.cF rfl ?_ | refine Run.rt ?_ | refine Run.nd ?_)
  refine Run.enter rfl rfl (by decide) rfl Try.func6 (by kernel_rfl) rfl ?_
  simp only [Act.eval, nrmL, Nat.reduceAdd]
  refine speaks_run hI hn (by omega) hvA fun Z1 n1 w1 hI1 hn1 hnn1 hv1 kS => ?_
  rw [Frame.finish_at]
  try simp only [Act.put, Act.eval, nrmL, Nat.reduceAdd]
  repeat (first | refine Run.auto rfl ?_ | ((first | (apply Run.lq rfl rfl rfl rfl; (focus (intro w K hK; go_simp; exact hK))) | (refine Run.ln rfl rfl rfl rfl rfl (by kernel_rfl) ?_) | (refine Run.not rfl rfl ?_)); try simp only [Act.put, Act.eval, nrmL, Nat.reduceAdd]) | (refine Run.rg ?_; simp only [nrmL, rngL, Nat.reduceAdd]) | refine Run.cT rfl ?_ | refine Run.cF rfl ?_ | refine Run.rt ?_ | refine Run.nd ?_)
  refine Run.okG fun hok1 => ?_
  have hB1 := hBA.keep kS fun q => q
  have gH : ¬ Z1.Hd Gb := fun q => hjn ((hv1 Gb (by omega)).1 q)
  have gC : ¬ Z1.C Gb := (hv1 Gb (by omega)).2
  have hr3 := ps_r3 (Z := Z1) (n := n1) (Post := Post) (stk := stk) hnn hr7 hrg hB1 gH gC
  unfold psR3 at hr3
  simp only [Try.f4, Option.getD_some] at hr3
  refine hr3 _ _ _ _ _ _ _ _ _ _ _ _ _ _ _ _ _ _ _ _ _ _ _ _ _ _ _ _ _ _ _ _ _ _ _ _ _ _ _ _ _ _ _ _ _ _ _ _ _ _ _ _ _ _ _ _ _ _ _ _ _ _ _ _ _ _ _ _ ?_
  clear hr3
  have hv1' : ∀ k, k < w.heap.size → (Z1.Hd k → JunkAt w k) ∧ ¬ Z1.C k := fun k hk => ⟨fun q => hjb k (by omega) ((hv1 k (by omega)).1 q), (hv1 k (by omega)).2⟩
  have hcl1 : ∀ c, Z1.C c → c < w1.heap.size := fun c hc => hok1.chanlt hc
  have f1 : ∀ k, w1.heap.size ≤ k → ¬ Z1.Hd k := fun k hk => hok1.fresh hk
  have hB3 := hB1.set_ 0 (.int .i64 ((r7 + 1 : Nat) : Int))
  have s3 : (w1.setCell ⟨Gb, 0, none⟩ (.int .i64 ((r7 + 1 : Nat) : Int))).heap.size = w1.heap.size := by simp
  have k3 : Kept noneS w (w1.setCell ⟨Gb, 0, none⟩ (.int .i64 ((r7 + 1 : Nat) : Int))) := (kA.trans kS).trans2 (kept_set w1 ⟨Gb, 0, none⟩ _) fun k hk q => by have : k = Gb := q; omega
  have hszS := kS.size
  clear hok0 hok1 hv1 hvA hjb hjn hBA hB1 kA hcl0 f0 hv
  generalize w1.setCell ⟨Gb, 0, none⟩ (.int .i64 ((r7 + 1 : Nat) : Int)) = w3 at *
  repeat (first | refine Run.auto rfl ?_ | ((first | (apply Run.lq rfl rfl rfl rfl; (focus (intro w K hK; go_simp; exact hK))) | (refine Run.ln rfl rfl rfl rfl rfl (by kernel_rfl) ?_) | (refine Run.not rfl rfl ?_)); try simp only [Act.put, Act.eval, nrmL, Nat.reduceAdd]) | (refine Run.rg ?_; simp only [nrmL, rngL, Nat.reduceAdd]) | refine Run.cT rfl ?_ | refine Run.cF rfl ?_ | refine Run.rt ?_ | refine Run.nd ?_)
  refine Run.made theEnv rfl rfl (by decide) rfl (fun _ _ q => by cases q) (.pointer (some ⟨w3.heap.size, 0, none⟩)) (.cells #[.int .i64 0] 3) (fun u _ hus => by go_simp) (f1 _ (by omega)) ?_
  try simp only [Act.put, Act.eval, nrmL, Nat.reduceAdd]
  have fD := Scene.free (Z := Z1) (a := ⟨w3.heap.size, 0, none⟩) (f1 w3.heap.size (by omega))
  have hD4 : Blk (w3.alloc (.cells #[.int .i64 0] 3)) w3.heap.size 3 #[.int .i64 0] := heap_alloc_new w3 _
  have hB4 := hB3.keep (S := noneS) ((Kept.refl noneS w3).alloc (.cells #[.int .i64 0] 3)) fun q => q
  have s4 : (w3.alloc (.cells #[.int .i64 0] 3)).heap.size = w3.heap.size + 1 := by simp
  have k4 : Kept noneS w (w3.alloc (.cells #[.int .i64 0] 3)) := k3.alloc _
  clear k3 hB3
  generalize hDe : w3.heap.size = D at *
  generalize w3.alloc (.cells #[.int .i64 0] 3) = w4 at *
  refine Run.stO (⟨D, 0, none⟩) (.int .i64 0) rfl rfl (by decide) rfl rfl rfl rfl rfl (by kernel_rfl) rfl ((by rw [hD4.cell 0]; rfl)) (hD4.frozen 0) (fD.2) (fD.1) ((fun q => by have := hcl1 D q; omega)) ?_
  try simp only [Act.put, Act.eval, nrmL, Nat.reduceAdd]
  have hD5 := hD4.set_ 0 (.int .i64 0)
  have k45 := kept_set w4 ⟨D, 0, none⟩ (.int .i64 0)
  have hB5 := hB4.keep k45 (fun q => by have : Gb = D := q; omega)
  have s5 : (w4.setCell ⟨D, 0, none⟩ (.int .i64 0)).heap.size = w4.heap.size := by simp
  have k5 : Kept noneS w (w4.setCell ⟨D, 0, none⟩ (.int .i64 0)) := k4.trans2 k45 fun k hk q => by have : k = D := q; omega
  clear k4 k45 hD4 hB4
  generalize w4.setCell ⟨D, 0, none⟩ (.int .i64 0) = w5 at *
  repeat (first | refine Run.auto rfl ?_ | ((first | (apply Run.lq rfl rfl rfl rfl; (focus (intro w K hK; go_simp; exact hK))) | (refine Run.ln rfl rfl rfl rfl rfl (by kernel_rfl) ?_) | (refine Run.not rfl rfl ?_)); try simp only [Act.put, Act.eval, nrmL, Nat.reduceAdd]) | (refine Run.rg ?_; simp only [nrmL, rngL, Nat.reduceAdd]) | refine Run.cT rfl ?_ | refine Run.cF rfl ?_ | refine Run.rt ?_ | refine Run.nd ?_)
  refine Run.made theEnv rfl rfl (by decide) rfl (fun _ _ q => by cases q) (.pointer (some ⟨w5.heap.size, 0, none⟩)) (.cells #[.pointer none] 25) (fun u _ hus => by go_simp) (f1 _ (by omega)) ?_
  try simp only [Act.put, Act.eval, nrmL, Nat.reduceAdd]
  have hV6 : Blk (w5.alloc (.cells #[.pointer none] 25)) w5.heap.size 25 #[.pointer none] := heap_alloc_new w5 _
  have hB6 := hB5.keep (S := noneS) ((Kept.refl noneS w5).alloc (.cells #[.pointer none] 25)) fun q => q
  have hD6 := hD5.keep (S := noneS) ((Kept.refl noneS w5).alloc (.cells #[.pointer none] 25)) fun q => q
  have s6 : (w5.alloc (.cells #[.pointer none] 25)).heap.size = w5.heap.size + 1 := by simp
  have k6 : Kept noneS w (w5.alloc (.cells #[.pointer none] 25)) := k5.alloc _
  clear k5 hB5 hD5
  generalize hVe : w5.heap.size = V at *
  generalize w5.alloc (.cells #[.pointer none] 25) = w6 at *
  repeat (first | refine Run.auto rfl ?_ | ((first | (apply Run.lq rfl rfl rfl rfl; (focus (intro w K hK; go_simp; exact hK))) | (refine Run.ln rfl rfl rfl rfl rfl (by kernel_rfl) ?_) | (refine Run.not rfl rfl ?_)); try simp only [Act.put, Act.eval, nrmL, Nat.reduceAdd]) | (refine Run.rg ?_; simp only [nrmL, rngL, Nat.reduceAdd]) | refine Run.cT rfl ?_ | refine Run.cF rfl ?_ | refine Run.rt ?_ | refine Run.nd ?_)
  refine Run.look theEnv rfl rfl (by decide) rfl (fun _ _ q => by cases q) (.func (.func 12) #[] #[.pointer (some ⟨D, 0, none⟩), .pointer (some ⟨V, 0, none⟩), .pointer (some ⟨Gb, 0, none⟩)]) (fun u _ _ => by go_simp) ?_
  try simp only [Act.put, Act.eval, nrmL, Nat.reduceAdd]
  refine Run.enter rfl rfl (by decide) rfl Try.func7 (by kernel_rfl) rfl ?_
  simp only [Act.eval, nrmL, Nat.reduceAdd]
  refine cli_new (w0 := w) hI1 hn1 k6 hv1' fun Z7 w7 y K7 ha7 hst7 hdo7 ho7 hZ7 k7 => ?_
  have sp : ∀ k, Gb ≤ k → k < w6.heap.size → ¬ Z1.Hd k → ¬ Z1.C k → space w Z7 y k := fun k hk hk2 a b => ⟨by omega, ho7 k hk2, fun q => a ((hZ7 k hk2).1 q), fun q => b ((hZ7 k hk2).2 q)⟩
  have spG := sp Gb (Nat.le_refl _) (by omega) gH gC
  have spD := sp D (by omega) (by omega) (f1 D (by omega)) fun q => by have := hcl1 D q; omega
  have spV := sp V (by omega) (by omega) (f1 V (by omega)) fun q => by have := hcl1 V q; omega
  have hV7 := hV6.keep k7 fun q => q
  have hD7 := hD6.keep k7 fun q => q
  have hB7 := hB6.keep k7 fun q => q
  clear hV6 hD6 hB6 sp ho7 hZ7 k7 k6 hv1'
  rw [Frame.finish_at]
  try simp only [Act.put, Act.eval, nrmL, Nat.reduceAdd]
  have fV := Scene.free (Z := Z7) (a := ⟨V, 0, none⟩) spV.2.2.1
  refine Run.stO (⟨V, 0, none⟩) (.pointer (some ⟨y.S, 0, none⟩)) rfl rfl (by decide) rfl rfl rfl rfl rfl (by kernel_rfl) rfl ((by rw [hV7.cell 0]; rfl)) (hV7.frozen 0) (fV.2) (fV.1) (spV.2.2.2) ?_
  try simp only [Act.put, Act.eval, nrmL, Nat.reduceAdd]
  have k8 := kept_set w7 ⟨V, 0, none⟩ (.pointer (some ⟨y.S, 0, none⟩))
  have hV8 := hV7.set_ 0 (.pointer (some ⟨y.S, 0, none⟩))
  have hD8 := hD7.keep k8 (fun q => by have : D = V := q; omega)
  have hB8 := hB7.keep k8 (fun q => by have : Gb = V := q; omega)
  have K8 := K7.next (K7.rep.keep k8 fun k q => by rw [show k = V from q]; exact spV.2.1) k8 (fun k q => .inr (by have : k = V := q; omega)) (Left2.refl _ _ _)
  clear K7 k8 hV7 hD7 hB7
  generalize w7.setCell ⟨V, 0, none⟩ (.pointer (some ⟨y.S, 0, none⟩)) = w8 at *
  have hVD : V ≠ D := by omega
  have hGD : Gb ≠ D := by omega
  have hn15 : n1 < 1000010 := by omega
  clear s3 s4 s5 s6 hszS hsA hDe hVe hcl1 f1 hn2 hnn1
  have hr7 := ps_r7 (Post := Post) (stk := stk) hnn31 K8 ha7 hst7 ⟨spD, hD8⟩ ⟨spV, hV8⟩ ⟨spG, hB8⟩
  unfold psR7 at hr7
  simp only [Try.f4, Option.getD_some] at hr7
  repeat (first | refine Run.auto rfl ?_ | ((first | (apply Run.lq rfl rfl rfl rfl; (focus (intro w K hK; go_simp; exact hK))) | (refine Run.ln rfl rfl rfl rfl rfl (by kernel_rfl) ?_) | (refine Run.not rfl rfl ?_)); try simp only [Act.put, Act.eval, nrmL, Nat.reduceAdd]) | (refine Run.rg ?_; simp only [nrmL, rngL, Nat.reduceAdd]) | refine Run.cT rfl ?_ | refine Run.cF rfl ?_ | refine Run.rt ?_ | refine Run.nd ?_)
  refine hr7 _ _ _ _ _ _ _ _ _ _ _ _ _ _ _ _ _ _ _ _ _ _ _ _ _ _ _ _ _ _ _ _ _ _ _ _ _ _ _ _ _ _ _ _ _ _ _ _ _ _ _ _ _ _ _ _ _ _ _ _ _ _ _ _ _ _ _ _ _ fun Z9 n9 y9 w9 K9 hO9 hst9 hS9 hf9 hn9 cD9 cV9 cG9 => ?_
  clear hr7 K8 hV8 hD8 hB8
  have hlp := ps_loop (w0 := w) (stk := stk) (Post := Post) (D := D) (V := V) (Gb := Gb) hnn31 (Nat.succ_pos r7) (by omega) hVD hGD H (nn + 1) 0 Z9 n9 w9 y9
  unfold psLoop psRest psTail at hlp
  simp only [Try.f4, Option.getD_some] at hlp
  rw [hS9.symm] at cV9
  clear H
  repeat (first | refine Run.auto rfl ?_ | ((first | (apply Run.lq rfl rfl rfl rfl; (focus (intro w K hK; go_simp; exact hK))) | (refine Run.ln rfl rfl rfl rfl rfl (by kernel_rfl) ?_) | (refine Run.not rfl rfl ?_)); try simp only [Act.put, Act.eval, nrmL, Nat.reduceAdd]) | (refine Run.rg ?_; simp only [nrmL, rngL, Nat.reduceAdd]) | refine Run.cT rfl ?_ | refine Run.cF rfl ?_ | refine Run.rt ?_ | refine Run.nd ?_)
  refine Run.ctl (fun _ => stepG_loop) rfl ?_
  exact hlp _ _ _ _ _ _ _ _ _ _ _ _ _ _ _ _ _ _ _ _ _ _ _ _ _ _ _ _ _ _ _ _ _ _ _ _ _ _ _ _ _ _ _ _ _ _ _ _ _ _ _ _ _ _ _ _ _ _ _ _ _ _ _ _ _ (by first | trivial | omega) (by first | trivial | omega) K9 hst9 (hf9.trans hdo7) cD9 cV9 cG9 (by first | exact fun _ => hO9 | exact hO9 | (rw [Nat.zero_mod]; exact fun _ => hO9)) (by first | trivial | exact fun q => by omega)
end
end Go.Proofs.Ytfpkachoneaaeaa
