/-
  ActorsPass's loop, in company.
-/
import Derived.Test.YtfpkachoneaaeaaBbPs2
import Derived.Test.YtfpkachoneaaeaaBbLit
set_option linter.unusedSimpArgs false
set_option linter.unusedVariables false
namespace Go.Proofs.Ytfpkachoneaaeaa
open Go Go.Conc Go.RowKit
noncomputable def psTail : Code := match Try.f4.body.getD .skip with
  | .seq _ (.seq _ (.seq _ (.seq _ (.seq _ (.seq _ (.seq _ (.seq _ t))))))) => t
  | _ => .skip
noncomputable def psLoop : Code := match psTail with
  | .seq (.block _ (.loop c)) _ => c
  | _ => .skip
noncomputable def psRest : Code := match psTail with
  | .seq _ t => t
  | _ => .skip
theorem Only.pass {l : Ab} {t rg nn : Nat} (h : Only l ((t % rg : Nat) : Int) (zeros (nn - t)) (t + 1)) (hrg : 0 < rg) (hrg8 : rg ≤ 8) (ht : t ≤ nn) :
    (∀ b r, zeros (nn - t) = b :: r → (putA (takeA l ((t % rg : Nat) : Int)) (((t % rg + 1) % rg : Nat) : Int) r).2 = true) ∧
    (t + 1 ≤ nn → Only (passA l ((t % rg : Nat) : Int) (((t % rg + 1) % rg : Nat) : Int) (zeros (nn - t))) (((t + 1) % rg : Nat) : Int) (zeros (nn - (t + 1))) (t + 1 + 1)) ∧
    (t + 1 = nn + 1 → Quiet (passA l ((t % rg : Nat) : Int) (((t % rg + 1) % rg : Nat) : Int) (zeros (nn - t))) (t + 1 + 1)) := by
  have hlt : (t % rg + 1) % rg < 8 := Nat.lt_of_lt_of_le (Nat.mod_lt _ hrg) hrg8
  have hm : (t % rg + 1) % rg = (t + 1) % rg := by rw [Nat.mod_add_mod]
  have hput := fun y => h.take.put (b := (((t % rg + 1) % rg : Nat) : Int)) (y := y) ⟨by omega, by omega⟩
  refine ⟨fun b r _ => (hput r).1, fun hn => ?_, fun hn => ?_⟩
  · have e : zeros (nn - t) = 0 :: zeros (nn - (t + 1)) := by
      rw [show nn - t = (nn - (t + 1)) + 1 by omega]
      rfl
    rw [e]
    have := (hput (zeros (nn - (t + 1)))).2
    rw [hm] at this ⊢
    exact this
  · have e : zeros (nn - t) = [] := by rw [show nn - t = 0 by omega]; rfl
    rw [e]
    have := h.take
    exact ⟨this.nd, this.rg, Nat.le_succ_of_le this.len, this.it⟩
section
variable {Post : Value → World → Prop} {stk : List Frame} {w0 : World} {D V Gb : Nat}
set_option maxRecDepth 50000 in
set_option maxHeartbeats 2000000 in
theorem ps_loop {nn rg : Nat} (hnn : nn ≤ 31) (hrg : 0 < rg) (hrg8 : rg ≤ 8) (hDV : V ≠ D) (hDG : Gb ≠ D) (H : ∀ Z' n' w' (x : Act) todo, (∀ i, Z'.Inb i = none) → Kept noneS w0 w' → x.defers = [] → x.tmps.getD 4 undef = .bool true → Run Try.prog Post Z' n' 0 0 (G { (base 4).at x todo with mode := .returning } stk) w') : ∀ (j t : Nat) (Z : Scene) (n : Nat) (w : World) (s : Sy) (v1 v2 v4 v8 v9 v10 v11 v12 v13 v14 v15 v16 v17 v18 v19 v20 v21 v22 v23 v24 v25 v26 v27 v28 v29 v30 v31 v32 v33 v34 v35 v36 v37 v38 v39 v40 v41 v42 v43 v44 v45 v46 v47 v48 v49 v50 v51 v52 v53 v54 v55 v56 v57 v58 v59 v60 v61 v62 v63 v64 v65 v66 v67 v68 v69 : Value), j + t = nn + 1 → n + j < 1000000000 → Cli w0 Z n w s → s.stopped = false → s.fdo = .func (.func 12) #[] #[.pointer (some ⟨D, 0, none⟩), .pointer (some ⟨V, 0, none⟩), .pointer (some ⟨Gb, 0, none⟩)] →
    Cel w (space w0 Z s) D 3 (.int .i64 (t : Int)) → Cel w (space w0 Z s) V 25 (.pointer (some ⟨s.S, 0, none⟩)) → Cel w (space w0 Z s) Gb 3 (.int .i64 (rg : Int)) → (t ≤ nn → Only s.abs ((t % rg : Nat) : Int) (zeros (nn - t)) (t + 1)) → (t = nn + 1 → Quiet s.abs (t + 1)) →
    Run Try.prog Post Z n 0 0 (G ((base 4).at ⟨#[.int .i64 (nn : Int), v1, v2, .pointer (some ⟨Gb, 0, none⟩), v4, .pointer (some ⟨D, 0, none⟩), .pointer (some ⟨V, 0, none⟩), .int .i64 (t : Int), v8, v9, v10, v11, v12, v13, v14, v15, v16, v17, v18, v19, v20, v21, v22, v23, v24, v25, v26, v27, v28, v29, v30, v31, v32, v33, v34, v35, v36, v37, v38, v39, v40, v41, v42, v43, v44, v45, v46, v47, v48, v49, v50, v51, v52, v53, v54, v55, v56, v57, v58, v59, v60, v61, v62, v63, v64, v65, v66, v67, v68, v69], []⟩ [.code psLoop, .inLoop psLoop, .inBlock 0, .code psRest]) stk) w := by
  have hw : IntKind.i64.wrap ((nn : Int) + 1) = (nn : Int) + 1 := by rw [IntKind.wrap_i64]; omega
  intro j
  induction j with
  | zero =>
    intro t Z n w s v1 v2 v4 v8 v9 v10 v11 v12 v13 v14 v15 v16 v17 v18 v19 v20 v21 v22 v23 v24 v25 v26 v27 v28 v29 v30 v31 v32 v33 v34 v35 v36 v37 v38 v39 v40 v41 v42 v43 v44 v45 v46 v47 v48 v49 v50 v51 v52 v53 v54 v55 v56 v57 v58 v59 v60 v61 v62 v63 v64 v65 v66 v67 v68 v69 hj hn K hst hdo cD cV cG hO hQ
    have hle : decide ((t : Int) ≤ (nn : Int) + 1) = true := decide_eq_true (by omega)
    have heq : ((t : Int) == (nn : Int) + 1) = true := by simp; omega
    have Q := hQ (by omega)
    clear hO hQ hdo
    have fV := Scene.free (Z := Z) (a := ⟨V, 0, none⟩) cV.mem.2.2.1
    unfold psLoop psRest psTail
    simp only [Try.f4, Option.getD_some]
    repeat (first | refine Run.auto rfl ?_ | ((first | (apply Run.lq rfl rfl rfl rfl; (focus (intro w K hK; go_simp; exact hK))) | (refine Run.ln rfl rfl rfl rfl rfl (by kernel_rfl) ?_) | (refine Run.not rfl rfl ?_)); try simp only [Act.put, Act.eval, nrmL, Nat.reduceAdd]) | (refine Run.rg ?_; simp only [nrmL, rngL, Nat.reduceAdd]) | refine Run.cT rfl ?_ | refine Run.cF rfl ?_ | refine Run.rt ?_ | refine Run.nd ?_)
    try simp only [hle]
    repeat (first | refine Run.auto rfl ?_ | ((first | (apply Run.lq rfl rfl rfl rfl; (focus (intro w K hK; go_simp; exact hK))) | (refine Run.ln rfl rfl rfl rfl rfl (by kernel_rfl) ?_) | (refine Run.not rfl rfl ?_)); try simp only [Act.put, Act.eval, nrmL, Nat.reduceAdd]) | (refine Run.rg ?_; simp only [nrmL, rngL, Nat.reduceAdd]) | refine Run.cT rfl ?_ | refine Run.cF rfl ?_ | refine Run.rt ?_ | refine Run.nd ?_)
    refine Run.ld (a := ⟨V, 0, none⟩) (v := .pointer (some ⟨s.S, 0, none⟩)) rfl rfl (by decide) (cV.blk.cell 0) (fV.2) (fun w₁ hld => ⟨by go_simp, by simp [go_sem, hld]⟩) ?_
    try simp only [Act.put, Act.eval, nrmL, Nat.reduceAdd]
    repeat (first | refine Run.auto rfl ?_ | ((first | (apply Run.lq rfl rfl rfl rfl; (focus (intro w K hK; go_simp; exact hK))) | (refine Run.ln rfl rfl rfl rfl rfl (by kernel_rfl) ?_) | (refine Run.not rfl rfl ?_)); try simp only [Act.put, Act.eval, nrmL, Nat.reduceAdd]) | (refine Run.rg ?_; simp only [nrmL, rngL, Nat.reduceAdd]) | refine Run.cT rfl ?_ | refine Run.cF rfl ?_ | refine Run.rt ?_ | refine Run.nd ?_)
    refine Run.enter rfl rfl (by decide) rfl Try.func11 (by kernel_rfl) rfl ?_
    simp only [Act.eval, nrmL, Nat.reduceAdd]
    refine cli_runnable K Q.wf (by have := Q.len; omega) fun A k w1 K1 k1 hS1 => ?_
    rw [Q.run] at hS1 ⊢
    have cD1 := cD.keep k1 fun _ _ q r => r q.2.1
    have cV1 := cV.keep k1 fun _ _ q r => r q.2.1
    rw [Frame.finish_at]
    clear K cD cV cG
    try simp only [Act.put, Act.eval, nrmL, Nat.reduceAdd]
    repeat (first | refine Run.auto rfl ?_ | ((first | (apply Run.lq rfl rfl rfl rfl; (focus (intro w K hK; go_simp; exact hK))) | (refine Run.ln rfl rfl rfl rfl rfl (by kernel_rfl) ?_) | (refine Run.not rfl rfl ?_)); try simp only [Act.put, Act.eval, nrmL, Nat.reduceAdd]) | (refine Run.rg ?_; simp only [nrmL, rngL, Nat.reduceAdd]) | refine Run.cT rfl ?_ | refine Run.cF rfl ?_ | refine Run.rt ?_ | refine Run.nd ?_)
    refine Run.ld (a := ⟨V, 0, none⟩) (v := .pointer (some ⟨s.S, 0, none⟩)) rfl rfl (by decide) (cV1.blk.cell 0) (fV.2) (fun w₁ hld => ⟨by go_simp, by simp [go_sem, hld]⟩) ?_
    try simp only [Act.put, Act.eval, nrmL, Nat.reduceAdd]
    repeat (first | refine Run.auto rfl ?_ | ((first | (apply Run.lq rfl rfl rfl rfl; (focus (intro w K hK; go_simp; exact hK))) | (refine Run.ln rfl rfl rfl rfl rfl (by kernel_rfl) ?_) | (refine Run.not rfl rfl ?_)); try simp only [Act.put, Act.eval, nrmL, Nat.reduceAdd]) | (refine Run.rg ?_; simp only [nrmL, rngL, Nat.reduceAdd]) | refine Run.cT rfl ?_ | refine Run.cF rfl ?_ | refine Run.rt ?_ | refine Run.nd ?_)
    refine Run.enter rfl rfl (by decide) rfl Try.func10 (by kernel_rfl) rfl ?_
    simp only [Act.eval, nrmL, Nat.reduceAdd]
    refine cli_stop K1 (by omega) fun Z2 w2 s2 K2 ha2 hst2 hL2 k2 hI2 => ?_
    have cD2 := hL2.cel cD1 k2
    have fD := Scene.free (Z := Z2) (a := ⟨D, 0, none⟩) cD2.mem.2.2.1
    rw [Frame.finish_at]
    try simp only [Act.put, Act.eval, nrmL, Nat.reduceAdd]
    repeat (first | refine Run.auto rfl ?_ | ((first | (apply Run.lq rfl rfl rfl rfl; (focus (intro w K hK; go_simp; exact hK))) | (refine Run.ln rfl rfl rfl rfl rfl (by kernel_rfl) ?_) | (refine Run.not rfl rfl ?_)); try simp only [Act.put, Act.eval, nrmL, Nat.reduceAdd]) | (refine Run.rg ?_; simp only [nrmL, rngL, Nat.reduceAdd]) | refine Run.cT rfl ?_ | refine Run.cF rfl ?_ | refine Run.rt ?_ | refine Run.nd ?_)
    try simp only [heq]
    repeat (first | refine Run.auto rfl ?_ | ((first | (apply Run.lq rfl rfl rfl rfl; (focus (intro w K hK; go_simp; exact hK))) | (refine Run.ln rfl rfl rfl rfl rfl (by kernel_rfl) ?_) | (refine Run.not rfl rfl ?_)); try simp only [Act.put, Act.eval, nrmL, Nat.reduceAdd]) | (refine Run.rg ?_; simp only [nrmL, rngL, Nat.reduceAdd]) | refine Run.cT rfl ?_ | refine Run.cF rfl ?_ | refine Run.rt ?_ | refine Run.nd ?_)
    refine Run.ld (a := ⟨D, 0, none⟩) (v := .int .i64 (t : Int)) rfl rfl (by decide) (cD2.blk.cell 0) (fD.2) (fun w₁ hld => ⟨by go_simp, by simp [go_sem, hld]⟩) ?_
    try simp only [Act.put, Act.eval, nrmL, Nat.reduceAdd]
    repeat (first | refine Run.auto rfl ?_ | ((first | (apply Run.lq rfl rfl rfl rfl; (focus (intro w K hK; go_simp; exact hK))) | (refine Run.ln rfl rfl rfl rfl rfl (by kernel_rfl) ?_) | (refine Run.not rfl rfl ?_)); try simp only [Act.put, Act.eval, nrmL, Nat.reduceAdd]) | (refine Run.rg ?_; simp only [nrmL, rngL, Nat.reduceAdd]) | refine Run.cT rfl ?_ | refine Run.cF rfl ?_ | refine Run.rt ?_ | refine Run.nd ?_)
    try simp only [heq]
    repeat (first | refine Run.auto rfl ?_ | ((first | (apply Run.lq rfl rfl rfl rfl; (focus (intro w K hK; go_simp; exact hK))) | (refine Run.ln rfl rfl rfl rfl rfl (by kernel_rfl) ?_) | (refine Run.not rfl rfl ?_)); try simp only [Act.put, Act.eval, nrmL, Nat.reduceAdd]) | (refine Run.rg ?_; simp only [nrmL, rngL, Nat.reduceAdd]) | refine Run.cT rfl ?_ | refine Run.cF rfl ?_ | refine Run.rt ?_ | refine Run.nd ?_)
    exact H Z2 n w2 _ _ hI2 K2.old.kept rfl rfl
  | succ j ih =>
    intro t Z n w s v1 v2 v4 v8 v9 v10 v11 v12 v13 v14 v15 v16 v17 v18 v19 v20 v21 v22 v23 v24 v25 v26 v27 v28 v29 v30 v31 v32 v33 v34 v35 v36 v37 v38 v39 v40 v41 v42 v43 v44 v45 v46 v47 v48 v49 v50 v51 v52 v53 v54 v55 v56 v57 v58 v59 v60 v61 v62 v63 v64 v65 v66 v67 v68 v69 hj hn K hst hdo cD cV cG hO hQ
    have hle : decide ((t : Int) ≤ (nn : Int) + 1) = true := decide_eq_true (by omega)
    have O := hO (by omega)
    clear hO hQ
    obtain ⟨hpost, hnx1, hnx2⟩ := O.pass hrg hrg8 (by omega)
    have hmr := Nat.mod_lt t hrg
    have fV := Scene.free (Z := Z) (a := ⟨V, 0, none⟩) cV.mem.2.2.1
    have ih' := ih (t + 1)
    have hwt : IntKind.i64.wrap ((t : Int) + 1) = ((t + 1 : Nat) : Int) := by rw [IntKind.wrap_i64]; omega
    refine Run.okG fun hok => ?_
    unfold psLoop psRest psTail at ih' ⊢
    simp only [Try.f4, Option.getD_some] at ih' ⊢
    repeat (first | refine Run.auto rfl ?_ | ((first | (apply Run.lq rfl rfl rfl rfl; (focus (intro w K hK; go_simp; exact hK))) | (refine Run.ln rfl rfl rfl rfl rfl (by kernel_rfl) ?_) | (refine Run.not rfl rfl ?_)); try simp only [Act.put, Act.eval, nrmL, Nat.reduceAdd]) | (refine Run.rg ?_; simp only [nrmL, rngL, Nat.reduceAdd]) | refine Run.cT rfl ?_ | refine Run.cF rfl ?_ | refine Run.rt ?_ | refine Run.nd ?_)
    try simp only [hle]
    repeat (first | refine Run.auto rfl ?_ | ((first | (apply Run.lq rfl rfl rfl rfl; (focus (intro w K hK; go_simp; exact hK))) | (refine Run.ln rfl rfl rfl rfl rfl (by kernel_rfl) ?_) | (refine Run.not rfl rfl ?_)); try simp only [Act.put, Act.eval, nrmL, Nat.reduceAdd]) | (refine Run.rg ?_; simp only [nrmL, rngL, Nat.reduceAdd]) | refine Run.cT rfl ?_ | refine Run.cF rfl ?_ | refine Run.rt ?_ | refine Run.nd ?_)
    refine Run.ld (a := ⟨V, 0, none⟩) (v := .pointer (some ⟨s.S, 0, none⟩)) rfl rfl (by decide) (cV.blk.cell 0) (fV.2) (fun w₁ hld => ⟨by go_simp, by simp [go_sem, hld]⟩) ?_
    try simp only [Act.put, Act.eval, nrmL, Nat.reduceAdd]
    repeat (first | refine Run.auto rfl ?_ | ((first | (apply Run.lq rfl rfl rfl rfl; (focus (intro w K hK; go_simp; exact hK))) | (refine Run.ln rfl rfl rfl rfl rfl (by kernel_rfl) ?_) | (refine Run.not rfl rfl ?_)); try simp only [Act.put, Act.eval, nrmL, Nat.reduceAdd]) | (refine Run.rg ?_; simp only [nrmL, rngL, Nat.reduceAdd]) | refine Run.cT rfl ?_ | refine Run.cF rfl ?_ | refine Run.rt ?_ | refine Run.nd ?_)
    refine Run.enter rfl rfl (by decide) rfl Try.func11 (by kernel_rfl) rfl ?_
    simp only [Act.eval, nrmL, Nat.reduceAdd]
    refine cli_runnable K O.wf (by have := O.len; omega) fun A k w1 K1 k1 hS1 => ?_
    rw [O.run] at hS1 ⊢
    have cD1 := cD.keep k1 fun _ _ q r => r q.2.1
    have cV1 := cV.keep k1 fun _ _ q r => r q.2.1
    have cG1 := cG.keep k1 fun _ _ q r => r q.2.1
    rw [Frame.finish_at]
    have hrd := hS1.rd
    obtain ⟨g, o, rfl, hg, hc0⟩ : ∃ g o, A = some ⟨g, o, none⟩ ∧ ¬ Z.Hd g ∧ w1.cell? ⟨g, o, none⟩ = some (.int .i64 ((t % rg : Nat) : Int)) := by
      rcases hrd with q | ⟨g, o, q1, q2, q3⟩
      · cases q
      · exact ⟨g, o, q1, hok.fresh q2, q3 0 _ rfl⟩
    have cA : ∀ u, Kept Z.Hd w1 u → u.cell? ⟨g, o, none⟩ = some (.int .i64 ((t % rg : Nat) : Int)) := fun u hu => (hu.cell (p := ⟨g, o, none⟩) (lt_of_cell hc0) hg).trans hc0
    have cV' : ∀ u, Kept Z.Hd w1 u → u.cell? ⟨V, 0, none⟩ = some (.pointer (some ⟨s.S, 0, none⟩)) := fun u hu => (hu.cell (p := ⟨V, 0, none⟩) cV1.blk.lt cV1.mem.2.2.1).trans (cV1.blk.cell 0)
    have cG' : ∀ u, Kept Z.Hd w1 u → u.cell? ⟨Gb, 0, none⟩ = some (.int .i64 (rg : Int)) := fun u hu => (hu.cell (p := ⟨Gb, 0, none⟩) cG1.blk.lt cG1.mem.2.2.1).trans (cG1.blk.cell 0)
    have hr0 : ((rg : Int) == 0) = false := by simp; omega
    have hn0 : ¬ rg = 0 := by omega
    have hrem : Int.tmod (t : Int) (rg : Int) = ((t % rg : Nat) : Int) := by
      rw [Int.tmod_eq_emod_of_nonneg (by omega)]
      simp
    have hwr : IntKind.i64.wrap (((t % rg : Nat) : Int)) = ((t % rg : Nat) : Int) := by rw [IntKind.wrap_i64]; omega
    have hz31 : (zeros (nn - t)).length ≤ 31 := by rw [zeros_len]; omega
    have hlen1 : s.abs.length < 1000 := by have := O.len; omega
    have hfnd := O.find
    clear hrd hS1 hg hc0 K cD cV cG O k1 hok
    simp only [List.length_cons, List.length_nil, Nat.reduceAdd]
    try simp only [Act.put, Act.eval, nrmL, Nat.reduceAdd]
    repeat (first | refine Run.auto rfl ?_ | ((first | (apply Run.lq rfl rfl rfl rfl; (focus (intro w K hK; go_simp; exact hK))) | (refine Run.ln rfl rfl rfl rfl rfl (by kernel_rfl) ?_) | (refine Run.not rfl rfl ?_)); try simp only [Act.put, Act.eval, nrmL, Nat.reduceAdd]) | (refine Run.rg ?_; simp only [nrmL, rngL, Nat.reduceAdd]) | refine Run.cT rfl ?_ | refine Run.cF rfl ?_ | refine Run.rt ?_ | refine Run.nd ?_)
    refine Run.readsCall theEnv ⟨#[.int .i64 (nn : Int), v1, v2, .pointer (some ⟨Gb, 0, none⟩), v4, .pointer (some ⟨D, 0, none⟩), .pointer (some ⟨V, 0, none⟩), .int .i64 (t : Int), .slice (some ⟨g, o, none⟩) 1 k, v9, v10, v11, v12, v13, v14, v15, v16, v17, v18, v19, v20, v21, v22, v23, v24, v25, v26, .int .i64 (t : Int), .int .i64 (nn : Int), .int .i64 ((nn : Int) + 1), .bool true, .pointer (some ⟨s.S, 0, none⟩), .slice (some ⟨g, o, none⟩) 1 k, .slice (some ⟨g, o, none⟩) 1 k, .int .i64 1, .bool false, .slice (some ⟨g, o, none⟩) 1 k, .int .i64 1, .bool false, .bool false, .slice (some ⟨g, o, none⟩) 1 k, .pointer (some ⟨g, o, none⟩), .int .i64 ((t % rg : Nat) : Int), .int .i64 (t : Int), .int .i64 (rg : Int), .int .i64 ((t % rg : Nat) : Int), .bool false, .bool false, .bool false, .pointer (some ⟨s.S, 0, none⟩), .slice (some ⟨g, o, none⟩) 1 k, .pointer (some ⟨g, o, none⟩), .int .i64 ((t % rg : Nat) : Int), v53, v54, v55, v56, v57, v58, v59, v60, v61, v62, v63, v64, v65, v66, v67, v68, v69], []⟩ ⟨#[.int .i64 (nn : Int), v1, v2, .pointer (some ⟨Gb, 0, none⟩), v4, .pointer (some ⟨D, 0, none⟩), .pointer (some ⟨V, 0, none⟩), .int .i64 (t : Int), .slice (some ⟨g, o, none⟩) 1 k, v9, v10, v11, v12, v13, v14, v15, v16, v17, v18, v19, v20, v21, v22, v23, v24, v25, v26, .int .i64 (t : Int), .int .i64 (nn : Int), .int .i64 ((nn : Int) + 1), .bool true, .pointer (some ⟨s.S, 0, none⟩), .slice (some ⟨g, o, none⟩) 1 k, .slice (some ⟨g, o, none⟩) 1 k, .int .i64 1, .bool false, .slice (some ⟨g, o, none⟩) 1 k, .int .i64 1, .bool false, .bool false, .slice (some ⟨g, o, none⟩) 1 k, .pointer (some ⟨g, o, none⟩), .int .i64 ((t % rg : Nat) : Int), .int .i64 (t : Int), .int .i64 (rg : Int), .int .i64 ((t % rg : Nat) : Int), .bool false, .bool false, .bool false, .pointer (some ⟨s.S, 0, none⟩), .slice (some ⟨g, o, none⟩) 1 k, .pointer (some ⟨g, o, none⟩), .int .i64 ((t % rg : Nat) : Int), .bool true, .bool false, .bool false, v56, v57, v58, v59, v60, v61, v62, v63, v64, v65, v66, v67, v68, v69], []⟩ [7, 8] 17 _ (.bool true) (fun Z' n' w' => ∃ s', Cli w0 Z' n' w' s' ∧ s'.abs = passA s.abs ((t % rg : Nat) : Int) (((t % rg + 1) % rg : Nat) : Int) (zeros (nn - t)) ∧ s'.stopped = false ∧ s'.S = s.S ∧ s'.fdo = s.fdo ∧ n' ≤ n + 1 ∧ Cel w' (space w0 Z' s') D 3 (.int .i64 ((t : Int) + 1)) ∧ Cel w' (space w0 Z' s') V 25 (.pointer (some ⟨s.S, 0, none⟩)) ∧ Cel w' (space w0 Z' s') Gb 3 (.int .i64 (rg : Int))) 54 56 rfl (by decide) (by kernel_rfl) (by kernel_rfl) (by kernel_rfl) (by kernel_rfl)
      (Ag.start 36 53 70 rfl rfl rfl rfl rfl (by kernel_rfl)) (by kernel_rfl) (by kernel_rfl) rfl (fun t q => by cases q; rfl) rfl rfl rfl rfl ?_ ?_ ?_ ?_
    · intro i o ho hi
      match i, hi with
      | 0, _ =>
        simp only [List.getElem?_toArray, List.getElem?_cons_succ, List.getElem?_cons_zero, Nat.reduceAdd] at ho
        obtain rfl := Option.some.inj ho
        exact ⟨(fun cs b q => by cases q), .inl ⟨rfl, rfl, (fun _ _ _ q => by cases q), .slice (some ⟨g, o, none⟩) 1 k, (fun u hu _ => by clear ih ih' H; go_simp), fun k hk => by cases hk; rfl⟩⟩
      | 1, _ =>
        simp only [List.getElem?_toArray, List.getElem?_cons_succ, List.getElem?_cons_zero, Nat.reduceAdd] at ho
        obtain rfl := Option.some.inj ho
        exact ⟨(fun cs b q => by cases q), .inl ⟨rfl, rfl, (fun v ρ f q => by rw [about_builtin rfl] at q; cases q), .int .i64 1, (fun u hu _ => by clear ih ih' H; go_simp), fun k hk => by cases hk; rfl⟩⟩
      | 2, _ =>
        simp only [List.getElem?_toArray, List.getElem?_cons_succ, List.getElem?_cons_zero, Nat.reduceAdd] at ho
        obtain rfl := Option.some.inj ho
        exact ⟨(fun cs b q => by cases q), .inl ⟨rfl, rfl, (fun _ _ _ q => by cases q), .bool false, (fun u hu _ => by clear ih ih' H; go_simp), fun k hk => by cases hk; rfl⟩⟩
      | 3, _ =>
        simp only [List.getElem?_toArray, List.getElem?_cons_succ, List.getElem?_cons_zero, Nat.reduceAdd] at ho
        obtain rfl := Option.some.inj ho
        exact ⟨(fun cs b q => by cases q), .inl ⟨rfl, rfl, (fun _ _ _ q => by cases q), .bool false, (fun u hu _ => by clear ih ih' H; go_simp), fun k hk => by cases hk; rfl⟩⟩
      | 4, _ =>
        simp only [List.getElem?_toArray, List.getElem?_cons_succ, List.getElem?_cons_zero, Nat.reduceAdd] at ho
        obtain rfl := Option.some.inj ho
        exact ⟨(fun cs b q => by cases q), .inl ⟨rfl, rfl, (fun _ _ _ q => by cases q), .slice (some ⟨g, o, none⟩) 1 k, (fun u hu _ => by clear ih ih' H; go_simp), fun k hk => by cases hk; rfl⟩⟩
      | 5, _ =>
        simp only [List.getElem?_toArray, List.getElem?_cons_succ, List.getElem?_cons_zero, Nat.reduceAdd] at ho
        obtain rfl := Option.some.inj ho
        exact ⟨(fun cs b q => by cases q), .inl ⟨rfl, rfl, (fun _ _ _ q => by cases q), .pointer (some ⟨g, o, none⟩), (fun u hu _ => by clear ih ih' H; go_simp), fun k hk => by cases hk; rfl⟩⟩
      | 6, _ =>
        simp only [List.getElem?_toArray, List.getElem?_cons_succ, List.getElem?_cons_zero, Nat.reduceAdd] at ho
        obtain rfl := Option.some.inj ho
        exact ⟨(fun cs b q => by cases q), .inl ⟨rfl, rfl, (fun _ _ _ q => by cases q), .int .i64 ((t % rg : Nat) : Int), (fun u hu _ => by have hc := cA u hu; clear ih ih' H; go_simp), fun k hk => by cases hk; rfl⟩⟩
      | 7, _ =>
        simp only [List.getElem?_toArray, List.getElem?_cons_succ, List.getElem?_cons_zero, Nat.reduceAdd] at ho
        obtain rfl := Option.some.inj ho
        exact ⟨(fun cs b q => by cases q), .inl ⟨rfl, rfl, (fun _ _ _ q => by cases q), .int .i64 (t : Int), (fun u hu _ => by clear ih ih' H; go_simp), fun k hk => by cases hk; rfl⟩⟩
      | 8, _ =>
        simp only [List.getElem?_toArray, List.getElem?_cons_succ, List.getElem?_cons_zero, Nat.reduceAdd] at ho
        obtain rfl := Option.some.inj ho
        exact ⟨(fun cs b q => by cases q), .inl ⟨rfl, rfl, (fun _ _ _ q => by cases q), .int .i64 (rg : Int), (fun u hu _ => by have hc := cG' u hu; clear ih ih' H; go_simp), fun k hk => by cases hk; rfl⟩⟩
      | 9, _ =>
        simp only [List.getElem?_toArray, List.getElem?_cons_succ, List.getElem?_cons_zero, Nat.reduceAdd] at ho
        obtain rfl := Option.some.inj ho
        exact ⟨(fun cs b q => by cases q), .inl ⟨rfl, rfl, (fun _ _ _ q => by cases q), .int .i64 ((t % rg : Nat) : Int), (fun u hu _ => by clear ih ih' H; go_simp), fun k hk => by cases hk; rfl⟩⟩
      | 10, _ =>
        simp only [List.getElem?_toArray, List.getElem?_cons_succ, List.getElem?_cons_zero, Nat.reduceAdd] at ho
        obtain rfl := Option.some.inj ho
        exact ⟨(fun cs b q => by cases q), .inl ⟨rfl, rfl, (fun _ _ _ q => by cases q), .bool false, (fun u hu _ => by clear ih ih' H; go_simp), fun k hk => by cases hk; rfl⟩⟩
      | 11, _ =>
        simp only [List.getElem?_toArray, List.getElem?_cons_succ, List.getElem?_cons_zero, Nat.reduceAdd] at ho
        obtain rfl := Option.some.inj ho
        exact ⟨(fun cs b q => by cases q), .inl ⟨rfl, rfl, (fun _ _ _ q => by cases q), .bool false, (fun u hu _ => by clear ih ih' H; go_simp), fun k hk => by cases hk; rfl⟩⟩
      | 12, _ =>
        simp only [List.getElem?_toArray, List.getElem?_cons_succ, List.getElem?_cons_zero, Nat.reduceAdd] at ho
        obtain rfl := Option.some.inj ho
        exact ⟨(fun cs b q => by cases q), .inl ⟨rfl, rfl, (fun _ _ _ q => by cases q), .bool false, (fun u hu _ => by clear ih ih' H; go_simp), fun k hk => by cases hk; rfl⟩⟩
      | 13, _ =>
        simp only [List.getElem?_toArray, List.getElem?_cons_succ, List.getElem?_cons_zero, Nat.reduceAdd] at ho
        obtain rfl := Option.some.inj ho
        exact ⟨(fun cs b q => by cases q), .inl ⟨rfl, rfl, (fun _ _ _ q => by cases q), .pointer (some ⟨s.S, 0, none⟩), (fun u hu _ => by have hc := cV' u hu; clear ih ih' H; go_simp), fun k hk => by cases hk; rfl⟩⟩
      | 14, _ =>
        simp only [List.getElem?_toArray, List.getElem?_cons_succ, List.getElem?_cons_zero, Nat.reduceAdd] at ho
        obtain rfl := Option.some.inj ho
        exact ⟨(fun cs b q => by cases q), .inl ⟨rfl, rfl, (fun _ _ _ q => by cases q), .slice (some ⟨g, o, none⟩) 1 k, (fun u hu _ => by clear ih ih' H; go_simp), fun k hk => by cases hk; rfl⟩⟩
      | 15, _ =>
        simp only [List.getElem?_toArray, List.getElem?_cons_succ, List.getElem?_cons_zero, Nat.reduceAdd] at ho
        obtain rfl := Option.some.inj ho
        exact ⟨(fun cs b q => by cases q), .inl ⟨rfl, rfl, (fun _ _ _ q => by cases q), .pointer (some ⟨g, o, none⟩), (fun u hu _ => by clear ih ih' H; go_simp), fun k hk => by cases hk; rfl⟩⟩
      | 16, _ =>
        simp only [List.getElem?_toArray, List.getElem?_cons_succ, List.getElem?_cons_zero, Nat.reduceAdd] at ho
        obtain rfl := Option.some.inj ho
        exact ⟨(fun cs b q => by cases q), .inl ⟨rfl, rfl, (fun _ _ _ q => by cases q), .int .i64 ((t % rg : Nat) : Int), (fun u hu _ => by have hc := cA u hu; clear ih ih' H; go_simp), fun k hk => by cases hk; rfl⟩⟩
      | m + 17, hm => exact absurd hm (by omega)
    · intro i o ho hi Z' n' w' hQ
      have h20 : i < 20 := (Array.getElem?_eq_some_iff.1 ho).1
      have hi2 : i = 18 ∨ i = 19 := by omega
      clear hQ
      rcases hi2 with rfl | rfl
      · simp only [List.getElem?_toArray, List.getElem?_cons_succ, List.getElem?_cons_zero, Nat.reduceAdd] at ho
        obtain rfl := Option.some.inj ho
        exact ⟨(fun cs b q => by cases q), .inl ⟨rfl, rfl, (fun _ _ _ q => by cases q), .bool false, (fun u hu _ => by clear ih ih' H; go_simp), fun k hk => by cases hk; rfl⟩⟩
      · simp only [List.getElem?_toArray, List.getElem?_cons_succ, List.getElem?_cons_zero, Nat.reduceAdd] at ho
        obtain rfl := Option.some.inj ho
        exact ⟨(fun cs b q => by cases q), .inl ⟨rfl, rfl, (fun _ _ _ q => by cases q), .bool false, (fun u hu _ => by clear ih ih' H; go_simp), fun k hk => by cases hk; rfl⟩⟩
    · intro rest cont
      refine Run.enter rfl rfl (by decide) rfl Try.func14 (by kernel_rfl) rfl ?_
      simp only [Act.eval, nrmL, Nat.reduceAdd]
      refine cli_pass K1 cD1 cV1 cG1 hDV hDG (by omega) hrg hrg8 (by omega) hdo hst hfnd hz31 hlen1 hpost fun Z' n' s' w' K' ha' hst' hS' hf' hn' dD dV dG => ?_
      rw [Frame.finish_at]
      try simp only [Act.put, Act.eval, nrmL, Nat.reduceAdd]
      exact cont Z' n' w' ⟨s', K', ha', hst', hS', hf', hn', dD, dV, dG⟩
    · rintro Z' n' w' ⟨s', K', ha', hst', hS', hf', hn', dD, dV, dG⟩
      rw [← ha'] at hnx1 hnx2
      rw [← hS'] at dV ⊢
      have hcast : (t : Int) + 1 = ((t + 1 : Nat) : Int) := by omega
      rw [hcast] at dD
      clear hcast
      repeat (first | refine Run.auto rfl ?_ | ((first | (apply Run.lq rfl rfl rfl rfl; (focus (intro w K hK; go_simp; exact hK))) | (refine Run.ln rfl rfl rfl rfl rfl (by kernel_rfl) ?_) | (refine Run.not rfl rfl ?_)); try simp only [Act.put, Act.eval, nrmL, Nat.reduceAdd]) | (refine Run.rg ?_; simp only [nrmL, rngL, Nat.reduceAdd]) | refine Run.cT rfl ?_ | refine Run.cF rfl ?_ | refine Run.rt ?_ | refine Run.nd ?_)
      refine Run.ctl (fun _ => stepG_inLoop) rfl ?_
      exact ih' Z' n' w' s' _ _ _ _ _ _ _ _ _ _ _ _ _ _ _ _ _ _ _ _ _ _ _ _ _ _ _ _ _ _ _ _ _ _ _ _ _ _ _ _ _ _ _ _ _ _ _ _ _ _ _ _ _ _ _ _ _ _ _ _ _ _ _ _ _ (by omega) (by omega) K' hst' (hf'.trans hdo) dD dV dG hnx1 hnx2
end
end Go.Proofs.Ytfpkachoneaaeaa
