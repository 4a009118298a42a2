/-
  sync.WaitGroup.Wait of goroutine 0, in the workers' company: to its load, round its loop, to its word.
-/
import Derived.Test.YtfpkachoneaaeaaBbSt
import Derived.Test.YtfpkachoneaaeaaBbMu
import Derived.Conc.WgArith
set_option linter.unusedSimpArgs false
set_option linter.unusedVariables false
namespace Go.Proofs.Ytfpkachoneaaeaa
open Go Go.Conc
open Go.ConcN (st_flag st_waiters)
theorem array84 (T : Array Value) (h : T.size = 84) : ∃ v0 v1 v2 v3 v4 v5 v6 v7 v8 v9 v10 v11 v12 v13 v14 v15 v16 v17 v18 v19 v20 v21 v22 v23 v24 v25 v26 v27 v28 v29 v30 v31 v32 v33 v34 v35 v36 v37 v38 v39 v40 v41 v42 v43 v44 v45 v46 v47 v48 v49 v50 v51 v52 v53 v54 v55 v56 v57 v58 v59 v60 v61 v62 v63 v64 v65 v66 v67 v68 v69 v70 v71 v72 v73 v74 v75 v76 v77 v78 v79 v80 v81 v82 v83, T = #[v0, v1, v2, v3, v4, v5, v6, v7, v8, v9, v10, v11, v12, v13, v14, v15, v16, v17, v18, v19, v20, v21, v22, v23, v24, v25, v26, v27, v28, v29, v30, v31, v32, v33, v34, v35, v36, v37, v38, v39, v40, v41, v42, v43, v44, v45, v46, v47, v48, v49, v50, v51, v52, v53, v54, v55, v56, v57, v58, v59, v60, v61, v62, v63, v64, v65, v66, v67, v68, v69, v70, v71, v72, v73, v74, v75, v76, v77, v78, v79, v80, v81, v82, v83] := by
  obtain ⟨l⟩ := T
  simp only [List.size_toArray] at h
  obtain _ | ⟨v0, l⟩ := l
  · simp at h
  obtain _ | ⟨v1, l⟩ := l
  · simp at h
  obtain _ | ⟨v2, l⟩ := l
  · simp at h
  obtain _ | ⟨v3, l⟩ := l
  · simp at h
  obtain _ | ⟨v4, l⟩ := l
  · simp at h
  obtain _ | ⟨v5, l⟩ := l
  · simp at h
  obtain _ | ⟨v6, l⟩ := l
  · simp at h
  obtain _ | ⟨v7, l⟩ := l
  · simp at h
  obtain _ | ⟨v8, l⟩ := l
  · simp at h
  obtain _ | ⟨v9, l⟩ := l
  · simp at h
  obtain _ | ⟨v10, l⟩ := l
  · simp at h
  obtain _ | ⟨v11, l⟩ := l
  · simp at h
  obtain _ | ⟨v12, l⟩ := l
  · simp at h
  obtain _ | ⟨v13, l⟩ := l
  · simp at h
  obtain _ | ⟨v14, l⟩ := l
  · simp at h
  obtain _ | ⟨v15, l⟩ := l
  · simp at h
  obtain _ | ⟨v16, l⟩ := l
  · simp at h
  obtain _ | ⟨v17, l⟩ := l
  · simp at h
  obtain _ | ⟨v18, l⟩ := l
  · simp at h
  obtain _ | ⟨v19, l⟩ := l
  · simp at h
  obtain _ | ⟨v20, l⟩ := l
  · simp at h
  obtain _ | ⟨v21, l⟩ := l
  · simp at h
  obtain _ | ⟨v22, l⟩ := l
  · simp at h
  obtain _ | ⟨v23, l⟩ := l
  · simp at h
  obtain _ | ⟨v24, l⟩ := l
  · simp at h
  obtain _ | ⟨v25, l⟩ := l
  · simp at h
  obtain _ | ⟨v26, l⟩ := l
  · simp at h
  obtain _ | ⟨v27, l⟩ := l
  · simp at h
  obtain _ | ⟨v28, l⟩ := l
  · simp at h
  obtain _ | ⟨v29, l⟩ := l
  · simp at h
  obtain _ | ⟨v30, l⟩ := l
  · simp at h
  obtain _ | ⟨v31, l⟩ := l
  · simp at h
  obtain _ | ⟨v32, l⟩ := l
  · simp at h
  obtain _ | ⟨v33, l⟩ := l
  · simp at h
  obtain _ | ⟨v34, l⟩ := l
  · simp at h
  obtain _ | ⟨v35, l⟩ := l
  · simp at h
  obtain _ | ⟨v36, l⟩ := l
  · simp at h
  obtain _ | ⟨v37, l⟩ := l
  · simp at h
  obtain _ | ⟨v38, l⟩ := l
  · simp at h
  obtain _ | ⟨v39, l⟩ := l
  · simp at h
  obtain _ | ⟨v40, l⟩ := l
  · simp at h
  obtain _ | ⟨v41, l⟩ := l
  · simp at h
  obtain _ | ⟨v42, l⟩ := l
  · simp at h
  obtain _ | ⟨v43, l⟩ := l
  · simp at h
  obtain _ | ⟨v44, l⟩ := l
  · simp at h
  obtain _ | ⟨v45, l⟩ := l
  · simp at h
  obtain _ | ⟨v46, l⟩ := l
  · simp at h
  obtain _ | ⟨v47, l⟩ := l
  · simp at h
  obtain _ | ⟨v48, l⟩ := l
  · simp at h
  obtain _ | ⟨v49, l⟩ := l
  · simp at h
  obtain _ | ⟨v50, l⟩ := l
  · simp at h
  obtain _ | ⟨v51, l⟩ := l
  · simp at h
  obtain _ | ⟨v52, l⟩ := l
  · simp at h
  obtain _ | ⟨v53, l⟩ := l
  · simp at h
  obtain _ | ⟨v54, l⟩ := l
  · simp at h
  obtain _ | ⟨v55, l⟩ := l
  · simp at h
  obtain _ | ⟨v56, l⟩ := l
  · simp at h
  obtain _ | ⟨v57, l⟩ := l
  · simp at h
  obtain _ | ⟨v58, l⟩ := l
  · simp at h
  obtain _ | ⟨v59, l⟩ := l
  · simp at h
  obtain _ | ⟨v60, l⟩ := l
  · simp at h
  obtain _ | ⟨v61, l⟩ := l
  · simp at h
  obtain _ | ⟨v62, l⟩ := l
  · simp at h
  obtain _ | ⟨v63, l⟩ := l
  · simp at h
  obtain _ | ⟨v64, l⟩ := l
  · simp at h
  obtain _ | ⟨v65, l⟩ := l
  · simp at h
  obtain _ | ⟨v66, l⟩ := l
  · simp at h
  obtain _ | ⟨v67, l⟩ := l
  · simp at h
  obtain _ | ⟨v68, l⟩ := l
  · simp at h
  obtain _ | ⟨v69, l⟩ := l
  · simp at h
  obtain _ | ⟨v70, l⟩ := l
  · simp at h
  obtain _ | ⟨v71, l⟩ := l
  · simp at h
  obtain _ | ⟨v72, l⟩ := l
  · simp at h
  obtain _ | ⟨v73, l⟩ := l
  · simp at h
  obtain _ | ⟨v74, l⟩ := l
  · simp at h
  obtain _ | ⟨v75, l⟩ := l
  · simp at h
  obtain _ | ⟨v76, l⟩ := l
  · simp at h
  obtain _ | ⟨v77, l⟩ := l
  · simp at h
  obtain _ | ⟨v78, l⟩ := l
  · simp at h
  obtain _ | ⟨v79, l⟩ := l
  · simp at h
  obtain _ | ⟨v80, l⟩ := l
  · simp at h
  obtain _ | ⟨v81, l⟩ := l
  · simp at h
  obtain _ | ⟨v82, l⟩ := l
  · simp at h
  obtain _ | ⟨v83, l⟩ := l
  · simp at h
  obtain _ | ⟨x, l⟩ := l
  · exact ⟨v0, v1, v2, v3, v4, v5, v6, v7, v8, v9, v10, v11, v12, v13, v14, v15, v16, v17, v18, v19, v20, v21, v22, v23, v24, v25, v26, v27, v28, v29, v30, v31, v32, v33, v34, v35, v36, v37, v38, v39, v40, v41, v42, v43, v44, v45, v46, v47, v48, v49, v50, v51, v52, v53, v54, v55, v56, v57, v58, v59, v60, v61, v62, v63, v64, v65, v66, v67, v68, v69, v70, v71, v72, v73, v74, v75, v76, v77, v78, v79, v80, v81, v82, v83, rfl⟩
  · simp at h
theorem AtLd.of {P : Program} {st sm : Addr} {Fin : Goroutine → Prop} {m k : Nat} {g : Goroutine} (h0 : g.status = .running ∧ ∃ g', Qt P true (KS st sm) (AtAcq P st Fin) k g' ∧ ∀ w : World, w.cell? st = some (.int .u64 0) → stepG P true g w = .go g' w #[⟨.cell st, false, true⟩])
    (h1 : ∀ m', m = m' + 1 → ∀ v : Nat, 1 ≤ v → v ≤ m → ∃ g', Qt P true (KS st sm) (AtCas P st sm Fin (AtLd P st sm Fin m') v) k g' ∧ ∀ w : World, w.cell? st = some (.int .u64 ((v : Int) * K32)) → stepG P true g w = .go g' w #[⟨.cell st, false, true⟩]) : AtLd P st sm Fin m k g := by
  cases m with
  | zero => exact h0
  | succ m => exact ⟨h0, h1 m rfl⟩
section
variable {S : Nat} {c : Frame} {cs : List Frame}
abbrev gst (S : Nat) : Addr := ⟨S, 5, none⟩
abbrev gsm (S : Nat) : Addr := ⟨S, 6, none⟩
/-- Behind Wait's last word it goes on to its return. -/
def FinW (c : Frame) (cs : List Frame) (g : Goroutine) : Prop := ∀ (Post : Value → World → Prop) (Z : Scene) (n : Nat) (w : World), Run Try.prog Post Z n 0 0 (G (c.finish (.tuple #[])) cs) w → Run Try.prog Post Z n 0 0 g w
noncomputable def waitL : Code := match Try.f26.body with | some (.seq _ (.block _ (.loop c))) => c | _ => .skip
set_option maxRecDepth 50000 in
set_option maxHeartbeats 8000000 in
theorem wait_round (m : Nat) (hms : m < 2147483647) (ih : ∀ m', m = m' + 1 → ∀ T : Array Value, T.size = 84 → T[0]? = some (.pointer (some (gst S))) → Qt Try.prog true (KS (gst S) (gsm S)) (AtLd Try.prog (gst S) (gsm S) (FinW c cs) m') 1
      (G ((base 26).at ⟨T, []⟩ [.code waitL, .inLoop waitL, .inBlock 0]) (c :: cs)))
    (T : Array Value) (hT : T.size = 84) (hT0 : T[0]? = some (.pointer (some (gst S)))) : Qt Try.prog true (KS (gst S) (gsm S)) (AtLd Try.prog (gst S) (gsm S) (FinW c cs) m) 1
    (G ((base 26).at ⟨T, []⟩ [.code waitL, .inLoop waitL, .inBlock 0]) (c :: cs)) := by
  obtain ⟨v0, v1, v2, v3, v4, v5, v6, v7, v8, v9, v10, v11, v12, v13, v14, v15, v16, v17, v18, v19, v20, v21, v22, v23, v24, v25, v26, v27, v28, v29, v30, v31, v32, v33, v34, v35, v36, v37, v38, v39, v40, v41, v42, v43, v44, v45, v46, v47, v48, v49, v50, v51, v52, v53, v54, v55, v56, v57, v58, v59, v60, v61, v62, v63, v64, v65, v66, v67, v68, v69, v70, v71, v72, v73, v74, v75, v76, v77, v78, v79, v80, v81, v82, v83, rfl⟩ := array84 T hT
  clear hT
  obtain rfl : v0 = _ := by simpa using hT0
  clear hT0
  simp only [waitL, Try.f26]
  repeat (first | refine Qt.auto rfl ?_ | ((first | (apply Qt.qo rfl rfl rfl (by decide) (fun _ => by simp [go_sem, *]); (focus (intro w K hK; go_simp; exact hK))) | refine Qt.not rfl rfl ?_); try simp only [Act.put, Act.eval, nrmL, Nat.reduceAdd]) | (refine Qt.rg ?_; simp only [nrmL, rngL, Nat.reduceAdd]) | refine Qt.cT rfl ?_ | refine Qt.cF rfl ?_ | refine Qt.rt ?_ | refine Qt.nd ?_)
  refine Qt.enter rfl rfl (by decide) rfl Try.func37 (by kernel_rfl) rfl ?_
  simp only [Try.ntmps37]
  try simp only [Act.put, Act.eval, nrmL, Nat.reduceAdd, Nat.reduceSub]
  repeat (first | refine Qt.auto rfl ?_ | ((first | (apply Qt.qo rfl rfl rfl (by decide) (fun _ => by simp [go_sem, *]); (focus (intro w K hK; go_simp; exact hK))) | refine Qt.not rfl rfl ?_); try simp only [Act.put, Act.eval, nrmL, Nat.reduceAdd]) | (refine Qt.rg ?_; simp only [nrmL, rngL, Nat.reduceAdd]) | refine Qt.cT rfl ?_ | refine Qt.cF rfl ?_ | refine Qt.rt ?_ | refine Qt.nd ?_)
  refine Qt.stop (AtLd.of ⟨rfl, _, ?_, fun w h => stepG_load_atomic rfl rfl (by decide) rfl Try.func62 (by kernel_rfl) (by kernel_rfl) (by kernel_rfl) .u64 (by kernel_rfl) rfl h⟩ fun m' hm v hv1 hvm => ?_)
  · have b0 : IntKind.i32.wrap 0 = 0 := by decide
    have b1 : IntKind.u32.wrap 0 = 0 := by decide
    have b2 : bits .and .u64 0 2147483648 = 0 := by decide
    have b3 : bits .and .u64 0 2147483647 = 0 := by decide
    clear ih
    try simp only [Act.put, Act.eval, nrmL, Nat.reduceAdd]
    repeat (first | refine Qt.auto rfl ?_ | ((first | (apply Qt.qo rfl rfl rfl (by decide) (fun _ => by simp [go_sem, *]); (focus (intro w K hK; go_simp; exact hK))) | refine Qt.not rfl rfl ?_); try simp only [Act.put, Act.eval, nrmL, Nat.reduceAdd]) | (refine Qt.rg ?_; simp only [nrmL, rngL, Nat.reduceAdd]) | refine Qt.cT rfl ?_ | refine Qt.cF rfl ?_ | refine Qt.rt ?_ | refine Qt.nd ?_)
    refine Qt.leave1 rfl rfl Try.func37 (by rfl) ?_
    try rw [Frame.finish_at]
    try simp only [Act.put, Act.eval, nrmL, Nat.reduceAdd]
    repeat (first | refine Qt.auto rfl ?_ | ((first | (apply Qt.qo rfl rfl rfl (by decide) (fun _ => by simp [go_sem, *]); (focus (intro w K hK; go_simp; exact hK))) | refine Qt.not rfl rfl ?_); try simp only [Act.put, Act.eval, nrmL, Nat.reduceAdd]) | (refine Qt.rg ?_; simp only [nrmL, rngL, Nat.reduceAdd]) | refine Qt.cT rfl ?_ | refine Qt.cF rfl ?_ | refine Qt.rt ?_ | refine Qt.nd ?_)
    refine Qt.mark0 (m := .enable) (by simp) rfl rfl (by decide) rfl Try.func38 (by kernel_rfl) (by kernel_rfl) (by kernel_rfl) (by kernel_rfl) rfl ?_
    rw [deaf_en]
    try simp only [Act.put, Act.eval, nrmL, Nat.reduceAdd]
    repeat (first | refine Qt.auto rfl ?_ | ((first | (apply Qt.qo rfl rfl rfl (by decide) (fun _ => by simp [go_sem, *]); (focus (intro w K hK; go_simp; exact hK))) | refine Qt.not rfl rfl ?_); try simp only [Act.put, Act.eval, nrmL, Nat.reduceAdd]) | (refine Qt.rg ?_; simp only [nrmL, rngL, Nat.reduceAdd]) | refine Qt.cT rfl ?_ | refine Qt.cF rfl ?_ | refine Qt.rt ?_ | refine Qt.nd ?_)
    refine Qt.unsafe_ (t := 56) (a := gst S) rfl rfl (by decide) rfl (by kernel_rfl) (by kernel_rfl) (by kernel_rfl) rfl (fun w h => h.1) ?_
    try simp only [Act.put, Act.eval, nrmL, Nat.reduceAdd]
    refine Qt.stop ⟨rfl, rfl, _, ?_, fun w => stepG_markAt .acquire (by simp) rfl rfl (by decide) rfl Try.func39 (by kernel_rfl) (by kernel_rfl) (by kernel_rfl) (by kernel_rfl) (ad := gst S) (by simp [Act.eval])⟩
    intro Post Z n w H
    try simp only [Act.put, Act.eval, nrmL, Nat.reduceAdd]
    repeat (first | refine Run.auto rfl ?_ | ((first | (refine Run.quietop rfl rfl rfl (by decide) ?_ ?_; (focus (intro w₁; simp [go_sem]; done)); intro w₁ K hK; go_simp; refine hK _ ?_; clear hK K w₁) | (refine Run.not rfl rfl ?_)); try simp only [Act.put, Act.eval, nrmL, Nat.reduceAdd]) | (refine Run.rg ?_; simp only [nrmL, rngL, Nat.reduceAdd]) | refine Run.cT rfl ?_ | refine Run.cF rfl ?_ | refine Run.rt ?_ | refine Run.nd ?_)
    refine Run.leave0 rfl rfl Try.func26 (by rfl) ?_
    exact H
  · specialize ih m' hm
    clear hm
    obtain ⟨X, hX⟩ : ∃ X, (v : Int) * K32 = X := ⟨_, rfl⟩
    have hsm : v < 2147483647 := by omega
    have a1 : X / 4294967296 = (v : Int) := by rw [← hX]; simp only [K32]; omega
    have a2 : 0 ≤ X ∧ X < 9223372036854775808 := by rw [← hX]; simp only [K32]; omega
    have b0 : bits .and .u64 X 2147483648 = 0 := by rw [← hX]; simpa using st_flag v 0 (by omega) (by omega)
    have b1 : bits .and .u64 X 2147483647 = 0 := by rw [← hX]; simpa using st_waiters v 0 (by omega) (by omega)
    have b2 : IntKind.u32.wrap 0 = 0 := by decide
    have b3 : IntKind.i32.wrap (v : Int) = (v : Int) := by rw [IntKind.wrap_i32]; omega
    have b4 : IntKind.u64.wrap (X + 1) = X + 1 := by rw [IntKind.wrap_u64]; omega
    have b5 : ¬ ((v : Int) = 0) := by omega
    have b6 : ((v : Int) == 0) = false := by simpa using b5
    unfold AtCas
    rw [hX]
    refine ⟨_, ?_, fun w h => stepG_load_atomic rfl rfl (by decide) rfl Try.func62 (by kernel_rfl) (by kernel_rfl) (by kernel_rfl) .u64 (by kernel_rfl) rfl h⟩
    try simp only [Act.put, Act.eval, nrmL, Nat.reduceAdd]
    repeat (first | refine Qt.auto rfl ?_ | ((first | (apply Qt.qo rfl rfl rfl (by decide) (fun _ => by simp [go_sem, *]); (focus (intro w K hK; go_simp; exact hK))) | refine Qt.not rfl rfl ?_); try simp only [Act.put, Act.eval, nrmL, Nat.reduceAdd]) | (refine Qt.rg ?_; simp only [nrmL, rngL, Nat.reduceAdd]) | refine Qt.cT rfl ?_ | refine Qt.cF rfl ?_ | refine Qt.rt ?_ | refine Qt.nd ?_)
    refine Qt.leave1 rfl rfl Try.func37 (by rfl) ?_
    try rw [Frame.finish_at]
    try simp only [Act.put, Act.eval, nrmL, Nat.reduceAdd]
    repeat (first | refine Qt.auto rfl ?_ | ((first | (apply Qt.qo rfl rfl rfl (by decide) (fun _ => by simp [go_sem, *]); (focus (intro w K hK; go_simp; exact hK))) | refine Qt.not rfl rfl ?_); try simp only [Act.put, Act.eval, nrmL, Nat.reduceAdd]) | (refine Qt.rg ?_; simp only [nrmL, rngL, Nat.reduceAdd]) | refine Qt.cT rfl ?_ | refine Qt.cF rfl ?_ | refine Qt.rt ?_ | refine Qt.nd ?_)
    refine Qt.enter rfl rfl (by decide) rfl Try.func41 (by kernel_rfl) rfl ?_
    simp only [Try.ntmps41]
    try simp only [Act.put, Act.eval, nrmL, Nat.reduceAdd, Nat.reduceSub]
    repeat (first | refine Qt.auto rfl ?_ | ((first | (apply Qt.qo rfl rfl rfl (by decide) (fun _ => by simp [go_sem, *]); (focus (intro w K hK; go_simp; exact hK))) | refine Qt.not rfl rfl ?_); try simp only [Act.put, Act.eval, nrmL, Nat.reduceAdd]) | (refine Qt.rg ?_; simp only [nrmL, rngL, Nat.reduceAdd]) | refine Qt.cT rfl ?_ | refine Qt.cF rfl ?_ | refine Qt.rt ?_ | refine Qt.nd ?_)
    refine Qt.stop ⟨rfl, ⟨_, ?_, fun w h hz => stepG_cas_hit rfl rfl (by decide) rfl Try.func63 (by kernel_rfl) (by kernel_rfl) (by kernel_rfl) .u64 (by kernel_rfl) rfl rfl rfl h hz⟩, ⟨_, ?_, fun w u hu h hz => stepG_cas_miss rfl rfl (by decide) rfl Try.func63 (by kernel_rfl) (by kernel_rfl) (by kernel_rfl) .u64 (by kernel_rfl) rfl rfl rfl h hz (by rw [← hX]; simp only [K32]; omega)⟩⟩
    · have c0 : IntKind.i32.wrap 0 = 0 := by decide
      clear ih
      try simp only [Act.put, Act.eval, nrmL, Nat.reduceAdd]
      repeat (first | refine Qt.auto rfl ?_ | ((first | (apply Qt.qo rfl rfl rfl (by decide) (fun _ => by simp [go_sem, *]); (focus (intro w K hK; go_simp; exact hK))) | refine Qt.not rfl rfl ?_); try simp only [Act.put, Act.eval, nrmL, Nat.reduceAdd]) | (refine Qt.rg ?_; simp only [nrmL, rngL, Nat.reduceAdd]) | refine Qt.cT rfl ?_ | refine Qt.cF rfl ?_ | refine Qt.rt ?_ | refine Qt.nd ?_)
      refine Qt.leave1 rfl rfl Try.func41 (by rfl) ?_
      try rw [Frame.finish_at]
      try simp only [Act.put, Act.eval, nrmL, Nat.reduceAdd]
      repeat (first | refine Qt.auto rfl ?_ | ((first | (apply Qt.qo rfl rfl rfl (by decide) (fun _ => by simp [go_sem, *]); (focus (intro w K hK; go_simp; exact hK))) | refine Qt.not rfl rfl ?_); try simp only [Act.put, Act.eval, nrmL, Nat.reduceAdd]) | (refine Qt.rg ?_; simp only [nrmL, rngL, Nat.reduceAdd]) | refine Qt.cT rfl ?_ | refine Qt.cF rfl ?_ | refine Qt.rt ?_ | refine Qt.nd ?_)
      refine Qt.unsafe_ (t := 45) (a := gsm S) rfl rfl (by decide) rfl (by kernel_rfl) (by kernel_rfl) (by kernel_rfl) rfl (fun w h => h.2) ?_
      try simp only [Act.put, Act.eval, nrmL, Nat.reduceAdd]
      refine Qt.stop ⟨rfl, _, ?_, fun w => stepG_markAt .write (by simp) rfl rfl (by decide) rfl Try.func43 (by kernel_rfl) (by kernel_rfl) (by kernel_rfl) (by kernel_rfl) (ad := gsm S) (by simp [Act.eval])⟩
      try simp only [Act.put, Act.eval, nrmL, Nat.reduceAdd]
      repeat (first | refine Qt.auto rfl ?_ | ((first | (apply Qt.qo rfl rfl rfl (by decide) (fun _ => by simp [go_sem, *]); (focus (intro w K hK; go_simp; exact hK))) | refine Qt.not rfl rfl ?_); try simp only [Act.put, Act.eval, nrmL, Nat.reduceAdd]) | (refine Qt.rg ?_; simp only [nrmL, rngL, Nat.reduceAdd]) | refine Qt.cT rfl ?_ | refine Qt.cF rfl ?_ | refine Qt.rt ?_ | refine Qt.nd ?_)
      refine Qt.stop ⟨rfl, rfl, _, ?_, fun w h hz => (stepG_semacquire rfl rfl (by decide) rfl Try.func45 (by kernel_rfl) (by kernel_rfl) (by kernel_rfl) (by kernel_rfl) (by simp [Act.eval]) h (by decide) hz), fun w h => stepG_semacquire_wait rfl rfl rfl Try.func45 (by kernel_rfl) (by kernel_rfl) (by kernel_rfl) (by kernel_rfl) (ad := gsm S) (by simp [Act.eval]) h⟩
      have d2 : bits .and .u64 0 2147483648 = 0 := by decide
      have d3 : bits .and .u64 0 2147483647 = 0 := by decide
      try simp only [Act.put, Act.eval, nrmL, Nat.reduceAdd]
      repeat (first | refine Qt.auto rfl ?_ | ((first | (apply Qt.qo rfl rfl rfl (by decide) (fun _ => by simp [go_sem, *]); (focus (intro w K hK; go_simp; exact hK))) | refine Qt.not rfl rfl ?_); try simp only [Act.put, Act.eval, nrmL, Nat.reduceAdd]) | (refine Qt.rg ?_; simp only [nrmL, rngL, Nat.reduceAdd]) | refine Qt.cT rfl ?_ | refine Qt.cF rfl ?_ | refine Qt.rt ?_ | refine Qt.nd ?_)
      refine Qt.enter rfl rfl (by decide) rfl Try.func37 (by kernel_rfl) rfl ?_
      simp only [Try.ntmps37]
      try simp only [Act.put, Act.eval, nrmL, Nat.reduceAdd, Nat.reduceSub]
      repeat (first | refine Qt.auto rfl ?_ | ((first | (apply Qt.qo rfl rfl rfl (by decide) (fun _ => by simp [go_sem, *]); (focus (intro w K hK; go_simp; exact hK))) | refine Qt.not rfl rfl ?_); try simp only [Act.put, Act.eval, nrmL, Nat.reduceAdd]) | (refine Qt.rg ?_; simp only [nrmL, rngL, Nat.reduceAdd]) | refine Qt.cT rfl ?_ | refine Qt.cF rfl ?_ | refine Qt.rt ?_ | refine Qt.nd ?_)
      refine Qt.stop ⟨rfl, _, ?_, fun w h => stepG_load_atomic rfl rfl (by decide) rfl Try.func62 (by kernel_rfl) (by kernel_rfl) (by kernel_rfl) .u64 (by kernel_rfl) rfl h⟩
      try simp only [Act.put, Act.eval, nrmL, Nat.reduceAdd]
      repeat (first | refine Qt.auto rfl ?_ | ((first | (apply Qt.qo rfl rfl rfl (by decide) (fun _ => by simp [go_sem, *]); (focus (intro w K hK; go_simp; exact hK))) | refine Qt.not rfl rfl ?_); try simp only [Act.put, Act.eval, nrmL, Nat.reduceAdd]) | (refine Qt.rg ?_; simp only [nrmL, rngL, Nat.reduceAdd]) | refine Qt.cT rfl ?_ | refine Qt.cF rfl ?_ | refine Qt.rt ?_ | refine Qt.nd ?_)
      refine Qt.leave1 rfl rfl Try.func37 (by rfl) ?_
      try rw [Frame.finish_at]
      try simp only [Act.put, Act.eval, nrmL, Nat.reduceAdd]
      repeat (first | refine Qt.auto rfl ?_ | ((first | (apply Qt.qo rfl rfl rfl (by decide) (fun _ => by simp [go_sem, *]); (focus (intro w K hK; go_simp; exact hK))) | refine Qt.not rfl rfl ?_); try simp only [Act.put, Act.eval, nrmL, Nat.reduceAdd]) | (refine Qt.rg ?_; simp only [nrmL, rngL, Nat.reduceAdd]) | refine Qt.cT rfl ?_ | refine Qt.cF rfl ?_ | refine Qt.rt ?_ | refine Qt.nd ?_)
      refine Qt.mark0 (m := .enable) (by simp) rfl rfl (by decide) rfl Try.func38 (by kernel_rfl) (by kernel_rfl) (by kernel_rfl) (by kernel_rfl) rfl ?_
      rw [deaf_en]
      try simp only [Act.put, Act.eval, nrmL, Nat.reduceAdd]
      repeat (first | refine Qt.auto rfl ?_ | ((first | (apply Qt.qo rfl rfl rfl (by decide) (fun _ => by simp [go_sem, *]); (focus (intro w K hK; go_simp; exact hK))) | refine Qt.not rfl rfl ?_); try simp only [Act.put, Act.eval, nrmL, Nat.reduceAdd]) | (refine Qt.rg ?_; simp only [nrmL, rngL, Nat.reduceAdd]) | refine Qt.cT rfl ?_ | refine Qt.cF rfl ?_ | refine Qt.rt ?_ | refine Qt.nd ?_)
      refine Qt.unsafe_ (t := 56) (a := gst S) rfl rfl (by decide) rfl (by kernel_rfl) (by kernel_rfl) (by kernel_rfl) rfl (fun w h => h.1) ?_
      try simp only [Act.put, Act.eval, nrmL, Nat.reduceAdd]
      refine Qt.stop ⟨rfl, rfl, _, ?_, fun w => stepG_markAt .acquire (by simp) rfl rfl (by decide) rfl Try.func39 (by kernel_rfl) (by kernel_rfl) (by kernel_rfl) (by kernel_rfl) (ad := gst S) (by simp [Act.eval])⟩
      intro Post Z n w H
      try simp only [Act.put, Act.eval, nrmL, Nat.reduceAdd]
      repeat (first | refine Run.auto rfl ?_ | ((first | (refine Run.quietop rfl rfl rfl (by decide) ?_ ?_; (focus (intro w₁; simp [go_sem]; done)); intro w₁ K hK; go_simp; refine hK _ ?_; clear hK K w₁) | (refine Run.not rfl rfl ?_)); try simp only [Act.put, Act.eval, nrmL, Nat.reduceAdd]) | (refine Run.rg ?_; simp only [nrmL, rngL, Nat.reduceAdd]) | refine Run.cT rfl ?_ | refine Run.cF rfl ?_ | refine Run.rt ?_ | refine Run.nd ?_)
      refine Run.leave0 rfl rfl Try.func26 (by rfl) ?_
      exact H
    · clear b0 b1
      try simp only [Act.put, Act.eval, nrmL, Nat.reduceAdd]
      repeat (first | refine Qt.auto rfl ?_ | ((first | (apply Qt.qo rfl rfl rfl (by decide) (fun _ => by simp [go_sem, *]); (focus (intro w K hK; go_simp; exact hK))) | refine Qt.not rfl rfl ?_); try simp only [Act.put, Act.eval, nrmL, Nat.reduceAdd]) | (refine Qt.rg ?_; simp only [nrmL, rngL, Nat.reduceAdd]) | refine Qt.cT rfl ?_ | refine Qt.cF rfl ?_ | refine Qt.rt ?_ | refine Qt.nd ?_)
      refine Qt.leave1 rfl rfl Try.func41 (by rfl) ?_
      try rw [Frame.finish_at]
      try simp only [Act.put, Act.eval, nrmL, Nat.reduceAdd]
      repeat (first | refine Qt.auto rfl ?_ | ((first | (apply Qt.qo rfl rfl rfl (by decide) (fun _ => by simp [go_sem, *]); (focus (intro w K hK; go_simp; exact hK))) | refine Qt.not rfl rfl ?_); try simp only [Act.put, Act.eval, nrmL, Nat.reduceAdd]) | (refine Qt.rg ?_; simp only [nrmL, rngL, Nat.reduceAdd]) | refine Qt.cT rfl ?_ | refine Qt.cF rfl ?_ | refine Qt.rt ?_ | refine Qt.nd ?_)
      refine Qt.ctl (fun _ => stepG_inLoop) rfl ?_
      exact ih _ rfl rfl
theorem wait_loop : ∀ (m : Nat) (_ : m < 2147483647) (T : Array Value), T.size = 84 → T[0]? = some (.pointer (some (gst S))) → Qt Try.prog true (KS (gst S) (gsm S)) (AtLd Try.prog (gst S) (gsm S) (FinW c cs) m) 1
    (G ((base 26).at ⟨T, []⟩ [.code waitL, .inLoop waitL, .inBlock 0]) (c :: cs))
  | 0, h => wait_round 0 h (fun m' e => by omega)
  | m + 1, h => wait_round (m + 1) h (fun m' e T h1 h2 => by
    obtain rfl : m = m' := by omega
    exact wait_loop m (by omega) T h1 h2)
set_option maxRecDepth 50000 in
set_option maxHeartbeats 4000000 in
/-- From Wait's entry. -/
theorem wait_start (m : Nat) (hm : m < 2147483647) : Qt Try.prog true (KS (gst S) (gsm S)) (AtLd Try.prog (gst S) (gsm S) (FinW c cs) m) 0
    (G ((base 26).at { tmps := #[.pointer (some (gst S))] ++ Array.replicate (Try.f26.ntmps - 1) undef, defers := [] } [.code (Try.f26.body.getD .skip)]) (c :: cs)) := by
  have h := fun T => wait_loop (S := S) (c := c) (cs := cs) m hm T
  simp only [waitL, Try.f26] at h
  simp only [Try.ntmps26]
  try simp only [Act.put, Act.eval, nrmL, Nat.reduceAdd, Nat.reduceSub]
  simp only [Try.f26, Option.getD_some]
  repeat (first | refine Qt.auto rfl ?_ | ((first | (apply Qt.qo rfl rfl rfl (by decide) (fun _ => by simp [go_sem, *]); (focus (intro w K hK; go_simp; exact hK))) | refine Qt.not rfl rfl ?_); try simp only [Act.put, Act.eval, nrmL, Nat.reduceAdd]) | (refine Qt.rg ?_; simp only [nrmL, rngL, Nat.reduceAdd]) | refine Qt.cT rfl ?_ | refine Qt.cF rfl ?_ | refine Qt.rt ?_ | refine Qt.nd ?_)
  refine Qt.mark0 (m := .disable) (by simp) rfl rfl (by decide) rfl Try.func36 (by kernel_rfl) (by kernel_rfl) (by kernel_rfl) (by kernel_rfl) rfl ?_
  rw [deaf_dis]
  try simp only [Act.put, Act.eval, nrmL, Nat.reduceAdd]
  repeat (first | refine Qt.auto rfl ?_ | ((first | (apply Qt.qo rfl rfl rfl (by decide) (fun _ => by simp [go_sem, *]); (focus (intro w K hK; go_simp; exact hK))) | refine Qt.not rfl rfl ?_); try simp only [Act.put, Act.eval, nrmL, Nat.reduceAdd]) | (refine Qt.rg ?_; simp only [nrmL, rngL, Nat.reduceAdd]) | refine Qt.cT rfl ?_ | refine Qt.cF rfl ?_ | refine Qt.rt ?_ | refine Qt.nd ?_)
  refine Qt.ctl (fun _ => stepG_loop) rfl ?_
  exact h _ rfl rfl
end
end Go.Proofs.Ytfpkachoneaaeaa
