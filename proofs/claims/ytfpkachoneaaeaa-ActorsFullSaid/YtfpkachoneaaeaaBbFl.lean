/-
  ActorsFull's loops, in company.
-/
import Derived.Test.YtfpkachoneaaeaaBbSpk
import Derived.Test.YtfpkachoneaaeaaBbLit
import Derived.Test.YtfpkachoneaaeaaBbDraw
set_option linter.unusedSimpArgs false
set_option linter.unusedVariables false
namespace Go.Proofs.Ytfpkachoneaaeaa
open Go Go.Conc Go.RowKit
noncomputable def flTail : Code := match Try.f5.body.getD .skip with
  | .seq _ (.seq _ (.seq _ (.seq _ (.seq _ (.seq _ t))))) => t
  | _ => .skip
noncomputable def flLoop1 : Code := match flTail with
  | .seq (.seq _ (.block _ (.loop c))) _ => c
  | _ => .skip
noncomputable def flRest1 : Code := match flTail with
  | .seq _ t => t
  | _ => .skip
noncomputable def flLoop2 : Code := match flRest1 with
  | .seq (.block _ (.loop c)) _ => c
  | _ => .skip
noncomputable def flRest2 : Code := match flRest1 with
  | .seq _ t => t
  | _ => .skip
def flIts (j : Nat) : List (List UInt8) := (List.range j).map zeros
def flDid (r : Nat) : List Int := (List.range r).map Int.ofNat
theorem flIts_drop {r : Nat} (h : r < 64) : (flIts 64).drop r = zeros r :: (flIts 64).drop (r + 1) := by
  have hl : r < (flIts 64).length := by simp [flIts]; omega
  rw [List.drop_eq_getElem_cons hl]
  simp [flIts]
theorem flDid_succ (r : Nat) : ivs (flDid (r + 1)) = ivs (flDid r) ++ [.int .i64 (r : Int)] := by
  simp [flDid, ivs, List.range_succ]
section
variable {Post : Value → World → Prop} {stk : List Frame} {w0 : World} {D n : Nat} {ac more : Int}
set_option maxRecDepth 50000 in
set_option maxHeartbeats 2000000 in
theorem fl_loop2 (hn : n < 2147483647) (H : ∀ Z' w' (x : Act) todo, (∀ i, Z'.Inb i = none) → Kept noneS w0 w' → x.defers = [] → x.tmps.getD 4 undef = .bool true → Run Try.prog Post Z' n 0 0 (G { (base 5).at x todo with mode := .returning } stk) w') : ∀ (m r : Nat) (Z : Scene) (w : World) (s : Sy) (v2 v3 v4 v8 v9 v10 v11 v12 v13 v14 v15 v16 v17 v18 v19 v20 v21 v22 v23 v24 v25 v26 v27 v28 v29 v30 v31 v32 v33 v34 v35 v36 v37 v38 v39 v40 v41 v42 v43 v44 v45 v46 v47 v48 v49 v50 v51 v52 v53 v54 v55 v56 v57 v58 v59 v60 v61 v62 : Value), m + r = 64 → Cli w0 Z n w s → s.abs = [(ac, (flIts 64).drop r)] → s.fdo = .func (.func 15) #[] #[.pointer (some ⟨D, 0, none⟩)] → LstV w (space w0 Z s) D 33 3 1 r (ivs (flDid r)) →
    Run Try.prog Post Z n 0 0 (G ((base 5).at ⟨#[.int .i64 ac, .int .i64 more, v2, v3, v4, .pointer (some ⟨D, 0, none⟩), .pointer (some ⟨s.S, 0, none⟩), .bool true, v8, v9, v10, v11, v12, v13, v14, v15, v16, v17, v18, v19, v20, v21, v22, v23, v24, v25, v26, v27, v28, v29, v30, v31, v32, v33, v34, v35, v36, v37, v38, v39, v40, v41, v42, v43, v44, v45, v46, v47, v48, v49, v50, v51, v52, v53, v54, v55, v56, v57, v58, v59, v60, v61, v62], []⟩ [.code flLoop2, .inLoop flLoop2, .inBlock 2, .code flRest2]) stk) w := by
  intro m
  induction m with
  | zero =>
    intro r Z w s v2 v3 v4 v8 v9 v10 v11 v12 v13 v14 v15 v16 v17 v18 v19 v20 v21 v22 v23 v24 v25 v26 v27 v28 v29 v30 v31 v32 v33 v34 v35 v36 v37 v38 v39 v40 v41 v42 v43 v44 v45 v46 v47 v48 v49 v50 v51 v52 v53 v54 v55 v56 v57 v58 v59 v60 v61 v62 hr K ha hdo L
    obtain rfl : r = 64 := by omega
    refine Run.okG fun hok => ?_
    unfold flLoop2 flRest2 flRest1 flTail
    simp only [Try.f5, Option.getD_some]
    repeat (first | refine Run.auto rfl ?_ | ((first | (apply Run.lq rfl rfl rfl rfl; (focus (intro w K hK; go_simp; exact hK))) | (refine Run.ln rfl rfl rfl rfl rfl (by kernel_rfl) ?_) | (refine Run.not rfl rfl ?_)); try simp only [Act.put, Act.eval, nrmL, Nat.reduceAdd]) | (refine Run.rg ?_; simp only [nrmL, rngL, Nat.reduceAdd]) | refine Run.cT rfl ?_ | refine Run.cF rfl ?_ | refine Run.rt ?_ | refine Run.nd ?_)
    refine Run.enter rfl rfl (by decide) rfl Try.func14 (by kernel_rfl) rfl ?_
    simp only [Act.eval, nrmL, Nat.reduceAdd]
    refine run_did full1_spec Try.func15 (by kernel_rfl) rfl K L (fun _ _ q => q) (K.room hok) (by decide) hdo (fun p hp => by rw [ha] at hp; simp [flIts] at hp; rw [hp]; intro b hb; cases hb) ac ?_ ?_
    · intro _ w1 K1 k1
      have L1 := L.keep k1 fun _ _ q r => r q.2.1
      rw [Frame.finish_at]
      try simp only [Act.put, Act.eval, nrmL, Nat.reduceAdd]
      repeat (first | refine Run.auto rfl ?_ | ((first | (apply Run.lq rfl rfl rfl rfl; (focus (intro w K hK; go_simp; exact hK))) | (refine Run.ln rfl rfl rfl rfl rfl (by kernel_rfl) ?_) | (refine Run.not rfl rfl ?_)); try simp only [Act.put, Act.eval, nrmL, Nat.reduceAdd]) | (refine Run.rg ?_; simp only [nrmL, rngL, Nat.reduceAdd]) | refine Run.cT rfl ?_ | refine Run.cF rfl ?_ | refine Run.rt ?_ | refine Run.nd ?_)
      refine Run.enter rfl rfl (by decide) rfl Try.func10 (by kernel_rfl) rfl ?_
      simp only [Act.eval, nrmL, Nat.reduceAdd]
      refine cli_stop K1 hn fun Z2 w2 s2 K2 ha2 hst2 hL2 k2 hI2 => ?_
      have hS2 := hL2.S
      have L2 := hL2.lst L1 k2
      rw [Frame.finish_at, ← hS2]
      try simp only [Act.put, Act.eval, nrmL, Nat.reduceAdd]
      obtain ⟨A, k, hB, hS⟩ := L2.ex
      have hfree := Scene.free (Z := Z2) (a := ⟨D, 0, none⟩) L2.mem.2.2.1
      repeat (first | refine Run.auto rfl ?_ | ((first | (apply Run.lq rfl rfl rfl rfl; (focus (intro w K hK; go_simp; exact hK))) | (refine Run.ln rfl rfl rfl rfl rfl (by kernel_rfl) ?_) | (refine Run.not rfl rfl ?_)); try simp only [Act.put, Act.eval, nrmL, Nat.reduceAdd]) | (refine Run.rg ?_; simp only [nrmL, rngL, Nat.reduceAdd]) | refine Run.cT rfl ?_ | refine Run.cF rfl ?_ | refine Run.rt ?_ | refine Run.nd ?_)
      refine Run.ld (a := ⟨D, 0, none⟩) (v := .slice A 64 k) rfl rfl (by decide) (hB.cell 0) (hfree.2) (fun w₁ hld => ⟨by go_simp, by simp [go_sem, hld]⟩) ?_
      try simp only [Act.put, Act.eval, nrmL, Nat.reduceAdd]
      repeat (first | refine Run.auto rfl ?_ | ((first | (apply Run.lq rfl rfl rfl rfl; (focus (intro w K hK; go_simp; exact hK))) | (refine Run.ln rfl rfl rfl rfl rfl (by kernel_rfl) ?_) | (refine Run.not rfl rfl ?_)); try simp only [Act.put, Act.eval, nrmL, Nat.reduceAdd]) | (refine Run.rg ?_; simp only [nrmL, rngL, Nat.reduceAdd]) | refine Run.cT rfl ?_ | refine Run.cF rfl ?_ | refine Run.rt ?_ | refine Run.nd ?_)
      exact H Z2 w2 _ _ hI2 K2.old.kept rfl rfl
    · intro i' bs rest hf
      rw [ha, show (flIts 64).drop 64 = [] by simp [flIts]] at hf
      simp at hf
  | succ m ih =>
    intro r Z w s v2 v3 v4 v8 v9 v10 v11 v12 v13 v14 v15 v16 v17 v18 v19 v20 v21 v22 v23 v24 v25 v26 v27 v28 v29 v30 v31 v32 v33 v34 v35 v36 v37 v38 v39 v40 v41 v42 v43 v44 v45 v46 v47 v48 v49 v50 v51 v52 v53 v54 v55 v56 v57 v58 v59 v60 v61 v62 hr K ha hdo L
    have hr64 : r < 64 := by omega
    refine Run.okG fun hok => ?_
    have hfd : (flIts 64).drop r = zeros r :: (flIts 64).drop (r + 1) := flIts_drop hr64
    have ih' := ih (r + 1)
    unfold flLoop2 flRest2 flRest1 flTail at ih' ⊢
    simp only [Try.f5, Option.getD_some] at ih' ⊢
    repeat (first | refine Run.auto rfl ?_ | ((first | (apply Run.lq rfl rfl rfl rfl; (focus (intro w K hK; go_simp; exact hK))) | (refine Run.ln rfl rfl rfl rfl rfl (by kernel_rfl) ?_) | (refine Run.not rfl rfl ?_)); try simp only [Act.put, Act.eval, nrmL, Nat.reduceAdd]) | (refine Run.rg ?_; simp only [nrmL, rngL, Nat.reduceAdd]) | refine Run.cT rfl ?_ | refine Run.cF rfl ?_ | refine Run.rt ?_ | refine Run.nd ?_)
    refine Run.enter rfl rfl (by decide) rfl Try.func14 (by kernel_rfl) rfl ?_
    simp only [Act.eval, nrmL, Nat.reduceAdd]
    refine run_did full1_spec Try.func15 (by kernel_rfl) rfl K L (fun _ _ q => q) (K.room hok) (by omega) hdo ?_ ac ?_ ?_
    · intro p hp
      rw [ha] at hp
      simp only [List.mem_singleton] at hp
      subst hp
      intro b hb
      have := List.mem_of_mem_drop hb
      simp only [flIts, List.mem_map, List.mem_range] at this
      obtain ⟨i, hi, rfl⟩ := this
      simp [zeros]
      omega
    · intro h0
      rw [ha] at h0
      simp [lenA, flIts] at h0
      omega
    · intro i' bs rest hf Z1 s1 w1 K1 ha1 hst1 hL1 L1 k1
      rw [ha] at hf
      simp only [List.find?_cons, beq_self_eq_true, hfd] at hf
      obtain ⟨_, rfl, rfl⟩ : i' = ac ∧ bs = zeros r ∧ rest = (flIts 64).drop (r + 1) := by
        have h1 := Prod.mk.inj (Option.some.inj hf)
        have h2 := List.cons.inj h1.2
        exact ⟨h1.1.symm, h2.1.symm, h2.2.symm⟩
      have ha1' : s1.abs = [(ac, (flIts 64).drop (r + 1))] := by
        rw [ha1, ha]
        simp [takeA, hfd]
      replace L1 := L1.mono (M' := space w0 Z1 s1) fun _ _ q => q.2
      have hlz : ((zeros r).length : Int) = (r : Int) := by simp [zeros]
      rw [hlz, ← flDid_succ] at L1
      rw [Frame.finish_at, ← hL1.S]
      try simp only [Act.put, Act.eval, nrmL, Nat.reduceAdd]
      obtain ⟨A, k, hB, hS⟩ := L1.ex
      have hmem := L1.mem
      have hfree := Scene.free (Z := Z1) (a := ⟨D, 0, none⟩) L1.mem.2.2.1
      have hrd := hS.rd
      obtain ⟨g, o, rfl, hg, hc⟩ : ∃ g o, A = some ⟨g, o, none⟩ ∧ ¬ Z1.Hd g ∧ w1.cell? ⟨g, o + r, none⟩ = some (.int .i64 (r : Int)) := by
        rcases hrd with q | ⟨g, o, q1, q2, q3⟩
        · have := congrArg List.length q
          simp [ivs, flDid] at this
        · exact ⟨g, o, q1, q2.1.2.2.1, q3 r _ (by simp [ivs, flDid])⟩
      have hcap := hS.cap
      clear hrd hS
      have h100 : decide ((r : Int) + 1 < 100) = true := decide_eq_true (by omega)
      repeat (first | refine Run.auto rfl ?_ | ((first | (apply Run.lq rfl rfl rfl rfl; (focus (intro w K hK; go_simp; exact hK))) | (refine Run.ln rfl rfl rfl rfl rfl (by kernel_rfl) ?_) | (refine Run.not rfl rfl ?_)); try simp only [Act.put, Act.eval, nrmL, Nat.reduceAdd]) | (refine Run.rg ?_; simp only [nrmL, rngL, Nat.reduceAdd]) | refine Run.cT rfl ?_ | refine Run.cF rfl ?_ | refine Run.rt ?_ | refine Run.nd ?_)
      refine Run.ld (a := ⟨D, 0, none⟩) (v := .slice (some ⟨g, o, none⟩) (r + 1) k) rfl rfl (by decide) (hB.cell 0) (hfree.2) (fun w₁ hld => ⟨by go_simp, by simp [go_sem, hld]⟩) ?_
      try simp only [Act.put, Act.eval, nrmL, Nat.reduceAdd]
      repeat (first | refine Run.auto rfl ?_ | ((first | (apply Run.lq rfl rfl rfl rfl; (focus (intro w K hK; go_simp; exact hK))) | (refine Run.ln rfl rfl rfl rfl rfl (by kernel_rfl) ?_) | (refine Run.not rfl rfl ?_)); try simp only [Act.put, Act.eval, nrmL, Nat.reduceAdd]) | (refine Run.rg ?_; simp only [nrmL, rngL, Nat.reduceAdd]) | refine Run.cT rfl ?_ | refine Run.cF rfl ?_ | refine Run.rt ?_ | refine Run.nd ?_)
      try simp only [h100]
      repeat (first | refine Run.auto rfl ?_ | ((first | (apply Run.lq rfl rfl rfl rfl; (focus (intro w K hK; go_simp; exact hK))) | (refine Run.ln rfl rfl rfl rfl rfl (by kernel_rfl) ?_) | (refine Run.not rfl rfl ?_)); try simp only [Act.put, Act.eval, nrmL, Nat.reduceAdd]) | (refine Run.rg ?_; simp only [nrmL, rngL, Nat.reduceAdd]) | refine Run.cT rfl ?_ | refine Run.cF rfl ?_ | refine Run.rt ?_ | refine Run.nd ?_)
      have cD : ∀ u, Kept Z1.Hd w1 u → u.cell? ⟨D, 0, none⟩ = some (.slice (some ⟨g, o, none⟩) (r + 1) k) := fun u hu => (hu.cell (p := ⟨D, 0, none⟩) hB.lt hmem.2.2.1).trans (hB.cell 0)
      have cG : ∀ u, Kept Z1.Hd w1 u → u.cell? ⟨g, o + r, none⟩ = some (.int .i64 (r : Int)) := fun u hu => (hu.cell (p := ⟨g, o + r, none⟩) (lt_of_cell hc) hg).trans hc
      have b1 : (0 : Int) ≤ (r : Int) := by omega
      have b2 : (r : Int) < (r : Int) + 1 := by omega
      have b3 : IntKind.i64.wrap (r : Int) = (r : Int) := by rw [IntKind.wrap_i64]; omega
      refine Run.reads theEnv ⟨#[.int .i64 ac, .int .i64 more, v2, v3, v4, .pointer (some ⟨D, 0, none⟩), .pointer (some ⟨s1.S, 0, none⟩), .bool true, v8, v9, v10, v11, v12, v13, v14, v15, v16, v17, v18, v19, v20, v21, v22, v23, v24, v25, v26, v27, v28, v29, v30, v31, v32, v33, .pointer (some ⟨s1.S, 0, none⟩), .int .i64 ac, .bool true, .bool true, .slice (some ⟨g, o, none⟩) (r + 1) k, .int .i64 ((r : Int) + 1), .bool true, .bool true, .bool true, .bool true, .slice (some ⟨g, o, none⟩) (r + 1) k, .slice (some ⟨g, o, none⟩) (r + 1) k, .int .i64 ((r : Int) + 1), .int .i64 (r : Int), .pointer (some ⟨g, o + r, none⟩), .int .i64 (r : Int), .slice (some ⟨g, o, none⟩) (r + 1) k, .int .i64 ((r : Int) + 1), .int .i64 (r : Int), .bool true, .bool true, v55, v56, v57, v58, v59, v60, v61, v62], []⟩ [7] (by decide) (by kernel_rfl) (by kernel_rfl) (by kernel_rfl) (Ag.start 42 55 63 ?_ ?_ ?_ ?_ rfl (by kernel_rfl)) (fun i op ho => ?_) ?_
      · rfl
      · rfl
      · rfl
      · rfl
      · have hi14 : i < 14 := (Array.getElem?_eq_some_iff.1 ho).1
        match i, hi14 with
          | 0, _ =>
            simp only [List.getElem?_toArray, List.getElem?_cons_succ, List.getElem?_cons_zero, Nat.reduceAdd] at ho
            obtain rfl := Option.some.inj ho
            exact ⟨(fun cs b q => by cases q), .inl ⟨rfl, rfl, (fun _ _ _ q => by cases q), .bool true, (fun u hu _ => by have hD := cD u hu; have hG := cG u hu; clear ih' ih H; go_simp), fun k hk => by cases hk; rfl⟩⟩
          | 1, _ =>
            simp only [List.getElem?_toArray, List.getElem?_cons_succ, List.getElem?_cons_zero, Nat.reduceAdd] at ho
            obtain rfl := Option.some.inj ho
            exact ⟨(fun cs b q => by cases q), .inl ⟨rfl, rfl, (fun _ _ _ q => by cases q), .bool true, (fun u hu _ => by have hD := cD u hu; have hG := cG u hu; clear ih' ih H; go_simp), fun k hk => by cases hk; rfl⟩⟩
          | 2, _ =>
            simp only [List.getElem?_toArray, List.getElem?_cons_succ, List.getElem?_cons_zero, Nat.reduceAdd] at ho
            obtain rfl := Option.some.inj ho
            exact ⟨(fun cs b q => by cases q), .inl ⟨rfl, rfl, (fun _ _ _ q => by cases q), .slice (some ⟨g, o, none⟩) (r + 1) k, (fun u hu _ => by have hD := cD u hu; have hG := cG u hu; clear ih' ih H; go_simp), fun k hk => by cases hk; rfl⟩⟩
          | 3, _ =>
            simp only [List.getElem?_toArray, List.getElem?_cons_succ, List.getElem?_cons_zero, Nat.reduceAdd] at ho
            obtain rfl := Option.some.inj ho
            exact ⟨(fun cs b q => by cases q), .inl ⟨rfl, rfl, (fun _ _ _ q => by cases q), .slice (some ⟨g, o, none⟩) (r + 1) k, (fun u hu _ => by have hD := cD u hu; have hG := cG u hu; clear ih' ih H; go_simp), fun k hk => by cases hk; rfl⟩⟩
          | 4, _ =>
            simp only [List.getElem?_toArray, List.getElem?_cons_succ, List.getElem?_cons_zero, Nat.reduceAdd] at ho
            obtain rfl := Option.some.inj ho
            exact ⟨(fun cs b q => by cases q), .inl ⟨rfl, rfl, (fun v ρ f q => by rw [about_builtin rfl] at q; cases q), .int .i64 ((r : Int) + 1), (fun u hu _ => by have hD := cD u hu; have hG := cG u hu; clear ih' ih H; go_simp), fun k hk => by cases hk; rfl⟩⟩
          | 5, _ =>
            simp only [List.getElem?_toArray, List.getElem?_cons_succ, List.getElem?_cons_zero, Nat.reduceAdd] at ho
            obtain rfl := Option.some.inj ho
            exact ⟨(fun cs b q => by cases q), .inl ⟨rfl, rfl, (fun _ _ _ q => by cases q), .int .i64 (r : Int), (fun u hu _ => by have hD := cD u hu; have hG := cG u hu; clear ih' ih H; go_simp), fun k hk => by cases hk; rfl⟩⟩
          | 6, _ =>
            simp only [List.getElem?_toArray, List.getElem?_cons_succ, List.getElem?_cons_zero, Nat.reduceAdd] at ho
            obtain rfl := Option.some.inj ho
            exact ⟨(fun cs b q => by cases q), .inl ⟨rfl, rfl, (fun _ _ _ q => by cases q), .pointer (some ⟨g, o + r, none⟩), (fun u hu _ => by have hD := cD u hu; have hG := cG u hu; clear ih' ih H; go_simp), fun k hk => by cases hk; rfl⟩⟩
          | 7, _ =>
            simp only [List.getElem?_toArray, List.getElem?_cons_succ, List.getElem?_cons_zero, Nat.reduceAdd] at ho
            obtain rfl := Option.some.inj ho
            exact ⟨(fun cs b q => by cases q), .inl ⟨rfl, rfl, (fun _ _ _ q => by cases q), .int .i64 (r : Int), (fun u hu _ => by have hD := cD u hu; have hG := cG u hu; clear ih' ih H; go_simp), fun k hk => by cases hk; rfl⟩⟩
          | 8, _ =>
            simp only [List.getElem?_toArray, List.getElem?_cons_succ, List.getElem?_cons_zero, Nat.reduceAdd] at ho
            obtain rfl := Option.some.inj ho
            exact ⟨(fun cs b q => by cases q), .inl ⟨rfl, rfl, (fun _ _ _ q => by cases q), .slice (some ⟨g, o, none⟩) (r + 1) k, (fun u hu _ => by have hD := cD u hu; have hG := cG u hu; clear ih' ih H; go_simp), fun k hk => by cases hk; rfl⟩⟩
          | 9, _ =>
            simp only [List.getElem?_toArray, List.getElem?_cons_succ, List.getElem?_cons_zero, Nat.reduceAdd] at ho
            obtain rfl := Option.some.inj ho
            exact ⟨(fun cs b q => by cases q), .inl ⟨rfl, rfl, (fun v ρ f q => by rw [about_builtin rfl] at q; cases q), .int .i64 ((r : Int) + 1), (fun u hu _ => by have hD := cD u hu; have hG := cG u hu; clear ih' ih H; go_simp), fun k hk => by cases hk; rfl⟩⟩
          | 10, _ =>
            simp only [List.getElem?_toArray, List.getElem?_cons_succ, List.getElem?_cons_zero, Nat.reduceAdd] at ho
            obtain rfl := Option.some.inj ho
            exact ⟨(fun cs b q => by cases q), .inl ⟨rfl, rfl, (fun _ _ _ q => by cases q), .int .i64 (r : Int), (fun u hu _ => by have hD := cD u hu; have hG := cG u hu; clear ih' ih H; go_simp), fun k hk => by cases hk; rfl⟩⟩
          | 11, _ =>
            simp only [List.getElem?_toArray, List.getElem?_cons_succ, List.getElem?_cons_zero, Nat.reduceAdd] at ho
            obtain rfl := Option.some.inj ho
            exact ⟨(fun cs b q => by cases q), .inl ⟨rfl, rfl, (fun _ _ _ q => by cases q), .bool true, (fun u hu _ => by have hD := cD u hu; have hG := cG u hu; clear ih' ih H; go_simp), fun k hk => by cases hk; rfl⟩⟩
          | 12, _ =>
            simp only [List.getElem?_toArray, List.getElem?_cons_succ, List.getElem?_cons_zero, Nat.reduceAdd] at ho
            obtain rfl := Option.some.inj ho
            exact ⟨(fun cs b q => by cases q), .inl ⟨rfl, rfl, (fun _ _ _ q => by cases q), .bool true, (fun u hu _ => by have hD := cD u hu; have hG := cG u hu; clear ih' ih H; go_simp), fun k hk => by cases hk; rfl⟩⟩
          | 13, _ =>
            simp only [List.getElem?_toArray, List.getElem?_cons_succ, List.getElem?_cons_zero, Nat.reduceAdd] at ho
            obtain rfl := Option.some.inj ho
            exact ⟨(fun cs b q => by cases q), .inl ⟨rfl, rfl, (fun _ _ _ q => by cases q), .bool true, (fun u hu _ => by have hD := cD u hu; have hG := cG u hu; clear ih' ih H; go_simp), fun k hk => by cases hk; rfl⟩⟩
      · dsimp only
        repeat (first | refine Run.auto rfl ?_ | ((first | (apply Run.lq rfl rfl rfl rfl; (focus (intro w K hK; go_simp; exact hK))) | (refine Run.ln rfl rfl rfl rfl rfl (by kernel_rfl) ?_) | (refine Run.not rfl rfl ?_)); try simp only [Act.put, Act.eval, nrmL, Nat.reduceAdd]) | (refine Run.rg ?_; simp only [nrmL, rngL, Nat.reduceAdd]) | refine Run.cT rfl ?_ | refine Run.cF rfl ?_ | refine Run.rt ?_ | refine Run.nd ?_)
        refine Run.ctl (fun _ => stepG_inLoop) rfl ?_
        exact ih' Z1 w1 s1 _ _ _ _ _ _ _ _ _ _ _ _ _ _ _ _ _ _ _ _ _ _ _ _ _ _ _ _ _ _ _ _ _ _ _ _ _ _ _ _ _ _ _ _ _ _ _ _ _ _ _ _ _ _ _ _ _ _ (by omega) K1 ha1' (hL1.fdo.trans hdo) L1
end
end Go.Proofs.Ytfpkachoneaaeaa
