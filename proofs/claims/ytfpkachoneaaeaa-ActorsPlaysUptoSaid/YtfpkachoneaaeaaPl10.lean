/-
  plays, piece by piece: its calls are compared.
-/
import Derived.Test.YtfpkachoneaaeaaPl3
set_option linter.unusedSimpArgs false
set_option linter.unusedVariables false
namespace Go.Proofs.Ytfpkachoneaaeaa
open Go Go.Conc Go.RowKit
section
variable {Post : Value → World → Prop} {stk : List Frame} {w0 : World} {S0 D p : Nat} {SA : Option Addr} {N sc j : Nat} {A : Option Addr} {m ac : Nat} {st : Bool} {a : Ab} {ds : List (Int × ByteArray)} {T : Nat} {kd id : Int} {IA : Option Addr} {ic : Nat} {bs : List UInt8} {Z : Scene} {n : Nat} {w : World} {s : Sy} {col : Nat → Nat × Int} {l : List Bx}
set_option maxRecDepth 50000 in
set_option maxHeartbeats 4000000 in
theorem pl_r30 {J : Nat} {LA : Option Addr} {lc : Nat} {inp : Option Addr × Nat × Nat × List Value} (Y : Ply w0 Z n w S0 D p A m ac st a ds [(T, 64, #[.int .i64 kd, .int .i64 id, .slice IA bs.length ic])] inp s col l) (hD : Blk w D 24 #[.slice LA m lc]) (hf : Fine a J) (hJ : J ≤ 2000000000) :
    ∀ (kk : List Item) (v2 v3 v4 v5 v6 v9 v11 v12 v13 v14 v15 v16 v17 v18 v22 v23 v24 v25 v26 v27 v28 v29 v30 v31 v32 v33 v34 v35 v36 v37 v38 v39 v40 v41 v42 v43 v44 v45 v46 v47 v48 v49 v50 v51 v52 v53 v54 v55 v56 v57 v58 v59 v60 v61 v62 v63 v64 v65 v66 v67 v68 v69 v70 v71 v72 v73 v74 v75 v76 v77 v78 v79 v80 v81 v82 v83 v84 v85 v86 v87 v88 v89 v90 v91 v92 v93 v94 v95 v96 v97 v98 v99 v100 v101 v102 v103 v104 v105 v106 v107 v108 v109 v110 v111 v112 v113 v114 v115 v116 v117 v118 v119 v120 v121 v122 v123 v124 v125 v126 v127 v128 v129 v130 v131 v132 v133 v134 v135 : Value) (H : ∀ w' col' A1 c1 A2 c2, Ply w0 Z n w' S0 D p A m ac st a ds [(T, 64, #[.int .i64 kd, .int .i64 id, .slice IA bs.length ic])] inp s col' l → Blk w' D 24 #[.slice LA m lc] → Run Try.prog Post Z n 0 0 (G ((base 9).at ⟨#[.pointer (some ⟨S0, 0, none⟩), .pointer (some ⟨D, 0, none⟩), v2, v3, v4, v5, v6, .pointer (some ⟨p, 0, none⟩), .slice A m ac, v9, .pointer (some ⟨T, 0, none⟩), v11, v12, v13, v14, v15, v16, v17, v18, .slice SA N sc, .int .i64 (N : Int), .int .i64 (j : Int), v22, v23, v24, v25, v26, v27, v28, v29, v30, v31, v32, v33, v34, v35, v36, v37, v38, v39, v40, v41, v42, v43, v44, v45, v46, v47, v48, v49, v50, v51, v52, v53, v54, v55, v56, v57, v58, v59, v60, v61, v62, v63, v64, v65, v66, v67, v68, v69, v70, v71, v72, v73, v74, v75, v76, v77, v78, v79, v80, v81, v82, v83, v84, v85, v86, v87, v88, v89, v90, v91, .pointer (some ⟨S0, 0, none⟩), .pointer (some ⟨T, 1, none⟩), .int .i64 id, .int .i64 (lenA a id : Int), .pointer (some ⟨p, 0, none⟩), .pointer (some ⟨T, 1, none⟩), .int .i64 id, .int .i64 (lenA a id : Int), .bool false, .bool false, .pointer (some ⟨S0, 0, none⟩), .slice A1 (runA a).length c1, .pointer (some ⟨p, 0, none⟩), .slice A2 (runA a).length c2, .bool true, .bool false, .bool false, .bool false, .pointer (some ⟨D, 0, none⟩), .pointer (some ⟨D, 0, none⟩), .slice LA m lc, .int .i64 (m : Int), .slice A m ac, .int .i64 (m : Int), .bool false, .bool false, v118, v119, v120, v121, v122, v123, v124, v125, v126, v127, v128, v129, v130, v131, v132, v133, v134, v135], []⟩ kk) stk) w'),
    Run Try.prog Post Z n 0 0 (G ((base 9).at ⟨#[.pointer (some ⟨S0, 0, none⟩), .pointer (some ⟨D, 0, none⟩), v2, v3, v4, v5, v6, .pointer (some ⟨p, 0, none⟩), .slice A m ac, v9, .pointer (some ⟨T, 0, none⟩), v11, v12, v13, v14, v15, v16, v17, v18, .slice SA N sc, .int .i64 (N : Int), .int .i64 (j : Int), v22, v23, v24, v25, v26, v27, v28, v29, v30, v31, v32, v33, v34, v35, v36, v37, v38, v39, v40, v41, v42, v43, v44, v45, v46, v47, v48, v49, v50, v51, v52, v53, v54, v55, v56, v57, v58, v59, v60, v61, v62, v63, v64, v65, v66, v67, v68, v69, v70, v71, v72, v73, v74, v75, v76, v77, v78, v79, v80, v81, v82, v83, v84, v85, v86, v87, v88, v89, v90, v91, v92, v93, v94, v95, v96, v97, v98, v99, v100, v101, v102, v103, v104, v105, v106, v107, v108, v109, v110, v111, v112, v113, v114, v115, v116, v117, v118, v119, v120, v121, v122, v123, v124, v125, v126, v127, v128, v129, v130, v131, v132, v133, v134, v135], []⟩ (.code plR30 :: kk)) stk) w := by
  intro kk v2 v3 v4 v5 v6 v9 v11 v12 v13 v14 v15 v16 v17 v18 v22 v23 v24 v25 v26 v27 v28 v29 v30 v31 v32 v33 v34 v35 v36 v37 v38 v39 v40 v41 v42 v43 v44 v45 v46 v47 v48 v49 v50 v51 v52 v53 v54 v55 v56 v57 v58 v59 v60 v61 v62 v63 v64 v65 v66 v67 v68 v69 v70 v71 v72 v73 v74 v75 v76 v77 v78 v79 v80 v81 v82 v83 v84 v85 v86 v87 v88 v89 v90 v91 v92 v93 v94 v95 v96 v97 v98 v99 v100 v101 v102 v103 v104 v105 v106 v107 v108 v109 v110 v111 v112 v113 v114 v115 v116 v117 v118 v119 v120 v121 v122 v123 v124 v125 v126 v127 v128 v129 v130 v131 v132 v133 v134 v135 H
  have hab := Y.abs
  have hag := Y.ag
  have hst := Y.st
  have P0 := Y.P
  have hS := Y.S
  subst hS
  unfold plR30 plChk plB1 plL1
  simp only [Try.f9, Option.getD_some]
  refine Run.many theEnv (fun x : (Option Addr × Nat) × (Option Addr × Nat) => ⟨#[.pointer (some ⟨s.S, 0, none⟩), .pointer (some ⟨D, 0, none⟩), v2, v3, v4, v5, v6, .pointer (some ⟨p, 0, none⟩), .slice A m ac, v9, .pointer (some ⟨T, 0, none⟩), v11, v12, v13, v14, v15, v16, v17, v18, .slice SA N sc, .int .i64 (N : Int), .int .i64 (j : Int), v22, v23, v24, v25, v26, v27, v28, v29, v30, v31, v32, v33, v34, v35, v36, v37, v38, v39, v40, v41, v42, v43, v44, v45, v46, v47, v48, v49, v50, v51, v52, v53, v54, v55, v56, v57, v58, v59, v60, v61, v62, v63, v64, v65, v66, v67, v68, v69, v70, v71, v72, v73, v74, v75, v76, v77, v78, v79, v80, v81, v82, v83, v84, v85, v86, v87, v88, v89, v90, v91, .pointer (some ⟨s.S, 0, none⟩), .pointer (some ⟨T, 1, none⟩), .int .i64 id, .int .i64 (lenA a id : Int), .pointer (some ⟨p, 0, none⟩), .pointer (some ⟨T, 1, none⟩), .int .i64 id, .int .i64 (lenA a id : Int), .bool false, .bool false, .pointer (some ⟨s.S, 0, none⟩), .slice x.1.1 (runA a).length x.1.2, .pointer (some ⟨p, 0, none⟩), .slice x.2.1 (runA a).length x.2.2, .bool true, .bool false, .bool false, .bool false, .pointer (some ⟨D, 0, none⟩), .pointer (some ⟨D, 0, none⟩), .slice LA m lc, .int .i64 (m : Int), .slice A m ac, .int .i64 (m : Int), .bool false, .bool false, v118, v119, v120, v121, v122, v123, v124, v125, v126, v127, v128, v129, v130, v131, v132, v133, v134, v135], []⟩) [] 136 (fun L x Z' n' w' => Z' = Z ∧ n' = n ∧ ∃ col', Pst w0 Z n w' s col' D p A ac m m (didV ds) (didV ds) l st [(T, 64, #[.int .i64 kd, .int .i64 id, .slice IA bs.length ic])] inp ∧ Blk w' D 24 #[.slice LA m lc] ∧ (L 11 = true → Rd w' (fun k => s.own k = (0, 0) ∧ ¬ Z.Hd k) x.1.1 (ivs (runA a))) ∧ (L 13 = true → Rd w' (fun k => s.own k = (0, 0) ∧ ¬ Z.Hd k) x.2.1 (ivs (runA a))))
    (by decide) (by kernel_rfl) (by kernel_rfl) (fun _ => rfl) (by kernel_rfl) (by kernel_rfl) ((none, 0), (none, 0)) (Ag.start 92 118 136 (by kernel_rfl) (by kernel_rfl) rfl rfl rfl (by kernel_rfl)) ⟨rfl, rfl, col, P0, hD, fun q => (by cases q), fun q => (by cases q)⟩ ?_ ?_
  · rintro L i o x Z1 n1 w1 ho hL hneed hclo ⟨rfl, rfl, col1, P1, hD1, hR1, hR2⟩
    have h26 : i < 26 := (Array.getElem?_eq_some_iff.1 ho).1
    obtain ⟨hBT, hcT⟩ := P1.X _ (.head _)
    have hsT := P1.sp T hBT.lt (by rw [hcT]; decide)
    have hcD : col1 D = (1, 0) := P1.L.mem
    have hsD := P1.sp D hD1.lt (by rw [hcD]; decide)
    have c1 : ∀ u, Kept Z1.Hd w1 u → u.cell? ⟨T, 1, none⟩ = some (.int .i64 id) := fun u hu => (hu.cell (p := ⟨T, 1, none⟩) hBT.lt hsT.2.2.1).trans (hBT.cell 1)
    have cD : ∀ u, Kept Z1.Hd w1 u → u.cell? ⟨D, 0, none⟩ = some (.slice LA m lc) := fun u hu => (hu.cell (p := ⟨D, 0, none⟩) hD1.lt hsD.2.2.1).trans (hD1.cell 0)
    have hDo : ∀ {w2}, Kept (fun k => s.own k ≠ (0, 0)) w1 w2 → Blk w2 D 24 #[.slice LA m lc] := fun k2 => hD1.keep k2 fun q => q hsD.2.1
    have hRo : ∀ {w2 B}, Kept (fun k => s.own k ≠ (0, 0)) w1 w2 → Rd w1 (fun k => s.own k = (0, 0) ∧ ¬ Z1.Hd k) B (ivs (runA a)) → Rd w2 (fun k => s.own k = (0, 0) ∧ ¬ Z1.Hd k) B (ivs (runA a)) := fun k2 h => h.keep k2 fun k _ q r => r q.1
    have hno : ∀ {w2}, Kept noneS w1 w2 → Kept (fun k => s.own k ≠ (0, 0)) w1 w2 := fun k2 => k2.mono fun _ _ q => q.elim
    clear hBT hcT hsT
    match i, h26 with
    | 0, _ =>
      simp only [List.getElem?_toArray, List.getElem?_cons_succ, List.getElem?_cons_zero, Nat.reduceAdd] at ho
      obtain rfl := Option.some.inj ho
      exact .inl ⟨⟨(fun cs b q => by cases q), .inl ⟨rfl, rfl, (fun _ _ _ q => by cases q), .pointer (some ⟨s.S, 0, none⟩), (fun u hu _ => by clear H Y hclo hneed hL P1 hD1 hR1 hR2; go_simp), fun k hk => by cases hk; rfl⟩⟩, ⟨rfl, rfl, col1, P1, hD1, hR1, hR2⟩⟩
    | 1, _ =>
      simp only [List.getElem?_toArray, List.getElem?_cons_succ, List.getElem?_cons_zero, Nat.reduceAdd] at ho
      obtain rfl := Option.some.inj ho
      exact .inl ⟨⟨(fun cs b q => by cases q), .inl ⟨rfl, rfl, (fun _ _ _ q => by cases q), .pointer (some ⟨T, 1, none⟩), (fun u hu _ => by clear H Y hclo hneed hL P1 hD1 hR1 hR2; go_simp), fun k hk => by cases hk; rfl⟩⟩, ⟨rfl, rfl, col1, P1, hD1, hR1, hR2⟩⟩
    | 2, _ =>
      simp only [List.getElem?_toArray, List.getElem?_cons_succ, List.getElem?_cons_zero, Nat.reduceAdd] at ho
      obtain rfl := Option.some.inj ho
      exact .inl ⟨⟨(fun cs b q => by cases q), .inl ⟨rfl, rfl, (fun _ _ _ q => by cases q), .int .i64 id, (fun u hu _ => by have hc := c1 u hu; clear H Y hclo hneed hL P1 hD1 hR1 hR2; go_simp), fun k hk => by cases hk; rfl⟩⟩, ⟨rfl, rfl, col1, P1, hD1, hR1, hR2⟩⟩
    | 3, _ =>
      simp only [List.getElem?_toArray, List.getElem?_cons_succ, List.getElem?_cons_zero, Nat.reduceAdd] at ho
      obtain rfl := Option.some.inj ho
      refine .inr ⟨_, _, _, _, _, rfl, Try.func18, by kernel_rfl, rfl, rfl, fun c0 cs cont => ?_⟩
      simp only [Act.eval, nrmL, Nat.reduceAdd]
      clear H hclo hneed c1 cD
      refine cli_waiting P1.K id fun w2 K2 k2 => ?_
      rw [hab]
      exact cont x _ _ w2 _ ⟨rfl, rfl, _, P1.went K2 (Left2.refl _ _ _) k2, hDo k2, fun q => hRo k2 (hR1 q), fun q => hRo k2 (hR2 q)⟩ rfl
    | 4, _ =>
      simp only [List.getElem?_toArray, List.getElem?_cons_succ, List.getElem?_cons_zero, Nat.reduceAdd] at ho
      obtain rfl := Option.some.inj ho
      exact .inl ⟨⟨(fun cs b q => by cases q), .inl ⟨rfl, rfl, (fun _ _ _ q => by cases q), .pointer (some ⟨p, 0, none⟩), (fun u hu _ => by clear H Y hclo hneed hL P1 hD1 hR1 hR2; go_simp), fun k hk => by cases hk; rfl⟩⟩, ⟨rfl, rfl, col1, P1, hD1, hR1, hR2⟩⟩
    | 5, _ =>
      simp only [List.getElem?_toArray, List.getElem?_cons_succ, List.getElem?_cons_zero, Nat.reduceAdd] at ho
      obtain rfl := Option.some.inj ho
      exact .inl ⟨⟨(fun cs b q => by cases q), .inl ⟨rfl, rfl, (fun _ _ _ q => by cases q), .pointer (some ⟨T, 1, none⟩), (fun u hu _ => by clear H Y hclo hneed hL P1 hD1 hR1 hR2; go_simp), fun k hk => by cases hk; rfl⟩⟩, ⟨rfl, rfl, col1, P1, hD1, hR1, hR2⟩⟩
    | 6, _ =>
      simp only [List.getElem?_toArray, List.getElem?_cons_succ, List.getElem?_cons_zero, Nat.reduceAdd] at ho
      obtain rfl := Option.some.inj ho
      exact .inl ⟨⟨(fun cs b q => by cases q), .inl ⟨rfl, rfl, (fun _ _ _ q => by cases q), .int .i64 id, (fun u hu _ => by have hc := c1 u hu; clear H Y hclo hneed hL P1 hD1 hR1 hR2; go_simp), fun k hk => by cases hk; rfl⟩⟩, ⟨rfl, rfl, col1, P1, hD1, hR1, hR2⟩⟩
    | 7, _ =>
      simp only [List.getElem?_toArray, List.getElem?_cons_succ, List.getElem?_cons_zero, Nat.reduceAdd] at ho
      obtain rfl := Option.some.inj ho
      refine .inr ⟨_, _, _, _, _, rfl, Try.func22, by kernel_rfl, rfl, rfl, fun c0 cs cont => ?_⟩
      simp only [Act.eval, nrmL, Nat.reduceAdd]
      clear H hclo hneed c1 cD
      refine rf_waiting P1.R (fun k hk h3 => (P1.hv k hk h3).1) id fun w2 k2 => ?_
      rw [← hag.len]
      exact cont x _ _ w2 _ ⟨rfl, rfl, _, P1.more k2, hDo (hno k2), fun q => hRo (hno k2) (hR1 q), fun q => hRo (hno k2) (hR2 q)⟩ rfl
    | 8, _ =>
      simp only [List.getElem?_toArray, List.getElem?_cons_succ, List.getElem?_cons_zero, Nat.reduceAdd] at ho
      obtain rfl := Option.some.inj ho
      exact .inl ⟨⟨(fun cs b q => by cases q), .inl ⟨rfl, rfl, (fun _ _ _ q => by cases q), .bool false, (fun u hu _ => by clear H Y hclo hneed hL P1 hD1 hR1 hR2; go_simp), fun k hk => by cases hk; rfl⟩⟩, ⟨rfl, rfl, col1, P1, hD1, hR1, hR2⟩⟩
    | 9, _ =>
      simp only [List.getElem?_toArray, List.getElem?_cons_succ, List.getElem?_cons_zero, Nat.reduceAdd] at ho
      obtain rfl := Option.some.inj ho
      exact .inl ⟨⟨(fun cs b q => by cases q), .inl ⟨rfl, rfl, (fun _ _ _ q => by cases q), .bool false, (fun u hu _ => by clear H Y hclo hneed hL P1 hD1 hR1 hR2; go_simp), fun k hk => by cases hk; rfl⟩⟩, ⟨rfl, rfl, col1, P1, hD1, hR1, hR2⟩⟩
    | 10, _ =>
      simp only [List.getElem?_toArray, List.getElem?_cons_succ, List.getElem?_cons_zero, Nat.reduceAdd] at ho
      obtain rfl := Option.some.inj ho
      exact .inl ⟨⟨(fun cs b q => by cases q), .inl ⟨rfl, rfl, (fun _ _ _ q => by cases q), .pointer (some ⟨s.S, 0, none⟩), (fun u hu _ => by clear H Y hclo hneed hL P1 hD1 hR1 hR2; go_simp), fun k hk => by cases hk; rfl⟩⟩, ⟨rfl, rfl, col1, P1, hD1, hR1, hR2⟩⟩
    | 11, _ =>
      simp only [List.getElem?_toArray, List.getElem?_cons_succ, List.getElem?_cons_zero, Nat.reduceAdd] at ho
      obtain rfl := Option.some.inj ho
      refine .inr ⟨_, _, _, _, _, rfl, Try.func11, by kernel_rfl, rfl, rfl, fun c0 cs cont => ?_⟩
      simp only [Act.eval, nrmL, Nat.reduceAdd]
      clear H hclo hneed c1 cD
      refine Run.okG fun hok1 => ?_
      refine cli_runnable P1.K (by rw [hab]; exact hf.wf) (by rw [hab]; exact Nat.le_trans hf.len hJ) fun A1 c1 w2 K2 k2 hS2 => ?_
      rw [hab] at hS2 ⊢
      exact cont ((A1, c1), x.2) _ _ w2 _ ⟨rfl, rfl, _, P1.went K2 (Left2.refl _ _ _) k2, hDo k2, fun _ => hS2.rd.mono fun k _ q => ⟨P1.K.rep.fresh k q, hok1.fresh q⟩, fun q => hRo k2 (hR2 q)⟩ rfl
    | 12, _ =>
      simp only [List.getElem?_toArray, List.getElem?_cons_succ, List.getElem?_cons_zero, Nat.reduceAdd] at ho
      obtain rfl := Option.some.inj ho
      exact .inl ⟨⟨(fun cs b q => by cases q), .inl ⟨rfl, rfl, (fun _ _ _ q => by cases q), .pointer (some ⟨p, 0, none⟩), (fun u hu _ => by clear H Y hclo hneed hL P1 hD1 hR1 hR2; go_simp), fun k hk => by cases hk; rfl⟩⟩, ⟨rfl, rfl, col1, P1, hD1, hR1, hR2⟩⟩
    | 13, _ =>
      simp only [List.getElem?_toArray, List.getElem?_cons_succ, List.getElem?_cons_zero, Nat.reduceAdd] at ho
      obtain rfl := Option.some.inj ho
      refine .inr ⟨_, _, _, _, _, rfl, Try.func23, by kernel_rfl, rfl, rfl, fun c0 cs cont => ?_⟩
      simp only [Act.eval, nrmL, Nat.reduceAdd]
      clear H hclo hneed c1 cD
      refine Run.okG fun hok1 => ?_
      refine rf_runnable P1.R (fun k hk h3 => (P1.hv k hk h3).1) fun A2 c2 w2 k2 hS2 => ?_
      rw [← hag.run] at hS2 ⊢
      exact cont (x.1, (A2, c2)) _ _ w2 _ ⟨rfl, rfl, _, P1.more k2, hDo (hno k2), fun q => hRo (hno k2) (hR1 q), fun _ => hS2.rd.mono fun k _ q => ⟨P1.K.rep.fresh k q, hok1.fresh q⟩⟩ rfl
    | 14, _ =>
      simp only [List.getElem?_toArray, List.getElem?_cons_succ, List.getElem?_cons_zero, Nat.reduceAdd] at ho
      obtain rfl := Option.some.inj ho
      refine .inr ⟨_, _, _, _, _, rfl, Try.func17, by kernel_rfl, rfl, rfl, fun c0 cs cont => ?_⟩
      simp only [Act.eval, nrmL, Nat.reduceAdd]
      have h11 : L 11 = true := hneed 11 (List.elem_iff.1 (by kernel_rfl))
      have h13 : L 13 = true := hneed 13 (List.elem_iff.1 (by kernel_rfl))
      clear H hclo hneed c1 cD
      have hll : (runA a).length ≤ 140737488351232 := by have := runA_len a; have := hf.len; omega
      refine same_run (xs := runA a) (ys := runA a) (hR1 h11) (hR2 h13) (fun k _ q => q.2) (fun k _ q => q.2) hll hll fun w2 k2 => ?_
      rw [beq_self_eq_true]
      exact cont x _ _ w2 _ ⟨rfl, rfl, _, P1.more k2, hDo (hno k2), fun q => hRo (hno k2) (hR1 q), fun q => hRo (hno k2) (hR2 q)⟩ rfl
    | 15, _ =>
      simp only [List.getElem?_toArray, List.getElem?_cons_succ, List.getElem?_cons_zero, Nat.reduceAdd] at ho
      obtain rfl := Option.some.inj ho
      exact .inl ⟨⟨(fun cs b q => by cases q), .inl ⟨rfl, rfl, (fun _ _ _ q => by cases q), .bool false, (fun u hu _ => by clear H Y hclo hneed hL P1 hD1 hR1 hR2; go_simp), fun k hk => by cases hk; rfl⟩⟩, ⟨rfl, rfl, col1, P1, hD1, hR1, hR2⟩⟩
    | 16, _ =>
      simp only [List.getElem?_toArray, List.getElem?_cons_succ, List.getElem?_cons_zero, Nat.reduceAdd] at ho
      obtain rfl := Option.some.inj ho
      exact .inl ⟨⟨(fun cs b q => by cases q), .inl ⟨rfl, rfl, (fun _ _ _ q => by cases q), .bool false, (fun u hu _ => by clear H Y hclo hneed hL P1 hD1 hR1 hR2; go_simp), fun k hk => by cases hk; rfl⟩⟩, ⟨rfl, rfl, col1, P1, hD1, hR1, hR2⟩⟩
    | 17, _ =>
      simp only [List.getElem?_toArray, List.getElem?_cons_succ, List.getElem?_cons_zero, Nat.reduceAdd] at ho
      obtain rfl := Option.some.inj ho
      exact .inl ⟨⟨(fun cs b q => by cases q), .inl ⟨rfl, rfl, (fun _ _ _ q => by cases q), .bool false, (fun u hu _ => by clear H Y hclo hneed hL P1 hD1 hR1 hR2; go_simp), fun k hk => by cases hk; rfl⟩⟩, ⟨rfl, rfl, col1, P1, hD1, hR1, hR2⟩⟩
    | 18, _ =>
      simp only [List.getElem?_toArray, List.getElem?_cons_succ, List.getElem?_cons_zero, Nat.reduceAdd] at ho
      obtain rfl := Option.some.inj ho
      exact .inl ⟨⟨(fun cs b q => by cases q), .inl ⟨rfl, rfl, (fun _ _ _ q => by cases q), .pointer (some ⟨D, 0, none⟩), (fun u hu _ => by clear H Y hclo hneed hL P1 hD1 hR1 hR2; go_simp), fun k hk => by cases hk; rfl⟩⟩, ⟨rfl, rfl, col1, P1, hD1, hR1, hR2⟩⟩
    | 19, _ =>
      simp only [List.getElem?_toArray, List.getElem?_cons_succ, List.getElem?_cons_zero, Nat.reduceAdd] at ho
      obtain rfl := Option.some.inj ho
      exact .inl ⟨⟨(fun cs b q => by cases q), .inl ⟨rfl, rfl, (fun _ _ _ q => by cases q), .pointer (some ⟨D, 0, none⟩), (fun u hu _ => by clear H Y hclo hneed hL P1 hD1 hR1 hR2; go_simp), fun k hk => by cases hk; rfl⟩⟩, ⟨rfl, rfl, col1, P1, hD1, hR1, hR2⟩⟩
    | 20, _ =>
      simp only [List.getElem?_toArray, List.getElem?_cons_succ, List.getElem?_cons_zero, Nat.reduceAdd] at ho
      obtain rfl := Option.some.inj ho
      exact .inl ⟨⟨(fun cs b q => by cases q), .inl ⟨rfl, rfl, (fun _ _ _ q => by cases q), .slice LA m lc, (fun u hu _ => by have hc := cD u hu; clear H Y hclo hneed hL P1 hD1 hR1 hR2; go_simp), fun k hk => by cases hk; rfl⟩⟩, ⟨rfl, rfl, col1, P1, hD1, hR1, hR2⟩⟩
    | 21, _ =>
      simp only [List.getElem?_toArray, List.getElem?_cons_succ, List.getElem?_cons_zero, Nat.reduceAdd] at ho
      obtain rfl := Option.some.inj ho
      exact .inl ⟨⟨(fun cs b q => by cases q), .inl ⟨rfl, rfl, (fun v ρ f q => by rw [about_builtin rfl] at q; cases q), .int .i64 (m : Int), (fun u hu _ => by clear H Y hclo hneed hL P1 hD1 hR1 hR2; go_simp), fun k hk => by cases hk; rfl⟩⟩, ⟨rfl, rfl, col1, P1, hD1, hR1, hR2⟩⟩
    | 22, _ =>
      simp only [List.getElem?_toArray, List.getElem?_cons_succ, List.getElem?_cons_zero, Nat.reduceAdd] at ho
      obtain rfl := Option.some.inj ho
      exact .inl ⟨⟨(fun cs b q => by cases q), .inl ⟨rfl, rfl, (fun _ _ _ q => by cases q), .slice A m ac, (fun u hu _ => by clear H Y hclo hneed hL P1 hD1 hR1 hR2; go_simp), fun k hk => by cases hk; rfl⟩⟩, ⟨rfl, rfl, col1, P1, hD1, hR1, hR2⟩⟩
    | 23, _ =>
      simp only [List.getElem?_toArray, List.getElem?_cons_succ, List.getElem?_cons_zero, Nat.reduceAdd] at ho
      obtain rfl := Option.some.inj ho
      exact .inl ⟨⟨(fun cs b q => by cases q), .inl ⟨rfl, rfl, (fun v ρ f q => by rw [about_builtin rfl] at q; cases q), .int .i64 (m : Int), (fun u hu _ => by clear H Y hclo hneed hL P1 hD1 hR1 hR2; go_simp), fun k hk => by cases hk; rfl⟩⟩, ⟨rfl, rfl, col1, P1, hD1, hR1, hR2⟩⟩
    | 24, _ =>
      simp only [List.getElem?_toArray, List.getElem?_cons_succ, List.getElem?_cons_zero, Nat.reduceAdd] at ho
      obtain rfl := Option.some.inj ho
      exact .inl ⟨⟨(fun cs b q => by cases q), .inl ⟨rfl, rfl, (fun _ _ _ q => by cases q), .bool false, (fun u hu _ => by clear H Y hclo hneed hL P1 hD1 hR1 hR2; go_simp), fun k hk => by cases hk; rfl⟩⟩, ⟨rfl, rfl, col1, P1, hD1, hR1, hR2⟩⟩
    | 25, _ =>
      simp only [List.getElem?_toArray, List.getElem?_cons_succ, List.getElem?_cons_zero, Nat.reduceAdd] at ho
      obtain rfl := Option.some.inj ho
      exact .inl ⟨⟨(fun cs b q => by cases q), .inl ⟨rfl, rfl, (fun _ _ _ q => by cases q), .bool false, (fun u hu _ => by clear H Y hclo hneed hL P1 hD1 hR1 hR2; go_simp), fun k hk => by cases hk; rfl⟩⟩, ⟨rfl, rfl, col1, P1, hD1, hR1, hR2⟩⟩
    | q + 26, hq => exact absurd hq (by omega)
  · rintro L x Z1 n1 w1 hall ⟨rfl, rfl, col1, P1, hD1, _, _⟩
    exact H w1 col1 x.1.1 x.1.2 x.2.1 x.2.2 ⟨P1, rfl, hst, hab, hag⟩ hD1
end
end Go.Proofs.Ytfpkachoneaaeaa
namespace Go.Proofs.Ytfpkachoneaaeaa
open Go Go.Conc Go.RowKit
theorem Rd.did {w : World} {F : Nat → Prop} {A : Option Addr} {ds : List (Int × ByteArray)} (h : Rd w F A (didV ds)) {i : Nat} (hi : i < ds.length) :
    ∃ g o, A = some ⟨g, o, none⟩ ∧ F g ∧ g < w.heap.size ∧ w.cell? ⟨g, o + i * 2, none⟩ = some (.int .i64 ds[i].1) ∧ w.cell? ⟨g, o + i * 2 + 1, none⟩ = some (.string ds[i].2) := by
  rcases h with h | ⟨g, o, hA, hF, hc⟩
  · have := congrArg List.length h
    rw [didV_len] at this
    simp at this
    omega
  · have h0 := hc _ _ (didV_0 hi)
    have := lt_of_cell h0
    exact ⟨g, o, hA, hF, by simpa using this, h0, by have := hc _ _ (didV_1 hi); rw [← Nat.add_assoc] at this; exact this⟩
section
variable {Post : Value → World → Prop} {stk : List Frame} {w0 : World} {S0 D p : Nat} {SA : Option Addr} {N sc j : Nat} {A : Option Addr} {m ac : Nat} {st : Bool} {a : Ab} {ds : List (Int × ByteArray)} {T : Nat} {kd id : Int} {IA : Option Addr} {ic : Nat} {bs : List UInt8} {Z : Scene} {n : Nat} {w : World} {s : Sy} {col : Nat → Nat × Int} {l : List Bx}
set_option maxRecDepth 50000 in
set_option maxHeartbeats 4000000 in
theorem pl_loop3 {inp : Option Addr × Nat × Nat × List Value} (hm : m < 2000000000) (Y : Ply w0 Z n w S0 D p A m ac st a ds [(T, 64, #[.int .i64 kd, .int .i64 id, .slice IA bs.length ic])] inp s col l) {kk : List Item} (H : ∀ x', Live x' S0 D p SA N sc A m ac j (.pointer (some ⟨T, 0, none⟩)) → Run Try.prog Post Z n 0 0 (G ((base 9).at x' kk) stk) w) :
    ∀ (jj i : Nat) (v2 v3 v4 v5 v6 v9 v11 v12 v13 v14 v15 v16 v17 v18 v22 v23 v24 v25 v26 v27 v28 v29 v30 v31 v32 v33 v34 v35 v36 v37 v38 v39 v40 v41 v42 v43 v44 v45 v46 v47 v48 v49 v50 v51 v52 v53 v54 v55 v56 v57 v58 v59 v60 v61 v62 v63 v64 v65 v66 v67 v68 v69 v70 v71 v72 v73 v74 v75 v76 v77 v78 v79 v80 v81 v82 v83 v84 v85 v86 v87 v88 v89 v90 v91 v92 v93 v94 v95 v96 v97 v98 v99 v100 v101 v102 v103 v104 v105 v106 v107 v108 v109 v110 v111 v112 v113 v114 v115 v116 v117 v118 v121 v122 v123 v124 v125 v126 v127 v128 v129 v130 v131 v132 v133 v134 v135 : Value), jj + i = m → Run Try.prog Post Z n 0 0 (G ((base 9).at ⟨#[.pointer (some ⟨S0, 0, none⟩), .pointer (some ⟨D, 0, none⟩), v2, v3, v4, v5, v6, .pointer (some ⟨p, 0, none⟩), .slice A m ac, v9, .pointer (some ⟨T, 0, none⟩), v11, v12, v13, v14, v15, v16, v17, v18, .slice SA N sc, .int .i64 (N : Int), .int .i64 (j : Int), v22, v23, v24, v25, v26, v27, v28, v29, v30, v31, v32, v33, v34, v35, v36, v37, v38, v39, v40, v41, v42, v43, v44, v45, v46, v47, v48, v49, v50, v51, v52, v53, v54, v55, v56, v57, v58, v59, v60, v61, v62, v63, v64, v65, v66, v67, v68, v69, v70, v71, v72, v73, v74, v75, v76, v77, v78, v79, v80, v81, v82, v83, v84, v85, v86, v87, v88, v89, v90, v91, v92, v93, v94, v95, v96, v97, v98, v99, v100, v101, v102, v103, v104, v105, v106, v107, v108, v109, v110, v111, v112, v113, v114, v115, v116, v117, v118, .int .i64 (m : Int), .int .i64 (i : Int), v121, v122, v123, v124, v125, v126, v127, v128, v129, v130, v131, v132, v133, v134, v135], []⟩ (.code plL3 :: .inLoop plL3 :: .inBlock 5 :: kk)) stk) w := by
  intro jj
  induction jj with
  | zero =>
    intro i v2 v3 v4 v5 v6 v9 v11 v12 v13 v14 v15 v16 v17 v18 v22 v23 v24 v25 v26 v27 v28 v29 v30 v31 v32 v33 v34 v35 v36 v37 v38 v39 v40 v41 v42 v43 v44 v45 v46 v47 v48 v49 v50 v51 v52 v53 v54 v55 v56 v57 v58 v59 v60 v61 v62 v63 v64 v65 v66 v67 v68 v69 v70 v71 v72 v73 v74 v75 v76 v77 v78 v79 v80 v81 v82 v83 v84 v85 v86 v87 v88 v89 v90 v91 v92 v93 v94 v95 v96 v97 v98 v99 v100 v101 v102 v103 v104 v105 v106 v107 v108 v109 v110 v111 v112 v113 v114 v115 v116 v117 v118 v121 v122 v123 v124 v125 v126 v127 v128 v129 v130 v131 v132 v133 v134 v135 hj
    have hlt : decide (i < m) = false := decide_eq_false (by omega)
    clear Y
    unfold plL3 plChk plB1 plL1
    simp only [Try.f9, Option.getD_some]
    repeat (first | refine Run.auto rfl ?_ | ((first | (apply Run.lq rfl rfl rfl rfl; (focus (intro w K hK; go_simp; exact hK))) | (refine Run.ln rfl rfl rfl rfl rfl (by kernel_rfl) ?_) | (refine Run.not rfl rfl ?_)); try simp only [Act.put, Act.eval, nrmL, Nat.reduceAdd]) | (refine Run.rg ?_; simp only [nrmL, rngL, Nat.reduceAdd]) | refine Run.cT rfl ?_ | refine Run.cF rfl ?_ | refine Run.rt ?_ | refine Run.nd ?_)
    try simp only [hlt]
    repeat (first | refine Run.auto rfl ?_ | ((first | (apply Run.lq rfl rfl rfl rfl; (focus (intro w K hK; go_simp; exact hK))) | (refine Run.ln rfl rfl rfl rfl rfl (by kernel_rfl) ?_) | (refine Run.not rfl rfl ?_)); try simp only [Act.put, Act.eval, nrmL, Nat.reduceAdd]) | (refine Run.rg ?_; simp only [nrmL, rngL, Nat.reduceAdd]) | refine Run.cT rfl ?_ | refine Run.cF rfl ?_ | refine Run.rt ?_ | refine Run.nd ?_)
    exact H _ ⟨rfl, rfl, rfl, rfl, rfl, rfl, rfl, rfl, rfl, rfl⟩
  | succ jj ih =>
    intro i v2 v3 v4 v5 v6 v9 v11 v12 v13 v14 v15 v16 v17 v18 v22 v23 v24 v25 v26 v27 v28 v29 v30 v31 v32 v33 v34 v35 v36 v37 v38 v39 v40 v41 v42 v43 v44 v45 v46 v47 v48 v49 v50 v51 v52 v53 v54 v55 v56 v57 v58 v59 v60 v61 v62 v63 v64 v65 v66 v67 v68 v69 v70 v71 v72 v73 v74 v75 v76 v77 v78 v79 v80 v81 v82 v83 v84 v85 v86 v87 v88 v89 v90 v91 v92 v93 v94 v95 v96 v97 v98 v99 v100 v101 v102 v103 v104 v105 v106 v107 v108 v109 v110 v111 v112 v113 v114 v115 v116 v117 v118 v121 v122 v123 v124 v125 v126 v127 v128 v129 v130 v131 v132 v133 v134 v135 hj
    have hlt : decide (i < m) = true := decide_eq_true (by omega)
    have hji : (i : Int) < (m : Int) := by omega
    have hj0 : (0 : Int) ≤ (i : Int) := by omega
    obtain ⟨LA, lc, hD, hLS⟩ := Y.P.L.ex
    have hcD : col D = (1, 0) := Y.P.L.mem
    have hsD := Y.P.sp D hD.lt (by rw [hcD]; decide)
    have hdl : i < ds.length := by
      have := hLS.1
      rw [didV_len] at this
      omega
    obtain ⟨g, o, rfl, hg, hgl, x0, x1⟩ := hLS.rd.did hdl
    obtain ⟨g2, o2, rfl, hg2, hgl2, y0, y1⟩ := Y.P.W.rd.did hdl
    have hgv := (Y.P.sp g hgl (by rw [hg.1]; decide)).2.2.1
    have hgv2 := (Y.P.sp g2 hgl2 (by rw [hg2]; decide)).2.2.1
    generalize ds[i].1 = d1 at x0 y0
    generalize ds[i].2 = d2 at x1 y1
    have cD : ∀ u, Kept Z.Hd w u → u.cell? ⟨D, 0, none⟩ = some (.slice (some ⟨g, o, none⟩) m lc) := fun u hu => (hu.cell (p := ⟨D, 0, none⟩) hD.lt hsD.2.2.1).trans (hD.cell 0)
    have cx0 : ∀ u, Kept Z.Hd w u → u.cell? ⟨g, o + i * 2, none⟩ = some (.int .i64 d1) := fun u hu => (hu.cell (p := ⟨g, o + i * 2, none⟩) hgl hgv).trans x0
    have cx1 : ∀ u, Kept Z.Hd w u → u.cell? ⟨g, o + i * 2 + 1, none⟩ = some (.string d2) := fun u hu => (hu.cell (p := ⟨g, o + i * 2 + 1, none⟩) hgl hgv).trans x1
    have cy0 : ∀ u, Kept Z.Hd w u → u.cell? ⟨g2, o2 + i * 2, none⟩ = some (.int .i64 d1) := fun u hu => (hu.cell (p := ⟨g2, o2 + i * 2, none⟩) hgl2 hgv2).trans y0
    have cy1 : ∀ u, Kept Z.Hd w u → u.cell? ⟨g2, o2 + i * 2 + 1, none⟩ = some (.string d2) := fun u hu => (hu.cell (p := ⟨g2, o2 + i * 2 + 1, none⟩) hgl2 hgv2).trans y1
    have hwt : IntKind.i64.wrap ((i : Int) + 1) = ((i + 1 : Nat) : Int) := by rw [IntKind.wrap_i64]; omega
    have ih' := ih (i + 1)
    clear x0 x1 y0 y1 hLS hcD hsD hdl hg hg2
    unfold plL3 plChk plB1 plL1 at ih' ⊢
    simp only [Try.f9, Option.getD_some] at ih' ⊢
    repeat (first | refine Run.auto rfl ?_ | ((first | (apply Run.lq rfl rfl rfl rfl; (focus (intro w K hK; go_simp; exact hK))) | (refine Run.ln rfl rfl rfl rfl rfl (by kernel_rfl) ?_) | (refine Run.not rfl rfl ?_)); try simp only [Act.put, Act.eval, nrmL, Nat.reduceAdd]) | (refine Run.rg ?_; simp only [nrmL, rngL, Nat.reduceAdd]) | refine Run.cT rfl ?_ | refine Run.cF rfl ?_ | refine Run.rt ?_ | refine Run.nd ?_)
    try simp only [hlt]
    repeat (first | refine Run.auto rfl ?_ | ((first | (apply Run.lq rfl rfl rfl rfl; (focus (intro w K hK; go_simp; exact hK))) | (refine Run.ln rfl rfl rfl rfl rfl (by kernel_rfl) ?_) | (refine Run.not rfl rfl ?_)); try simp only [Act.put, Act.eval, nrmL, Nat.reduceAdd]) | (refine Run.rg ?_; simp only [nrmL, rngL, Nat.reduceAdd]) | refine Run.cT rfl ?_ | refine Run.cF rfl ?_ | refine Run.rt ?_ | refine Run.nd ?_)
    refine Run.reads theEnv ⟨#[.pointer (some ⟨S0, 0, none⟩), .pointer (some ⟨D, 0, none⟩), v2, v3, v4, v5, v6, .pointer (some ⟨p, 0, none⟩), .slice (some ⟨g2, o2, none⟩) m ac, v9, .pointer (some ⟨T, 0, none⟩), v11, v12, v13, v14, .int .i64 (i : Int), v16, v17, v18, .slice SA N sc, .int .i64 (N : Int), .int .i64 (j : Int), v22, v23, v24, v25, v26, v27, v28, v29, v30, v31, v32, v33, v34, v35, v36, v37, v38, v39, v40, v41, v42, v43, v44, v45, v46, v47, v48, v49, v50, v51, v52, v53, v54, v55, v56, v57, v58, v59, v60, v61, v62, v63, v64, v65, v66, v67, v68, v69, v70, v71, v72, v73, v74, v75, v76, v77, v78, v79, v80, v81, v82, v83, v84, v85, v86, v87, v88, v89, v90, v91, v92, v93, v94, v95, v96, v97, v98, v99, v100, v101, v102, v103, v104, v105, v106, v107, v108, v109, v110, v111, v112, v113, v114, v115, v116, v117, v118, .int .i64 (m : Int), .int .i64 (i : Int), .bool true, .int .i64 (i : Int), .pointer (some ⟨D, 0, none⟩), .pointer (some ⟨D, 0, none⟩), .slice (some ⟨g, o, none⟩) m lc, .int .i64 (i : Int), .pointer (some ⟨g, o + i * 2, none⟩), .agg #[.int .i64 d1, .string d2], .slice (some ⟨g2, o2, none⟩) m ac, .int .i64 (i : Int), .pointer (some ⟨g2, o2 + i * 2, none⟩), .agg #[.int .i64 d1, .string d2], .bool false, v134, v135], []⟩ [] (by decide) (by kernel_rfl) (by kernel_rfl) (by kernel_rfl) (Ag.start 123 134 136 (by kernel_rfl) (by kernel_rfl) rfl rfl rfl (by kernel_rfl)) ?_ ?_
    · intro q oo ho
      have h11 : q < 11 := (Array.getElem?_eq_some_iff.1 ho).1
      match q, h11 with
      | 0, _ =>
        simp only [List.getElem?_toArray, List.getElem?_cons_succ, List.getElem?_cons_zero, Nat.reduceAdd] at ho
        obtain rfl := Option.some.inj ho
        exact ⟨(fun cs b q => by cases q), .inl ⟨rfl, rfl, (fun _ _ _ q => by cases q), .pointer (some ⟨D, 0, none⟩), (fun u hu _ => by clear ih H Y hD; go_simp), fun k hk => by cases hk; rfl⟩⟩
      | 1, _ =>
        simp only [List.getElem?_toArray, List.getElem?_cons_succ, List.getElem?_cons_zero, Nat.reduceAdd] at ho
        obtain rfl := Option.some.inj ho
        exact ⟨(fun cs b q => by cases q), .inl ⟨rfl, rfl, (fun _ _ _ q => by cases q), .pointer (some ⟨D, 0, none⟩), (fun u hu _ => by clear ih H Y hD; go_simp), fun k hk => by cases hk; rfl⟩⟩
      | 2, _ =>
        simp only [List.getElem?_toArray, List.getElem?_cons_succ, List.getElem?_cons_zero, Nat.reduceAdd] at ho
        obtain rfl := Option.some.inj ho
        exact ⟨(fun cs b q => by cases q), .inl ⟨rfl, rfl, (fun _ _ _ q => by cases q), .slice (some ⟨g, o, none⟩) m lc, (fun u hu _ => by have hc := cD u hu; clear ih H Y hD; go_simp), fun k hk => by cases hk; rfl⟩⟩
      | 3, _ =>
        simp only [List.getElem?_toArray, List.getElem?_cons_succ, List.getElem?_cons_zero, Nat.reduceAdd] at ho
        obtain rfl := Option.some.inj ho
        exact ⟨(fun cs b q => by cases q), .inl ⟨rfl, rfl, (fun _ _ _ q => by cases q), .int .i64 (i : Int), (fun u hu _ => by clear ih H Y hD; go_simp), fun k hk => by cases hk; rfl⟩⟩
      | 4, _ =>
        simp only [List.getElem?_toArray, List.getElem?_cons_succ, List.getElem?_cons_zero, Nat.reduceAdd] at ho
        obtain rfl := Option.some.inj ho
        exact ⟨(fun cs b q => by cases q), .inl ⟨rfl, rfl, (fun _ _ _ q => by cases q), .pointer (some ⟨g, o + i * 2, none⟩), (fun u hu _ => by clear ih H Y hD; go_simp), fun k hk => by cases hk; rfl⟩⟩
      | 5, _ =>
        simp only [List.getElem?_toArray, List.getElem?_cons_succ, List.getElem?_cons_zero, Nat.reduceAdd] at ho
        obtain rfl := Option.some.inj ho
        exact ⟨(fun cs b q => by cases q), .inl ⟨rfl, rfl, (fun _ _ _ q => by cases q), .agg #[.int .i64 d1, .string d2], (fun u hu _ => by have h0 := cx0 u hu; have h1 := cx1 u hu; clear ih H Y hD; go_simp), fun k hk => by cases hk; rfl⟩⟩
      | 6, _ =>
        simp only [List.getElem?_toArray, List.getElem?_cons_succ, List.getElem?_cons_zero, Nat.reduceAdd] at ho
        obtain rfl := Option.some.inj ho
        exact ⟨(fun cs b q => by cases q), .inl ⟨rfl, rfl, (fun _ _ _ q => by cases q), .slice (some ⟨g2, o2, none⟩) m ac, (fun u hu _ => by clear ih H Y hD; go_simp), fun k hk => by cases hk; rfl⟩⟩
      | 7, _ =>
        simp only [List.getElem?_toArray, List.getElem?_cons_succ, List.getElem?_cons_zero, Nat.reduceAdd] at ho
        obtain rfl := Option.some.inj ho
        exact ⟨(fun cs b q => by cases q), .inl ⟨rfl, rfl, (fun _ _ _ q => by cases q), .int .i64 (i : Int), (fun u hu _ => by clear ih H Y hD; go_simp), fun k hk => by cases hk; rfl⟩⟩
      | 8, _ =>
        simp only [List.getElem?_toArray, List.getElem?_cons_succ, List.getElem?_cons_zero, Nat.reduceAdd] at ho
        obtain rfl := Option.some.inj ho
        exact ⟨(fun cs b q => by cases q), .inl ⟨rfl, rfl, (fun _ _ _ q => by cases q), .pointer (some ⟨g2, o2 + i * 2, none⟩), (fun u hu _ => by clear ih H Y hD; go_simp), fun k hk => by cases hk; rfl⟩⟩
      | 9, _ =>
        simp only [List.getElem?_toArray, List.getElem?_cons_succ, List.getElem?_cons_zero, Nat.reduceAdd] at ho
        obtain rfl := Option.some.inj ho
        exact ⟨(fun cs b q => by cases q), .inl ⟨rfl, rfl, (fun _ _ _ q => by cases q), .agg #[.int .i64 d1, .string d2], (fun u hu _ => by have h0 := cy0 u hu; have h1 := cy1 u hu; clear ih H Y hD; go_simp), fun k hk => by cases hk; rfl⟩⟩
      | 10, _ =>
        simp only [List.getElem?_toArray, List.getElem?_cons_succ, List.getElem?_cons_zero, Nat.reduceAdd] at ho
        obtain rfl := Option.some.inj ho
        exact ⟨(fun cs b q => by cases q), .inl ⟨rfl, by kernel_rfl, (fun _ _ _ q => by cases q), .bool false, (fun u hu _ => by clear ih H Y hD; go_simp), fun k hk => by cases hk; rfl⟩⟩
      | r + 11, hr => exact absurd hr (by omega)
    · clear cD cx0 cx1 cy0 cy1 hD
      repeat (first | refine Run.auto rfl ?_ | ((first | (apply Run.lq rfl rfl rfl rfl; (focus (intro w K hK; go_simp; exact hK))) | (refine Run.ln rfl rfl rfl rfl rfl (by kernel_rfl) ?_) | (refine Run.not rfl rfl ?_)); try simp only [Act.put, Act.eval, nrmL, Nat.reduceAdd]) | (refine Run.rg ?_; simp only [nrmL, rngL, Nat.reduceAdd]) | refine Run.cT rfl ?_ | refine Run.cF rfl ?_ | refine Run.rt ?_ | refine Run.nd ?_)
      refine Run.ctl (fun _ => stepG_inLoop) rfl ?_
      exact ih' _ _ _ _ _ _ _ _ _ _ _ _ _ _ _ _ _ _ _ _ _ _ _ _ _ _ _ _ _ _ _ _ _ _ _ _ _ _ _ _ _ _ _ _ _ _ _ _ _ _ _ _ _ _ _ _ _ _ _ _ _ _ _ _ _ _ _ _ _ _ _ _ _ _ _ _ _ _ _ _ _ _ _ _ _ _ _ _ _ _ _ _ _ _ _ _ _ _ _ _ _ _ _ _ _ _ _ _ _ _ _ _ _ _ _ _ _ _ _ _ _ _ _ _ _ _ (by omega)
set_option maxRecDepth 50000 in
set_option maxHeartbeats 4000000 in
theorem pl_chk {x : Act} {J : Nat} {inp : Option Addr × Nat × Nat × List Value} (Y : Ply w0 Z n w S0 D p A m ac st a ds [(T, 64, #[.int .i64 kd, .int .i64 id, .slice IA bs.length ic])] inp s col l) (hx : Live x S0 D p SA N sc A m ac j (.pointer (some ⟨T, 0, none⟩))) (hf : Fine a J) (hJ : J ≤ 2000000000) (hm : m < 2000000000) {kk : List Item}
    (H : ∀ w' x' col', Ply w0 Z n w' S0 D p A m ac st a ds [(T, 64, #[.int .i64 kd, .int .i64 id, .slice IA bs.length ic])] inp s col' l → Live x' S0 D p SA N sc A m ac j (.pointer (some ⟨T, 0, none⟩)) → Run Try.prog Post Z n 0 0 (G ((base 9).at x' kk) stk) w') :
    Run Try.prog Post Z n 0 0 (G ((base 9).at x (.code plChk :: kk)) stk) w := by
  obtain ⟨f, rfl⟩ := hx.open
  clear hx
  obtain ⟨LA, lc, hD, _⟩ := Y.P.L.ex
  have hr := pl_r30 (Post := Post) (stk := stk) (SA := SA) (N := N) (sc := sc) (j := j) Y hD hf hJ
  unfold plR30 plChk plB1 plL1 at hr
  unfold plChk plB1 plL1
  simp only [Try.f9, Option.getD_some] at hr ⊢
  repeat (first | refine Run.auto rfl ?_ | ((first | (apply Run.lq rfl rfl rfl rfl; (focus (intro w K hK; go_simp; exact hK))) | (refine Run.ln rfl rfl rfl rfl rfl (by kernel_rfl) ?_) | (refine Run.not rfl rfl ?_)); try simp only [Act.put, Act.eval, nrmL, Nat.reduceAdd]) | (refine Run.rg ?_; simp only [nrmL, rngL, Nat.reduceAdd]) | refine Run.cT rfl ?_ | refine Run.cF rfl ?_ | refine Run.rt ?_ | refine Run.nd ?_)
  refine hr _ _ _ _ _ _ _ _ _ _ _ _ _ _ _ _ _ _ _ _ _ _ _ _ _ _ _ _ _ _ _ _ _ _ _ _ _ _ _ _ _ _ _ _ _ _ _ _ _ _ _ _ _ _ _ _ _ _ _ _ _ _ _ _ _ _ _ _ _ _ _ _ _ _ _ _ _ _ _ _ _ _ _ _ _ _ _ _ _ _ _ _ _ _ _ _ _ _ _ _ _ _ _ _ _ _ _ _ _ _ _ _ _ _ _ _ _ _ _ _ _ _ _ _ _ _ _ _ _ fun w1 col1 A1 c1 A2 c2 Y1 _ => ?_
  clear hr Y hD
  have hl := pl_loop3 (Post := Post) (stk := stk) (SA := SA) (N := N) (sc := sc) (j := j) (kk := kk) hm Y1 (fun x' L' => H w1 x' col1 Y1 L') m 0
  unfold plL3 plChk plB1 plL1 at hl
  simp only [Try.f9, Option.getD_some] at hl
  clear H
  repeat (first | refine Run.auto rfl ?_ | ((first | (apply Run.lq rfl rfl rfl rfl; (focus (intro w K hK; go_simp; exact hK))) | (refine Run.ln rfl rfl rfl rfl rfl (by kernel_rfl) ?_) | (refine Run.not rfl rfl ?_)); try simp only [Act.put, Act.eval, nrmL, Nat.reduceAdd]) | (refine Run.rg ?_; simp only [nrmL, rngL, Nat.reduceAdd]) | refine Run.cT rfl ?_ | refine Run.cF rfl ?_ | refine Run.rt ?_ | refine Run.nd ?_)
  refine Run.ctl (fun _ => stepG_loop) rfl ?_
  exact hl _ _ _ _ _ _ _ _ _ _ _ _ _ _ _ _ _ _ _ _ _ _ _ _ _ _ _ _ _ _ _ _ _ _ _ _ _ _ _ _ _ _ _ _ _ _ _ _ _ _ _ _ _ _ _ _ _ _ _ _ _ _ _ _ _ _ _ _ _ _ _ _ _ _ _ _ _ _ _ _ _ _ _ _ _ _ _ _ _ _ _ _ _ _ _ _ _ _ _ _ _ _ _ _ _ _ _ _ _ _ _ _ _ _ _ _ _ _ _ _ _ _ _ _ _ _ (by omega)
end
end Go.Proofs.Ytfpkachoneaaeaa
