/-
  plays, piece by piece: Post.
-/
import Derived.Test.YtfpkachoneaaeaaPl3
set_option linter.unusedSimpArgs false
set_option linter.unusedVariables false
namespace Go.Proofs.Ytfpkachoneaaeaa
open Go Go.Conc Go.RowKit
section
variable {Post : Value → World → Prop} {stk : List Frame} {w0 : World} {S0 D p : Nat} {SA : Option Addr} {N sc j : Nat} {A : Option Addr} {m ac : Nat} {st : Bool} {a : Ab} {ds : List (Int × ByteArray)} {T : Nat} {kd id : Int} {IA : Option Addr} {ic : Nat} {bs : List UInt8} {Z : Scene} {n : Nat} {w : World} {s : Sy} {col : Nat → Nat × Int} {l : List Bx}
set_option maxRecDepth 50000 in
set_option maxHeartbeats 4000000 in
theorem pl_r11 {I : Option Addr} {c' : Nat} (Y : Ply w0 Z n w S0 D p A m ac st a ds [(T, 64, #[.int .i64 kd, .int .i64 id, .slice IA bs.length ic])] (I, bs.length, c', bvs bs) s col l) (hit : Rd w0 (fun k => k < w0.heap.size ∧ ¬ JunkAt w0 k) IA (bvs bs)) (hbl : bs.length ≤ 1048576) (ha : a.length < 2000000000) :
    ∀ (kk : List Item) (v2 v3 v4 v5 v6 v9 v12 v13 v14 v15 v16 v17 v18 v22 v23 v24 v25 v26 v27 v28 v29 v30 v31 v32 v33 v34 v35 v36 v37 v38 v39 v40 v41 v42 v43 v44 v45 v46 v47 v48 v49 v50 v51 v52 v53 v54 v55 v56 v57 v58 v59 v60 v61 v62 v63 v64 v65 v66 v67 v68 v69 v70 v71 v72 v73 v74 v75 v76 v77 v78 v79 v80 v81 v82 v83 v84 v85 v86 v87 v88 v89 v90 v91 v92 v93 v94 v95 v96 v97 v98 v99 v100 v101 v102 v103 v104 v105 v106 v107 v108 v109 v110 v111 v112 v113 v114 v115 v116 v117 v118 v119 v120 v121 v122 v123 v124 v125 v126 v127 v128 v129 v130 v131 v132 v133 v134 v135 : Value) (H : ∀ Z' n' w' s' col' l', Ply w0 Z' n' w' S0 D p A m ac st (postB st a id bs).1 ds [(T, 64, #[.int .i64 kd, .int .i64 id, .slice IA bs.length ic])] (I, bs.length, c', bvs bs) s' col' l' → n' ≤ n + 1 → Run Try.prog Post Z' n' 0 0 (G ((base 9).at ⟨#[.pointer (some ⟨S0, 0, none⟩), .pointer (some ⟨D, 0, none⟩), v2, v3, v4, v5, v6, .pointer (some ⟨p, 0, none⟩), .slice A m ac, v9, .pointer (some ⟨T, 0, none⟩), .slice I bs.length c', v12, v13, v14, v15, v16, v17, v18, .slice SA N sc, .int .i64 (N : Int), .int .i64 (j : Int), v22, v23, v24, v25, v26, v27, v28, v29, v30, v31, v32, v33, v34, v35, .pointer (some ⟨S0, 0, none⟩), .pointer (some ⟨T, 1, none⟩), .int .i64 id, .slice I bs.length c', .bool (postB st a id bs).2, .pointer (some ⟨p, 0, none⟩), .pointer (some ⟨T, 1, none⟩), .int .i64 id, .pointer (some ⟨T, 2, none⟩), .slice IA bs.length ic, .bool (postB st a id bs).2, .bool false, v48, v49, v50, v51, v52, v53, v54, v55, v56, v57, v58, v59, v60, v61, v62, v63, v64, v65, v66, v67, v68, v69, v70, v71, v72, v73, v74, v75, v76, v77, v78, v79, v80, v81, v82, v83, v84, v85, v86, v87, v88, v89, v90, v91, v92, v93, v94, v95, v96, v97, v98, v99, v100, v101, v102, v103, v104, v105, v106, v107, v108, v109, v110, v111, v112, v113, v114, v115, v116, v117, v118, v119, v120, v121, v122, v123, v124, v125, v126, v127, v128, v129, v130, v131, v132, v133, v134, v135], []⟩ kk) stk) w'),
    Run Try.prog Post Z n 0 0 (G ((base 9).at ⟨#[.pointer (some ⟨S0, 0, none⟩), .pointer (some ⟨D, 0, none⟩), v2, v3, v4, v5, v6, .pointer (some ⟨p, 0, none⟩), .slice A m ac, v9, .pointer (some ⟨T, 0, none⟩), .slice I bs.length c', v12, v13, v14, v15, v16, v17, v18, .slice SA N sc, .int .i64 (N : Int), .int .i64 (j : Int), v22, v23, v24, v25, v26, v27, v28, v29, v30, v31, v32, v33, v34, v35, v36, v37, v38, v39, v40, v41, v42, v43, v44, v45, v46, v47, v48, v49, v50, v51, v52, v53, v54, v55, v56, v57, v58, v59, v60, v61, v62, v63, v64, v65, v66, v67, v68, v69, v70, v71, v72, v73, v74, v75, v76, v77, v78, v79, v80, v81, v82, v83, v84, v85, v86, v87, v88, v89, v90, v91, v92, v93, v94, v95, v96, v97, v98, v99, v100, v101, v102, v103, v104, v105, v106, v107, v108, v109, v110, v111, v112, v113, v114, v115, v116, v117, v118, v119, v120, v121, v122, v123, v124, v125, v126, v127, v128, v129, v130, v131, v132, v133, v134, v135], []⟩ (.code plR11 :: kk)) stk) w := by
  intro kk v2 v3 v4 v5 v6 v9 v12 v13 v14 v15 v16 v17 v18 v22 v23 v24 v25 v26 v27 v28 v29 v30 v31 v32 v33 v34 v35 v36 v37 v38 v39 v40 v41 v42 v43 v44 v45 v46 v47 v48 v49 v50 v51 v52 v53 v54 v55 v56 v57 v58 v59 v60 v61 v62 v63 v64 v65 v66 v67 v68 v69 v70 v71 v72 v73 v74 v75 v76 v77 v78 v79 v80 v81 v82 v83 v84 v85 v86 v87 v88 v89 v90 v91 v92 v93 v94 v95 v96 v97 v98 v99 v100 v101 v102 v103 v104 v105 v106 v107 v108 v109 v110 v111 v112 v113 v114 v115 v116 v117 v118 v119 v120 v121 v122 v123 v124 v125 v126 v127 v128 v129 v130 v131 v132 v133 v134 v135 H
  unfold plR11 plPost plB2 plB1 plL1
  simp only [Try.f9, Option.getD_some]
  refine Run.many theEnv (fun _ : Unit => ⟨#[.pointer (some ⟨S0, 0, none⟩), .pointer (some ⟨D, 0, none⟩), v2, v3, v4, v5, v6, .pointer (some ⟨p, 0, none⟩), .slice A m ac, v9, .pointer (some ⟨T, 0, none⟩), .slice I bs.length c', v12, v13, v14, v15, v16, v17, v18, .slice SA N sc, .int .i64 (N : Int), .int .i64 (j : Int), v22, v23, v24, v25, v26, v27, v28, v29, v30, v31, v32, v33, v34, v35, .pointer (some ⟨S0, 0, none⟩), .pointer (some ⟨T, 1, none⟩), .int .i64 id, .slice I bs.length c', .bool (postB st a id bs).2, .pointer (some ⟨p, 0, none⟩), .pointer (some ⟨T, 1, none⟩), .int .i64 id, .pointer (some ⟨T, 2, none⟩), .slice IA bs.length ic, .bool (postB st a id bs).2, .bool false, v48, v49, v50, v51, v52, v53, v54, v55, v56, v57, v58, v59, v60, v61, v62, v63, v64, v65, v66, v67, v68, v69, v70, v71, v72, v73, v74, v75, v76, v77, v78, v79, v80, v81, v82, v83, v84, v85, v86, v87, v88, v89, v90, v91, v92, v93, v94, v95, v96, v97, v98, v99, v100, v101, v102, v103, v104, v105, v106, v107, v108, v109, v110, v111, v112, v113, v114, v115, v116, v117, v118, v119, v120, v121, v122, v123, v124, v125, v126, v127, v128, v129, v130, v131, v132, v133, v134, v135], []⟩) [] 136 (fun L _ Z' n' w' => ∃ s' col' l', Pst w0 Z' n' w' s' col' D p A ac m m (didV ds) (didV ds) l' st [(T, 64, #[.int .i64 kd, .int .i64 id, .slice IA bs.length ic])] (I, bs.length, c', bvs bs) ∧ s'.S = S0 ∧ s'.stopped = st ∧ s'.abs = (if L 4 = true then (postB st a id bs).1 else a) ∧ Agree l' (if L 10 = true then (postB st a id bs).1 else a) ∧ n' ≤ n + (if L 4 = true then 1 else 0))
    (by decide) (by kernel_rfl) (by kernel_rfl) (fun _ => rfl) (by kernel_rfl) (by kernel_rfl) () (Ag.start 36 48 136 (by kernel_rfl) (by kernel_rfl) rfl rfl rfl (by kernel_rfl)) ⟨s, col, l, Y.P, Y.S, Y.st, Y.abs, Y.ag, Nat.le_refl _⟩ ?_ ?_
  · rintro L i o x Z1 n1 w1 ho hL hneed hclo hI2
    have hI3 := hI2
    obtain ⟨s1, col1, l1, P1, hS1, hst1, hab1, hag1, hn1⟩ := hI3
    have h12 : i < 12 := (Array.getElem?_eq_some_iff.1 ho).1
    obtain ⟨hBT, hcT⟩ := P1.X _ (.head _)
    have hsT := P1.sp T hBT.lt (by rw [hcT]; decide)
    have c1 : ∀ u, Kept Z1.Hd w1 u → u.cell? ⟨T, 1, none⟩ = some (.int .i64 id) := fun u hu => (hu.cell (p := ⟨T, 1, none⟩) hBT.lt hsT.2.2.1).trans (hBT.cell 1)
    have c2 : ∀ u, Kept Z1.Hd w1 u → u.cell? ⟨T, 2, none⟩ = some (.slice IA bs.length ic) := fun u hu => (hu.cell (p := ⟨T, 2, none⟩) hBT.lt hsT.2.2.1).trans (hBT.cell 2)
    clear hBT hcT hsT
    match i, h12 with
    | 0, _ =>
      simp only [List.getElem?_toArray, List.getElem?_cons_succ, List.getElem?_cons_zero, Nat.reduceAdd] at ho
      obtain rfl := Option.some.inj ho
      exact .inl ⟨⟨(fun cs b q => by cases q), .inl ⟨rfl, rfl, (fun _ _ _ q => by cases q), .pointer (some ⟨S0, 0, none⟩), (fun u hu _ => by clear H Y hclo hneed hL hI2 P1 hag1 hab1 hn1; go_simp), fun k hk => by cases hk; rfl⟩⟩, hI2⟩
    | 1, _ =>
      simp only [List.getElem?_toArray, List.getElem?_cons_succ, List.getElem?_cons_zero, Nat.reduceAdd] at ho
      obtain rfl := Option.some.inj ho
      exact .inl ⟨⟨(fun cs b q => by cases q), .inl ⟨rfl, rfl, (fun _ _ _ q => by cases q), .pointer (some ⟨T, 1, none⟩), (fun u hu _ => by clear H Y hclo hneed hL hI2 P1 hag1 hab1 hn1; go_simp), fun k hk => by cases hk; rfl⟩⟩, hI2⟩
    | 2, _ =>
      simp only [List.getElem?_toArray, List.getElem?_cons_succ, List.getElem?_cons_zero, Nat.reduceAdd] at ho
      obtain rfl := Option.some.inj ho
      exact .inl ⟨⟨(fun cs b q => by cases q), .inl ⟨rfl, rfl, (fun _ _ _ q => by cases q), .int .i64 id, (fun u hu _ => by have hc := c1 u hu; clear H Y hclo hneed hL hI2 P1 hag1 hab1 hn1; go_simp), fun k hk => by cases hk; rfl⟩⟩, hI2⟩
    | 3, _ =>
      simp only [List.getElem?_toArray, List.getElem?_cons_succ, List.getElem?_cons_zero, Nat.reduceAdd] at ho
      obtain rfl := Option.some.inj ho
      exact .inl ⟨⟨(fun cs b q => by cases q), .inl ⟨rfl, rfl, (fun _ _ _ q => by cases q), .slice I bs.length c', (fun u hu _ => by clear H Y hclo hneed hL hI2 P1 hag1 hab1 hn1; go_simp), fun k hk => by cases hk; rfl⟩⟩, hI2⟩
    | 4, _ =>
      simp only [List.getElem?_toArray, List.getElem?_cons_succ, List.getElem?_cons_zero, Nat.reduceAdd] at ho
      obtain rfl := Option.some.inj ho
      refine .inr ⟨_, _, _, _, _, rfl, Try.func13, by kernel_rfl, rfl, rfl, fun c0 cs cont => ?_⟩
      simp only [Act.eval, nrmL, Nat.reduceAdd]
      have hl4 : L 4 = false := hL
      simp only [hl4, Bool.false_eq_true, if_false] at hab1 hn1
      have hIn : SegV w1 (fun k => col1 k = (0, 2)) 5 1 I bs.length c' (bvs bs) := P1.I
      have e : postA s1 id bs = postB st a id bs := by unfold postA postB; rw [hst1, hab1]
      clear H Y hclo hneed hI2 c1 c2
      subst hS1
      refine cli_post (GF := fun k => col1 k = (0, 2)) P1.K id hIn.rd (fun k hk q => (P1.sp k hk (by rw [q]; decide)).2.2.1) (by omega) (by rw [hab1]; exact ha) fun Z2 n2 s2 w2 ok K2 hp hst2 hL2 hn2 k2 => ?_
      rw [e] at hp
      obtain rfl : ok = (postB st a id bs).2 := congrArg Prod.snd hp
      exact cont () Z2 n2 w2 _ ⟨s2, _, l1, P1.went K2 hL2 k2, hL2.S, hst2.trans hst1, congrArg Prod.fst hp, hag1, by show n2 ≤ n + 1; omega⟩ rfl
    | 5, _ =>
      simp only [List.getElem?_toArray, List.getElem?_cons_succ, List.getElem?_cons_zero, Nat.reduceAdd] at ho
      obtain rfl := Option.some.inj ho
      exact .inl ⟨⟨(fun cs b q => by cases q), .inl ⟨rfl, rfl, (fun _ _ _ q => by cases q), .pointer (some ⟨p, 0, none⟩), (fun u hu _ => by clear H Y hclo hneed hL hI2 P1 hag1 hab1 hn1; go_simp), fun k hk => by cases hk; rfl⟩⟩, hI2⟩
    | 6, _ =>
      simp only [List.getElem?_toArray, List.getElem?_cons_succ, List.getElem?_cons_zero, Nat.reduceAdd] at ho
      obtain rfl := Option.some.inj ho
      exact .inl ⟨⟨(fun cs b q => by cases q), .inl ⟨rfl, rfl, (fun _ _ _ q => by cases q), .pointer (some ⟨T, 1, none⟩), (fun u hu _ => by clear H Y hclo hneed hL hI2 P1 hag1 hab1 hn1; go_simp), fun k hk => by cases hk; rfl⟩⟩, hI2⟩
    | 7, _ =>
      simp only [List.getElem?_toArray, List.getElem?_cons_succ, List.getElem?_cons_zero, Nat.reduceAdd] at ho
      obtain rfl := Option.some.inj ho
      exact .inl ⟨⟨(fun cs b q => by cases q), .inl ⟨rfl, rfl, (fun _ _ _ q => by cases q), .int .i64 id, (fun u hu _ => by have hc := c1 u hu; clear H Y hclo hneed hL hI2 P1 hag1 hab1 hn1; go_simp), fun k hk => by cases hk; rfl⟩⟩, hI2⟩
    | 8, _ =>
      simp only [List.getElem?_toArray, List.getElem?_cons_succ, List.getElem?_cons_zero, Nat.reduceAdd] at ho
      obtain rfl := Option.some.inj ho
      exact .inl ⟨⟨(fun cs b q => by cases q), .inl ⟨rfl, rfl, (fun _ _ _ q => by cases q), .pointer (some ⟨T, 2, none⟩), (fun u hu _ => by clear H Y hclo hneed hL hI2 P1 hag1 hab1 hn1; go_simp), fun k hk => by cases hk; rfl⟩⟩, hI2⟩
    | 9, _ =>
      simp only [List.getElem?_toArray, List.getElem?_cons_succ, List.getElem?_cons_zero, Nat.reduceAdd] at ho
      obtain rfl := Option.some.inj ho
      exact .inl ⟨⟨(fun cs b q => by cases q), .inl ⟨rfl, rfl, (fun _ _ _ q => by cases q), .slice IA bs.length ic, (fun u hu _ => by have hc := c2 u hu; clear H Y hclo hneed hL hI2 P1 hag1 hab1 hn1; go_simp), fun k hk => by cases hk; rfl⟩⟩, hI2⟩
    | 10, _ =>
      simp only [List.getElem?_toArray, List.getElem?_cons_succ, List.getElem?_cons_zero, Nat.reduceAdd] at ho
      obtain rfl := Option.some.inj ho
      refine .inr ⟨_, _, _, _, _, rfl, Try.func19, by kernel_rfl, rfl, rfl, fun c0 cs cont => ?_⟩
      simp only [Act.eval, nrmL, Nat.reduceAdd]
      have hl10 : L 10 = false := hL
      simp only [hl10, Bool.false_eq_true, if_false] at hag1
      clear H Y hclo hneed hI2 c1 c2
      refine Run.okG fun hok1 => ?_
      refine rf_post P1.R P1.hv hag1 (by rw [hag1.lenl]; exact ha) id (P1.oldrow hit) (fun k _ q => ⟨(P1.oldvis q).1, by rw [(P1.oldvis q).2.1]; decide, (P1.oldvis q).2.2⟩) (by omega) fun w2 col2 l2 ht hR hA2 k2 => ?_
      exact cont () Z1 n1 w2 _ ⟨s1, col2, l2, P1.ref hok1 k2 (fun k _ q => q) ht hR, hS1, hst1, hab1, hA2, hn1⟩ rfl
    | 11, _ =>
      simp only [List.getElem?_toArray, List.getElem?_cons_succ, List.getElem?_cons_zero, Nat.reduceAdd] at ho
      obtain rfl := Option.some.inj ho
      exact .inl ⟨⟨(fun cs b q => by cases q), .inl ⟨rfl, rfl, (fun _ _ _ q => by cases q), .bool false, (fun u hu _ => by clear H Y hclo hneed hL hI2 P1 hag1 hab1 hn1; go_simp), fun k hk => by cases hk; rfl⟩⟩, hI2⟩
    | q + 12, hq => exact absurd hq (by omega)
  · rintro L x Z1 n1 w1 hall ⟨s1, col1, l1, P1, hS1, hst1, hab1, hag1, hn1⟩
    have h4 : L 4 = true := hall 4 (by show 4 < 12; omega)
    have h10 : L 10 = true := hall 10 (by show 10 < 12; omega)
    simp only [h4, h10, if_true] at hab1 hag1 hn1
    exact H Z1 n1 w1 s1 col1 l1 ⟨P1, hS1, hst1, hab1, hag1⟩ hn1
end
end Go.Proofs.Ytfpkachoneaaeaa
namespace Go.Proofs.Ytfpkachoneaaeaa
open Go Go.Conc Go.RowKit
section
variable {Post : Value → World → Prop} {stk : List Frame} {w0 : World} {S0 D p : Nat} {SA : Option Addr} {N sc j : Nat} {A : Option Addr} {m ac : Nat} {st : Bool} {a : Ab} {ds : List (Int × ByteArray)} {T : Nat} {kd id : Int} {IA : Option Addr} {ic : Nat} {bs : List UInt8} {Z : Scene} {n : Nat} {w : World} {s : Sy} {col : Nat → Nat × Int} {l : List Bx}
set_option maxRecDepth 50000 in
set_option maxHeartbeats 4000000 in
theorem pl_loop2 {I : Option Addr} {nb c' : Nat} (hnb : nb ≤ 1048576) {kk : List Item} (H : ∀ w' x' ys', Ply w0 Z n w' S0 D p A m ac st a ds [(T, 64, #[.int .i64 kd, .int .i64 id, .slice IA bs.length ic])] (I, nb, c', ys') s col l → Live x' S0 D p SA N sc A m ac j (.pointer (some ⟨T, 0, none⟩)) → Run Try.prog Post Z n 0 0 (G ((base 9).at x' kk) stk) w') :
    ∀ (jj t : Nat) (w : World) (v2 v3 v4 v5 v6 v9 v12 v13 v14 v15 v16 v17 v18 v22 v23 v24 v25 v26 v27 v28 v29 v30 v31 v32 v33 v34 v35 v36 v37 v38 v39 v40 v41 v42 v43 v44 v45 v46 v47 v48 v51 v52 v53 v54 v55 v56 v57 v58 v59 v60 v61 v62 v63 v64 v65 v66 v67 v68 v69 v70 v71 v72 v73 v74 v75 v76 v77 v78 v79 v80 v81 v82 v83 v84 v85 v86 v87 v88 v89 v90 v91 v92 v93 v94 v95 v96 v97 v98 v99 v100 v101 v102 v103 v104 v105 v106 v107 v108 v109 v110 v111 v112 v113 v114 v115 v116 v117 v118 v119 v120 v121 v122 v123 v124 v125 v126 v127 v128 v129 v130 v131 v132 v133 v134 v135 : Value) (ys : List Value), jj + t = nb → Ply w0 Z n w S0 D p A m ac st a ds [(T, 64, #[.int .i64 kd, .int .i64 id, .slice IA bs.length ic])] (I, nb, c', ys) s col l →
    Run Try.prog Post Z n 0 0 (G ((base 9).at ⟨#[.pointer (some ⟨S0, 0, none⟩), .pointer (some ⟨D, 0, none⟩), v2, v3, v4, v5, v6, .pointer (some ⟨p, 0, none⟩), .slice A m ac, v9, .pointer (some ⟨T, 0, none⟩), .slice I nb c', v12, v13, v14, v15, v16, v17, v18, .slice SA N sc, .int .i64 (N : Int), .int .i64 (j : Int), v22, v23, v24, v25, v26, v27, v28, v29, v30, v31, v32, v33, v34, v35, v36, v37, v38, v39, v40, v41, v42, v43, v44, v45, v46, v47, v48, .int .i64 (nb : Int), .int .i64 (t : Int), v51, v52, v53, v54, v55, v56, v57, v58, v59, v60, v61, v62, v63, v64, v65, v66, v67, v68, v69, v70, v71, v72, v73, v74, v75, v76, v77, v78, v79, v80, v81, v82, v83, v84, v85, v86, v87, v88, v89, v90, v91, v92, v93, v94, v95, v96, v97, v98, v99, v100, v101, v102, v103, v104, v105, v106, v107, v108, v109, v110, v111, v112, v113, v114, v115, v116, v117, v118, v119, v120, v121, v122, v123, v124, v125, v126, v127, v128, v129, v130, v131, v132, v133, v134, v135], []⟩ (.code plL2 :: .inLoop plL2 :: .inBlock 3 :: kk)) stk) w := by
  intro jj
  induction jj with
  | zero =>
    intro t w v2 v3 v4 v5 v6 v9 v12 v13 v14 v15 v16 v17 v18 v22 v23 v24 v25 v26 v27 v28 v29 v30 v31 v32 v33 v34 v35 v36 v37 v38 v39 v40 v41 v42 v43 v44 v45 v46 v47 v48 v51 v52 v53 v54 v55 v56 v57 v58 v59 v60 v61 v62 v63 v64 v65 v66 v67 v68 v69 v70 v71 v72 v73 v74 v75 v76 v77 v78 v79 v80 v81 v82 v83 v84 v85 v86 v87 v88 v89 v90 v91 v92 v93 v94 v95 v96 v97 v98 v99 v100 v101 v102 v103 v104 v105 v106 v107 v108 v109 v110 v111 v112 v113 v114 v115 v116 v117 v118 v119 v120 v121 v122 v123 v124 v125 v126 v127 v128 v129 v130 v131 v132 v133 v134 v135 ys hj Y
    have hlt : decide (t < nb) = false := decide_eq_false (by omega)
    have H' := H w
    clear H
    unfold plL2 plPost plB2 plB1 plL1
    simp only [Try.f9, Option.getD_some]
    repeat (first | refine Run.auto rfl ?_ | ((first | (apply Run.lq rfl rfl rfl rfl; (focus (intro w K hK; go_simp; exact hK))) | (refine Run.ln rfl rfl rfl rfl rfl (by kernel_rfl) ?_) | (refine Run.not rfl rfl ?_)); try simp only [Act.put, Act.eval, nrmL, Nat.reduceAdd]) | (refine Run.rg ?_; simp only [nrmL, rngL, Nat.reduceAdd]) | refine Run.cT rfl ?_ | refine Run.cF rfl ?_ | refine Run.rt ?_ | refine Run.nd ?_)
    try simp only [hlt]
    repeat (first | refine Run.auto rfl ?_ | ((first | (apply Run.lq rfl rfl rfl rfl; (focus (intro w K hK; go_simp; exact hK))) | (refine Run.ln rfl rfl rfl rfl rfl (by kernel_rfl) ?_) | (refine Run.not rfl rfl ?_)); try simp only [Act.put, Act.eval, nrmL, Nat.reduceAdd]) | (refine Run.rg ?_; simp only [nrmL, rngL, Nat.reduceAdd]) | refine Run.cT rfl ?_ | refine Run.cF rfl ?_ | refine Run.rt ?_ | refine Run.nd ?_)
    exact H' _ ys Y ⟨rfl, rfl, rfl, rfl, rfl, rfl, rfl, rfl, rfl, rfl⟩
  | succ jj ih =>
    intro t w v2 v3 v4 v5 v6 v9 v12 v13 v14 v15 v16 v17 v18 v22 v23 v24 v25 v26 v27 v28 v29 v30 v31 v32 v33 v34 v35 v36 v37 v38 v39 v40 v41 v42 v43 v44 v45 v46 v47 v48 v51 v52 v53 v54 v55 v56 v57 v58 v59 v60 v61 v62 v63 v64 v65 v66 v67 v68 v69 v70 v71 v72 v73 v74 v75 v76 v77 v78 v79 v80 v81 v82 v83 v84 v85 v86 v87 v88 v89 v90 v91 v92 v93 v94 v95 v96 v97 v98 v99 v100 v101 v102 v103 v104 v105 v106 v107 v108 v109 v110 v111 v112 v113 v114 v115 v116 v117 v118 v119 v120 v121 v122 v123 v124 v125 v126 v127 v128 v129 v130 v131 v132 v133 v134 v135 ys hj Y
    refine Run.okG fun hok => ?_
    have hlt : decide (t < nb) = true := decide_eq_true (by omega)
    have hji : (t : Int) < (nb : Int) := by omega
    have hj0 : (0 : Int) ≤ (t : Int) := by omega
    have hS : SegV w (fun k => col k = (0, 2)) 5 1 I nb c' ys := Y.P.I
    obtain ⟨g, o, cur, rfl, hgF, hgl, hb, hoc, hce⟩ := hS.at_ (by omega)
    have hgv := (Y.P.sp g hgl (by rw [hgF]; decide)).2.2
    have fg := Scene.free (Z := Z) (a := ⟨g, o + t, none⟩) hgv.1
    have hyl : ys.length = nb * 1 := hS.1
    have hcell0 : w.cell? ⟨g, o + t, none⟩ = some ys[t] := hce t ys[t] (List.getElem?_eq_getElem (by omega))
    have hcell : (w.cell? ⟨g, o + t, none⟩).isSome = true := by rw [hcell0]; rfl
    generalize ys[t] = yt at hcell0
    have hset := hS.set_ (k := t) (by omega) (.int .u8 238)
    have hks := kept_set w ⟨g, o + t, none⟩ (.int .u8 238)
    have hP1 := Y.P.own (inp' := (some ⟨g, o, none⟩, nb, c', ys.set t (.int .u8 238))) hok hks (fun k hk q => by rw [show k = g from q, hgF]; exact ⟨rfl, by decide⟩) (fun _ _ => rfl) (Y.P.XI hks (fun k hk q r => by rw [show k = g from r, hgF] at q; exact absurd q (by decide)) fun _ _ => rfl) hset
    have Y1 : Ply w0 Z n (w.setCell ⟨g, o + t, none⟩ (.int .u8 238)) S0 D p A m ac st a ds [(T, 64, #[.int .i64 kd, .int .i64 id, .slice IA bs.length ic])] (some ⟨g, o, none⟩, nb, c', ys.set t (.int .u8 238)) s col l := ⟨hP1, Y.S, Y.st, Y.abs, Y.ag⟩
    have hwt : IntKind.i64.wrap ((t : Int) + 1) = ((t + 1 : Nat) : Int) := by rw [IntKind.wrap_i64]; omega
    have ih' := ih (t + 1) (w.setCell ⟨g, o + t, none⟩ (.int .u8 238))
    unfold plL2 plPost plB2 plB1 plL1 at ih' ⊢
    simp only [Try.f9, Option.getD_some] at ih' ⊢
    have hfz := hb.frozen (o + t)
    clear ih H hyl hce hS Y hP1
    repeat (first | refine Run.auto rfl ?_ | ((first | (apply Run.lq rfl rfl rfl rfl; (focus (intro w K hK; go_simp; exact hK))) | (refine Run.ln rfl rfl rfl rfl rfl (by kernel_rfl) ?_) | (refine Run.not rfl rfl ?_)); try simp only [Act.put, Act.eval, nrmL, Nat.reduceAdd]) | (refine Run.rg ?_; simp only [nrmL, rngL, Nat.reduceAdd]) | refine Run.cT rfl ?_ | refine Run.cF rfl ?_ | refine Run.rt ?_ | refine Run.nd ?_)
    try simp only [hlt]
    repeat (first | refine Run.auto rfl ?_ | ((first | (apply Run.lq rfl rfl rfl rfl; (focus (intro w K hK; go_simp; exact hK))) | (refine Run.ln rfl rfl rfl rfl rfl (by kernel_rfl) ?_) | (refine Run.not rfl rfl ?_)); try simp only [Act.put, Act.eval, nrmL, Nat.reduceAdd]) | (refine Run.rg ?_; simp only [nrmL, rngL, Nat.reduceAdd]) | refine Run.cT rfl ?_ | refine Run.cF rfl ?_ | refine Run.rt ?_ | refine Run.nd ?_)
    refine Run.stO (⟨g, o + t, none⟩) (.int .u8 238) rfl rfl (by decide) rfl rfl rfl rfl rfl (by kernel_rfl) rfl (hcell) (hfz) (fg.2) (fg.1) (hgv.2) ?_
    try simp only [Act.put, Act.eval, nrmL, Nat.reduceAdd]
    repeat (first | refine Run.auto rfl ?_ | ((first | (apply Run.lq rfl rfl rfl rfl; (focus (intro w K hK; go_simp; exact hK))) | (refine Run.ln rfl rfl rfl rfl rfl (by kernel_rfl) ?_) | (refine Run.not rfl rfl ?_)); try simp only [Act.put, Act.eval, nrmL, Nat.reduceAdd]) | (refine Run.rg ?_; simp only [nrmL, rngL, Nat.reduceAdd]) | refine Run.cT rfl ?_ | refine Run.cF rfl ?_ | refine Run.rt ?_ | refine Run.nd ?_)
    refine Run.ctl (fun _ => stepG_inLoop) rfl ?_
    exact ih' _ _ _ _ _ _ _ _ _ _ _ _ _ _ _ _ _ _ _ _ _ _ _ _ _ _ _ _ _ _ _ _ _ _ _ _ _ _ _ _ _ _ _ _ _ _ _ _ _ _ _ _ _ _ _ _ _ _ _ _ _ _ _ _ _ _ _ _ _ _ _ _ _ _ _ _ _ _ _ _ _ _ _ _ _ _ _ _ _ _ _ _ _ _ _ _ _ _ _ _ _ _ _ _ _ _ _ _ _ _ _ _ _ _ _ _ _ _ _ _ _ _ _ _ _ _ (by omega) Y1
end
end Go.Proofs.Ytfpkachoneaaeaa
namespace Go.Proofs.Ytfpkachoneaaeaa
open Go Go.Conc Go.RowKit
section
variable {Post : Value → World → Prop} {stk : List Frame} {w0 : World} {S0 D p : Nat} {SA : Option Addr} {N sc j : Nat} {A : Option Addr} {m ac : Nat} {st : Bool} {a : Ab} {ds : List (Int × ByteArray)} {T : Nat} {kd id : Int} {IA : Option Addr} {ic : Nat} {bs : List UInt8} {Z : Scene} {n : Nat} {w : World} {s : Sy} {col : Nat → Nat × Int} {l : List Bx}
set_option maxRecDepth 50000 in
set_option maxHeartbeats 4000000 in
theorem pl_post {x : Act} {inp : Option Addr × Nat × Nat × List Value} (Y : Ply w0 Z n w S0 D p A m ac st a ds [(T, 64, #[.int .i64 kd, .int .i64 id, .slice IA bs.length ic])] inp s col l) (hx : Live x S0 D p SA N sc A m ac j (.pointer (some ⟨T, 0, none⟩))) (hit : Rd w0 (fun k => k < w0.heap.size ∧ ¬ JunkAt w0 k) IA (bvs bs)) (hbl : bs.length ≤ 1048576) (ha : a.length < 2000000000) {kk : List Item}
    (H : ∀ Z' n' w' x' s' col' l' inp', Ply w0 Z' n' w' S0 D p A m ac st (postB st a id bs).1 ds [(T, 64, #[.int .i64 kd, .int .i64 id, .slice IA bs.length ic])] inp' s' col' l' → n' ≤ n + 1 → Live x' S0 D p SA N sc A m ac j (.pointer (some ⟨T, 0, none⟩)) → Run Try.prog Post Z' n' 0 0 (G ((base 9).at x' kk) stk) w') :
    Run Try.prog Post Z n 0 0 (G ((base 9).at x (.code plPost :: kk)) stk) w := by
  obtain ⟨f, rfl⟩ := hx.open
  clear hx
  refine Run.okG fun hok => ?_
  have f0 : ¬ Z.Hd w.heap.size := hok.fresh (Nat.le_refl _)
  have P0 := Y.P
  obtain ⟨hBT, hcT⟩ := P0.X _ (.head _)
  have hsT := P0.sp T hBT.lt (by rw [hcT]; decide)
  have fT := Scene.free (Z := Z) (a := ⟨T, 2, none⟩) hsT.2.2.1
  have k1 : Kept noneS w (w.alloc (.cells #[] 5)) := (Kept.refl _ _).alloc _
  have hBT1 := hBT.keep k1 fun q => q
  have hr1 := (P0.oldrow hit).keep k1 fun _ _ _ q => q
  have hcl : ∀ k, Z.C k → k < w.heap.size := fun k q => hok.chanlt q
  have hsz1 : (w.alloc (.cells #[] 5)).heap.size = w.heap.size + 1 := by simp
  have hr11 := fun I c' w1 (col1 : Nat → Nat × Int) (Y1 : Ply w0 Z n w1 S0 D p A m ac st a ds [(T, 64, #[.int .i64 kd, .int .i64 id, .slice IA bs.length ic])] (I, bs.length, c', bvs bs) s col1 l) => pl_r11 (Post := Post) (stk := stk) (SA := SA) (N := N) (sc := sc) (j := j) (w := w1) (n := n) (col := col1) (I := I) (c' := c') Y1 hit hbl ha
  unfold plR11 plPost plB2 plB1 plL1 at hr11
  unfold plPost plB2 plB1 plL1
  simp only [Try.f9, Option.getD_some] at hr11 ⊢
  repeat (first | refine Run.auto rfl ?_ | ((first | (apply Run.lq rfl rfl rfl rfl; (focus (intro w K hK; go_simp; exact hK))) | (refine Run.ln rfl rfl rfl rfl rfl (by kernel_rfl) ?_) | (refine Run.not rfl rfl ?_)); try simp only [Act.put, Act.eval, nrmL, Nat.reduceAdd]) | (refine Run.rg ?_; simp only [nrmL, rngL, Nat.reduceAdd]) | refine Run.cT rfl ?_ | refine Run.cF rfl ?_ | refine Run.rt ?_ | refine Run.nd ?_)
  refine Run.made theEnv rfl rfl (by decide) rfl (fun _ _ q => by cases q) (.slice (some ⟨w.heap.size, 0, none⟩) 0 0) (.cells #[] 5) (fun u _ hus => by clear hr11 H Y P0; go_simp) f0 ?_
  try simp only [Act.put, Act.eval, nrmL, Nat.reduceAdd]
  generalize w.alloc (.cells #[] 5) = w1 at *
  repeat (first | refine Run.auto rfl ?_ | ((first | (apply Run.lq rfl rfl rfl rfl; (focus (intro w K hK; go_simp; exact hK))) | (refine Run.ln rfl rfl rfl rfl rfl (by kernel_rfl) ?_) | (refine Run.not rfl rfl ?_)); try simp only [Act.put, Act.eval, nrmL, Nat.reduceAdd]) | (refine Run.rg ?_; simp only [nrmL, rngL, Nat.reduceAdd]) | refine Run.cT rfl ?_ | refine Run.cF rfl ?_ | refine Run.rt ?_ | refine Run.nd ?_)
  refine Run.ld (a := ⟨T, 2, none⟩) (v := .slice IA bs.length ic) rfl rfl (by decide) (hBT1.cell 2) (fT.2) (fun w₁ hld => ⟨by go_simp, by simp [go_sem, hld]⟩) ?_
  try simp only [Act.put, Act.eval, nrmL, Nat.reduceAdd]
  refine Run.append (F := fun k => w1.heap.size ≤ k) (GF := (fun k => k < w0.heap.size ∧ ¬ JunkAt w0 k)) (xs := []) (ys := bvs bs) (m := 0) (l := bs.length) theEnv rfl rfl (by decide) rfl rfl rfl Try.underlying27 infoU8 rfl (by decide) ⟨rfl, .inl ⟨rfl, rfl⟩⟩ hr1 (by simp [bvs]) (fun u hu => by obtain ⟨b, _, rfl⟩ := List.mem_map.1 hu; rfl) (by simp [maxLen]; omega) (by omega) (Nat.le_refl _) (fun k hk q => by omega) (fun k _ q => (P0.oldvis q).1) ?_
  intro I c' w2 hS2 k2
  simp only [Nat.zero_add, List.nil_append] at hS2 ⊢
  have k12 : Kept noneS w w2 := k1.trans2 k2 fun k hk q => by have : w1.heap.size ≤ k := q; omega
  have P2 : Pst w0 Z n w2 s (fun k => if k < w.heap.size then col k else (0, 2)) D p A ac m m (didV ds) (didV ds) l st [(T, 64, #[.int .i64 kd, .int .i64 id, .slice IA bs.length ic])] (I, bs.length, c', bvs bs) :=
    P0.own hok k12 (fun _ _ q => q.elim) (fun k hk => if_pos hk) (P0.XI k12 (fun _ _ _ q => q) fun k hk => if_pos hk) (hS2.mono fun k _ q => if_neg (by have : w1.heap.size ≤ k := q; omega))
  have hr11' := hr11 I c' w2 _ ⟨P2, Y.S, Y.st, Y.abs, Y.ag⟩
  clear hr11 hBT1 hr1 hBT hcT hsT fT P0 k1 k2 hS2 P2 k12 Y
  try simp only [Act.put, Act.eval, nrmL, Nat.reduceAdd]
  repeat (first | refine Run.auto rfl ?_ | ((first | (apply Run.lq rfl rfl rfl rfl; (focus (intro w K hK; go_simp; exact hK))) | (refine Run.ln rfl rfl rfl rfl rfl (by kernel_rfl) ?_) | (refine Run.not rfl rfl ?_)); try simp only [Act.put, Act.eval, nrmL, Nat.reduceAdd]) | (refine Run.rg ?_; simp only [nrmL, rngL, Nat.reduceAdd]) | refine Run.cT rfl ?_ | refine Run.cF rfl ?_ | refine Run.rt ?_ | refine Run.nd ?_)
  refine hr11' _ _ _ _ _ _ _ _ _ _ _ _ _ _ _ _ _ _ _ _ _ _ _ _ _ _ _ _ _ _ _ _ _ _ _ _ _ _ _ _ _ _ _ _ _ _ _ _ _ _ _ _ _ _ _ _ _ _ _ _ _ _ _ _ _ _ _ _ _ _ _ _ _ _ _ _ _ _ _ _ _ _ _ _ _ _ _ _ _ _ _ _ _ _ _ _ _ _ _ _ _ _ _ _ _ _ _ _ _ _ _ _ _ _ _ _ _ _ _ _ _ _ _ _ _ _ _ _ fun Z3 n3 w3 s3 col3 l3 Y3 hn3 => ?_
  clear hr11'
  have hl2 := pl_loop2 (Post := Post) (stk := stk) (SA := SA) (N := N) (sc := sc) (j := j) (I := I) (c' := c') (kk := kk) hbl (fun w' x' ys' Y' L' => H Z3 n3 w' x' s3 col3 l3 _ Y' hn3 L') bs.length 0 w3
  unfold plL2 plPost plB2 plB1 plL1 at hl2
  simp only [Try.f9, Option.getD_some] at hl2
  clear H
  repeat (first | refine Run.auto rfl ?_ | ((first | (apply Run.lq rfl rfl rfl rfl; (focus (intro w K hK; go_simp; exact hK))) | (refine Run.ln rfl rfl rfl rfl rfl (by kernel_rfl) ?_) | (refine Run.not rfl rfl ?_)); try simp only [Act.put, Act.eval, nrmL, Nat.reduceAdd]) | (refine Run.rg ?_; simp only [nrmL, rngL, Nat.reduceAdd]) | refine Run.cT rfl ?_ | refine Run.cF rfl ?_ | refine Run.rt ?_ | refine Run.nd ?_)
  refine Run.ctl (fun _ => stepG_loop) rfl ?_
  exact hl2 _ _ _ _ _ _ _ _ _ _ _ _ _ _ _ _ _ _ _ _ _ _ _ _ _ _ _ _ _ _ _ _ _ _ _ _ _ _ _ _ _ _ _ _ _ _ _ _ _ _ _ _ _ _ _ _ _ _ _ _ _ _ _ _ _ _ _ _ _ _ _ _ _ _ _ _ _ _ _ _ _ _ _ _ _ _ _ _ _ _ _ _ _ _ _ _ _ _ _ _ _ _ _ _ _ _ _ _ _ _ _ _ _ _ _ _ _ _ _ _ _ _ _ _ _ _ (by omega) Y3
end
end Go.Proofs.Ytfpkachoneaaeaa
