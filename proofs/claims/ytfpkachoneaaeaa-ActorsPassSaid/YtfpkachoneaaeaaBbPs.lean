/-
  ActorsPass's closure, in company: what it does with an item.
-/
import Derived.Test.YtfpkachoneaaeaaBbPsP
import Derived.Test.YtfpkachoneaaeaaBbDraw
set_option linter.unusedSimpArgs false
set_option linter.unusedVariables false
namespace Go.Proofs.Ytfpkachoneaaeaa
open Go Go.Conc Go.RowKit
/-- A variable of the client's, alone in its block. -/
structure Cel (w : World) (M : Nat → Prop) (D : Nat) (t : TypeId) (v : Value) : Prop where
  mem : M D
  blk : Blk w D t #[v]
theorem Cel.keep {w w' : World} {M F : Nat → Prop} {D : Nat} {t : TypeId} {v : Value} (L : Cel w M D t v) (hk : Kept F w w') (hF : ∀ k, k < w.heap.size → M k → F k → False) : Cel w' M D t v :=
  ⟨L.mem, L.blk.keep hk fun q => hF D L.blk.lt L.mem q⟩
theorem Cel.mono {w : World} {M M' : Nat → Prop} {D : Nat} {t : TypeId} {v : Value} (L : Cel w M D t v) (h : ∀ k, k < w.heap.size → M k → M' k) : Cel w M' D t v :=
  ⟨h D L.blk.lt L.mem, L.blk⟩
theorem Left2.cel {w0 w w' : World} {Z Z' : Scene} {s s' : Sy} {D : Nat} {t : TypeId} {v : Value} (h : Left2 Z w s Z' s') (L : Cel w (Go.Proofs.Ytfpkachoneaaeaa.space w0 Z s) D t v) (hk : Kept (fun k => s.own k ≠ (0, 0)) w w') : Cel w' (Go.Proofs.Ytfpkachoneaaeaa.space w0 Z' s') D t v :=
  ((L.mono fun k hk q => (⟨q, h.space hk q⟩ : Go.Proofs.Ytfpkachoneaaeaa.space w0 Z s k ∧ Go.Proofs.Ytfpkachoneaaeaa.space w0 Z' s' k)).keep hk fun k _ q r => r q.1.2.1).mono fun k _ q => q.2
theorem rd_tail {w : World} {F : Nat → Prop} {IA : Option Addr} {ic : Nat} {b : UInt8} {r : List UInt8} (h : RB w F IA (b :: r)) (hc : r.length + 1 ≤ ic) : RB w F (if ic = 1 then IA else IA.map (·.add 1)) r := by
  by_cases q : ic = 1
  · have : r = [] := List.eq_nil_of_length_eq_zero (by omega)
    subst this
    exact .inl rfl
  · rw [if_neg q]
    rcases h with e | ⟨g, o, e1, e2, e3⟩
    · cases e
    · refine .inr ⟨g, o + 1, by rw [e1]; rfl, e2, fun j u hj => ?_⟩
      have := e3 (j + 1) u (by simpa [bvs] using hj)
      rw [show o + 1 + j = o + (j + 1) by omega]
      exact this
section
variable {Z : Scene} {n : Nat} {hd : Option (Nat × Chair)} {w : World} {s : Sy} {Post : Value → World → Prop} {h : Nat} {c : Frame} {cs : List Frame}
set_option maxRecDepth 50000 in
set_option maxHeartbeats 2000000 in
theorem ps1_run (R : Rep Z n hd w s 0) {D V Gb m rg id ic : Nat} {IA : Option Addr} {bs : List UInt8} {GF : Nat → Prop}
    (hD : Blk w D 3 #[.int .i64 (m : Int)]) (hV : Blk w V 25 #[.pointer (some ⟨s.S, 0, none⟩)]) (hG : Blk w Gb 3 #[.int .i64 (rg : Int)])
    (vD : s.own D = (0, 0) ∧ ¬ Z.Hd D ∧ ¬ Z.C D) (vV : ¬ Z.Hd V) (vG : ¬ Z.Hd Gb) (hDV : V ≠ D) (hDG : Gb ≠ D) (hm : m < 1000) (hrg : 0 < rg) (hrg8 : rg ≤ 8) (hid : id < 8)
    (hI : SegV w GF 5 1 IA bs.length ic (bvs bs)) (hbl : bs.length ≤ 31) (hGF : ∀ k, k < w.heap.size → GF k → k ≠ D ∧ ¬ Z.Hd k) (hv : s.ents.length < 2000000000)
    (hpost : ∀ b r, bs = b :: r → (postA s (((id + 1) % rg : Nat) : Int) r).2 = true)
    (HN : bs = [] → ∀ w', Rep Z n hd w' s 0 → Blk w' D 3 #[.int .i64 ((m : Int) + 1)] → Kept (· = D) w w' → Run Try.prog Post Z n h 0 (G (c.finish (.tuple #[])) cs) w')
    (HP : ∀ b r, bs = b :: r → ∀ Z' n' s' w' w1, Rep Z' n' hd w' s' 0 → s'.abs = (postA s (((id + 1) % rg : Nat) : Int) r).1 → Ext Z n w1 s Z' n' w' s' → Kept (· = D) w w1 → Blk w1 D 3 #[.int .i64 ((m : Int) + 1)] → w1.heap.size = w.heap.size → Run Try.prog Post Z' n' h 0 (G (c.finish (.tuple #[])) cs) w') :
    Run Try.prog Post Z n h 0 (G ((base 12).at { tmps := #[.int .i64 (id : Int), .slice IA bs.length ic, .pointer (some ⟨D, 0, none⟩), .pointer (some ⟨V, 0, none⟩), .pointer (some ⟨Gb, 0, none⟩)] ++ Array.replicate (Try.f12.ntmps - 5) undef, defers := [] } [.code (Try.f12.body.getD .skip)]) (c :: cs)) w := by
  refine Run.okG fun hok => ?_
  have fD := Scene.free (Z := Z) (a := ⟨D, 0, none⟩) vD.2.1
  have nC := hok.cells hD
  have hwm : IntKind.i64.wrap ((m : Int) + 1) = (m : Int) + 1 := by rw [IntKind.wrap_i64]; omega
  simp only [Try.ntmps12]
  try simp only [Act.put, Act.eval, nrmL, Nat.reduceAdd, Nat.reduceSub]
  simp only [Try.f12, Option.getD_some]
  repeat (first | refine Run.auto rfl ?_ | ((first | (apply Run.lq rfl rfl rfl rfl; (focus (intro w K hK; go_simp; exact hK))) | (refine Run.ln rfl rfl rfl rfl rfl (by kernel_rfl) ?_) | (refine Run.not rfl rfl ?_)); try simp only [Act.put, Act.eval, nrmL, Nat.reduceAdd]) | (refine Run.rg ?_; simp only [nrmL, rngL, Nat.reduceAdd]) | refine Run.cT rfl ?_ | refine Run.cF rfl ?_ | refine Run.rt ?_ | refine Run.nd ?_)
  refine Run.ld (a := ⟨D, 0, none⟩) (v := .int .i64 (m : Int)) rfl rfl (by decide) (hD.cell 0) (fD.2) (fun w₁ hld => ⟨by go_simp, by simp [go_sem, hld]⟩) ?_
  try simp only [Act.put, Act.eval, nrmL, Nat.reduceAdd]
  repeat (first | refine Run.auto rfl ?_ | ((first | (apply Run.lq rfl rfl rfl rfl; (focus (intro w K hK; go_simp; exact hK))) | (refine Run.ln rfl rfl rfl rfl rfl (by kernel_rfl) ?_) | (refine Run.not rfl rfl ?_)); try simp only [Act.put, Act.eval, nrmL, Nat.reduceAdd]) | (refine Run.rg ?_; simp only [nrmL, rngL, Nat.reduceAdd]) | refine Run.cT rfl ?_ | refine Run.cF rfl ?_ | refine Run.rt ?_ | refine Run.nd ?_)
  refine Run.stO (⟨D, 0, none⟩) (.int .i64 ((m : Int) + 1)) rfl rfl (by decide) rfl rfl rfl rfl rfl (by kernel_rfl) rfl ((by rw [hD.cell 0]; rfl)) (hD.frozen 0) (fD.2) (fD.1) (nC) ?_
  try simp only [Act.put, Act.eval, nrmL, Nat.reduceAdd]
  have hk1 := kept_set w ⟨D, 0, none⟩ (.int .i64 ((m : Int) + 1))
  have hD1 := hD.set_ 0 (.int .i64 ((m : Int) + 1))
  have hV1 := hV.keep hk1 hDV
  have hG1 := hG.keep hk1 hDG
  have hI1 := hI.keep hk1 fun k hk q r => (hGF k hk q).1 r
  have hsz : (w.setCell ⟨D, 0, none⟩ (.int .i64 ((m : Int) + 1))).heap.size = w.heap.size := by simp
  have R1 := R.keep hk1 fun k q => by rw [show k = D from q]; exact vD.1
  replace hk1 : Kept (· = D) w (w.setCell ⟨D, 0, none⟩ (.int .i64 ((m : Int) + 1))) := hk1
  generalize w.setCell ⟨D, 0, none⟩ (.int .i64 ((m : Int) + 1)) = w1 at *
  cases bs with
  | nil =>
    clear HP hpost
    simp only [List.length_nil] at hI hI1 ⊢
    repeat (first | refine Run.auto rfl ?_ | ((first | (apply Run.lq rfl rfl rfl rfl; (focus (intro w K hK; go_simp; exact hK))) | (refine Run.ln rfl rfl rfl rfl rfl (by kernel_rfl) ?_) | (refine Run.not rfl rfl ?_)); try simp only [Act.put, Act.eval, nrmL, Nat.reduceAdd]) | (refine Run.rg ?_; simp only [nrmL, rngL, Nat.reduceAdd]) | refine Run.cT rfl ?_ | refine Run.cF rfl ?_ | refine Run.rt ?_ | refine Run.nd ?_)
    refine Run.leave0 rfl rfl Try.func12 (by rfl) ?_
    try rw [Frame.finish_at]
    try simp only [Act.put, Act.eval, nrmL, Nat.reduceAdd]
    exact HN rfl w1 R1 hD1 hk1
  | cons b r =>
    clear HN
    have hgt : decide ((0 : Int) < (r.length : Int) + 1) = true := decide_eq_true (by omega)
    simp only [List.length_cons] at hI hI1 hbl ⊢
    have hcap : r.length + 1 ≤ ic := hI1.cap
    have hrd : RB w1 GF IA (b :: r) := hI1.rd
    have hrt := rd_tail hrd hcap
    repeat (first | refine Run.auto rfl ?_ | ((first | (apply Run.lq rfl rfl rfl rfl; (focus (intro w K hK; go_simp; exact hK))) | (refine Run.ln rfl rfl rfl rfl rfl (by kernel_rfl) ?_) | (refine Run.not rfl rfl ?_)); try simp only [Act.put, Act.eval, nrmL, Nat.reduceAdd]) | (refine Run.rg ?_; simp only [nrmL, rngL, Nat.reduceAdd]) | refine Run.cT rfl ?_ | refine Run.cF rfl ?_ | refine Run.rt ?_ | refine Run.nd ?_)
    try simp only [hgt]
    repeat (first | refine Run.auto rfl ?_ | ((first | (apply Run.lq rfl rfl rfl rfl; (focus (intro w K hK; go_simp; exact hK))) | (refine Run.ln rfl rfl rfl rfl rfl (by kernel_rfl) ?_) | (refine Run.not rfl rfl ?_)); try simp only [Act.put, Act.eval, nrmL, Nat.reduceAdd]) | (refine Run.rg ?_; simp only [nrmL, rngL, Nat.reduceAdd]) | refine Run.cT rfl ?_ | refine Run.cF rfl ?_ | refine Run.rt ?_ | refine Run.nd ?_)
    have cV : ∀ u, Kept Z.Hd w1 u → u.cell? ⟨V, 0, none⟩ = some (.pointer (some ⟨s.S, 0, none⟩)) := fun u hu => (hu.cell (p := ⟨V, 0, none⟩) hV1.lt vV).trans (hV1.cell 0)
    have cG : ∀ u, Kept Z.Hd w1 u → u.cell? ⟨Gb, 0, none⟩ = some (.int .i64 (rg : Int)) := fun u hu => (hu.cell (p := ⟨Gb, 0, none⟩) hG1.lt vG).trans (hG1.cell 0)
    have hwi : IntKind.i64.wrap ((id : Int) + 1) = (id : Int) + 1 := by rw [IntKind.wrap_i64]; omega
    have hr0 : ((rg : Int) == 0) = false := by simp; omega
    have hn0 : ¬ rg = 0 := by omega
    have hrem : Int.tmod ((id : Int) + 1) (rg : Int) = (((id + 1) % rg : Nat) : Int) := by
      rw [Int.tmod_eq_emod_of_nonneg (by omega)]
      simp
    have hlt8 : (id + 1) % rg < 8 := Nat.lt_of_lt_of_le (Nat.mod_lt _ hrg) hrg8
    have hwr : IntKind.i64.wrap ((((id + 1) % rg : Nat) : Int)) = (((id + 1) % rg : Nat) : Int) := by rw [IntKind.wrap_i64]; omega
    refine Run.readsCall theEnv ⟨#[.int .i64 (id : Int), .slice IA (r.length + 1) ic, .pointer (some ⟨D, 0, none⟩), .pointer (some ⟨V, 0, none⟩), .pointer (some ⟨Gb, 0, none⟩), undef, undef, .int .i64 (m : Int), .int .i64 ((m : Int) + 1), .slice IA (r.length + 1) ic, .int .i64 ((r.length : Int) + 1), .bool true, .pointer (some ⟨s.S, 0, none⟩), .int .i64 (id : Int), .int .i64 ((id : Int) + 1), .int .i64 (rg : Int), .int .i64 (((id + 1) % rg : Nat) : Int), .slice IA (r.length + 1) ic, .slice (if ic = 1 then IA else IA.map (·.add 1)) r.length (ic - 1), undef], []⟩ ⟨#[.int .i64 (id : Int), .slice IA (r.length + 1) ic, .pointer (some ⟨D, 0, none⟩), .pointer (some ⟨V, 0, none⟩), .pointer (some ⟨Gb, 0, none⟩), undef, undef, .int .i64 (m : Int), .int .i64 ((m : Int) + 1), .slice IA (r.length + 1) ic, .int .i64 ((r.length : Int) + 1), .bool true, .pointer (some ⟨s.S, 0, none⟩), .int .i64 (id : Int), .int .i64 ((id : Int) + 1), .int .i64 (rg : Int), .int .i64 (((id + 1) % rg : Nat) : Int), .slice IA (r.length + 1) ic, .slice (if ic = 1 then IA else IA.map (·.add 1)) r.length (ic - 1), .bool true], []⟩ [] 7 _ (.bool true) (fun Z' n' w' => ∃ s', Rep Z' n' hd w' s' 0 ∧ s'.abs = (postA s (((id + 1) % rg : Nat) : Int) r).1 ∧ Ext Z n w1 s Z' n' w' s') 20 20 rfl (by decide) (by kernel_rfl) (by kernel_rfl) (by kernel_rfl) (by kernel_rfl)
      (Ag.start 12 19 20 rfl rfl rfl rfl rfl (by kernel_rfl)) (by kernel_rfl) (by kernel_rfl) rfl (fun t q => by cases q; rfl) rfl rfl rfl rfl ?_ ?_ ?_ ?_
    · intro i o ho hi7
      match i, hi7 with
        | 0, _ =>
          simp only [List.getElem?_toArray, List.getElem?_cons_succ, List.getElem?_cons_zero, Nat.reduceAdd] at ho
          obtain rfl := Option.some.inj ho
          exact ⟨(fun cs b q => by cases q), .inl ⟨rfl, rfl, (fun _ _ _ q => by cases q), .pointer (some ⟨s.S, 0, none⟩), (fun u hu _ => by have hc := cV u hu; go_simp), fun k hk => by cases hk; rfl⟩⟩
        | 1, _ =>
          simp only [List.getElem?_toArray, List.getElem?_cons_succ, List.getElem?_cons_zero, Nat.reduceAdd] at ho
          obtain rfl := Option.some.inj ho
          exact ⟨(fun cs b q => by cases q), .inl ⟨rfl, rfl, (fun _ _ _ q => by cases q), .int .i64 (id : Int), (fun u hu _ => by go_simp), fun k hk => by cases hk; rfl⟩⟩
        | 2, _ =>
          simp only [List.getElem?_toArray, List.getElem?_cons_succ, List.getElem?_cons_zero, Nat.reduceAdd] at ho
          obtain rfl := Option.some.inj ho
          exact ⟨(fun cs b q => by cases q), .inl ⟨rfl, rfl, (fun _ _ _ q => by cases q), .int .i64 ((id : Int) + 1), (fun u hu _ => by go_simp), fun k hk => by cases hk; rfl⟩⟩
        | 3, _ =>
          simp only [List.getElem?_toArray, List.getElem?_cons_succ, List.getElem?_cons_zero, Nat.reduceAdd] at ho
          obtain rfl := Option.some.inj ho
          exact ⟨(fun cs b q => by cases q), .inl ⟨rfl, rfl, (fun _ _ _ q => by cases q), .int .i64 (rg : Int), (fun u hu _ => by have hc := cG u hu; go_simp), fun k hk => by cases hk; rfl⟩⟩
        | 4, _ =>
          simp only [List.getElem?_toArray, List.getElem?_cons_succ, List.getElem?_cons_zero, Nat.reduceAdd] at ho
          obtain rfl := Option.some.inj ho
          exact ⟨(fun cs b q => by cases q), .inl ⟨rfl, rfl, (fun _ _ _ q => by cases q), .int .i64 (((id + 1) % rg : Nat) : Int), (fun u hu _ => by go_simp), fun k hk => by cases hk; rfl⟩⟩
        | 5, _ =>
          simp only [List.getElem?_toArray, List.getElem?_cons_succ, List.getElem?_cons_zero, Nat.reduceAdd] at ho
          obtain rfl := Option.some.inj ho
          exact ⟨(fun cs b q => by cases q), .inl ⟨rfl, rfl, (fun _ _ _ q => by cases q), .slice IA (r.length + 1) ic, (fun u hu _ => by go_simp), fun k hk => by cases hk; rfl⟩⟩
        | 6, _ =>
          simp only [List.getElem?_toArray, List.getElem?_cons_succ, List.getElem?_cons_zero, Nat.reduceAdd] at ho
          obtain rfl := Option.some.inj ho
          exact ⟨(fun cs b q => by cases q), .inl ⟨rfl, rfl, (fun _ _ _ q => by cases q), .slice (if ic = 1 then IA else IA.map (·.add 1)) r.length (ic - 1), (fun u hu _ => by exact run_tail (sz := 1) rfl rfl Try.underlying27 (by kernel_rfl)), fun k hk => by cases hk; rfl⟩⟩
    · intro i o ho hi8
      have h8 : i < 8 := (Array.getElem?_eq_some_iff.1 ho).1
      omega
    · intro rest cont
      refine Run.enter rfl rfl (by decide) rfl Try.func13 (by kernel_rfl) rfl ?_
      simp only [Act.eval, nrmL, Nat.reduceAdd]
      refine post_run (bs := r) R1 (((id + 1) % rg : Nat) : Int) hrt (fun k hk q => (hGF k (by omega) q).2) (by omega) hv fun Z' n' s' w' ok R' ha hx => ?_
      have hok' := hpost b r rfl
      rw [Frame.finish_at]
      have e1 : s'.abs = (postA s (((id + 1) % rg : Nat) : Int) r).1 := by rw [← ha]
      have e2 : ok = true := by rw [← hok', ← ha]
      subst e2
      try simp only [Act.put, Act.eval, nrmL, Nat.reduceAdd]
      exact cont Z' n' w' ⟨s', R', e1, hx⟩
    · rintro Z' n' w' ⟨s', R', ha, hx⟩
      repeat (first | refine Run.auto rfl ?_ | ((first | (apply Run.lq rfl rfl rfl rfl; (focus (intro w K hK; go_simp; exact hK))) | (refine Run.ln rfl rfl rfl rfl rfl (by kernel_rfl) ?_) | (refine Run.not rfl rfl ?_)); try simp only [Act.put, Act.eval, nrmL, Nat.reduceAdd]) | (refine Run.rg ?_; simp only [nrmL, rngL, Nat.reduceAdd]) | refine Run.cT rfl ?_ | refine Run.cF rfl ?_ | refine Run.rt ?_ | refine Run.nd ?_)
      refine Run.leave0 rfl rfl Try.func12 (by rfl) ?_
      try rw [Frame.finish_at]
      try simp only [Act.put, Act.eval, nrmL, Nat.reduceAdd]
      exact HP b r rfl Z' n' s' w' w1 R' ha hx hk1 hD1 hsz
end
end Go.Proofs.Ytfpkachoneaaeaa
