/-
  plays, piece by piece: plays, whole; ActorsPlays.
-/
import Derived.Test.YtfpkachoneaaeaaPl12
import Derived.Test.YtfpkachoneaaeaaBbSpk
set_option linter.unusedSimpArgs false
set_option linter.unusedVariables false
namespace Go.Proofs.Ytfpkachoneaaeaa
open Go Go.Conc Go.RowKit
noncomputable def plBody : Code := Try.f9.body.getD .skip
noncomputable def plR0 : Code := match plBody with
  | .seq c _ => c
  | _ => .skip
noncomputable def plR1 : Code := match plBody with
  | .seq _ (.seq c _) => c
  | _ => .skip
noncomputable def plR2 : Code := match plBody with
  | .seq _ (.seq _ (.seq c _)) => c
  | _ => .skip
noncomputable def plR3 : Code := match plBody with
  | .seq _ (.seq _ (.seq _ (.seq (.seq c _) _))) => c
  | _ => .skip
theorem plBody_eq : Try.f9.body.getD .skip = .seq plR0 (.seq plR1 (.seq plR2 (.seq (.seq plR3 (.block 0 (.loop plL1))) plRest))) := rfl
section
variable {Post : Value → World → Prop} {c : Frame} {cs : List Frame} {w0 : World} {D : Nat} {SA : Option Addr} {N sc : Nat} {Z : Scene} {n : Nat} {w : World} {s : Sy}
set_option maxRecDepth 50000 in
set_option maxHeartbeats 4000000 in
theorem plays_run {ops : List Ap} {n0 : Nat} (hN : ops.length = N) (hN2 : N ≤ 1048576) (hn0 : n0 ≤ 1000000) (hn : n ≤ n0) (hsc : Rd w0 (fun k => k < w0.heap.size ∧ ¬ JunkAt w0 k) SA (ops.flatMap Ap.cells)) (hops : ∀ o ∈ ops, Rd w0 (fun k => k < w0.heap.size ∧ ¬ JunkAt w0 k) o.addr (bvs o.data) ∧ o.data.length ≤ 1048576 ∧ (Lit.int .i64 o.actor).wf = true)
    (K : Cli w0 Z n w s) (ha : s.abs = []) (hst : s.stopped = false) (hfd : s.fdo = .func (.func 8) #[] #[.pointer (some ⟨D, 0, none⟩)]) (L : LstV w (space w0 Z s) D 24 29 2 0 [])
    (H : ∀ Z' n' w' s', Cli w0 Z' n' w' s' → s'.S = s.S → n' ≤ n0 + N → Run Try.prog Post Z' n' 0 0 (G (c.finish (.bool true)) cs) w') :
    Run Try.prog Post Z n 0 0 (G ((base 9).at { tmps := #[.pointer (some ⟨s.S, 0, none⟩), .pointer (some ⟨D, 0, none⟩), .slice SA N sc] ++ Array.replicate (Try.f9.ntmps - 3) undef, defers := [] } [.code (Try.f9.body.getD .skip)]) (c :: cs)) w := by
  refine Run.okG fun hok => ?_
  have f0 : ¬ Z.Hd w.heap.size := hok.fresh (Nat.le_refl _)
  have f1 : ¬ Z.Hd (w.heap.size + 1) := hok.fresh (by omega)
  obtain ⟨col, hc1, hc2, hc3, hc4⟩ : ∃ col : Nat → Nat × Int, (∀ k, k < w.heap.size → space w0 Z s k → col k = (1, 0)) ∧ (∀ k, k < w.heap.size → ¬ space w0 Z s k → col k = (0, 0)) ∧ col w.heap.size = (3, 0) ∧ ∀ k, w.heap.size < k → col k = (0, 0) := by
    classical
    refine ⟨fun k => if k < w.heap.size then (if space w0 Z s k then (1, 0) else (0, 0)) else if k = w.heap.size then (3, 0) else (0, 0), fun k h q => ?_, fun k h q => ?_, ?_, fun k h => ?_⟩
    · show (if _ then _ else _) = _
      rw [if_pos h, if_pos q]
    · show (if _ then _ else _) = _
      rw [if_pos h, if_neg q]
    · show (if _ then _ else _) = _
      rw [if_neg (Nat.lt_irrefl _), if_pos rfl]
    · show (if _ then _ else _) = _
      rw [if_neg (by omega), if_neg (by omega)]
  have hlp := pl_loop (Post := Post) (stk := c :: cs) (w0 := w0) (S0 := s.S) (D := D) (p := w.heap.size) (SA := SA) (N := N) (sc := sc) rfl hN hN2 hn0 hsc hops (fun Z' n' w' s' col' l' A' m' ac' st' a' ds' ex' inp' Y hn' => H Z' n' w' s' Y.P.K Y.S hn') N 0
  clear H hsc hops
  rw [plBody_eq]
  simp only [Try.ntmps9]
  generalize plL1 = X at hlp ⊢
  generalize plRest = c39 at hlp ⊢
  try simp only [Act.put, Act.eval, nrmL, Nat.reduceAdd]
  unfold plR0 plR1 plR2 plR3 plBody
  simp only [Try.f9, Option.getD_some]
  repeat (first | refine Run.auto rfl ?_ | ((first | (apply Run.lq rfl rfl rfl rfl; (focus (intro w K hK; go_simp; exact hK))) | (refine Run.ln rfl rfl rfl rfl rfl (by kernel_rfl) ?_) | (refine Run.not rfl rfl ?_)); try simp only [Act.put, Act.eval, nrmL, Nat.reduceAdd]) | (refine Run.rg ?_; simp only [nrmL, rngL, Nat.reduceAdd]) | refine Run.cT rfl ?_ | refine Run.cF rfl ?_ | refine Run.rt ?_ | refine Run.nd ?_)
  refine Run.made theEnv rfl rfl (by decide) rfl (fun _ _ q => by cases q) (.pointer (some ⟨w.heap.size, 0, none⟩)) (.cells #[.slice none 0 0, .bool false] 62) (fun u _ hus => by clear hlp; go_simp) f0 ?_
  try simp only [Act.put, Act.eval, nrmL, Nat.reduceAdd]
  repeat (first | refine Run.auto rfl ?_ | ((first | (apply Run.lq rfl rfl rfl rfl; (focus (intro w K hK; go_simp; exact hK))) | (refine Run.ln rfl rfl rfl rfl rfl (by kernel_rfl) ?_) | (refine Run.not rfl rfl ?_)); try simp only [Act.put, Act.eval, nrmL, Nat.reduceAdd]) | (refine Run.rg ?_; simp only [nrmL, rngL, Nat.reduceAdd]) | refine Run.cT rfl ?_ | refine Run.cF rfl ?_ | refine Run.rt ?_ | refine Run.nd ?_)
  refine Run.made theEnv rfl rfl (by decide) rfl (fun _ _ q => by cases q) (.slice (some ⟨w.heap.size + 1, 0, none⟩) 0 0) (.cells #[] 29) (fun u _ hus => by simp at hus; clear hlp; go_simp) (by simpa using f1) ?_
  try simp only [Act.put, Act.eval, nrmL, Nat.reduceAdd]
  have e1 : (w.alloc (.cells #[.slice none 0 0, .bool false] 62)).heap.size = w.heap.size + 1 := by simp
  have k2 : Kept noneS w ((w.alloc (.cells #[.slice none 0 0, .bool false] 62)).alloc (.cells #[] 29)) := ((Kept.refl _ _).alloc _).alloc _
  have hB2 : Blk ((w.alloc (.cells #[.slice none 0 0, .bool false] 62)).alloc (.cells #[] 29)) w.heap.size 62 #[.slice none 0 0, .bool false] := by
    have h1 : Blk (w.alloc (.cells #[.slice none 0 0, .bool false] 62)) w.heap.size 62 #[.slice none 0 0, .bool false] := heap_alloc_new w _
    exact h1.keep (S := noneS) ((Kept.refl _ _).alloc _) fun q => q
  generalize (w.alloc (.cells #[.slice none 0 0, .bool false] 62)).alloc (.cells #[] 29) = w2 at *
  have PP : Pst w0 Z n w2 s col D w.heap.size (some ⟨w.heap.size + 1, 0, none⟩) 0 0 0 (didV []) (didV []) [] false [] (none, 0, 0, []) :=
    ⟨K.more k2, ((L.mono fun k hk q => (⟨q, hk⟩ : space w0 Z s k ∧ k < w.heap.size)).keep k2 fun _ _ _ q => q).mono fun k _ q => hc1 k q.2 q.1, ⟨rfl, .inl ⟨rfl, rfl⟩⟩, ⟨hc3, ⟨none, 0, hB2, SegV.nil _ _ _ _⟩, fun _ h => (by cases h), fun _ h => (by cases h), List.nodup_nil, by simp, fun _ h => (by cases h)⟩, fun k hk q => by
      by_cases h : k < w.heap.size
      · exact Classical.byContradiction fun r => q (hc2 k h r)
      · exact K.room hok k (by omega), hfd, fun _ h => (by cases h), SegV.nil _ _ _ _⟩
  have YY : Ply w0 Z n w2 s.S D w.heap.size (some ⟨w.heap.size + 1, 0, none⟩) 0 0 false [] [] [] (none, 0, 0, []) s col [] := ⟨PP, rfl, hst, ha, ⟨List.Perm.refl _, List.Pairwise.nil⟩⟩
  have hlp' := fun x v10 => hlp Z n w2 s col [] _ 0 0 false [] [] [] _ x v10 rfl (by omega) (Nat.le_refl _) Fine.nil YY
  clear hlp PP YY hc1 hc2 hc3 hc4 hB2 k2 e1 L K
  repeat (first | refine Run.auto rfl ?_ | ((first | (apply Run.lq rfl rfl rfl rfl; (focus (intro w K hK; go_simp; exact hK))) | (refine Run.ln rfl rfl rfl rfl rfl (by kernel_rfl) ?_) | (refine Run.not rfl rfl ?_)); try simp only [Act.put, Act.eval, nrmL, Nat.reduceAdd]) | (refine Run.rg ?_; simp only [nrmL, rngL, Nat.reduceAdd]) | refine Run.cT rfl ?_ | refine Run.cF rfl ?_ | refine Run.rt ?_ | refine Run.nd ?_)
  refine Run.ctl (fun _ => stepG_loop) rfl ?_
  refine hlp' _ undef ?_
  exact ⟨rfl, rfl, rfl, rfl, rfl, rfl, rfl, rfl, rfl, rfl⟩
end
section
variable {Post : Value → World → Prop} {stk : List Frame} {Z : Scene} {n : Nat} {w : World} {SA : Option Addr} {N sc : Nat}
set_option maxRecDepth 50000 in
set_option maxHeartbeats 4000000 in
theorem plays_whole {ops : List Ap} (hN : ops.length = N) (hN2 : N ≤ 1048576) (hsc : Rd w (fun k => k < w.heap.size ∧ ¬ JunkAt w k) SA (ops.flatMap Ap.cells)) (hops : ∀ o ∈ ops, Rd w (fun k => k < w.heap.size ∧ ¬ JunkAt w k) o.addr (bvs o.data) ∧ o.data.length ≤ 1048576 ∧ (Lit.int .i64 o.actor).wf = true)
    (hI : ∀ i, Z.Inb i = none) (hn : 0 < n) (hn2 : n < 1000) (hv : ∀ k, k < w.heap.size → (Z.Hd k → JunkAt w k) ∧ ¬ Z.C k)
    (H : ∀ Z' n' w' (x : Act) todo, (∀ i, Z'.Inb i = none) → Kept noneS w w' → x.defers = [] → x.tmps.getD 2 undef = .bool true → Run Try.prog Post Z' n' 0 0 (G { (base 3).at x todo with mode := .returning } stk) w') :
    Run Try.prog Post Z n 0 0 (G ((base 3).at { tmps := #[.slice SA N sc] ++ Array.replicate (Try.f3.ntmps - 1) undef, defers := [] } [.code (Try.f3.body.getD .skip)]) stk) w := by
  simp only [Try.ntmps3]
  try simp only [Act.put, Act.eval, nrmL, Nat.reduceAdd, Nat.reduceSub]
  simp only [Try.f3, Option.getD_some]
  repeat (first | refine Run.auto rfl ?_ | ((first | (apply Run.lq rfl rfl rfl rfl; (focus (intro w K hK; go_simp; exact hK))) | (refine Run.ln rfl rfl rfl rfl rfl (by kernel_rfl) ?_) | (refine Run.not rfl rfl ?_)); try simp only [Act.put, Act.eval, nrmL, Nat.reduceAdd]) | (refine Run.rg ?_; simp only [nrmL, rngL, Nat.reduceAdd]) | refine Run.cT rfl ?_ | refine Run.cF rfl ?_ | refine Run.rt ?_ | refine Run.nd ?_)
  refine Run.enter rfl rfl (by decide) rfl Try.func6 (by kernel_rfl) rfl ?_
  simp only [Act.eval, nrmL, Nat.reduceAdd]
  refine speaks_run hI hn (by omega) hv fun Z1 n1 w1 hI1 hn1 hnn1 hv1 k1 => ?_
  rw [Frame.finish_at]
  try simp only [Act.put, Act.eval, nrmL, Nat.reduceAdd]
  repeat (first | refine Run.auto rfl ?_ | ((first | (apply Run.lq rfl rfl rfl rfl; (focus (intro w K hK; go_simp; exact hK))) | (refine Run.ln rfl rfl rfl rfl rfl (by kernel_rfl) ?_) | (refine Run.not rfl rfl ?_)); try simp only [Act.put, Act.eval, nrmL, Nat.reduceAdd]) | (refine Run.rg ?_; simp only [nrmL, rngL, Nat.reduceAdd]) | refine Run.cT rfl ?_ | refine Run.cF rfl ?_ | refine Run.rt ?_ | refine Run.nd ?_)
  refine Run.okG fun hok => ?_
  have f0 : ¬ Z1.Hd w1.heap.size := hok.fresh (Nat.le_refl _)
  have f1 : ¬ Z1.Hd (w1.heap.size + 1) := hok.fresh (by omega)
  have hcl : ∀ c, Z1.C c → c < w1.heap.size := fun c hc => hok.chanlt hc
  refine Run.made theEnv rfl rfl (by decide) rfl (fun _ _ q => by cases q) (.slice (some ⟨w1.heap.size, 0, none⟩) 0 0) (.cells #[] 29) (fun u _ hus => by go_simp) f0 ?_
  try simp only [Act.put, Act.eval, nrmL, Nat.reduceAdd]
  refine Run.made theEnv rfl rfl (by decide) rfl (fun _ _ q => by cases q) (.pointer (some ⟨w1.heap.size + 1, 0, none⟩)) (.cells #[.slice none 0 0] 24) (fun u _ hus => by simp at hus; go_simp) (by simpa using f1) ?_
  try simp only [Act.put, Act.eval, nrmL, Nat.reduceAdd]
  have e1 : (w1.alloc (.cells #[] 29)).heap.size = w1.heap.size + 1 := by simp
  have k2 : Kept noneS w1 ((w1.alloc (.cells #[] 29)).alloc (.cells #[.slice none 0 0] 24)) := ((Kept.refl _ _).alloc _).alloc _
  have hB2 : Blk ((w1.alloc (.cells #[] 29)).alloc (.cells #[.slice none 0 0] 24)) (w1.heap.size + 1) 24 #[.slice none 0 0] := by
    have := heap_alloc_new (w1.alloc (.cells #[] 29)) (.cells #[.slice none 0 0] 24)
    rw [e1] at this
    exact this
  generalize (w1.alloc (.cells #[] 29)).alloc (.cells #[.slice none 0 0] 24) = w2 at *
  have hfree := Scene.free (Z := Z1) (a := ⟨w1.heap.size + 1, 0, none⟩) f1
  refine Run.stO (⟨w1.heap.size + 1, 0, none⟩) (.slice (some ⟨w1.heap.size, 0, none⟩) 0 0) rfl rfl (by decide) rfl rfl rfl rfl rfl (by kernel_rfl) rfl ((by rw [hB2.cell 0]; rfl)) (hB2.frozen 0) (hfree.2) (hfree.1) ((fun q => by have := hcl (w1.heap.size + 1) q; omega)) ?_
  try simp only [Act.put, Act.eval, nrmL, Nat.reduceAdd]
  have hB3 := hB2.set_ 0 (.slice (some ⟨w1.heap.size, 0, none⟩) 0 0)
  have k3 : Kept noneS w1 (w2.setCell ⟨w1.heap.size + 1, 0, none⟩ (.slice (some ⟨w1.heap.size, 0, none⟩) 0 0)) := k2.trans2 (kept_set w2 ⟨w1.heap.size + 1, 0, none⟩ _) fun k hk q => by have : k = w1.heap.size + 1 := q; omega
  generalize w2.setCell ⟨w1.heap.size + 1, 0, none⟩ (.slice (some ⟨w1.heap.size, 0, none⟩) 0 0) = w3 at *
  clear hB2 k2
  repeat (first | refine Run.auto rfl ?_ | ((first | (apply Run.lq rfl rfl rfl rfl; (focus (intro w K hK; go_simp; exact hK))) | (refine Run.ln rfl rfl rfl rfl rfl (by kernel_rfl) ?_) | (refine Run.not rfl rfl ?_)); try simp only [Act.put, Act.eval, nrmL, Nat.reduceAdd]) | (refine Run.rg ?_; simp only [nrmL, rngL, Nat.reduceAdd]) | refine Run.cT rfl ?_ | refine Run.cF rfl ?_ | refine Run.rt ?_ | refine Run.nd ?_)
  refine Run.look theEnv rfl rfl (by decide) rfl (fun _ _ q => by cases q) (.func (.func 8) #[] #[.pointer (some ⟨w1.heap.size + 1, 0, none⟩)]) (fun u _ _ => by go_simp) ?_
  try simp only [Act.put, Act.eval, nrmL, Nat.reduceAdd]
  refine Run.enter rfl rfl (by decide) rfl Try.func7 (by kernel_rfl) rfl ?_
  simp only [Act.eval, nrmL, Nat.reduceAdd]
  refine cli_new (w0 := w) hI1 hn1 (k1.trans k3) hv1 fun Z4 w4 s4 K4 ha4 hst4 hdo4 ho4 hZ4 k4 => ?_
  have hws := k1.size
  have L4 : LstV w4 (space w Z4 s4) (w1.heap.size + 1) 24 29 2 0 [] := by
    have hlt := hB3.lt
    refine ⟨⟨by omega, ho4 _ hlt, fun q => f1 ((hZ4 _ hlt).1 q), fun q => by have := hcl _ ((hZ4 _ hlt).2 q); omega⟩, _, 0, hB3.keep k4 fun q => q, by simp, .inl ⟨rfl, rfl⟩⟩
  rw [Frame.finish_at]
  clear hB3 ho4 hZ4
  try simp only [Act.put, Act.eval, nrmL, Nat.reduceAdd]
  repeat (first | refine Run.auto rfl ?_ | ((first | (apply Run.lq rfl rfl rfl rfl; (focus (intro w K hK; go_simp; exact hK))) | (refine Run.ln rfl rfl rfl rfl rfl (by kernel_rfl) ?_) | (refine Run.not rfl rfl ?_)); try simp only [Act.put, Act.eval, nrmL, Nat.reduceAdd]) | (refine Run.rg ?_; simp only [nrmL, rngL, Nat.reduceAdd]) | refine Run.cT rfl ?_ | refine Run.cF rfl ?_ | refine Run.rt ?_ | refine Run.nd ?_)
  refine Run.enter rfl rfl (by decide) rfl Try.func9 (by kernel_rfl) rfl ?_
  simp only [Act.eval, nrmL, Nat.reduceAdd]
  refine plays_run (n0 := 1010) hN hN2 (by decide) (by omega) hsc hops K4 ha4 hst4 hdo4 L4 fun Z5 n5 w5 s5 K5 hS5 hn5 => ?_
  clear K4 L4 hsc hops
  rw [Frame.finish_at, ← hS5]
  clear hS5
  try simp only [Act.put, Act.eval, nrmL, Nat.reduceAdd]
  repeat (first | refine Run.auto rfl ?_ | ((first | (apply Run.lq rfl rfl rfl rfl; (focus (intro w K hK; go_simp; exact hK))) | (refine Run.ln rfl rfl rfl rfl rfl (by kernel_rfl) ?_) | (refine Run.not rfl rfl ?_)); try simp only [Act.put, Act.eval, nrmL, Nat.reduceAdd]) | (refine Run.rg ?_; simp only [nrmL, rngL, Nat.reduceAdd]) | refine Run.cT rfl ?_ | refine Run.cF rfl ?_ | refine Run.rt ?_ | refine Run.nd ?_)
  refine Run.enter rfl rfl (by decide) rfl Try.func10 (by kernel_rfl) rfl ?_
  simp only [Act.eval, nrmL, Nat.reduceAdd]
  refine cli_stop K5 (by omega) fun Z6 w6 s6 K6 ha6 hst6 hL6 k6 hI6 => ?_
  have hS6 := hL6.S
  clear K5
  rw [Frame.finish_at, ← hS6]
  clear hS6
  try simp only [Act.put, Act.eval, nrmL, Nat.reduceAdd]
  repeat (first | refine Run.auto rfl ?_ | ((first | (apply Run.lq rfl rfl rfl rfl; (focus (intro w K hK; go_simp; exact hK))) | (refine Run.ln rfl rfl rfl rfl rfl (by kernel_rfl) ?_) | (refine Run.not rfl rfl ?_)); try simp only [Act.put, Act.eval, nrmL, Nat.reduceAdd]) | (refine Run.rg ?_; simp only [nrmL, rngL, Nat.reduceAdd]) | refine Run.cT rfl ?_ | refine Run.cF rfl ?_ | refine Run.rt ?_ | refine Run.nd ?_)
  refine Run.enter rfl rfl (by decide) rfl Try.func11 (by kernel_rfl) rfl ?_
  simp only [Act.eval, nrmL, Nat.reduceAdd]
  refine cli_runnable K6 (by rw [ha6]; exact fun _ h => (by cases h)) (by rw [ha6]; exact Nat.zero_le _) fun A7 c7 w7 K7 k7 hS7 => ?_
  rw [ha6, show runA [] = [] from Quiet.nil.run]
  clear hS7
  rw [Frame.finish_at]
  simp only [List.length_nil]
  try simp only [Act.put, Act.eval, nrmL, Nat.reduceAdd]
  repeat (first | refine Run.auto rfl ?_ | ((first | (apply Run.lq rfl rfl rfl rfl; (focus (intro w K hK; go_simp; exact hK))) | (refine Run.ln rfl rfl rfl rfl rfl (by kernel_rfl) ?_) | (refine Run.not rfl rfl ?_)); try simp only [Act.put, Act.eval, nrmL, Nat.reduceAdd]) | (refine Run.rg ?_; simp only [nrmL, rngL, Nat.reduceAdd]) | refine Run.cT rfl ?_ | refine Run.cF rfl ?_ | refine Run.rt ?_ | refine Run.nd ?_)
  exact H Z6 n5 w7 _ _ hI6 K7.old.kept rfl rfl
end
end Go.Proofs.Ytfpkachoneaaeaa
