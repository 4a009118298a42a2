/-
  plays, piece by piece: Run.
-/
import Derived.Test.YtfpkachoneaaeaaPl3
import Derived.Test.YtfpkachoneaaeaaPl6
set_option linter.unusedSimpArgs false
set_option linter.unusedVariables false
namespace Go.Proofs.Ytfpkachoneaaeaa
open Go Go.Conc Go.RowKit
theorem Rd.bound {w : World} {F : Nat → Prop} {A : Option Addr} {xs : List Value} (h : Rd w F A xs) : Rd w (fun k => F k ∧ k < w.heap.size) A xs := by
  rcases h with h | ⟨g, o, h1, h2, h3⟩
  · exact .inl h
  · cases xs with
    | nil => exact .inl rfl
    | cons v xs => exact .inr ⟨g, o, h1, ⟨h2, by have := lt_of_cell (h3 0 v rfl); simpa using this⟩, h3⟩
section
variable {Post : Value → World → Prop} {stk : List Frame} {w0 : World} {S0 D p : Nat} {SA : Option Addr} {N sc j : Nat} {A : Option Addr} {m ac : Nat} {st : Bool} {a : Ab} {ds : List (Int × ByteArray)} {T : Nat} {kd id : Int} {IA : Option Addr} {ic : Nat} {bs : List UInt8} {Z : Scene} {n : Nat} {w : World} {s : Sy} {col : Nat → Nat × Int} {l : List Bx}
set_option maxRecDepth 50000 in
set_option maxHeartbeats 4000000 in
theorem pl_run {x : Act} {J : Nat} {inp : Option Addr × Nat × Nat × List Value} (Y : Ply w0 Z n w S0 D p A m ac st a ds [(T, 64, #[.int .i64 kd, .int .i64 id, .slice IA bs.length ic])] inp s col l) (hx : Live x S0 D p SA N sc A m ac j (.pointer (some ⟨T, 0, none⟩))) (hf : Fine a J) (hm : m < 2000000000) {kk : List Item}
    (H : ∀ Z' w' x' s' col' l' A' m' ac' a' ds', Ply w0 Z' n w' S0 D p A' m' ac' st a' ds' [(T, 64, #[.int .i64 kd, .int .i64 id, .slice IA bs.length ic])] inp s' col' l' → Fine a' J → m' ≤ m + 1 → Live x' S0 D p SA N sc A' m' ac' j (.pointer (some ⟨T, 0, none⟩)) → Run Try.prog Post Z' n 0 0 (G ((base 9).at x' kk) stk) w') :
    Run Try.prog Post Z n 0 0 (G ((base 9).at x (.code plRun :: kk)) stk) w := by
  obtain ⟨f, rfl⟩ := hx.open
  clear hx
  refine Run.okG fun hok => ?_
  have P0 := Y.P
  obtain ⟨hBT, hcT⟩ := P0.X _ (.head _)
  have hsT := P0.sp T hBT.lt (by rw [hcT]; decide)
  have fT := Scene.free (Z := Z) (a := ⟨T, 1, none⟩) hsT.2.2.1
  have hab := Y.abs
  have hst := Y.st
  have hag := Y.ag
  have hS := Y.S
  clear Y
  subst hS
  unfold plRun plElse plB2 plB1 plL1
  simp only [Try.f9, Option.getD_some]
  repeat (first | refine Run.auto rfl ?_ | ((first | (apply Run.lq rfl rfl rfl rfl; (focus (intro w K hK; go_simp; exact hK))) | (refine Run.ln rfl rfl rfl rfl rfl (by kernel_rfl) ?_) | (refine Run.not rfl rfl ?_)); try simp only [Act.put, Act.eval, nrmL, Nat.reduceAdd]) | (refine Run.rg ?_; simp only [nrmL, rngL, Nat.reduceAdd]) | refine Run.cT rfl ?_ | refine Run.cF rfl ?_ | refine Run.rt ?_ | refine Run.nd ?_)
  refine Run.ld (a := ⟨T, 1, none⟩) (v := .int .i64 id) rfl rfl (by decide) (hBT.cell 1) (fT.2) (fun w₁ hld => ⟨by go_simp, by simp [go_sem, hld]⟩) ?_
  try simp only [Act.put, Act.eval, nrmL, Nat.reduceAdd]
  refine Run.enter rfl rfl (by decide) rfl Try.func20 (by kernel_rfl) rfl ?_
  simp only [Act.eval, nrmL, Nat.reduceAdd]
  by_cases h0 : lenB l id = 0
  · refine rf_take0 P0.R (fun k hk h3 => (P0.hv k hk h3).1) id h0 fun A1 w1 k1 => ?_
    have P1 := P0.more k1
    obtain ⟨hBT1, hcT1⟩ := P1.X _ (.head _)
    clear P0 hBT hcT hsT k1 hok
    rw [Frame.finish_at]
    try simp only [Act.put, Act.eval, nrmL, Nat.reduceAdd]
    repeat (first | refine Run.auto rfl ?_ | ((first | (apply Run.lq rfl rfl rfl rfl; (focus (intro w K hK; go_simp; exact hK))) | (refine Run.ln rfl rfl rfl rfl rfl (by kernel_rfl) ?_) | (refine Run.not rfl rfl ?_)); try simp only [Act.put, Act.eval, nrmL, Nat.reduceAdd]) | (refine Run.rg ?_; simp only [nrmL, rngL, Nat.reduceAdd]) | refine Run.cT rfl ?_ | refine Run.cF rfl ?_ | refine Run.rt ?_ | refine Run.nd ?_)
    refine Run.ld (a := ⟨T, 1, none⟩) (v := .int .i64 id) rfl rfl (by decide) (hBT1.cell 1) (fT.2) (fun w₁ hld => ⟨by go_simp, by simp [go_sem, hld]⟩) ?_
    try simp only [Act.put, Act.eval, nrmL, Nat.reduceAdd]
    refine Run.enter rfl rfl (by decide) rfl Try.func14 (by kernel_rfl) rfl ?_
    simp only [Act.eval, nrmL, Nat.reduceAdd]
    refine run_did plays1_spec Try.func8 (by kernel_rfl) rfl P1.K (P1.L.mono (M' := fun k => cut col w.heap.size k = (1, 0) ∨ w1.heap.size ≤ k) fun k _ q => .inl q) (fun k hk q => P1.sp k hk (by rcases q with q | q; rw [q]; decide; omega)) (fun k q => .inr q) hm P1.fdo (by rw [hab]; exact hf.maxi) id ?_ ?_
    · intro _ w2 K2 k2
      have P2 := P1.went K2 (Left2.refl _ _ _) k2
      clear P1 hBT1 hcT1 K2 k2
      rw [Frame.finish_at]
      try simp only [Act.put, Act.eval, nrmL, Nat.reduceAdd]
      repeat (first | refine Run.auto rfl ?_ | ((first | (apply Run.lq rfl rfl rfl rfl; (focus (intro w K hK; go_simp; exact hK))) | (refine Run.ln rfl rfl rfl rfl rfl (by kernel_rfl) ?_) | (refine Run.not rfl rfl ?_)); try simp only [Act.put, Act.eval, nrmL, Nat.reduceAdd]) | (refine Run.rg ?_; simp only [nrmL, rngL, Nat.reduceAdd]) | refine Run.cT rfl ?_ | refine Run.cF rfl ?_ | refine Run.rt ?_ | refine Run.nd ?_)
      exact H Z w2 _ s _ l A m ac a ds ⟨P2, rfl, hst, hab, hag⟩ hf (Nat.le_succ _) ⟨rfl, rfl, rfl, rfl, rfl, rfl, rfl, rfl, rfl, rfl⟩
    · intro i' bs' rest hfd
      exfalso
      rw [hab] at hfd
      have e : lenA a id = (bs' :: rest).length := by unfold lenA; rw [hfd]; rfl
      rw [← hag.len, e] at h0
      cases h0
  · obtain ⟨b, hbf, i, r, hbr⟩ : ∃ b, l.find? (fun b => b.id == id) = some b ∧ ∃ i r, b.items = i :: r := by
      unfold lenB at h0
      cases hb : l.find? (fun b => b.id == id) with
      | none => rw [hb] at h0; exact absurd rfl h0
      | some b =>
        rw [hb] at h0
        cases hi : b.items with
        | nil => simp only [Option.map_some, Option.getD_some, hi, List.length_nil, not_true] at h0
        | cons i r => exact ⟨b, rfl, i, r, hi⟩
    have hbl := List.mem_of_find?_eq_some hbf
    have hbi : b.id = id := by simpa using List.find?_some hbf
    have hrow := (P0.R.its b hbl i (by rw [hbr]; exact .head _)).1.bound
    have hfa : a.find? (fun p => p.1 == id) = some (b.id, i.bs :: r.map Im.bs) := by rw [hag.find, hbf]; simp [hbr]
    refine rf_take1 P0.R P0.hv id b hbl hbi i r hbr fun w1 hR1 k1 => ?_
    have P1 := P0.ref hok k1 (fun k _ q => by rw [q]; decide) (fun _ _ => rfl) hR1
    have ag1 := hag.take id
    have hrow1 := hrow.keep k1 fun k _ q r => by rw [q.1] at r; cases r
    have hsz1 := k1.size
    obtain ⟨hBT1, hcT1⟩ := P1.X _ (.head _)
    clear P0 hBT hcT hsT k1 hok hrow hR1
    rw [Frame.finish_at]
    simp only [Im.val]
    try simp only [Act.put, Act.eval, nrmL, Nat.reduceAdd]
    repeat (first | refine Run.auto rfl ?_ | ((first | (apply Run.lq rfl rfl rfl rfl; (focus (intro w K hK; go_simp; exact hK))) | (refine Run.ln rfl rfl rfl rfl rfl (by kernel_rfl) ?_) | (refine Run.not rfl rfl ?_)); try simp only [Act.put, Act.eval, nrmL, Nat.reduceAdd]) | (refine Run.rg ?_; simp only [nrmL, rngL, Nat.reduceAdd]) | refine Run.cT rfl ?_ | refine Run.cF rfl ?_ | refine Run.rt ?_ | refine Run.nd ?_)
    refine Run.ld (a := ⟨T, 1, none⟩) (v := .int .i64 id) rfl rfl (by decide) (hBT1.cell 1) (fT.2) (fun w₁ hld => ⟨by go_simp, by simp [go_sem, hld]⟩) ?_
    try simp only [Act.put, Act.eval, nrmL, Nat.reduceAdd]
    refine Run.enter rfl rfl (by decide) rfl Try.func14 (by kernel_rfl) rfl ?_
    simp only [Act.eval, nrmL, Nat.reduceAdd]
    refine run_did plays1_spec Try.func8 (by kernel_rfl) rfl P1.K (P1.L.mono (M' := fun k => col k = (1, 0) ∨ w1.heap.size ≤ k) fun k _ q => .inl q) (fun k hk q => P1.sp k hk (by rcases q with q | q; rw [q]; decide; omega)) (fun k q => .inr q) hm P1.fdo (by rw [hab]; exact hf.maxi) id ?_ ?_
    · intro h1
      exfalso
      rw [hab, hag.len] at h1
      exact h0 h1
    · intro i' bs' rest hfd Z2 s2 w2 K2 ha2 hst2 hL2 L2 k2
      rw [hab, hfa] at hfd
      have hbs := (List.cons.inj (Prod.mk.inj (Option.some.inj hfd)).2).1
      subst hbs
      obtain ⟨col2, ht2, P2⟩ := P1.did K2 hL2 L2 k2
      have hrow2 := hrow1.keep k2 fun k hk q r => by
        rcases r with r | r | r
        · exact P1.own0 hk (by rw [q.1]; decide) r
        · rw [q.1] at r; cases r
        · omega
      have hrv : ∀ k, col k = (6, 0) ∧ k < w.heap.size → ¬ Z2.Hd k := fun k q => (P2.sp k (by have := k2.size; omega) (by rw [ht2 k (by omega), q.1]; decide)).2.2.1
      obtain ⟨hBT2, hcT2⟩ := P2.X _ (.head _)
      have hsT2 := P2.sp T hBT2.lt (by rw [hcT2]; decide)
      have fT2 := Scene.free (Z := Z2) (a := ⟨T, 1, none⟩) hsT2.2.2.1
      have hS2 := hL2.S
      clear P1 hBT1 hcT1 hrow1 K2 L2 k2 hfd
      rw [Frame.finish_at]
      try simp only [Act.put, Act.eval, nrmL, Nat.reduceAdd]
      repeat (first | refine Run.auto rfl ?_ | ((first | (apply Run.lq rfl rfl rfl rfl; (focus (intro w K hK; go_simp; exact hK))) | (refine Run.ln rfl rfl rfl rfl rfl (by kernel_rfl) ?_) | (refine Run.not rfl rfl ?_)); try simp only [Act.put, Act.eval, nrmL, Nat.reduceAdd]) | (refine Run.rg ?_; simp only [nrmL, rngL, Nat.reduceAdd]) | refine Run.cT rfl ?_ | refine Run.cF rfl ?_ | refine Run.rt ?_ | refine Run.nd ?_)
      refine Run.okG fun hok2 => ?_
      refine Run.ld (a := ⟨T, 1, none⟩) (v := .int .i64 id) rfl rfl (by decide) (hBT2.cell 1) (fT2.2) (fun w₁ hld => ⟨by go_simp, by simp [go_sem, hld]⟩) ?_
      try simp only [Act.put, Act.eval, nrmL, Nat.reduceAdd]
      repeat (first | refine Run.auto rfl ?_ | ((first | (apply Run.lq rfl rfl rfl rfl; (focus (intro w K hK; go_simp; exact hK))) | (refine Run.ln rfl rfl rfl rfl rfl (by kernel_rfl) ?_) | (refine Run.not rfl rfl ?_)); try simp only [Act.put, Act.eval, nrmL, Nat.reduceAdd]) | (refine Run.rg ?_; simp only [nrmL, rngL, Nat.reduceAdd]) | refine Run.cT rfl ?_ | refine Run.cF rfl ?_ | refine Run.rt ?_ | refine Run.nd ?_)
      refine Run.look theEnv rfl rfl (by decide) rfl (fun _ _ q => by cases q) (.string ⟨i.bs.toArray⟩) (fun u hu _ => by have := run_string_of (P := Try.prog) (w := u) 27 9 5 Try.underlying27 Try.underlying5 Try.underlying9 _ i.A i.c i.bs (hrow2.keep hu fun k hk hf q => hrv k hf q); clear H P2; go_simp) ?_
      try simp only [Act.put, Act.eval, nrmL, Nat.reduceAdd]
      repeat (first | refine Run.auto rfl ?_ | ((first | (apply Run.lq rfl rfl rfl rfl; (focus (intro w K hK; go_simp; exact hK))) | (refine Run.ln rfl rfl rfl rfl rfl (by kernel_rfl) ?_) | (refine Run.not rfl rfl ?_)); try simp only [Act.put, Act.eval, nrmL, Nat.reduceAdd]) | (refine Run.rg ?_; simp only [nrmL, rngL, Nat.reduceAdd]) | refine Run.cT rfl ?_ | refine Run.cF rfl ?_ | refine Run.rt ?_ | refine Run.nd ?_)
      have f2 : ¬ Z2.Hd w2.heap.size := hok2.fresh (Nat.le_refl _)
      refine Run.made theEnv rfl rfl (by decide) rfl (fun _ _ q => by cases q) (.slice (some ⟨w2.heap.size, 0, none⟩) 1 1) (.cells #[.int .i64 id, .string ⟨i.bs.toArray⟩] 29) (fun u _ hus => by clear H P2; go_simp) f2 ?_
      try simp only [Act.put, Act.eval, nrmL, Nat.reduceAdd]
      have k3 : Kept noneS w2 (w2.alloc (.cells #[.int .i64 id, .string ⟨i.bs.toArray⟩] 29)) := (Kept.refl _ _).alloc _
      have hR3 : Rd (w2.alloc (.cells #[.int .i64 id, .string ⟨i.bs.toArray⟩] 29)) (fun k => k = w2.heap.size) (some ⟨w2.heap.size, 0, none⟩) [.int .i64 id, .string ⟨i.bs.toArray⟩] := rd_fresh w2 _ _ _
      have hsz3 : (w2.alloc (.cells #[.int .i64 id, .string ⟨i.bs.toArray⟩] 29)).heap.size = w2.heap.size + 1 := by simp
      have hW3 := (P2.W.mono (G := fun k => k < w2.heap.size ∧ col2 k = (2, 0)) fun k hk q => ⟨hk, q⟩).keep k3 fun _ _ _ q => q
      generalize w2.alloc (.cells #[.int .i64 id, .string ⟨i.bs.toArray⟩] 29) = w3 at *
      refine Run.append (F := fun k => (k < w2.heap.size ∧ col2 k = (2, 0)) ∨ w3.heap.size ≤ k) (GF := fun k => k = w2.heap.size) (xs := didV ds) (ys := [.int .i64 id, .string ⟨i.bs.toArray⟩]) (m := m) (l := 1) theEnv rfl rfl (by decide) rfl rfl rfl Try.underlying24 infoDid rfl (by decide) (hW3.mono fun k _ q => .inl q) hR3 rfl (by simp [Value.oneCell']) (by simp [maxLen]; omega) (by omega) (.inr (Nat.le_refl _)) (fun k hk q => by
        rcases q with q | q
        · exact (P2.sp k q.1 (by rw [q.2]; decide)).2.2
        · omega) (fun k _ q => by rw [show k = w2.heap.size from q]; exact f2) ?_
      intro A' c' w4 hS4 k4
      have k24 : Kept (fun k => col2 k = (2, 0)) w2 w4 := (k3.mono fun _ _ q => q.elim).trans2 k4 fun k hk q => by
        rcases q with q | q
        · exact q.2
        · omega
      have P4 := P2.want (col' := fun k => if k < w2.heap.size then col2 k else (2, 0)) hok2 k24 (fun k _ q => q) (fun k hk => if_pos hk) (hS4.mono fun k _ q => by
        show (if k < w2.heap.size then col2 k else (2, 0)) = (2, 0)
        split
        · rcases q with q | q
          · exact q.2
          · omega
        · rfl)
      have e : didV ds ++ [.int .i64 id, .string ⟨i.bs.toArray⟩] = didV (ds ++ [(id, ⟨i.bs.toArray⟩)]) := (didV_app ds [(id, ⟨i.bs.toArray⟩)]).symm
      rw [e] at P4
      clear k3 hR3 hW3 hS4 k4 P2 hrow2 hrv
      try simp only [Act.put, Act.eval, nrmL, Nat.reduceAdd]
      repeat (first | refine Run.auto rfl ?_ | ((first | (apply Run.lq rfl rfl rfl rfl; (focus (intro w K hK; go_simp; exact hK))) | (refine Run.ln rfl rfl rfl rfl rfl (by kernel_rfl) ?_) | (refine Run.not rfl rfl ?_)); try simp only [Act.put, Act.eval, nrmL, Nat.reduceAdd]) | (refine Run.rg ?_; simp only [nrmL, rngL, Nat.reduceAdd]) | refine Run.cT rfl ?_ | refine Run.cF rfl ?_ | refine Run.rt ?_ | refine Run.nd ?_)
      exact H Z2 w4 _ s2 _ _ A' (m + 1) c' (takeA a id) _ ⟨P4, hS2, hst2.trans hst, by rw [ha2, hab], ag1⟩ (hf.take id) (Nat.le_refl _) ⟨rfl, rfl, rfl, rfl, rfl, rfl, rfl, rfl, rfl, rfl⟩
end
end Go.Proofs.Ytfpkachoneaaeaa
namespace Go.Proofs.Ytfpkachoneaaeaa
open Go Go.Conc Go.RowKit
noncomputable def plStop1 : Code := match plStop with
  | .seq _ (.cond _ c _) => c
  | _ => .skip
section
variable {Post : Value → World → Prop} {stk : List Frame} {w0 : World} {S0 D p : Nat} {SA : Option Addr} {N sc j : Nat} {A : Option Addr} {m ac : Nat} {st : Bool} {a : Ab} {ds : List (Int × ByteArray)} {T : Nat} {kd id : Int} {IA : Option Addr} {ic : Nat} {bs : List UInt8} {Z : Scene} {n : Nat} {w : World} {s : Sy} {col : Nat → Nat × Int} {l : List Bx}
set_option maxRecDepth 50000 in
set_option maxHeartbeats 4000000 in
theorem pl_stop {x : Act} {J : Nat} {inp : Option Addr × Nat × Nat × List Value} (Y : Ply w0 Z n w S0 D p A m ac st a ds [(T, 64, #[.int .i64 kd, .int .i64 id, .slice IA bs.length ic])] inp s col l) (hx : Live x S0 D p SA N sc A m ac j (.pointer (some ⟨T, 0, none⟩))) (hf : Fine a J) (hn : n < 2147483647) {kk : List Item}
    (H : ∀ Z' w' x' s' col' l' st' a', Ply w0 Z' n w' S0 D p A m ac st' a' ds [(T, 64, #[.int .i64 kd, .int .i64 id, .slice IA bs.length ic])] inp s' col' l' → Fine a' J → Live x' S0 D p SA N sc A m ac j (.pointer (some ⟨T, 0, none⟩)) → Run Try.prog Post Z' n 0 0 (G ((base 9).at x' kk) stk) w') :
    Run Try.prog Post Z n 0 0 (G ((base 9).at x (.code plStop1 :: kk)) stk) w := by
  obtain ⟨f, rfl⟩ := hx.open
  clear hx
  have P0 := Y.P
  obtain ⟨hBT, hcT⟩ := P0.X _ (.head _)
  have hsT := P0.sp T hBT.lt (by rw [hcT]; decide)
  have fT := Scene.free (Z := Z) (a := ⟨T, 1, none⟩) hsT.2.2.1
  have hS := Y.S
  subst hS
  unfold plStop1 plStop plElse plB2 plB1 plL1
  simp only [Try.f9, Option.getD_some]
  repeat (first | refine Run.auto rfl ?_ | ((first | (apply Run.lq rfl rfl rfl rfl; (focus (intro w K hK; go_simp; exact hK))) | (refine Run.ln rfl rfl rfl rfl rfl (by kernel_rfl) ?_) | (refine Run.not rfl rfl ?_)); try simp only [Act.put, Act.eval, nrmL, Nat.reduceAdd]) | (refine Run.rg ?_; simp only [nrmL, rngL, Nat.reduceAdd]) | refine Run.cT rfl ?_ | refine Run.cF rfl ?_ | refine Run.rt ?_ | refine Run.nd ?_)
  refine Run.ld (a := ⟨T, 1, none⟩) (v := .int .i64 id) rfl rfl (by decide) (hBT.cell 1) (fT.2) (fun w₁ hld => ⟨by go_simp, by simp [go_sem, hld]⟩) ?_
  try simp only [Act.put, Act.eval, nrmL, Nat.reduceAdd]
  by_cases h0 : id = 0
  · have hi : (id == 0) = true := by rw [h0]; rfl
    repeat (first | refine Run.auto rfl ?_ | ((first | (apply Run.lq rfl rfl rfl rfl; (focus (intro w K hK; go_simp; exact hK))) | (refine Run.ln rfl rfl rfl rfl rfl (by kernel_rfl) ?_) | (refine Run.not rfl rfl ?_)); try simp only [Act.put, Act.eval, nrmL, Nat.reduceAdd]) | (refine Run.rg ?_; simp only [nrmL, rngL, Nat.reduceAdd]) | refine Run.cT rfl ?_ | refine Run.cF rfl ?_ | refine Run.rt ?_ | refine Run.nd ?_)
    try simp only [hi]
    repeat (first | refine Run.auto rfl ?_ | ((first | (apply Run.lq rfl rfl rfl rfl; (focus (intro w K hK; go_simp; exact hK))) | (refine Run.ln rfl rfl rfl rfl rfl (by kernel_rfl) ?_) | (refine Run.not rfl rfl ?_)); try simp only [Act.put, Act.eval, nrmL, Nat.reduceAdd]) | (refine Run.rg ?_; simp only [nrmL, rngL, Nat.reduceAdd]) | refine Run.cT rfl ?_ | refine Run.cF rfl ?_ | refine Run.rt ?_ | refine Run.nd ?_)
    refine Run.enter rfl rfl (by decide) rfl Try.func10 (by kernel_rfl) rfl ?_
    simp only [Act.eval, nrmL, Nat.reduceAdd]
    refine cli_stop P0.K hn fun Z1 w1 s1 K1 ha1 hst1 hL1 k1 _ => ?_
    have P1 := P0.went K1 hL1 k1
    clear P0 hBT hcT hsT fT
    rw [Frame.finish_at]
    try simp only [Act.put, Act.eval, nrmL, Nat.reduceAdd]
    repeat (first | refine Run.auto rfl ?_ | ((first | (apply Run.lq rfl rfl rfl rfl; (focus (intro w K hK; go_simp; exact hK))) | (refine Run.ln rfl rfl rfl rfl rfl (by kernel_rfl) ?_) | (refine Run.not rfl rfl ?_)); try simp only [Act.put, Act.eval, nrmL, Nat.reduceAdd]) | (refine Run.rg ?_; simp only [nrmL, rngL, Nat.reduceAdd]) | refine Run.cT rfl ?_ | refine Run.cF rfl ?_ | refine Run.rt ?_ | refine Run.nd ?_)
    refine Run.enter rfl rfl (by decide) rfl Try.func21 (by kernel_rfl) rfl ?_
    simp only [Act.eval, nrmL, Nat.reduceAdd]
    refine Run.okG fun hok1 => ?_
    refine rf_stop P1.R P1.hv fun w2 hR2 k2 => ?_
    have P2 := P1.ref hok1 k2 (fun k _ q => by rw [show k = p from q, P1.R.tp]; decide) (fun _ _ => rfl) hR2
    rw [Frame.finish_at]
    try simp only [Act.put, Act.eval, nrmL, Nat.reduceAdd]
    repeat (first | refine Run.auto rfl ?_ | ((first | (apply Run.lq rfl rfl rfl rfl; (focus (intro w K hK; go_simp; exact hK))) | (refine Run.ln rfl rfl rfl rfl rfl (by kernel_rfl) ?_) | (refine Run.not rfl rfl ?_)); try simp only [Act.put, Act.eval, nrmL, Nat.reduceAdd]) | (refine Run.rg ?_; simp only [nrmL, rngL, Nat.reduceAdd]) | refine Run.cT rfl ?_ | refine Run.cF rfl ?_ | refine Run.rt ?_ | refine Run.nd ?_)
    exact H Z1 w2 _ s1 _ [] true [] ⟨P2, hL1.S, hst1, ha1, ⟨List.Perm.refl _, List.Pairwise.nil⟩⟩ ⟨fun _ h => (by cases h), fun _ h => (by cases h), Nat.zero_le _⟩ ⟨rfl, rfl, rfl, rfl, rfl, rfl, rfl, rfl, rfl, rfl⟩
  · have hi : (id == 0) = false := by simpa using h0
    repeat (first | refine Run.auto rfl ?_ | ((first | (apply Run.lq rfl rfl rfl rfl; (focus (intro w K hK; go_simp; exact hK))) | (refine Run.ln rfl rfl rfl rfl rfl (by kernel_rfl) ?_) | (refine Run.not rfl rfl ?_)); try simp only [Act.put, Act.eval, nrmL, Nat.reduceAdd]) | (refine Run.rg ?_; simp only [nrmL, rngL, Nat.reduceAdd]) | refine Run.cT rfl ?_ | refine Run.cF rfl ?_ | refine Run.rt ?_ | refine Run.nd ?_)
    try simp only [hi]
    repeat (first | refine Run.auto rfl ?_ | ((first | (apply Run.lq rfl rfl rfl rfl; (focus (intro w K hK; go_simp; exact hK))) | (refine Run.ln rfl rfl rfl rfl rfl (by kernel_rfl) ?_) | (refine Run.not rfl rfl ?_)); try simp only [Act.put, Act.eval, nrmL, Nat.reduceAdd]) | (refine Run.rg ?_; simp only [nrmL, rngL, Nat.reduceAdd]) | refine Run.cT rfl ?_ | refine Run.cF rfl ?_ | refine Run.rt ?_ | refine Run.nd ?_)
    exact H Z w _ s col l st a ⟨P0, rfl, Y.st, Y.abs, Y.ag⟩ hf ⟨rfl, rfl, rfl, rfl, rfl, rfl, rfl, rfl, rfl, rfl⟩
end
end Go.Proofs.Ytfpkachoneaaeaa
namespace Go.Proofs.Ytfpkachoneaaeaa
open Go Go.Conc Go.RowKit
noncomputable def plT1 : Code := match plB2 with
  | .seq c _ => c
  | _ => .skip
noncomputable def plT2 : Code := match plElse with
  | .seq c _ => c
  | _ => .skip
noncomputable def plR26 : Code := match plStop with
  | .seq c _ => c
  | _ => .skip
theorem plB2_eq : plB2 = .seq plT1 (.cond (.tmp 28) plPost (.seq plT2 (.cond (.tmp 57) plRun (.seq plR26 (.cond (.tmp 83) plStop1 .skip))))) := rfl
section
variable {Post : Value → World → Prop} {stk : List Frame} {w0 : World} {S0 D p : Nat} {SA : Option Addr} {N sc j : Nat} {A : Option Addr} {m ac : Nat} {st : Bool} {a : Ab} {ds : List (Int × ByteArray)} {T : Nat} {kd id : Int} {IA : Option Addr} {ic : Nat} {bs : List UInt8} {Z : Scene} {n : Nat} {w : World} {s : Sy} {col : Nat → Nat × Int} {l : List Bx}
set_option maxRecDepth 50000 in
set_option maxHeartbeats 4000000 in
theorem pl_b2 {q : Int} {J : Nat} {inp : Option Addr × Nat × Nat × List Value} (hq : q = 0 ∨ q = 1 ∨ q = 2 ∨ q = 3 ∨ q = 4 ∨ q = 5 ∨ q = 6 ∨ q = 7) (Y : Ply w0 Z n w S0 D p A m ac st a ds [(T, 64, #[.int .i64 kd, .int .i64 id, .slice IA bs.length ic])] inp s col l) (hit : Rd w0 (fun k => k < w0.heap.size ∧ ¬ JunkAt w0 k) IA (bvs bs)) (hbl : bs.length ≤ 1048576) (hid : (Lit.int .i64 id).wf = true) (hf : Fine a J) (hJ : J ≤ 1000000000) (hm : m < 2000000000) (hn : n < 2147483647) {kk : List Item}
    (H : ∀ Z' n' w' x' s' col' l' A' m' ac' st' a' ds' inp', Ply w0 Z' n' w' S0 D p A' m' ac' st' a' ds' [(T, 64, #[.int .i64 kd, .int .i64 id, .slice IA bs.length ic])] inp' s' col' l' → Fine a' (J + 1) → n' ≤ n + 1 → m' ≤ m + 1 → Live x' S0 D p SA N sc A' m' ac' j (.pointer (some ⟨T, 0, none⟩)) → Run Try.prog Post Z' n' 0 0 (G ((base 9).at x' kk) stk) w') :
    ∀ (v2 v3 v4 v5 v6 v9 v11 v12 v13 v14 v15 v16 v17 v18 v22 v23 v24 v25 v26 v28 v29 v30 v31 v32 v33 v34 v35 v36 v37 v38 v39 v40 v41 v42 v43 v44 v45 v46 v47 v48 v49 v50 v51 v52 v53 v54 v55 v56 v57 v58 v59 v60 v61 v62 v63 v64 v65 v66 v67 v68 v69 v70 v71 v72 v73 v74 v75 v76 v77 v78 v79 v80 v81 v82 v83 v84 v85 v86 v87 v88 v89 v90 v91 v92 v93 v94 v95 v96 v97 v98 v99 v100 v101 v102 v103 v104 v105 v106 v107 v108 v109 v110 v111 v112 v113 v114 v115 v116 v117 v118 v119 v120 v121 v122 v123 v124 v125 v126 v127 v128 v129 v130 v131 v132 v133 v134 v135 : Value), Run Try.prog Post Z n 0 0 (G ((base 9).at ⟨#[.pointer (some ⟨S0, 0, none⟩), .pointer (some ⟨D, 0, none⟩), v2, v3, v4, v5, v6, .pointer (some ⟨p, 0, none⟩), .slice A m ac, v9, .pointer (some ⟨T, 0, none⟩), v11, v12, v13, v14, v15, v16, v17, v18, .slice SA N sc, .int .i64 (N : Int), .int .i64 (j : Int), v22, v23, v24, v25, v26, .int .i64 q, v28, v29, v30, v31, v32, v33, v34, v35, v36, v37, v38, v39, v40, v41, v42, v43, v44, v45, v46, v47, v48, v49, v50, v51, v52, v53, v54, v55, v56, v57, v58, v59, v60, v61, v62, v63, v64, v65, v66, v67, v68, v69, v70, v71, v72, v73, v74, v75, v76, v77, v78, v79, v80, v81, v82, v83, v84, v85, v86, v87, v88, v89, v90, v91, v92, v93, v94, v95, v96, v97, v98, v99, v100, v101, v102, v103, v104, v105, v106, v107, v108, v109, v110, v111, v112, v113, v114, v115, v116, v117, v118, v119, v120, v121, v122, v123, v124, v125, v126, v127, v128, v129, v130, v131, v132, v133, v134, v135], []⟩ (.code plB2 :: kk)) stk) w := by
  intro v2 v3 v4 v5 v6 v9 v11 v12 v13 v14 v15 v16 v17 v18 v22 v23 v24 v25 v26 v28 v29 v30 v31 v32 v33 v34 v35 v36 v37 v38 v39 v40 v41 v42 v43 v44 v45 v46 v47 v48 v49 v50 v51 v52 v53 v54 v55 v56 v57 v58 v59 v60 v61 v62 v63 v64 v65 v66 v67 v68 v69 v70 v71 v72 v73 v74 v75 v76 v77 v78 v79 v80 v81 v82 v83 v84 v85 v86 v87 v88 v89 v90 v91 v92 v93 v94 v95 v96 v97 v98 v99 v100 v101 v102 v103 v104 v105 v106 v107 v108 v109 v110 v111 v112 v113 v114 v115 v116 v117 v118 v119 v120 v121 v122 v123 v124 v125 v126 v127 v128 v129 v130 v131 v132 v133 v134 v135
  have hp := fun x hx => pl_post (Post := Post) (stk := stk) (x := x) (SA := SA) (N := N) (sc := sc) (j := j) (kk := kk) Y hx hit hbl (by have := hf.len; omega) (fun Z' n' w' x' s' col' l' inp' Y' hn' L' => H Z' n' w' x' s' col' l' A m ac st _ ds inp' Y' (hf.post st hid hbl) hn' (Nat.le_succ _) L')
  have hr := fun x hx => pl_run (Post := Post) (stk := stk) (x := x) (SA := SA) (N := N) (sc := sc) (j := j) (kk := kk) Y hx hf hm (fun Z' w' x' s' col' l' A' m' ac' a' ds' Y' hf' hm' L' => H Z' n w' x' s' col' l' A' m' ac' st a' ds' inp Y' hf'.step (Nat.le_succ _) hm' L')
  have hs := fun x hx => pl_stop (Post := Post) (stk := stk) (x := x) (SA := SA) (N := N) (sc := sc) (j := j) (kk := kk) Y hx hf hn (fun Z' w' x' s' col' l' st' a' Y' hf' L' => H Z' n w' x' s' col' l' A m ac st' a' ds inp Y' hf'.step (Nat.le_succ _) (Nat.le_succ _) L')
  rw [plB2_eq]
  generalize plPost = c1 at hp ⊢
  generalize plRun = c2 at hr ⊢
  generalize plStop1 = c3 at hs ⊢
  unfold plT1 plT2 plR26 plStop plElse plB2 plB1 plL1
  simp only [Try.f9, Option.getD_some]
  rcases hq with rfl | rfl | rfl | rfl | rfl | rfl | rfl | rfl
  · skip
    clear hr hs
    repeat (first | refine Run.auto rfl ?_ | ((first | (apply Run.lq rfl rfl rfl rfl; (focus (intro w K hK; go_simp; exact hK))) | (refine Run.ln rfl rfl rfl rfl rfl (by kernel_rfl) ?_) | (refine Run.not rfl rfl ?_)); try simp only [Act.put, Act.eval, nrmL, Nat.reduceAdd]) | (refine Run.rg ?_; simp only [nrmL, rngL, Nat.reduceAdd]) | refine Run.cT rfl ?_ | refine Run.cF rfl ?_ | refine Run.rt ?_ | refine Run.nd ?_)
    refine hp _ ?_
    exact ⟨rfl, rfl, rfl, rfl, rfl, rfl, rfl, rfl, rfl, rfl⟩
  · skip
    clear hr hs
    repeat (first | refine Run.auto rfl ?_ | ((first | (apply Run.lq rfl rfl rfl rfl; (focus (intro w K hK; go_simp; exact hK))) | (refine Run.ln rfl rfl rfl rfl rfl (by kernel_rfl) ?_) | (refine Run.not rfl rfl ?_)); try simp only [Act.put, Act.eval, nrmL, Nat.reduceAdd]) | (refine Run.rg ?_; simp only [nrmL, rngL, Nat.reduceAdd]) | refine Run.cT rfl ?_ | refine Run.cF rfl ?_ | refine Run.rt ?_ | refine Run.nd ?_)
    refine hp _ ?_
    exact ⟨rfl, rfl, rfl, rfl, rfl, rfl, rfl, rfl, rfl, rfl⟩
  · skip
    clear hr hs
    repeat (first | refine Run.auto rfl ?_ | ((first | (apply Run.lq rfl rfl rfl rfl; (focus (intro w K hK; go_simp; exact hK))) | (refine Run.ln rfl rfl rfl rfl rfl (by kernel_rfl) ?_) | (refine Run.not rfl rfl ?_)); try simp only [Act.put, Act.eval, nrmL, Nat.reduceAdd]) | (refine Run.rg ?_; simp only [nrmL, rngL, Nat.reduceAdd]) | refine Run.cT rfl ?_ | refine Run.cF rfl ?_ | refine Run.rt ?_ | refine Run.nd ?_)
    refine hp _ ?_
    exact ⟨rfl, rfl, rfl, rfl, rfl, rfl, rfl, rfl, rfl, rfl⟩
  · skip
    clear hp hs
    repeat (first | refine Run.auto rfl ?_ | ((first | (apply Run.lq rfl rfl rfl rfl; (focus (intro w K hK; go_simp; exact hK))) | (refine Run.ln rfl rfl rfl rfl rfl (by kernel_rfl) ?_) | (refine Run.not rfl rfl ?_)); try simp only [Act.put, Act.eval, nrmL, Nat.reduceAdd]) | (refine Run.rg ?_; simp only [nrmL, rngL, Nat.reduceAdd]) | refine Run.cT rfl ?_ | refine Run.cF rfl ?_ | refine Run.rt ?_ | refine Run.nd ?_)
    refine hr _ ?_
    exact ⟨rfl, rfl, rfl, rfl, rfl, rfl, rfl, rfl, rfl, rfl⟩
  · skip
    clear hp hs
    repeat (first | refine Run.auto rfl ?_ | ((first | (apply Run.lq rfl rfl rfl rfl; (focus (intro w K hK; go_simp; exact hK))) | (refine Run.ln rfl rfl rfl rfl rfl (by kernel_rfl) ?_) | (refine Run.not rfl rfl ?_)); try simp only [Act.put, Act.eval, nrmL, Nat.reduceAdd]) | (refine Run.rg ?_; simp only [nrmL, rngL, Nat.reduceAdd]) | refine Run.cT rfl ?_ | refine Run.cF rfl ?_ | refine Run.rt ?_ | refine Run.nd ?_)
    refine hr _ ?_
    exact ⟨rfl, rfl, rfl, rfl, rfl, rfl, rfl, rfl, rfl, rfl⟩
  · skip
    clear hp hs
    repeat (first | refine Run.auto rfl ?_ | ((first | (apply Run.lq rfl rfl rfl rfl; (focus (intro w K hK; go_simp; exact hK))) | (refine Run.ln rfl rfl rfl rfl rfl (by kernel_rfl) ?_) | (refine Run.not rfl rfl ?_)); try simp only [Act.put, Act.eval, nrmL, Nat.reduceAdd]) | (refine Run.rg ?_; simp only [nrmL, rngL, Nat.reduceAdd]) | refine Run.cT rfl ?_ | refine Run.cF rfl ?_ | refine Run.rt ?_ | refine Run.nd ?_)
    refine hr _ ?_
    exact ⟨rfl, rfl, rfl, rfl, rfl, rfl, rfl, rfl, rfl, rfl⟩
  · skip
    clear hp hr
    repeat (first | refine Run.auto rfl ?_ | ((first | (apply Run.lq rfl rfl rfl rfl; (focus (intro w K hK; go_simp; exact hK))) | (refine Run.ln rfl rfl rfl rfl rfl (by kernel_rfl) ?_) | (refine Run.not rfl rfl ?_)); try simp only [Act.put, Act.eval, nrmL, Nat.reduceAdd]) | (refine Run.rg ?_; simp only [nrmL, rngL, Nat.reduceAdd]) | refine Run.cT rfl ?_ | refine Run.cF rfl ?_ | refine Run.rt ?_ | refine Run.nd ?_)
    refine hs _ ?_
    exact ⟨rfl, rfl, rfl, rfl, rfl, rfl, rfl, rfl, rfl, rfl⟩
  · skip
    clear hp hr hs
    repeat (first | refine Run.auto rfl ?_ | ((first | (apply Run.lq rfl rfl rfl rfl; (focus (intro w K hK; go_simp; exact hK))) | (refine Run.ln rfl rfl rfl rfl rfl (by kernel_rfl) ?_) | (refine Run.not rfl rfl ?_)); try simp only [Act.put, Act.eval, nrmL, Nat.reduceAdd]) | (refine Run.rg ?_; simp only [nrmL, rngL, Nat.reduceAdd]) | refine Run.cT rfl ?_ | refine Run.cF rfl ?_ | refine Run.rt ?_ | refine Run.nd ?_)
    exact H Z n w _ s col l A m ac st a ds inp Y hf.step (Nat.le_succ _) (Nat.le_succ _) ⟨rfl, rfl, rfl, rfl, rfl, rfl, rfl, rfl, rfl, rfl⟩
end
end Go.Proofs.Ytfpkachoneaaeaa
