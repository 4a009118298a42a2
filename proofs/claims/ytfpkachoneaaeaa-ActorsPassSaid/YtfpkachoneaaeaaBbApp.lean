/-
  append, and slices.Clone, in company.
-/
import Derived.Test.YtfpkachoneaaeaaBbFst
import Derived.Test.YtfpkachoneaaeaaBbMem
set_option linter.unusedSimpArgs false
set_option linter.unusedVariables false
namespace Go.Proofs.Ytfpkachoneaaeaa
open Go Go.Conc Go.RowKit
section
variable {P : Program} {Post : Value → World → Prop} {Z : Scene} {n h k : Nat} {w : World} {b : Frame} {x : Act} {kk : List Item} {cs : List Frame} {ops : Array Oper} {i : Nat} {rest : List Nat} {o : Oper} {okf : FuncId → Prop}
theorem WOk.fresh (hok : WOk P Z w) {k : Nat} (hk : w.heap.size ≤ k) : ¬ Z.Hd k := fun q => by
  obtain ⟨o, _, h⟩ := hok.hid k q
  have := (Array.getElem?_eq_some_iff.1 h).1
  omega
theorem WOk.chanlt (hok : WOk P Z w) {k : Nat} (hk : Z.C k) : k < w.heap.size := by
  obtain ⟨o, _, h⟩ := hok.chan k hk
  exact (Array.getElem?_eq_some_iff.1 h).1
theorem run_op_append {u : World} {X Y : Operand} {t : TypeId} {v1 v2 : Value} (hop : o.op = .call { callee := .builtin .append, args := #[X, Y], argTypes := #[t, t] }) (hx : x.eval X = v1) (hy : x.eval Y = v2) {y : Value} {u' : World}
    (hr : (Builtin.append_ #[t, t] o.type #[v1, v2]).run P u = .ok y u') : (execOp x.eval o).run P u = .ok (.value y) u' := by
  unfold execOp
  simp [hop, resolve, hx, hy, invoke, builtin, hr]
/-- The builtin append. -/
theorem Run.append {t e : TypeId} {z : Value} {sz bytes : Nat} {X Y : Operand} {A B : Option Addr} {m c d l : Nat} {xs ys : List Value} {F GF : Nat → Prop} (E : Env P (okP P) okf) (ho : ops[i]? = some o) (hw : Region.wanted o (yielded ops x.tmps) = true) (hk : b.kind ≠ .early)
    (hop : o.op = .call { callee := .builtin .append, args := #[X, Y], argTypes := #[t, t] }) (hx : x.eval X = .slice A m c) (hy : x.eval Y = .slice B l d)
    (ht : P.underlying t = some (.slice e)) (hinfo : (P.info? e).map (fun i => (i.zero, i.size, i.bytes)) = some (some z, sz, bytes)) (hzs : z.cells.size = sz) (hsz : 0 < sz)
    (hA : SegV w F e sz A m c xs) (hB : Rd w GF B ys) (hyl : ys.length = l * sz) (h1 : ∀ u ∈ ys, u.oneCell' = true) (hl : m + l ≤ maxLen) (hby : (m + l) * bytes ≤ 140737488355328) (hF : F w.heap.size)
    (hvF : ∀ k, k < w.heap.size → F k → ¬ Z.Hd k ∧ ¬ Z.C k) (hvG : ∀ k, k < w.heap.size → GF k → ¬ Z.Hd k)
    (H : ∀ A' c' w', SegV w' F e sz A' (m + l) c' (xs ++ ys) → Kept F w w' → Run P Post Z n h k (G (b.at (x.put o.dst (.slice A' (m + l) c')) (.inRegion ops rest :: kk)) cs) w') :
    Run P Post Z n h k (G (b.at x (.inRegion ops (i :: rest) :: kk)) cs) w := by
  refine Run.okG fun hok => ?_
  refine Run.lay (S := F) E ho hw hk (by unfold okOp; rw [hop]; rfl) (fun v f q => by rw [about_builtin hop] at q; cases q) (fun c hc hf => (hvF c (hok.chanlt hc) hf).2 hc) fun u hu hus => ?_
  have hA' := hA.keep hu fun k hk hf q => (hvF k hk hf).1 q
  have hB' := hB.keep hu fun k hk hf q => hvG k hk hf q
  obtain ⟨A', c', v', hr, hs, hkp⟩ := hA'.append o.type ht hinfo hzs hsz hB' hyl h1 hl hby (by rw [hus]; exact hF) d
  refine ⟨_, v', run_op_append hop hx hy hr, hkp, fun w' k1 k2 k3 => H A' c' w' (hs.keep k2 fun k hk hf q => ?_) k1⟩
  by_cases hlt : k < w.heap.size
  · exact (hvF k hlt hf).1 q
  · exact hok.fresh (by omega) q
end
theorem infoU8 : (Try.prog.info? 5).map (fun i => (i.zero, i.size, i.bytes)) = some (some (.int .u8 0), 1, 1) := by kernel_rfl
section
variable {Post : Value → World → Prop} {Z : Scene} {n h : Nat} {w : World} {c : Frame} {cs : List Frame}
set_option maxRecDepth 50000 in
set_option maxHeartbeats 4000000 in
theorem clone_run {A : Option Addr} {d : Nat} {bs : List UInt8} {GF : Nat → Prop} (hr : RB w GF A bs) (hG : ∀ k, k < w.heap.size → GF k → ¬ Z.Hd k) (hl : bs.length ≤ 140737488355328)
    (H : ∀ A' c' w', SegV w' (fun k => w.heap.size ≤ k) 5 1 A' bs.length c' (bvs bs) → Kept noneS w w' → Run Try.prog Post Z n h 0 (G (c.finish (.slice A' bs.length c')) cs) w') :
    Run Try.prog Post Z n h 0 (G ((base 31).at { tmps := #[.slice A bs.length d] ++ Array.replicate (Try.f31.ntmps - 1) undef, defers := [] } [.code (Try.f31.body.getD .skip)]) (c :: cs)) w := by
  refine Run.okG fun hok => ?_
  simp only [Try.ntmps31]
  try simp only [Act.put, Act.eval, nrmL, Nat.reduceAdd, Nat.reduceSub]
  simp only [Try.f31, Option.getD_some]
  rcases A with _ | ad
  · have h0 : bs = [] := by
      rcases hr with q | ⟨g, o, q, _⟩
      · simpa [bvs] using q
      · cases q
    subst h0
    repeat (first | refine Run.auto rfl ?_ | ((first | (apply Run.lq rfl rfl rfl rfl; (focus (intro w K hK; go_simp; exact hK))) | (refine Run.ln rfl rfl rfl rfl rfl (by kernel_rfl) ?_) | (refine Run.not rfl rfl ?_)); try simp only [Act.put, Act.eval, nrmL, Nat.reduceAdd]) | (refine Run.rg ?_; simp only [nrmL, rngL, Nat.reduceAdd]) | refine Run.cT rfl ?_ | refine Run.cF rfl ?_ | refine Run.rt ?_ | refine Run.nd ?_)
    refine Run.leave1 rfl rfl Try.func31 (by rfl) ?_
    try rw [Frame.finish_at]
    try simp only [Act.put, Act.eval, nrmL, Nat.reduceAdd]
    exact H none 0 w (SegV.nil _ _ _ _) (Kept.refl _ _)
  · skip
    repeat (first | refine Run.auto rfl ?_ | ((first | (apply Run.lq rfl rfl rfl rfl; (focus (intro w K hK; go_simp; exact hK))) | (refine Run.ln rfl rfl rfl rfl rfl (by kernel_rfl) ?_) | (refine Run.not rfl rfl ?_)); try simp only [Act.put, Act.eval, nrmL, Nat.reduceAdd]) | (refine Run.rg ?_; simp only [nrmL, rngL, Nat.reduceAdd]) | refine Run.cT rfl ?_ | refine Run.cF rfl ?_ | refine Run.rt ?_ | refine Run.nd ?_)
    refine Run.made theEnv rfl rfl (by decide) rfl (fun _ _ q => by cases q) (.slice (some ⟨w.heap.size, 0, none⟩) 0 0) (.cells #[] 5) (fun u _ hus => by go_simp) (hok.fresh (Nat.le_refl _)) ?_
    try simp only [Act.put, Act.eval, nrmL, Nat.reduceAdd]
    repeat (first | refine Run.auto rfl ?_ | ((first | (apply Run.lq rfl rfl rfl rfl; (focus (intro w K hK; go_simp; exact hK))) | (refine Run.ln rfl rfl rfl rfl rfl (by kernel_rfl) ?_) | (refine Run.not rfl rfl ?_)); try simp only [Act.put, Act.eval, nrmL, Nat.reduceAdd]) | (refine Run.rg ?_; simp only [nrmL, rngL, Nat.reduceAdd]) | refine Run.cT rfl ?_ | refine Run.cF rfl ?_ | refine Run.rt ?_ | refine Run.nd ?_)
    refine Run.append (F := fun k => w.heap.size ≤ k) (GF := GF) (xs := []) (ys := bvs bs) (m := 0) (l := bs.length) theEnv rfl rfl (by decide) rfl rfl rfl Try.underlying27 infoU8 rfl (by decide) ⟨by simp, .inl ⟨rfl, rfl⟩⟩ (Rd.alloc hr _) (by simp [bvs_length]) (bvs_one bs) (by simp [maxLen]; omega) (by omega) ?_ ?_ ?_ ?_
    · simp
    · intro k hk hf
      exact ⟨hok.fresh hf, fun q => by have := hok.chanlt q; omega⟩
    · intro k hk hf
      by_cases q : k < w.heap.size
      · exact hG k q hf
      · exact hok.fresh (by omega)
    · intro A' c' w' hs hkp
      rw [Nat.zero_add, List.nil_append] at *
      try simp only [Act.put, Act.eval, nrmL, Nat.reduceAdd]
      repeat (first | refine Run.auto rfl ?_ | ((first | (apply Run.lq rfl rfl rfl rfl; (focus (intro w K hK; go_simp; exact hK))) | (refine Run.ln rfl rfl rfl rfl rfl (by kernel_rfl) ?_) | (refine Run.not rfl rfl ?_)); try simp only [Act.put, Act.eval, nrmL, Nat.reduceAdd]) | (refine Run.rg ?_; simp only [nrmL, rngL, Nat.reduceAdd]) | refine Run.cT rfl ?_ | refine Run.cF rfl ?_ | refine Run.rt ?_ | refine Run.nd ?_)
      refine Run.leave1 rfl rfl Try.func31 (by rfl) ?_
      try rw [Frame.finish_at]
      try simp only [Act.put, Act.eval, nrmL, Nat.reduceAdd]
      refine H A' c' w' hs (((Kept.refl noneS w).alloc _).trans2 hkp fun k hk hf => ?_)
      omega
end
end Go.Proofs.Ytfpkachoneaaeaa
