/-
  The client's own: a list in a variable; the closures that add to it.
-/
import Derived.Test.YtfpkachoneaaeaaBbPo5
import Derived.Test.YtfpkachoneaaeaaBbRb
import Derived.Test.YtfpkachoneaaeaaMem
import Derived.Test.YtfpkachoneaaeaaProg
import Derived.OwnWalkIn
import Derived.TacticsInMore
import Derived.RegionIn
import Derived.LoopIn
import Derived.Test.YtfpkachoneaaeaaBbSp
import Derived.Test.YtfpkachoneaaeaaBbFst
import Derived.Sort.EveryDepth
set_option linter.unusedSimpArgs false
set_option linter.unusedVariables false
namespace Go.Proofs.Ytfpkachoneaaeaa
open Go Go.Conc Go.RowKit
/-- A variable of the client's, that holds a list of its own; M: the blocks that both may lie in. -/
structure LstV (w : World) (M : Nat → Prop) (D : Nat) (sl e : TypeId) (sz n : Nat) (xs : List Value) : Prop where
  mem : M D
  ex : ∃ A c, Blk w D sl #[.slice A n c] ∧ SegV w (fun k => M k ∧ k ≠ D) e sz A n c xs
section
variable {w w' : World} {M M' : Nat → Prop} {D : Nat} {sl e : TypeId} {sz n : Nat} {xs : List Value} {F : Nat → Prop}
theorem LstV.keep (L : LstV w M D sl e sz n xs) (hk : Kept F w w') (hF : ∀ k, k < w.heap.size → M k → F k → False) : LstV w' M D sl e sz n xs := by
  obtain ⟨A, c, hB, hS⟩ := L.ex
  exact ⟨L.mem, A, c, hB.keep hk fun q => hF D hB.lt L.mem q, hS.keep hk fun k h1 h2 h3 => hF k h1 h2.1 h3⟩
theorem LstV.mono (L : LstV w M D sl e sz n xs) (h : ∀ k, k < w.heap.size → M k → M' k) : LstV w M' D sl e sz n xs := by
  obtain ⟨A, c, hB, hS⟩ := L.ex
  exact ⟨h D hB.lt L.mem, A, c, hB, hS.mono fun k h1 h2 => ⟨h k h1 h2.1, h2.2⟩⟩
theorem LstV.lt (L : LstV w M D sl e sz n xs) : D < w.heap.size := by
  obtain ⟨A, c, hB, hS⟩ := L.ex
  exact hB.lt
end
/-- What lay there at the beginning lies there still. -/
structure Old (w0 : World) (own : Nat → Nat × Nat) (w : World) : Prop where
  own : ∀ k, k < w0.heap.size → own k = (0, 0)
  kept : Kept noneS w0 w
section
variable {w0 w w' : World} {own own' : Nat → Nat × Nat} {F : Nat → Prop}
theorem Old.step (h : Old w0 own w) (hk : Kept F w w') (hF : ∀ k, F k → own k ≠ (0, 0) ∨ w0.heap.size ≤ k) (ho : ∀ k, k < w.heap.size → own k = (0, 0) → own' k = (0, 0)) : Old w0 own' w' :=
  ⟨fun k hk2 => ho k (Nat.lt_of_lt_of_le hk2 h.kept.size) (h.own k hk2), h.kept.trans2 hk fun k hk2 hf => by
    rcases hF k hf with q | q
    · exact q (h.own k hk2)
    · omega⟩
end
theorem rd_fresh (w : World) (xs : List Value) (t : TypeId) (fr : Nat × Nat) : Rd (w.alloc (.cells xs.toArray t fr)) (fun k => k = w.heap.size) (some ⟨w.heap.size, 0, none⟩) xs :=
  .inr ⟨_, 0, rfl, rfl, fun j u hj => by
    have hb := heap_alloc_new w (.cells xs.toArray t fr)
    unfold World.cell?
    dsimp only
    rw [hb, Nat.zero_add]
    simpa using hj⟩
theorem infoDid : (Try.prog.info? 29).map (fun i => (i.zero, i.size, i.bytes)) = some (some (.agg #[.int .i64 0, .string .empty]), 2, 24) := by kernel_rfl
section
variable {w w1 w2 : World} {M : Nat → Prop} {D m m' : Nat} {sl e : TypeId} {sz : Nat} {xs ys : List Value} {A A' : Option Addr} {c c' : Nat}
/-- The list has grown, the variable holds it. -/
theorem LstV.push (L : LstV w M D sl e sz m xs) (hB : Blk w1 D sl #[.slice A m c]) (hk : Kept (fun k => M k ∧ k ≠ D) w1 w2) (hS : SegV w2 (fun k => M k ∧ k ≠ D) e sz A' m' c' ys) :
    LstV (w2.setCell ⟨D, 0, none⟩ (.slice A' m' c')) M D sl e sz m' ys := by
  have hB2 := hB.keep hk fun q => q.2 rfl
  exact ⟨L.mem, A', c', hB2.set_ 0 _, hS.keep (kept_set w2 ⟨D, 0, none⟩ _) fun k _ q r => q.2 r⟩
end
/-- What the closure does: it adds what it was given to the list. -/
def DidSpec (cf : FuncId) (nt : Nat) (body : Code) (sl e : TypeId) (sz : Nat) (rec : Int → List UInt8 → List Value) : Prop :=
  ∀ (Z : Scene) (n : Nat) (hd : Option (Nat × Chair)) (w : World) (s : Sy) (lk : Int) (Post : Value → World → Prop) (h : Nat) (c : Frame) (cs : List Frame) (D m : Nat) (xs : List Value) (M : Nat → Prop) (id : Int) (IA : Option Addr) (ic : Nat) (bs : List UInt8) (GF : Nat → Prop),
    Rep Z n hd w s lk → LstV w M D sl e sz m xs → m < 2000000000 → (∀ k, k < w.heap.size → M k → s.own k = (0, 0) ∧ ¬ Z.Hd k ∧ ¬ Z.C k) → (∀ k, w.heap.size ≤ k → M k) →
    SegV w GF 5 1 IA bs.length ic (bvs bs) → bs.length ≤ 140737488355328 → (∀ k, k < w.heap.size → GF k → ¬ M k ∧ s.own k = (0, 0) ∧ ¬ Z.Hd k ∧ ¬ Z.C k) →
    (∀ w', Rep Z n hd w' s lk → LstV w' M D sl e sz (m + 1) (xs ++ rec id bs) → Kept (fun k => M k ∨ GF k) w w' → Run Try.prog Post Z n h 0 (G (c.finish (.tuple #[])) cs) w') →
    Run Try.prog Post Z n h 0 (G ((base cf).at { tmps := #[.int .i64 id, .slice IA bs.length ic, .pointer (some ⟨D, 0, none⟩)] ++ Array.replicate (nt - 3) undef, defers := [] } [.code body]) (c :: cs)) w
set_option maxRecDepth 50000 in
set_option maxHeartbeats 2000000 in
theorem sp1_spec : DidSpec 16 Try.f16.ntmps (Try.f16.body.getD .skip) 24 29 2 (fun id bs => [.int .i64 id, .string ⟨bs.toArray⟩]) := by
  intro Z n hd w s lk Post h c cs D m xs M id IA ic bs GF R L hm hM hfr hI hbl hG H
  refine Run.okG fun hok => ?_
  have hr : RB w GF IA bs := hI.rd
  obtain ⟨A, ac, hB, hS⟩ := L.ex
  have hMD := hM D L.lt L.mem
  have hfree := Scene.free (Z := Z) (a := ⟨D, 0, none⟩) hMD.2.1
  have nC := hok.cells hB
  have f0 : ¬ Z.Hd w.heap.size := hok.fresh (Nat.le_refl _)
  simp only [Try.ntmps16]
  try simp only [Act.put, Act.eval, nrmL, Nat.reduceAdd, Nat.reduceSub]
  simp only [Try.f16, Option.getD_some]
  repeat (first | refine Run.auto rfl ?_ | ((first | (apply Run.lq rfl rfl rfl rfl; (focus (intro w K hK; go_simp; exact hK))) | (refine Run.ln rfl rfl rfl rfl rfl (by kernel_rfl) ?_) | (refine Run.not rfl rfl ?_)); try simp only [Act.put, Act.eval, nrmL, Nat.reduceAdd]) | (refine Run.rg ?_; simp only [nrmL, rngL, Nat.reduceAdd]) | refine Run.cT rfl ?_ | refine Run.cF rfl ?_ | refine Run.rt ?_ | refine Run.nd ?_)
  refine Run.ld (a := ⟨D, 0, none⟩) (v := .slice A m ac) rfl rfl (by decide) (hB.cell 0) (hfree.2) (fun w₁ hld => ⟨by go_simp, by simp [go_sem, hld]⟩) ?_
  try simp only [Act.put, Act.eval, nrmL, Nat.reduceAdd]
  repeat (first | refine Run.auto rfl ?_ | ((first | (apply Run.lq rfl rfl rfl rfl; (focus (intro w K hK; go_simp; exact hK))) | (refine Run.ln rfl rfl rfl rfl rfl (by kernel_rfl) ?_) | (refine Run.not rfl rfl ?_)); try simp only [Act.put, Act.eval, nrmL, Nat.reduceAdd]) | (refine Run.rg ?_; simp only [nrmL, rngL, Nat.reduceAdd]) | refine Run.cT rfl ?_ | refine Run.cF rfl ?_ | refine Run.rt ?_ | refine Run.nd ?_)
  refine Run.look theEnv rfl rfl (by decide) rfl (fun _ _ q => by cases q) (.string ⟨bs.toArray⟩) (fun u hu _ => by have := run_string_of (P := Try.prog) (w := u) 27 9 5 Try.underlying27 Try.underlying5 Try.underlying9 GF IA ic bs (hr.keep hu fun k hk hf q => (hG k hk hf).2.2.1 q); go_simp) ?_
  try simp only [Act.put, Act.eval, nrmL, Nat.reduceAdd]
  repeat (first | refine Run.auto rfl ?_ | ((first | (apply Run.lq rfl rfl rfl rfl; (focus (intro w K hK; go_simp; exact hK))) | (refine Run.ln rfl rfl rfl rfl rfl (by kernel_rfl) ?_) | (refine Run.not rfl rfl ?_)); try simp only [Act.put, Act.eval, nrmL, Nat.reduceAdd]) | (refine Run.rg ?_; simp only [nrmL, rngL, Nat.reduceAdd]) | refine Run.cT rfl ?_ | refine Run.cF rfl ?_ | refine Run.rt ?_ | refine Run.nd ?_)
  refine Run.made theEnv rfl rfl (by decide) rfl (fun _ _ q => by cases q) (.slice (some ⟨w.heap.size, 0, none⟩) 1 1) (.cells #[.int .i64 id, .string ⟨bs.toArray⟩] 29) (fun u _ hus => by go_simp) f0 ?_
  try simp only [Act.put, Act.eval, nrmL, Nat.reduceAdd]
  have k1 : Kept noneS w (w.alloc (.cells #[.int .i64 id, .string ⟨bs.toArray⟩] 29)) := (Kept.refl _ _).alloc _
  have hB1 := hB.keep k1 fun q => q
  have hS1 := hS.keep k1 fun _ _ _ q => q
  have hR1 : Rd (w.alloc (.cells #[.int .i64 id, .string ⟨bs.toArray⟩] 29)) (fun k => k = w.heap.size) (some ⟨w.heap.size, 0, none⟩) [.int .i64 id, .string ⟨bs.toArray⟩] := rd_fresh w _ _ _
  have hsz1 : (w.alloc (.cells #[.int .i64 id, .string ⟨bs.toArray⟩] 29)).heap.size = w.heap.size + 1 := by simp
  have hcl : ∀ k, Z.C k → k < w.heap.size := fun k q => hok.chanlt q
  have hDlt := hB.lt
  have hvis : ∀ k, M k → ¬ Z.Hd k ∧ ¬ Z.C k := fun k q => by
    by_cases hk : k < w.heap.size
    · exact (hM k hk q).2
    · exact ⟨hok.fresh (by omega), fun r => hk (hcl k r)⟩
  generalize w.alloc (.cells #[.int .i64 id, .string ⟨bs.toArray⟩] 29) = w1 at *
  refine Run.append (F := fun k => M k ∧ k ≠ D) (GF := fun k => k = w.heap.size) (xs := xs) (ys := [.int .i64 id, .string ⟨bs.toArray⟩]) (m := m) (l := 1) theEnv rfl rfl (by decide) rfl rfl rfl Try.underlying24 infoDid rfl (by decide) hS1 hR1 rfl (by simp [Value.oneCell']) (by simp [maxLen]; omega) (by omega) ⟨hfr _ (by omega), by omega⟩ (fun k _ q => hvis k q.1) (fun k _ q => by rw [q]; exact f0) ?_
  intro A' c' w2 hS2 k2
  try simp only [Act.put, Act.eval, nrmL, Nat.reduceAdd]
  have hB2 := hB1.keep k2 fun q => q.2 rfl
  refine Run.stO (⟨D, 0, none⟩) (.slice A' (m + 1) c') rfl rfl (by decide) rfl rfl rfl rfl rfl (by kernel_rfl) rfl ((by rw [hB2.cell 0]; rfl)) (hB2.frozen 0) (hfree.2) (hfree.1) (nC) ?_
  try simp only [Act.put, Act.eval, nrmL, Nat.reduceAdd]
  have L3 := L.push hB1 k2 hS2
  have k3 := kept_set w2 ⟨D, 0, none⟩ (.slice A' (m + 1) c')
  generalize w2.setCell ⟨D, 0, none⟩ (.slice A' (m + 1) c') = w3 at *
  have k13 : Kept (fun k => M k) w w3 := ((k1.mono fun _ _ q => q.elim).trans (k2.mono fun k _ q => q.1)).trans (k3.mono fun k _ q => by rw [show k = D from q]; exact L.mem)
  repeat (first | refine Run.auto rfl ?_ | ((first | (apply Run.lq rfl rfl rfl rfl; (focus (intro w K hK; go_simp; exact hK))) | (refine Run.ln rfl rfl rfl rfl rfl (by kernel_rfl) ?_) | (refine Run.not rfl rfl ?_)); try simp only [Act.put, Act.eval, nrmL, Nat.reduceAdd]) | (refine Run.rg ?_; simp only [nrmL, rngL, Nat.reduceAdd]) | refine Run.cT rfl ?_ | refine Run.cF rfl ?_ | refine Run.rt ?_ | refine Run.nd ?_)
  refine Run.leave0 rfl rfl Try.func16 (by rfl) ?_
  exact H w3 (R.keep (k13.mono fun k hk q => (⟨q, hk⟩ : M k ∧ k < w.heap.size)) fun k q => (hM k q.2 q.1).1) L3 (k13.mono fun k _ q => .inl q)
set_option maxRecDepth 50000 in
set_option maxHeartbeats 2000000 in
theorem full1_spec : DidSpec 15 Try.f15.ntmps (Try.f15.body.getD .skip) 33 3 1 (fun _ bs => [.int .i64 (bs.length : Int)]) := by
  intro Z n hd w s lk Post h c cs D m xs M id IA ic bs GF R L hm hM hfr hI hbl hG H
  refine Run.okG fun hok => ?_
  obtain ⟨A, ac, hB, hS⟩ := L.ex
  have hMD := hM D L.lt L.mem
  have hfree := Scene.free (Z := Z) (a := ⟨D, 0, none⟩) hMD.2.1
  have nC := hok.cells hB
  have f0 : ¬ Z.Hd w.heap.size := hok.fresh (Nat.le_refl _)
  simp only [Try.ntmps15]
  try simp only [Act.put, Act.eval, nrmL, Nat.reduceAdd, Nat.reduceSub]
  simp only [Try.f15, Option.getD_some]
  repeat (first | refine Run.auto rfl ?_ | ((first | (apply Run.lq rfl rfl rfl rfl; (focus (intro w K hK; go_simp; exact hK))) | (refine Run.ln rfl rfl rfl rfl rfl (by kernel_rfl) ?_) | (refine Run.not rfl rfl ?_)); try simp only [Act.put, Act.eval, nrmL, Nat.reduceAdd]) | (refine Run.rg ?_; simp only [nrmL, rngL, Nat.reduceAdd]) | refine Run.cT rfl ?_ | refine Run.cF rfl ?_ | refine Run.rt ?_ | refine Run.nd ?_)
  refine Run.ld (a := ⟨D, 0, none⟩) (v := .slice A m ac) rfl rfl (by decide) (hB.cell 0) (hfree.2) (fun w₁ hld => ⟨by go_simp, by simp [go_sem, hld]⟩) ?_
  try simp only [Act.put, Act.eval, nrmL, Nat.reduceAdd]
  repeat (first | refine Run.auto rfl ?_ | ((first | (apply Run.lq rfl rfl rfl rfl; (focus (intro w K hK; go_simp; exact hK))) | (refine Run.ln rfl rfl rfl rfl rfl (by kernel_rfl) ?_) | (refine Run.not rfl rfl ?_)); try simp only [Act.put, Act.eval, nrmL, Nat.reduceAdd]) | (refine Run.rg ?_; simp only [nrmL, rngL, Nat.reduceAdd]) | refine Run.cT rfl ?_ | refine Run.cF rfl ?_ | refine Run.rt ?_ | refine Run.nd ?_)
  refine Run.made theEnv rfl rfl (by decide) rfl (fun _ _ q => by cases q) (.slice (some ⟨w.heap.size, 0, none⟩) 1 1) (.cells #[.int .i64 (bs.length : Int)] 3) (fun u _ hus => by go_simp) f0 ?_
  try simp only [Act.put, Act.eval, nrmL, Nat.reduceAdd]
  have k1 : Kept noneS w (w.alloc (.cells #[.int .i64 (bs.length : Int)] 3)) := (Kept.refl _ _).alloc _
  have hB1 := hB.keep k1 fun q => q
  have hS1 := hS.keep k1 fun _ _ _ q => q
  have hR1 : Rd (w.alloc (.cells #[.int .i64 (bs.length : Int)] 3)) (fun k => k = w.heap.size) (some ⟨w.heap.size, 0, none⟩) [.int .i64 (bs.length : Int)] := rd_fresh w _ _ _
  have hsz1 : (w.alloc (.cells #[.int .i64 (bs.length : Int)] 3)).heap.size = w.heap.size + 1 := by simp
  have hcl : ∀ k, Z.C k → k < w.heap.size := fun k q => hok.chanlt q
  have hDlt := hB.lt
  have hvis : ∀ k, M k → ¬ Z.Hd k ∧ ¬ Z.C k := fun k q => by
    by_cases hk : k < w.heap.size
    · exact (hM k hk q).2
    · exact ⟨hok.fresh (by omega), fun r => hk (hcl k r)⟩
  generalize w.alloc (.cells #[.int .i64 (bs.length : Int)] 3) = w1 at *
  refine Run.append (F := fun k => M k ∧ k ≠ D) (GF := fun k => k = w.heap.size) (xs := xs) (ys := [.int .i64 (bs.length : Int)]) (m := m) (l := 1) theEnv rfl rfl (by decide) rfl rfl rfl Try.underlying33 infoI rfl (by decide) hS1 hR1 rfl (by simp [Value.oneCell']) (by simp [maxLen]; omega) (by omega) ⟨hfr _ (by omega), by omega⟩ (fun k _ q => hvis k q.1) (fun k _ q => by rw [q]; exact f0) ?_
  intro A' c' w2 hS2 k2
  try simp only [Act.put, Act.eval, nrmL, Nat.reduceAdd]
  have hB2 := hB1.keep k2 fun q => q.2 rfl
  refine Run.stO (⟨D, 0, none⟩) (.slice A' (m + 1) c') rfl rfl (by decide) rfl rfl rfl rfl rfl (by kernel_rfl) rfl ((by rw [hB2.cell 0]; rfl)) (hB2.frozen 0) (hfree.2) (hfree.1) (nC) ?_
  try simp only [Act.put, Act.eval, nrmL, Nat.reduceAdd]
  have L3 := L.push hB1 k2 hS2
  have k3 := kept_set w2 ⟨D, 0, none⟩ (.slice A' (m + 1) c')
  generalize w2.setCell ⟨D, 0, none⟩ (.slice A' (m + 1) c') = w3 at *
  have k13 : Kept (fun k => M k) w w3 := ((k1.mono fun _ _ q => q.elim).trans (k2.mono fun k _ q => q.1)).trans (k3.mono fun k _ q => by rw [show k = D from q]; exact L.mem)
  repeat (first | refine Run.auto rfl ?_ | ((first | (apply Run.lq rfl rfl rfl rfl; (focus (intro w K hK; go_simp; exact hK))) | (refine Run.ln rfl rfl rfl rfl rfl (by kernel_rfl) ?_) | (refine Run.not rfl rfl ?_)); try simp only [Act.put, Act.eval, nrmL, Nat.reduceAdd]) | (refine Run.rg ?_; simp only [nrmL, rngL, Nat.reduceAdd]) | refine Run.cT rfl ?_ | refine Run.cF rfl ?_ | refine Run.rt ?_ | refine Run.nd ?_)
  refine Run.leave0 rfl rfl Try.func15 (by rfl) ?_
  exact H w3 (R.keep (k13.mono fun k hk q => (⟨q, hk⟩ : M k ∧ k < w.heap.size)) fun k q => (hM k q.2 q.1).1) L3 (k13.mono fun k _ q => .inl q)
end Go.Proofs.Ytfpkachoneaaeaa
namespace Go.Proofs.Ytfpkachoneaaeaa
open Go.RowKit
def ivs (l : List Int) : List Value := l.map (Value.int .i64)
theorem Rd.int {w : World} {F : Nat → Prop} {A : Option Addr} {l : List Int} (h : Rd w F A (ivs l)) {j : Nat} (hj : j < l.length) : ∃ g o, A = some ⟨g, o, none⟩ ∧ w.cell? ⟨g, o + j, none⟩ = some (.int .i64 l[j]) := by
  rcases h with h | ⟨g, o, hA, _, hc⟩
  · have := congrArg List.length h
    simp only [ivs, List.length_map, List.length_nil] at this
    omega
  · exact ⟨g, o, hA, hc j _ (by simp [ivs, List.getElem?_map, List.getElem?_eq_getElem hj])⟩
set_option maxHeartbeats 1600000 in
theorem sameInts_in (A B : Option Addr) (c d n k : Nat) (xs ys : List Int) (F G : Nat → Prop) (w : World) (hx : Rd w F A (ivs xs)) (hy : Rd w G B (ivs ys)) (hn : xs.length = n) (hk : ys.length = k) (hl : xs.length ≤ 140737488351232) (_hl2 : ys.length ≤ 140737488351232) :
    CallsIn (Fence.list [17] none) 1 Try.prog 17 #[.slice A n c, .slice B k d] w fun e w' => e = .returned (.bool (xs == ys)) ∧ Kept noneS w w' := by
  subst hn hk
  obtain ⟨r, HR⟩ : ∃ r, Hid ((xs == ys) = r) := ⟨_, Lib.hid rfl⟩
  rw [HR.out]
  have HX := Lib.hid hx
  have HY := Lib.hid hy
  clear hx hy
  by_cases hlen : xs.length = ys.length
  · have hli : ((xs.length : Int) != (ys.length : Int)) = false := by simp [hlen]
    have HL := Lib.hid hlen
    clear hlen
    gi_enter Try.func17, Try.ntmps17
    gi_wp2
    gi_loopw [4, 5] (fun v i wr => ∃ j : Nat, j ≤ xs.length ∧ i = .int .i64 j ∧ v = .bool false ∧ Hid ((xs.drop j == ys.drop j) = r) ∧ Hid (Kept noneS w wr)) (fun _ i _ => xs.length - (intOf i).toNat)
    case atStart => exact ⟨0, Nat.zero_le _, rfl, rfl, HR, Lib.hid (Kept.refl _ _)⟩
    case round =>
      obtain ⟨j, hj, rfl, rfl, HE, HK⟩ := hrel
      by_cases hlt : j < xs.length
      · have hlt2 : j < ys.length := by rw [← HL.out]; exact hlt
        obtain ⟨g, o, rfl, q0⟩ := (HX.out.keep HK.out fun _ _ _ q => q).int hlt
        obtain ⟨g', o', rfl, q1⟩ := (HY.out.keep HK.out fun _ _ _ q => q).int hlt2
        have hE := HE.out
        rw [List.drop_eq_getElem_cons hlt, List.drop_eq_getElem_cons hlt2, List.cons_beq_cons] at hE
        generalize xs[j] = f at *
        generalize ys[j] = h at *
        have HE2 := Lib.hid hE
        have hji : (j : Int) < (xs.length : Int) := by omega
        have hji2 : (j : Int) < (ys.length : Int) := by omega
        have hj0 : (0 : Int) ≤ (j : Int) := by omega
        clear hE HE
        by_cases hname : f = h
        · subst hname
          rw [beq_self_eq_true, Bool.true_and] at HE2
          gi_wp2_with fail
          gi_region
          gi_wp2
          go_roundw
          case rel => exact ⟨j + 1, by omega, by go_num, rfl, HE2, Lib.hid (HK.out.drewN _)⟩
          case measure => simp [intOf]; omega
        · have hs : (f != h) = true := by simpa using hname
          have hr : r = false := by rw [← HE2.out, beq_false_of_ne hname, Bool.false_and]
          subst hr
          gi_wp2_with fail
          gi_region
          gi_wp2
          go_ret
          exact ⟨rfl, HK.out.drewN _⟩
      · obtain rfl : j = xs.length := by omega
        have hE := HE.out
        rw [List.drop_length, HL.out, List.drop_length] at hE
        have hr : r = true := hE.symm
        clear hE HE
        subst hr
        gi_wp2
        go_ret
        exact ⟨rfl, HK.out⟩
  · have hli : ((xs.length : Int) != (ys.length : Int)) = true := by simp; omega
    have hr : r = false := by
      rw [← HR.out]
      exact beq_false_of_ne fun q => hlen (congrArg List.length q)
    subst hr
    gi_enter Try.func17, Try.ntmps17
    gi_wp2
    go_ret
    exact ⟨rfl, Kept.refl _ _⟩
end Go.Proofs.Ytfpkachoneaaeaa
namespace Go.Proofs.Ytfpkachoneaaeaa
open Go Go.Conc Go.RowKit
abbrev Ab := List (Int × List (List UInt8))
def takeA (l : Ab) (id : Int) : Ab := l.map fun p => if p.1 = id then (p.1, p.2.tail) else p
def lenA (l : Ab) (id : Int) : Nat := ((l.find? fun p => p.1 == id).map (·.2.length)).getD 0
def maxItem (l : Ab) : Prop := ∀ p ∈ l, ∀ b ∈ p.2, b.length ≤ 140737488355328
section
variable {Z Z' : Scene} {n : Nat} {hd : Option (Nat × Chair)} {w w' : World} {s s' : Sy} {lk : Int} {e : Ent} {i : It}
theorem Sy.len_abs (s : Sy) (id : Int) : s.len id = lenA s.abs id := by
  unfold lenA
  rw [Sy.abs_find]
  unfold Sy.len
  cases s.ent id <;> simp
theorem Sy.abs_len (s : Sy) : s.abs.length = s.ents.length := by simp [Sy.abs]
theorem Rep.abs_popped (R : Rep Z n hd w s lk) (he : e ∈ s.ents) : (s.popped e i).abs = takeA s.abs e.id := by
  show (s.setE e.pop s.own).abs = _
  rw [R.abs_setE (e' := e.pop) he rfl]
  unfold takeA
  refine List.map_congr_left fun p hp => ?_
  by_cases q : p.1 = e.id
  · rw [if_pos q, if_pos q]
    obtain ⟨x, hx, rfl⟩ := List.mem_map.1 hp
    obtain rfl := R.ids hx he q
    simp [Ent.pop, List.map_tail]
  · rw [if_neg q, if_neg q]
theorem Sy.ent_abs {id : Int} {i' : Int} {l : List (List UInt8)} (h : s.abs.find? (fun p => p.1 == id) = some (i', l)) : ∃ e, s.ent id = some e ∧ e.id = id ∧ e.items.map It.bs = l := by
  rw [Sy.abs_find] at h
  cases he : s.ent id with
  | none => rw [he] at h; cases h
  | some e =>
    rw [he] at h
    cases h
    exact ⟨e, rfl, (Sy.ent_some he).2, rfl⟩
end
/-- There lay something at the beginning that may not be well. -/
def JunkAt (w0 : World) (k : Nat) : Prop := ∃ o, w0.heap[k]? = some o ∧ Junk o
/-- What the client knows. -/
structure Cli (w0 : World) (Z : Scene) (n : Nat) (w : World) (s : Sy) : Prop where
  rep : Rep Z n none w s 0
  old : Old w0 s.own w
  vis : ∀ k, k < w0.heap.size → (Z.Hd k → JunkAt w0 k) ∧ ¬ Z.C k
/-- The client's own room. -/
def space (w0 : World) (Z : Scene) (s : Sy) (k : Nat) : Prop := w0.heap.size ≤ k ∧ s.own k = (0, 0) ∧ ¬ Z.Hd k ∧ ¬ Z.C k
/-- What a call leaves to the client. -/
structure Left2 (Z : Scene) (w : World) (s : Sy) (Z' : Scene) (s' : Sy) : Prop where
  S : s'.S = s.S
  fdo : s'.fdo = s.fdo
  own : ∀ k, k < w.heap.size → s.own k = (0, 0) → s'.own k = (0, 0)
  Hd : ∀ k, k < w.heap.size → Z'.Hd k → Z.Hd k
  C : ∀ k, k < w.heap.size → Z'.C k → Z.C k
section
variable {w0 w w' : World} {Z Z' : Scene} {n n' : Nat} {s s' : Sy} {F M : Nat → Prop} {D : Nat} {sl e : TypeId} {sz m : Nat} {xs : List Value}
theorem Left2.refl (Z : Scene) (w : World) (s : Sy) : Left2 Z w s Z s := ⟨rfl, rfl, fun _ _ h => h, fun _ _ h => h, fun _ _ h => h⟩
theorem Left2.space (h : Left2 Z w s Z' s') {k : Nat} (hk : k < w.heap.size) (q : space w0 Z s k) : space w0 Z' s' k :=
  ⟨q.1, h.own k hk q.2.1, fun r => q.2.2.1 (h.Hd k hk r), fun r => q.2.2.2 (h.C k hk r)⟩
theorem Cli.next (K : Cli w0 Z n w s) (R : Rep Z' n' none w' s' 0) (hk : Kept F w w') (hF : ∀ k, F k → s.own k ≠ (0, 0) ∨ w0.heap.size ≤ k) (h : Left2 Z w s Z' s') : Cli w0 Z' n' w' s' :=
  ⟨R, K.old.step hk hF h.own, fun k hk2 => by
    have hlt : k < w.heap.size := Nat.lt_of_lt_of_le hk2 K.old.kept.size
    exact ⟨fun q => (K.vis k hk2).1 (h.Hd k hlt q), fun q => (K.vis k hk2).2 (h.C k hlt q)⟩⟩
theorem Left2.lst (h : Left2 Z w s Z' s') (L : LstV w (Go.Proofs.Ytfpkachoneaaeaa.space w0 Z s) D sl e sz m xs) (hk : Kept (fun k => s.own k ≠ (0, 0)) w w') : LstV w' (Go.Proofs.Ytfpkachoneaaeaa.space w0 Z' s') D sl e sz m xs :=
  ((L.mono fun k hk q => (⟨q, h.space hk q⟩ : Go.Proofs.Ytfpkachoneaaeaa.space w0 Z s k ∧ Go.Proofs.Ytfpkachoneaaeaa.space w0 Z' s' k)).keep hk fun k _ q r => r q.1.2.1).mono fun k _ q => q.2
/-- The client's own doing, where it makes blocks only. -/
theorem Cli.more (K : Cli w0 Z n w s) (hk : Kept noneS w w') : Cli w0 Z n w' s :=
  K.next (K.rep.keep hk fun _ q => q.elim) hk (fun _ q => q.elim) (Left2.refl _ _ _)
end
section
variable {w0 w : World} {Z : Scene} {n : Nat} {s : Sy} {Post : Value → World → Prop} {c : Frame} {cs : List Frame} {M : Nat → Prop} {D : Nat} {sl el : TypeId} {sz m : Nat} {xs : List Value}
theorem Ext.went {Z' : Scene} {n' : Nat} {w' : World} {s' : Sy} (h : Ext Z n w s Z' n' w' s') : Left2 Z w s Z' s' := ⟨h.S, h.fdo, h.own, fun k hk q => (h.Hd k hk).1 q, fun k hk q => (h.C k hk).1 q⟩
theorem cli_post (K : Cli w0 Z n w s) (id : Int) {IA : Option Addr} {ic : Nat} {bs : List UInt8} {GF : Nat → Prop} (hr : RB w GF IA bs) (hG : ∀ k, k < w.heap.size → GF k → ¬ Z.Hd k) (hbl : bs.length ≤ 140737488355328) (hv : s.abs.length < 2000000000)
    (H : ∀ Z' n' s' w' ok, Cli w0 Z' n' w' s' → (s'.abs, ok) = postA s id bs → s'.stopped = s.stopped → Left2 Z w s Z' s' → n' ≤ n + 1 → Kept (fun k => s.own k ≠ (0, 0)) w w' → Run Try.prog Post Z' n' 0 0 (G (c.finish (.bool ok)) cs) w') :
    Run Try.prog Post Z n 0 0 (G ((base 13).at { tmps := #[.pointer (some ⟨s.S, 0, none⟩), .int .i64 id, .slice IA bs.length ic] ++ Array.replicate (Try.f13.ntmps - 3) undef, defers := [] } [.code (Try.f13.body.getD .skip)]) (c :: cs)) w :=
  post_run K.rep id hr hG hbl (by rw [← s.abs_len]; exact hv) fun Z' n' s' w' ok R ha hx =>
    H Z' n' s' w' ok (K.next R hx.kept (fun k q => .inl q) hx.went) ha hx.stopped hx.went hx.n2 hx.kept
set_option maxHeartbeats 1000000 in
theorem run_did {cf : FuncId} {fn : Func} {body : Code} {rec : Int → List UInt8 → List Value} (hD : DidSpec cf fn.ntmps body sl el sz rec) (hf : Try.prog.funcs[cf]? = some fn) (hname : (fn.name == "runtime.NumGoroutine") = false) (hb : fn.body = some body)
    (K : Cli w0 Z n w s) (L : LstV w M D sl el sz m xs) (hM : ∀ k, k < w.heap.size → M k → space w0 Z s k) (hMf : ∀ k, w.heap.size ≤ k → M k) (hm : m < 2000000000) (hdo : s.fdo = .func (.func cf) #[] #[.pointer (some ⟨D, 0, none⟩)]) (hmax : maxItem s.abs) (id : Int)
    (HN : lenA s.abs id = 0 → ∀ w', Cli w0 Z n w' s → Kept (fun k => s.own k ≠ (0, 0)) w w' → Run Try.prog Post Z n 0 0 (G (c.finish (.bool false)) cs) w')
    (HS : ∀ i' bs rest, s.abs.find? (fun p => p.1 == id) = some (i', bs :: rest) → ∀ Z' s' w', Cli w0 Z' n w' s' → s'.abs = takeA s.abs id → s'.stopped = s.stopped → Left2 Z w s Z' s' → LstV w' (fun k => M k ∧ space w0 Z' s' k) D sl el sz (m + 1) (xs ++ rec id bs) → Kept (fun k => s.own k ≠ (0, 0) ∨ M k) w w' → Run Try.prog Post Z' n 0 0 (G (c.finish (.bool true)) cs) w') :
    Run Try.prog Post Z n 0 0 (G ((base 14).at { tmps := #[.pointer (some ⟨s.S, 0, none⟩), .int .i64 id] ++ Array.replicate (Try.f14.ntmps - 2) undef, defers := [] } [.code (Try.f14.body.getD .skip)]) (c :: cs)) w := by
  rcases hl : s.abs.find? (fun p => p.1 == id) with _ | ⟨i', l⟩
  · have h0 : lenA s.abs id = 0 := by unfold lenA; rw [hl]; rfl
    refine run_none K.rep id (by rw [s.len_abs, h0]) fun w' R k => ?_
    have k' : Kept (fun k => s.own k ≠ (0, 0)) w w' := k.mono fun j _ hj q => by rw [show j = s.S from hj, K.rep.oS] at q; exact snd_ne q (by decide)
    exact HN h0 w' (K.next R k' (fun _ q => .inl q) (Left2.refl _ _ _)) k'
  · obtain ⟨e, he, hid, hil⟩ := Sy.ent_abs hl
    cases l with
    | nil =>
      have h0 : lenA s.abs id = 0 := by unfold lenA; rw [hl]; rfl
      refine run_none K.rep id (by rw [s.len_abs, h0]) fun w' R k => ?_
      have k' : Kept (fun k => s.own k ≠ (0, 0)) w w' := k.mono fun j _ hj q => by rw [show j = s.S from hj, K.rep.oS] at q; exact snd_ne q (by decide)
      exact HN h0 w' (K.next R k' (fun _ q => .inl q) (Left2.refl _ _ _)) k'
    | cons bs rest =>
      obtain ⟨i, ir, hi, hib, hir⟩ : ∃ i ir, e.items = i :: ir ∧ i.bs = bs ∧ ir.map It.bs = rest := by
        cases hq : e.items with
        | nil => rw [hq] at hil; cases hil
        | cons i ir =>
          rw [hq] at hil
          injection hil with a b
          exact ⟨i, ir, rfl, a, b⟩
      have hx := (Sy.ent_some he).1
      have hE := K.rep.ents e hx
      have hbl : i.bs.length ≤ 140737488355328 := by
        rw [hib]
        exact hmax _ (List.mem_of_find?_eq_some hl) _ (.head _)
      have hpo : ∀ k, s.own k = (0, 0) → (s.popped e i).own k = (0, 0) := fun k q => by
        show (if s.own k = _ then _ else s.own k) = _
        split
        · rfl
        · exact q
      have hpo2 : ∀ k, (s.popped e i).own k ≠ (0, 0) → s.own k ≠ (0, 0) := fun k q r => q (hpo k r)
      refine run_some (caps := #[.pointer (some ⟨D, 0, none⟩)]) K.rep id he hi hdo hf hname hb (fun Z2 n2 s2 w2 => n2 = n ∧ s2 = s.popped e i ∧ Z2.Hd = Z.Hd ∧ Z2.C = Z.C ∧ LstV w2 (fun k => M k ∧ space w0 Z s2 k) D sl el sz (m + 1) (xs ++ rec id bs) ∧ Kept (fun k => s.own k ≠ (0, 0) ∨ M k) w w2) ?_ ?_
      · intro Z1 w1 d c0 hHd hC hSh R1 k1 hS1 HB
        refine Run.okG fun hok1 => ?_
        have hsz := k1.size
        have L1 : LstV w1 (fun k => (M k ∧ k < w.heap.size) ∨ (w1.heap.size ≤ k ∧ ¬ Z.Hd k ∧ ¬ Z.C k)) D sl el sz m xs :=
          ((L.mono fun k hk q => (⟨q, hk, (hM k hk q).2.1⟩ : M k ∧ k < w.heap.size ∧ s.own k = (0, 0))).keep k1 fun k _ q r => r q.2.2).mono fun k _ q => .inl ⟨q.1, q.2.1⟩
        refine hD Z1 n (some (e.gi, d)) w1 (s.popped e i) 0 Post e.gi c0 [botW] D m xs _ e.id i.A i.c i.bs (fun k => s.own k = (e.gi, 5 + i.t)) R1 L1 hm ?_ ?_ hS1 hbl ?_ ?_
        · rintro k hk (⟨q1, q2⟩ | ⟨q1, _⟩)
          · have := hM k q2 q1
            rw [hHd, hC]
            exact ⟨hpo k this.2.1, this.2.2⟩
          · omega
        · intro k hk
          refine .inr ⟨hk, ?_, ?_⟩
          · rw [← hHd]; exact hok1.fresh hk
          · rw [← hC]; exact fun q => by have := hok1.chanlt q; omega
        · intro k hk q
          have hv := K.rep.vis k (by rw [q]; omega)
          rw [hHd, hC]
          refine ⟨?_, ?_, hv⟩
          · rintro (⟨q1, q2⟩ | ⟨q1, _⟩)
            · have := (hM k q2 q1).2.1
              rw [q] at this
              exact snd_ne this (by omega)
            · omega
          · show (if s.own k = _ then _ else s.own k) = _
            rw [if_pos q]
        · intro w2 R2 L2 k2
          refine HB Z1 n (s.popped e i) w2 R2 rfl rfl ⟨e.pop, Sy.setE_has (own' := s.own) hx rfl, rfl⟩ ⟨rfl, rfl, hHd, hC, ?_, ?_⟩
          · rw [hid, hib] at L2
            refine L2.mono fun k hk q => ?_
            rcases q with ⟨q1, q2⟩ | ⟨q1, q2⟩
            · have := hM k q2 q1
              exact ⟨q1, this.1, hpo k this.2.1, this.2.2⟩
            · exact ⟨hMf k (by omega), by have := K.old.kept.size; omega, R1.fresh k q1, q2⟩
          · refine (k1.mono fun k _ q => .inl q).trans2 k2 fun k hk q => ?_
            rcases q with (⟨q1, _⟩ | ⟨q1, _⟩) | q
            · exact .inr q1
            · omega
            · exact .inl fun r => by rw [q] at r; exact snd_ne r (by omega)
      · rintro Z2 n2 s2 w2 Z3 w3 ⟨rfl, rfl, hH2, hC2, L2, k2⟩ hH3 hC3 hSh3 R3 k3
        have hW : Left2 Z w s Z3 (s.popped e i) := ⟨rfl, rfl, fun k _ q => hpo k q, fun k _ q => by rw [hH3, hH2] at q; exact q, fun k _ q => by rw [hC3, hC2] at q; exact q⟩
        have k23 : Kept (fun k => s.own k ≠ (0, 0) ∨ M k) w w3 := k2.trans (k3.mono fun k _ q => .inl (hpo2 k q))
        refine HS i' bs rest hl Z3 (s.popped e i) w3 (K.next R3 (k23.mono fun k hk q => (⟨q, hk⟩ : (s.own k ≠ (0, 0) ∨ M k) ∧ k < w.heap.size)) (fun k q => ?_) hW) ?_ rfl hW ?_ k23
        · rcases q.1 with r | r
          · exact .inl r
          · exact .inr (hM k q.2 r).1
        · rw [K.rep.abs_popped hx, hid]
        · refine (L2.keep k3 fun k _ q r => r q.2.2.1).mono fun k _ q => ⟨q.1, q.2.1, q.2.2.1, ?_, ?_⟩
          · rw [hH3, hH2]; exact q.2.2.2.1
          · rw [hC3, hC2]; exact q.2.2.2.2
end
end Go.Proofs.Ytfpkachoneaaeaa
namespace Go.Proofs.Ytfpkachoneaaeaa
open Go Go.Conc Go.RowKit
def sortA (l : Ab) : List Int := (l.map (·.1)).mergeSort (fun x y => decide (x ≤ y))
def runA (l : Ab) : List Int := (sortA l).filter fun id => decide (0 < lenA l id)
def wfA (l : Ab) : Prop := ∀ p ∈ l, (Lit.int .i64 p.1).wf = true
theorem runIds_abs (s : Sy) : runIds s = runA s.abs := by
  unfold runIds runA sortIds sortA Sy.abs
  rw [List.map_map]
  refine List.filter_congr fun id _ => ?_
  rw [s.len_abs]
  rfl
theorem runA_len (l : Ab) : (runA l).length ≤ l.length := by
  refine Nat.le_trans (List.length_filter_le _ _) ?_
  simp [sortA]
theorem Rd.keepH {w u : World} {F S : Nat → Prop} {A : Option Addr} {xs : List Value} (h : Rd w F A xs) (hk : KeptH S w u) (hd : ∀ k, k < w.heap.size → F k → S k → False) : Rd u F A xs :=
  have h1 : Rd { u with tape := w.tape } F A xs := h.keep (S := S) ⟨hk.os, rfl, hk.output, hk.size, hk.block⟩ hd
  h1
section
variable {w0 w : World} {Z : Scene} {n : Nat} {s : Sy} {Post : Value → World → Prop} {c : Frame} {cs : List Frame}
theorem Cli.sys (K : Cli w0 Z n w s) {w' : World} (R : Rep Z n none w' s 0) (k : Kept (· = s.S) w w') : Cli w0 Z n w' s ∧ Kept (fun k => s.own k ≠ (0, 0)) w w' := by
  have k' : Kept (fun k => s.own k ≠ (0, 0)) w w' := k.mono fun j _ hj q => by rw [show j = s.S from hj, K.rep.oS] at q; exact snd_ne q (by decide)
  exact ⟨K.next R k' (fun _ q => .inl q) (Left2.refl _ _ _), k'⟩
theorem Cli.room (K : Cli w0 Z n w s) (hok : WOk Try.prog Z w) (k : Nat) (hk : w.heap.size ≤ k) : space w0 Z s k :=
  ⟨Nat.le_trans K.old.kept.size hk, K.rep.fresh k hk, hok.fresh hk, fun q => by have := hok.chanlt q; omega⟩
theorem cli_waiting (K : Cli w0 Z n w s) (id : Int) (H : ∀ w', Cli w0 Z n w' s → Kept (fun k => s.own k ≠ (0, 0)) w w' → Run Try.prog Post Z n 0 0 (G (c.finish (.int .i64 (lenA s.abs id))) cs) w') :
    Run Try.prog Post Z n 0 0 (G ((base 18).at { tmps := #[.pointer (some ⟨s.S, 0, none⟩), .int .i64 id] ++ Array.replicate (Try.f18.ntmps - 2) undef, defers := [] } [.code (Try.f18.body.getD .skip)]) (c :: cs)) w :=
  waiting_run K.rep id fun w' R k => by
    rw [s.len_abs]
    exact H w' (K.sys R k).1 (K.sys R k).2
theorem cli_runnable (K : Cli w0 Z n w s) (hwf : wfA s.abs) (hl : s.abs.length ≤ 2000000000) (H : ∀ A k w', Cli w0 Z n w' s → Kept (fun k => s.own k ≠ (0, 0)) w w' → SegV w' (fun k => w.heap.size ≤ k) 3 1 A (runA s.abs).length k (ivs (runA s.abs)) → Run Try.prog Post Z n 0 0 (G (c.finish (.slice A (runA s.abs).length k)) cs) w') :
    Run Try.prog Post Z n 0 0 (G ((base 11).at { tmps := #[.pointer (some ⟨s.S, 0, none⟩)] ++ Array.replicate (Try.f11.ntmps - 1) undef, defers := [] } [.code (Try.f11.body.getD .skip)]) (c :: cs)) w :=
  runnable_run K.rep (fun e he => hwf (e.id, e.items.map It.bs) (List.mem_map.2 ⟨e, he, rfl⟩)) (by rw [s.abs_len] at hl; omega) fun A k w' R hS hk => by
    rw [runIds_abs] at hS ⊢
    exact H A k w' (K.sys R hk).1 (K.sys R hk).2 hS
theorem cli_stop (K : Cli w0 Z n w s) (hn : n < 2147483647) (H : ∀ Z' w' s', Cli w0 Z' n w' s' → s'.abs = [] → s'.stopped = true → Left2 Z w s Z' s' → Kept (fun k => s.own k ≠ (0, 0)) w w' → (∀ i, Z'.Inb i = none) → Run Try.prog Post Z' n 0 0 (G (c.finish (.tuple #[])) cs) w') :
    Run Try.prog Post Z n 0 0 (G ((base 10).at { tmps := #[.pointer (some ⟨s.S, 0, none⟩)] ++ Array.replicate (Try.f10.ntmps - 1) undef, defers := [] } [.code (Try.f10.body.getD .skip)]) (c :: cs)) w :=
  stop_run K.rep hn fun Z' w' m R k hH hC hm => by
    have hL : Left2 Z w s Z' (s.halt m) := ⟨rfl, rfl, fun k hk q => by show (if k = m then _ else s.own k) = _; rw [if_neg (by omega)]; exact q, fun k _ q => by rw [hH] at q; exact q, fun k _ q => by rw [hC] at q; exact q⟩
    exact H Z' w' (s.halt m) (K.next R k (fun _ q => .inl q) hL) rfl rfl hL k fun i => by
      rw [R.inb]
      exact Sy.seats_none fun e he => (by cases he)
theorem cli_new {ft : Fn} {fr caps : Array Value} (hI : ∀ i, Z.Inb i = none) (hn : 0 < n) (h0 : Kept noneS w0 w) (hv : ∀ k, k < w0.heap.size → (Z.Hd k → JunkAt w0 k) ∧ ¬ Z.C k)
    (H : ∀ Z' w' s, Cli w0 Z' n w' s → s.abs = [] → s.stopped = false → s.fdo = .func ft fr caps → (∀ k, k < w.heap.size → s.own k = (0, 0)) → (∀ k, k < w.heap.size → (Z'.Hd k → Z.Hd k) ∧ (Z'.C k → Z.C k)) → Kept noneS w w' → Run Try.prog Post Z' n 0 0 (G (c.finish (.pointer (some ⟨s.S, 0, none⟩))) cs) w') :
    Run Try.prog Post Z n 0 0 (G ((base 7).at { tmps := #[.func ft fr caps] ++ Array.replicate (Try.f7.ntmps - 1) undef, defers := [] } [.code (Try.f7.body.getD .skip)]) (c :: cs)) w :=
  new_run hI hn fun Z' w' R k hsz hSh hZ => H Z' w' (newSy w.heap.size (.func ft fr caps)) ⟨R, ⟨fun k hk => newOwn_old (Nat.lt_of_lt_of_le hk h0.size), h0.trans (k.mono fun _ _ q => q.elim)⟩, fun k hk => ⟨fun q => (hv k hk).1 ((hZ k (Nat.lt_of_lt_of_le hk h0.size)).1.1 q), fun q => (hv k hk).2 ((hZ k (Nat.lt_of_lt_of_le hk h0.size)).2.1 q)⟩⟩
    rfl rfl rfl (fun k hk => newOwn_old hk) (fun k hk => ⟨(hZ k hk).1.1, (hZ k hk).2.1⟩) k
theorem same_run {h : Nat} {A B : Option Addr} {ca cb : Nat} {xs ys : List Int} {F GF : Nat → Prop} (hx : Rd w F A (ivs xs)) (hy : Rd w GF B (ivs ys)) (hF : ∀ k, k < w.heap.size → F k → ¬ Z.Hd k) (hG : ∀ k, k < w.heap.size → GF k → ¬ Z.Hd k) (hl : xs.length ≤ 140737488351232) (hl2 : ys.length ≤ 140737488351232)
    (H : ∀ w', Kept noneS w w' → Run Try.prog Post Z n h 0 (G (c.finish (.bool (xs == ys))) cs) w') :
    Run Try.prog Post Z n h 0 (G ((base 17).at { tmps := #[.slice A xs.length ca, .slice B ys.length cb] ++ Array.replicate (Try.f17.ntmps - 2) undef, defers := [] } [.code (Try.f17.body.getD .skip)]) (c :: cs)) w := by
  refine Run.callG (S := noneS) (nn := 1) Try.func17 rfl (tmpRes1 rfl) (fun _ _ q => q) (fun y _ => y = .bool (xs == ys)) (fun _ _ _ q => q) (fun u hu hus => ?_) ?_
  · refine CallsIn.mono ((sameInts_in A B ca cb xs.length ys.length xs ys F GF u (hx.keepH hu fun k hk hf q => hF k hk hf q) (hy.keepH hu fun k hk hf q => hG k hk hf q) rfl rfl hl hl2).wider (by decide)) ?_
    rintro e v ⟨rfl, hk⟩
    exact ⟨_, rfl, hk, rfl⟩
  · intro y v' w' hy k _ _
    subst hy
    exact H w' k
end
end Go.Proofs.Ytfpkachoneaaeaa
