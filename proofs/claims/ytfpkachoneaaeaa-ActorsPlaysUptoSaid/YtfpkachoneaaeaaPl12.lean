/-
  plays, piece by piece: the script.
-/
import Derived.Test.YtfpkachoneaaeaaPl10
import Derived.Test.YtfpkachoneaaeaaPl11
import Derived.Test.YtfpkachoneaaeaaBbLiftU
set_option linter.unusedSimpArgs false
set_option linter.unusedVariables false
namespace Go.Proofs.Ytfpkachoneaaeaa
open Go Go.Conc Go.RowKit
noncomputable def plR4 : Code := match plL1 with
  | .seq c _ => c
  | _ => .skip
noncomputable def plR38 : Code := match plL1 with
  | .seq _ (.seq _ (.seq _ c)) => c
  | _ => .skip
noncomputable def plR5 : Code := match plB1 with
  | .seq c _ => c
  | _ => .skip
noncomputable def plR6 : Code := match plB1 with
  | .seq _ (.seq (.seq c _) _) => c
  | _ => .skip
theorem plL1_eq : plL1 = .seq plR4 (.seq (.cond (.tmp 22) .skip (.exit 0)) (.seq (.block 1 (.seq plR5 (.seq (.seq plR6 (.block 2 plB2)) plChk))) plR38)) := rfl
theorem run_op_store {x : Act} {o : Oper} {t : TypeId} {X Y : Operand} {a : Addr} {v : Value} {P : Program} {u u' : World} (hop : o.op = .store t X Y) (hx : x.eval X = .pointer (some a)) (hy : x.eval Y = v) (h : (storeVar t a v).run P u = .ok () u') : (execOp x.eval o).run P u = .ok .skip u' := by
  unfold execOp
  simp [hop, hx, hy, Instr.storeAt, Instr.sureAddr, Result.andThen, h]
/-- An item of the script. -/
structure Ap where
  kind : Int
  actor : Int
  addr : Option Addr
  cap : Nat
  data : List UInt8
deriving Inhabited
def Ap.cells (o : Ap) : List Value := [.int .i64 o.kind, .int .i64 o.actor, .slice o.addr o.data.length o.cap]
theorem aps_len : ∀ ops : List Ap, (ops.flatMap Ap.cells).length = ops.length * 3
  | [] => rfl
  | d :: ds => by
    have := aps_len ds
    simp only [List.flatMap_cons, List.length_append, List.length_cons, Ap.cells, List.length_nil] at this ⊢
    omega
theorem aps_get : ∀ {ops : List Ap} {i : Nat} (h : i < ops.length) (k : Nat), k < 3 → (ops.flatMap Ap.cells)[i * 3 + k]? = ops[i].cells[k]?
  | d :: ds, 0, _, k, hk => by
    rw [List.flatMap_cons, Nat.zero_mul, Nat.zero_add, List.getElem?_append_left (by simpa [Ap.cells] using hk)]
    rfl
  | d :: ds, i + 1, h, k, hk => by
    have := aps_get (ops := ds) (i := i) (Nat.lt_of_succ_lt_succ h) k hk
    rw [List.flatMap_cons, List.getElem?_append_right (by simp [Ap.cells]; omega), show (i + 1) * 3 + k - d.cells.length = i * 3 + k by simp [Ap.cells]; omega]
    exact this
theorem Rd.ap {w : World} {F : Nat → Prop} {A : Option Addr} {ops : List Ap} (h : Rd w F A (ops.flatMap Ap.cells)) {i : Nat} (hi : i < ops.length) :
    ∃ g o, A = some ⟨g, o, none⟩ ∧ F g ∧ g < w.heap.size ∧ w.cell? ⟨g, o + i * 3, none⟩ = some (.int .i64 ops[i].kind) ∧ w.cell? ⟨g, o + i * 3 + 1, none⟩ = some (.int .i64 ops[i].actor) ∧ w.cell? ⟨g, o + i * 3 + 2, none⟩ = some (.slice ops[i].addr ops[i].data.length ops[i].cap) := by
  rcases h with h | ⟨g, o, hA, hF, hc⟩
  · have := congrArg List.length h
    rw [aps_len] at this
    simp at this
    omega
  · have h0 := hc (i * 3 + 0) _ (aps_get hi 0 (by decide))
    have h1 := hc (i * 3 + 1) _ (aps_get hi 1 (by decide))
    have h2 := hc (i * 3 + 2) _ (aps_get hi 2 (by decide))
    rw [Nat.add_zero] at h0
    rw [← Nat.add_assoc] at h1 h2
    have := lt_of_cell h0
    exact ⟨g, o, hA, hF, by simpa using this, h0, h1, h2⟩
theorem kind7 (k : Int) : ∃ q : Int, bits .and .i64 k 7 = q ∧ (q = 0 ∨ q = 1 ∨ q = 2 ∨ q = 3 ∨ q = 4 ∨ q = 5 ∨ q = 6 ∨ q = 7) := ⟨_, rfl, by rw [i64_and7]; omega⟩
section
variable {Post : Value → World → Prop} {stk : List Frame} {w0 : World} {S0 D p : Nat} {SA : Option Addr} {N sc j : Nat} {A : Option Addr} {m ac : Nat} {st : Bool} {a : Ab} {ds : List (Int × ByteArray)} {T : Nat} {kd id : Int} {IA : Option Addr} {ic : Nat} {bs : List UInt8} {Z : Scene} {n : Nat} {w : World} {s : Sy} {col : Nat → Nat × Int} {l : List Bx}
set_option maxRecDepth 50000 in
set_option maxHeartbeats 4000000 in
theorem pl_loop {c : Frame} {cs : List Frame} (hstk : stk = c :: cs) {ops : List Ap} {n0 : Nat} (hN : ops.length = N) (hN2 : N ≤ 1048576) (hn0 : n0 ≤ 1000000) (hsc : Rd w0 (fun k => k < w0.heap.size ∧ ¬ JunkAt w0 k) SA (ops.flatMap Ap.cells)) (hops : ∀ o ∈ ops, Rd w0 (fun k => k < w0.heap.size ∧ ¬ JunkAt w0 k) o.addr (bvs o.data) ∧ o.data.length ≤ 1048576 ∧ (Lit.int .i64 o.actor).wf = true)
    (H : ∀ Z' n' w' s' col' l' A' m' ac' st' a' ds' ex' inp', Ply w0 Z' n' w' S0 D p A' m' ac' st' a' ds' ex' inp' s' col' l' → n' ≤ n0 + N → Run Try.prog Post Z' n' 0 0 (G (c.finish (.bool true)) cs) w') :
    ∀ (jj j : Nat) (Z : Scene) (n : Nat) (w : World) (s : Sy) (col : Nat → Nat × Int) (l : List Bx) (A : Option Addr) (m ac : Nat) (st : Bool) (a : Ab) (ds : List (Int × ByteArray)) (ex : List (Nat × TypeId × Array Value)) (inp : Option Addr × Nat × Nat × List Value) (x : Act) (v10 : Value), jj + j = N → n ≤ n0 + j → m ≤ j → Fine a j → Ply w0 Z n w S0 D p A m ac st a ds ex inp s col l → Live x S0 D p SA N sc A m ac j v10 →
    Run Try.prog Post Z n 0 0 (G ((base 9).at x [.code plL1, .inLoop plL1, .inBlock 0, .code plRest]) stk) w := by
  intro jj
  induction jj with
  | zero =>
    intro j Z n w s col l A m ac st a ds ex inp x v10 hj hn hm hf Y hx
    obtain ⟨f, rfl⟩ := hx.open
    clear hx
    have hlt : decide (j < N) = false := decide_eq_false (by omega)
    have H' := H Z n w s col l A m ac st a ds ex inp Y (by omega)
    clear H hsc hops
    subst hstk
    have e := plL1_eq
    generalize plL1 = X at e ⊢
    have step : ∀ its w', Run Try.prog Post Z n 0 0 (G ((base 9).at ⟨#[.pointer (some ⟨S0, 0, none⟩), .pointer (some ⟨D, 0, none⟩), f 2, f 3, f 4, f 5, f 6, .pointer (some ⟨p, 0, none⟩), .slice A m ac, f 9, v10, f 11, f 12, f 13, f 14, f 15, f 16, f 17, f 18, .slice SA N sc, .int .i64 (N : Int), .int .i64 (j : Int), f 22, f 23, f 24, f 25, f 26, f 27, f 28, f 29, f 30, f 31, f 32, f 33, f 34, f 35, f 36, f 37, f 38, f 39, f 40, f 41, f 42, f 43, f 44, f 45, f 46, f 47, f 48, f 49, f 50, f 51, f 52, f 53, f 54, f 55, f 56, f 57, f 58, f 59, f 60, f 61, f 62, f 63, f 64, f 65, f 66, f 67, f 68, f 69, f 70, f 71, f 72, f 73, f 74, f 75, f 76, f 77, f 78, f 79, f 80, f 81, f 82, f 83, f 84, f 85, f 86, f 87, f 88, f 89, f 90, f 91, f 92, f 93, f 94, f 95, f 96, f 97, f 98, f 99, f 100, f 101, f 102, f 103, f 104, f 105, f 106, f 107, f 108, f 109, f 110, f 111, f 112, f 113, f 114, f 115, f 116, f 117, f 118, f 119, f 120, f 121, f 122, f 123, f 124, f 125, f 126, f 127, f 128, f 129, f 130, f 131, f 132, f 133, f 134, f 135], []⟩ (.code (.seq plR4 (.seq (.cond (.tmp 22) .skip (.exit 0)) (.seq (.block 1 (.seq plR5 (.seq (.seq plR6 (.block 2 plB2)) plChk))) plR38))) :: its)) (c :: cs)) w' → Run Try.prog Post Z n 0 0 (G ((base 9).at ⟨#[.pointer (some ⟨S0, 0, none⟩), .pointer (some ⟨D, 0, none⟩), f 2, f 3, f 4, f 5, f 6, .pointer (some ⟨p, 0, none⟩), .slice A m ac, f 9, v10, f 11, f 12, f 13, f 14, f 15, f 16, f 17, f 18, .slice SA N sc, .int .i64 (N : Int), .int .i64 (j : Int), f 22, f 23, f 24, f 25, f 26, f 27, f 28, f 29, f 30, f 31, f 32, f 33, f 34, f 35, f 36, f 37, f 38, f 39, f 40, f 41, f 42, f 43, f 44, f 45, f 46, f 47, f 48, f 49, f 50, f 51, f 52, f 53, f 54, f 55, f 56, f 57, f 58, f 59, f 60, f 61, f 62, f 63, f 64, f 65, f 66, f 67, f 68, f 69, f 70, f 71, f 72, f 73, f 74, f 75, f 76, f 77, f 78, f 79, f 80, f 81, f 82, f 83, f 84, f 85, f 86, f 87, f 88, f 89, f 90, f 91, f 92, f 93, f 94, f 95, f 96, f 97, f 98, f 99, f 100, f 101, f 102, f 103, f 104, f 105, f 106, f 107, f 108, f 109, f 110, f 111, f 112, f 113, f 114, f 115, f 116, f 117, f 118, f 119, f 120, f 121, f 122, f 123, f 124, f 125, f 126, f 127, f 128, f 129, f 130, f 131, f 132, f 133, f 134, f 135], []⟩ (.code X :: its)) (c :: cs)) w' := fun its w' h => by rw [e]; exact h
    refine step _ _ ?_
    clear step e
    generalize plR5 = c5
    generalize plR6 = c6
    generalize plB2 = c2
    generalize plChk = c30
    generalize plR38 = c38
    unfold plR4 plL1 plRest
    simp only [Try.f9, Option.getD_some]
    repeat (first | refine Run.auto rfl ?_ | ((first | (apply Run.lq rfl rfl rfl rfl; (focus (intro w K hK; go_simp; exact hK))) | (refine Run.ln rfl rfl rfl rfl rfl (by kernel_rfl) ?_) | (refine Run.not rfl rfl ?_)); try simp only [Act.put, Act.eval, nrmL, Nat.reduceAdd]) | (refine Run.rg ?_; simp only [nrmL, rngL, Nat.reduceAdd]) | refine Run.cT rfl ?_ | refine Run.cF rfl ?_ | refine Run.rt ?_ | refine Run.nd ?_)
    try simp only [hlt]
    repeat (first | refine Run.auto rfl ?_ | ((first | (apply Run.lq rfl rfl rfl rfl; (focus (intro w K hK; go_simp; exact hK))) | (refine Run.ln rfl rfl rfl rfl rfl (by kernel_rfl) ?_) | (refine Run.not rfl rfl ?_)); try simp only [Act.put, Act.eval, nrmL, Nat.reduceAdd]) | (refine Run.rg ?_; simp only [nrmL, rngL, Nat.reduceAdd]) | refine Run.cT rfl ?_ | refine Run.cF rfl ?_ | refine Run.rt ?_ | refine Run.nd ?_)
    refine Run.leave1 rfl rfl Try.func9 (by rfl) ?_
    try rw [Frame.finish_at]
    try simp only [Act.put, Act.eval, nrmL, Nat.reduceAdd]
    exact H'
  | succ jj ih =>
    intro j Z n w s col l A m ac st a ds ex inp x v10 hj hn hm hf Y hx
    obtain ⟨f, rfl⟩ := hx.open
    clear hx
    refine Run.okG fun hok => ?_
    have hlt : decide (j < N) = true := decide_eq_true (by omega)
    have hji : (j : Int) < (N : Int) := by omega
    have hj0 : (0 : Int) ≤ (j : Int) := by omega
    have hjo : j < ops.length := by omega
    have P0 := Y.P
    obtain ⟨g, o, rfl, hg, hgl, x0, x1, x2⟩ := (P0.oldrow hsc).ap hjo
    have hgv := (P0.oldvis hg).1
    obtain ⟨hit, hbl, hid⟩ := hops _ (List.getElem_mem hjo)
    generalize ops[j] = op at x0 x1 x2 hit hbl hid
    obtain ⟨kd, id, IA, ic, bs⟩ := op
    dsimp only at x0 x1 x2 hit hbl hid
    have cx0 : ∀ u, Kept Z.Hd w u → u.cell? ⟨g, o + j * 3, none⟩ = some (.int .i64 kd) := fun u hu => (hu.cell (p := ⟨g, o + j * 3, none⟩) hgl hgv).trans x0
    have cx1 : ∀ u, Kept Z.Hd w u → u.cell? ⟨g, o + j * 3 + 1, none⟩ = some (.int .i64 id) := fun u hu => (hu.cell (p := ⟨g, o + j * 3 + 1, none⟩) hgl hgv).trans x1
    have cx2 : ∀ u, Kept Z.Hd w u → u.cell? ⟨g, o + j * 3 + 2, none⟩ = some (.slice IA bs.length ic) := fun u hu => (hu.cell (p := ⟨g, o + j * 3 + 2, none⟩) hgl hgv).trans x2
    have f0 : ¬ Z.Hd w.heap.size := hok.fresh (Nat.le_refl _)
    have hcl : ∀ k, Z.C k → k < w.heap.size := fun k q => hok.chanlt q
    have hwt : IntKind.i64.wrap ((j : Int) + 1) = ((j + 1 : Nat) : Int) := by rw [IntKind.wrap_i64]; omega
    obtain ⟨q, hq, hq7⟩ := kind7 kd
    have hb2 := fun w1 (col1 : Nat → Nat × Int) inp1 T Y1 kk H1 => pl_b2 (Post := Post) (stk := stk) (w0 := w0) (S0 := S0) (D := D) (p := p) (A := A) (m := m) (ac := ac) (st := st) (a := a) (ds := ds) (SA := some ⟨g, o, none⟩) (N := N) (sc := sc) (j := j) (T := T) (kd := kd) (id := id) (IA := IA) (ic := ic) (bs := bs) (Z := Z) (n := n) (w := w1) (s := s) (col := col1) (l := l) (J := j) (inp := inp1) hq7 Y1 hit hbl hid hf (by omega) (by omega) (by omega) (kk := kk) H1
    have hch := fun {Z n w A m ac st a ds s col l inp x T} Y1 (L1 : Live x S0 D p (some ⟨g, o, none⟩) N sc A m ac j (.pointer (some ⟨T, 0, none⟩))) f1 m1 kk H1 => pl_chk (Post := Post) (stk := stk) (w0 := w0) (S0 := S0) (D := D) (p := p) (A := A) (m := m) (ac := ac) (st := st) (a := a) (ds := ds) (SA := some ⟨g, o, none⟩) (N := N) (sc := sc) (j := j) (T := T) (kd := kd) (id := id) (IA := IA) (ic := ic) (bs := bs) (Z := Z) (n := n) (w := w) (s := s) (col := col) (l := l) (J := j + 1) (inp := inp) (x := x) Y1 L1 f1 (by omega) m1 (kk := kk) H1
    have e := plL1_eq
    generalize plL1 = X at e ih ⊢
    have step : ∀ its w', Run Try.prog Post Z n 0 0 (G ((base 9).at ⟨#[.pointer (some ⟨S0, 0, none⟩), .pointer (some ⟨D, 0, none⟩), f 2, f 3, f 4, f 5, f 6, .pointer (some ⟨p, 0, none⟩), .slice A m ac, f 9, v10, f 11, f 12, f 13, f 14, f 15, f 16, f 17, f 18, .slice (some ⟨g, o, none⟩) N sc, .int .i64 (N : Int), .int .i64 (j : Int), f 22, f 23, f 24, f 25, f 26, f 27, f 28, f 29, f 30, f 31, f 32, f 33, f 34, f 35, f 36, f 37, f 38, f 39, f 40, f 41, f 42, f 43, f 44, f 45, f 46, f 47, f 48, f 49, f 50, f 51, f 52, f 53, f 54, f 55, f 56, f 57, f 58, f 59, f 60, f 61, f 62, f 63, f 64, f 65, f 66, f 67, f 68, f 69, f 70, f 71, f 72, f 73, f 74, f 75, f 76, f 77, f 78, f 79, f 80, f 81, f 82, f 83, f 84, f 85, f 86, f 87, f 88, f 89, f 90, f 91, f 92, f 93, f 94, f 95, f 96, f 97, f 98, f 99, f 100, f 101, f 102, f 103, f 104, f 105, f 106, f 107, f 108, f 109, f 110, f 111, f 112, f 113, f 114, f 115, f 116, f 117, f 118, f 119, f 120, f 121, f 122, f 123, f 124, f 125, f 126, f 127, f 128, f 129, f 130, f 131, f 132, f 133, f 134, f 135], []⟩ (.code (.seq plR4 (.seq (.cond (.tmp 22) .skip (.exit 0)) (.seq (.block 1 (.seq plR5 (.seq (.seq plR6 (.block 2 plB2)) plChk))) plR38))) :: its)) stk) w' → Run Try.prog Post Z n 0 0 (G ((base 9).at ⟨#[.pointer (some ⟨S0, 0, none⟩), .pointer (some ⟨D, 0, none⟩), f 2, f 3, f 4, f 5, f 6, .pointer (some ⟨p, 0, none⟩), .slice A m ac, f 9, v10, f 11, f 12, f 13, f 14, f 15, f 16, f 17, f 18, .slice (some ⟨g, o, none⟩) N sc, .int .i64 (N : Int), .int .i64 (j : Int), f 22, f 23, f 24, f 25, f 26, f 27, f 28, f 29, f 30, f 31, f 32, f 33, f 34, f 35, f 36, f 37, f 38, f 39, f 40, f 41, f 42, f 43, f 44, f 45, f 46, f 47, f 48, f 49, f 50, f 51, f 52, f 53, f 54, f 55, f 56, f 57, f 58, f 59, f 60, f 61, f 62, f 63, f 64, f 65, f 66, f 67, f 68, f 69, f 70, f 71, f 72, f 73, f 74, f 75, f 76, f 77, f 78, f 79, f 80, f 81, f 82, f 83, f 84, f 85, f 86, f 87, f 88, f 89, f 90, f 91, f 92, f 93, f 94, f 95, f 96, f 97, f 98, f 99, f 100, f 101, f 102, f 103, f 104, f 105, f 106, f 107, f 108, f 109, f 110, f 111, f 112, f 113, f 114, f 115, f 116, f 117, f 118, f 119, f 120, f 121, f 122, f 123, f 124, f 125, f 126, f 127, f 128, f 129, f 130, f 131, f 132, f 133, f 134, f 135], []⟩ (.code X :: its)) stk) w' := fun its w' h => by rw [e]; exact h
    refine step _ _ ?_
    clear step e
    generalize plB2 = c2 at hb2 ⊢
    generalize plChk = c30 at hch ⊢
    generalize plRest = c39 at ih ⊢
    unfold plR4 plR5 plR6 plR38 plB1 plL1
    simp only [Try.f9, Option.getD_some]
    repeat (first | refine Run.auto rfl ?_ | ((first | (apply Run.lq rfl rfl rfl rfl; (focus (intro w K hK; go_simp; exact hK))) | (refine Run.ln rfl rfl rfl rfl rfl (by kernel_rfl) ?_) | (refine Run.not rfl rfl ?_)); try simp only [Act.put, Act.eval, nrmL, Nat.reduceAdd]) | (refine Run.rg ?_; simp only [nrmL, rngL, Nat.reduceAdd]) | refine Run.cT rfl ?_ | refine Run.cF rfl ?_ | refine Run.rt ?_ | refine Run.nd ?_)
    try simp only [hlt]
    repeat (first | refine Run.auto rfl ?_ | ((first | (apply Run.lq rfl rfl rfl rfl; (focus (intro w K hK; go_simp; exact hK))) | (refine Run.ln rfl rfl rfl rfl rfl (by kernel_rfl) ?_) | (refine Run.not rfl rfl ?_)); try simp only [Act.put, Act.eval, nrmL, Nat.reduceAdd]) | (refine Run.rg ?_; simp only [nrmL, rngL, Nat.reduceAdd]) | refine Run.cT rfl ?_ | refine Run.cF rfl ?_ | refine Run.rt ?_ | refine Run.nd ?_)
    refine Run.look theEnv rfl rfl (by decide) rfl (fun _ _ q => by cases q) (.agg #[.int .i64 kd, .int .i64 id, .slice IA bs.length ic]) (fun u hu _ => by have h0 := cx0 u hu; have h1 := cx1 u hu; have h2 := cx2 u hu; clear ih H Y P0 hb2 hch; go_simp) ?_
    try simp only [Act.put, Act.eval, nrmL, Nat.reduceAdd]
    refine Run.made theEnv rfl rfl (by decide) rfl (fun _ _ q => by cases q) (.pointer (some ⟨w.heap.size, 0, none⟩)) (.cells #[.int .i64 0, .int .i64 0, .slice none 0 0] 64) (fun u _ hus => by clear ih H Y P0 hb2 hch; go_simp) f0 ?_
    try simp only [Act.put, Act.eval, nrmL, Nat.reduceAdd]
    have kA : Kept noneS w (w.alloc (.cells #[.int .i64 0, .int .i64 0, .slice none 0 0] 64)) := (Kept.refl _ _).alloc _
    have hBA : Blk (w.alloc (.cells #[.int .i64 0, .int .i64 0, .slice none 0 0] 64)) w.heap.size 64 #[.int .i64 0, .int .i64 0, .slice none 0 0] := heap_alloc_new w _
    generalize w.alloc (.cells #[.int .i64 0, .int .i64 0, .slice none 0 0] 64) = wA at *
    refine Run.layU (S := fun k => k = w.heap.size) theEnv rfl rfl (by decide) rfl (fun _ _ q => by cases q) (fun c hc q => by have := hcl c hc; omega) fun u hu hus => ⟨u.setRow w.heap.size #[.int .i64 kd, .int .i64 id, .slice IA bs.length ic], ?_, ?_, fun w2 k1 k2 hs2 => ?_⟩
    · have hBu : Blk u w.heap.size 64 #[.int .i64 0, .int .i64 0, .slice none 0 0] := hBA.keep hu f0
      have hst3 : (storeVar 64 ⟨w.heap.size, 0, none⟩ (.agg #[.int .i64 kd, .int .i64 id, .slice IA bs.length ic])).run Try.prog u = .ok () (u.setRow w.heap.size #[.int .i64 kd, .int .i64 id, .slice IA bs.length ic]) := run_storeVar_row u w.heap.size _ _ _ _ hBu (by kernel_rfl) rfl (by simp [Value.oneCell'])
      exact run_op_store rfl rfl rfl hst3
    · exact ⟨rfl, rfl, rfl, by simp, fun k _ hk => setRow_other u w.heap.size k _ hk⟩
    have kB : Kept noneS w w2 := kA.trans2 k1 fun k hk q => by have : k = w.heap.size := q; omega
    have hBB : Blk w2 w.heap.size 64 #[.int .i64 kd, .int .i64 id, .slice IA bs.length ic] := by
      have hBu : Blk u w.heap.size 64 #[.int .i64 0, .int .i64 0, .slice none 0 0] := hBA.keep hu f0
      have h1 : Blk (u.setRow w.heap.size #[.int .i64 kd, .int .i64 id, .slice IA bs.length ic]) w.heap.size 64 #[.int .i64 kd, .int .i64 id, .slice IA bs.length ic] := setRow_heap u w.heap.size _ _ _ _ hBu
      exact h1.keep k2 f0
    have PB := P0.own (S := noneS) (col' := fun k => if k < w.heap.size then col k else (0, 1)) (ex' := [(w.heap.size, 64, #[.int .i64 kd, .int .i64 id, .slice IA bs.length ic])]) (inp' := (none, 0, 0, [])) hok kB (fun _ _ q => q.elim) (fun k hk => if_pos hk) (fun y hy => by
      rcases List.mem_singleton.1 hy with rfl
      exact ⟨hBB, if_neg (Nat.lt_irrefl _)⟩) (SegV.nil _ _ _ _)
    have hb2' := fun kk => hb2 w2 _ (none, 0, 0, []) w.heap.size ⟨PB, Y.S, Y.st, Y.abs, Y.ag⟩ kk
    have fB := Scene.free (Z := Z) (a := ⟨w.heap.size, 0, none⟩) f0
    clear hb2 P0 PB Y kA kB hBA cx0 cx1 cx2 x0 x1 x2 k1 k2 hs2
    try simp only [Act.put, Act.eval, nrmL, Nat.reduceAdd]
    repeat (first | refine Run.auto rfl ?_ | ((first | (apply Run.lq rfl rfl rfl rfl; (focus (intro w K hK; go_simp; exact hK))) | (refine Run.ln rfl rfl rfl rfl rfl (by kernel_rfl) ?_) | (refine Run.not rfl rfl ?_)); try simp only [Act.put, Act.eval, nrmL, Nat.reduceAdd]) | (refine Run.rg ?_; simp only [nrmL, rngL, Nat.reduceAdd]) | refine Run.cT rfl ?_ | refine Run.cF rfl ?_ | refine Run.rt ?_ | refine Run.nd ?_)
    refine Run.ld (a := ⟨w.heap.size, 0, none⟩) (v := .int .i64 kd) rfl rfl (by decide) (hBB.cell 0) (fB.2) (fun w₁ hld => ⟨by go_simp, by simp [go_sem, hld]⟩) ?_
    try simp only [Act.put, Act.eval, nrmL, Nat.reduceAdd]
    repeat (first | refine Run.auto rfl ?_ | ((first | (apply Run.lq rfl rfl rfl rfl; (focus (intro w K hK; go_simp; exact hK))) | (refine Run.ln rfl rfl rfl rfl rfl (by kernel_rfl) ?_) | (refine Run.not rfl rfl ?_)); try simp only [Act.put, Act.eval, nrmL, Nat.reduceAdd]) | (refine Run.rg ?_; simp only [nrmL, rngL, Nat.reduceAdd]) | refine Run.cT rfl ?_ | refine Run.cF rfl ?_ | refine Run.rt ?_ | refine Run.nd ?_)
    try simp only [hq]
    repeat (first | refine Run.auto rfl ?_ | ((first | (apply Run.lq rfl rfl rfl rfl; (focus (intro w K hK; go_simp; exact hK))) | (refine Run.ln rfl rfl rfl rfl rfl (by kernel_rfl) ?_) | (refine Run.not rfl rfl ?_)); try simp only [Act.put, Act.eval, nrmL, Nat.reduceAdd]) | (refine Run.rg ?_; simp only [nrmL, rngL, Nat.reduceAdd]) | refine Run.cT rfl ?_ | refine Run.cF rfl ?_ | refine Run.rt ?_ | refine Run.nd ?_)
    refine hb2' _ (fun Z3 n3 w3 x3 s3 col3 l3 A3 m3 ac3 st3 a3 ds3 inp3 Y3 f3 hn3 hm3 L3 => ?_) _ _ _ _ _ _ _ _ _ _ _ _ _ _ _ _ _ _ _ _ _ _ _ _ _ _ _ _ _ _ _ _ _ _ _ _ _ _ _ _ _ _ _ _ _ _ _ _ _ _ _ _ _ _ _ _ _ _ _ _ _ _ _ _ _ _ _ _ _ _ _ _ _ _ _ _ _ _ _ _ _ _ _ _ _ _ _ _ _ _ _ _ _ _ _ _ _ _ _ _ _ _ _ _ _ _ _ _ _ _ _ _ _ _ _ _ _ _ _ _ _ _ _ _ _ _ _ 
    refine Run.auto rfl ?_
    refine hch Y3 L3 f3 (by omega) _ fun w4 x4 col4 Y4 L4 => ?_
    obtain ⟨f4, rfl⟩ := L4.open
    clear L4 L3 hb2' hch
    repeat (first | refine Run.auto rfl ?_ | ((first | (apply Run.lq rfl rfl rfl rfl; (focus (intro w K hK; go_simp; exact hK))) | (refine Run.ln rfl rfl rfl rfl rfl (by kernel_rfl) ?_) | (refine Run.not rfl rfl ?_)); try simp only [Act.put, Act.eval, nrmL, Nat.reduceAdd]) | (refine Run.rg ?_; simp only [nrmL, rngL, Nat.reduceAdd]) | refine Run.cT rfl ?_ | refine Run.cF rfl ?_ | refine Run.rt ?_ | refine Run.nd ?_)
    refine Run.ctl (fun _ => stepG_inLoop) rfl ?_
    exact ih (j + 1) Z3 n3 w4 s3 col4 l3 A3 m3 ac3 st3 a3 ds3 _ inp3 _ _ (by omega) (by omega) (by omega) f3 Y4 (⟨rfl, rfl, rfl, rfl, rfl, rfl, rfl, rfl, rfl, rfl⟩ : Live _ S0 D p (some ⟨g, o, none⟩) N sc A3 m3 ac3 (j + 1) _)
end
end Go.Proofs.Ytfpkachoneaaeaa
